/- Texts of my own, one behind the other: XV, XW, XX, XY, XT, XZ, YA, YB, YC, YE, YF, YG, YH, YJ, YK, XFloatP, XArithP, XNrPure, XShPure, CnUtfPure, CnTreePure, CnRegPure, CnHexaPure, CnPure, CnJpPure, CnRpPure. -/
import Derived.Test.YtokfjcnbmpabkaaGreatDoorT1
import Derived.Sort.Grow
import Derived.Laws.Externs
import Derived.Deep.LoopGhost
import Derived.ScopeJumps
import Derived.Below
import Derived.Lib.LaidTab
import Derived.Lib.ItoaNum
import Derived.Deep.Draws
import Derived.ChangeArms
import Derived.ChangeShapes
import Derived.DataReads
import Derived.Laws.FloatArith
import Derived.IntWalk
import Derived.Lib.SlTrimSet
import Derived.Lib.IndexAny
import Derived.Lib.TrailingZeros
import Derived.Lib.Bytealg
set_option linter.unusedVariables false
set_option linter.unusedSimpArgs false
namespace Go.Eng
open Go.RowKit
theorem fe.vU {t t':fe} {l n:List t.El} {m:List t'.El} (h:t.app l t' m=some n):∃e:t'=t,n=l++(e ▸ m):=by
 unfold fe.app at h
 split at h <;> cases h <;> exact ⟨rfl,rfl⟩
section
variable {C:Ctx} {S V:St} {a:Act} {w w':World} {R:Reach} {τ:Nat→Value} {o:Oper} {d:Nat}
def MW (P:Program) (R:Reach) (w:World) (p:Bool) (x0:Value) (st:fe) (n:List st.El) (r:World→Result Value):Prop :=
 ∃v w' R',r w = .ok v w'∧eP R' w' p v (.sl st n)∧dF R w R' w'∧(∀b o,R' b o→R b o∨Value.gp v=some b)∧w'.os=w.os∧w'.tape=w.tape∧w'.output=w.output∧w.heap.size≤w'.heap.size∧(∀b,Value.gp v≠some b→b<w.heap.size→w'.heap[b]?=w.heap[b]?) ∧
  (∀b,Value.gp v=some b→(w.heap.size≤b∨Value.gp x0=some b)∧b<w'.heap.size)∧∀b,Value.gp v=some b→Value.gp x0=some b→∃g cap m,x0 = .slice (some ⟨g,0,none⟩) m cap∧v = .slice (some ⟨g,0,none⟩) n.length cap
theorem Km {P:Program} {t u ty e:TypeId} {i:TypeInfo} {z:Value} {du:TypeDesc} (fO:∀b o,R b o→b<w.heap.size) (ht:P.underlying t=some (.slice e)) (hi:P.info? e=some i) (hz:i.zero=some z) (Sg:z.cells.size=i.size) (hu:P.underlying u=some du) (vC:∀k,du ≠ .int k)
  {p:Bool} {x0 x:Value} {st:fe} {l m:List st.El} {news:List Value} (hs:i.size=st.size) (h0:eP R w p x0 (.sl st l)) (hx:Source P w st.size x m.length news) (hL:dq R w ((m.map st.tv).flatMap TV.cells) news) (Ny:l.length+m.length≤maxLen) (hb:(l.length+m.length) * i.bytes≤140737488355328) :
  MW P R w p x0 st (l++m) fun w=>(Builtin.append_ #[t,u] ty #[x0,x]).run P w:=by
 rw [←hs] at hx
 have xD:=hx.2.2.1
 have L9:((l++m).map st.tv).flatMap TV.cells=(l.map st.tv).flatMap TV.cells++(m.map st.tv).flatMap TV.cells:=by simp
 have grow:∀(q:Option Addr) (cap:Nat) (su:List Value),x0 = .slice q l.length cap→cap<l.length+m.length→(∀w':World,w'.heap=w.heap→(Builtin.firstCells i.size l.length (.slice q l.length cap)).run P w' = .ok ⟨su⟩ w') →
   dq R w ((l.map st.tv).flatMap TV.cells) su→MW P R w p x0 st (l++m) fun w=>(Builtin.append_ #[t,u] ty #[x0,x]).run P w:=by
  rintro q cap su rfl Jt ho KQ
  have j5:=pR (ty:=ty) ht hi hz hu vC ho hx Jt Ny hb
  have D0:=grownCap_ge w (l.length+m.length) cap e
  have hle:=grownCap_le_maxLen w (l.length+m.length) cap e Ny
  generalize hG:grownCap w (l.length+m.length) cap e=G at j5 D0 hle
  have yG:su.length=l.length * i.size:=by rw [←KQ.length,kA,hs]
  let cur:Array Value:=(⟨su⟩:Array Value)++⟨news⟩++Builtin.zeroCells z.cells (G - (l.length+m.length))
  let R':Reach:=fun b o=>R b o∨(p=true∧b=w.heap.size∧o<(l.length+m.length) * st.size)
  have hold:∀b,b<w.heap.size→(w.drew.alloc (.cells cur e)).heap[b]?=w.heap[b]?:=fun b hb=>by
   show (w.heap.push _)[b]?=_
   rw [Array.getElem?_push,au (by omega)]
  have dB:dF R w R' (w.drew.alloc (.cells cur e)):=fun b o hr=>⟨.inl hr,World.cell?_of_block (w:=w) (hold b (fO b o hr))⟩
  have JD:cur.toList.take ((l++m).length * st.size)=su++news:=by
   have e1:cur.toList=(su++news)++(Builtin.zeroCells z.cells (G - (l.length+m.length))).toList:=by simp [cur]
   have e2:(su++news).length=(l++m).length * st.size:=by rw [ao,ao,yG,xD,hs,Nat.add_mul]
   rw [e1,←e2,List.take_left]
  refine ⟨_,_,R',j5,⟨st,l++m,rfl,.inr ⟨w.heap.size,G,cur,e,(0,0),by rw [ao],?_,fun o _=>by simp,?_,by rw [ao];exact D0,hle,?_,fun o=>⟨fun hr=>?_,fun hr => .inr ⟨hr.1,rfl,by have:=hr.2;rwa [ao] at this⟩⟩⟩⟩,dB,fun b o hr=>hr.imp id fun e=>by rw [e.2.1];rfl,rfl,rfl,rfl,?_,fun b _ hb=>hold b hb,fun b hb=>?_,fun b hb kg=>?_⟩
  ·show (w.heap.push _)[w.heap.size]?=some _;rw [Array.getElem?_push,aw rfl]
  ·simp only [cur,Array.size_append,List.size_toArray,size_zeroCells,Sg,yG,xD,←Nat.add_mul,←hs]
   congr 1;omega
  ·rw [JD,L9]
   exact (KQ.append hL).mono dB
  ·rcases hr with hr | ⟨h1,_,h2⟩
   ·have:=fO _ _ hr;omega
   ·exact ⟨h1,by rwa [ao]⟩
  ·show w.heap.size≤(w.heap.push _).size;simp
  ·cases hb
   exact ⟨.inl (Nat.le_refl _),by show w.heap.size<(w.heap.push _).size;simp⟩
  ·cases hb
   exact absurd (h0.lt kg) (Nat.lt_irrefl _)
 rcases h0.cells with ⟨rfl,rfl⟩ | ⟨g,cap,cur,ce,fz,rfl,hg,hfz,xF,UP,GI,KQ,hR⟩
 ·by_cases hm:m.length=0
  ·have OY:m=[]:=bc hm
   subst OY
   refine ⟨.slice none 0 0,w,R,?_,h0,dF.refl _ _,fun b o => .inl,rfl,rfl,rfl,Nat.le_refl _,fun _ _ _=>rfl,fun b hb=>(by cases hb),fun b hb=>by cases hb⟩
   obtain ⟨h1,h2,h3,h4⟩:=hx
   have O9:(match du with | .int _=>true | _=>false)=false:=by cases du <;> first | rfl | exact (vC _ rfl).elim
   have GK:=h2 w rfl
   simp only [aB] at h1 GK
   simp [Builtin.append_,run_underlying ht,run_underlying hu,O9,sizeOf,typeInfo,hi,h1,GK]
  ·exact grow none 0 [] rfl (by simp;omega) (fun _ _=>rfl) .nil
 ·have yG:(cur.toList.take (l.length * st.size)).length=l.length * i.size:=by rw [←KQ.length,kA,hs]
  by_cases uB:l.length+m.length≤cap
  ·have j5:=pQ (ty:=ty) ht hi hu vC hg hfz hx uB (by rw [hs];exact xF)
   have hle:(l.length+m.length) * st.size≤cap * st.size:=ak _ uB
   rw [Nat.add_mul] at hle
   rw [hs] at j5 xD yG
   have Cp:cur.toList.length=cap * st.size:=by simp [xF]
   let cur':Array Value:=(cur.toList.take (l.length * st.size)++news++cur.toList.drop (l.length * st.size+news.length)).toArray
   have L7:∀j,j<l.length * st.size→cur'[j]?=cur[j]?:=fun j hj=>by
    simp only [cur',List.getElem?_toArray,aG]
    rw [List.getElem?_append_left (by rw [yG];exact hj),aT,aw hj];simp
   have xG:∀j,(w.setRow g cur').cell? ⟨g,j,none⟩=cur'[j]?:=fun j=>cell_setRow_same w g j cur cur' ce fz hg
   let R':Reach:=fun b o=>R b o∨(p=true∧b=g∧o<(l.length+m.length) * st.size)
   have dB:dF R w R' (w.setRow g cur'):=fun c o Cl=>⟨.inl Cl,by
    by_cases Qx:c=g
    ·subst Qx
     rw [xG,L7 o ((hR o).1 Cl).2]
     simp [World.cell?,hg]
    ·exact cell_setRow_other w g cur' ⟨c,o,none⟩ Qx⟩
   have GH:g<w.heap.size:=(Array.getElem?_eq_some_iff.1 hg).1
   have Nh:cur'.toList.take ((l++m).length * st.size)=cur.toList.take (l.length * st.size)++news:=by
    have e2:(cur.toList.take (l.length * st.size)++news).length=(l++m).length * st.size:=by rw [ao,ao,yG,xD,Nat.add_mul]
    show (cur.toList.take (l.length * st.size)++news++_).take _=_
    rw [←e2,List.take_left]
   have tL:cur'.size=cur.size:=by
    simp only [cur',List.size_toArray,ao,yG,aU,Cp,xD,←Array.length_toList];omega
   refine ⟨_,_,R',j5,⟨st,l++m,rfl,.inr ⟨g,cap,cur',ce,fz,by rw [ao],setRow_heap w g cur cur' ce fz hg,fun o ho=>hfz o (by rw [←tL];exact ho),by rw [tL];exact xF,by rw [ao];exact uB,GI,?_,fun o=>⟨fun hr=>?_,fun hr => .inr ⟨hr.1,rfl,by have:=hr.2;rwa [ao] at this⟩⟩⟩⟩,
    dB,fun b o hr=>hr.imp id fun e=>by rw [e.2.1];rfl,rfl,rfl,rfl,by rw [setRow_size];exact Nat.le_refl _,fun b hb _=>setRow_other w g b cur' (fun e=>hb (by rw [e];rfl)),fun b hb=>?_,fun b _ _=>⟨g,cap,l.length,rfl,by rw [ao]⟩⟩
   ·rw [Nh,L9];exact (KQ.append hL).mono dB
   ·rcases hr with hr | ⟨h1,_,h2⟩
    ·have:=(hR o).1 hr
     refine ⟨this.1,?_⟩
     rw [ao,Nat.add_mul];omega
    ·exact ⟨h1,by rwa [ao]⟩
   ·cases hb
    exact ⟨.inr rfl,by rw [setRow_size];exact GH⟩
  ·refine grow (some ⟨g,0,none⟩) cap _ rfl (by omega) (fun w' hw=>?_) KQ
   rw [hs]
   exact run_firstCells_some (P:=P) w' st.size l.length ⟨g,0,none⟩ l.length cap _ (by rw [yG,hs]) (fun j v hj=>by
    rw [gO,Nat.zero_add,World.cell?_of_block (w:=w) (by rw [hw])]
    rw [aT] at hj
    split at hj
    ·simp only [World.cell?,hg];simpa using hj
    ·cases hj)
theorem dX.JM (h:dX C S a w R τ) {k k2:Nat} {v:Value} {x:TV} {g c:Gh} {y:TV} {R':Reach} (hk:C.nt≤k∧(S k).2.own=true∧(S k).2.AF=false) (ql:(S k2).2 = .no∧k2<1000000∧C.nt≤k2) (dB:dF R w R' w') (hn:∀b o,R' b o→R b o∨Value.gp v=some b) (os:w'.os=w.os) (tape:w'.tape=w.tape) (out:w'.output=w.output) (size:w.heap.size≤w'.heap.size)
  (heap:∀b,Value.gp v≠some b→b<w.heap.size→w'.heap[b]?=w.heap[b]?) (hb:∀b,Value.gp v=some b→(w.heap.size≤b∨Value.gp (τ k)=some b)∧b<w'.heap.size)
  (hg:g = .pv∨g = .lv) (new:iC R' w' τ x g v) (hc:c = .zz∨c = .us) (hy:iC R' w' τ y c (τ k)):dX C (cG (cG S k (y,c)) k2 (x,g)) a w' R' (tT τ k2 v):=by
 have lB:k≠k2:=by rintro rfl;rw [ql.1] at hk;cases hk.2.1
 have Fw:g.own=true:=by rcases hg with rfl | rfl <;> rfl
 have Qt:g.db=[]:=by rcases hg with rfl | rfl <;> rfl
 have GI:c.db=[]:=by rcases hc with rfl | rfl <;> rfl
 have Jh:cG (cG S k (y,c)) k2 (x,g) k=(y,c):=by rw [dc _ _ lB,bT]
 have R4:∀j,j≠k→gp τ S j≠none→∀b,gp τ S j=some b→Value.gp v≠some b:=fun j hj _ b DZ hv=>by
  rcases (hb b hv).1 with e | e
  ·have:=h.core.lt DZ;omega
  ·exact hj (h.core.tE (gD hk.2.1 (vy hk.2.2) e) DZ).symm
 have dA:∀b,Value.gp v=some b→C.dA b:=fun b hv=>by
  rcases (hb b hv).1 with e | e
  ·exact .inr (Nat.le_trans h.ext.size e)
  ·exact h.core.dA k b (gD hk.2.1 (vy hk.2.2) e)
 have D1:Core C.nt R' w' C.dA (tT τ k2 v) (cG (cG S k (y,c)) k2 (x,g)):=by
  refine h.core.step (fun j=>j=k∨j=k2) dB (fun j hj=>?_) (fun j b hj DZ=>?_) ?_ ?_ ?_ ?_ ?_ ?_ (fun _=>id) ?_ ?_ ?_
  ·have h1:j≠k:=fun e=>hj (.inl e)
   have h2:j≠k2:=fun e=>hj (.inr e)
   exact ⟨by rw [dc _ _ h2,dc _ _ h1],gL _ _ h2⟩
  ·have h1:j≠k:=fun e=>hj (.inl e)
   have:=R4 j h1 (by rw [DZ];simp) b DZ
   exact ⟨heap b this (h.core.lt DZ),fun o hr=>(hn b o hr).resolve_right this⟩
  ·rintro j (rfl | rfl)
   ·rw [Jh,gL _ _ lB]
    exact hy.dB (dF.refl _ _) (by rw [GI];simp) fun b e=>by rcases hc with rfl | rfl <;> cases e
   ·rw [bT,fP]
    exact new.dB (dF.refl _ _) (by rw [Qt];simp) fun _ _=>⟨rfl,fun _=>id⟩
  ·rintro j (rfl | rfl)
   ·exact .inl (gL _ _ lB)
   ·exact .inr (.inr ql.1)
  ·rintro j (rfl | rfl)
   ·rw [Jh];right;rcases hc with rfl | rfl <;> simp
   ·rw [bT];right;rcases hg with rfl | rfl <;> simp
  ·rintro j (rfl | rfl)
   ·rw [Jh];exact .inl ⟨hk.2.2,by rcases hc with rfl | rfl <;> rfl⟩
   ·rw [bT,ql.1];exact .inl ⟨rfl,by rcases hg with rfl | rfl <;> rfl⟩
  ·rintro j (rfl | rfl) _
   ·exact .inl hk.2.1
   ·exact .inr ql.1
  ·rintro j b (rfl | rfl) DZ
   ·have:=(fG DZ).1;rw [Jh] at this;rcases hc with rfl | rfl <;> cases this
   ·have hv:=(fG DZ).2
    rw [fP] at hv
    refine ⟨dA b hv,?_,(hb b hv).1.imp id fun e=>⟨k,.inl rfl,gD hk.2.1 (vy hk.2.2) e⟩⟩
    rintro q (rfl | rfl) hq Sz
    ·have:=(fG Sz).1;rw [Jh] at this;rcases hc with rfl | rfl <;> cases this
    ·exact hq rfl
  ·rintro j (rfl | rfl) q hq
   ·rw [Jh,GI] at hq;cases hq
   ·rw [bT,Qt] at hq;cases hq
  ·intro b o hr
   rcases hn b o hr with hr | hr
   ·have:=h.core.pT b o hr;omega
   ·exact (hb b hr).2
  ·rintro j (rfl | rfl) hj <;> omega
 refine ⟨h.size,h.defers,D1,fun t ht=>by rw [gL _ _ (by omega)];exact h.tmps t ht,⟨h.io.1,fun j hj=>by rw [gL _ _ (by omega)];exact h.io.2 j hj⟩,h.ext.trans (io':=fun b=>Value.gp v=some b) ⟨os,tape,out,size,fun b kg hv=>heap b hv kg,dB,fun b o hr=>(hn b o hr).imp id .inr⟩ (fun b hv=>dA b hv),h.gl.dB dB⟩
end
end Go.Eng
namespace Go.Eng
open Go.RowKit
section
variable {C:Ctx} {S V:St} {a:Act} {w w':World} {R:Reach} {τ:Nat→Value} {o:Oper} {d:Nat}
theorem dX.Ml (h:dX C S a w R τ) {k2:Nat} {v:Value} {x:TV} {R':Reach} (ql:(S k2).2 = .no∧k2<1000000∧C.nt≤k2) (dB:dF R w R' w') (hn:∀b o,R' b o→R b o∨Value.gp v=some b) (os:w'.os=w.os) (tape:w'.tape=w.tape) (out:w'.output=w.output) (size:w.heap.size≤w'.heap.size)
  (heap:∀b,Value.gp v≠some b→b<w.heap.size→w'.heap[b]?=w.heap[b]?) (hb:∀b,Value.gp v=some b→w.heap.size≤b∧b<w'.heap.size) (new:iC R' w' τ x .pv v):dX C (cG S k2 (x,.pv)) a w' R' (tT τ k2 v):=by
 have Lu:∀b,b<w.heap.size→Value.gp v≠some b:=fun b h1 h2=>by have:=(hb b h2).1;omega
 refine ⟨h.size,h.defers,h.core.nU ql.2.2 dB (fun j b _ DZ=>?_) new (.inr ql.1) ⟨by rw [ql.1];rfl,rfl⟩ (by simp) (fun _ => .inr ql.1) (fun b _ hv=>⟨.inr (Nat.le_trans h.ext.size (hb b hv).1),.inl (hb b hv).1⟩) (by simp [Gh.db]) (fun b o hr=>?_),
  fun t ht=>by rw [gL _ _ (by omega)];exact h.tmps t ht,⟨h.io.1,fun j hj=>by rw [gL _ _ (by omega)];exact h.io.2 j hj⟩,
  h.ext.trans (io':=fun b=>Value.gp v=some b) ⟨os,tape,out,size,fun b kg hv=>heap b hv kg,dB,fun b o hr=>(hn b o hr).imp id .inr⟩ (fun b hv => .inr (Nat.le_trans h.ext.size (hb b hv).1)),h.gl.dB dB⟩
 ·have hl:=h.core.lt DZ
  exact ⟨heap b (Lu b hl) hl,fun o hr=>(hn b o hr).resolve_right (Lu b hl)⟩
 ·rcases hn b o hr with hr | hr
  ·have:=h.core.pT b o hr;omega
  ·exact (hb b hr).2
theorem dX.recover (h:dX C S a w R τ) {k c:Nat} {x:TV} (hk:S k=(x,.pw c)):dX C (cG (cG S k (x,.pv)) c (.dead,.zz)) a w R τ :=
 ⟨h.size,h.defers,by have:=h.core.recover hk;rwa [rj,rj] at this,h.tmps,h.io,h.ext,h.gl⟩
variable (h:dX C S a w R τ) (hV:Lt V S)
include h hV
section
variable (hd:o.dst=some d) (hl:d<C.nt)
include hd hl
theorem go_app (hE:ji C.P C.E) {t u:TypeId} {x y:Operand} {st:fe} {nQ k k2:Nat} {l m:List st.El} {news:List Value} {du:TypeDesc} {g c:Gh} {z:TV} (ho:o.op = .call { callee := .builtin .append,args:=#[x,y],argTypes:=#[t,u] }) (ht:C.E.ty t=some (st,nQ)) (hx:fR C.E C.nt V t x=some (.pt,.fA k)) (hk:S k=(.sl st l,g))
  (hu:C.P.underlying u=some du) (vC:∀k,du ≠ .int k) (sS:Source C.P w st.size (a.eval y) m.length news) (hL:dq R w ((m.map st.tv).flatMap TV.cells) news) (uC:fC (l.length+m.length) nQ=true) (ql:(S k2).2 = .no∧k2<1000000∧C.nt≤k2) (hg:(g = .pv∧c = .zz∧z = .dead)∨(g = .lv∧c = .us∧z = .sl st l)) :
  dT C o a w (cG (cG (cG S k (z,c)) k2 (.sl st (l++m),g)) d (.pt,.fA k2)):=by
 obtain ⟨e,i,zv,h1,h2,h3,h4,h5,h6,h7⟩:=hE.ty _ _ _ ht
 obtain ⟨q1,_,q3⟩:=fS h hV hx
 have hv:a.eval x=τ k:=q1.1
 have hK:=h.core.key k
 rw [hk] at hK
 simp only [fC,ah,aA] at uC
 have Fw:g.own=true∧g.AF=false∧g.slot=false:=by rcases hg with ⟨rfl,_⟩ | ⟨rfl,_⟩ <;> exact ⟨rfl,rfl,rfl⟩
 obtain ⟨p,hp,SC⟩:∃p,eP R w p (τ k) (.sl st l)∧∀R w τ x v,iC R w τ x g v=eP R w p v x:=by rcases hg with ⟨rfl,_⟩ | ⟨rfl,_⟩ <;> exact ⟨_,hK,fun _ _ _ _ _=>rfl⟩
 obtain ⟨v,w',R',j5,hs,dB,hn,os,tape,out,size,heap,hb,sT⟩:=Km (P:=C.P) (ty:=o.type) h.core.pT h1 h2 h5 (by rw [h3];exact h6) hu vC h3 hp sS hL uC.1 (by rw [h4];exact uC.2)
 have vA:v.oneCell'=true:=by
  rcases hs.cells with ⟨_,rfl⟩ | ⟨_,_,_,_,_,rfl,_⟩ <;> rfl
 have yF:=h.JM (k:=k) (k2:=k2) (x := .sl st (l++m)) (g:=g) (c:=c) (y:=z) ⟨(q3 k (by simp [Gh.db])).1,by rw [hk];exact ⟨Fw.1,Fw.2.1⟩⟩ ql dB hn os tape out size heap hb (by rcases hg with ⟨rfl,_⟩ | ⟨rfl,_⟩ <;> simp) (by rw [SC];exact hs)
  (by rcases hg with ⟨_,rfl,_⟩ | ⟨_,rfl,_⟩ <;> simp) (by
   rcases hg with ⟨_,rfl,_⟩ | ⟨rfl,rfl,rfl⟩
   ·trivial
   ·exact (eP.rep hK).1.mono dB)
 refine yF.uD (v:=v) hd hl ?_ (g := .fA k2) ⟨(fP _ _ _).symm,vA⟩ rfl fun j hj=>?_
 ·simp only [execOp,ho,hv,Sem.run_bind]
  have:(Builtin.append_ #[t,u] o.type #[τ k,a.eval y]).run C.P w = .ok v w':=j5
  simp [resolve,invoke,builtin,this,hv]
 ·simp only [Gh.db,List.mem_singleton] at hj
  subst hj
  exact ⟨ql.2.2,by rw [bT];rcases hg with ⟨rfl,_⟩ | ⟨rfl,_⟩ <;> simp⟩
theorem go_lend (hE:ji C.P C.E) {t u:TypeId} {x y:Operand} {st:fe} {nQ k k2:Nat} {l m:List st.El} {news:List Value} {du:TypeDesc} (ho:o.op = .call { callee := .builtin .append,args:=#[x,y],argTypes:=#[t,u] }) (ht:C.E.ty t=some (st,nQ)) (hv:a.eval x=τ k) (Jw:C.nt≤k) (hk:S k=(.sl st l,.pv))
  (hu:C.P.underlying u=some du) (vC:∀k,du ≠ .int k) (sS:Source C.P w st.size (a.eval y) m.length news) (hL:dq R w ((m.map st.tv).flatMap TV.cells) news) (uC:fC (l.length+m.length) nQ=true) (ql:(S k2).2 = .no∧k2<1000000∧C.nt≤k2) :
  dT C o a w (cG (cG (cG S k (.sl st l,.pw k2)) k2 (.sl st (l++m),.pc k)) d (.pt,.fA k2)):=by
 have _:=hV
 obtain ⟨e,i,zv,h1,h2,h3,h4,h5,h6,h7⟩:=hE.ty _ _ _ ht
 have hK:eP R w false (τ k) (.sl st l):=by have:=h.core.key k;rw [hk] at this;exact this
 simp only [fC,ah,aA] at uC
 have lB:k2≠k:=by rintro rfl;rw [hk] at ql;cases ql.1
 obtain ⟨v,w',R',j5,hs,dB,hn,os,tape,out,size,heap,hb,sT⟩:=Km (P:=C.P) (ty:=o.type) h.core.pT h1 h2 h5 (by rw [h3];exact h6) hu vC h3 hK sS hL uC.1 (by rw [h4];exact uC.2)
 have vA:v.oneCell'=true:=by
  rcases hs.cells with ⟨_,rfl⟩ | ⟨_,_,_,_,_,rfl,_⟩ <;> rfl
 have yF:=h.JM (k:=k) (k2:=k2) (x := .sl st (l++m)) (g := .pv) (c := .zz) (y := .dead) ⟨Jw,by rw [hk];exact ⟨rfl,rfl⟩⟩ ql dB hn os tape out size heap hb (.inl rfl) hs (.inl rfl) trivial
 have own:∀b,gb (tT τ k2 v) (.pw k2) (τ k)=some b→Value.gp (τ k)=some b∧Value.gp v≠some b:=fun b kg=>by
  simp only [gb,fP] at kg
  split at kg
  ·cases kg
  ·rename_i hne';exact ⟨kg,fun e=>hne' (by rw [kg,e])⟩
 have hp:Kx R' w' (tT τ k2 v k) (.sl st l) (tT τ k2 v k2):=by
  rw [fP,gL _ _ (Ne.symm lB)]
  cases D2:Value.gp (τ k) with
  | none=>exact .inl ⟨hK.dB dB fun g hg=>(by rw [D2] at hg;cases hg),.inl D2⟩
  | some b =>
   by_cases Ng:Value.gp v=some b
   ·obtain ⟨g,cap,q,e1,e2⟩:=sT b Ng D2
    refine .inr ⟨st,l,g,cap,_,rfl,?_,e2⟩
    obtain ⟨t2,l2,e3,⟨_,e4⟩ | ⟨g',cap',_,_,_,e4,_⟩⟩:=hK
    ·rw [e4] at D2;cases D2
    ·cases e3;rw [e1] at e4;cases e4;exact e1
   ·refine .inl ⟨hK.dB dB fun g hg=>?_,.inr (by rw [D2];exact Ne.symm Ng)⟩
    rw [D2] at hg;cases hg
    exact ⟨heap b Ng (hK.lt D2),fun o hr=>(hn b o hr).resolve_right Ng⟩
 have e1:cG (cG S k (.dead,.zz)) k2 (.sl st (l++m),.pv) k=(.dead,.zz):=by rw [dc _ _ (Ne.symm lB),bT]
 have Mf:=yF.core.MG (k:=k) (d:=k2) (t:=st) (l:=l) (m:=m) Jw ql.2.2 e1 (bT ..) hp (fun b kg=>by
  rw [gL _ _ (Ne.symm lB)] at kg
  obtain ⟨q1,q2⟩:=own b kg
  have Qo:gp τ S k=some b:=gD (by rw [hk];rfl) (by rw [hk];rfl) q1
  refine ⟨h.core.dA k b Qo,fun j hj=>?_⟩
  by_cases c1:j=k2
  ·rw [c1] at hj
   have:=(fG hj).2
   rw [fP] at this
   exact q2 this
  ·by_cases c2:j=k
   ·rw [c2] at hj;have:=(fG hj).1;rw [e1] at this;cases this
   ·have ej:cG (cG S k (.dead,.zz)) k2 (.sl st (l++m),.pv) j=S j:=by rw [dc _ _ c1,dc _ _ c2]
    have tM:gp τ S j=some b:=by
     unfold gp at hj ⊢
     rw [ej,gL _ _ c1] at hj
     rw [←hj,D6 fun q hq=>?_]
     refine (gL _ _ ?_).symm
     rintro rfl
     exact (h.core.inv j q hq).2 ql.1
    exact c2 (h.core.sep _ _ _ tM Qo))
 rw [rj,rj] at Mf
 have e2:cG (cG (cG (cG S k (.dead,.zz)) k2 (.sl st (l++m),.pv)) k (.sl st l,.pw k2)) k2 (.sl st (l++m),.pc k)=cG (cG S k (.sl st l,.pw k2)) k2 (.sl st (l++m),.pc k):=by
  funext j
  by_cases c1:j=k2
  ·rw [c1,bT,bT]
  ·by_cases c2:j=k
   ·rw [c2,dc _ _ (Ne.symm lB),bT,dc _ _ (Ne.symm lB),bT]
   ·rw [dc _ _ c1,dc _ _ c2,dc _ _ c1,dc _ _ c2,dc _ _ c1,dc _ _ c2]
 rw [e2] at Mf
 have OU:dX C (cG (cG S k (.sl st l,.pw k2)) k2 (.sl st (l++m),.pc k)) a w' R' (tT τ k2 v):=⟨yF.size,yF.defers,Mf,yF.tmps,yF.io,yF.ext,yF.gl⟩
 refine OU.uD (v:=v) hd hl ?_ (g := .fA k2) ⟨(fP _ _ _).symm,vA⟩ rfl fun j hj=>?_
 ·have:(Builtin.append_ #[t,u] o.type #[τ k,a.eval y]).run C.P w = .ok v w':=j5
  simp [execOp,ho,resolve,invoke,builtin,this,hv]
 ·simp only [Gh.db,List.mem_singleton] at hj
  subst hj
  exact ⟨ql.2.2,by rw [bT];simp⟩
theorem go_apn (hE:ji C.P C.E) {t u:TypeId} {x y:Operand} {st:fe} {nQ k2:Nat} {m:List st.El} {news:List Value} {du:TypeDesc} (ho:o.op = .call { callee := .builtin .append,args:=#[x,y],argTypes:=#[t,u] }) (ht:C.E.ty t=some (st,nQ)) (hx:fR C.E C.nt V t x=some (.nl st,.no))
  (hu:C.P.underlying u=some du) (vC:∀k,du ≠ .int k) (sS:Source C.P w st.size (a.eval y) m.length news) (hL:dq R w ((m.map st.tv).flatMap TV.cells) news) (uC:fC m.length nQ=true) (ql:(S k2).2 = .no∧k2<1000000∧C.nt≤k2) :
  dT C o a w (cG (cG S k2 (.sl st m,.pv)) d (.pt,.fA k2)):=by
 obtain ⟨e,i,zv,h1,h2,h3,h4,h5,h6,h7⟩:=hE.ty _ _ _ ht
 have hv:a.eval x = .slice none 0 0:=by
  have:=dP h hV hx
  generalize a.eval x=v at this ⊢
  cases this with
  | sc h=>cases h
  | nl=>rfl
 simp only [fC,ah,aA] at uC
 obtain ⟨v,w',R',j5,hs,dB,hn,os,tape,out,size,heap,hb,sT⟩:=Km (P:=C.P) (ty:=o.type) (p:=false) (x0 := .slice none 0 0) (l:=[]) h.core.pT h1 h2 h5 (by rw [h3];exact h6) hu vC h3 ⟨st,[],rfl,.inl ⟨rfl,rfl⟩⟩ sS hL (by simpa using uC.1) (by rw [h4];simpa using uC.2)
 have vA:v.oneCell'=true:=by
  rcases hs.cells with ⟨_,rfl⟩ | ⟨_,_,_,_,_,rfl,_⟩ <;> rfl
 refine (h.Ml (x := .sl st m) ql dB hn os tape out size heap (fun b hv=>⟨(hb b hv).1.resolve_right (by simp [Value.gp]),(hb b hv).2⟩) hs).uD (v:=v) hd hl ?_ (g := .fA k2) ⟨(fP _ _ _).symm,vA⟩ rfl fun j hj=>?_
 ·have:(Builtin.append_ #[t,u] o.type #[.slice none 0 0,a.eval y]).run C.P w = .ok v w':=j5
  simp [execOp,ho,resolve,invoke,builtin,this,hv]
 ·simp only [Gh.db,List.mem_singleton] at hj
  subst hj
  exact ⟨ql.2.2,by rw [bT];simp⟩
theorem go_psl {t:TypeId} {x y:Operand} {st:fe} {k k2:Nat} {l:List st.El} {n:Int} (hE:ji C.P C.E) (ho:o.op = .slice t x none (some y) none) (ht:q7 C.E t st=true) (hx:fR C.E C.nt V t x=some (.pt,.fA k)) (hk:S k=(.sl st l,.pv)) (hy:lu C.E C.nt V (some y)=some (some n)) (hc:gA 0 n l.length=true)
  (ql:(S k2).2 = .no∧k2<1000000∧C.nt≤k2):dT C o a w (cG (cG (cG S k (.dead,.zz)) k2 (.sl st (l.take n.toNat),.pv)) d (.pt,.fA k2)):=by
 obtain ⟨e,inf,ht,hi',hz⟩:=nH hE ht
 obtain ⟨q1,_,q3⟩:=fS h hV hx
 have hv:a.eval x=τ k:=q1.1
 have hK:=h.core.key k
 rw [hk] at hK
 have hb:=fun cap sT=>bounds h hV (lo:=none) (p:=none) rfl hy hc true (cap:=cap) sT (fun e=>by cases e)
 simp only [Option.getD_some,Option.getD_none] at hb
 obtain ⟨_,_,P4⟩:=hb l.length (Nat.le_refl _)
 generalize hu:n.toNat=u at *
 have fO:(l.take u).length=u:=by rw [aF];omega
 have fin:∀v,(execOp a.eval o).run C.P w = .ok (.value v) w→eP R w false v (.sl st (l.take u))→(∀b,Value.gp v=some b→Value.gp (τ k)=some b)→v.oneCell'=true→dT C o a w (cG (cG (cG S k (.dead,.zz)) k2 (.sl st (l.take u),.pv)) d (.pt,.fA k2)):=fun v j5 hs hb vA=>by
  have yF:=h.JM (w':=w) (R':=R) (k:=k) (k2:=k2) (v:=v) (x := .sl st (l.take u)) (g := .pv) (c := .zz) (y := .dead) ⟨(q3 k (by simp [Gh.db])).1,by rw [hk];exact ⟨rfl,rfl⟩⟩ ql (dF.refl _ _) (fun _ _ => .inl) rfl rfl rfl (Nat.le_refl _) (fun _ _ _=>rfl) (fun b kg=>⟨.inr (hb b kg),hs.lt kg⟩) (.inl rfl) hs (.inl rfl) trivial
  refine yF.uD (v:=v) hd hl j5 (g := .fA k2) ⟨(fP _ _ _).symm,vA⟩ rfl fun j hj=>?_
  simp only [Gh.db,List.mem_singleton] at hj
  subst hj
  exact ⟨ql.2.2,by rw [bT];simp⟩
 rcases eP.cells hK with ⟨rfl,e1⟩ | ⟨g,cap,cur,ce,fz,e1,e2,e3,e4,e5,e6,e7,e8⟩
 ·obtain rfl:u=0:=by simpa using P4
  have og:=(hb 0 (by simp)).1
  simp only [aB] at og
  refine fin (.slice none 0 0) ?_ ⟨st,[],rfl,.inl ⟨rfl,rfl⟩⟩ (fun b hb=>by cases hb) rfl
  simp only [execOp,ho,hv,e1,Instr.sliceAt,Instr.slice,Sem.run_bind,run_underlying ht,Result.andThen_ok,Option.map_none,Option.map_some,run_sizeOf hi',Sem.run_pure]
  simp at og
  simp [og]
 ·have og:=(hb cap e5).1
  refine fin (.slice (some ⟨g,0,none⟩) u cap) ?_ ⟨st,l.take u,rfl,.inr ⟨g,cap,cur,ce,fz,by rw [fO],e2,e3,e4,by omega,e6,?_,fun o=>⟨fun hr=>by simpa using (e8 o).1 hr,fun hr=>by simp at hr⟩⟩⟩ (fun b hb=>by rw [e1];exact hb) rfl
  ·simp only [execOp,ho,hv,e1,Instr.sliceAt,Instr.slice,Sem.run_bind,run_underlying ht,Result.andThen_ok,Option.map_none,Option.map_some,run_sizeOf hi',Sem.run_pure]
   simp at og
   simp [og,gO]
  ·rw [fO]
   have:((l.take u).map st.tv).flatMap TV.cells=((l.map st.tv).flatMap TV.cells).take (u * st.size):=by
    have e:=congrArg (fun m:List st.El=>(m.map st.tv).flatMap TV.cells) (List.take_append_drop u l)
    simp only [List.map_append,List.flatMap_append] at e
    rw [←e,show u * st.size=(((l.take u).map st.tv).flatMap TV.cells).length by rw [kA,fO],List.take_left]
   rw [this]
   have hle:u * st.size≤l.length * st.size:=ak _ P4
   have:=e7.take (u * st.size)
   rwa [List.take_take,Nat.min_eq_left hle] at this
end
theorem go_stt (hd:o.dst=none) {x v:Operand} {t:TypeId} {inf:TypeInfo} {m q k:Nat} {cs:List TV} {ts:List (Nat × Nat)} (ho:o.op = .store t x v) (hi:C.P.info? t=some inf) (hn:inf.size=1) (hx:fR C.E C.nt V 0 x=some (.pt,.ptr m q)) (hm:S m=(.ag cs,.cl ts)) (hv:fR C.E C.nt V t v=some (.pt,.fA k)) (kp:q<cs.length) (lB:k≠m) (KF:∀t∈ts,t.2≠m) :
  dT C o a w (cG S m (.ag (gh cs q [.pt]),.cl ((q,k) :: Am q 1 ts))):=by
 obtain ⟨q1,_,q3⟩:=fS h hV hv
 have e1:a.eval v=τ k:=q1.1
 have e2:(a.eval v).oneCell'=true:=q1.2
 have e3:(a.eval v).cells.toList=[a.eval v]:=Bu e2
 refine go_st' h hV hd ho hi hx hm (qs:=[.pt]) (by rw [e3];exact .cons e2 (.pt _) .nil) (by simp [hn]) (by omega) fun u hu=>?_
 rcases aO.1 hu with rfl | hu
 ·exact ⟨lB,.inr ⟨(q3 k (by simp [Gh.db])).1,(q3 k (by simp [Gh.db])).2,Nat.le_refl _,by rw [e3,e1];simp⟩⟩
 ·obtain ⟨h1,h2⟩:=uf hu
  rw [hn]
  exact ⟨KF u h1,.inl ⟨h1,h2⟩⟩
theorem go_sto (hd:o.dst=none) {x v:Operand} {t:TypeId} {inf:TypeInfo} {m:Nat} {cs xs:List TV} {ts us:List (Nat × Nat)} (ho:o.op = .store t x v) (hi:C.P.info? t=some inf) (hx:fR C.E C.nt V 0 x=some (.pt,.ptr m 0)) (hm:S m=(.ag cs,.cl ts)) (hv:fR C.E C.nt V t v=some (.ag xs,.ow us)) (hn:xs.length=inf.size) (kp:inf.size=cs.length) (Sq:∀t∈us,t.2≠m) :
  dT C o a w (cG S m (.ag xs,.cl us)):=by
 obtain ⟨q1,_,q3⟩:=fS h hV hv
 obtain ⟨ys,vs,e1,e2,e3,e4⟩:∃ys vs,a.eval v = .agg ⟨ys⟩∧TV.ag xs = .ag vs∧dq R w vs ys∧∀p∈us,ys[p.1]?=some (τ p.2):=q1
 cases e2
 have e5:(a.eval v).cells.toList=ys:=by rw [e1];rfl
 have:=go_st' h hV hd ho hi hx hm (qs:=xs) (us:=us) (by rw [e5];exact e3) hn (by omega) fun u hu=>⟨Sq u hu,.inr ⟨(q3 u.2 (List.mem_map_of_mem (f:=(·.2)) hu)).1,(q3 u.2 (List.mem_map_of_mem (f:=(·.2)) hu)).2,Nat.zero_le _,by rw [e5,Nat.sub_zero];exact e4 u hu⟩⟩
 have e6:gh cs 0 xs=xs:=by simp [gh,hn,kp]
 rwa [e6] at this
end
end Go.Eng
namespace Go.Eng
open Go.RowKit
def oO (P:Program) (f:Nat):Bool:=(P.funcs[f]?).any fun fn=>fn.body.isSome&&!(fn.name == "runtime.NumGoroutine")
def Lx:Nat→Value:=fun _=>undef
def A3 (R:Reach) (w:World) (m:Md) (x:TV) (v:Value):Prop :=
 match m with
 | .pl=>Rep R w x v
 | .rf=>uX R w Lx v x []
 | _=>eP R w false v x
def wa (R:Reach) (w:World) (ms:List Md) (ins:List TV) (xs:List Value):Prop:=ins.length=xs.length∧∀i x v,ins[i]?=some x→xs[i]?=some v→A3 R w (ms.getD i .pl) x v
def Kv (p:Md→Prop) (ms:List Md) (xs:List Value):Prop:=∀i j v v' b,p (ms.getD i .pl)→p (ms.getD j .pl)→xs[i]?=some v→xs[j]?=some v'→Value.gp v=some b→Value.gp v'=some b→i=j
def we (ms:List Md) (xs:List Value) (b:Nat):Prop:=∃i v,ms.getD i .pl ≠ .pl∧xs[i]?=some v∧Value.gp v=some b
def Md.BI (m:Md):Prop:=m ≠ .pl∧m ≠ .gv
def Fm (R:Reach) (w:World) (m:Md) (y:TV) (v:Value):Prop :=
 match m with
 | .rf=>uX R w Lx v y []
 | .sl=>eP R w false v y
 | .sm=>eP R w false v y
 | _=>True
def mq (vs:List Value) (i:Nat):Option Value:=cond (Nat.blt i 1000) (vs[i]?) (match vs[0]? with | some (Value.agg cs)=>cs.toList[i - 1000]? | _=>none)
structure vY (sg:bW) (R:Reach) (w:World) (dA:Nat→Prop) (ins:List TV) (xs:List Value) (outs:List TV) (x:Value) (kY:List Value) (ys:List TV):Prop where
 len:kY.length=sg.fo
 le:sg.fo≤outs.length
 val:x=if sg.fo=1 then kY.headD undef else .tuple ⟨kY⟩
 rep:iB R w (pV sg.own (outs.take sg.fo)) kY
 own:∀i∈sg.own,∀v y,mq kY i=some v→nV outs i=some y→eP R w false v y
 back:backO sg.md ins (outs.drop sg.fo)=some ys
 MA:∀i y v,ys[i]?=some y→xs[i]?=some v→Fm R w (sg.md.getD i .pl) y v
 dA:∀i∈sg.own,∀v b,mq kY i=some v→Value.gp v=some b→dA b
 Od:∀(j j' i i':Nat) (v v':Value) (b:Nat),sg.own[j]?=some i→sg.own[j']?=some i'→mq kY i=some v→mq kY i'=some v'→Value.gp v=some b→Value.gp v'=some b→j=j'
 Oc:∀i∈sg.own,∀v b,mq kY i=some v→Value.gp v=some b→∀q u,(sg.md.getD q .pl).BI→xs[q]?=some u→Value.gp u≠some b
def bA (P:Program) (gl:Nat→Option (List Value)) (f:Nat) (c:eS × bW):Prop :=
 ∀ins outs,(c.1 ins).holds outs→oO P f=true∧∀w R xs,(∀b o,R b o→b<w.heap.size)→GlOK gl R w→wa R w c.2.md ins xs→Kv (· ≠ .pl) c.2.md xs →
  Calls P f ⟨xs⟩ w fun e w'=>∃x R' kY ys,e = .returned x∧Ext w R (we c.2.md xs) w' R'∧(∀b o,R' b o→b<w'.heap.size)∧vY c.2 R' w' (fun b=>we c.2.md xs b∨w.heap.size≤b) ins xs outs x kY ys
def Ie (V:St) (R:Reach) (w:World) (τ:Nat→Value) (m:Md) (c:Cell) (x:TV) (v:Value):Prop :=
 match m with
 | .pl=>Rep R w x v
 | .rf=>∃k cs ts b ys e xs,c=(.pt,.ptr k 0)∧V k=(.ag cs,.cl ts)∧v=τ k∧τ k = .pointer (some ⟨b,0,none⟩)∧w.heap[b]?=some (.cells ⟨ys⟩ e (0,0))∧x = .ag xs∧dq R w xs ys
 | m=>(∃k g,c=(.pt,.fA k)∧V k=(x,g)∧(g = .pv∨(m = .sm∧∃r,g = .pc r))∧v=τ k)∨((m = .sm∨m = .gv)∧∃t,c=(.nl t,.no)∧x = .sl t []∧v = .slice none 0 0)
theorem Ie.mono {V:St} {R R':Reach} {w:World} {τ:Nat→Value} {m:Md} {c:Cell} {x:TV} {v:Value} (h:Ie V R w τ m c x v) (k:dF R w R' w):Ie V R' w τ m c x v:=by
 cases m <;> simp only [Ie] at h ⊢ <;> first | exact h.mono k | exact h | skip
 obtain ⟨q,cs,ts,b,ys,e,xs,h1,h2,h3,h4,h5,h6,h7⟩:=h
 exact ⟨q,cs,ts,b,ys,e,xs,h1,h2,h3,h4,h5,h6,h7.mono k⟩
inductive py (V:St) (R:Reach) (w:World) (τ:Nat→Value):List Md→List Cell→List TV→List Value→Prop
 | nil (ms:List Md):py V R w τ ms [] [] []
 | cons {ms:List Md} {c:Cell} {x:TV} {v:Value} {cs:List Cell} {xs:List TV} {vs:List Value}:Ie V R w τ (ms.headD .pl) c x v→py V R w τ ms.tail cs xs vs→py V R w τ ms (c :: cs) (x :: xs) (v :: vs)
theorem py.mono {V:St} {R R':Reach} {w:World} {τ:Nat→Value} (k:dF R w R' w):∀{ms:List Md} {cs:List Cell} {xs:List TV} {vs:List Value},py V R w τ ms cs xs vs→py V R' w τ ms cs xs vs
 | _,_,_,_,.nil _ => .nil _
 | _,_,_,_,.cons a b => .cons (a.mono k) (py.mono k b)
theorem py.len {V:St} {R:Reach} {w:World} {τ:Nat→Value}:∀{ms:List Md} {cs:List Cell} {xs:List TV} {vs:List Value},py V R w τ ms cs xs vs→xs.length=vs.length∧cs.length=vs.length
 | _,_,_,_,.nil _=>⟨rfl,rfl⟩
 | _,_,_,_,.cons _ b=>by obtain ⟨h1,h2⟩:=py.len b;simp [h1,h2]
theorem BX {ms:List Md} {i:Nat}:ms.tail.getD i .pl=ms.getD (i+1) .pl:=by cases ms <;> rfl
theorem BY {ms:List Md}:ms.headD .pl=ms.getD 0 .pl:=by cases ms <;> rfl
theorem py.get {V:St} {R:Reach} {w:World} {τ:Nat→Value}:∀{ms:List Md} {cs:List Cell} {xs:List TV} {vs:List Value},py V R w τ ms cs xs vs→∀(i:Nat) (v:Value),vs[i]?=some v→∃c x,cs[i]?=some c∧xs[i]?=some x∧Ie V R w τ (ms.getD i .pl) c x v
 | _,_,_,_,.nil _,i,v,h=>by simp at h
 | _,_,_,_,.cons a b,0,v,h=>by cases h;exact ⟨_,_,rfl,rfl,by rw [←BY];exact a⟩
 | _,_,_,_,.cons a b,i+1,v,h=>by
  obtain ⟨c,x,h1,h2,h3⟩:=py.get b i v (by simpa using h)
  exact ⟨c,x,by simpa using h1,by simpa using h2,by rw [←BX];exact h3⟩
section
variable {nt:Nat} {R:Reach} {w:World} {dA:Nat→Prop} {τ:Nat→Value} {S V:St}
theorem Hf (h:Core nt R w dA τ S) (hV:Lq V S) {m:Md} {c:Cell} {v:Value} {x:TV} {ws:List (Nat × Cell)} (hs:dO R w τ c.1 c.2 v) (hc:∀k∈c.2.db,nt≤k) (he:Kl V m c=some (x,ws)) :
  ∃R',Core nt R' w dA τ (ff S ws)∧Fz dA R w R'∧Ie V R' w τ m c x v∧Lq V (ff S ws):=by
 have fA:∀{m:Md} {k:Nat} {g:Gh},m ≠ .pl→m ≠ .rf→c=(.pt,.fA k)→ws=[]→V k=(x,g)→(g = .pv∨(m = .sm∧∃r,g = .pc r))→∃R',Core nt R' w dA τ (ff S ws)∧Fz dA R w R'∧Ie V R' w τ m c x v∧Lq V (ff S ws):=by
  rintro m k g h1 h2 rfl rfl hk hg
  have:v=τ k:=hs.1
  refine ⟨R,h,Fz.refl _ _ _,?_,hV⟩
  cases m <;> first | exact (h1 rfl).elim | exact (h2 rfl).elim | exact .inl ⟨k,g,rfl,hk,hg,this⟩
 unfold Kl at he
 split at he
 ·obtain ⟨R',h1,h2,h3,h4⟩:=vI h hV hs hc he
  exact ⟨R',h1,h2,h3,h4⟩
 ·rename_i k
  split at he
  ·rename_i cs ts hk
   split at he
   ·rename_i G2 MY hf
    cases he
    have e:S k=(.ag cs,.cl ts):=by
     rcases hV k with e | e | ⟨e,_⟩
     ·rw [←e,hk]
     ·rw [hk] at e;cases e
     ·rw [hk] at e;cases e
    have hK:=h.key k
    rw [e] at hK
    obtain ⟨b,ys,el,xs,h1,h2,h3,h4,h5,h6⟩:=hK
    cases h3
    obtain ⟨b',p1,hv⟩:∃b,τ k = .pointer (some ⟨b,0,none⟩)∧v = .pointer (some ⟨b,0,none⟩):=hs
    obtain ⟨R',f1,f2,f3,f4,_⟩:=l0 h hV h4 (fun t ht=>⟨by
     have:=h.inv k t.2
     rw [e] at this
     exact (this (List.mem_map_of_mem (f:=(·.2)) ht)).1,h5 t ht⟩) hf
    exact ⟨R',f1,f2,⟨k,cs,ts,b,ys,el,_,rfl,hk,by rw [hv,p1],h1,h2,rfl,nh f3⟩,f4⟩
   ·cases he
  ·cases he
 ·cases he
 ·rename_i k n1 _
  split at he
  ·rename_i y hk
   cases he
   exact fA (by intro e;subst e;simp_all) (by intro e;subst e;simp_all) rfl rfl (by assumption) (.inl rfl)
  ·rename_i y r hk
   cases he
   exact fA (by simp) (by simp) rfl rfl (by assumption) (.inr ⟨rfl,_,rfl⟩)
  ·cases he
 ·rename_i t
  cases he
  refine ⟨R,h,Fz.refl _ _ _,.inr ⟨.inl rfl,t,rfl,rfl,?_⟩,hV⟩
  have:Rep R w (.nl t) v:=iV.rep hs
  cases this with
  | sc h=>cases h
  | nl=>rfl
 ·rename_i t
  cases he
  refine ⟨R,h,Fz.refl _ _ _,.inr ⟨.inr rfl,t,rfl,rfl,?_⟩,hV⟩
  have:Rep R w (.nl t) v:=iV.rep hs
  cases this with
  | sc h=>cases h
  | nl=>rfl
 ·cases he
theorem yv:∀{cs:List Cell} {ms:List Md} {R:Reach} {S:St} {vs:List Value} {xs:List TV} {ws:List (Nat × Cell)},Core nt R w dA τ S→Lq V S→Cells R w τ nt cs vs→yw V ms cs=some (xs,ws) →
  ∃R',Core nt R' w dA τ (ff S ws)∧Fz dA R w R'∧py V R' w τ ms cs xs vs∧Lq V (ff S ws)
 | [],ms,R,S,_,_,_,h,hV,.nil,he=>by cases he;exact ⟨R,h,Fz.refl _ _ _,.nil _,hV⟩
 | c :: cs,ms,R,S,_,_,_,h,hV,.cons a b t,he=>by
  simp only [yw] at he
  split at he
  ·rename_i x ws e1
   split at he
   ·rename_i xs us e2
    cases he
    obtain ⟨R1,h1,k1,r1,q1⟩:=yv h hV t e2
    obtain ⟨R2,h2,k2,r2,q2⟩:=Hf h1 q1 (a.dB k1.1 fun _ _=>rfl) b e1
    rw [iM]
    exact ⟨R2,h2,k1.trans k2,.cons r2 (r1.mono k2.1),q2⟩
   ·cases he
  ·cases he
theorem je:∀{l:List (Nat × Cell)} {S:St} {k:Nat},(∀p∈l,p.1≠k)→ff S l k=S k
 | [],_,_,_=>rfl
 | (j,x) :: l,S,k,h=>by
  simp only [ff]
  rw [dc _ _ (Ne.symm (h (j,x) (List.mem_cons_self ..)))]
  exact je fun p hp=>h p (List.mem_cons_of_mem _ hp)
theorem vi:∀{l:List (Nat × Cell)} {S:St} {k:Nat} {x:Cell},(k,x)∈l→(∀y,(k,y)∈l→y=x)→ff S l k=x
 | (j,y) :: l,S,k,x,h,hu=>by
  simp only [ff]
  by_cases e:k=j
  ·subst e
   rw [bT]
   exact hu y (List.mem_cons_self ..)
  ·rw [dc _ _ e]
   rcases aO.1 h with h | h
   ·cases h;exact (e rfl).elim
   ·exact vi h fun y hy=>hu y (List.mem_cons_of_mem _ hy)
theorem nS {V:St}:∀{ms:List Md} {cs:List Cell} {ys:List TV} {p:Nat × Cell},p∈gG V ms cs ys→∃i c y,cs[i]?=some c∧ys[i]?=some y∧i<ms.length∧kj V (ms.getD i .pl) c y=some p
 | m :: ms,c :: cs,y :: ys,p,h=>by
  simp only [gG] at h
  split at h
  ·rename_i q e
   rcases aO.1 h with rfl | h
   ·exact ⟨0,c,y,rfl,rfl,by simp,e⟩
   ·obtain ⟨i,c',y',h1,h2,h3,h4⟩:=nS h
    exact ⟨i+1,c',y',by simpa using h1,by simpa using h2,by simpa using h3,h4⟩
  ·obtain ⟨i,c',y',h1,h2,h3,h4⟩:=nS h
   exact ⟨i+1,c',y',by simpa using h1,by simpa using h2,by simpa using h3,h4⟩
 | [],_,_,_,h=>by simp [gG] at h
 | _ :: _,[],_,_,h=>by simp [gG] at h
 | _ :: _,_ :: _,[],_,h=>by simp [gG] at h
theorem lX {V:St}:∀{ms:List Md} {cs:List Cell} {ys:List TV} {p:Nat × Cell} {i:Nat} {c:Cell} {y:TV},cs[i]?=some c→ys[i]?=some y→i<ms.length→kj V (ms.getD i .pl) c y=some p→p∈gG V ms cs ys
 | m :: ms,c :: cs,y :: ys,p,0,_,_,h1,h2,_,h4=>by
  cases h1;cases h2
  simp only [gG]
  have:kj V m c y=some p:=h4
  rw [this];exact List.mem_cons_self ..
 | m :: ms,c :: cs,y :: ys,p,i+1,_,_,h1,h2,h3,h4=>by
  have:=lX (ms:=ms) (cs:=cs) (ys:=ys) (i:=i) (by simpa using h1) (by simpa using h2) (by simpa using h3) h4
  simp only [gG]
  split
  ·exact List.mem_cons_of_mem _ this
  ·exact this
 | [],_,_,_,_,_,_,_,_,h,_=>by simp at h
 | _ :: _,[],_,_,_,_,_,h,_,_,_=>by simp at h
 | _ :: _,_ :: _,[],_,_,_,_,_,h,_,_=>by simp at h
theorem xY {k:Nat} {x:Cell} {l:List (Nat × Cell)} (h:vP ((k,x) :: l)=true) {p:Nat × Cell} (hp:p∈l):p.1≠k:=by
 simp only [vP,ah,aC] at h
 have:=h.1 p hp
 intro e
 rw [e] at this
 simp at this
theorem B7 {p:Nat × Cell} {l:List (Nat × Cell)} (h:vP (p :: l)=true):vP l=true:=by
 obtain ⟨k,x⟩:=p
 simp only [vP,ah] at h;exact h.2
theorem vO {V:St}:∀{ms:List Md} {cs:List Cell} {ys:List TV} {k i j:Nat} {c c':Cell} {y y':TV} {x x':Cell},vP (gG V ms cs ys)=true→cs[i]?=some c→ys[i]?=some y→i<ms.length→kj V (ms.getD i .pl) c y=some (k,x) →
  cs[j]?=some c'→ys[j]?=some y'→j<ms.length→kj V (ms.getD j .pl) c' y'=some (k,x')→i=j
 | m :: ms,c :: cs,y :: ys,k,0,0,_,_,_,_,_,_,_,_,_,_,_,_,_,_,_=>rfl
 | m :: ms,c :: cs,y :: ys,k,0,j+1,_,_,_,_,_,_,hd,h1,h2,h3,h4,k1,k2,k3,k4=>by
  cases h1;cases h2
  have e:kj V m c y=some (k,_):=h4
  simp only [gG,e] at hd
  exact (xY hd (lX (by simpa using k1) (by simpa using k2) (by simpa using k3) k4) rfl).elim
 | m :: ms,c :: cs,y :: ys,k,i+1,0,_,_,_,_,_,_,hd,h1,h2,h3,h4,k1,k2,k3,k4=>by
  cases k1;cases k2
  have e:kj V m c y=some (k,_):=k4
  simp only [gG,e] at hd
  exact (xY hd (lX (by simpa using h1) (by simpa using h2) (by simpa using h3) h4) rfl).elim
 | m :: ms,c :: cs,y :: ys,k,i+1,j+1,_,_,_,_,_,_,hd,h1,h2,h3,h4,k1,k2,k3,k4=>by
  have Co:vP (gG V ms cs ys)=true:=by
   simp only [gG] at hd
   split at hd
   ·exact B7 hd
   ·exact hd
  rw [vO Co (by simpa using h1) (by simpa using h2) (by simpa using h3) h4 (by simpa using k1) (by simpa using k2) (by simpa using k3) k4]
 | [],_,_,_,_,_,_,_,_,_,_,_,_,_,_,h,_,_,_,_,_=>by simp at h
 | _ :: _,[],_,_,_,_,_,_,_,_,_,_,_,h,_,_,_,_,_,_,_=>by simp at h
 | _ :: _,_ :: _,[],_,_,_,_,_,_,_,_,_,_,_,h,_,_,_,_,_,_=>by simp at h
theorem xb {nt:Nat} {own:Nat→Nat}:∀{l:List Nat} {j:Nat} {outs:List TV} {ns:List (Nat × Cell)},Gf nt own V l j outs=some ns →
  (∀p∈ns,∃q i y,l[q]?=some i∧p=(own (j+q),(y,.pv))∧nV outs i=some y∧qb nt V (own (j+q))=true)∧(∀q i,l[q]?=some i→∃y,nV outs i=some y∧(own (j+q),(y,.pv))∈ns∧qb nt V (own (j+q))=true)
 | [],j,outs,ns,h=>by cases h;exact ⟨by simp,by simp⟩
 | i :: l,j,outs,ns,h=>by
  simp only [Gf] at h
  split at h
  ·rename_i x hx
   obtain ⟨h1,h2⟩:=bC.1 h
   rw [aN] at h2
   obtain ⟨UB,h2,rfl⟩:=h2
   obtain ⟨k1,k2⟩:=xb h2
   refine ⟨fun p hp=>?_,fun q i' hq=>?_⟩
   ·rcases aO.1 hp with rfl | hp
    ·exact ⟨0,i,x,rfl,rfl,hx,h1⟩
    ·obtain ⟨q,i',y,e1,e2,e3,e4⟩:=k1 p hp
     rw [show j+1+q=j+(q+1) by omega] at e2 e4
     exact ⟨q+1,i',y,by simpa using e1,e2,e3,e4⟩
   ·cases q with
    | zero=>cases hq;exact ⟨x,hx,List.mem_cons_self ..,h1⟩
    | succ q =>
     obtain ⟨y,e1,e2,e3⟩:=k2 q i' (by simpa using hq)
     rw [show j+1+q=j+(q+1) by omega] at e2 e3
     exact ⟨y,e1,List.mem_cons_of_mem _ e2,e3⟩
  ·cases h
theorem F7 {R:Reach} {w:World} {l:List Nat} {outs:List TV} {kY:List Value} {i:Nat} {y:TV} (h:iB R w (pV l outs) kY) (hi:i∈l) (hy:nV outs i=some y):∃v,mq kY i=some v:=by
 unfold nV at hy
 unfold mq
 cases hb:Nat.blt i 1000 with
 | true =>
  rw [hb,ai] at hy
  simp only [ai]
  have hl:=h.length
  have:(pV l outs).length=outs.length:=by unfold pV;cases jL l <;> simp
  have fO:=(aD.1 hy).1
  exact ⟨_,aq (by omega)⟩
 | false =>
  rw [hb,ae] at hy
  simp only [ae]
  have hs:jL l=false:=by
   cases hs:jL l with
   | false=>rfl
   | true=>have:=aC.1 hs i hi;rw [hb] at this;cases this
  unfold pV at h
  rw [hs,ae] at h
  match outs,hy with
  | .ag cs :: r,hy =>
   simp only [List.getElem?_cons_zero] at hy
   simp only [aX,M6] at h
   cases h with
   | cons h1 h2 =>
    cases h1 with
    | sc e=>cases e
    | @ag _ ys hL =>
     have hl:=hL.length
     simp only [List.length_mapIdx] at hl
     have fO:=(aD.1 hy).1
     exact ⟨_,aq (l:=ys) (by simpa using (by omega:i - 1000<ys.length))⟩
theorem ui {outs:List TV} {n i:Nat} {y:TV} (h:nV (outs.take n) i=some y):nV outs i=some y:=by
 unfold nV at h ⊢
 have t:∀j x,(outs.take n)[j]?=some x→outs[j]?=some x:=fun j x hj=>by
  rw [aT] at hj
  split at hj
  ·exact hj
  ·cases hj
 cases hb:Nat.blt i 1000 with
 | true=>rw [hb,ai] at h;rw [ai];exact t _ _ h
 | false =>
  rw [hb,ae] at h
  rw [ae]
  split at h
  ·rename_i cs e;rw [t _ _ e];exact h
  ·cases h
end
end Go.Eng
namespace Go.Eng
open Go.RowKit
theorem uT:∀{ms:List Md} {ins outs ys:List TV},backO ms ins outs=some ys→ys.length=ms.length
 | [],_,_,_,h=>by
  simp only [backO] at h
  obtain ⟨_,h⟩:=bC.1 h
  cases h;rfl
 | m :: ms,ins,outs,ys,h=>by
  have key:∀{y:TV} {ins outs:List TV},(backO ms ins outs).map (y :: ·)=some ys→ys.length=(m :: ms).length:=fun h=>by
   rw [aN] at h
   obtain ⟨zs,h1,rfl⟩:=h
   simp [uT h1]
  unfold backO at h
  split at h <;> first | (rename_i e;cases e;exact key h) | (rename_i e _;cases e;exact key h) | (rename_i e _ _;cases e;exact key h) | (cases h;done) | skip
  all_goals simp_all
theorem yu:∀{ms:List Md} {ins outs ys:List TV} {i:Nat},backO ms ins outs=some ys→ms.getD i .pl = .sm→ys[i]?=ins[i]?
 | [],_,_,_,i,_,h=>by simp at h
 | m :: ms,ins,outs,ys,i,h,hm=>by
  have key:∀{y z:TV} {I6 Ht:List TV},ins=z :: I6→(backO ms I6 Ht).map (y :: ·)=some ys→(m = .sm→y=z)→ys[i]?=ins[i]?:=fun {y z I6 Ht} e h hy=>by
   rw [aN] at h
   obtain ⟨zs,h1,rfl⟩:=h
   subst e
   cases i with
   | zero=>simp at hm ⊢;exact hy hm
   | succ i=>simp at hm ⊢;exact yu h1 (by simpa using hm)
  unfold backO at h
  split at h <;> first | (rename_i e;cases e;exact key rfl h (by simp)) | (rename_i e _;cases e;exact key rfl h (by simp)) | (rename_i e _ _;cases e;exact key rfl h (by simp)) | (cases h;done) | skip
  all_goals simp_all
theorem Da (l:List TV):pV [] l=l:=by
 unfold pV
 simp only [jL,List.all_nil,ai]
 apply List.ext_getElem?
 intro i
 rw [List.getElem?_mapIdx]
 cases l[i]? <;> rfl
theorem eP.one {R:Reach} {w:World} {p:Bool} {v:Value} {x:TV} (h:eP R w p v x):v.oneCell'=true:=by
 obtain ⟨t,l,_,⟨_,rfl⟩ | ⟨g,cap,cur,e,fz,rfl,_⟩⟩:=h <;> rfl
section
variable {C:Ctx} {S V:St} {a:Act} {w:World} {R:Reach} {τ:Nat→Value} {o:Oper} {d:Nat}
theorem dX.Ln (h:dX C S a w R τ) (hl:d<C.nt) {v:Value} {x:TV} {g:Gh} (hs:dO R w τ x g v) (hg:g.slot=true) (hm:∀k∈g.db,C.nt≤k∧(S k).2 ≠ .no):tn C (cG S d (x,g)) (a.put (some d) v) w:=by
 refine ⟨R,_,by simp [Act.put,h.size],h.defers,h.core.put hl hs hg hm,fun t ht=>?_,⟨h.io.1,fun k hk=>?_⟩,h.ext,h.gl⟩
 ·by_cases e:t=d
  ·subst e;rw [fP];simp [Act.put,Array.getD,h.size,ht]
  ·rw [gL _ _ e,←h.tmps t ht]
   simp only [Act.put,Array.getD_eq_getD_getElem?]
   rw [Array.getElem?_setIfInBounds_ne (Ne.symm e)]
 ·have:=h.io.1
  rw [gL _ _ (by omega)];exact h.io.2 k hk
theorem EP {f:Nat} {args:Array Operand} {ts:Array TypeId} {x:Operand} (ho:o.op = .call { callee := .value x,args,argTypes:=ts }) (hx:a.eval x = .func (.func f) #[] #[]) (hp:oO C.P f=true):(execOp a.eval o).run C.P w = .ok (.enter f (args.map a.eval)) w:=by
 unfold oO at hp
 cases hf:C.P.funcs[f]? with
 | none=>simp [hf] at hp
 | some fn =>
  simp only [hf,Option.any_some,ah,Bool.not_eq_true',beq_eq_false_iff_ne,ne_eq] at hp
  obtain ⟨h1,h2⟩:=hp
  have U6:fn.body.isNone=false:=by cases hb:fn.body <;> simp [hb] at h1 ⊢
  simp [execOp,ho,resolve,Deferred.ofValue,hx,invoke,callFunc,hf]
  rw [au h2,au (by intro e;rw [e] at h1;cases h1)]
open Classical in
noncomputable def xa (τ:Nat→Value) (own:Nat→Nat) (l:List Nat) (kY:List Value) (k:Nat):Value :=
 if h:∃q i,l[q]?=some i∧own q=k then (mq kY (l.getD h.choose 0)).getD undef else τ k
theorem Dm {own:Nat→Nat} {l:List Nat} {kY:List Value} {q i:Nat} (vB:∀j j',own j=own j'→j=j') (hq:l[q]?=some i):xa τ own l kY (own q)=(mq kY i).getD undef:=by
 have h:∃q' i,l[q']?=some i∧own q'=own q:=⟨q,i,hq,rfl⟩
 unfold xa
 rw [dif_pos h]
 obtain ⟨i',h1,h2⟩:=h.choose_spec
 have:h.choose=q:=vB _ _ h2
 rw [this,show l.getD q 0=i by simp [af,hq]]
theorem Bx {own:Nat→Nat} {l:List Nat} {kY:List Value} {k:Nat} (h:∀q i,l[q]?=some i→own q≠k):xa τ own l kY k=τ k:=by
 unfold xa
 rw [dif_neg]
 rintro ⟨q,i,h1,h2⟩
 exact h q i h1 h2
set_option maxHeartbeats 2000000 in
theorem go_call (h:dX C S a w R τ) (hV:Lt V S) (hd:o.dst=none∨∃d,o.dst=some d∧d<C.nt) {f:Nat} {c:eS} {sg:bW} (hS:bA C.P C.gl f (c,sg)) {args:Array Operand} {ts:Array TypeId} {x:Operand} (ho:o.op = .call { callee := .value x,args,argTypes:=ts }) (hx:a.eval x = .func (.func f) #[] #[])
  {tl:List TypeId} {cs:List Cell} {xs:List TV} {ws:List (Nat × Cell)} {outs:List TV} {own:Nat→Nat} {p:Option Bool} {e:gE} (xF:om C.E C.nt V tl args.toList=some cs) (HF:yw V sg.md cs=some (xs,ws)) (hc:(c xs).holds outs) (vB:0<C.nt→∀j j',own j=own j'→j=j') (he:ym C.nt own V sg cs xs ws p outs=some e):dT C o a w (iu S o.dst e):=by
 unfold ym at he
 obtain ⟨hh,he⟩:=bC.1 he
 simp only [ah] at hh
 obtain ⟨hh,OP⟩:=hh
 have vB:=vB (Nat.le_of_ble_eq_true hh.2)
 have hle:=Nat.le_of_ble_eq_true hh.1
 split at he <;> try (cases he;done)
 rename_i ns ys SH Jc
 obtain ⟨Qs,he⟩:=bC.1 he
 cases he
 simp only [ah] at Qs
 obtain ⟨HP,LF⟩:=Qs
 have LF:∀q∈ws,∀p∈gG V sg.md cs ys,p.1≠q.1:=fun q hq p hp e=>by
  have:=aC.1 (aC.1 LF q hq) p hp
  rw [e] at this;simp at this
 obtain ⟨iZ,_,Jr⟩:=rm h hV xF
 obtain ⟨R1,h1,f1,Jl,hq⟩:=yv h.core hV.q iZ HF
 have h':dX C (ff S ws) a w R1 τ:=h.fz h1 f1
 obtain ⟨LR,Jv⟩:=Jl.len
 generalize OA:args.toList.map a.eval=vs at *
 generalize QE:ff S ws=S1 at *
 have KD:=uT Jc
 obtain ⟨Fv,yF⟩:=xb SH
 simp only [Nat.zero_add] at Fv yF
 -- a handed argument
 have hand:∀i v,vs[i]?=some v→sg.md.getD i .pl ≠ .pl→∃c y x,cs[i]?=some c∧ys[i]?=some y∧xs[i]?=some x∧i<sg.md.length∧A3 R1 w (sg.md.getD i .pl) x v ∧
   ((v = .slice none 0 0∧∀y,kj V (sg.md.getD i .pl) c y=none)∨∃k x',kj V (sg.md.getD i .pl) c y=some (k,x')∧v=τ k∧C.nt≤k∧(S1 k).2.own=true∧(S1 k).2.AE=false∧((S1 k).2.AF=false∨sg.md.getD i .pl = .sm)∧(sg.md.getD i .pl = .sm→S1 k=(x,(V k).2)∧((V k).2 = .pv∨∃r,(V k).2 = .pc r))):=by
  intro i v hv hm
  obtain ⟨c,x,e1,e2,e3⟩:=Jl.get i v hv
  have hi:i<sg.md.length:=by
   rcases Nat.lt_or_ge i sg.md.length with hi | hi
   ·exact hi
   ·rw [af,List.getElem?_eq_none hi] at hm;exact (hm rfl).elim
  have ey:ys[i]?=some ys[i]:=aq (by omega)
  have LQ:=Jr c (aK e1)
  have Lu:∀k x',kj V (sg.md.getD i .pl) c ys[i]=some (k,x')→(V k).2 ≠ .hid→S1 k=V k:=fun k x' hb hg=>by
   have qk:=lX e1 ey hi hb
   rw [←QE,je fun q hq e=>LF q hq _ qk e.symm]
   exact ((hV k).resolve_right hg).symm
  refine ⟨c,ys[i],x,e1,ey,e2,hi,?_⟩
  generalize sg.md.getD i .pl=m at *
  have fA:m ≠ .pl→m ≠ .rf→(∃k g,c=(.pt,.fA k)∧V k=(x,g)∧(g = .pv∨(m = .sm∧∃r,g = .pc r))∧v=τ k)→A3 R1 w m x v∧((v = .slice none 0 0∧∀y,kj V m c y=none)∨∃k x',kj V m c ys[i]=some (k,x')∧v=τ k∧C.nt≤k∧(S1 k).2.own=true∧(S1 k).2.AE=false∧((S1 k).2.AF=false∨m = .sm)∧(m = .sm→S1 k=(x,(V k).2)∧((V k).2 = .pv∨∃r,(V k).2 = .pc r))):=by
   rintro Qj Qi ⟨k,g,rfl,hk,hg,rfl⟩
   have Fw:g.own=true∧g.AE=false∧g ≠ .hid∧∀R w τ x v,iC R w τ x g v=eP R w false v x:=by rcases hg with rfl | ⟨_,r,rfl⟩ <;> exact ⟨rfl,rfl,by simp,fun _ _ _ _ _=>rfl⟩
   obtain ⟨x',hb⟩:∃x',kj V m (.pt,.fA k) ys[i]=some (k,x'):=by cases m <;> first | exact (Qj rfl).elim | exact (Qi rfl).elim | exact ⟨_,rfl⟩
   have e:=Lu k x' hb (by rw [hk];exact Fw.2.2.1)
   have hK:=h1.key k
   rw [e,hk,Fw.2.2.2] at hK
   refine ⟨?_,.inr ⟨k,x',hb,rfl,(LQ.2 k (by simp [Gh.db])).1,by rw [e,hk];exact Fw.1,by rw [e,hk];exact Fw.2.1,by rw [e,hk];exact hg.imp (fun e=>by rw [e];rfl) (·.1),fun _=>by rw [e,hk];exact ⟨rfl,hg.imp id (·.2)⟩⟩⟩
   cases m <;> first | exact (Qj rfl).elim | exact (Qi rfl).elim | exact hK
  cases m with
  | pl=>exact (hm rfl).elim
  | rf =>
   obtain ⟨k,G2,ts,b,zs,el,Fo,rfl,hk,rfl,hb,SV,rfl,hL⟩:=e3
   have e:=Lu k _ rfl (by rw [hk];simp)
   have hK:=h1.key k
   rw [e,hk] at hK
   obtain ⟨b',_,_,_,k1,_,_,_,_,k2⟩:=hK
   rw [hb] at k1;cases k1
   exact ⟨⟨b,zs,el,Fo,hb,SV,rfl,hL,by simp,k2⟩,.inr ⟨k,_,rfl,rfl,(LQ.2 k (by simp [Gh.db])).1,by rw [e,hk];rfl,by rw [e,hk];rfl,.inl (by rw [e,hk];rfl),fun e=>by cases e⟩⟩
  | sl=>exact fA (by simp) (by simp) (e3.resolve_right (by simp))
  | gv =>
   rcases e3 with e3 | ⟨_,t,rfl,rfl,rfl⟩
   ·exact fA (by simp) (by simp) e3
   ·exact ⟨⟨t,[],rfl,.inl ⟨rfl,rfl⟩⟩,.inl ⟨rfl,fun _=>rfl⟩⟩
  | sm =>
   rcases e3 with e3 | ⟨_,t,rfl,rfl,rfl⟩
   ·exact fA (by simp) (by simp) e3
   ·exact ⟨⟨t,[],rfl,.inl ⟨rfl,rfl⟩⟩,.inl ⟨rfl,fun _=>rfl⟩⟩
 have hargs:wa R1 w sg.md xs vs:=⟨LR,fun i x v hx hv=>by
  by_cases hm:sg.md.getD i .pl = .pl
  ·obtain ⟨c,x',_,e2,e3⟩:=Jl.get i v hv
   rw [hx] at e2;cases e2
   rw [hm] at e3 ⊢
   exact e3
  ·obtain ⟨_,_,x',_,_,e2,_,e3,_⟩:=hand i v hv hm
   rw [hx] at e2;cases e2;exact e3⟩
 have OE:Kv (· ≠ .pl) sg.md vs:=fun i j v v' b hi hj hv wh hb kg=>by
  obtain ⟨c,y,_,a1,a2,_,a3,_,a4⟩:=hand i v hv hi
  obtain ⟨c',y',_,b1,b2,_,b3,_,b4⟩:=hand j v' wh hj
  rcases a4 with ⟨rfl,_⟩ | ⟨k,x1,k1,rfl,_,k2,k3,_⟩
  ·cases hb
  rcases b4 with ⟨rfl,_⟩ | ⟨k',x2,l1,rfl,_,l2,l3,_⟩
  ·cases kg
  have:=h1.tE (gD k2 k3 hb) (gD l2 l3 kg)
  subst this
  exact vO HP a1 a2 a3 k1 b1 b2 b3 l1
 obtain ⟨SD,sU⟩:=hS xs outs hc
 intro K Q hK
 unfold Oper.wp
 rw [EP ho hx SD,Oper.upon_enter]
 have e0:(⟨vs⟩:Array Value)=args.map a.eval:=by apply Array.ext';simp [←OA]
 have sU:=sU w R1 vs h1.pT h'.gl hargs OE
 rw [e0] at sU
 refine sU.mono ?_
 rintro e w' ⟨x,R',kY,uZ,rfl,BT,OG,q9⟩
 have:uZ=ys:=by have:=q9.back;simp only at this;rw [Jc] at this;cases this;rfl
 subst this
 simp only at BT q9
 -- the IK N8 RN handed over
 have bk:∀k x,(k,x)∈gG V sg.md cs uZ→∃i v y,vs[i]?=some v∧uZ[i]?=some y∧v=τ k∧C.nt≤k∧(S1 k).2.own=true∧(S1 k).2.AE=false∧((x,sg.md.getD i .pl)∈[((y,.cl []),.rf),((y,.pv),.sl),((.dead,.zz),.gv)]∧(S1 k).2.AF=false∨sg.md.getD i .pl = .sm∧x=S1 k∧y=x.1∧(x.2 = .pv∨∃r,x.2 = .pc r))∧(∀x',(k,x')∈gG V sg.md cs uZ→x'=x):=by
  intro k x qk
  obtain ⟨i,c,y,e1,e2,e3,e4⟩:=nS qk
  have hi:i<vs.length:=by have:=(aD.1 e1).1;omega
  have ev:vs[i]?=some vs[i]:=aq hi
  have hm:sg.md.getD i .pl ≠ .pl:=by intro e;rw [e] at e4;cases e4
  obtain ⟨c',y',xi,a1,a2,ax,a3,_,a4⟩:=hand i _ ev hm
  rw [e1] at a1;cases a1
  rw [e2] at a2;cases a2
  have hu:∀x',(k,x')∈gG V sg.md cs uZ→x'=x:=fun x' vz=>by
   obtain ⟨j,c2,y2,k1,k2,k3,k4⟩:=nS vz
   have:=vO HP e1 e2 e3 e4 k1 k2 k3 k4
   subst this
   rw [e1] at k1;cases k1
   rw [e2] at k2;cases k2
   rw [e4] at k4;cases k4;rfl
  rcases a4 with ⟨_,a4⟩ | ⟨k',x',k1,k2,k3,k4,k5,k6,k7⟩
  ·rw [a4] at e4;cases e4
  ·rw [e4] at k1;cases k1
   refine ⟨i,_,y,ev,e2,k2,k3,k4,k5,?_,hu⟩
   by_cases hs:sg.md.getD i .pl = .sm
   ·right
    obtain ⟨q1,q2⟩:=k7 hs
    have ey:y=xi:=by have:=yu Jc hs;rw [e2,ax] at this;exact Option.some.inj this
    rw [hs] at e4
    unfold kj at e4
    split at e4 <;> first | (cases e4;done) | (rename_i em _;cases em;done) | skip
    rename_i ec
    cases e4
    exact ⟨hs,by rw [q1,ey],rfl,q2⟩
   ·left
    refine ⟨?_,k6.resolve_right hs⟩
    unfold kj at e4
    split at e4 <;> first | (cases e4;done) | (rename_i em _;exact (hs em).elim) | (rename_i em _;cases e4;rw [em];simp)
 have nw:∀q i,sg.own[q]?=some i→(S1 (own q)).2 = .no∧own q<1000000∧C.nt≤own q:=fun q i kf=>gP hq (yF q i kf).choose_spec.2.2
 have KZ:∀k x,(k,x)∈gG V sg.md cs uZ→∀q i,sg.own[q]?=some i→own q≠k:=fun k x qk q i kf e=>by
  obtain ⟨_,_,_,_,_,_,_,ho,_⟩:=bk k x qk
  rw [←e,(nw q i kf).1] at ho;cases ho
 have Ot:∀g,we sg.md vs g→∃k x,(k,x)∈gG V sg.md cs uZ∧gp τ S1 k=some g:=by
  rintro g ⟨i,v,hm,hv,hb⟩
  obtain ⟨c',y',_,a1,a2,_,a3,_,a4⟩:=hand i v hv hm
  rcases a4 with ⟨rfl,_⟩ | ⟨k',x',k1,rfl,k3,k4,k5,_⟩
  ·cases hb
  ·exact ⟨k',x',lX a1 a2 a3 k1,gD k4 k5 hb⟩
 have GG:∀g,we sg.md vs g→C.dA g:=fun g hg=>by obtain ⟨k,_,_,hb⟩:=Ot g hg;exact h1.dA k g hb
 have rv:∀q i,sg.own[q]?=some i→∃v y,mq kY i=some v∧(mq kY i).getD undef=v∧nV (outs.take sg.fo) i=some y∧nV outs i=some y∧eP R' w' false v y:=fun q i kf=>by
  obtain ⟨y,e1,_⟩:=yF q i kf
  have hi:=aK kf
  obtain ⟨v,hv⟩:=F7 q9.rep hi e1
  exact ⟨v,y,hv,by rw [hv];rfl,e1,ui e1,q9.own i hi _ _ hv (ui e1)⟩
 -- the state behind the call
 let mI:=xa τ own sg.own kY
 have t1:∀q i,sg.own[q]?=some i→mI (own q)=(mq kY i).getD undef:=fun q i=>Dm vB
 have t2:∀k,(∀q i,sg.own[q]?=some i→own q≠k)→mI k=τ k:=fun k=>Bx
 have Jk:ff S (gG V sg.md cs uZ++(ns++ws))=ff (ff S1 ns) (gG V sg.md cs uZ):=by rw [iM,iM,QE]
 generalize KP:ff S (gG V sg.md cs uZ++(ns++ws))=S' at *
 have s1:∀k x,(k,x)∈gG V sg.md cs uZ→S' k=x:=fun k x qk=>by
  obtain ⟨_,_,_,_,_,_,_,_,_,_,hu⟩:=bk k x qk
  rw [Jk];exact vi qk hu
 have s2:∀q i y,sg.own[q]?=some i→nV (outs.take sg.fo) i=some y→S' (own q)=(y,.pv):=fun q i y kf hy=>by
  obtain ⟨y',e1,e2,_⟩:=yF q i kf
  rw [hy] at e1;cases e1
  rw [Jk,je fun p hp e=>KZ p.1 p.2 hp q i kf e.symm]
  refine vi e2 fun z hz=>?_
  obtain ⟨q',i',y2,k1,k2,k3,_⟩:=Fv _ hz
  have ek:own q=own q':=congrArg Prod.fst k2
  have:=vB _ _ ek
  subst this
  rw [kf] at k1;cases k1
  rw [hy] at k3;cases k3
  exact congrArg Prod.snd k2
 have s3:∀k,(∀x,(k,x) ∉ gG V sg.md cs uZ)→(∀q i,sg.own[q]?=some i→own q≠k)→S' k=S1 k:=fun k hb hn=>by
  rw [Jk,je fun p hp e=>hb p.2 (by rw [←e];exact hp),je fun p hp e=>by
   obtain ⟨q,i,y,k1,rfl,_⟩:=Fv p hp
   exact hn q i k1 e]
 have D1:Core C.nt R' w' C.dA mI S':=by
  refine h1.step (fun k=>(∃x,(k,x)∈gG V sg.md cs uZ)∨∃q i,sg.own[q]?=some i∧own q=k) BT.dB (fun k hk=>?_) (fun k g hk hb=>?_) ?_ ?_ ?_ ?_ ?_ ?_ (fun _=>id) ?_ OG ?_
  ·have e1:∀q i,sg.own[q]?=some i→own q≠k:=fun q i a b=>hk (.inr ⟨q,i,a,b⟩)
   exact ⟨s3 k (fun x hx=>hk (.inl ⟨x,hx⟩)) e1,t2 k e1⟩
  ·have fO:=h1.lt hb
   have Qf:¬we sg.md vs g:=fun hg=>by
    obtain ⟨k',x,hm,kg⟩:=Ot g hg
    obtain ⟨_,_,_,_,_,_,_,_,hp,_⟩:=bk k' x hm
    have:=h1.tE kg hb
    subst this
    exact hk (.inl ⟨x,hm⟩)
   exact ⟨BT.heap g fO Qf,fun o hr=>(BT.Bl g o hr).resolve_right (by rintro (h | h);exact absurd fO (by omega);exact Qf h)⟩
  ·rintro k (⟨x,hx⟩ | ⟨q,i,kf,rfl⟩)
   ·obtain ⟨i,v,y,e1,e2,rfl,e3,e4,e5,e6,_⟩:=bk k x hx
    have hB:=q9.MA i y _ e2 e1
    rw [s1 k x hx,t2 k (KZ k x hx)]
    simp only [aO,Prod.mk.injEq,List.not_mem_nil,or_false] at e6
    rcases e6 with ⟨⟨rfl,em⟩ | ⟨rfl,em⟩ | ⟨rfl,em⟩,_⟩ | ⟨em,_,rfl,Tv⟩ <;> rw [em] at hB
    ·obtain ⟨b,cs,e,xs,k1,k2,k3,k4,k5,k6⟩:=hB
     exact ⟨b,cs,e,xs,k1,k2,k3,k4,by simp,k6⟩
    ·exact hB
    ·trivial
    ·rcases Tv with e | ⟨r,e⟩ <;> rw [e] <;> exact hB
   ·obtain ⟨v,y,e1,e2,e3,e4,e5⟩:=rv q i kf
    rw [s2 q i y kf e3,t1 q i kf,e2]
    exact e5
  ·rintro k (⟨x,hx⟩ | ⟨q,i,kf,rfl⟩)
   ·exact .inl (t2 k (KZ k x hx))
   ·exact .inr (.inr (nw q i kf).1)
  ·rintro k (⟨x,hx⟩ | ⟨q,i,kf,rfl⟩)
   ·obtain ⟨i,v,y,e1,e2,rfl,e3,e4,e5,e6,_⟩:=bk k x hx
    rw [s1 k x hx]
    simp only [aO,Prod.mk.injEq,List.not_mem_nil,or_false] at e6
    right
    rcases e6 with ⟨⟨rfl,em⟩ | ⟨rfl,em⟩ | ⟨rfl,em⟩,_⟩ | ⟨em,_,rfl,e | ⟨r,e⟩⟩ <;> first | (rw [e];simp) | simp
   ·obtain ⟨v,y,e1,e2,e3,e4,e5⟩:=rv q i kf
    rw [s2 q i y kf e3];right;simp
  ·rintro k (⟨x,hx⟩ | ⟨q,i,kf,rfl⟩)
   ·obtain ⟨i,v,y,e1,e2,rfl,e3,e4,e5,e6,_⟩:=bk k x hx
    rw [s1 k x hx]
    simp only [aO,Prod.mk.injEq,List.not_mem_nil,or_false] at e6
    rcases e6 with ⟨e6,hP⟩ | ⟨em,ex,_⟩
    ·exact .inl ⟨hP,by rcases e6 with ⟨rfl,em⟩ | ⟨rfl,em⟩ | ⟨rfl,em⟩ <;> rfl⟩
    ·exact .inr ⟨e5,ex⟩
   ·obtain ⟨v,y,e1,e2,e3,e4,e5⟩:=rv q i kf
    rw [s2 q i y kf e3,(nw q i kf).1];exact .inl ⟨rfl,rfl⟩
  ·rintro k (⟨x,hx⟩ | ⟨q,i,kf,rfl⟩) _
   ·obtain ⟨i,v,y,e1,e2,rfl,e3,e4,e5,e6,_⟩:=bk k x hx
    exact .inl e4
   ·exact .inr (nw q i kf).1
  ·have BI:∀k x,(k,x)∈gG V sg.md cs uZ→(S' k).2.own=true→∃i,(sg.md.getD i .pl).BI∧vs[i]?=some (τ k):=fun k x hx ho=>by
    obtain ⟨i,v,y,e1,e2,rfl,e3,e4,e5,e6,_⟩:=bk k x hx
    rw [s1 k x hx] at ho
    refine ⟨i,?_,e1⟩
    simp only [aO,Prod.mk.injEq,List.not_mem_nil,or_false] at e6
    rcases e6 with ⟨⟨rfl,em⟩ | ⟨rfl,em⟩ | ⟨rfl,em⟩,_⟩ | ⟨em,_⟩ <;> rw [em] <;> first | (cases ho;done) | exact ⟨by simp,by simp⟩
   have H3:∀k x q i g,(k,x)∈gG V sg.md cs uZ→sg.own[q]?=some i→gp mI S' k=some g→gp mI S' (own q)=some g→False:=fun k x q i g hx kf h1 h2=>by
    obtain ⟨o1,b1⟩:=fG h1
    obtain ⟨o2,b2⟩:=fG h2
    obtain ⟨j,l1,l2⟩:=BI k x hx o1
    obtain ⟨v,y,e1,e2,e3,e4,e5⟩:=rv q i kf
    rw [t1 q i kf,e2] at b2
    rw [t2 k (KZ k x hx)] at b1
    exact q9.Oc i (aK kf) v g e1 b2 j _ l1 l2 b1
   rintro k g (⟨x,hx⟩ | ⟨q,i,kf,rfl⟩) hb
   ·obtain ⟨i,v,y,e1,e2,rfl,e3,e4,e5,e6,_⟩:=bk k x hx
    have b1:=(fG hb).2
    rw [t2 k (KZ k x hx)] at b1
    have b2:=gD e4 e5 b1
    refine ⟨h1.dA k g b2,?_,.inr ⟨k,.inl ⟨x,hx⟩,b2⟩⟩
    rintro k' (⟨x',vz⟩ | ⟨q,i,kf,rfl⟩) lB kg
    ·obtain ⟨_,_,_,_,_,_,_,f4,f5,_⟩:=bk k' x' vz
     have b3:=(fG kg).2
     rw [t2 k' (KZ k' x' vz)] at b3
     exact lB (h1.tE b2 (gD f4 f5 b3)).symm
    ·exact H3 k x q i g hx kf hb kg
   ·obtain ⟨v,y,e1,e2,e3,e4,e5⟩:=rv q i kf
    have b1:=(fG hb).2
    rw [t1 q i kf,e2] at b1
    have hm:=q9.dA i (aK kf) v g e1 b1
    refine ⟨hm.elim (GG g) fun e => .inr (Nat.le_trans h'.ext.size e),?_,hm.symm.imp id fun hg=>?_⟩
    ·rintro k' (⟨x',vz⟩ | ⟨q',i',Jj,rfl⟩) lB kg
     ·exact H3 k' x' q i g vz kf kg hb
     ·obtain ⟨v',y',f1,f2,_⟩:=rv q' i' Jj
      have b2:=(fG kg).2
      rw [t1 q' i' Jj,f2] at b2
      exact lB (by rw [q9.Od q q' i i' v v' g kf Jj e1 f1 b1 b2])
    ·obtain ⟨k0,x0,h0,og⟩:=Ot g hg
     exact ⟨k0,.inl ⟨x0,h0⟩,og⟩
  ·rintro k (⟨x,hx⟩ | ⟨q,i,kf,rfl⟩) j hj
   ·obtain ⟨i,v,y,e1,e2,rfl,e3,e4,e5,e6,_⟩:=bk k x hx
    rw [s1 k x hx] at hj
    simp only [aO,Prod.mk.injEq,List.not_mem_nil,or_false] at e6
    rcases e6 with ⟨⟨rfl,em⟩ | ⟨rfl,em⟩ | ⟨rfl,em⟩,_⟩ | ⟨em,ex,_⟩ <;> first | (simp [Gh.db] at hj;done) | skip
    rw [ex] at hj
    obtain ⟨q1,q2⟩:=h1.inv k j hj
    refine ⟨q1,?_⟩
    by_cases hb:∃x',(j,x')∈gG V sg.md cs uZ
    ·obtain ⟨x',vz⟩:=hb
     obtain ⟨i',_,_,_,_,_,_,f3,_,f6,_⟩:=bk j x' vz
     rw [s1 j x' vz]
     simp only [aO,Prod.mk.injEq,List.not_mem_nil,or_false] at f6
     rcases f6 with ⟨⟨rfl,_⟩ | ⟨rfl,_⟩ | ⟨rfl,_⟩,_⟩ | ⟨_,rfl,_⟩ <;> first | (simp;done) | exact q2
    ·rw [s3 j (fun x' vz=>hb ⟨x',vz⟩) fun q i kf e=>by rw [←e] at q2;exact q2 (nw q i kf).1]
     exact q2
   ·obtain ⟨v,y,e1,e2,e3,e4,e5⟩:=rv q i kf
    rw [s2 q i y kf e3] at hj
    simp [Gh.db] at hj
  ·rintro k (⟨x,hx⟩ | ⟨q,i,kf,rfl⟩) hk
   ·obtain ⟨_,_,_,_,_,_,e3,_⟩:=bk k x hx;omega
   ·have:=(nw q i kf).2.2;omega
 have xB:dX C S' a w' R' mI:=⟨h'.size,h'.defers,D1,fun t ht=>by
   rw [t2 t fun q i kf e=>by have:=(nw q i kf).2.2;omega];exact h'.tmps t ht,
  ⟨h'.io.1,fun k hk=>by rw [t2 k fun q i kf e=>by have:=(nw q i kf).2.1;omega];exact h'.io.2 k hk⟩,h'.ext.trans BT (fun b hb=>GG b hb),h'.gl.dB BT.dB⟩
 show K (a.put o.dst x) w'
 rcases hd with hd | ⟨d,hd,hl⟩
 ·rw [hd] at hK ⊢
  exact hK _ _ ⟨R',mI,show dX C _ a w' R' mI by simpa only [iu,KP] using xB⟩
 ·rw [hd] at hK ⊢
  refine hK _ _ ?_
  simp only [iu,KP]
  have uA:dO R' w' mI (Bo own sg (outs.take sg.fo)).1 (Bo own sg (outs.take sg.fo)).2 x∧(Bo own sg (outs.take sg.fo)).2.slot=true∧∀k∈(Bo own sg (outs.take sg.fo)).2.db,∃q i,sg.own[q]?=some i∧k=own q:=by
   have jl:=q9.rep
   unfold Bo
   cases hb:Nat.beq sg.fo 1 with
   | true =>
    have hb:=av hb
    have hx:=q9.val
    simp only [hb,if_true] at hx
    have hl:=q9.len
    simp only [hb] at hl
    obtain ⟨v,rfl⟩:∃v,kY=[v]:=by
     match kY,hl with
     | [v],_=>exact ⟨v,rfl⟩
    subst hx
    simp only [ai]
    cases ho:sg.own with
    | nil =>
     rw [ho,Da] at jl
     refine ⟨?_,rfl,by simp [Gh.db]⟩
     generalize outs.take sg.fo=l at *
     cases jl with
     | cons hr _=>exact .no hr
    | cons i r =>
     have h0:sg.own[0]?=some i:=by rw [ho];rfl
     obtain ⟨v',y,e1,e2,e3,e4,e5⟩:=rv 0 i h0
     cases KM:Nat.blt i 1000 with
     | true =>
      have B4:=e1
      unfold mq at B4
      rw [KM,ai] at B4
      have hi:i=0:=by have:=(aD.1 B4).1;simp at this;exact this
      subst hi
      cases B4
      dsimp only
      simp only [KM,ai]
      exact ⟨⟨by rw [t1 0 0 h0];rfl,e5.one⟩,rfl,fun k hk=>⟨0,0,by rw [←ho];exact h0,by simpa [Gh.db] using hk⟩⟩
     | false =>
      have B4:=e1
      unfold mq at B4
      rw [KM,ae] at B4
      simp only [List.getElem?_cons_zero] at B4
      have LL:jL (i :: r)=false:=by unfold jL;rw [List.all_cons,KM];rfl
      rw [ho] at jl
      dsimp only
      simp only [KM,ae]
      unfold pV at jl ⊢
      rw [LL] at jl ⊢
      simp only [ae] at jl ⊢
      unfold nV at e3
      rw [KM,ae] at e3
      generalize outs.take sg.fo=l at *
      match l,e3,jl with
      | .ag G2 :: l',_,jl =>
       simp only [aX,M6] at jl ⊢
       cases jl with
       | cons hr ht =>
        cases hr with
        | sc e=>cases e
        | @ag _ ys hL =>
         have xG:ys[i - 1000]?=some (mI (own 0)):=by rw [t1 0 i h0,e2];exact B4
         exact ⟨⟨_,_,rfl,rfl,hL,fun p hp=>by simp at hp;subst hp;exact xG⟩,rfl,fun k hk=>⟨0,i,by rw [←ho];exact h0,by simpa [Gh.db] using hk⟩⟩
   | false =>
    have hb:sg.fo≠1:=fun e=>by rw [e] at hb;cases hb
    have hx:=q9.val
    simp only [au hb] at hx
    subst hx
    simp only [ae]
    cases ho:sg.own with
    | nil =>
     rw [ho] at jl
     exact ⟨.no (.tu jl),rfl,by simp [Gh.db]⟩
    | cons i r =>
     simp only [List.isEmpty_cons,ae]
     rw [←ho]
     have key:∀p∈(sg.own.mapIdx fun j i=>(i,own j)),∃q,sg.own[q]?=some p.1∧p.2=own q:=fun p hp=>by
      obtain ⟨q,hq⟩:=List.mem_iff_getElem?.1 hp
      rw [List.getElem?_mapIdx,aN] at hq
      obtain ⟨i,h1,rfl⟩:=hq
      exact ⟨q,h1,rfl⟩
     refine ⟨⟨kY,_,rfl,rfl,jl,fun p hp=>?_⟩,rfl,fun k hk=>?_⟩
     ·obtain ⟨q,k1,k2⟩:=key p hp
      obtain ⟨v',y,e1,e2,e3,e4,e5⟩:=rv q p.1 k1
      have LL:jL sg.own=true:=by
       unfold okO at OP
       cases hs:jL sg.own with
       | true=>rfl
       | false=>rw [hs,Bool.false_or,ah] at OP;exact (hb (av OP.1)).elim
      have B4:=e1
      unfold mq at B4
      rw [aC.1 LL p.1 (aK k1),ai] at B4
      rw [k2,t1 q p.1 k1,e2,B4]
     ·obtain ⟨p,hp,rfl⟩:=bg.1 hk
      obtain ⟨q,k1,k2⟩:=key p hp
      exact ⟨q,p.1,k1,k2⟩
  refine xB.Ln hl uA.1 uA.2.1 fun k hk=>?_
  obtain ⟨q,i,kf,rfl⟩:=uA.2.2 k hk
  obtain ⟨v,y,e1,e2,e3,e4,e5⟩:=rv q i kf
  exact ⟨(nw q i kf).2.2,by rw [s2 q i y kf e3];simp⟩
end
end Go.Eng
namespace Go.Eng
open Go.RowKit
theorem CD {P:Program} {w:World} {nm:String} {b:Nat} (hb:Fl.num b=true):(Extern.MathFloor.toIntegral nm .zero #[.float .f64 b]).run P w = .ok (.float .f64 (Fl.jW b)) w:=by
 unfold Fl.num at hb
 have e:Extern.MathFloor.toIntegral nm .zero #[.float .f64 b]=(match FloatKind.f64.decode b with
  | .nan s t =>
   if FloatKind.f64.format.quiet t=t then pure (.float .f64 b) else do
   let kept ←choose (.extern "math.Floor,Ceil,Trunc,RoundToEven.signallingNaN kept" 2)
   pure (.float .f64 (if kept == 1 then b else FloatKind.f64.encode (.nan s (FloatKind.f64.format.quiet t))))
  | d=>pure (.float .f64 (FloatKind.f64.encode (d.integral .zero)))):=rfl
 rw [e]
 unfold Fl.jW
 cases hd:FloatKind.f64.decode b with
 | nan s t=>rw [hd] at hb;cases hb
 | number s m e=>rfl
 | infinity s=>rfl
theorem Eg {fn:Func} {nm:String} {f:Array Value→Sem Value} (h:fn.name=nm) (e1:Extern.allGenericRows.lookup nm=none) (e2:Extern.allTypedRows.lookup nm=none) (e3:Extern.allRows.lookup nm=some f):Extern.find fn=some f:=by
 unfold Extern.find
 simp only [h,e1,e2,e3]
 rfl
theorem Ef {fn:Func} {nm:String} (h:fn.name=nm) (h2:fn.origin = "" ∨ fn.origin=nm) (e1:Extern.allNextRows.lookup nm=none):Extern.findNext fn=none:=by
 have e2:(Extern.allNextRows.lookup "")=none:=by kernel_rfl
 unfold Extern.findNext
 rcases h2 with h2 | h2 <;> simp only [h,h2,e1,e2] <;> rfl
section
variable {C:Ctx} {S V:St} {a:Act} {w:World} {R:Reach} {τ:Nat→Value} {o:Oper}
theorem yk {f:Nat} {nm:String} {args:Array Operand} {ts:Array TypeId} {g:Array Value→Sem Value} {vs:Array Value} {v:Value} (ho:o.op = .call { callee := .value (.func f),args:=args,argTypes:=ts }) (hv:args.map a.eval=vs) (hf:pj C.P f nm=true) (hg:(nm == "runtime.NumGoroutine")=false)
  (e1:Extern.allGenericRows.lookup nm=none) (e2:Extern.allTypedRows.lookup nm=none) (e3:Extern.allRows.lookup nm=some g) (e4:Extern.allNextRows.lookup nm=none) (hr:(g vs).run C.P w = .ok v w):(execOp a.eval o).run C.P w = .ok (.value v) w:=by
 unfold pj at hf
 cases hfn:C.P.funcs[f]? with
 | none=>simp [hfn] at hf
 | some fn =>
  simp only [hfn,Option.any_some,ah,beq_iff_eq,Bool.or_eq_true] at hf
  obtain ⟨⟨hn,hb⟩,SF⟩:=hf
  have sU:=run_callFunc_extern (P:=C.P) hfn (by rw [hn];simpa using hg) hb (Ef hn SF e4) (Eg hn e1 e2 e3) vs w
  rw [hr] at sU
  have he:a.eval (.func f) = .func (.func f) #[] #[]:=rfl
  simp only [execOp,ho,resolve,Deferred.ofValue,he,invoke]
  simpa [hv,resolve,Deferred.ofValue,invoke] using sU
theorem dT.any (h:dX C S a w R τ) (hd:o.dst=none∨∃d,o.dst=some d∧d<C.nt) {v:Value} {x:TV} (hr:(execOp a.eval o).run C.P w = .ok (.value v) w) (hs:Rep R w x v):dT C o a w (iu S o.dst ⟨none,(x,.no),[]⟩):=by
 rcases hd with hd | ⟨d,hd,hl⟩
 ·intro K Q hK
  unfold Oper.wp
  rw [hr,Oper.upon_value,hd]
  rw [hd] at hK
  exact hK _ _ ⟨R,τ,h⟩
 ·rw [hd];exact h.gF hd hl hr hs
theorem go_xtn (h:dX C S a w R τ) (hV:Lt V S) (hd:o.dst=none∨∃d,o.dst=some d∧d<C.nt) {f:Nat} {args:Array Operand} {ts:Array TypeId} {e:gE} (hp:∀p,e.p=some p→p=true) (ho:o.op = .call { callee := .value (.func f),args:=args,argTypes:=ts }) (he:JU C.P f (om C.E C.nt V ts.toList args.toList)=some e):dT C o a w (iu S o.dst e):=by
 cases xF:om C.E C.nt V ts.toList args.toList with
 | none=>rw [xF] at he;cases he
 | some cs =>
  obtain ⟨iZ,_,_⟩:=rm h hV xF
  have ea:∀{vs:List Value},args.toList.map a.eval=vs→args.map a.eval=⟨vs⟩:=fun hv=>by apply Array.ext';simpa using hv
  rw [xF] at he
  unfold JU at he
  split at he
  ·rename_i b hb
   cases hb
   obtain ⟨h1,h2⟩:=bC.1 he
   cases h2
   generalize hv:args.toList.map a.eval=vs at iZ
   cases iZ with
   | cons a1 _ t =>
    cases t
    obtain rfl:=(iV.rep a1).of_val rfl
    have:=yk ho (ea hv) h1 (by decide +kernel) (by kernel_rfl) (by kernel_rfl) (by kernel_rfl) (by kernel_rfl) (CD (P:=C.P) (w:=w) (nm:=CG) (hp _ rfl))
    exact dT.any h hd this (.sc rfl)
  ·rename_i l c hb
   cases hb
   obtain ⟨h1,h2⟩:=bC.1 he
   cases h2
   generalize hv:args.toList.map a.eval=vs at iZ
   cases iZ with
   | cons a1 _ t =>
    cases t with
    | cons a2 _ t =>
     cases t
     obtain rfl:=(iV.rep a1).of_val rfl
     obtain rfl:=(iV.rep a2).of_val rfl
     have hr:(Extern.BytealgIndexByte.indexByte #[.string ⟨⟨l⟩⟩,.int .u8 c.toNat]).run C.P w = .ok (.int .i64 (Lib.indexByte l c)) w:=by
      rw [Lib.run_indexByteString];simp
     have:=yk ho (ea hv) h1 (by decide +kernel) (by kernel_rfl) (by kernel_rfl) (by kernel_rfl) (by kernel_rfl) hr
     exact dT.any h hd this (.sc rfl)
  ·cases he
end
end Go.Eng
namespace Go.Eng
open Go.RowKit
theorem Ca {e:gE} {st:fe} {l:List st.El} {lo hi:Option Int} (he:Ka st l lo hi=some e) (hp:∀p,e.p=some p→p=true):gA (lo.getD 0) (hi.getD l.length) l.length=true∧e.x=(.sl st ((l.take (hi.getD l.length).toNat).drop (lo.getD 0).toNat),.no)∧e.ws=[]:=by
 unfold Ka at he
 split at he <;> cases he
 ·exact ⟨hp _ rfl,rfl,rfl⟩
 ·exact ⟨hp _ rfl,by simp,rfl⟩
 ·exact ⟨hp _ rfl,by simp,rfl⟩
 ·exact ⟨by simp [gA],by simp,rfl⟩
theorem B8 {e:gE} {l:bz} {lo hi:Option Int} (he:J9 l lo hi=some e) (hp:∀p,e.p=some p→p=true):gA (lo.getD 0) (hi.getD l.length) l.length=true∧e.x=(.s ((l.take (hi.getD l.length).toNat).drop (lo.getD 0).toNat),.no)∧e.ws=[]:=by
 unfold J9 at he
 split at he <;> cases he
 ·exact ⟨hp _ rfl,rfl,rfl⟩
 ·exact ⟨hp _ rfl,by simp,rfl⟩
 ·exact ⟨hp _ rfl,by simp,rfl⟩
 ·exact ⟨by simp [gA],by simp,rfl⟩
theorem zT {l:List (Nat × Nat)} {m:Nat} (h:(l.all fun t=>!Nat.beq t.2 m)=true) (t:Nat × Nat) (ht:t∈l):t.2≠m:=fun e=>by
 have:=aC.1 h t ht
 rw [e] at this;simp at this
theorem vV {l:List (Nat × Cell)} {m:Nat} (h:(l.all fun t=>!Nat.beq t.1 m)=true) (t:Nat × Cell) (ht:t∈l):t.1≠m:=fun e=>by
 have:=aC.1 h t ht
 rw [e] at this;simp at this
theorem xO {V:St} {c:Cell} {x:TV} {ws:List (Nat × Cell)} (h:AN V c=some (x,ws)) (p:Nat × Cell) (hp:p∈ws):p.1∈c.2.db:=by
 unfold AN at h
 split at h
 ·split at h
  ·cases h;simp only [List.mem_singleton] at hp;subst hp;simp [Gh.db]
  ·cases h;cases hp
  ·obtain ⟨_,h⟩:=bC.1 h;cases h;cases hp
  ·cases h
 ·cases h;cases hp
 ·cases h
theorem oz {V:St} {o n:Nat}:∀{ts:List (Nat × Nat)} {cs ds:List TV} {ws:List (Nat × Cell)},l6 V o n ts cs=some (ds,ws)→∀p∈ws,p.1∈ts.map (·.2)
 | [],_,_,_,h,p,hp=>by cases h;cases hp
 | (c,k) :: ts,cs,ds,ws,h,p,hp=>by
  simp only [l6] at h
  split at h
  ·rename_i G2 MY h1
   cases hb:(Nat.ble o c&&Nat.blt c (o+n)) with
   | true =>
    rw [hb,ai] at h
    split at h
    ·rename_i h2
     cases h
     rcases List.mem_append.1 hp with hp | hp
     ·have:=xO h2 p hp
      simp [Gh.db] at this
      exact this ▸ List.mem_cons_self ..
     ·exact List.mem_cons_of_mem _ (oz h1 p hp)
    ·cases h
   | false=>rw [hb,ae] at h;cases h;exact List.mem_cons_of_mem _ (oz h1 p hp)
  ·cases h
theorem Eb {V:St} {c:Cell} {x:TV} {ws:List (Nat × Cell)} (h:xP V c=some (x,ws)) (p:Nat × Cell) (hp:p∈ws):p.1∈c.2.db:=by
 unfold xP at h
 split at h
 ·split at h
  ·rename_i hf;cases h;exact oz hf p hp
  ·cases h
 ·exact xO h p hp
theorem Bt {E:cC} {nt:Nat} {V V':St} {t:TypeId} {x:Operand} (h:∀i,i<nt→V' i=V i):fR E nt V' t x=fR E nt V t x:=by
 cases x <;> try rfl
 rename_i i
 unfold fR
 by_cases hi:i<nt
 ·simp only [h i hi]
 ·have:Nat.blt i nt=false:=by
   cases hb:Nat.blt i nt with
   | false=>rfl
   | true=>exact absurd (Nat.le_of_ble_eq_true hb) hi
  simp only [this,fg,ae]
theorem Lt.ff {V S:St} (h:Lt V S):∀ws:List (Nat × Cell),Lt (ff V ws) (ff S ws)
 | []=>h
 | (k,x) :: ws=>fun j=>by
  by_cases e:j=k
  ·subst e;simp only [Go.Eng.ff,bT];exact .inl trivial
  ·simp only [Go.Eng.ff,dc _ _ e];exact h.ff ws j
section
variable {C:Ctx} {S V:St} {a:Act} {w:World} {R:Reach} {τ:Nat→Value} {o:Oper} {d:Nat} {own:Nat→Nat} {e:gE} (h:dX C S a w R τ) (hV:Lt V S) (hE:ji C.P C.E) (hp:∀p,e.p=some p→p=true)
include h hV hE hp
section
variable (hd:o.dst=some d) (hl:d<C.nt)
include hd hl
omit hE in
theorem EJ {s t:TypeId} {x:Operand} {c:Cell} {y:TV} (ho:o.op = .convert s t x) (hx:fR C.E C.nt V s x=some c) (hy:tq V c=some y) (he:EK C.P C.nt own V s t y=some e):dT C o a w (iu S (some d) e):=by
 unfold EK at he
 split at he
 ·rename_i hs ht
  split at he <;> cases he
  exact go_ci h hV hd hl ho hx hy (by assumption) hs ht
 ·rename_i hs ht
  split at he <;> cases he
  exact go_cf h hV hd hl ho hx hy (by rw [hs];rfl) ht
 ·rename_i hs ht
  split at he <;> cases he
  exact go_fc h hV hd hl ho hx hy (hp _ rfl) (by rw [hs];rfl) ht
 ·rename_i hs ht
  split at he <;> cases he
  exact go_cs h hV hd hl ho hx hy hs ht
 ·rename_i hs ht
  split at he
  ·rename_i hu
   obtain ⟨h1,h2⟩:=bC.1 he
   cases h2
   exact go_sb h hd hl hV ho hx hy hs ht hu (hp _ rfl) (gP hV.q h1)
  ·cases he
 ·rename_i hs ht
  split at he <;> cases he
  exact go_bs h hV hd hl ho hx hy hs (by assumption) ht
 ·cases he
theorem A0 {t u:TypeId} {x y:Operand} {st st':fe} {nQ:Nat} {c:Cell} {m:List st'.El} {du:TypeDesc} {news:List Value} (ho:o.op = .call { callee := .builtin .append,args:=#[x,y],argTypes:=#[t,u] }) (ht:C.E.ty t=some (st,nQ)) (hx:fR C.E C.nt V t x=some c) (hu:C.P.underlying u=some du) (vC:∀k,du ≠ .int k)
  (sS:Source C.P w st'.size (a.eval y) m.length news) (hL:dq R w ((m.map st'.tv).flatMap TV.cells) news) (he:Hg C.E C.nt own V st nQ c st' m=some e):dT C o a w (iu S (some d) e):=by
 unfold Hg at he
 split at he
 ·rename_i k
  obtain ⟨q1,_,q3⟩:=fS h hV hx
  have hv:a.eval x=τ k:=q1.1
  have Jw:C.nt≤k:=(q3 k (by simp [Gh.db])).1
  split at he
  ·rename_i t' l hk
   split at he
   ·obtain ⟨h0,hq⟩:=bC.1 he
    clear he
    obtain rfl:=ar h0
    unfold Ax at hq
    split at hq
    ·rename_i n hn
     obtain ⟨h1,h2⟩:=bC.1 hq
     cases h2
     obtain ⟨e1,rfl⟩:=fe.vU hn
     subst e1
     exact go_lend h hV hd hl hE ho ht hv Jw (hV.of hk) hu vC sS hL (hp _ rfl) (gP hV.q h1)
    ·cases hq
   split at he
   ·rename_i n hn
    obtain ⟨h1,h2⟩:=bC.1 he
    cases h2
    simp only [ah,aA] at h1
    obtain ⟨rfl,h1⟩:=h1
    obtain ⟨e1,rfl⟩:=fe.vU hn
    subst e1
    exact go_app h hV hd hl hE ho ht hx (hV.of hk) hu vC sS hL (hp _ rfl) (gP hV.q h1) (.inl ⟨rfl,rfl,rfl⟩)
   ·cases he
  ·rename_i t' l d0 hk
   obtain ⟨h0,hq⟩:=bC.1 he
   clear he
   obtain rfl:=ar h0
   unfold Ax at hq
   split at hq
   ·rename_i n hn
    obtain ⟨h1,h2⟩:=bC.1 hq
    cases h2
    obtain ⟨e1,rfl⟩:=fe.vU hn
    subst e1
    have hk:=hV.of hk
    obtain ⟨p1,_⟩:=h.core.par k d0 (by rw [hk])
    obtain ⟨n1,n2,n3⟩:=gP hV.q h1
    have c1:own 0≠k:=by intro e;rw [e,hk] at n1;cases n1
    have c2:own 0≠d0:=by intro e;rw [e,p1] at n1;cases n1
    have c3:k≠d0:=by rintro rfl;rw [hk] at p1;cases p1
    have hr:=h.recover hk
    have:=go_lend hr (Lt.refl _) hd hl hE ho ht hv Jw (by rw [dc _ _ c3,bT]) hu vC sS hL (hp _ rfl) (k2:=own 0) ⟨by rw [dc _ _ c2,dc _ _ c1];exact n1,n2,n3⟩
    have e2:cG (cG (cG (cG S k (.sl st' l,.pv)) d0 (.dead,.zz)) k (.sl st' l,.pw (own 0))) (own 0) (.sl st' (l++m),.pc k)=cG (cG (cG S d0 (.dead,.zz)) k (.sl st' l,.pw (own 0))) (own 0) (.sl st' (l++m),.pc k):=by
     funext j
     by_cases j1:j=own 0
     ·rw [j1,bT,bT]
     ·rw [dc _ _ j1,dc _ _ j1]
      by_cases j2:j=k
      ·rw [j2,bT,bT]
      ·rw [dc _ _ j2,dc _ _ j2]
       by_cases j3:j=d0
       ·rw [j3,bT,bT]
       ·rw [dc _ _ j3,dc _ _ j3,dc _ _ j2]
    rw [e2] at this
    exact this
   ·cases hq
  ·rename_i t' l hk
   split at he
   ·rename_i n hn
    obtain ⟨h1,h2⟩:=bC.1 he
    cases h2
    simp only [ah,aA] at h1
    obtain ⟨rfl,h1⟩:=h1
    obtain ⟨e1,rfl⟩:=fe.vU hn
    subst e1
    exact go_app h hV hd hl hE ho ht hx (hV.of hk) hu vC sS hL (hp _ rfl) (gP hV.q h1) (.inr ⟨rfl,rfl,rfl⟩)
   ·cases he
  ·cases he
 ·rename_i t'
  obtain ⟨h1,h2⟩:=bC.1 he
  simp only [ah,aA] at h1
  obtain ⟨rfl,rfl⟩:=h1
  obtain ⟨h1,h2⟩:=bC.1 h2
  cases h2
  exact go_apn h hV hd hl hE ho ht hx hu vC sS hL (hp _ rfl) (gP hV.q h1)
 ·cases he
theorem yn {b:Builtin} {ts:Array TypeId} {args:Array Operand} (ho:o.op = .call { callee := .builtin b,args:=args,argTypes:=ts }) (he:s0 C.P C.E C.nt own V b ts.toList args.toList=some e):dT C o a w (iu S (some d) e):=by
 obtain ⟨ts⟩:=ts
 obtain ⟨args⟩:=args
 simp only at he
 unfold s0 at he
 split at he
 ·split at he <;> cases he
  ·exact go_len h hV hd hl ho (by assumption) (by assumption)
  ·exact go_lens h hV hd hl ho (by assumption) (by assumption)
 ·split at he
  ·rename_i hm
   obtain ⟨news,h1,h2⟩:=Source.of (P:=C.P) (so h hV hm)
   exact A0 h hV hE hp hd hl ho (by assumption) (by assumption) (by assumption) (by simp) h1 h2 he
  ·rename_i hm
   obtain ⟨h1,h2⟩:=Source.IM (P:=C.P) (w:=w) (R:=R) _
   have e1:=C7 h hV hm
   rw [←e1] at h1
   exact A0 h hV hE hp hd hl (st' := .bs) ho (by assumption) (by assumption) (by assumption) (by simp) h1 h2 he
  ·cases he
 ·split at he
  ·obtain ⟨h1,h2⟩:=bC.1 he
   cases h2
   have h1:=ar h1
   subst h1
   exact go_minmax h hV hd hl (mx:=false) ho (by assumption) (by assumption)
  ·cases he
 ·split at he
  ·obtain ⟨h1,h2⟩:=bC.1 he
   cases h2
   have h1:=ar h1
   subst h1
   exact go_minmax h hV hd hl (mx:=true) ho (by assumption) (by assumption)
  ·cases he
 ·split at he <;> cases he
  exact go_real h hV hd hl (im:=false) ho (by assumption)
 ·split at he <;> cases he
  exact go_real h hV hd hl (im:=true) ho (by assumption)
 ·split at he <;> cases he
  exact go_cx h hV hd hl ho (by assumption) (by assumption)
 ·cases he
theorem I4 {t:TypeId} {x i:Operand} {c:Cell} {n:Int} (ho:o.op = .indexAddr t x i) (hx:fR C.E C.nt V t x=some c) (hi:ox C.E C.nt V i=some n) (he:Oq C.P C.E V t c n=some e):dT C o a w (iu S (some d) e):=by
 have fA:∀{k:Nat},c=(.pt,.fA k)→a.eval x=τ k:=by rintro k rfl;exact (fS h hV hx).1.1
 unfold Oq at he
 split at he
 ·rename_i k _
  split at he
  ·rename_i hk
   obtain ⟨h1,h2⟩:=bC.1 he
   cases h2
   exact go_pix h hV hd hl hE ho h1 hx (hV.of hk) hi (hp _ rfl)
  ·rename_i hk
   obtain ⟨h1,h2⟩:=bC.1 he
   cases h2
   have hK:=h.core.key k
   rw [hV.of hk] at hK
   exact go_ix h hV hd hl hE ho h1 (by rw [fA rfl];exact (eP.rep hK).1) hi (hp _ rfl)
  ·rename_i hk
   obtain ⟨h1,h2⟩:=bC.1 he
   cases h2
   have hK:=h.core.key k
   rw [hV.of hk] at hK
   exact go_ix h hV hd hl hE ho h1 (by rw [fA rfl];exact hK) hi (hp _ rfl)
  ·cases he
 ·obtain ⟨h1,h2⟩:=bC.1 he
  cases h2
  exact go_ix h hV hd hl hE ho h1 (dP h hV hx) hi (hp _ rfl)
 ·split at he
  ·rename_i hk
   rw [aL] at he
   obtain ⟨inf,h1,h2⟩:=he
   cases h2
   exact go_la h hV hd hl ho (by assumption) h1 hx (hV.of hk) hi (hp _ rfl)
  ·cases he
 ·cases he
theorem G1 {t:TypeId} {x:Operand} {lo hi:Option Operand} {p q:Option Int} {c:Cell} (ho:o.op = .slice t x lo hi none) (hx:fR C.E C.nt V t x=some c) (h1:lu C.E C.nt V lo=some p) (h2:lu C.E C.nt V hi=some q) (he:EG C.E V t c p q=some e):dT C o a w (iu S (some d) e):=by
 unfold EG at he
 split at he
 ·rename_i hf
  obtain ⟨k1,k2⟩:=bC.1 he
  rw [aN] at k2
  obtain ⟨e',k2,rfl⟩:=k2
  obtain ⟨c1,c2,c3⟩:=Ca (e:=e') k2 hp
  unfold iu
  simp only [c2]
  exact go_sc h hV hd hl hE ho k1 hx hf h1 h2 c1
 ·cases he
omit hE in
theorem Dw {t:TypeId} {x:Operand} {c:Cell} (ho:o.op = .load t x) (hx:fR C.E C.nt V 0 x=some c) (he:Dx C.P C.E own V t c=some e):dT C o a w (iu S (some d) e):=by
 unfold Dx at he
 split at he
 ·rename_i n agg hs
  obtain ⟨h1,zE⟩:=bC.1 he
  clear he
  have he:=zE
  clear zE
  have h1:agg=true∨n=1:=by
   rcases Bool.or_eq_true _ _ ▸ h1 with h | h
   ·exact .inl h
   ·exact .inr (av h)
  split at he
  ·split at he
   ·rename_i hm
    split at he
    ·rename_i hf
     cases he
     have:n=1:=by simpa using h1
     subst this
     exact go_ldt h hV hd hl ho hs hx (hV.of hm) (by assumption)
    ·split at he
     ·obtain ⟨k1,k2⟩:=bC.1 he
      cases k2
      simp only [ah] at k1
      obtain ⟨⟨rfl,k1⟩,k2⟩:=k1
      have k1:=av k1
      have k2:=av k2
      subst k1 k2
      exact go_ldo h hV hd hl ho hs hx (hV.of hm)
     ·split at he
      ·split at he <;> cases he
       exact go_ld h hV hd hl ho hs h1 hx (hV.of hm) (by assumption) (by assumption)
      ·cases he
   ·cases he
  ·rename_i k
   split at he
   ·rename_i st l g hk
    split at he
    ·rename_i SA
     obtain ⟨k1,k2⟩:=bC.1 he
     cases k2
     simp only [ah,Bool.or_eq_true,aA] at k1
     obtain ⟨k1,k2⟩:=k1
     have fO:=ar (hp _ rfl)
     have hK:=h.core.key k
     rw [hV.of hk (by rcases k1 with rfl | rfl <;> simp)] at hK
     obtain ⟨p,hK⟩:∃p,eP R w p (τ k) (.sl st l):=by rcases k1 with rfl | rfl <;> exact ⟨_,hK⟩
     exact go_pld h hV hd hl ho hs h1 hx hK (av k2) fO SA
    ·cases he
   ·rename_i cs hk
    split at he
    ·obtain ⟨k1,k2⟩:=bC.1 he
     cases k2
     simp only [ah,Bool.not_eq_true'] at k1
     obtain ⟨⟨⟨k1,k2⟩,k3⟩,rfl⟩:=k1
     have k1:=av k1
     have k2:=av k2
     have k3:=av k3
     subst k1 k2 k3
     exact go_pla h hV hd hl ho hs hx (hV.of hk) (ar (hp _ rfl)) (by assumption)
    ·cases he
   ·cases he
  ·obtain ⟨k1,k2⟩:=bC.1 he
   cases k2
   simp only [ah,beq_iff_eq] at k1
   exact go_lr h hV hd hl ho hs h1 hx k1.1.2 (av k1.2)
  ·cases he
 ·cases he
end
omit hE in
theorem A9 (hd:o.dst=none) {t:TypeId} {x y:Operand} {c v:Cell} (ho:o.op = .store t x y) (hx:fR C.E C.nt V 0 x=some c) (hy:fR C.E C.nt V t y=some v) (he:yR C.P V t c v=some e):dT C o a w (iu S none e):=by
 unfold yR at he
 split at he
 ·rename_i n agg hs
  obtain ⟨inf,hi,rfl,_⟩:=fN hs
  split at he
  ·split at he
   ·rename_i cs ts hm
    split at he
    ·rename_i k
     obtain ⟨k1,k2⟩:=bC.1 he
     cases k2
     simp only [ah,Bool.not_eq_true'] at k1
     have hn:=av k1.1.1
     have BS:=hV.of hm
     rw [hn]
     exact go_stt h hV hd ho hi hn hx BS hy (Nat.le_of_ble_eq_true k1.1.2) (Nat.ne_of_beq_eq_false k1.2.1) (zT k1.2.2)
    ·obtain ⟨k1,k2⟩:=bC.1 he
     cases k2
     simp only [ah] at k1
     obtain ⟨⟨⟨k1,k2⟩,k3⟩,k4⟩:=k1
     have k1:=av k1
     subst k1
     exact go_sto h hV hd ho hi hx (hV.of hm) hy (av k2) (av k3) (zT k4)
    ·obtain ⟨k1,k2⟩:=bC.1 he
     cases k2
     simp only [ah] at k1
     have BS:=hV.of hm
     have hr:=dP h hV hy
     have hn:=av k1.1.1.2
     refine go_st' h hV hd ho hi hx BS (kv hr k1.1.1.1) hn (Nat.le_of_ble_eq_true k1.1.2) fun u hu=>?_
     obtain ⟨h1,h2⟩:=uf hu
     exact ⟨zT k1.2 u h1,.inl ⟨h1,h2⟩⟩
    ·cases he
   ·cases he
  ·rename_i i s q k
   split at he
   ·rename_i y' ws hf
    obtain ⟨R',h',e1,_⟩:=h.fr hV hy hf
    have O2:∀p∈ws,C.nt≤p.1:=fun p hp=>((fS h hV hy).2.2 _ (Eb hf p hp)).1
    have Nv:Lt (ff V ws) (ff S ws):=hV.ff ws
    have vz:fR C.E C.nt (ff V ws) 0 x=some (.el i s q,.pe k):=by
     rw [←hx];exact Bt fun i hi=>je fun p hp e=>by have:=O2 p hp;omega
    split at he
    ·rename_i st l hk
     split at he
     ·split at he
      ·obtain ⟨k1,k2⟩:=bC.1 he
       cases k2
       simp only [ah] at k1
       exact go_pst h' Nv hd ho hi vz (by rw [je (vV k1.2)];exact hV.of hk) e1 k1.1.1.1 (av k1.1.2) (av k1.1.1.2) (ar (hp _ rfl)) (by assumption) (by assumption)
      ·cases he
     ·cases he
    ·rename_i cs hk
     split at he
     ·obtain ⟨k1,k2⟩:=bC.1 he
      cases k2
      simp only [ah] at k1
      have k2:=av k1.1.1.1
      have k3:=av k1.1.1.2
      subst k2 k3
      exact go_ls h' Nv hd ho hi (av k1.1.2) vz (by rw [je (vV k1.2)];exact hV.of hk) (ar (hp _ rfl)) e1 (by assumption)
     ·cases he
    ·cases he
   ·cases he
  ·cases he
 ·cases he
theorem wC (hF:∀f,bA C.P C.gl f (C.E.fs f)) (vB:0<C.nt→∀j j',own j=own j'→j=j') (lY:uJ C.nt o=true) (he:Ab C.P C.E C.nt own V o.type o.op=some e):dT C o a w (iu S o.dst e):=by
 have dsts:(∀t x y,o.op ≠ .store t x y)→(∀x args ts,o.op ≠ .call { callee := .value x,args:=args,argTypes:=ts })→∃d,o.dst=some d∧d<C.nt:=fun h1 h2=>by
  unfold uJ at lY
  split at lY
  ·exact (h1 _ _ _ (by assumption)).elim
  ·cases lY
  ·exact (h2 _ _ _ (by assumption)).elim
  ·exact ⟨_,by assumption,Nat.le_of_ble_eq_true lY⟩
  ·cases lY
 have J6:∀{x:Operand} {args:Array Operand} {ts:Array TypeId},o.op = .call { callee := .value x,args:=args,argTypes:=ts }→o.dst=none∨∃d,o.dst=some d∧d<C.nt:=fun {x args ts} h1=>by
  cases hd:o.dst with
  | none=>exact .inl rfl
  | some d =>
   right
   unfold uJ at lY
   rw [h1,hd] at lY
   exact ⟨d,rfl,Nat.le_of_ble_eq_true lY⟩
 have call:∀{f:Nat} {x:Operand} {args:Array Operand} {ts:Array TypeId},o.op = .call { callee := .value x,args:=args,argTypes:=ts }→a.eval x = .func (.func f) #[] #[]→AV C.E C.nt own V f ts.toList args.toList=some e→dT C o a w (iu S o.dst e):=fun {f x args ts} ho hx he=>by
  unfold AV at he
  split at he
  ·rename_i cs xF
   split at he
   ·rename_i xs ws HF
    split at he
    ·rename_i outs hc
     exact go_call h hV (J6 ho) (c:=(C.E.fs f).1) (sg:=(C.E.fs f).2) (hF f) ho hx xF HF (by rw [hc];rfl) vB he
    ·rename_i p outs hc
     have LN:p=true:=by
      have zE:=he
      unfold ym at zE
      obtain ⟨_,zE⟩:=bC.1 zE
      split at zE
      ·obtain ⟨_,zE⟩:=bC.1 zE
       cases zE
       exact hp _ rfl
      ·cases zE
     exact go_call h hV (J6 ho) (c:=(C.E.fs f).1) (sg:=(C.E.fs f).2) (hF f) ho hx xF HF (by rw [hc];exact ⟨LN,rfl⟩) vB he
    ·cases he
   ·cases he
  ·cases he
 generalize ix:o.op=op at he
 unfold Ab at he
 split at he
 ·obtain ⟨d,hd,hl⟩:=dsts (by simp [ix]) (by simp [ix])
  rw [aN] at he
  obtain ⟨c,h1,rfl⟩:=he
  rw [hd]
  exact go_move h hV hd hl (.inl ix) h1
 ·obtain ⟨d,hd,hl⟩:=dsts (by simp [ix]) (by simp [ix])
  rw [aN] at he
  obtain ⟨c,h1,rfl⟩:=he
  rw [hd]
  exact go_move h hV hd hl (.inr ix) h1
 ·obtain ⟨d,hd,hl⟩:=dsts (by simp [ix]) (by simp [ix])
  split at he
  ·obtain ⟨z,h1,h2,h3⟩:=mN.zM he hp
   rw [pn hd h2 h3]
   exact go_pick h hV hd hl ix (by assumption) (by assumption) (by assumption) h1
  ·cases he
 ·obtain ⟨d,hd,hl⟩:=dsts (by simp [ix]) (by simp [ix])
  split at he
  ·split at he
   ·split at he
    ·cases he
     rw [hd]
     exact go_nl h hV hd hl ix (by assumption) (by assumption) (by assumption) (by assumption)
    ·cases he
   ·split at he <;> cases he <;> rw [hd]
    ·exact go_be h hV hd hl (neg:=false) ix rfl (by assumption) (by assumption) (by assumption)
    ·exact go_be h hV hd hl (neg:=true) ix rfl (by assumption) (by assumption) (by assumption)
   ·split at he
    ·obtain ⟨r,hr,he⟩:=aL.1 he
     cases he;rw [hd]
     exact go_es h hV hd hl false ix rfl (by assumption) (by assumption) (by assumption) hr
    ·obtain ⟨r,hr,he⟩:=aL.1 he
     cases he;rw [hd]
     exact go_es h hV hd hl true ix rfl (by assumption) (by assumption) (by assumption) hr
    ·cases he
   ·split at he
    ·obtain ⟨z,h1,h2,h3⟩:=mN.zM he hp
     rw [pn hd h2 h3]
     exact go_bin h hV hd hl ix (by assumption) (by assumption) h1
    ·cases he
  ·cases he
 ·obtain ⟨d,hd,hl⟩:=dsts (by simp [ix]) (by simp [ix])
  split at he
  ·obtain ⟨z,h1,h2,h3⟩:=mN.zM he hp
   rw [pn hd h2 h3]
   exact go_un h hV hd hl ix (by assumption) h1
  ·cases he
 ·obtain ⟨d,hd,hl⟩:=dsts (by simp [ix]) (by simp [ix])
  split at he
  ·split at he
   ·rw [hd];exact EJ h hV hp hd hl ix (by assumption) (by assumption) he
   ·cases he
  ·cases he
 ·obtain ⟨d,hd,hl⟩:=dsts (by simp [ix]) (by simp [ix])
  rw [hd];exact yn h hV hE hp hd hl ix he
 ·rename_i f _ _
  cases hb:AK C.P f with
  | true=>rw [hb] at he;exact call ix rfl he
  | false=>rw [hb] at he;exact go_xtn h hV (J6 ix) hp ix he
 ·split at he
  ·rename_i hx
   exact call ix ((dP h hV hx).of_val rfl) he
  ·cases he
 ·obtain ⟨d,hd,hl⟩:=dsts (by simp [ix]) (by simp [ix])
  split at he
  ·rw [hd];exact I4 h hV hE hp hd hl ix (by assumption) (by assumption) he
  ·cases he
 ·obtain ⟨d,hd,hl⟩:=dsts (by simp [ix]) (by simp [ix])
  split at he
  ·split at he
   ·cases he;rw [hd];exact go_si h hV hd hl ix (by assumption) (by assumption) (hp _ rfl) (by assumption)
   ·cases he
  ·rename_i hi
   split at he
   ·split at he
    ·rename_i hs
     split at he
     ·rename_i hx
      obtain ⟨k1,k2⟩:=bC.1 he
      cases k2
      rw [hd]
      have hn:=hp _ rfl
      have xE:=hn
      simp only [bB,ah,aA] at xE
      have hm:=av k1
      exact go_ai h hV hd hl ix (by assumption) hi (by assumption) hs (.inr rfl) hn (by
       rw [Nat.mul_one];exact vT hx (by omega))
     ·cases he
    ·rename_i hs
     split at he
     ·rename_i hx
      obtain ⟨k1,k2⟩:=bC.1 he
      cases k2
      rw [hd]
      have hn:=hp _ rfl
      have xE:=hn
      simp only [bB,ah,aA] at xE
      have hm:=av k1
      refine go_ai h hV hd hl ix (by assumption) hi (by assumption) hs (.inl rfl) hn ?_
      have hx:=yd hm (by omega) _ (Nat.le_refl _) hx
      rw [Nat.sub_self,Nat.add_zero] at hx
      have hb:∀{x y:Nat},x≤y→Nat.ble x y=true:=Nat.ble_eq_true_of_le
      simp only [lj]
      rw [hb (by rw [←hm,←Nat.succ_mul];exact ak _ (by omega)),ai,hx]
     ·cases he
    ·cases he
   ·cases he
  ·cases he
 ·obtain ⟨d,hd,hl⟩:=dsts (by simp [ix]) (by simp [ix])
  split at he
  ·split at he
   ·rename_i agg hs
    split at he
    ·obtain ⟨k1,k2⟩:=bC.1 he
     cases k2
     rw [hd]
     refine go_fe h hV hd hl ix (by assumption) (by assumption) hs (by assumption) ?_
     rcases Bool.or_eq_true _ _ ▸ k1 with h | h
     ·exact .inl h
     ·exact .inr (av h)
    ·cases he
   ·cases he
  ·cases he
 ·obtain ⟨d,hd,hl⟩:=dsts (by simp [ix]) (by simp [ix])
  split at he
  ·split at he
   ·rename_i hs
    obtain ⟨k1,k2⟩:=bC.1 he
    clear he
    have k1:=Nat.le_of_ble_eq_true k1
    rw [hd]
    split at k2
    ·cases k2;exact go_fa h hV hd hl ix (by assumption) hs k1 (by assumption)
    ·cases k2;exact go_pfa h hV hd hl ix (by assumption) hs k1 (by assumption)
    ·split at k2 <;> cases k2
     exact go_fr h hV hd hl ix (by assumption) hs k1 (by assumption) (by assumption)
    ·cases k2
   ·cases he
  ·cases he
 ·obtain ⟨d,hd,hl⟩:=dsts (by simp [ix]) (by simp [ix])
  split at he <;> cases he <;> rw [hd]
  ·exact go_nc h hV hd hl ix (by assumption)
  ·exact go_ncr h hV hd hl ix (by assumption)
 ·obtain ⟨d,hd,hl⟩:=dsts (by simp [ix]) (by simp [ix])
  split at he
  ·rw [aL] at he
   obtain ⟨y,h1,h2⟩:=he
   cases h2
   rw [hd]
   exact go_ex h hV hd hl (l:=[]) ix (.inl (by assumption)) h1
  ·split at he
   ·rename_i k _
    split at he
    ·rename_i hk
     cases he
     rw [hd]
     have hK:=h.core.key k
     rw [hV.of hk] at hK
     exact go_ext h hV hd hl ix (by assumption) (by assumption) (eP.one hK)
    ·cases he
   ·rw [aL] at he
    obtain ⟨y,h1,h2⟩:=he
    cases h2
    rw [hd]
    exact go_ex h hV hd hl ix (.inr (by assumption)) h1
  ·cases he
 ·obtain ⟨d,hd,hl⟩:=dsts (by simp [ix]) (by simp [ix])
  split at he
  ·rw [hd];exact Dw h hV hp hd hl ix (by assumption) he
  ·cases he
 ·have hd:o.dst=none:=by
   unfold uJ at lY
   rw [ix] at lY
   cases hd:o.dst with
   | none=>rfl
   | some d=>rw [hd] at lY;cases lY
  split at he
  ·rw [hd];exact A9 h hV hp hd ix (by assumption) (by assumption) he
  ·cases he
 ·obtain ⟨d,hd,hl⟩:=dsts (by simp [ix]) (by simp [ix])
  split at he
  ·obtain ⟨c1,c2,c3⟩:=B8 he hp
   rw [pn hd c2 c3]
   exact go_ss h hV hd hl ix (by assumption) (by assumption) (by assumption) (by assumption) c1
  ·rename_i c lo hi ht hx h1 h2
   have cx:EG C.E V _ c lo hi=some e→dT C o a w (iu S o.dst e):=fun he=>by
    rw [hd];exact G1 h hV hE hp hd hl ix hx h1 h2 he
   split at he
   ·rename_i k n
    split at he
    ·rename_i hk
     obtain ⟨k1,k2⟩:=bC.1 he
     cases k2
     simp only [ah] at k1
     rw [hd]
     obtain ⟨rfl,_⟩:_=none∧True:=by
      rcases sN h hV h1 with ⟨e1,_⟩ | ⟨_,_,_,_,e1,_⟩
      ·exact ⟨e1,trivial⟩
      ·cases e1
     obtain ⟨y,rfl⟩:∃y,_=some y:=by
      rcases sN h hV h2 with ⟨_,e1⟩ | ⟨y,_,_,e1,_⟩
      ·cases e1
      ·exact ⟨y,e1⟩
     exact go_psl h hV hd hl hE ix k1.1 hx (hV.of hk) h2 (hp _ rfl) (gP hV.q k1.2)
    ·exact cx he
   ·exact cx he
  ·cases he
 ·obtain ⟨d,hd,hl⟩:=dsts (by simp [ix]) (by simp [ix])
  split at he
  ·split at he
   ·split at he
    ·split at he
     ·obtain ⟨k1,k2⟩:=bC.1 he
      simp only [ah,aA] at k1
      obtain ⟨k4,k3⟩:=bC.1 k2
      cases k3
      rw [hd]
      exact go_bl h hV hd hl hE ix (by assumption) (by assumption) (by assumption) (by assumption) (av k1.1.1) (Nat.le_of_ble_eq_true k1.1.2) k1.2 k4
     ·cases he
    ·cases he
   ·cases he
  ·cases he
 ·obtain ⟨d,hd,hl⟩:=dsts (by simp [ix]) (by simp [ix])
  split at he
  ·split at he
   ·split at he
    ·split at he <;> cases he
     rw [hd]
     exact go_bd h hV hd hl hE ix (by assumption) (by assumption) (by assumption) (by assumption) (by assumption)
    ·cases he
   ·cases he
  ·cases he
 ·obtain ⟨d,hd,hl⟩:=dsts (by simp [ix]) (by simp [ix])
  rw [aL] at he
  obtain ⟨z,h1,h2⟩:=he
  obtain ⟨k1,k2⟩:=bC.1 h2
  cases k2
  rw [hd]
  exact go_al h hd hl hE ix h1 (gP hV.q k1)
 ·obtain ⟨d,hd,hl⟩:=dsts (by simp [ix]) (by simp [ix])
  split at he
  ·obtain ⟨k1,k2⟩:=bC.1 he
   cases k2
   simp only [ah] at k1
   rw [hd]
   exact go_bx h hd hl hV ix (by assumption) k1.1 (gP hV.q k1.2)
  ·cases he
 ·obtain ⟨d,hd,hl⟩:=dsts (by simp [ix]) (by simp [ix])
  split at he
  ·obtain ⟨k1,k2⟩:=bC.1 he
   cases k2
   rw [hd]
   exact go_mk h hd hl hE hV ix (by assumption) (by assumption) (by assumption) (hp _ rfl) (gP hV.q k1)
  ·cases he
 ·cases he
end
end Go.Eng
namespace Go.Eng
open Go.RowKit
theorem uP {l:List TV} (h:yf l=none):∀x∈l,x.FB=none:=by
 induction l with
 | nil=>simp
 | cons x l ih =>
  simp only [yf] at h
  split at h
  ·rename_i h1
   intro y hy
   rcases aO.1 hy with rfl | hy
   ·exact h1
   ·exact ih h y hy
  ·cases h
  ·cases h
theorem Cd {l:List TV} (h:yf l=some true):∀x∈l,∀q,x.FB=some q→q=true:=by
 induction l with
 | nil=>simp
 | cons x l ih =>
  simp only [yf] at h
  split at h
  ·rename_i h1
   intro y hy q hq
   rcases aO.1 hy with rfl | hy
   ·rw [h1] at hq;cases hq
   ·exact ih h y hy q hq
  ·rename_i p h1 h2
   cases h
   intro y hy q hq
   rcases aO.1 hy with rfl | hy
   ·rw [h1] at hq;cases hq;rfl
   ·rw [uP h2 y hy] at hq;cases hq
  ·rename_i p q' h1 h2
   have h:=Option.some.inj h
   rw [ah] at h
   obtain ⟨rfl,rfl⟩:=h
   intro y hy q hq
   rcases aO.1 hy with rfl | hy
   ·rw [h1] at hq;cases hq;rfl
   ·exact ih h2 y hy q hq
section
variable {C:Ctx} {S V:St} {a:Act} {w:World} {R:Reach} {τ:Nat→Value} {o:Oper} {d:Nat} {e:gE} {K:Act→World→Prop} {Q:Exit→Act→World→Prop}
theorem Ad {x:TV} {g:Gh} {v:Value} (hx:x.Gv=false):dO R w τ (.gd true x) g v ↔ dO R w τ x g v:=by
 cases x <;> first | (cases hx;done) | exact Iff.rfl
theorem Core.Ac {nt:Nat} {dA:Nat→Prop} {S S':St} (h:Core nt R w dA τ S) (h1:∀k,nt≤k→S' k=S k) (h2:∀k,k<nt→(S' k).2=(S k).2) (h3:∀k,k<nt→dO R w τ (S k).1 (S k).2 (τ k)→dO R w τ (S' k).1 (S' k).2 (τ k)):Core nt R w dA τ S':=by
 have hg:∀k,(S' k).2=(S k).2:=fun k=>by
  rcases Nat.lt_or_ge k nt with hk | hk
  ·exact h2 k hk
  ·rw [h1 k hk]
 have hb:∀k,gp τ S' k=gp τ S k:=fun k=>by unfold gp;rw [hg]
 refine ⟨fun k=>?_,fun k k' g a b=>?_,fun k g a=>?_,fun j k hk=>?_,h.pT,fun k hk=>by rw [hg];exact h.slt k hk,fun k d hk=>?_⟩
 ·rcases Nat.lt_or_ge k nt with hk | hk
  ·have hs:=h.slt k hk
   have hK:=h.key k
   rw [iC.slot hs] at hK
   rw [iC.slot (by rw [hg];exact hs)]
   exact h3 k hk hK
  ·rw [h1 k hk];exact h.key k
 ·rw [hb] at a b;exact h.sep k k' g a b
 ·rw [hb] at a;exact h.dA k g a
 ·rw [hg] at hk;rw [hg];exact h.inv j k hk
 ·rw [hg] at hk
  have Jw:nt≤k:=by
   rcases Nat.lt_or_ge k nt with O4 | O4
   ·have:=h.slt k O4;rw [hk] at this;cases this
   ·exact O4
  have S3:nt≤d:=(h.inv k d (by rw [hk];exact List.mem_singleton.2 rfl)).1
  rw [h1 k Jw,h1 d S3];exact h.par k d hk
theorem dX.Ac {S':St} (h:dX C S a w R τ) (h1:∀k,C.nt≤k→S' k=S k) (h2:∀k,k<C.nt→(S' k).2=(S k).2) (h3:∀k,k<C.nt→dO R w τ (S k).1 (S k).2 (τ k)→dO R w τ (S' k).1 (S' k).2 (τ k)):dX C S' a w R τ :=
 { h with core:=h.core.Ac h1 h2 h3 }
theorem rb (h:dX C S a w R τ) {t:Nat} (ht:t<C.nt):dO R w τ (S t).1 (S t).2 (a.tmps.getD t undef):=by
 have:=h.core.key t
 rw [iC.slot (h.core.slt t ht),←h.tmps t ht] at this
 exact this
theorem wm (h:dX C S a w R τ) {ops:Array Oper} {j t:Nat} {x:Bool} (ht:t<C.nt) (hj:(ops[j]?).bind (·.dst)=some t) (hx:a.tmps.getD t undef = .bool x):yielded ops a.tmps j=some x:=by
 have hs:t<a.tmps.size:=by rw [h.size];exact ht
 have e2:a.tmps[t]?=some (.bool x):=by
  rw [Array.getElem?_eq_getElem hs,←hx];simp [Array.getD,hs]
 simp [yielded,hj,e2]
theorem Ct (h:dX C S a w R τ) {ops:Array Oper} {j t:Nat} (ht:t<C.nt) (hj:(ops[j]?).bind (·.dst)=some t) (hx:a.tmps.getD t undef=undef):yielded ops a.tmps j=none:=by
 have hs:t<a.tmps.size:=by rw [h.size];exact ht
 have e2:a.tmps[t]?=some undef:=by
  rw [Array.getElem?_eq_getElem hs,←hx];simp [Array.getD,hs]
 simp [yielded,hj,e2,undef]
theorem wV {nt:Nat} {dst:Option Nat} (h:0<nt) (j j':Nat) (e:De nt dst j=De nt dst j'):j=j':=by
 unfold De at e
 have:(j+1) * nt=(j'+1) * nt:=by omega
 have:=Nat.eq_of_mul_eq_mul_right h this
 omega
theorem nR {nt:Nat} {ts:List Nat} {S:St} {k:Nat} (h:k<nt) (hk:k∈ts):jB nt ts S k=((S k).1.bare,(S k).2):=by
 have h1:Nat.blt k nt=true:=Nat.ble_eq_true_of_le h
 have h2:ts.contains k=true:=by simpa using hk
 unfold jB
 simp only [h1,h2,aY,ai]
theorem mF {nt:Nat} {ts:List Nat} {S:St} {k:Nat} (h:nt≤k∨k ∉ ts):jB nt ts S k=S k:=by
 unfold jB
 cases hb:(Nat.blt k nt&&ts.contains k) with
 | false=>rfl
 | true =>
  exfalso
  simp only [ah] at hb
  have h1:k+1≤nt:=Nat.le_of_ble_eq_true hb.1
  have h2:k∈ts:=by simpa using hb.2
  rcases h with h | h
  ·omega
  ·exact h h2
theorem Lt.jB {nt:Nat} {ts:List Nat} (h:Lt V S):Lt (jB nt ts V) (jB nt ts S):=fun k=>by
 by_cases hk:k<nt∧k∈ts
 ·rw [nR hk.1 hk.2,nR hk.1 hk.2]
  exact (h k).imp (fun e=>by rw [e]) id
 ·have:nt≤k∨k ∉ ts:=by
   by_cases h1:k<nt
   ·exact .inr fun h2=>hk ⟨h1,h2⟩
   ·exact .inl (by omega)
  rw [mF this,mF this]
  exact h k
theorem step_ok (h:dX C S a w R τ) (hV:Lt V S) (hE:ji C.P C.E) (hF:∀f,bA C.P C.gl f (C.E.fs f)) {ops:Array Oper} (hp:∀p,e.p=some p→p=true) (he:lR C.P C.E C.nt ops o V=some e) (hK:∀a' w',tn C (iu S o.dst e) a' w'→K a' w') :
  if Region.wanted o (yielded ops a.tmps) then o.wp C.P a w K Q∨(o.asks C.P a w∧LetsOut Q) else K (a.put o.dst undef) w:=by
 unfold lR at he
 obtain ⟨lY,he⟩:=bC.1 he
 split at he
 ·rename_i hg
  simp only [Region.wanted,hg,if_true]
  exact .inl (wC h hV hE hp hF (fun hn=>wV hn) lY he K Q hK)
 ·rename_i j b hg
  split at he
  ·rename_i t hj
   split at he
   ·rename_i x S8
    split at he
    ·rename_i c e0 hc SY
     obtain ⟨h1,Qv⟩:=bC.1 he
     simp only [ah] at h1
     obtain ⟨ht,S2,LP⟩:=h1
     have ht:t<C.nt:=Nat.le_of_ble_eq_true ht
     obtain ⟨d,hd⟩:=Option.isSome_iff_exists.1 S2
     have hl:d<C.nt:=by
      unfold uJ at lY
      split at lY
      ·rename_i Co;rw [hd] at Co;cases Co
      ·cases lY
      ·rename_i Co;rw [hd] at Co;cases Co
      ·rename_i Co _;rw [hd] at Co;cases Co;exact Nat.le_of_ble_eq_true lY
      ·cases lY
     unfold Cw at Qv
     obtain ⟨h2,SX⟩:=bC.1 Qv
     cases SX
     simp only [ah,Bool.not_eq_true',List.isEmpty_iff] at h2
     obtain ⟨⟨LF,KG,OS⟩,OW⟩:=h2
     have SL:∀k∈e0.x.2.db,C.nt≤k∧(S k).2 ≠ .no:=fun k hk=>by
      have:=aC.1 OW k hk
      simp only [P1,ah] at this
      refine ⟨Nat.le_of_ble_eq_true this.1,?_⟩
      rcases hV k with e | e
      ·rw [←e];intro e';rw [e'] at this;cases this.2
      ·rw [e] at this;cases this.2
     -- the guard
     have Nj:=rb h ht
     have Tc:S t=(x,.no):=hV.of S8
     rw [Tc] at Nj
     have hw:Region.wanted o (yielded ops a.tmps)=c:=by
      unfold D4 at hc
      split at hc
      ·rename_i y
       cases hc
       have:=(iV.rep Nj).of_val rfl
       simp only [Region.wanted,hg,wm h ht hj this]
       cases b <;> cases y <;> rfl
      ·rename_i q y
       cases hc
       cases q with
       | false =>
        simp only [Region.wanted,hg,Ct h ht hj Nj]
        try (cases b <;> cases y <;> rfl)
       | true =>
        have:Rep R w (.b y) (a.tmps.getD t undef):=Nj
        simp only [Region.wanted,hg,wm h ht hj (this.of_val rfl)]
        cases b <;> cases y <;> rfl
      ·cases hc
     rw [hw]
     cases c with
     | false =>
      simp only [bp,if_false]
      rw [hd]
      refine hK _ _ ?_
      rw [hd]
      exact h.Ln hl (x := .gd false e0.x.1) (v:=undef) rfl KG SL
     | true =>
      simp only [if_true]
      left
      have KL:∀t∈watch o.op,∀q,(V t).1.FB=some q→q=true:=by
       intro t ht q hq
       have hm:(V t).1∈(watch o.op).map fun t=>(V t).1:=List.mem_map_of_mem (f:=fun t=>(V t).1) ht
       generalize xF:yf ((watch o.op).map fun t=>(V t).1)=r at hp
       cases r with
       | none=>rw [uP xF _ hm] at hq;cases hq
       | some r =>
        have:r=true:=by
         cases L3:e0.p with
         | none=>have:=hp _ (by simp only [L3];rfl);simpa using this
         | some p=>have:=hp _ (by simp only [L3];rfl);simp at this;exact this.1
        subst this
        exact Cd xF _ hm q hq
      have Jn:∀p,e0.p=some p→p=true:=fun p L3=>by
       generalize yf ((watch o.op).map fun t=>(V t).1)=r at hp
       cases r with
       | none=>have:=hp _ (by simp only [L3];rfl);simpa using this
       | some r=>have:=hp _ (by simp only [L3];rfl);simp at this;exact this.2
      let S':St:=fun k=>if (V k).2 = .hid then S k else jB C.nt (watch o.op) S k
      have bk:∀k,S' k=S k∨(k<C.nt∧S' k=((S k).1.bare,(S k).2)∧(S k).1.bare.Gv=false∧∀q,(S k).1.FB=some q→q=true):=fun k=>by
       show (if (V k).2 = .hid then S k else jB C.nt (watch o.op) S k)=S k∨_
       by_cases hh:(V k).2 = .hid
       ·left;rw [aw hh]
       by_cases hk:k<C.nt∧k∈watch o.op
       ·right
        have e:=(hV k).resolve_right hh
        have hn:=aC.1 LP k hk.2
        refine ⟨hk.1,?_,?_,?_⟩
        ·show (if (V k).2 = .hid then S k else jB C.nt (watch o.op) S k)=_
         rw [au hh,nR hk.1 hk.2]
        ·rw [←e];simpa using hn
        ·rw [←e];exact KL k hk.2
       ·left
        rw [au hh,mF]
        by_cases h1:k<C.nt
        ·exact .inr fun h2=>hk ⟨h1,h2⟩
        ·exact .inl (by omega)
      have conv:∀{R:Reach} {w:World} {τ:Nat→Value} k,k<C.nt→(S' k).2=(S k).2∧(dO R w τ (S k).1 (S k).2 (τ k) ↔ dO R w τ (S' k).1 (S' k).2 (τ k)):=fun {R w τ} k _=>by
       rcases bk k with e | ⟨_,e,h1,h2⟩
       ·rw [e];exact ⟨rfl,Iff.rfl⟩
       ·rw [e]
        refine ⟨rfl,?_⟩
        generalize S k=c at *
        obtain ⟨x,g⟩:=c
        cases x <;> first | exact Iff.rfl | skip
        rename_i q x
        have:=h2 q rfl
        subst this
        exact Ad h1
      have KP:dX C S' a w R τ:=h.Ac (fun k hk=>by
       rcases bk k with e | ⟨h1,_⟩
       ·exact e
       ·omega) (fun k hk=>(conv (R:=R) (w:=w) (τ:=τ) k hk).1) fun k hk=>(conv k hk).2.1
      have Nv:Lt (jB C.nt (watch o.op) V) S':=fun k=>by
       show _=(if (V k).2 = .hid then S k else jB C.nt (watch o.op) S k)∨_
       by_cases hh:(V k).2 = .hid
       ·right
        by_cases hk:k<C.nt∧k∈watch o.op
        ·rw [nR hk.1 hk.2];exact hh
        ·rw [mF]
         ·exact hh
         ·by_cases h1:k<C.nt
          ·exact .inr fun h2=>hk ⟨h1,h2⟩
          ·exact .inl (by omega)
       ·rw [au hh];exact hV.jB k
      have Fw:=wC KP Nv hE Jn hF (fun hn=>wV hn) lY SY
      refine Fw K Q fun a' w' xB=>hK _ _ ?_
      obtain ⟨R2,yC,xB⟩:=xB
      rw [hd] at xB ⊢
      simp only [iu,LF,ff] at xB ⊢
      refine ⟨R2,yC,xB.Ac (fun k hk=>?_) (fun k hk=>?_) fun k hk=>?_⟩
      ·have hk:C.nt≤k:=hk
       have lB:k≠d:=Nat.ne_of_gt (Nat.lt_of_lt_of_le hl hk)
       rw [dc _ _ lB,dc _ _ lB]
       rcases bk k with e | ⟨h1,_⟩
       ·exact e.symm
       ·omega
      ·by_cases e:k=d
       ·subst e;rw [bT,bT]
       ·rw [dc _ _ e,dc _ _ e];exact (conv (R:=R) (w:=w) (τ:=τ) k hk).1.symm
      ·by_cases e:k=d
       ·subst e;rw [bT,bT];exact (Ad OS).2
       ·rw [dc _ _ e,dc _ _ e];exact (conv k hk).2.2
    ·cases he
   ·cases he
  ·cases he
end
end Go.Eng
namespace Go.Eng
open Go.RowKit
theorem yi {X:Type} {p:Option Bool} {x:Option X} {r:X} (h:G4 p x=some r):(∀q,p=some q→q=true)∧x=some r:=by
 unfold G4 at h
 split at h
 ·exact ⟨by simp,h⟩
 ·rename_i p
  cases p with
  | true=>exact ⟨by rintro q e;cases e;rfl,h⟩
  | false=>cases h
section
variable {L:Nat→Prop} {ops:List Oper}
theorem pr (Cp:∀i o,ops[i]?=some o→L i→∀e∈qG o,L e):∀(rest pre:List Oper) (acc:List (List Nat)),ops=pre++rest→acc.length=pre.length →
  (∀i o,i<acc.length→ops[i]?=some o→(∀e∈qG o,L e)→∀j∈acc.getD i [],L j) →
  ∀i o,ops[i]?=some o→(∀e∈qG o,L e)→∀j∈(rest.foldl (fun acc o=>acc++[(qG o).flatMap fun e=>e :: (acc.getD e [])]) acc).getD i [],L j
 | [],pre,acc,e,hl,inv=>by
  intro i o hi hb j hj
  simp only [bj] at e
  subst e
  have:i<acc.length:=by
   rw [hl]
   exact (aD.1 hi).1
  exact inv i o this hi hb j hj
 | r :: rest,pre,acc,e,hl,inv=>by
  simp only [List.foldl_cons]
  refine pr Cp rest (pre++[r]) _ (by simp [e]) (by simp [hl]) ?_
  intro i o hi ho hb j hj
  by_cases fO:i<acc.length
  ·rw [af,List.getElem?_append_left fO,←af] at hj
   exact inv i o fO ho hb j hj
  ·have hi':i=acc.length:=by simp at hi;omega
   subst hi'
   rw [af,aS (Nat.le_refl _)] at hj
   simp only [Nat.sub_self,List.getElem?_cons_zero,Option.getD_some,List.mem_flatMap,aO] at hj
   have hr:o=r:=by
    rw [e,hl,aS (Nat.le_refl _)] at ho
    simpa using ho.symm
   subst hr
   obtain ⟨x,hx,rfl | hj⟩:=hj
   ·exact hb _ hx
   ·by_cases Nf:x<acc.length
    ·have P6:x<ops.length:=by rw [e];simp;omega
     exact inv x _ Nf (aq P6) (Cp x _ (aq P6) (hb x hx)) j hj
    ·simp [List.getD,List.getElem?_eq_none (Nat.le_of_not_lt Nf)] at hj
theorem tc (Cp:∀i o,ops[i]?=some o→L i→∀e∈qG o,L e) {i:Nat} {o:Oper} (hi:ops[i]?=some o) (hb:∀e∈qG o,L e):∀j∈(ly ops).getD i [],L j :=
 pr Cp ops [] [] rfl rfl (fun _ _ h=>by simp at h) i o hi hb
theorem zR (KK:rE ops=true) {i j:Nat} {o:Oper} (hi:ops[i]?=some o) (hj:j∈(ly ops).getD i []):j<i:=by
 have hb:∀k p,ops[k]?=some p→∀e∈qG p,e<k:=fun k p hk e he=>by
  have hm:(p,k)∈ops.zipIdx:=List.mem_zipIdx_iff_getElem?.2 (by simpa using hk)
  have:=aC.1 (aC.1 KK _ hm) e he
  simpa using this
 exact tc (L:=fun k=>k<i) (fun k p hk hl e he=>Nat.lt_trans (hb k p hk e he) hl) hi (hb i o hi) j hj
end
theorem FC {A:Type} {l:List A} {p:A × Nat→Bool} (h:l.zipIdx.all p=true) {i:Nat} {x:A} (hi:l[i]?=some x):p (x,i)=true :=
 aC.1 h _ (List.mem_zipIdx_iff_getElem?.2 (by simpa using hi))
theorem xM (l:Array Bool) (i x:Nat) (d:Bool):(l.setIfInBounds i true).getD x d=if i=x then (if i<l.size then true else d) else l.getD x d:=by
 simp only [Array.getD_eq_getD_getElem?,Array.getElem?_setIfInBounds]
 split
 ·split <;> rfl
 ·rfl
def fL (n:Nat) (listed:Array Bool):List Nat:=(List.range n).filter fun i=>!listed.getD i true
theorem wO {n i:Nat} {listed:Array Bool} (hs:listed.size=n) (hi:i<n):fL n (listed.setIfInBounds i true)=(fL n listed).filter (fun j=>decide (j≠i)):=by
 simp only [fL,List.filter_filter]
 apply List.filter_congr
 intro j hj
 have hj:j<n:=by simpa using hj
 by_cases h:j=i
 ·subst h
  simp [Array.getD,hs,hi]
 ·have:i≠j:=fun e=>h e.symm
  simp [Array.getD,hs,hj,Array.getElem_setIfInBounds,h,this]
theorem sF {listed:Array Bool} {n i:Nat} (hs:listed.size=n) (hi:i<n):listed.getD i true=listed.getD i false:=by simp [Array.getD,hs,hi]
theorem qu (S:St) (d:Option Nat) (e:gE):iu S d e=ff S (d.toList.map (fun d=>(d,e.x))++e.ws):=by
 cases d <;> rfl
theorem xw (d:Option Nat) (e:gE):(d.toList.map (fun d=>(d,e.x))++e.ws).map (·.1)=jz d e:=by
 unfold jz;cases d <;> simp
theorem wR:∀{l:List (Nat × Cell)} {S S':St} {k:Nat},k∈l.map (·.1)→ff S l k=ff S' l k
 | (j,x) :: l,S,S',k,h=>by
  simp only [ff]
  by_cases e:k=j
  ·subst e;rw [bT,bT]
  ·rw [dc _ _ e,dc _ _ e]
   rcases aO.1 h with h | h
   ·exact (e h).elim
   ·exact wR h
theorem j8 {S:St} {d:Option Nat} {e:gE} {k:Nat} (h:k ∉ jz d e):iu S d e k=S k:=by
 rw [qu]
 refine je fun p hp ep=>h ?_
 rw [←xw]
 exact bg.2 ⟨p,hp,ep⟩
theorem AR {S S':St} {d:Option Nat} {e:gE} {k:Nat} (h:k∈jz d e):iu S d e k=iu S' d e k:=by
 rw [qu,qu]
 exact wR (by rw [xw];exact h)
theorem B3 {S:St} {d d':Option Nat} {e e':gE} (h:∀k∈jz d e,k ∉ jz d' e'):iu (iu S d e) d' e'=iu (iu S d' e') d e:=by
 funext k
 by_cases h1:k∈jz d e
 ·rw [j8 (h k h1),AR (S':=iu S d' e') h1]
 ·by_cases h2:k∈jz d' e'
  ·rw [j8 (S:=iu S d' e') h1,AR (S':=S) h2]
  ·rw [j8 h2,j8 h1,j8 h1,j8 h2]
section
variable {C:Ctx} {Q:Exit→Act→World→Prop}
theorem dX.drew {S:St} {a:Act} {w:World} {R:Reach} {τ:Nat→Value} (h:dX C S a w R τ):dX C S a { w with drawn:=w.drawn+1 } R τ:=by
 have dB:dF R w R { w with drawn:=w.drawn+1 }:=fun b o hr=>⟨hr,rfl⟩
 refine ⟨h.size,h.defers,h.core.step (fun _=>False) dB (fun _ _=>⟨rfl,rfl⟩) (fun _ _ _ _=>⟨rfl,fun _=>id⟩) (fun _=>False.elim) (fun _=>False.elim) (fun _=>False.elim) (fun _=>False.elim) (fun _=>False.elim) (fun _ _=>False.elim) (fun _=>id) (fun _=>False.elim) h.core.pT (fun _=>False.elim),h.tmps,h.io,?_,h.gl.dB dB⟩
 exact h.ext.trans (io':=C.io) ⟨rfl,rfl,rfl,Nat.le_refl _,fun _ _ _=>rfl,dB,fun b o hr => .inl hr⟩ fun b hb => .inl hb
theorem Av (hE:ji C.P C.E) (hF:∀f,bA C.P C.gl f (C.E.fs f)) {X:Type} {ops:Array Oper}:∀{os:List Oper} {S:St} {a:Act} {w:World} {K:St→Option X} {r:X},tn C S a w→Bh C.P C.E C.nt ops os S K=some r→(∀S' a' w',tn C S' a' w'→K S'=some r→Q .normal a' w')→wpList C.P ops Q os a w
 | [],S,a,w,K,r,h,hr,hQ=>hQ _ _ _ h hr
 | o :: os,S,a,w,K,r,⟨R,τ,h⟩,hr,hQ=>by
  rw [Bg] at hr
  split at hr
  ·rename_i e he
   obtain ⟨hp,hr⟩:=yi hr
   unfold wpList
   exact step_ok h (Lt.refl S) hE hF hp he fun a' w' h'=>Av hE hF h' hr hQ
  ·cases hr
structure Ky (C:Ctx) (ops:Array Oper) (l:List (St × gE)):Prop where
 step:∀(i:Nat) (o:Oper) (V:St) (e:gE),ops.toList[i]?=some o→l[i]?=some (V,e)→lR C.P C.E C.nt ops o V=some e∧∀p,e.p=some p→p=true
 off:∀(i j:Nat) (o o':Oper) (V V':St) (e e':gE),i≠j→ops.toList[i]?=some o→ops.toList[j]?=some o'→l[i]?=some (V,e)→l[j]?=some (V',e')→j ∉ (ly ops.toList).getD i []→i ∉ (ly ops.toList).getD j [] →
  ∀k∈jz o'.dst e',(V k).2 = .hid∧k ∉ jz o.dst e
def Rn (ops:Array Oper) (l:List (St × gE)):List Nat→St→St→Prop
 | [],S,S'=>S'=S
 | i :: r,S,S'=>∃V e o,ops.toList[i]?=some o∧l[i]?=some (V,e)∧Lt V S∧Rn ops l r (iu S o.dst e) S'
theorem Lt.HY {V S:St} {d:Option Nat} {e:gE} (h:∀k∈jz d e,(V k).2 = .hid):Lt V S ↔ Lt V (iu S d e):=by
 constructor
 ·intro hl k
  by_cases hk:k∈jz d e
  ·exact .inr (h k hk)
  ·rw [j8 hk];exact hl k
 ·intro hl k
  by_cases hk:k∈jz d e
  ·exact .inr (h k hk)
  ·have:=hl k
   rwa [j8 hk] at this
theorem Rn.front {ops:Array Oper} {l:List (St × gE)} (hp:Ky C ops l) {i:Nat} {B:List Nat}:∀{A:List Nat} {S S':St},Rn ops l (A++i :: B) S S'→(∀j∈A,j≠i∧j ∉ (ly ops.toList).getD i []∧i ∉ (ly ops.toList).getD j [])→Rn ops l (i :: (A++B)) S S'
 | [],_,_,h,_=>h
 | j :: A,S,S',⟨V,e,o,h1,h2,h3,h4⟩,hA=>by
  obtain ⟨V',e',o',k1,k2,k3,k4⟩:=Rn.front hp h4 fun x hx=>hA x (List.mem_cons_of_mem _ hx)
  obtain ⟨lB,ha,hb⟩:=hA j (List.mem_cons_self ..)
  have o1:=hp.off j i o o' V V' e e' lB h1 k1 h2 k2 hb ha
  have o2:=hp.off i j o' o V' V e' e (Ne.symm lB) k1 h1 k2 h2 ha hb
  refine ⟨V',e',o',k1,k2,(Lt.HY fun k hk=>(o2 k hk).1).2 k3,V,e,o,h1,h2,(Lt.HY fun k hk=>(o1 k hk).1).1 h3,?_⟩
  rwa [B3 fun k hk=>(o1 k hk).2]
def Ch:List Oper→List (St × gE)→St→St→Prop
 | [],[],S,S'=>S'=S
 | o :: os,(V,e) :: l,S,S'=>Lt V S∧Ch os l (iu S o.dst e) S'
 | _,_,_,_=>False
theorem Ch.rn {ops:Array Oper} {l:List (St × gE)}:∀(n i:Nat) {S S':St},ops.toList.length=i+n→Ch (ops.toList.drop i) (l.drop i) S S'→Rn ops l (List.range' i n) S S'
 | 0,i,S,S',hn,h=>by
  rw [List.drop_eq_nil_of_le (by omega)] at h
  cases hl:l.drop i with
  | nil=>rw [hl] at h;exact h
  | cons p r=>rw [hl] at h;cases h
 | n+1,i,S,S',hn,h=>by
  have hi:i<ops.toList.length:=by omega
  rw [List.drop_eq_getElem_cons hi] at h
  cases hl:l.drop i with
  | nil=>rw [hl] at h;cases h
  | cons p r =>
   obtain ⟨V,e⟩:=p
   rw [hl] at h
   obtain ⟨h1,h2⟩:=h
   have hg:l[i]?=some (V,e):=by
    have:(l.drop i)[0]?=some (V,e):=by rw [hl];rfl
    rwa [List.getElem?_drop,Nat.add_zero] at this
   have hr:l.drop (i+1)=r:=by rw [←List.drop_drop,hl];rfl
   exact ⟨V,e,_,aq hi,hg,h1,Ch.rn n (i+1) (by omega) (by rw [hr];exact h2)⟩
theorem Ds (ds:List Nat) (S:St):Lt (od ds S) S:=fun k=>by
 unfold od
 cases ds.contains k with
 | true=>exact .inr rfl
 | false=>exact .inl rfl
theorem BE {ds:List Nat} {S:St} {k:Nat} (h:k∈ds):(od ds S k).2 = .hid:=by
 unfold od
 have:ds.contains k=true:=by simpa using h
 rw [this];rfl
theorem Ag {X:Type} {ops:Array Oper} {W B:List (List Nat)} {K:St→Option X} {r:X}:∀{os:List Oper} {i:Nat} {S:St},Bj C.P C.E C.nt ops W B i os S K=some r →
  ∃l S',l.length=os.length∧Ch os l S S'∧K S'=some r∧∀(n:Nat) (o:Oper) (V:St) (e:gE),os[n]?=some o→l[n]?=some (V,e)→(∃S0,V=od (qa W B (i+n)) S0)∧lR C.P C.E C.nt ops o V=some e∧(∀p,e.p=some p→p=true)∧jz o.dst e=W.getD (i+n) []∧∀k∈qa W B (i+n),k ∉ W.getD (i+n) []
 | [],i,S,h=>⟨[],S,rfl,rfl,h,by simp⟩
 | o :: os,i,S,h=>by
  rw [Bi] at h
  split at h
  ·rename_i e he
   obtain ⟨h1,h2⟩:=bC.1 h
   obtain ⟨hp,h3⟩:=yi h2
   obtain ⟨l,S',k1,k2,k3,k4⟩:=Ag h3
   simp only [ah,aA] at h1
   refine ⟨(od (qa W B i) S,e) :: l,S',by simp [k1],⟨Ds _ _,k2⟩,k3,fun n o' V e' hn hl=>?_⟩
   cases n with
   | zero =>
    cases hn;cases hl
    refine ⟨⟨S,rfl⟩,he,hp,h1.1,fun k hk=>?_⟩
    have:=aC.1 h1.2 k hk
    simpa using this
   | succ n =>
    have:=k4 n o' V e' (by simpa using hn) (by simpa using hl)
    rwa [show i+1+n=i+(n+1) by omega] at this
  ·cases h
theorem Kn (hE:ji C.P C.E) (hF:∀f,bA C.P C.gl f (C.E.fs f)) {ops:Array Oper} {l:List (St × gE)} (hlen:l.length=ops.size) (BQ:Ky C ops l) (KK:rE ops.toList=true) {S':St} (hQ:∀a' w',tn C S' a' w'→Q .normal a' w') :
  ∀(fuel:Nat) {listed:Array Bool} {S:St} {a:Act} {w:World},tn C S a w→listed.size=ops.size →
   (∀i o,ops.toList[i]?=some o→listed.getD i false=true→∀e∈qG o,listed.getD e false=true) →
   (fL ops.size listed).length≤fuel→Rn ops l (fL ops.size listed) S S'→wpAny C.P .any ops Q fuel listed a w:=by
 have OR:∀{listed:Array Bool},listed.size=ops.size→Region.ready .any ops listed=[]→fL ops.size listed=[]:=by
  intro listed hs hr
  cases DW:fL ops.size listed with
  | nil=>rfl
  | cons i rest =>
   exfalso
   have qk:i∈fL ops.size listed:=by rw [DW];exact List.mem_cons_self ..
   have HM:=qk
   simp only [fL,List.mem_filter,List.mem_range,Bool.not_eq_true'] at HM
   obtain ⟨hi,hl⟩:=HM
   have xA:(fL ops.size listed).Pairwise (· < ·):=List.Pairwise.filter _ List.pairwise_lt_range
   have GG:ops.toList[i]?=some ops[i]:=by simp [hi]
   have hb:=FC KK GG
   have:i∈Region.ready .any ops listed:=by
    simp only [Region.ready,List.mem_filter,List.mem_range]
    refine ⟨hi,?_⟩
    simp only [hl,aM,Bool.true_and,Array.getElem?_eq_getElem hi,Option.map_some,Option.getD_some,Array.all_eq_true_iff_forall_mem,Bool.or_eq_true,Bool.not_eq_true']
    intro e he
    cases Mc:Region.binds .any e with
    | false=>exact .inl rfl
    | true =>
     right
     have fO:e.on<i:=by
      have:e.on∈qG ops[i]:=bg.2 ⟨e,List.mem_filter.2 ⟨by simpa using he,Mc⟩,rfl⟩
      have kg:=aC.1 hb _ this
      simpa using kg
     cases hle:listed.getD e.on false with
     | true=>rfl
     | false =>
      have Cm:e.on∈fL ops.size listed:=by
       simp only [fL,List.mem_filter,List.mem_range,Bool.not_eq_true']
       exact ⟨by omega,by rw [sF hs (by omega)];exact hle⟩
      rw [DW] at Cm xA
      rcases aO.1 Cm with h | h
      ·omega
      ·have:=(List.pairwise_cons.1 xA).1 _ h
       omega
   rw [hr] at this
   cases this
 intro fuel
 induction fuel with
 | zero =>
  intro listed S a w h hs vD hf hr
  have h0:fL ops.size listed=[]:=by simpa using hf
  rw [h0] at hr
  cases hr
  refine ⟨?_,hQ _ _ h⟩
  cases Ji:Region.ready .any ops listed with
  | nil=>rfl
  | cons i rest =>
   have:i∈Region.ready .any ops listed:=by rw [Ji];exact List.mem_cons_self ..
   simp only [Region.ready,List.mem_filter,List.mem_range,ah] at this
   have h1:i∈fL ops.size listed:=by
    simp only [fL,List.mem_filter,List.mem_range]
    exact ⟨this.1,this.2.1⟩
   rw [h0] at h1
   cases h1
 | succ fuel ih =>
  intro listed S a w h hs vD hf hr
  refine ⟨fun Ji=>?_,fun i hi=>?_⟩
  ·rw [OR hs Ji] at hr
   cases hr
   exact hQ _ _ h
  ·simp only [Region.ready,List.mem_filter,List.mem_range,ah] at hi
   obtain ⟨Cm,LW,Qr⟩:=hi
   have LV:i∈fL ops.size listed:=by
    simp only [fL,List.mem_filter,List.mem_range]
    exact ⟨Cm,LW⟩
   have GG:ops.toList[i]?=some ops[i]:=by simp [Cm]
   simp only [Array.getElem?_eq_getElem Cm,Option.map_some,Option.getD_some,Array.all_eq_true_iff_forall_mem,Bool.or_eq_true,Bool.not_eq_true'] at Qr
   have Fy:∀e∈qG ops[i],listed.getD e false=true:=by
    intro e he
    simp only [qG,bg,List.mem_filter] at he
    obtain ⟨x,⟨hx,hb⟩,rfl⟩:=he
    rcases Qr x (by simpa using hx) with h | h
    ·rw [hb] at h;cases h
    ·exact h
   obtain ⟨A,B,JI⟩:=List.append_of_mem LV
   have xA:(fL ops.size listed).Pairwise (· < ·):=List.Pairwise.filter _ List.pairwise_lt_range
   rw [JI,List.pairwise_append] at xA
   obtain ⟨-,hB,hA⟩:=xA
   have QP:∀j∈A,j<i:=fun j hj=>hA j hj i (List.mem_cons_self ..)
   have Tm:∀j∈B,i<j:=fun j hj=>(List.pairwise_cons.1 hB).1 j hj
   rw [JI] at hr
   have Jz:=hr.front BQ (fun j hj=>by
    have O5:=QP j hj
    have LU:j∈fL ops.size listed:=by rw [JI];exact List.mem_append_left _ hj
    simp only [fL,List.mem_filter,List.mem_range,Bool.not_eq_true'] at LU
    refine ⟨by omega,fun hb=>?_,fun hb=>?_⟩
    ·have h3:=tc (L:=fun e=>listed.getD e false=true) vD GG Fy j hb
     rw [sF hs LU.1,h3] at LU
     cases LU.2
    ·have SR:ops.toList[j]?=some ops[j]:=by simp [LU.1]
     have:=zR KK SR hb
     omega)
   obtain ⟨V,e,o,k1,k2,k3,k4⟩:=Jz
   rw [GG] at k1;cases k1
   obtain ⟨s1,s2⟩:=BQ.step i _ V e GG k2
   obtain ⟨R,τ,h⟩:=h
   simp only [wpOp,Array.getElem?_eq_getElem Cm]
   refine step_ok h k3 hE hF s2 s1 fun a' w' h'=>?_
   have P9:fL ops.size (listed.setIfInBounds i true)=A++B:=by
    rw [wO hs Cm,JI,List.filter_append,List.filter_cons]
    simp only [ne_eq,not_true_eq_false,decide_false,bp,if_false]
    rw [List.filter_eq_self.2 (fun j hj=>by have:=QP j hj;simp;omega),List.filter_eq_self.2 (fun j hj=>by have:=Tm j hj;simp;omega)]
   refine ih h' (by simp [hs]) ?_ ?_ ?_
   ·intro j o hj Qp e he
    have GC:∀x,listed.getD x false=true→(listed.setIfInBounds i true).getD x false=true:=by
     intro x hx
     rw [xM]
     split
     ·rename_i KI
      subst KI
      rw [aw (by rw [hs];exact Cm)]
     ·exact hx
    by_cases O5:j=i
    ·subst O5
     rw [GG] at hj
     cases hj
     exact GC _ (Fy e he)
    ·refine GC _ (vD j o hj ?_ e he)
     have SU:i≠j:=fun e=>O5 e.symm
     rw [xM,au SU] at Qp
     exact Qp
   ·rw [P9]
    rw [JI] at hf
    simp at hf ⊢
    omega
   ·rw [P9];exact k4
theorem Bp (hE:ji C.P C.E) (hF:∀f,bA C.P C.gl f (C.E.fs f)) {X:Type} {id:Nat} {ops:Array Oper} {draw:Bool} {S:St} {a:Act} {w:World} {K:St→Option X} {r:X} (h:tn C S a w) (hr:Bf C.P C.E C.nt ops draw S K=some r) (hQ:∀S' a' w',tn C S' a' w'→K S'=some r→Q .normal a' w'):(Code.region id ops draw).wp C.P Q a w:=by
 cases draw with
 | false=>exact wp_region_list (Av hE hF h hr hQ)
 | true =>
  simp only [Bf] at hr
  obtain ⟨KK,hr⟩:=bC.1 hr
  split at hr
  ·rename_i W _
   obtain ⟨l,S',k1,k2,k3,k4⟩:=Ag hr
   simp only [Nat.zero_add] at k4
   have hlen:l.length=ops.size:=by simpa using k1
   have BQ:Ky C ops l:=⟨fun i o V e ho hl=>⟨(k4 i o V e ho hl).2.1,(k4 i o V e ho hl).2.2.1⟩,fun i j o o' V V' e e' lB ho SG hl Qm hj hi k hk=>by
    obtain ⟨⟨S0,rfl⟩,_,_,a1,a2⟩:=k4 i o V e ho hl
    obtain ⟨_,_,_,b1,_⟩:=k4 j o' V' e' SG Qm
    rw [b1] at hk
    have Cm:k∈qa W (ly ops.toList) i:=by
     unfold qa
     rcases Nat.lt_or_ge j W.length with fO | D0
     ·refine List.mem_flatMap.2 ⟨(W[j],j),List.mem_filter.2 ⟨List.mem_zipIdx_iff_getElem?.2 (by simp [aq fO]),?_⟩,?_⟩
      ·have e1:Nat.beq j i=false:=by
        cases hb:Nat.beq j i with
        | false=>rfl
        | true=>exact (lB (av hb).symm).elim
       simp only [e1,aM,Bool.true_and,ah,Bool.not_eq_true']
       exact ⟨by simpa using hj,by simpa using hi⟩
      ·rwa [af,aq fO] at hk
     ·rw [af,List.getElem?_eq_none D0] at hk;cases hk
    exact ⟨BE Cm,by rw [a1];exact a2 k Cm⟩⟩
   have DW:fL ops.size (Array.replicate ops.size false)=List.range ops.size:=by
    simp only [fL]
    apply List.filter_eq_self.2
    intro i hi
    have hi:i<ops.size:=by simpa using hi
    simp [Array.getD,hi]
   obtain ⟨R,τ,h⟩:=h
   refine wp_region_any hE.mixed (Kn hE hF hlen BQ KK (fun a' w' h'=>hQ S' a' w' h' k3) ops.size ⟨R,τ,h.drew⟩ (by simp) ?_ (by rw [DW];simp) ?_)
   ·intro i o _ hl
    exfalso
    by_cases hi:i<ops.size <;> simp [Array.getD,hi] at hl
   ·rw [DW,List.range_eq_range']
    exact Ch.rn ops.size 0 (by simp) (by simpa using k2)
  ·cases hr
end
end Go.Eng
namespace Go.Eng
open Go.RowKit
theorem xZ:∀{l:List Nat} {i j k:Nat},kS l=true→l[i]?=some k→l[j]?=some k→i=j
 | x :: l,0,0,k,_,_,_=>rfl
 | x :: l,0,j+1,k,h,h1,h2=>by
  have e:x=k:=by simpa using h1
  subst e
  simp only [kS,ah,aC] at h
  have:=h.1 x (aK (by simpa using h2))
  simp at this
 | x :: l,i+1,0,k,h,h1,h2=>by
  have e:x=k:=by simpa using h2
  subst e
  simp only [kS,ah,aC] at h
  have:=h.1 x (aK (by simpa using h1))
  simp at this
 | x :: l,i+1,j+1,k,h,h1,h2=>by
  simp only [kS,ah] at h
  exact congrArg (· + 1) (xZ (k:=k) h.2 (by simpa using h1) (by simpa using h2))
 | [],i,_,_,_,h,_=>by simp at h
theorem kz:∀{G:GL} {xs:List TV} (k:Nat),fX G xs k=(.dead,.no)∨∃(i:Nat) (g:Gh) (x:TV),G[i]?=some (k,g)∧xs[i]?=some x∧fX G xs k=(x,g)
 | [],_,_ => .inl rfl
 | _ :: _,[],_ => .inl rfl
 | (j,g) :: G,x :: xs,k=>by
  simp only [fX]
  cases hb:Nat.beq k j with
  | true=>exact .inr ⟨0,g,x,by rw [av hb];rfl,rfl,rfl⟩
  | false =>
   rcases kz (G:=G) (xs:=xs) k with h | ⟨i,g',x',h1,h2,h3⟩
   ·exact .inl h
   ·exact .inr ⟨i+1,g',x',by simpa using h1,by simpa using h2,h3⟩
theorem o7:∀{G:GL} {xs:List TV} {i k:Nat} {g:Gh} {x:TV},kS (G.map (·.1))=true→G[i]?=some (k,g)→xs[i]?=some x→fX G xs k=(x,g)
 | (j,g) :: G,x :: xs,0,k,_,_,_,h1,h2=>by
  cases h1;cases h2
  have:Nat.beq j j=true:=by simp
  simp only [fX,this,ai]
 | (j,g) :: G,x :: xs,i+1,k,_,_,hd,h1,h2=>by
  simp only [aX,kS,ah,aC] at hd
  have hm:k∈G.map (·.1):=bg.2 ⟨_,aK (by simpa using h1),rfl⟩
  have:=hd.1 k hm
  simp only [Bool.not_eq_true'] at this
  simp only [fX,this,ae]
  exact o7 hd.2 (by simpa using h1) (by simpa using h2)
 | [],_,_,_,_,_,_,h,_=>by simp at h
 | _ :: _,[],_,_,_,_,_,_,h=>by simp at h
theorem ph {ts us:List (Nat × Nat)} {p:Nat × Nat} (h:p∈us.filter fun u=>(kR u.1 ts).isNone):p∈us:=(List.mem_filter.1 h).1
theorem dq.uh {R:Reach} {w:World}:∀{ts:List (Nat × Nat)} {xs:List TV} {ys:List Value},dq R w xs ys→dq R w (uh ts xs) ys
 | [],_,_,h=>h
 | t :: ts,xs,ys,h=>by
  simp only [Go.Eng.uh,List.foldl_cons]
  exact dq.uh (ts:=ts) (h.set fun y _ => .pt y)
section
variable {nt:Nat} {R R':Reach} {w:World} {dA:Nat→Prop} {τ:Nat→Value} {S S1:St} {G:GL} {ρ:List (Nat × Option Nat)}
def Fact (nt:Nat) (w:World) (τ:Nat→Value) (S:St) (ρ:List (Nat × Option Nat)) (W:List (Nat × Cell)) (R:Reach) (p:Nat × Gh) (x:TV):Prop :=
 match p.2 with
 | .no=>p.1<nt∧Rep R w x (τ p.1)
 | .fA _=>p.1<nt∧x = .pt∧((∃j,S p.1=(.pt,.fA j))∨∃t,S p.1=(.nl t,.no))
 | .ptr m o=>p.1<nt∧x = .pt∧S p.1=(.pt,.ptr m o)
 | .cl ts=>nt≤p.1∧∃cs us b ys e zs,S p.1=(.ag cs,.cl us)∧τ p.1 = .pointer (some ⟨b,0,none⟩)∧w.heap[b]?=some (.cells ⟨ys⟩ e (0,0))∧x = .ag zs∧dq R w zs ys∧dq R w cs ys∧(∀t∈us,ys[t.1]?=some (τ t.2))∧∀t∈ts,(kR t.1 us).isSome=true∨∃y,cs[t.1]?=some (.nl y)
 | .pv=>nt≤p.1∧((∃j,iN ρ p.1=some j∧S j=(x,.pv))∨(iN ρ p.1=none∧∃t,x = .sl t []))
 | .lv=>nt≤p.1∧((∃j,iN ρ p.1=some j∧(S j=(x,.lv)∨(S j=(x,.pv)∧(j,(x,.lv))∈W)))∨(iN ρ p.1=none∧∃t,x = .sl t []))
 | _=>False
theorem Fact.mono {W W':List (Nat × Cell)} {p:Nat × Gh} {x:TV} (h:Fact nt w τ S ρ W R p x) (k:dF R w R' w) (hw:∀q∈W,q∈W'):Fact nt w τ S ρ W' R' p x:=by
 unfold Fact at h ⊢
 split at h
 ·exact ⟨h.1,h.2.mono k⟩
 ·exact h
 ·exact h
 ·obtain ⟨h0,cs,us,b,ys,e,zs,h1,h2,h3,h4,h5,h6,h7,h8⟩:=h
  exact ⟨h0,cs,us,b,ys,e,zs,h1,h2,h3,h4,h5.mono k,h6.mono k,h7,h8⟩
 ·exact h
 ·refine ⟨h.1,h.2.imp (fun ⟨j,a,b⟩=>⟨j,a,b.imp id fun ⟨c,d⟩=>⟨c,hw _ d⟩⟩) id⟩
 ·exact h.elim
def K3 (nt:Nat) (ws:List (Nat × Cell)):Prop:=∀p∈ws,p.2.2 = .lv
theorem zI {V:St} {c:Cell} {x:TV} {ws:List (Nat × Cell)} (h:AN V c=some (x,ws)):K3 nt ws:=by
 intro p hp
 unfold AN at h
 split at h
 ·split at h
  ·cases h;simp only [List.mem_singleton] at hp;subst hp;rfl
  ·cases h;cases hp
  ·obtain ⟨_,h⟩:=bC.1 h;cases h;cases hp
  ·cases h
 ·cases h;cases hp
 ·cases h
theorem pf {V:St} {o n:Nat}:∀{ts:List (Nat × Nat)} {cs ds:List TV} {ws:List (Nat × Cell)},l6 V o n ts cs=some (ds,ws)→K3 nt ws
 | [],_,_,_,h=>by cases h;intro p hp;cases hp
 | (c,k) :: ts,cs,ds,ws,h=>by
  simp only [l6] at h
  split at h
  ·rename_i G2 MY h1
   cases hb:(Nat.ble o c&&Nat.blt c (o+n)) with
   | true =>
    rw [hb,ai] at h
    split at h
    ·rename_i h2
     cases h
     intro p hp
     rcases List.mem_append.1 hp with hp | hp
     ·exact zI (nt:=nt) h2 p hp
     ·exact pf h1 p hp
    ·cases h
   | false=>rw [hb,ae] at h;cases h;exact pf h1
  ·cases h
theorem JP {V:St} {c:Cell} {x:TV} {ws:List (Nat × Cell)} (h:xP V c=some (x,ws)):K3 nt ws:=by
 unfold xP at h
 split at h
 ·split at h
  ·rename_i hf;cases h;exact pf hf
  ·cases h
 ·exact zI h
theorem FE (h:Core nt R w dA τ S1) (hV:Lq S S1) (hS:∀k,k<nt→dO R w τ (S k).1 (S k).2 (τ k)∧∀m∈(S k).2.db,nt≤m) (hj:∀k j,iN ρ k=some j→nt≤k→nt≤j) {p:Nat × Gh} {x:TV} {ws:List (Nat × Cell)} (he:yM nt S G ρ p=some (x,ws)) :
  ∃R',Core nt R' w dA τ (ff S1 ws)∧Fz dA R w R'∧Fact nt w τ S ρ ws R' p x∧Lq S (ff S1 ws)∧K3 nt ws:=by
 obtain ⟨k,g⟩:=p
 have IV:K3 nt []:=fun p hp=>by cases hp
 unfold yM at he
 unfold Fact
 simp only at he ⊢
 cases g <;> simp only at he ⊢ <;> try (cases he;done)
 case no =>
  obtain ⟨h1,h2⟩:=bC.1 he
  have hk:k<nt:=Nat.le_of_ble_eq_true h1
  obtain ⟨a,b⟩:=hS k hk
  obtain ⟨R',k1,k2,k3,k4⟩:=vI h hV a b h2
  exact ⟨R',k1,k2,⟨hk,k3⟩,k4,JP h2⟩
 case fA i =>
  obtain ⟨h1,h2⟩:=bC.1 he
  have hk:k<nt:=Nat.le_of_ble_eq_true h1
  split at h2 <;> cases h2
  ·exact ⟨R,h,Fz.refl _ _ _,⟨hk,rfl,.inl ⟨_,by assumption⟩⟩,hV,IV⟩
  ·exact ⟨R,h,Fz.refl _ _ _,⟨hk,rfl,.inr ⟨_,by assumption⟩⟩,hV,IV⟩
 case ptr m o =>
  obtain ⟨h1,h2⟩:=bC.1 he
  have hk:k<nt:=Nat.le_of_ble_eq_true h1
  split at h2
  ·rename_i e
   obtain ⟨h3,h4⟩:=bC.1 h2
   cases h4
   simp only [ah] at h3
   rw [av h3.1,av h3.2] at e
   exact ⟨R,h,Fz.refl _ _ _,⟨hk,rfl,e⟩,hV,IV⟩
  ·cases h2
 case cl ts =>
  obtain ⟨h1,h2⟩:=bC.1 he
  have hk:nt≤k:=Nat.le_of_ble_eq_true h1
  split at h2
  ·rename_i cs us e
   obtain ⟨h3,h4⟩:=bC.1 h2
   split at h4
   ·rename_i G2 MY hf
    cases h4
    have e1:S1 k=(.ag cs,.cl us):=by
     rcases hV k with e' | e' | ⟨e',_⟩
     ·rw [←e',e]
     ·rw [e] at e';cases e'
     ·rw [e] at e';cases e'
    have hK:=h.key k
    rw [e1] at hK
    obtain ⟨b,ys,el,xs,a1,a2,a3,a4,a5,a6⟩:=hK
    cases a3
    obtain ⟨R',f1,f2,f3,f4,_⟩:=l0 h hV a4 (fun t ht=>⟨by
     have:=h.inv k t.2
     rw [e1] at this
     exact (this (List.mem_map_of_mem (f:=(·.2)) (ph ht))).1,a5 t (ph ht)⟩) hf
    refine ⟨R',f1,f2,⟨hk,cs,us,b,ys,el,_,e,a1,a2,rfl,dq.uh (nh f3),a4.mono f2.1,a5,fun t ht=>?_⟩,f4,pf hf⟩
    have:=aC.1 h3 t ht
    rcases Bool.or_eq_true _ _ ▸ this with h | h
    ·exact .inl h
    ·right
     unfold LD at h
     split at h
     ·exact ⟨_,by assumption⟩
     ·cases h
   ·cases h4
  ·cases h2
 case pv =>
  obtain ⟨h1,h2⟩:=bC.1 he
  have hk:nt≤k:=Nat.le_of_ble_eq_true h1
  split at h2
  ·rename_i j tM
   split at h2 <;> cases h2
   exact ⟨R,h,Fz.refl _ _ _,⟨hk,.inl ⟨j,tM,by assumption⟩⟩,hV,IV⟩
  ·rename_i tM
   rw [aN] at h2
   obtain ⟨t,_,h2⟩:=h2
   cases h2
   exact ⟨R,h,Fz.refl _ _ _,⟨hk,.inr ⟨tM,t,rfl⟩⟩,hV,IV⟩
 case lv =>
  obtain ⟨h1,h2⟩:=bC.1 he
  have hk:nt≤k:=Nat.le_of_ble_eq_true h1
  split at h2
  ·rename_i j tM
   have SI:=hj k j tM hk
   split at h2 <;> cases h2
   ·rename_i e
    have hf:AN S (.pt,.fA j)=some (x,[(j,(x,.lv))]):=by simp only [AN,e]
    obtain ⟨R',k1,k2,_,k4,_,_⟩:=zH h hV SI hf
    exact ⟨R',k1,k2,⟨hk,.inl ⟨j,tM,.inr ⟨e,List.mem_singleton.2 rfl⟩⟩⟩,k4,zI hf⟩
   ·exact ⟨R,h,Fz.refl _ _ _,⟨hk,.inl ⟨j,tM,.inl (by assumption)⟩⟩,hV,IV⟩
  ·rename_i tM
   rw [aN] at h2
   obtain ⟨t,_,h2⟩:=h2
   cases h2
   exact ⟨R,h,Fz.refl _ _ _,⟨hk,.inr ⟨tM,t,rfl⟩⟩,hV,IV⟩
theorem wq (Mi:Core nt R w dA τ S) (hj:∀k j,iN ρ k=some j→nt≤k→nt≤j):∀{l:GL} {xs:List TV} {ws:List (Nat × Cell)},qI nt S G ρ l=some (xs,ws) →
  ∃R',Core nt R' w dA τ (ff S ws)∧Fz dA R w R'∧xs.length=l.length∧(∀(i:Nat) (p:Nat × Gh) (x:TV),l[i]?=some p→xs[i]?=some x→Fact nt w τ S ρ ws R' p x)∧Lq S (ff S ws)∧K3 nt ws
 | [],_,_,h=>by cases h;exact ⟨R,Mi,Fz.refl _ _ _,rfl,by simp,(fun k => .inl rfl),fun p hp=>by cases hp⟩
 | p :: l,xs,ws,h=>by
  simp only [qI] at h
  split at h
  ·rename_i x MY h1
   split at h
   ·rename_i Fo us h2
    cases h
    obtain ⟨R1,k1,k2,k3,k4,k5,k6⟩:=wq Mi hj h2
    obtain ⟨R2,m1,m2,m3,m4,m5⟩:=FE k1 k5 (fun k hk=>by
     have hs:=Mi.slt k hk
     have hK:=Mi.key k
     rw [iC.slot hs] at hK
     exact ⟨hK.dB k2.1 fun _ _=>rfl,fun m hm=>(Mi.inv k m hm).1⟩) hj h1
    rw [iM]
    refine ⟨R2,m1,k2.trans m2,by simp [k3],fun i p' x' hi hx=>?_,m4,fun q hq=>?_⟩
    ·cases i with
     | zero=>cases hi;cases hx;exact m3.mono (dF.refl _ _) fun q hq=>List.mem_append_left _ hq
     | succ i=>exact (k4 i p' x' (by simpa using hi) (by simpa using hx)).mono m2.1 fun q hq=>List.mem_append_right _ hq
    ·rcases List.mem_append.1 hq with hq | hq
     ·exact m5 q hq
     ·exact k6 q hq
   ·cases h
  ·cases h
theorem ug:∀{ws:List (Nat × Cell)} {S:St} {k:Nat} {c:Cell},(k,c)∈ws→∃p∈ws,p.1=k∧ff S ws k=p.2
 | (j,x) :: ws,S,k,c,h=>by
  simp only [ff]
  by_cases e:k=j
  ·subst e;exact ⟨_,List.mem_cons_self ..,rfl,by rw [bT]⟩
  ·rw [dc _ _ e]
   rcases aO.1 h with h | h
   ·cases h;exact (e rfl).elim
   ·obtain ⟨p,h1,h2,h3⟩:=ug h (S:=S)
    exact ⟨p,List.mem_cons_of_mem _ h1,h2,h3⟩
def jX (nt:Nat) (τ:Nat→Value) (ρ:List (Nat × Option Nat)) (k:Nat):Value:=if k<nt then τ k else match iN ρ k with | some j=>τ j | none => .slice none 0 0
end
theorem qg {k:Nat} {r:Option Nat}:∀{ρ:List (Nat × Option Nat)},nq k ρ=some r→(k,r)∈ρ
 | (i,j) :: ρ,h=>by
  simp only [nq] at h
  cases hb:Nat.beq i k with
  | true=>rw [hb] at h;cases h;rw [av hb];exact List.mem_cons_self ..
  | false=>rw [hb] at h;exact List.mem_cons_of_mem _ (qg h)
theorem wN {S:St} {k i:Nat}:∀{G:GL},(k,.fA i)∈G→(∀j,S k=(.pt,.fA j)→(i,some j)∈nf S G)∧∀t,S k=(.nl t,.no)→(i,none)∈nf S G
 | (k',g) :: G,h=>by
  rcases aO.1 h with h | h
  ·cases h
   refine ⟨fun j hj=>?_,fun t hj=>?_⟩ <;> simp only [nf,hj] <;> exact List.mem_append_left _ (List.mem_singleton.2 rfl)
  ·obtain ⟨h1,h2⟩:=wN h (S:=S)
   cases g <;> first | exact ⟨fun j hj=>List.mem_append_right _ (h1 j hj),fun t hj=>List.mem_append_right _ (h2 t hj)⟩ | exact ⟨h1,h2⟩
theorem Ai {S:St} {m:Nat} {ts us:List (Nat × Nat)} {cs:List TV} (hm:S m=(.ag cs,.cl us)):∀{G:GL},(m,.cl ts)∈G→∀t∈ts,(∀j,kR t.1 us=some j→(t.2,some j)∈nf S G)∧(kR t.1 us=none→∀y,cs[t.1]?=some (.nl y)→(t.2,none)∈nf S G)
 | (k',g) :: G,h,t,ht=>by
  rcases aO.1 h with h | h
  ·cases h
   refine ⟨fun j hj=>?_,fun hj y hy=>?_⟩ <;> simp only [nf,hm] <;> refine List.mem_append_left _ (List.mem_filterMap.2 ⟨t,ht,?_⟩)
   ·simp only [hj]
   ·simp only [hj,hy]
  ·obtain ⟨h1,h2⟩:=Ai hm h t ht
   cases g <;> first | exact ⟨fun j hj=>List.mem_append_right _ (h1 j hj),fun a b c=>List.mem_append_right _ (h2 a b c)⟩ | exact ⟨h1,h2⟩
theorem oN {S:St} {i j:Nat}:∀{G:GL},(i,some j)∈nf S G→∃q,j∈(S q).2.db
 | (k',g) :: G,h=>by
  cases g <;> first | exact oN (G:=G) h | skip
  ·simp only [nf] at h
   rcases List.mem_append.1 h with h | h
   ·refine ⟨k',?_⟩
    split at h
    ·rename_i e
     simp only [List.mem_singleton,Prod.mk.injEq,aJ] at h
     rw [e,h.2];exact List.mem_singleton.2 rfl
    ·simp at h
    ·cases h
   ·exact oN h
  ·rename_i ts
   simp only [nf] at h
   rcases List.mem_append.1 h with h | h
   ·refine ⟨k',?_⟩
    split at h
    ·rename_i cs us e
     obtain ⟨t,_,ht⟩:=List.mem_filterMap.1 h
     split at ht
     ·rename_i hf
      simp only [aJ,Prod.mk.injEq] at ht
      rw [e,←ht.2]
      exact bg.2 ⟨_,l7 hf,rfl⟩
     ·simp at ht
     ·cases ht
    ·cases h
   ·exact oN h
theorem ya {A:Type} {f:A→Option Nat}:∀{l:List A} {i j k:Nat} {x y:A},kS (l.filterMap f)=true→l[i]?=some x→f x=some k→l[j]?=some y→f y=some k→i=j
 | a :: l,0,0,_,_,_,_,_,_,_,_=>rfl
 | a :: l,0,j+1,k,x,y,hd,h1,h2,h3,h4=>by
  have e:a=x:=by simpa using h1
  subst e
  rw [List.filterMap_cons,h2] at hd
  simp only [kS,ah,aC] at hd
  have:=hd.1 k (List.mem_filterMap.2 ⟨y,aK (by simpa using h3),h4⟩)
  simp at this
 | a :: l,i+1,0,k,x,y,hd,h1,h2,h3,h4=>by
  have e:a=y:=by simpa using h3
  subst e
  rw [List.filterMap_cons,h4] at hd
  simp only [kS,ah,aC] at hd
  have:=hd.1 k (List.mem_filterMap.2 ⟨x,aK (by simpa using h1),h2⟩)
  simp at this
 | a :: l,i+1,j+1,k,x,y,hd,h1,h2,h3,h4=>by
  have Co:kS (l.filterMap f)=true:=by
   rw [List.filterMap_cons] at hd
   split at hd
   ·exact hd
   ·simp only [kS,ah] at hd;exact hd.2
  exact congrArg (· + 1) (ya Co (by simpa using h1) h2 (by simpa using h3) h4)
 | [],_,_,_,_,_,_,h,_,_,_=>by simp at h
section
variable {C:Ctx} {S:St} {a:Act} {w:World} {R:Reach} {τ:Nat→Value} {G:GL} {xs:List TV}
theorem Bn (h:dX C S a w R τ) (he:sb C.nt G S=some xs):∃R',dX C (fX G xs) a w R' (jX C.nt τ (nf S G))∧dF R w R' w:=by
 unfold sb at he
 split at he
 ·rename_i Fo ws hv
  obtain ⟨uC,he⟩:=bC.1 he
  cases he
  generalize Jb:nf S G=ρ at *
  simp only [M7,ah] at uC
  obtain ⟨⟨⟨⟨o1,o2⟩,o3⟩,o4⟩,o5⟩:=uC
  -- the names
  have cons:∀i r,(i,r)∈ρ→nq i ρ=some r∧(i<1000000∨r=some i)∧C.nt≤i:=fun i r hi=>by
   have:=aC.1 o2 (i,r) hi
   simp only [ah,Bool.or_eq_true,aA] at this
   exact ⟨this.1.1,this.1.2.imp (fun h=>Nat.le_of_ble_eq_true h) id,Nat.le_of_ble_eq_true this.2⟩
  have OH:∀k j,iN ρ k=some j→C.nt≤k→C.nt≤j:=fun k j hk hn=>by
   unfold iN at hk
   cases hl:nq k ρ with
   | none=>rw [hl] at hk;cases hk;exact hn
   | some r =>
    rw [hl] at hk
    simp only [Option.getD_some] at hk
    subst hk
    have hm:=qg hl
    rw [←Jb] at hm
    obtain ⟨q,hq⟩:=oN hm
    exact (h.core.inv q j hq).1
  obtain ⟨R',k1,k2,k3,k4,k5,k6⟩:=wq h.core OH hv
  refine ⟨R',⟨h.size,h.defers,?_,fun t ht=>?_,⟨h.io.1,fun k hk=>?_⟩,h.ext.reach k2.1 k2.2,h.gl.dB k2.1⟩,k2.1⟩
  ·have len:xs.length=G.length:=k3
   have M3:∀i r,(i,r)∈ρ→jX C.nt τ ρ i=match r with | some j=>τ j | none => .slice none 0 0:=fun i r hi=>by
    obtain ⟨c1,_,c2⟩:=cons i r hi
    unfold jX iN
    rw [au (by omega),c1]
    cases r <;> rfl
   have Og:∀k,C.nt≤k→nq k ρ=none→jX C.nt τ ρ k=τ k:=fun k hk hl=>by
    unfold jX iN;rw [au (by omega),hl];rfl
   have C5:∀k,k<C.nt→jX C.nt τ ρ k=τ k:=fun k hk=>by unfold jX;rw [aw hk]
   have M4:∀k j,C.nt≤k→iN ρ k=some j→jX C.nt τ ρ k=τ j:=fun k j hk hj=>by unfold jX;rw [au (by omega),hj]
   have F1:∀k,C.nt≤k→iN ρ k=none→jX C.nt τ ρ k = .slice none 0 0:=fun k hk hj=>by unfold jX;rw [au (by omega),hj]
   have M8:∀p∈G,_:=aC.1 o5
   -- IK in the state where all is read N8 is to be read
   have M5:∀k j x,(k,.pv)∈G→iN ρ k=some j→S j=(x,.pv)→ff S ws j=(x,.pv):=fun k j x hm hn hs=>by
    have:=M8 _ hm
    simp only [hn] at this
    rw [je (vV this),hs]
   have Na:∀j x,(S j=(x,.lv)∨(S j=(x,.pv)∧(j,(x,.lv))∈ws))→ff S ws j=(x,.lv):=fun j x hs=>by
    rcases hs with hs | ⟨hs,hm⟩
    ·rcases k5 j with e | e | ⟨e,_⟩
     ·rw [←e,hs]
     ·rw [hs] at e;cases e
     ·rw [hs] at e;cases e
    ·obtain ⟨p,hp,_,Fu⟩:=ug (S:=S) hm
     rcases k5 j with e | e | ⟨_,e⟩
     ·have:=k6 p hp
      rw [←Fu,←e,hs] at this;cases this
     ·rw [hs] at e;cases e
     ·rw [e,hs]
   have NH:∀k cs us,S k=(.ag cs,.cl us)→ff S ws k=(.ag cs,.cl us):=fun k cs us hs=>by
    rcases k5 k with e | e | ⟨e,_⟩
    ·rw [←e,hs]
    ·rw [hs] at e;cases e
    ·rw [hs] at e;cases e
   have key:∀k i g x,G[i]?=some (k,g)→xs[i]?=some x→iC R' w (jX C.nt τ ρ) x g (jX C.nt τ ρ k):=fun k i g x hG hx=>by
    have hm:=aK hG
    have hf:=k4 i (k,g) x hG hx
    unfold Fact at hf
    cases g <;> simp only at hf <;> try (exact hf.elim)
    case no =>
     rw [C5 k hf.1];exact dO.no hf.2
    case fA i' =>
     obtain ⟨hk,rfl,hf⟩:=hf
     have hK:=h.core.key k
     rw [C5 k hk]
     rw [iC.slot (h.core.slt k hk)] at hK
     obtain ⟨n1,n2⟩:=wN (S:=S) hm
     rw [Jb] at n1 n2
     rcases hf with ⟨j,hj⟩ | ⟨t,hj⟩
     ·rw [hj] at hK
      exact ⟨by rw [M3 _ _ (n1 j hj)];exact hK.1,hK.2⟩
     ·rw [hj] at hK
      have hv:τ k = .slice none 0 0:=by
       have:Rep R w (.nl t) (τ k):=iV.rep hK
       generalize τ k=v at *
       cases this with
       | sc h=>cases h
       | nl=>rfl
      exact ⟨by rw [M3 _ _ (n2 t hj)];exact hv,by rw [hv];rfl⟩
    case ptr m o =>
     obtain ⟨hk,rfl,hj⟩:=hf
     have hK:=h.core.key k
     rw [C5 k hk]
     rw [iC.slot (h.core.slt k hk),hj] at hK
     have hi:=h.core.inv k m (by rw [hj];exact List.mem_singleton.2 rfl)
     have hl:=M8 _ hm
     simp only [Option.isNone_iff_eq_none] at hl
     obtain ⟨b,b1,b2⟩:∃b,τ m = .pointer (some ⟨b,0,none⟩)∧τ k = .pointer (some ⟨b,o,none⟩):=hK
     exact ⟨b,by rw [Og m hi.1 hl];exact b1,b2⟩
    case cl ts =>
     obtain ⟨hk,cs,us,b,ys,e,zs,a1,a2,a3,rfl,a5,a6,a7,a8⟩:=hf
     have hl:=M8 _ hm
     simp only [Option.isNone_iff_eq_none] at hl
     have hK:=k1.key k
     rw [NH k cs us a1] at hK
     obtain ⟨b',_,_,_,c1,_,_,_,_,c2⟩:=hK
     rw [a2] at c1;cases c1
     refine ⟨b,ys,e,zs,by rw [Og k hk hl];exact a2,a3,rfl,a5,fun t ht=>?_,c2⟩
     obtain ⟨n1,n2⟩:=Ai a1 hm t ht
     rw [Jb] at n1 n2
     cases Nq:kR t.1 us with
     | some j =>
      rw [M3 _ _ (n1 j Nq)]
      exact a7 _ (l7 Nq)
     | none =>
      obtain ⟨y,hy⟩:=(a8 t ht).resolve_left (by rw [Nq];simp)
      rw [M3 _ _ (n2 Nq y hy)]
      obtain ⟨v,hv,_,hr⟩:=a6.get _ _ hy
      rw [hv]
      cases hr with
      | sc h=>cases h
      | nl=>rfl
    case pv =>
     obtain ⟨hk,⟨j,hj,hs⟩ | ⟨hj,t,rfl⟩⟩:=hf
     ·have hK:=k1.key j
      rw [M5 k j x hm hj hs] at hK
      rw [M4 k j hk hj];exact hK
     ·rw [F1 k hk hj];exact ⟨t,[],rfl,.inl ⟨rfl,rfl⟩⟩
    case lv =>
     obtain ⟨hk,⟨j,hj,hs⟩ | ⟨hj,t,rfl⟩⟩:=hf
     ·have hK:=k1.key j
      rw [Na j x hs] at hK
      rw [M4 k j hk hj];exact hK
     ·rw [F1 k hk hj];exact ⟨t,[],rfl,.inl ⟨rfl,rfl⟩⟩
   have owner:∀k g,gp (jX C.nt τ ρ) (fX G xs) k=some g→∃(i:Nat) (g0:Gh) (j:Nat),G[i]?=some (k,g0)∧g0.own=true∧iN ρ k=some j∧gp τ (ff S ws) j=some g∧(ff S ws j).2.AF=false:=fun k g hb=>by
    obtain ⟨ho,hb⟩:=fG hb
    rcases kz (G:=G) (xs:=xs) k with e | ⟨i,g0,x,hG,hx,e⟩
    ·rw [e] at ho;cases ho
    ·rw [e] at ho
     have hm:=aK hG
     have hf:=k4 i (k,g0) x hG hx
     unfold Fact at hf
     cases g0 <;> simp only at hf <;> try (first | exact hf.elim | (cases ho;done))
     case cl ts =>
      obtain ⟨hk,cs,us,b,ys,e,zs,a1,a2,a3,rfl,a5,a6,a7,a8⟩:=hf
      have hl:=M8 _ hm
      simp only [Option.isNone_iff_eq_none] at hl
      have hn:iN ρ k=some k:=by unfold iN;rw [hl];rfl
      rw [Og k hk hl] at hb
      exact ⟨i,_,k,hG,rfl,hn,gD (by rw [NH k cs us a1];rfl) (by rw [NH k cs us a1];rfl) hb,by rw [NH k cs us a1];rfl⟩
     case pv =>
      obtain ⟨hk,⟨j,hj,hs⟩ | ⟨hj,t,rfl⟩⟩:=hf
      ·rw [M4 k j hk hj] at hb
       exact ⟨i,_,j,hG,rfl,hj,gD (by rw [M5 k j x hm hj hs];rfl) (by rw [M5 k j x hm hj hs];rfl) hb,by rw [M5 k j x hm hj hs];rfl⟩
      ·rw [F1 k hk hj] at hb;cases hb
     case lv =>
      obtain ⟨hk,⟨j,hj,hs⟩ | ⟨hj,t,rfl⟩⟩:=hf
      ·rw [M4 k j hk hj] at hb
       exact ⟨i,_,j,hG,rfl,hj,gD (by rw [Na j x hs];rfl) (by rw [Na j x hs];rfl) hb,by rw [Na j x hs];rfl⟩
      ·rw [F1 k hk hj] at hb;cases hb
   refine ⟨fun k=>?_,fun k k' g hb kg=>?_,fun k g hb=>?_,fun j k hk=>?_,k1.pT,fun k hk=>?_,fun k d hk=>?_⟩
   ·rcases kz (G:=G) (xs:=xs) k with e | ⟨i,g,x,hG,hx,e⟩
    ·rw [e];exact dO.no (τ:=jX C.nt τ ρ) (.dead _)
    ·rw [e];exact key k i g x hG hx
   ·obtain ⟨i,g0,j,e1,e2,e3,e4,e5⟩:=owner k g hb
    obtain ⟨i',U7,j',f1,f2,f3,f4,f5⟩:=owner k' g kg
    have:=k1.tE e4 f4
    subst this
    have:=ya o3 e1 (by simp only [e2,ai];exact e3) f1 (by simp only [f2,ai];exact f3)
    subst this
    rw [e1] at f1;cases f1;rfl
   ·obtain ⟨i,g0,j,e1,e2,e3,e4,e5⟩:=owner k g hb
    exact k1.dA j g e4
   ·rcases kz (G:=G) (xs:=xs) j with e | ⟨i,g,x,hG,hx,e⟩
    ·rw [e] at hk;cases hk
    ·rw [e] at hk
     have:=aC.1 (aC.1 o4 _ (aK hG)) k hk
     obtain ⟨q,hq,HL⟩:=List.any_eq_true.1 this
     simp only [ah] at HL
     obtain ⟨HL,OK⟩:=HL
     obtain ⟨i',hi'⟩:=List.mem_iff_getElem?.1 hq
     have fO:i'<xs.length:=by rw [len];exact (aD.1 hi').1
     have vz:xs[i']?=some xs[i']:=aq fO
     have Qb:=av HL
     obtain ⟨q1,q2⟩:=q
     simp only at Qb OK
     subst Qb
     have hf:=k4 i' _ _ hi' vz
     refine ⟨?_,?_⟩
     ·unfold Fact at hf
      cases q2 <;> simp only at hf <;> first | exact hf.1 | exact hf.elim | cases OK
     ·rw [o7 o1 hi' vz];intro e;simp only at e;subst e;cases OK
   ·rcases kz (G:=G) (xs:=xs) k with e | ⟨i,g,x,hG,hx,e⟩
    ·rw [e];rfl
    ·rw [e]
     have hf:=k4 i (k,g) x hG hx
     unfold Fact at hf
     cases g <;> simp only at hf <;> first | rfl | exact hf.elim | (exfalso;have:=hf.1;omega)
   ·rcases kz (G:=G) (xs:=xs) k with e | ⟨i,g,x,hG,hx,e⟩
    ·rw [e] at hk;cases hk
    ·rw [e] at hk
     simp only at hk
     subst hk
     have hf:=k4 i _ x hG hx
     exact hf.elim
  ·unfold jX;rw [aw ht];exact h.tmps t ht
  ·unfold jX
   have:=h.io.1
   rw [au (by omega)]
   unfold iN
   cases hl:nq k ρ with
   | none=>simp only [Option.getD_none];exact h.io.2 k hk
   | some r =>
    have:=(cons k r (qg hl)).2.1.resolve_left (by omega)
    subst this
    simp only [Option.getD_some];exact h.io.2 k hk
 ·cases he
theorem sj:∀{l:List Nat} {S:St},dX C S a w R τ→dX C (wP l S) a w R τ
 | [],_,h=>h
 | k :: r,S,h=>by
  unfold wP
  split
  ·rename_i x d hk;exact sj (h.recover hk)
  ·exact sj h
theorem r9 (h:dX C S a w R τ) (he:jc C.nt G S=some xs):∃R' mI,dX C (fX G xs) a w R' mI∧dF R w R' w:=by
 obtain ⟨R',h1,h2⟩:=Bn (sj h) he
 exact ⟨R',_,h1,h2⟩
end
end Go.Eng
namespace Go.Eng
open Go.RowKit
def FK:MX→Exit
 | .normal => .normal
 | .exit id => .exit id
 | .goto l => .goto l
 | .ret => .ret
section
variable {C:Ctx} {R:Type}
theorem tn.jc {S:St} {a:Act} {w:World} {G:GL} {xs:List TV} (h:tn C S a w) (he:jc C.nt G S=some xs):tn C (fX G xs) a w:=by
 obtain ⟨R,τ,h⟩:=h
 obtain ⟨R',mI,h',_⟩:=r9 h he
 exact ⟨R',_,h'⟩
theorem tx {P:Program} {a:Act} {w:World} {Q:Exit→Act→World→Prop} {c:Code} (I:Nat→Nat→Act→World→Prop)
  (first:c.wp P (fun e a w=>match e with | .goto l=>∃n,I n l a w | e=>Q e a w) a w)
  (pass:∀n l a w,I n l a w→∃rest,findLabel c l=some rest∧rest.wp P (fun e a' w'=>match e with | .goto l'=>∃m,m<n∧I m l' a' w' | e=>Q e a' w') a w) :
  (Code.scope c).wp P Q a w:=by
 intro b k cs
 have key:∀n l a w,I n l a w→∀rest,findLabel c l=some rest→∃e a' w',Q e a' w'∧Arrives P (lone (b.at a (.code rest :: .inScope c :: k)) cs w) b k cs e a' w':=by
  intro n
  induction n using Nat.strongRecOn with
  | _ n ih =>
   intro l a w hI rest hf
   obtain ⟨PY,KJ,hp⟩:=pass n l a w hI
   rw [hf] at KJ
   cases KJ
   obtain ⟨e,oC,oi,hq,qm⟩:=hp b (.inScope c :: k) cs
   cases e with
   | normal=>exact ⟨.normal,oC,oi,hq,Steps.trans qm (.one step_inScope)⟩
   | exit id=>exact ⟨.exit id,oC,oi,hq,fun k' hk=>qm k' (by simp [exitTo,hk])⟩
   | goto l' =>
    obtain ⟨m,fO,hJ⟩:=hq
    obtain ⟨wM,L2,_⟩:=pass m l' oC oi hJ
    have hg:gotoIn l' (.inScope c :: k)=some (.code wM :: .inScope c :: k):=by simp [gotoIn,L2]
    obtain ⟨JT,Kj,Ii,DX,vE⟩:=ih m fO l' oC oi hJ wM L2
    exact ⟨JT,Kj,Ii,DX,.of_steps (qm _ hg) vE⟩
   | ret=>exact ⟨_,oC,oi,hq,qm⟩
   | panic ch=>exact ⟨_,oC,oi,hq,qm⟩
   | outgrown=>exact ⟨_,oC,oi,hq,qm⟩
 obtain ⟨e,oC,oi,hq,qm⟩:=first b (.inScope c :: k) cs
 cases e with
 | normal=>exact ⟨.normal,oC,oi,hq,.head step_scope (Steps.trans qm (.one step_inScope))⟩
 | exit id=>exact ⟨.exit id,oC,oi,hq,fun k' hk => .head step_scope (qm k' (by simp [exitTo,hk]))⟩
 | goto l' =>
  obtain ⟨m,hJ⟩:=hq
  obtain ⟨wM,L2,_⟩:=pass m l' oC oi hJ
  have hg:gotoIn l' (.inScope c :: k)=some (.code wM :: .inScope c :: k):=by simp [gotoIn,L2]
  obtain ⟨JT,Kj,Ii,DX,vE⟩:=key m l' oC oi hJ wM L2
  exact ⟨JT,Kj,Ii,DX,.of_steps (.head step_scope (qm _ hg)) vE⟩
 | ret=>exact ⟨_,oC,oi,hq,.of_steps (.one step_scope) qm⟩
 | panic ch=>exact ⟨_,oC,oi,hq,.of_steps (.one step_scope) qm⟩
 | outgrown=>exact ⟨_,oC,oi,hq,.of_steps (.one step_scope) qm⟩
def yB (C:Ctx) (R:Type) (c:Code) (g:Ev R):Prop:=∀{h:Hint} {S:St} {a:Act} {w:World} {K:eZ R} {r:R} {Q:Exit→Act→World→Prop},tn C S a w→g h S K=some r →
  (∀e S' a' w',tn C S' a' w'→K e S'=some r→Q (FK e) a' w')→c.wp C.P Q a w
theorem yB.seq {x y:Code} {g:Ev R} {o:Ev R} (hx:yB C R x g) (hy:yB C R y o):yB C R (.seq x y) (IG C.nt g o o):=by
 intro h S a w K r Q hs he hQ
 have plain:∀{h1 h2:Hint},g h1 S (FZ (o h2) K)=some r→(Code.seq x y).wp C.P Q a w:=fun he=>by
  refine wp_seq (hx hs he fun e S' a' w' h' hk=>?_)
  cases e with
  | normal=>exact hy h' hk hQ
  | exit id=>exact hQ (.exit id) S' a' w' h' hk
  | goto l=>exact hQ (.goto l) S' a' w' h' hk
  | ret=>exact hQ .ret S' a' w' h' hk
 cases h <;> first | exact plain he | skip
 rename_i G h1 h2
 have he:g h1 S (sK C.nt (o h2) G K)=some r:=he
 refine wp_seq (hx hs he fun e S' a' w' h' hk=>?_)
 cases e with
 | normal =>
  simp only [sK] at hk
  split at hk
  ·rename_i xs hr
   exact hy (h'.jc hr) hk hQ
  ·cases hk
 | exit id=>exact hQ (.exit id) S' a' w' h' hk
 | goto l=>exact hQ (.goto l) S' a' w' h' hk
 | ret=>exact hQ .ret S' a' w' h' hk
theorem JV (hE:ji C.P C.E) (hF:∀f,bA C.P C.gl f (C.E.fs f)) (c:Code):yB C R c (mO C.P C.E C.nt c)∧(∀l g,wk (R:=R) C.P C.E C.nt c l=some g→∃rest,findLabel c l=some rest∧yB C R rest g)∧∀l,wk (R:=R) C.P C.E C.nt c l=none→findLabel c l=none:=by
 have sy:∀{f:Ev R} {c:Code},∀l g,(gN f).2 l=some g→∃rest,findLabel c l=some rest∧yB C R rest g:=fun l g e=>by cases e
 induction c with
 | skip=>exact ⟨fun hs he hQ=>wp_skip (hQ .normal _ _ _ hs he),sy,fun _ _=>rfl⟩
 | label l =>
  refine ⟨fun hs he hQ=>wp_label (hQ .normal _ _ _ hs he),fun l' g e=>?_,fun l' e=>?_⟩
  ·have e:ov l l'=some g:=e
   unfold ov at e
   cases hb:Nat.beq l l' with
   | true =>
    rw [hb] at e;cases e
    exact ⟨.skip,by rw [av hb];simp [findLabel],fun hs he hQ=>wp_skip (hQ .normal _ _ _ hs he)⟩
   | false=>rw [hb] at e;cases e
  ·have e:ov (R:=R) l l'=none:=e
   unfold ov at e
   cases hb:Nat.beq l l' with
   | true=>rw [hb] at e;cases e
   | false =>
    have:¬l=l':=fun e=>by rw [e] at hb;simp at hb
    simp [findLabel,this]
 | exit id=>exact ⟨fun hs he hQ=>wp_exit (hQ (.exit id) _ _ _ hs he),sy,fun _ _=>rfl⟩
 | goto l=>exact ⟨fun hs he hQ=>wp_goto (hQ (.goto l) _ _ _ hs he),sy,fun _ _=>rfl⟩
 | ret=>exact ⟨fun hs he hQ=>wp_ret (hQ .ret _ _ _ hs he),sy,fun _ _=>rfl⟩
 | region id ops draw=>exact ⟨fun hs he hQ=>Bp hE hF hs he fun S' a' w' h' hk=>hQ .normal S' a' w' h' hk,sy,fun _ _=>rfl⟩
 | seq x y I9 HE =>
  refine ⟨yB.seq I9.1 HE.1,fun l g e=>?_,fun l e=>?_⟩
  ·have e:yX C.nt (wk C.P C.E C.nt x) (wk C.P C.E C.nt y) (mO C.P C.E C.nt y) (mO C.P C.E C.nt y) l=some g:=e
   unfold yX at e
   split at e
   ·rename_i gx ex
    cases e
    obtain ⟨rest,hr,hd⟩:=I9.2.1 l gx ex
    exact ⟨.seq rest y,by simp [findLabel,hr],hd.seq HE.1⟩
   ·rename_i ex
    split at e
    ·rename_i gy ey
     cases e
     obtain ⟨rest,hr,hd⟩:=HE.2.1 l gy ey
     exact ⟨rest,by simp [findLabel,I9.2.2 l ex,hr],fun hs he hQ=>hd hs he hQ⟩
    ·cases e
  ·have e:yX C.nt (wk C.P C.E C.nt x) (wk C.P C.E C.nt y) (mO C.P C.E C.nt y) (mO C.P C.E C.nt y) l=none:=e
   unfold yX at e
   split at e
   ·cases e
   ·rename_i ex
    split at e
    ·cases e
    ·rename_i ey;simp [findLabel,I9.2.2 l ex,HE.2.2 l ey]
 | cond o x y I9 HE =>
  refine ⟨?_,sy,fun _ _=>rfl⟩
  intro h S a w K r Q hs he hQ
  have he:(match fR C.E C.nt S 0 o with | some (.b t,.no)=>cond t (mO C.P C.E C.nt x h.s1 S K) (mO C.P C.E C.nt y h.s2 S K) | some (.ub e,.no)=>cond e (both (mO C.P C.E C.nt x h.s1 S K) (mO C.P C.E C.nt y h.s2 S K)) (mO C.P C.E C.nt y h.s2 S K) | _=>none)=some r:=he
  split at he
  ·rename_i t ho
   have OF:=hs
   obtain ⟨R0,τ,h0⟩:=OF
   have hv:=(dP h0 (Lt.refl S) ho).of_val rfl
   refine wp_cond_split hv (fun e=>?_) (fun e=>?_)
   ·subst e;exact I9.1 hs he hQ
   ·subst e;exact HE.1 hs he hQ
  ·rename_i e ho
   have OF:=hs
   obtain ⟨R0,τ,h0⟩:=OF
   obtain ⟨b,hv,hb⟩:∃b,a.eval o = .bool b∧(b=true→e=true):=by
    have hv:=dP h0 (Lt.refl S) ho
    generalize a.eval o=v at hv
    cases hv with
    | sc h=>cases h
    | ub h=>exact ⟨_,rfl,h⟩
   refine wp_cond_split hv (fun e1=>?_) (fun e1=>?_)
   ·rw [hb e1] at he
    exact I9.1 hs (qF.1 he).1 hQ
   ·cases e with
    | false=>exact HE.1 hs he hQ
    | true=>exact HE.1 hs (qF.1 he).2 hQ
  ·cases he
 | block id x ih =>
  refine ⟨?_,sy,fun _ _=>rfl⟩
  intro h S a w K r Q hs he hQ
  have he:mO C.P C.E C.nt x h.s1 S (lD id K)=some r:=he
  refine wp_block (ih.1 hs he fun e S' a' w' h' hk=>?_)
  cases e with
  | normal=>exact hQ .normal S' a' w' h' hk
  | exit j =>
   simp only [lD] at hk
   cases hb:Nat.beq j id with
   | true =>
    rw [hb] at hk
    have:=av hb
    simp only [FK,Exit.inBlock,this,if_true]
    exact hQ .normal S' a' w' h' hk
   | false =>
    rw [hb] at hk
    have:j≠id:=fun e=>by rw [e] at hb;simp at hb
    simp only [FK,Exit.inBlock,this,if_false]
    exact hQ (.exit j) S' a' w' h' hk
  | goto l=>exact hQ (.goto l) S' a' w' h' hk
  | ret=>exact hQ .ret S' a' w' h' hk
 | loop x ih =>
  refine ⟨?_,sy,fun _ _=>rfl⟩
  intro h S a w K r Q hs he hQ
  cases h <;> try (cases he;done)
  rename_i G h1
  have he:xe C.nt (mO C.P C.E C.nt x h1) G S K=some r:=he
  unfold xe at he
  split at he
  ·rename_i xs hr
   obtain ⟨n,hn⟩:=(sG (fun n r=>lZ (vS ((rD C.P C.E x).1 h1) G) (tr:=Li C.nt G) n xs r)).1 he
   refine wp_loop_ghost (fun n a w=>∃xs,tn C (fX G xs) a w∧nA (NI (mO C.P C.E C.nt x h1) G) (Li C.nt G) n xs K=some r) n ⟨xs,hs.jc hr,hn⟩ ?_
   rintro n a w ⟨xs,hs,hn⟩
   cases n with
   | zero=>cases hn
   | succ n =>
    rw [nA] at hn
    refine ih.1 hs hn fun e S' a' w' h' hk=>?_
    cases e with
    | normal =>
     simp only [Li] at hk
     split at hk
     ·rename_i e;cases e
     ·cases hk
     ·rename_i ys hr
      cases Cl:jc C.nt G S' with
      | none=>rw [Cl] at hr;cases hr
      | some zs =>
       rw [Cl] at hr;cases hr
       exact ⟨n,Nat.lt_succ_self n,_,h'.jc Cl,hk⟩
    | exit id=>exact hQ (.exit id) S' a' w' h' hk
    | goto l=>exact hQ (.goto l) S' a' w' h' hk
    | ret=>exact hQ .ret S' a' w' h' hk
  ·cases he
 | rangeFunc _ _ _ _ _ _=>exact ⟨fun _ he=>(by cases he),sy,fun _ _=>rfl⟩
 | scope x ih =>
  refine ⟨?_,sy,fun _ _=>rfl⟩
  intro h S a w K r Q hs he hQ
  cases h <;> try (cases he;done)
  rename_i ls h1
  have he:mO C.P C.E C.nt x h1 S (kF C.nt (wk C.P C.E C.nt x) ls h1 K)=some r:=he
  let F:=wk (R:=R) C.P C.E C.nt x
  have hm:=fun i=>fun n r=>lZ (vR (f:=F) (rD C.P C.E x).2 ls h1) (tr:=Fp C.nt ls) (K:=K) n i r
  have go:∀{S' a' w'} l,tn C S' a' w'→∀j,Fp C.nt ls (.goto l) S'=some (some j)→j.1=l∧∃G,uo l ls=some G∧tn C (fX G j.2) a' w':=by
   intro S' a' w' l h' j hj
   simp only [Fp] at hj
   split at hj
   ·rename_i G hl
    cases hr:jc C.nt G S' with
    | none=>rw [hr] at hj;cases hj
    | some ys=>rw [hr] at hj;cases hj;exact ⟨rfl,G,hl,h'.jc hr⟩
   ·cases hj
  refine tx (fun n l a w=>∃xs G,uo l ls=some G∧tn C (fX G xs) a w∧nA (E6 F ls h1) (Fp C.nt ls) n (l,xs) K=some r) ?_ ?_
  ·refine ih.1 hs he fun e S' a' w' h' hk=>?_
   cases e with
   | goto l =>
    simp only [kF,tP] at hk
    split at hk
    ·rename_i e;simp [Fp] at e
    ·cases hk
    ·rename_i j hj
     obtain ⟨e1,G,hG,hS⟩:=go l h' j hj
     obtain ⟨n,hn⟩:=(sG (hm j)).1 hk
     exact ⟨n,j.2,G,hG,hS,by rw [←e1];exact hn⟩
   | normal=>exact hQ .normal S' a' w' h' hk
   | exit id=>exact hQ (.exit id) S' a' w' h' hk
   | ret=>exact hQ .ret S' a' w' h' hk
  ·rintro n l a w ⟨xs,G,hG,hS,hn⟩
   cases n with
   | zero=>cases hn
   | succ n =>
    rw [nA] at hn
    simp only [E6,hG] at hn
    cases hF:F l with
    | none=>rw [hF] at hn;cases hn
    | some g =>
     rw [hF] at hn
     obtain ⟨rest,hr,hd⟩:=ih.2.1 l g hF
     refine ⟨rest,hr,hd hS hn fun e S' a' w' h' hk=>?_⟩
     cases e with
     | goto l' =>
      split at hk
      ·rename_i e;simp [Fp] at e
      ·cases hk
      ·rename_i j hj
       obtain ⟨e1,G',Tl,KP⟩:=go l' h' j hj
       exact ⟨n,Nat.lt_succ_self n,j.2,G',Tl,KP,by rw [←e1];exact hk⟩
     | normal=>exact hQ .normal S' a' w' h' hk
     | exit id=>exact hQ (.exit id) S' a' w' h' hk
     | ret=>exact hQ .ret S' a' w' h' hk
 | refuse _=>exact ⟨fun _ he=>(by cases he),sy,fun _ _=>rfl⟩
theorem JW (hE:ji C.P C.E) (hF:∀f,bA C.P C.gl f (C.E.fs f)) (c:Code):∀{h:Hint} {S:St} {a:Act} {w:World} {K:eZ R} {r:R} {Q:Exit→Act→World→Prop},tn C S a w→mO C.P C.E C.nt c h S K=some r →
  (∀e S' a' w',tn C S' a' w'→K e S'=some r→Q (FK e) a' w')→c.wp C.P Q a w:=fun hs he hQ=>(JV hE hF c).1 hs he hQ
end
end Go.Eng
namespace Go.Eng
open Go.RowKit
def jF (xs:List Value) (k:Nat):Value:=if k<1000000 then xs.getD k undef else xs.getD (k - 1000000) undef
theorem sP {n:Nat} {ms:List Md} {q6:List TV} {k:Nat} (h:k<n):Fq n ms q6 k=match ms.getD k .pl with | .pl=>(q6.getD k .dead,.no) | .rf=>(.pt,.ptr (1000000+k) 0) | _=>(.pt,.fA (1000000+k)):=by
 have:Nat.blt k n=true:=Nat.ble_eq_true_of_le h
 unfold Fq
 simp only [this,ai]
 rfl
theorem sQ {n:Nat} {ms:List Md} {q6:List TV} {k:Nat} (hn:n≤1000000) (h:k<n):Fq n ms q6 (1000000+k)=match ms.getD k .pl with | .pl=>(.dead,.no) | .rf=>(q6.getD k .dead,.cl []) | _=>(q6.getD k .dead,.pv):=by
 have h1:Nat.blt (1000000+k) n=false:=by
  cases hb:Nat.blt (1000000+k) n with
  | false=>rfl
  | true=>exact absurd (Nat.le_of_ble_eq_true hb:1000000+k+1≤n) (by omega)
 have h2:Nat.ble 1000000 (1000000+k)=true:=Nat.ble_eq_true_of_le (by omega)
 have h3:Nat.blt (1000000+k) (1000000+n)=true:=Nat.ble_eq_true_of_le (by omega)
 unfold Fq
 simp only [h1,h2,h3,ai,ae,aY,Nat.add_sub_cancel_left]
 rfl
theorem o0 {n:Nat} {ms:List Md} {q6:List TV} {k:Nat} (h1:n≤k) (h2:k<1000000∨1000000+n≤k):Fq n ms q6 k=(.dead,.no):=by
 have e1:Nat.blt k n=false:=by
  cases hb:Nat.blt k n with
  | false=>rfl
  | true=>exact absurd (Nat.le_of_ble_eq_true hb:k+1≤n) (by omega)
 have e2:(Nat.ble 1000000 k&&Nat.blt k (1000000+n))=false:=by
  cases hb:(Nat.ble 1000000 k&&Nat.blt k (1000000+n)) with
  | false=>rfl
  | true =>
   simp only [ah] at hb
   have a:=Nat.le_of_ble_eq_true hb.1
   have b:k+1≤1000000+n:=Nat.le_of_ble_eq_true hb.2
   omega
 unfold Fq
 simp only [e1,e2,ae]
theorem nx {n:Nat} (hn:n≤1000000) (k:Nat):k<n∨(∃j,j<n∧k=1000000+j)∨(n≤k∧(k<1000000∨1000000+n≤k)):=by
 by_cases h1:k<n
 ·exact .inl h1
 ·by_cases h2:k<1000000∨1000000+n≤k
  ·exact .inr (.inr ⟨by omega,h2⟩)
  ·exact .inr (.inl ⟨k - 1000000,by omega,by omega⟩)
theorem E3 {P:Program} {E:cC} {gl:Nat→Option (List Value)} {nt:Nat} {w:World} {R:Reach} {ins:List TV} {xs:List Value} {ms:List Md} (hn:xs.length≤nt) (OQ:nt≤1000000) (hR:∀b o,R b o→b<w.heap.size) (GH:GlOK gl R w) (ha:wa R w ms ins xs) (hs:Kv (· ≠ .pl) ms xs) :
  dX ⟨P,E,nt,w,R,we ms xs,jF xs,gl⟩ (Fq xs.length ms ins) { tmps:=(⟨xs⟩:Array Value)++Array.replicate (nt - xs.length) undef,defers:=[] } w R (jF xs):=by
 have hx:xs.length≤1000000:=Nat.le_trans hn OQ
 have arg:∀k,k<xs.length→A3 R w (ms.getD k .pl) (ins.getD k .dead) (xs.getD k undef):=fun k hk=>by
  have h1:xs[k]?=some xs[k]:=aq hk
  have h2:ins[k]?=some (ins[k]'(by rw [ha.1];exact hk)):=aq _
  have:=ha.2 k _ _ h2 h1
  rw [af,af,af,h1,h2] at *
  simpa using this
 have t1:∀k,k<xs.length→jF xs k=xs.getD k undef:=fun k hk=>by unfold jF;rw [aw (by omega)]
 have t2:∀k,jF xs (1000000+k)=xs.getD k undef:=fun k=>by unfold jF;rw [au (by omega),Nat.add_sub_cancel_left]
 have own:∀k,(Fq xs.length ms ins k).2.own=true→∃j,j<xs.length∧k=1000000+j∧ms.getD j .pl ≠ .pl:=fun k ho=>by
  rcases nx hx k with h | ⟨j,hj,rfl⟩ | ⟨h1,h2⟩
  ·rw [sP h] at ho
   cases hm:ms.getD k .pl <;> rw [hm] at ho <;> cases ho
  ·refine ⟨j,hj,rfl,fun hm=>?_⟩
   rw [sQ hx hj,hm] at ho;cases ho
  ·rw [o0 h1 h2] at ho;cases ho
 have val:∀k,k<xs.length→xs[k]?=some (xs.getD k undef):=fun k hk=>by rw [af,aq hk];rfl
 refine ⟨by simp;omega,rfl,⟨fun k=>?_,fun k k' g hb kg=>?_,fun k g hb=>?_,fun j k hk=>?_,hR,fun k hk=>?_,fun k d hk=>?_⟩,fun t ht=>?_,⟨OQ,fun k _=>rfl⟩,Ext.refl _ _ _,GH⟩
 ·rcases nx hx k with h | ⟨j,hj,rfl⟩ | ⟨h1,h2⟩
  ·have hA:=arg k h
   rw [sP h,t1 k h]
   cases hm:ms.getD k .pl <;> rw [hm] at hA
   ·exact dO.no (τ:=jF xs) hA
   ·obtain ⟨b,cs,e,zs,e1,_⟩:=hA
    exact ⟨b,by rw [t2,e1],e1⟩
   all_goals exact ⟨(t2 k).symm,eP.one hA⟩
  ·have hA:=arg j hj
   rw [sQ hx hj,t2]
   cases hm:ms.getD j .pl <;> rw [hm] at hA
   ·exact dO.no (τ:=jF xs) (.dead _)
   ·obtain ⟨b,cs,e,zs,e1,e2,e3,e4,e5,e6⟩:=hA
    exact ⟨b,cs,e,zs,e1,e2,e3,e4,by simp,e6⟩
   all_goals exact hA
  ·rw [o0 h1 h2];exact dO.no (τ:=jF xs) (.dead _)
 ·obtain ⟨o1,b1⟩:=fG hb
  obtain ⟨o2,b2⟩:=fG kg
  obtain ⟨j,hj,rfl,m1⟩:=own k o1
  obtain ⟨j',tM,rfl,m2⟩:=own k' o2
  rw [t2] at b1 b2
  rw [hs j j' _ _ g m1 m2 (val j hj) (val j' tM) b1 b2]
 ·obtain ⟨o1,b1⟩:=fG hb
  obtain ⟨j,hj,rfl,m1⟩:=own k o1
  rw [t2] at b1
  exact .inl ⟨j,_,m1,val j hj,b1⟩
 ·rcases nx hx j with h | ⟨i,hi,rfl⟩ | ⟨h1,h2⟩
  ·rw [sP h] at hk
   have key:ms.getD j .pl ≠ .pl→k=1000000+j→nt≤k∧(Fq xs.length ms ins k).2 ≠ .no:=fun hm e=>by
    subst e
    refine ⟨by omega,?_⟩
    rw [sQ hx h]
    cases BS:ms.getD j .pl <;> first | exact (hm BS).elim | simp
   cases hm:ms.getD j .pl <;> rw [hm] at hk key <;> simp only [Gh.db,List.mem_singleton,List.not_mem_nil] at hk
   all_goals exact key (by simp) hk
  ·rw [sQ hx hi] at hk
   cases hm:ms.getD i .pl <;> rw [hm] at hk <;> simp [Gh.db] at hk
  ·rw [o0 h1 h2] at hk;cases hk
 ·rcases nx hx k with h | ⟨j,hj,rfl⟩ | ⟨h1,h2⟩
  ·rw [sP h];cases ms.getD k .pl <;> rfl
  ·have:1000000+j<nt:=hk
   omega
  ·rw [o0 h1 h2];rfl
 ·rcases nx hx k with h | ⟨j,hj,rfl⟩ | ⟨h1,h2⟩
  ·rw [sP h] at hk;cases hm:ms.getD k .pl <;> rw [hm] at hk <;> cases hk
  ·rw [sQ hx hj] at hk;cases hm:ms.getD j .pl <;> rw [hm] at hk <;> cases hk
  ·rw [o0 h1 h2] at hk;cases hk
 ·have ht:t<nt:=ht
  unfold jF
  rw [aw (by omega)]
  simp only [Array.getD_eq_getD_getElem?,Array.getElem?_append,List.size_toArray]
  by_cases h:t<xs.length
  ·simp [h,af]
  ·have Ni:t - xs.length<nt - xs.length:=by omega
   rw [au h,af,List.getElem?_eq_none (by omega)]
   simp [Ni]
end Go.Eng
namespace Go.Eng
open Go.RowKit
def resM (tmps:Array Value):ResultVar→Sem Value
 | .tmp t=>pure (tmps.getD t undef)
 | .cell a t=>do loadVar t (←asAddr (tmps.getD a undef))
theorem qQ {P:Program} {w:World} {fn:Func} {tmps:Array Value} {vs:List Value} (h:(fn.results.toList.mapM (resM tmps)).run P w = .ok vs w) :
  (results fn tmps).run P w = .ok (if vs.length=1 then vs.headD undef else .tuple ⟨vs⟩) w:=by
 have e:results fn tmps=(do
   let vs ←fn.results.mapM (resM tmps)
   pure (if h:vs.size=1 then vs[0] else .tuple vs)):=by
  unfold results
  congr 2
 rw [e,Array.mapM_eq_mapM_toList]
 simp only [Sem.run_bind,Sem.run_map,h,Result.andThen_ok,Sem.run_pure]
 match vs with
 | []=>simp
 | [x]=>simp
 | _ :: _ :: _=>simp
section
variable {C:Ctx} {a:Act} {w:World} {τ:Nat→Value}
theorem qC {own:List Nat}:∀{rs:List ResultVar} {i:Nat} {S S':St} {xs:List TV} {R:Reach},dX C S a w R τ→qD C.P C.nt own i rs S=some (xs,S') →
  ∃R' vs,dX C S' a w R' τ∧dF R w R' w∧(rs.mapM (resM a.tmps)).run C.P w = .ok vs w∧xs.length=rs.length∧vs.length=rs.length ∧
   ∀(q:Nat) (r:ResultVar) (x:TV) (v:Value),rs[q]?=some r→xs[q]?=some x→vs[q]?=some v→match r with | .tmp t=>v=a.tmps.getD t undef | .cell _ _=>Rep R' w x v∧(i+q) ∉ own
 | [],i,S,S',xs,R,h,he=>by
  cases he
  exact ⟨R,[],h,dF.refl _ _,rfl,rfl,rfl,by simp⟩
 | .tmp t :: rs,i,S,S',xs,R,h,he=>by
  simp only [qD] at he
  split at he
  ·rename_i Fo TH h1
   cases he
   obtain ⟨R',vs,k1,k2,k3,k4,k5,k6⟩:=qC h h1
   refine ⟨R',a.tmps.getD t undef :: vs,k1,k2,?_,by simp [k4],by simp [k5],fun q r x v hr hx hv=>?_⟩
   ·simp only [List.mapM_cons,resM,Sem.run_bind,Sem.run_pure,Result.andThen_ok,k3]
   ·cases q with
    | zero=>cases hr;cases hv;rfl
    | succ q =>
     have:=k6 q r x v (by simpa using hr) (by simpa using hx) (by simpa using hv)
     rwa [show i+1+q=i+(q+1) by omega] at this
  ·cases he
 | .cell b t :: rs,i,S,S',xs,R,h,he=>by
  simp only [qD] at he
  obtain ⟨h0,he⟩:=bC.1 he
  simp only [ah,Bool.not_eq_true'] at h0
  have hb:b<C.nt:=Nat.le_of_ble_eq_true h0.1
  split at he
  ·rename_i m o n agg hS hs
   obtain ⟨h1,he⟩:=bC.1 he
   have h1:agg=true∨n=1:=by
    rcases Bool.or_eq_true _ _ ▸ h1 with h | h
    ·exact .inl h
    ·exact .inr (av h)
   split at he
   ·rename_i cs ts hm
    split at he
    ·rename_i G2 ws hf
     split at he
     ·rename_i x hp
      split at he
      ·rename_i Fo TH OI
       cases he
       obtain ⟨bb,ys,e,c1,c2,c3,c4,c5,c6,_⟩:=mQ h (Lt.refl S) hm
       obtain ⟨R1,f1,f2,f3,f4,_⟩:=l0 h.core (Lt.refl S).q c3 (fun t ht=>⟨(c6 t ht).1,c4 t ht⟩) hf
       have KG:=rb h hb
       rw [hS] at KG
       obtain ⟨b',p1,hv⟩:∃b',τ m = .pointer (some ⟨b',0,none⟩)∧a.tmps.getD b undef = .pointer (some ⟨b',o,none⟩):=KG
       rw [c1] at p1;cases p1
       obtain ⟨inf,hi,rfl,ha⟩:=fN hs
       obtain ⟨hlen,jl⟩:=ng f3 hp h1
       have hc:∀j y,((ys.drop o).take inf.size)[j]?=some y→w.cell? ⟨bb,o+j,none⟩=some y:=fun j y hj=>by
        rw [aT] at hj
        split at hj
        ·rw [List.getElem?_drop] at hj
         simp only [World.cell?,c2];simpa using hj
        ·cases hj
       obtain ⟨R2,vs,k1,k2,k3,k4,k5,k6⟩:=qC (h.fz f1 f2) OI
       refine ⟨R2,(if agg then .agg ⟨(ys.drop o).take inf.size⟩ else ((ys.drop o).take inf.size).headD undef) :: vs,k1,f2.1.trans k2,?_,by simp [k4],by simp [k5],fun q r x' v hr hx wh=>?_⟩
       ·simp only [List.mapM_cons,resM,hv,asAddr,Sem.run_bind,Sem.run_pure,Result.andThen_ok,iv hi ha h1 hlen hc,k3]
       ·cases q with
        | zero =>
         cases hr;cases hx;cases wh
         exact ⟨(vm jl).mono k2,by simpa using h0.2⟩
        | succ q =>
         have:=k6 q r x' v (by simpa using hr) (by simpa using hx) (by simpa using wh)
         rwa [show i+1+q=i+(q+1) by omega] at this
      ·cases he
     ·cases he
    ·cases he
   ·cases he
  ·cases he
end
theorem iB.of {R:Reach} {w:World}:∀{xs:List TV} {ys:List Value},xs.length=ys.length→(∀(i:Nat) (x:TV) (y:Value),xs[i]?=some x→ys[i]?=some y→Rep R w x y)→iB R w xs ys
 | [],[],_,_ => .nil
 | x :: xs,y :: ys,h,k => .cons (k 0 x y rfl rfl) (iB.of (by simpa using h) fun i a b ha hb=>k (i+1) a b (by simpa using ha) (by simpa using hb))
 | [],_ :: _,h,_=>by simp at h
 | _ :: _,[],h,_=>by simp at h
theorem sf {own:List Nat}:∀{rs:List ResultVar} {i q t:Nat},rs[q]?=some (.tmp t)→(own.contains (i+q)=false→(t,.no)∈resG own i rs)∧(own.contains (i+q)=true→(t,.fA (900000+(i+q)))∈resG own i rs∧(900000+(i+q),.pv)∈resG own i rs)
 | r :: rs,i,0,t,h=>by
  cases h
  refine ⟨fun h=>?_,fun h=>?_⟩ <;> simp only [Nat.add_zero] at h ⊢ <;> simp only [resG,h,ai,ae]
  ·exact List.mem_append_left _ (List.mem_singleton.2 rfl)
  ·exact ⟨List.mem_append_left _ (List.mem_cons_self ..),List.mem_append_left _ (List.mem_cons_of_mem _ (List.mem_singleton.2 rfl))⟩
 | r :: rs,i,q+1,t,h=>by
  obtain ⟨h1,h2⟩:=sf (own:=own) (rs:=rs) (i:=i+1) (q:=q) (t:=t) (by simpa using h)
  rw [show i+1+q=i+(q+1) by omega] at h1 h2
  cases r with
  | tmp u=>exact ⟨fun h=>List.mem_append_right _ (h1 h),fun h=>⟨List.mem_append_right _ (h2 h).1,List.mem_append_right _ (h2 h).2⟩⟩
  | cell u v=>exact ⟨h1,h2⟩
theorem uU:∀{ms:List Md} {k q:Nat},(ms[q]?=some .rf→(1000000+(k+q),.cl [])∈mH k ms)∧((ms[q]?=some .sl∨ms[q]?=some .sm)→(1000000+(k+q),.pv)∈mH k ms)
 | [],k,q=>by simp
 | m :: ms,k,0=>by
  refine ⟨fun h=>?_,fun h=>?_⟩
  ·cases h;exact List.mem_cons_self ..
  ·rcases h with h | h <;> cases h <;> exact List.mem_cons_self ..
 | m :: ms,k,q+1=>by
  obtain ⟨h1,h2⟩:=uU (ms:=ms) (k:=k+1) (q:=q)
  rw [show k+1+q=k+(q+1) by omega] at h1 h2
  refine ⟨fun h=>?_,fun h=>?_⟩
  ·have:=h1 (by simpa using h)
   cases m <;> first | exact List.mem_cons_of_mem _ this | exact this
  ·have:=h2 (by simpa using h)
   cases m <;> first | exact List.mem_cons_of_mem _ this | exact this
theorem sd {own:List Nat} {H:St}:∀{rs:List ResultVar} {i:Nat} {xs:List TV},xs.length=rs.length→(pU own H i rs xs).length=rs.length
 | [],_,_,_=>by simp [pU]
 | .tmp _ :: rs,i,x :: xs,h=>by simp [pU,sd (rs:=rs) (i:=i+1) (xs:=xs) (by simpa using h)]
 | .cell _ _ :: rs,i,x :: xs,h=>by simp [pU,sd (rs:=rs) (i:=i+1) (xs:=xs) (by simpa using h)]
 | _ :: _,_,[],h=>by simp at h
theorem se {own:List Nat} {H:St}:∀{rs:List ResultVar} {i q:Nat} {xs:List TV} {r:ResultVar} {x:TV},rs[q]?=some r→xs[q]?=some x→(pU own H i rs xs)[q]?=some (match r with | .tmp t=>cond (own.contains (i+q)) (H (900000+(i+q))).1 (H t).1 | .cell _ _=>x)
 | r :: rs,i,0,x :: xs,_,_,h1,h2=>by cases h1;cases h2;cases r <;> simp [pU]
 | r :: rs,i,q+1,x :: xs,r',x',h1,h2=>by
  have:=se (own:=own) (H:=H) (rs:=rs) (i:=i+1) (q:=q) (xs:=xs) (r:=r') (x:=x') (by simpa using h1) (by simpa using h2)
  rw [show i+1+q=i+(q+1) by omega] at this
  cases r <;> simp only [pU,List.getElem?_cons_succ] <;> exact this
 | [],_,_,_,_,_,h,_=>by simp at h
 | _ :: _,_,_,[],_,_,_,h=>by simp at h
def kV (H:St):Nat→List Md→List TV→List TV
 | k,.rf :: ms,_ :: ins=>(H (1000000+k)).1 :: kV H (k+1) ms ins
 | k,.sl :: ms,_ :: ins=>(H (1000000+k)).1 :: kV H (k+1) ms ins
 | k,_ :: ms,y :: ins=>y :: kV H (k+1) ms ins
 | _,_,_=>[]
theorem td {H:St}:∀{ms:List Md} {k:Nat} {ins:List TV},ms.length≤ins.length→backO ms ins (px H k ms)=some (kV H k ms ins)
 | [],k,ins,_=>by cases ins <;> simp [backO,px,kV,fg]
 | m :: ms,k,y :: ins,h=>by
  have:=td (H:=H) (ms:=ms) (k:=k+1) (ins:=ins) (by simpa using h)
  cases m <;> simp [backO,px,kV,this]
 | _ :: _,_,[],h=>by simp at h
theorem uS {H:St}:∀{ms:List Md} {k q:Nat} {ins:List TV} {y:TV},(kV H k ms ins)[q]?=some y→(ms.getD q .pl = .rf∨ms.getD q .pl = .sl→y=(H (1000000+(k+q))).1)∧(ms.getD q .pl = .sm→ins[q]?=some y)∧q<ms.length
 | m :: ms,k,0,x :: ins,y,h=>by
  cases m <;> simp only [kV,List.getElem?_cons_zero,aJ] at h <;> subst h <;> simp
 | m :: ms,k,q+1,x :: ins,y,h=>by
  have h':(kV H (k+1) ms ins)[q]?=some y:=by cases m <;> simpa [kV] using h
  obtain ⟨h1,h2,h3⟩:=uS h'
  rw [show k+1+q=k+(q+1) by omega] at h1
  exact ⟨h1,h2,by simp;omega⟩
 | [],k,q,ins,y,h=>by cases ins <;> simp [kV] at h
 | m :: _,_,_,[],_,h=>by cases m <;> simp [kV] at h
theorem uq {H:St}:∀{ms:List Md} {k q:Nat} {ins:List TV} {y:TV},nr H k ms=ln ms ins→ms.length≤ins.length→ms[q]?=some .sm→ins[q]?=some y→y=(H (1000000+(k+q))).1
 | m :: ms,k,0,x :: ins,y,h,_,h1,h2=>by
  cases h1;cases h2
  simp only [nr,ln,bt] at h
  exact h.1.symm
 | m :: ms,k,q+1,x :: ins,y,h,hl,h1,h2=>by
  have h':nr H (k+1) ms=ln ms ins:=by
   cases m <;> simp only [nr,ln,bt] at h <;> first | exact h | exact h.2
  have:=uq h' (by simpa using hl) (by simpa using h1) (by simpa using h2)
  rwa [show k+1+q=k+(q+1) by omega] at this
 | [],_,_,_,_,_,_,h,_=>by simp at h
 | _ :: _,_,_,[],_,_,h,_,_=>by simp at h
theorem sH {H:St}:∀{ms:List Md} {k:Nat} {ins:List TV},ms.length≤ins.length→(nr H k ms).length=(ln ms ins).length
 | [],_,ins,_=>by cases ins <;> rfl
 | m :: ms,k,x :: ins,h=>by
  have:=sH (H:=H) (ms:=ms) (k:=k+1) (ins:=ins) (by simpa using h)
  cases m <;> simp [nr,ln,this]
 | _ :: _,_,[],h=>by simp at h
theorem pE {nt:Nat} {S:St} {G:GL} {ρ:List (Nat × Option Nat)}:∀{l:GL} {xs:List TV} {ws:List (Nat × Cell)},qI nt S G ρ l=some (xs,ws)→xs.length=l.length
 | [],_,_,h=>by cases h;rfl
 | p :: l,xs,ws,h=>by
  simp only [qI] at h
  split at h
  ·split at h
   ·rename_i h2;cases h;simp [pE h2]
   ·cases h
  ·cases h
theorem pF {nt:Nat} {S:St} {G:GL} {ρ:List (Nat × Option Nat)}:∀{l:GL} {xs:List TV} {ws:List (Nat × Cell)} {i:Nat} {p:Nat × Gh} {x:TV},qI nt S G ρ l=some (xs,ws)→l[i]?=some p→xs[i]?=some x→∃us,yM nt S G ρ p=some (x,us)
 | p :: l,xs,ws,i,p',x',h,h1,h2=>by
  simp only [qI] at h
  split at h
  ·rename_i hv
   split at h
   ·rename_i h3
    cases h
    cases i with
    | zero=>cases h1;cases h2;exact ⟨_,hv⟩
    | succ i=>exact pF h3 (by simpa using h1) (by simpa using h2)
   ·cases h
  ·cases h
 | [],_,_,_,_,_,_,h,_=>by simp at h
theorem sa {nt:Nat} {G:GL} {S:St} {xs:List TV} (h:jc nt G S=some xs) {k:Nat} {g:Gh} (hm:(k,g)∈G):∃x,fX G xs k=(x,g)∧(g = .no→k<nt)∧∀i,g = .fA i→k<nt∧x = .pt:=by
 unfold jc sb at h
 split at h
 ·rename_i hv
  obtain ⟨uC,he⟩:=bC.1 h
  cases he
  simp only [M7,ah] at uC
  obtain ⟨i,hi⟩:=List.mem_iff_getElem?.1 hm
  have fO:i<xs.length:=by rw [pE hv];exact (aD.1 hi).1
  have hx:xs[i]?=some xs[i]:=aq fO
  obtain ⟨us,hu⟩:=pF hv hi hx
  refine ⟨_,o7 uC.1.1.1.1 hi hx,fun e=>?_,fun j e=>?_⟩
  ·subst e
   simp only [yM] at hu
   exact Nat.le_of_ble_eq_true (bC.1 hu).1
  ·subst e
   simp only [yM] at hu
   obtain ⟨h1,h2⟩:=bC.1 hu
   refine ⟨Nat.le_of_ble_eq_true h1,?_⟩
   split at h2
   ·simp only [aJ,Prod.mk.injEq] at h2;exact h2.1.symm
   ·simp only [aJ,Prod.mk.injEq] at h2;exact h2.1.symm
   ·cases h2
 ·cases h
section
variable {P:Program} {E:cC} {gl:Nat→Option (List Value)} {nt:Nat} {ms:List Md} {w w0:World} {R0 R2:Reach} {ins outs:List TV} {xs:List Value} {H:St} {a:Act} {yC:Nat→Value}
theorem sI (hs:dX ⟨P,E,nt,w0,R0,we ms xs,jF xs,gl⟩ H a w R2 yC) (hG:∀p∈mH 0 ms,∃x,H p.1=(x,p.2)) {q:Nat} {v:Value} (hm:(ms.getD q .pl).BI) (hv:xs[q]?=some v):∃x g,H (1000000+q)=(x,g)∧(ms.getD q .pl = .rf→g = .cl [])∧(ms.getD q .pl ≠ .rf→g = .pv)∧v=yC (1000000+q):=by
 have Js:ms[q]?=some (ms.getD q .pl):=by
  cases e:ms[q]? with
  | none=>rw [af,e] at hm;exact (hm.1 rfl).elim
  | some m=>rw [af,e];rfl
 have wh:v=yC (1000000+q):=by
  have:yC (1000000+q)=jF xs (1000000+q):=hs.io.2 _ (Nat.le_add_right _ _)
  rw [this]
  unfold jF
  rw [au (by omega),Nat.add_sub_cancel_left,af,hv];rfl
 obtain ⟨g1,g2⟩:=uU (ms:=ms) (k:=0) (q:=q)
 rw [Nat.zero_add] at g1 g2
 cases e:ms.getD q .pl <;> rw [e] at hm Js
 ·exact (hm.1 rfl).elim
 ·obtain ⟨x,c1⟩:=hG _ (g1 Js)
  exact ⟨x,_,c1,fun _=>rfl,fun h=>(h rfl).elim,wh⟩
 ·obtain ⟨x,c1⟩:=hG _ (g2 (.inl Js))
  exact ⟨x,_,c1,fun h=>by (try cases h),fun _=>rfl,wh⟩
 ·obtain ⟨x,c1⟩:=hG _ (g2 (.inr Js))
  exact ⟨x,_,c1,fun h=>by (try cases h),fun _=>rfl,wh⟩
 ·exact (hm.2 rfl).elim
theorem yt (hs:dX ⟨P,E,nt,w0,R0,we ms xs,jF xs,gl⟩ H a w R2 yC) (hG:∀p∈mH 0 ms,∃x,H p.1=(x,p.2)) (BR:ms.length≤ins.length) (e2:nr H 0 ms=ln ms ins) {q:Nat} {y:TV} {v:Value} (hy:(kV H 0 ms ins)[q]?=some y) (hv:xs[q]?=some v):Fm R2 w (ms.getD q .pl) y v:=by
 obtain ⟨y1,y2,y3⟩:=uS hy
 rw [Nat.zero_add] at y1
 by_cases hm:(ms.getD q .pl).BI
 ·obtain ⟨x,g,c1,c2,c3,c4⟩:=sI hs hG hm hv
  have hK:=hs.core.key (1000000+q)
  rw [c1] at hK
  cases e:ms.getD q .pl <;> rw [e] at hm
  ·exact (hm.1 rfl).elim
  ·have yE:=y1 (.inl e)
   rw [c1] at yE
   have:=c2 e
   subst this
   obtain ⟨b,cs,el,zs,p1,p2,p3,p4,p5,p6⟩:=hK
   exact ⟨b,cs,el,zs,by rw [c4];exact p1,p2,by rw [yE];exact p3,p4,by simp,p6⟩
  ·have yE:=y1 (.inr e)
   rw [c1] at yE
   have:=c3 (by rw [e];simp)
   subst this
   rw [yE,c4];exact hK
  ·have Js:ms[q]?=some .sm:=by
    rw [af,aq y3] at e
    rw [aq y3];exact congrArg some e
   have yE:=uq e2 BR Js (y2 e)
   rw [Nat.zero_add,c1] at yE
   have:=c3 (by rw [e];simp)
   subst this
   rw [yE,c4];exact hK
  ·exact (hm.2 rfl).elim
 ·cases e:ms.getD q .pl <;> rw [e] at hm <;> first | trivial | exact (hm ⟨by simp,by simp⟩).elim
theorem xj {q:Nat} {g:Gh} (c2:ms.getD q .pl = .rf→g = .cl []) (c3:ms.getD q .pl ≠ .rf→g = .pv):g.own=true∧g.AE=false:=by
 by_cases e:ms.getD q .pl = .rf
 ·rw [c2 e];exact ⟨rfl,rfl⟩
 ·rw [c3 e];exact ⟨rfl,rfl⟩
end
theorem Bm {nt:Nat} {G:GL} {S:St} {xs:List TV} (h:jc nt G S=some xs) {k m o:Nat} (hm:(k,.ptr m o)∈G):(fX G xs k).1 = .pt:=by
 unfold jc sb at h
 split at h
 ·rename_i hv
  obtain ⟨uC,he⟩:=bC.1 h
  cases he
  simp only [M7,ah] at uC
  obtain ⟨i,hi⟩:=List.mem_iff_getElem?.1 hm
  have fO:i<xs.length:=by rw [pE hv];exact (aD.1 hi).1
  have hx:xs[i]?=some xs[i]:=aq fO
  obtain ⟨us,hu⟩:=pF hv hi hx
  rw [o7 uC.1.1.1.1 hi hx]
  simp only [yM] at hu
  obtain ⟨_,h2⟩:=bC.1 hu
  split at h2
  ·obtain ⟨_,h3⟩:=bC.1 h2
   simp only [aJ,Prod.mk.injEq] at h3;exact h3.1.symm
  ·cases h2
 ·cases h
theorem J0 {P:Program} {E:cC} {gl:Nat→Option (List Value)} {fn:Func} {sg:bW} {w w0:World} {R0:Reach} {ins outs:List TV} {xs:List Value} {S:St} {a:Act} (hlen:ins.length=xs.length) (hp:xs.length=fn.params.size) (kp:zK fn sg=true)
  (h:tn ⟨P,E,fn.ntmps,w0,R0,we sg.md xs,jF xs,gl⟩ S a w) (ho:Bs fn sg=none) (he:zL P fn.ntmps fn sg S=some (outs++ln sg.md ins)) :
  a.defers=[]∧∃x R' kY ys,(results fn a.tmps).run P w = .ok x w∧Ext w0 R0 (we sg.md xs) w R'∧(∀b o,R' b o→b<w.heap.size)∧vY sg R' w (fun b=>we sg.md xs b∨w0.heap.size≤b) ins xs outs x kY ys:=by
 simp only [zK,ah] at kp
 obtain ⟨⟨⟨⟨⟨⟨⟨b1,b2⟩,b3⟩,b4⟩,b5⟩,b6⟩,b7⟩,b8⟩:=kp
 have b1:fn.ntmps<900000:=Nat.le_of_ble_eq_true b1
 have b2:=Nat.le_of_ble_eq_true b2
 have b3:=Nat.le_of_ble_eq_true b3
 have b4:=av b4
 have b5:fn.results.size<1000:=Nat.le_of_ble_eq_true b5
 have BR:sg.md.length≤ins.length:=by omega
 rw [ho,Option.isSome_none,Bool.false_or] at b6
 have blt:∀q∈sg.own,q<sg.fo:=fun q hq=>Nat.le_of_ble_eq_true (aC.1 b6 q hq)
 have bs:∀q∈sg.own,Nat.blt q 1000=true:=fun q hq=>Nat.ble_eq_true_of_le (show q+1≤1000 by have:=blt q hq;omega)
 have Q6:jL sg.own=true:=aC.2 bs
 have oV:∀q∈sg.own,∀l,mq l q=l[q]?:=fun q hq l=>by unfold mq;rw [bs q hq,ai]
 have oT:∀q∈sg.own,∀l,nV l q=l[q]?:=fun q hq l=>by unfold nV;rw [bs q hq,ai]
 obtain ⟨R,τ,h⟩:=h
 simp only [zL,ho] at he
 split at he
 ·rename_i cx S1 hc
  split at he
  ·rename_i ys hr
   obtain ⟨R1,vs,k1,k2,k3,k4,k5,k6⟩:=qC h hc
   obtain ⟨R2,yC,hs,DJ⟩:=r9 k1 hr
   have he:=Option.some.inj he
   have o6:=fun {k g}=>sa hr (k:=k) (g:=g)
   generalize hH:fX (Eu fn sg) ys=H at *
   have hl:=sH (H:=H) (ms:=sg.md) (k:=0) BR
   obtain ⟨e1,e2⟩:=List.append_inj' he hl
   have KH:(pU sg.own H 0 fn.results.toList cx).length=sg.fo:=by rw [sd k4,b4,Array.length_toList]
   have LH:vs.length=sg.fo:=by rw [k5,b4,Array.length_toList]
   have HI:outs.take sg.fo=pU sg.own H 0 fn.results.toList cx:=by rw [←e1,←KH,List.take_left]
   have L4:outs.drop sg.fo=px H 0 sg.md:=by rw [←e1,←KH,List.drop_left]
   have HQ:∀q,sg.own.contains q=true ↔ q∈sg.own:=fun q=>by simp
   -- a result
   have res:∀q v,vs[q]?=some v→∃(r:ResultVar) (x:TV),fn.results.toList[q]?=some r∧cx[q]?=some x∧(match r with | ResultVar.tmp t=>v=a.tmps.getD t undef | ResultVar.cell _ _=>Rep R1 w x v∧q ∉ sg.own):=fun q v hv=>by
    have fO:=(aD.1 hv).1
    have h1:fn.results.toList[q]?=some (fn.results.toList[q]'(by omega)):=aq _
    have h2:cx[q]?=some (cx[q]'(by omega)):=aq _
    have:=k6 q _ _ v h1 h2 hv
    rw [Nat.zero_add] at this
    exact ⟨_,_,h1,h2,this⟩
   have CO:∀k x g,H k=(x,g)→k<fn.ntmps→dO R2 w yC x g (a.tmps.getD k undef):=fun k x g hk fO=>by
    have:=rb hs (t:=k) fO
    rw [hk] at this;exact this
   have Oi:∀q,q<sg.fo→outs[q]?=(pU sg.own H 0 fn.results.toList cx)[q]?:=fun q hq=>by
    rw [←HI,aT,aw hq]
   -- a result of P0 own
   have own:∀q∈sg.own,∀v,vs[q]?=some v→∃y,outs[q]?=some y∧v=yC (900000+q)∧H (900000+q)=(y,.pv)∧eP R2 w false v y:=fun q hq v hv=>by
    obtain ⟨r,x,r1,r2,r3⟩:=res q v hv
    have fO:=(aD.1 hv).1
    cases r with
    | cell=>exact (r3.2 hq).elim
    | tmp t =>
     obtain ⟨m1,m2⟩:=(sf (own:=sg.own) (i:=0) r1).2 (by rw [Nat.zero_add];exact (HQ q).2 hq)
     rw [Nat.zero_add] at m1 m2
     obtain ⟨x1,c1,_,c2⟩:=o6 (List.mem_append_left _ m1)
     obtain ⟨x2,d1,_⟩:=o6 (List.mem_append_left _ m2)
     obtain ⟨c3,rfl⟩:=c2 _ rfl
     have KG:=CO t _ _ c1 c3
     have hK:=hs.core.key (900000+q)
     rw [d1] at hK
     have wh:v=yC (900000+q):=r3.trans KG.1
     refine ⟨x2,?_,wh,d1,by rw [wh];exact hK⟩
     rw [Oi q (by omega),se r1 r2,Nat.zero_add]
     simp only [(HQ q).2 hq,ai,d1]
   have Mj:∀p∈mH 0 sg.md,∃x,H p.1=(x,p.2):=fun p hp=>by obtain ⟨x,c,_⟩:=o6 (List.mem_append_right _ hp);exact ⟨x,c⟩
   refine ⟨hs.defers,_,R2,vs,kV H 0 sg.md ins,qQ k3,hs.ext,hs.core.pT,⟨LH,?_,by rw [LH],?_,fun q hq v y hv hy=>?_,by rw [L4];exact td BR,fun q y v hy hv=>?_,fun q hq v b hv hb=>?_,fun j j' i i' v v' b hj tM hv wh hb kg=>?_,fun i hi v b hv hb q u hm hu Mb=>?_⟩⟩
   ·rw [←e1];simp only [ao,KH];omega
   ·refine iB.of (by simp only [pV,Q6,ai,List.length_mapIdx,aF];rw [LH,←e1,ao,KH];omega) fun q x v hx hv=>?_
    simp only [pV,Q6,ai,List.getElem?_mapIdx,aN] at hx
    obtain ⟨y,hy,rfl⟩:=hx
    cases Qw:sg.own.contains q with
    | true=>exact .pt _
    | false =>
     rw [ae]
     obtain ⟨r,x,r1,r2,r3⟩:=res q v hv
     rw [HI,se r1 r2,Nat.zero_add] at hy
     cases r with
     | cell=>cases hy;exact r3.1.mono DJ
     | tmp t =>
      simp only [Qw,ae,aJ] at hy
      subst hy
      have m1:=(sf (own:=sg.own) (i:=0) r1).1 (by rw [Nat.zero_add];exact Qw)
      obtain ⟨x1,c1,c2,_⟩:=o6 (List.mem_append_left _ m1)
      rw [c1,r3]
      exact iV.rep (CO t _ _ c1 (c2 rfl))
   ·rw [oV q hq] at hv
    rw [oT q hq] at hy
    obtain ⟨y',o1,_,_,o2⟩:=own q hq v hv
    rw [o1] at hy;cases hy;exact o2
   ·exact yt hs Mj BR e2 hy hv
   ·rw [oV q hq] at hv
    obtain ⟨y,_,o1,o2,_⟩:=own q hq v hv
    rw [o1] at hb
    exact hs.core.dA (900000+q) b (gD (by rw [o2];rfl) (by rw [o2];rfl) hb)
   ·rw [oV i (aK hj)] at hv
    rw [oV i' (aK tM)] at wh
    obtain ⟨y,_,o1,o2,_⟩:=own i (aK hj) v hv
    obtain ⟨y',_,R6,P2,_⟩:=own i' (aK tM) v' wh
    rw [o1] at hb
    rw [R6] at kg
    have:=hs.core.tE (gD (by rw [o2];rfl) (by rw [o2];rfl) hb) (gD (by rw [P2];rfl) (by rw [P2];rfl) kg)
    have:i=i':=by omega
    subst this
    exact xZ b7 hj tM
   ·rw [oV i hi] at hv
    obtain ⟨y,_,o1,o2,_⟩:=own i hi v hv
    obtain ⟨x,g,c1,c2,c3,c4⟩:=sI hs Mj hm hu
    rw [o1] at hb
    rw [c4] at Mb
    have LO:=xj c2 c3
    have:=hs.core.tE (gD (by rw [o2];rfl) (by rw [o2];rfl) hb) (gD (by rw [c1];exact LO.1) (by rw [c1];exact LO.2) Mb)
    have fO:=(aD.1 hv).1
    have:fn.results.size=sg.fo:=b4.symm
    omega
  ·cases he
 ·cases he
theorem JZ {P:Program} {E:cC} {gl:Nat→Option (List Value)} {fn:Func} {sg:bW} {w w0:World} {R0:Reach} {ins outs:List TV} {xs:List Value} {S:St} {a:Act} {r c:Nat} {t:TypeId} (hlen:ins.length=xs.length) (hp:xs.length=fn.params.size) (kp:zK fn sg=true)
  (h:tn ⟨P,E,fn.ntmps,w0,R0,we sg.md xs,jF xs,gl⟩ S a w) (ho:Bs fn sg=some ((r,t),c)) (he:zL P fn.ntmps fn sg S=some (outs++ln sg.md ins)) :
  a.defers=[]∧∃x R' kY ys,(results fn a.tmps).run P w = .ok x w∧Ext w0 R0 (we sg.md xs) w R'∧(∀b o,R' b o→b<w.heap.size)∧vY sg R' w (fun b=>we sg.md xs b∨w0.heap.size≤b) ins xs outs x kY ys:=by
 simp only [zK,ah] at kp
 obtain ⟨⟨⟨⟨⟨⟨⟨b1,b2⟩,b3⟩,b4⟩,b5⟩,b6⟩,b7⟩,b8⟩:=kp
 have b1:fn.ntmps<900000:=Nat.le_of_ble_eq_true b1
 have b3:=Nat.le_of_ble_eq_true b3
 have b4:=av b4
 have BR:sg.md.length≤ins.length:=by omega
 obtain ⟨R,τ,h⟩:=h
 simp only [zL,ho] at he
 obtain ⟨LM,GD⟩:fn.results.toList=[.cell r t]∧sg.own=[1000+c]:=by
  unfold Bs at ho
  split at ho
  ·rename_i a' t' j h1 h2
   cases hb:Nat.blt j 1000 with
   | true=>rw [hb] at ho;cases ho
   | false =>
    rw [hb] at ho;cases ho
    have:1000≤j:=Nat.le_of_not_lt fun fO=>by rw [show Nat.blt j 1000=true from Nat.ble_eq_true_of_le fO] at hb;cases hb
    rw [h1,h2,show 1000+(j - 1000)=j by omega];exact ⟨rfl,rfl⟩
  ·cases ho
 have Fv:sg.fo=1:=by rw [b4,←Array.length_toList,LM];rfl
 unfold Mo at he
 split at he
 ·rename_i m n UY Jg
  split at he
  ·rename_i ys hr
   obtain ⟨R2,yC,hs,DJ⟩:=r9 h hr
   have o6:=fun {k g}=>sa hr (k:=k) (g:=g)
   generalize hH:fX (B2 r m c sg) ys=H at *
   obtain ⟨x1,c1,_,_⟩:=o6 (k:=r) (g := .ptr m 0) (List.mem_cons_self ..)
   obtain ⟨x2,c2,_,_⟩:=o6 (k:=m) (g := .cl [(c,900000)]) (List.mem_cons_of_mem _ (List.mem_cons_self ..))
   obtain ⟨y,c3,_,_⟩:=o6 (k:=900000) (g := .pv) (List.mem_cons_of_mem _ (List.mem_cons_of_mem _ (List.mem_cons_self ..)))
   have Mj:∀p∈mH 0 sg.md,∃x,H p.1=(x,p.2):=fun p hp=>by obtain ⟨x,c,_⟩:=o6 (List.mem_cons_of_mem _ (List.mem_cons_of_mem _ (List.mem_cons_of_mem _ hp)));exact ⟨x,c⟩
   rw [c2] at he
   split at he
   ·rename_i cs g e
    cases e
    obtain ⟨hh,he⟩:=bC.1 he
    simp only [ah] at hh
    have hn:=av hh.1
    have KH:r<fn.ntmps:=Nat.le_of_ble_eq_true hh.2
    have he:=Option.some.inj he
    have hl:=sH (H:=H) (ms:=sg.md) (k:=0) BR
    rw [←List.cons_append] at he
    obtain ⟨e1,e2⟩:=List.append_inj' he hl
    rw [c3] at e1
    have uA:=rb hs (t:=r) KH
    rw [c1] at uA
    have hV:=hs.core.key m
    rw [c2] at hV
    obtain ⟨b,zs,el,Fo,p1,p2,p3,p4,p5,p6⟩:=hV
    cases p3
    have hv:a.tmps.getD r undef = .pointer (some ⟨b,0,none⟩):=by
     have Ox:=Bm hr (List.mem_cons_self ..)
     rw [hH,c1] at Ox
     simp only at Ox
     subst Ox
     obtain ⟨b',q1,q2⟩:∃b',yC m = .pointer (some ⟨b',0,none⟩)∧a.tmps.getD r undef = .pointer (some ⟨b',0,none⟩):=uA
     rw [p1] at q1;cases q1;exact q2
    have hy:=p5 (c,900000) (List.mem_singleton.2 rfl)
    simp only at hy
    have hK:=hs.core.key 900000
    rw [c3] at hK
    obtain ⟨inf,hi,tL,ha⟩:=fN Jg
    have BN:=p4.length
    have Cp:c<zs.length:=(aD.1 hy).1
    have j5:(fn.results.toList.mapM (resM a.tmps)).run P w = .ok [.agg ⟨zs⟩] w:=by
     rw [LM]
     simp only [List.mapM_cons,List.mapM_nil,resM,hv,asAddr,Sem.run_bind,Sem.run_pure,Result.andThen_ok,iv hi ha (.inl rfl) (w:=w) (b:=b) (off:=0) (ys:=zs) (by omega) (fun j y hj=>by simp only [World.cell?,p2];simpa using hj),if_true]
    have GF:Nat.blt (1000+c) 1000=false:=by
     cases hb:Nat.blt (1000+c) 1000 with
     | false=>rfl
     | true=>have:1000+c+1≤1000:=Nat.le_of_ble_eq_true hb;omega
    have oV:∀q∈sg.own,∀v,mq [.agg ⟨zs⟩] q=some v→v=yC 900000:=fun q hq v hv=>by
     rw [GD,List.mem_singleton] at hq
     subst hq
     unfold mq at hv
     simp only [GF,ae,List.getElem?_cons_zero,Nat.add_sub_cancel_left] at hv
     rw [hy] at hv;cases hv;rfl
    have Qc:∀{v b},v=yC 900000→Value.gp v=some b→gp yC H 900000=some b:=fun e hb=>by subst e;exact gD (by rw [c3];rfl) (by rw [c3];rfl) hb
    refine ⟨hs.defers,_,R2,[.agg ⟨zs⟩],kV H 0 sg.md ins,qQ j5,hs.ext,hs.core.pT,⟨Fv.symm,?_,by rw [Fv];rfl,?_,fun q hq v y' hv yE=>?_,by rw [Fv,←e1];exact td BR,fun q y v hy hv=>?_,fun q hq v b hv hb=>?_,fun j j' i i' v v' b hj tM hv wh hb kg=>?_,fun i hi v b hv hb q u hm hu Mb=>?_⟩⟩
    ·rw [Fv,←e1];simp
    ·have LL:jL [1000+c]=false:=by unfold jL;rw [List.all_cons,GF];rfl
     rw [Fv,←e1,GD]
     simp only [List.take_succ_cons,List.take_zero,pV,LL,ae,aX,List.map_nil,M6]
     refine .cons (.ag ?_) .nil
     have:((cs.set c y).mapIdx fun k z=>cond ([1000+c].contains (1000+k)) TV.pt z)=cs.set c .pt:=by
      apply List.ext_getElem?
      intro k
      rw [List.getElem?_mapIdx,List.getElem?_set,List.getElem?_set]
      by_cases e:c=k
      ·subst e;simp [show c<cs.length by omega]
      ·have e':¬k=c:=fun h=>e h.symm
       simp [e,e']
     rw [this]
     exact p4.set fun _ _ => .pt _
    ·rw [oV q hq v hv]
     rw [GD,List.mem_singleton] at hq
     subst hq
     unfold nV at yE
     rw [←e1] at yE
     simp only [GF,ae,List.getElem?_cons_zero,Nat.add_sub_cancel_left,List.getElem?_set,if_true,show c<cs.length by omega] at yE
     cases yE;exact hK
    ·exact yt hs Mj BR e2 hy hv
    ·exact hs.core.dA 900000 b (Qc (oV q hq v hv) hb)
    ·rw [GD] at hj tM
     have:=(aD.1 hj).1
     have:=(aD.1 tM).1
     simp at *;omega
    ·obtain ⟨x,g,d1,d2,d3,d4⟩:=sI hs Mj hm hu
     rw [d4] at Mb
     have LO:=xj d2 d3
     have:=hs.core.tE (Qc (oV i hi v hv) hb) (gD (by rw [d1];exact LO.1) (by rw [d1];exact LO.2) Mb)
     omega
   ·cases he
  ·cases he
 ·cases he
theorem Et {P:Program} {E:cC} {gl:Nat→Option (List Value)} {fn:Func} {sg:bW} {w w0:World} {R0:Reach} {ins outs:List TV} {xs:List Value} {S:St} {a:Act} (hlen:ins.length=xs.length) (hp:xs.length=fn.params.size) (kp:zK fn sg=true)
  (h:tn ⟨P,E,fn.ntmps,w0,R0,we sg.md xs,jF xs,gl⟩ S a w) (he:zL P fn.ntmps fn sg S=some (outs++ln sg.md ins)) :
  a.defers=[]∧∃x R' kY ys,(results fn a.tmps).run P w = .ok x w∧Ext w0 R0 (we sg.md xs) w R'∧(∀b o,R' b o→b<w.heap.size)∧vY sg R' w (fun b=>we sg.md xs b∨w0.heap.size≤b) ins xs outs x kY ys:=by
 cases ho:Bs fn sg with
 | none=>exact J0 hlen hp kp h ho he
 | some p=>obtain ⟨⟨r,t⟩,c⟩:=p;exact JZ hlen hp kp h ho he
theorem FP {P:Program} {E:cC} {gl:Nat→Option (List Value)} (hE:ji P E) (hF:∀f,bA P gl f (E.fs f)) {f:Nat} {c:eS} {sg:bW} (hint:Hint) (hG:∀ins outs,(c ins).holds outs→cR P E f sg hint ins=some (outs++ln sg.md ins)):bA P gl f (c,sg):=by
 intro ins outs hc
 have hr:=hG ins outs hc
 unfold cR at hr
 split at hr
 ·rename_i fn hf
  split at hr
  ·rename_i body hb
   obtain ⟨h1,hr⟩:=bC.1 hr
   simp only [ah] at h1
   obtain ⟨kp,hl⟩:=h1
   have hl:=av hl
   have HO:=kp
   simp only [zK,ah] at HO
   obtain ⟨⟨⟨⟨⟨⟨⟨b1,b2⟩,b3⟩,b4⟩,b5⟩,b6⟩,b7⟩,b8⟩:=HO
   have b1:fn.ntmps<900000:=Nat.le_of_ble_eq_true b1
   have b2:=Nat.le_of_ble_eq_true b2
   refine ⟨?_,fun w R xs hR GH ha hs=>?_⟩
   ·unfold oO
    rw [hf]
    simp only [Option.any_some,hb,Option.isSome_some,Bool.true_and]
    exact b8
   ·have hx:xs.length=fn.params.size:=by rw [←ha.1,hl]
    refine calls_of_wp hf hb ?_
    have tL:(⟨xs⟩:Array Value).size=xs.length:=rfl
    rw [tL]
    have Pe:=E3 (P:=P) (E:=E) (nt:=fn.ntmps) (by omega) (by omega) hR GH ha hs
    rw [←hx,←Em] at hr
    refine JW (C:=⟨P,E,fn.ntmps,w,R,we sg.md xs,jF xs,gl⟩) hE hF body ⟨R,_,Pe⟩ hr fun e S' a' w' h' hk=>?_
    cases e with
    | ret =>
     obtain ⟨d,x,R',kY,ys,k1,k2,k3,k4⟩:=Et ha.1 hx kp h' hk
     exact ⟨d,x,k1,x,R',kY,ys,rfl,k2,k3,k4⟩
    | normal =>
     obtain ⟨d,x,R',kY,ys,k1,k2,k3,k4⟩:=Et ha.1 hx kp h' hk
     exact ⟨d,x,k1,x,R',kY,ys,rfl,k2,k3,k4⟩
    | _=>cases hk
  ·cases hr
 ·cases hr
end Go.Eng
namespace Go.Eng
open Go.RowKit
def Dl:eS × bW:=(fun _ => .err,{})
theorem Ba {P:Program} {gl:Nat→Option (List Value)} {f:Nat}:bA P gl f Dl:=fun _ _ h=>h.elim
def look {A:Type} (z:A):List (Nat × A)→Nat→A
 | [],_=>z
 | (k,c) :: r,n=>cond (Nat.beq n k) c (look z r n)
abbrev ML:=List (Nat × (fe × Nat))
abbrev Zs:=List (Nat × List TV)
def xf {A:Type}:List (Nat × A)→Nat→Option A
 | [],_=>none
 | (k,c) :: r,n=>cond (Nat.beq n k) (some c) (xf r n)
def cT (ty:ML) (z:Zs) (l:List (Nat × (eS × bW))) (ld:List Nat:=[]):cC:=⟨look Dl l,xf ty,xf z,ld⟩
theorem JY {P:Program} {gl:Nat→Option (List Value)} {l:List (Nat × (eS × bW))} (h:∀p∈l,bA P gl p.1 p.2):∀f,bA P gl f (look Dl l f):=by
 intro f
 induction l with
 | nil=>exact Ba
 | cons p r ih =>
  obtain ⟨k,c⟩:=p
  simp only [look]
  cases hb:Nat.beq f k with
  | true=>rw [av hb];exact h (k,c) (List.mem_cons_self ..)
  | false=>exact ih fun q hq=>h q (List.mem_cons_of_mem _ hq)
theorem qh {A:Type} {n:Nat} {x:A}:∀{l:List (Nat × A)},xf l n=some x→(n,x)∈l
 | (k,c) :: r,h=>by
  simp only [xf] at h
  cases hb:Nat.beq n k with
  | true=>rw [hb] at h;cases h;rw [av hb];exact List.mem_cons_self ..
  | false=>rw [hb] at h;exact List.mem_cons_of_mem _ (qh h)
def H2:Value→TV→Bool
 | .slice none 0 0,.sl _ []=>true
 | v,x=>zX v x
def qx:List Value→List TV→Bool
 | [],[]=>true
 | x :: xs,y :: ys=>H2 x y&&qx xs ys
 | _,_=>false
theorem uN {R:Reach} {w:World}:∀{vs:List Value} {xs:List TV},qx vs xs=true→dq R w xs vs
 | [],[],_ => .nil
 | v :: vs,x :: xs,h=>by
  simp only [qx,ah] at h
  have h1:Rep R w x v∧v.oneCell'=true:=by
   have:=h.1
   unfold H2 at this
   split at this
   ·exact ⟨.sn _,rfl⟩
   ·exact rL this
  exact .cons h1.2 h1.1 (uN h.2)
 | [],_ :: _,h=>by simp [qx] at h
 | _ :: _,[],h=>by simp [qx] at h
def CA (P:Program) (ty:ML):Bool:=ty.all fun p=>match P.underlying p.1 with
 | some (.slice e)=>match P.info? e with
  | some i=>Nat.beq i.size p.2.1.size&&Nat.beq i.bytes p.2.2&&(match i.zero with
   | some z=>qx z.cells.toList (p.2.1.tv p.2.1.gk).cells
   | none=>false)
  | none=>false
 | _=>false
def Ih (P:Program) (z:Zs):Bool:=z.all fun p=>nB P p.1&&match (P.info? p.1).bind (·.zero) with
 | some v=>mP v.cells.toList p.2
 | none=>false
theorem JX {P:Program} {ty:ML} {z:Zs} {l:List (Nat × (eS × bW))} {ld:List Nat} (hm:P.follows .mixedOrders=true) (h1:CA P ty=true) (h2:Ih P z=true):ji P (cT ty z l ld):=by
 refine ⟨hm,fun t st b he=>?_,fun t c he=>?_⟩
 ·have:=aC.1 h1 _ (qh (l:=ty) he)
  simp only at this
  split at this
  ·rename_i e hu
   split at this
   ·rename_i i hi
    simp only [ah] at this
    obtain ⟨⟨k1,k2⟩,k3⟩:=this
    split at k3
    ·rename_i zv hz
     have hL:∀R w,dq R w (st.tv st.gk).cells zv.cells.toList:=fun R w=>uN k3
     refine ⟨e,i,zv,hu,hi,av k1,av k2,hz,?_,hL⟩
     have:=(hL (fun _ _=>False) default).length
     rw [fe.jQ] at this
     simpa using this.symm
    ·cases k3
   ·cases this
  ·cases this
 ·have:=aC.1 h2 _ (qh (l:=z) he)
  simp only [ah] at this
  refine ⟨this.1,?_⟩
  have h:=this.2
  split at h
  ·rename_i v hv
   exact ⟨v,hv,h⟩
  ·cases h
theorem meets {P:Program} {gl:Nat→Option (List Value)} {ty:ML} {z:Zs} {l:List (Nat × (eS × bW))} {ld:List Nat} (hm:P.follows .mixedOrders=true∧CA P ty=true∧Ih P z=true) (hE:∀p∈l,bA P gl p.1 p.2) {f:Nat} (hint:Hint) {c:eS} {sg:bW}
  (hG:∀ins outs,(c ins).holds outs→cR P (cT ty z l ld) f sg hint ins=some (outs++ln sg.md ins)):bA P gl f (c,sg) :=
 FP (JX hm.1 hm.2.1 hm.2.2) (JY hE) hint hG
def Fit (F:List TV→OT) (l:List TV→List TV) (ins:List TV):mN→Prop
 | .ok outs=>F ins=some (outs++l ins)
 | .eT p outs=>p=true→F ins=some (outs++l ins)
 | .err=>True
theorem fits {c:eS} {F:List TV→OT} {l:List TV→List TV} (h:∀ins,Fit F l ins (c ins)):∀ins outs,(c ins).holds outs→F ins=some (outs++l ins):=fun ins outs hc=>by
 have h:=h ins
 cases e:c ins with
 | ok ws=>rw [e] at h hc;obtain rfl:outs=ws:=hc;exact h
 | eT p ws=>rw [e] at h hc;obtain ⟨hp,rfl⟩:p=true∧outs=ws:=hc;exact h hp
 | err=>rw [e] at hc;exact hc.elim
theorem lS {P:Program} {gl:Nat→Option (List Value)} {f:Nat} {sg:bW} {c':eS} (h:∀ti nI,(c' ti).holds nI→∃c:eS,bA P gl f (c,sg)∧(c ti).holds nI):bA P gl f (c',sg):=fun ins outs hc=>by
 obtain ⟨c,hs,hc⟩:=h ins outs hc
 exact hs ins outs hc
theorem jK {P:Program} {gl:Nat→Option (List Value)} {f:Nat} {sg:bW} {c:eS} (h:∀ti nI,¬(c ti).holds nI):bA P gl f (c,sg):=fun ins outs hc=>(h ins outs hc).elim
theorem all_nil {A:Type} {p:A→Prop}:∀x∈([]:List A),p x:=fun _ h=>by cases h
theorem all_cons {A:Type} {p:A→Prop} {a:A} {l:List A} (h:p a) (t:∀x∈l,p x):∀x∈a :: l,p x:=fun x hx=>by
 rcases aO.1 hx with rfl | hx
 ·exact h
 ·exact t x hx
def Old (w:World):Reach:=fun b _=>b<w.heap.size
theorem calls_of_spec {P:Program} {gl:Nat→Option (List Value)} {f:Nat} {c:eS} (h:bA P gl f (c,{})) {ti:List TV} {xs:List Value} {w:World}
  (GH:GlOK gl (Old w) w) (hc:(c ti).holds [.b true]) (ha:iB (Old w) w ti xs):Calls P f ⟨xs⟩ w fun e w'=>e = .returned (.bool true)∧Below w.heap.size w w':=by
 refine ((h ti [.b true] hc).2 w (Old w) xs (fun b o hb=>hb) GH ⟨ha.length,fun i x v hx hv=>?_⟩ fun i j v v' b hi=>(hi (by simp)).elim).mono ?_
 ·obtain ⟨y,h1,h2⟩:=ha.get i x hx
  rw [hv] at h1;cases h1;exact h2
 ·rintro e w' ⟨x,R',kY,ys,rfl,hx,hr,ho⟩
  refine ⟨?_,hx.os,hx.tape,hx.output,hx.size,fun k hk=>hx.heap k hk ?_⟩
  ·congr 1
   have hl:kY.length=1:=ho.len
   have jl:=ho.rep
   rw [ho.val]
   match kY,hl with
   | [y],_ =>
    simp only [if_true,List.headD_cons]
    have jl:iB R' w' [.b true] [y]:=jl
    cases jl with
    | cons a _=>exact a.of_val rfl
  ·rintro ⟨i,v,hm,_⟩
   exact hm (by simp)
theorem BM {n:Int} {l:Nat}:bB n l=true ↔ 0≤n∧n<l:=by simp [bB]
theorem B9 {a b:Int} {l:Nat}:gA a b l=true ↔ 0≤a∧a≤b∧b≤l:=by simp [gA,and_assoc]
theorem E8 {n b:Nat}:fC n b=true ↔ n≤maxLen∧n * b≤140737488355328:=by simp [fC]
theorem jY {l c:Int} {b:Nat}:oq l c b=true ↔ 0≤l∧l≤c∧c * b≤140737488355328∧c≤maxLen:=by simp [oq,and_assoc]
theorem BJ {n:Nat}:qT n=true ↔ n≤maxLen:=by simp [qT]
end Go.Eng
namespace Go.Eng
open Go.RowKit Go.Sort
theorem uR {w w':World} {R:Reach} {io:Nat→Prop} (hR:∀b o,R b o→b<w.heap.size) (h:Below w.heap.size w w'):Ext w R io w' R :=
 ⟨h.os,h.tape,h.output,h.size,fun b hb _=>h.block b hb,fun b o hr=>⟨hr,by simp only [World.cell?,h.block b (hR b o hr)]⟩,fun b o hr => .inl hr⟩
theorem He {R:Reach} {w:World} {ti:List TV} {xs:List Value} (h:wa R w [] ti xs):iB R w ti xs:=iB.of h.1 fun i x y hx hy=>h.2 i x y hx hy
theorem gY {P:Program} {gl:Nat→Option (List Value)} {f:Nat} {c:eS} (hb:oO P f=true) (h:∀(ti nI:List TV) (w:World) (R:Reach) (xs:List Value),(c ti).holds nI→iB R w ti xs→(∀b o,R b o→b<w.heap.size)→GlOK gl R w →
  Calls P f ⟨xs⟩ w fun e w'=>∃x,e = .returned x∧Below w.heap.size w w'∧∀R w',iB R w' nI [x]):bA P gl f (c,{}):=by
 refine fun ti nI hc=>⟨hb,fun w R xs hR GH ha _=>(h ti nI w R xs hc (He ha) hR GH).mono ?_⟩
 rintro e w' ⟨x,rfl,Fy,hx⟩
 have hl:nI.length=1:=by simpa using (hx R w').length
 match nI,hl with
 | [y],_ =>
  refine ⟨x,R,[x],[],rfl,uR hR Fy,fun b o hr=>Nat.lt_of_lt_of_le (hR b o hr) Fy.size,?_⟩
  exact ⟨rfl,Nat.le_refl _,rfl,hx R w',fun i hi=>(by cases hi),rfl,fun i y v hy=>(by simp at hy),fun i hi=>(by cases hi),fun j j' i i' v v' b hj=>(by simp at hj),fun i hi=>(by cases hi)⟩
theorem jd {R:Reach} {w:World}:∀{ti:List TV} {xs ys:List Value},iB R w ti xs→ti.mapM TV.val=some ys→xs=ys
 | [],_,_,.nil,h=>by simpa using h
 | x :: r,_,_,.cons a b,h=>by
  rw [List.mapM_cons] at h
  obtain ⟨v,hv,h⟩:=aL.1 h
  obtain ⟨vs,OA,h⟩:=aL.1 h
  cases h
  rw [a.of_val hv,jd b OA]
theorem oM {R:Reach} {w:World} {l:bz}:Rep R w (.s l) (.string ⟨⟨l⟩⟩) := .sc rfl
theorem Ll {R:Reach} {w:World} {n:Int}:Rep R w (.i .i64 n) (.int .i64 n) := .sc rfl
theorem mZ {R:Reach} {w:World} {x:TV} {v:Value} (h:Rep R w x v):iB R w [x] [v] := .cons h .nil
def KT:List (Nat × List Value)→Nat→Option (List Value)
 | [],_=>none
 | (k,v) :: r,n=>cond (Nat.beq n k) (some v) (KT r n)
def tD (k:IntKind) (zs:List Int):List Value:=zs.map fun z=>Value.int k z
theorem JL {P:Program} {w:World} {name:String} {k:IntKind} {zs:List Int} {g:Nat} (h:Lib.TabIs P w name k zs) (hg:P.globalNamed name=some g) (o:Nat):Old w g o∧w.cell? ⟨g,o,none⟩=(tD k zs)[o]?:=by
 have hs:g<w.heap.size:=by
  unfold Lib.TabIs World.var? at h
  rw [hg] at h
  simp only [Option.bind_some] at h
  cases hh:w.heap[g]? with
  | none=>rw [hh] at h;cases h
  | some x=>exact (Array.getElem?_eq_some_iff.1 hh).1
 exact ⟨hs,by have:=World.var?_cell hg h o;simpa [tD] using this⟩
theorem Iz {P:Program} {gl:Nat→Option (List Value)} {R:Reach} {w:World} {name:String} {k:IntKind} {z:Int} {zs:List Int} {g:Nat} (h:GlOK gl R w) (e:gl g=some (tD k (z :: zs))) (hg:P.globalNamed name=some g):Lib.TabIs P w name k (z :: zs):=by
 have h2:=fun o=>(h g _ e o).2
 have h0:=h2 0
 unfold Lib.TabIs World.var?
 rw [hg]
 simp only [Option.bind_some]
 simp only [World.cell?] at h0 h2
 cases hh:w.heap[g]? with
 | none=>rw [hh] at h0;cases h0
 | some x =>
  rw [hh] at h0 h2
  cases x with
  | cells cs e f =>
   simp only at h2 ⊢
   congr 1
   apply Array.ext_getElem?
   intro i
   have:=h2 i
   simp only [Option.isSome_none,bp,if_false] at this
   rw [this]
   simp [tD]
  | _=>cases h0
theorem gl_nil {R:Reach} {w:World}:GlOK (KT []) R w:=fun _ _ h=>by cases h
theorem gl_cons {P:Program} {w:World} {name:String} {k:IntKind} {zs:List Int} {g:Nat} {r:List (Nat × List Value)} (h:Lib.TabIs P w name k zs) (hg:P.globalNamed name=some g) (t:GlOK (KT r) (Old w) w):GlOK (KT ((g,tD k zs) :: r)) (Old w) w:=fun n vs hn o=>by
 unfold KT at hn
 cases hb:Nat.beq n g with
 | true=>rw [hb] at hn;cases hn;rw [av hb];exact JL h hg o
 | false=>rw [hb] at hn;exact t n vs hn o
theorem oB (w:World) (k:Nat) (os:Array Obj):Below w.heap.size w (grow (w.drewN k) os) :=
 ⟨rfl,rfl,rfl,by show w.heap.size≤(w.heap++os).size;simp,fun i hi=>heap_grow_old (w.drewN k) os hi⟩
def ie (n:Nat):bz:=if h:n<10 then [UInt8.ofNat (48+n)] else ie (n / 10)++[UInt8.ofNat (48+n % 10)]
termination_by n
decreasing_by omega
theorem yb (n:Nat):Lib.decDigits n=ie n:=by
 induction n using Nat.strongRecOn with
 | _ n ih =>
  rw [Lib.decDigits,ie]
  by_cases h:n<10
  ·rw [dif_pos h,dif_pos h]
  ·rw [dif_neg h,dif_neg h,ih (n / 10) (by omega)]
theorem DP (n:Nat):Lib.itoa (n:Int)=ie n:=by
 rw [Lib.itoa,au (by omega),aj,yb]
end Go.Eng
namespace Go.Eng
open Go.RowKit
def me (P:Program) (n:Nat) (t:TypeId) (A:Type) (g:A→List TV):Prop :=
 ∀(H:Type) (enc:TypeId × Value→H) (w:World) (base:Nat) (spare:Nat→Bool) (held:Bool) (cs:List Value) (x:DataW H × List MemPlace),DataW.trod enc P w base spare held n t cs=some x→∃a:A,dq (Old w) w (g a) cs
theorem Lh {n:Int} (h:(Lit.int .u8 n).wf=true):((UInt8.ofInt n).toNat:Int)=n:=by
 have hx:0≤n∧n≤255:=by simpa [Lit.wf,IntKind.min,IntKind.max,IntKind.signed,IntKind.bits] using h
 rw [rO,wrap_u8'];omega
section
variable {P:Program} {n:Nat} {t:TypeId}
theorem uj (ht:P.underlying t=some (.int .i64)):me P n t Int fun m=>[.i .i64 m]:=by
 intro H enc w base spare held cs x h
 obtain ⟨m,rfl,_,_⟩:=DataW.trod_int ht h
 exact ⟨m,.cons rfl (.sc rfl) .nil⟩
theorem Iq {n:Int} (h:(Lit.int .u64 n).wf=true):((UInt64.ofInt n).toNat:Int)=n:=by
 have hx:0≤n∧n≤18446744073709551615:=by simpa [Lit.wf,IntKind.min,IntKind.max,IntKind.signed,IntKind.bits] using h
 have e:IntKind.u64.wrap n=n % (18446744073709551616:Nat):=by simp [IntKind.wrap,IntKind.bits,IntKind.signed]
 rw [pK,e];omega
theorem F2 {R:Reach} {w:World} {n:Int} (h:(Lit.int .u64 n).wf=true):Rep R w (.u64 (UInt64.ofInt n)) (.int .u64 n) := .sc (by show some _=some _;rw [Iq h])
theorem p8 (ht:P.underlying t=some (.int .u64)):me P n t UInt64 fun m=>[.u64 m]:=by
 intro H enc w base spare held cs x h
 obtain ⟨m,rfl,_,hw⟩:=DataW.trod_int ht h
 exact ⟨UInt64.ofInt m,.cons rfl (F2 hw) .nil⟩
theorem Df (ht:P.underlying t=some (.int .u8)):me P n t UInt8 fun m=>[.u8 m]:=by
 intro H enc w base spare held cs x h
 obtain ⟨m,rfl,_,hw⟩:=DataW.trod_int ht h
 exact ⟨UInt8.ofInt m,.cons rfl (.sc (by show some _=some _;rw [Lh hw])) .nil⟩
theorem p9 (ht:P.underlying t=some .string):me P n t bz fun m=>[.s m]:=by
 intro H enc w base spare held cs x h
 obtain ⟨m,rfl,_,_⟩:=DataW.trod_string ht h
 exact ⟨m.data.toList,.cons rfl (.sc rfl) .nil⟩
theorem qR {e:TypeId} {st:fe} (ht:P.underlying t=some (.slice e)) (hs:P.cellsOf e=st.size) (oy:0<st.size) (he:∀m,m<n→me P m e st.El fun a=>(st.tv a).cells):me P n t (List st.El) fun l=>[.sl st l]:=by
 intro H enc w base spare held cs x h
 rcases DataW.trod_slice ht h with ⟨rfl,_⟩ | ⟨a,len,cap,elems,rest,m,rfl,rfl,_,_,h2,h3,h4,h5,_,_⟩
 ·exact ⟨[],.cons rfl (.sn _) .nil⟩
 ·by_cases h0:len=0
  ·subst h0;exact ⟨[],.cons rfl (.em _ h3) .nil⟩
  ·have get:∀i,i<len→∃ys,w.cells? base (a.add (i * st.size)) st.size=some ys∧∃y:st.El,dq (Old w) w (st.tv y).cells ys:=fun i hi=>by
    have:=h5 i hi
    rw [hs] at this
    have fO:i<elems.length:=by omega
    rw [aq fO] at this
    obtain ⟨ys,h6,h7⟩:=aL.1 this
    exact ⟨ys,h6,he m (Nat.lt_succ_self m) H enc w base spare held ys _ h7⟩
   have HJ:a.spot=none:=by
    obtain ⟨ys,h6,_⟩:=get 0 (by omega)
    obtain ⟨_,h7,h8⟩:=World.cells?_some h6
    have h9:=h8 0 oy
    cases hy:ys[0]? with
    | none=>rw [List.getElem?_eq_none_iff] at hy;omega
    | some y=>rw [hy] at h9;simpa [Addr.add] using World.cell?_spot h9
   obtain ⟨b,off,spot⟩:=a
   simp only at HJ
   subst HJ
   have key:∀k i,i+k=len→∃l:List st.El,l.length=k∧iz (Old w) w st.size (l.map st.tv) b (off+i * st.size):=by
    intro k
    induction k with
    | zero=>exact fun i _=>⟨[],rfl,.nil _ _ _⟩
    | succ k ih =>
     intro i hi
     obtain ⟨l,hl,hE⟩:=ih (i+1) (by omega)
     obtain ⟨ys,h6,y,h7⟩:=get i (by omega)
     obtain ⟨_,h8,h9⟩:=World.cells?_some h6
     refine ⟨y :: l,by simp [hl],.cons (jG.write (fe.jQ st y) h7 (fun j hj=>?_) (fun j z hz=>?_)) ?_⟩
     ·have iA:=h9 j hj
      have SQ:j<ys.length:=by omega
      rw [aq SQ] at iA
      by_cases fO:b<w.heap.size
      ·exact fO
      ·have:w.heap[b]?=none:=Array.getElem?_eq_none (by omega)
       rw [gO,gO] at iA
       simp only [World.cell?,this] at iA
       cases iA
     ·have hj:j<st.size:=by have:=(aD.1 hz).1;omega
      have iA:=h9 j hj
      rw [hz,gO,gO] at iA
      exact iA
     ·rw [show off+i * st.size+st.size=off+(i+1) * st.size by rw [Nat.succ_mul];omega];exact hE
   obtain ⟨l,hl,hE⟩:=key len 0 (by omega)
   refine ⟨l,.cons rfl (.sl hl.symm h2 h3 ?_) .nil⟩
   simpa using hE
def mc (P:Program) (n:Nat) (fs:List (TypeId × Nat)) (off:Nat) (A:Type) (g:A→List TV):Prop :=
 ∀(H:Type) (enc:TypeId × Value→H) (w:World) (base:Nat) (spare:Nat→Bool) (held:Bool) (cs:List Value),(∀f∈fs,∃x:DataW H × List MemPlace,DataW.trod enc P w base spare held n f.1 ((cs.drop f.2).take (P.cellsOf f.1))=some x)→cs.length=off+(fs.map fun f=>P.cellsOf f.1).sum→∃a:A,dq (Old w) w (g a) (cs.drop off)
theorem Ah {off:Nat}:mc P n [] off Unit fun _=>[]:=by
 intro H enc w base spare held cs _ hl
 refine ⟨(),?_⟩
 rw [aE (by simp at hl;omega)];exact .nil
theorem iL {t:TypeId} {fs:List (TypeId × Nat)} {off c:Nat} {A B:Type} {g:A→List TV} {g':B→List TV} (hc:P.cellsOf t=c) (h:me P n t A g) (hr:mc P n fs (off+c) B g'):mc P n ((t,off) :: fs) off (A × B) fun p=>g p.1++g' p.2:=by
 subst hc
 intro H enc w base spare held cs hx hl
 obtain ⟨x,h1⟩:=hx (t,off) (List.mem_cons_self ..)
 obtain ⟨a,ha⟩:=h H enc w base spare held _ x h1
 obtain ⟨b,hb⟩:=hr H enc w base spare held cs (fun f' KJ=>hx f' (List.mem_cons_of_mem _ KJ)) (by simp only [aX,List.sum_cons] at hl;omega)
 refine ⟨(a,b),?_⟩
 have e:cs.drop off=(cs.drop off).take (P.cellsOf t)++cs.drop (off+P.cellsOf t):=by
  rw [←List.drop_drop];exact (List.take_append_drop _ _).symm
 rw [e];exact ha.append hb
theorem oQ {fs:Array Field} {l:List (TypeId × Nat)} {A B:Type} {g:A→List TV} {g':B→List TV} (ht:P.underlying t=some (.struct fs)) (hl:(fs.toList.map fun f=>(f.type,f.offset))=l) (hc:P.cellsOf t=(l.map fun f=>P.cellsOf f.1).sum) (hr:∀m,m<n→mc P m l 0 A g) (f:A→B) (hf:∀a,g a=g' (f a)):me P n t B g':=by
 intro H enc w base spare held cs x h
 obtain ⟨xs,m,rfl,_,h1,h2,h3⟩:=DataW.trod_struct ht h
 obtain ⟨a,ha⟩:=hr m (Nat.lt_succ_self m) H enc w base spare held cs (fun p hp=>by
  rw [←hl] at hp
  obtain ⟨f,hf,rfl⟩:=bg.1 hp
  obtain ⟨i,hi⟩:=List.getElem?_of_mem hf
  have fO:=(aD.1 hi).1
  have:=h3 i f (by simpa using hi)
  have Jt:i<xs.length:=by rw [h2];simpa using fO
  rw [aq Jt] at this
  exact ⟨_,this⟩) (by rw [h1,hc];simp)
 exact ⟨f a,by rw [←hf];simpa using ha⟩
def fieldsOf (P:Program) (t:TypeId):Option (List (TypeId × Nat)):=match P.underlying t with
 | some (.struct fs)=>some (fs.toList.map fun f=>(f.type,f.offset))
 | _=>none
theorem oh {l:List (TypeId × Nat)} (h:fieldsOf P t=some l):∃fs,P.underlying t=some (.struct fs)∧(fs.toList.map fun f=>(f.type,f.offset))=l:=by
 unfold fieldsOf at h
 split at h
 ·rename_i fs e;cases h;exact ⟨fs,e,rfl⟩
 ·cases h
structure ValTys (P:Program) (tv tf tk ti tu ts tb ty:TypeId):Prop where
 v:fieldsOf P tv=some [(ti,0),(tu,1),(tu,2),(tu,3),(ts,4),(ts,5),(ti,6),(tb,7),(tk,8)]
 f:fieldsOf P tf=some [(ts,0),(tv,1)]
 k:P.underlying tk=some (.slice tf)
 i:P.underlying ti=some (.int .i64)
 u:P.underlying tu=some (.int .u64)
 s:P.underlying ts=some .string
 b:P.underlying tb=some (.slice ty)
 y:P.underlying ty=some (.int .u8)
 cv:P.cellsOf tv=9
 cf:P.cellsOf tf=10
 ck:P.cellsOf tk=1
 ci:P.cellsOf ti=1
 cu:P.cellsOf tu=1
 cs:P.cellsOf ts=1
 cb:P.cellsOf tb=1
 cy:P.cellsOf ty=1
theorem wW {y:TypeId} (ht:P.underlying t=some (.slice y)) (hy:P.underlying y=some (.int .u8)) (hc:P.cellsOf y=1):me P n t bz fun l=>[.sl .bs l] :=
 qR (st := .bs) ht hc (by decide) fun _ _=>Df hy
theorem ValTys.val {tv tf tk ti tu ts tb ty:TypeId} (T:ValTys P tv tf tk ti tu ts tb ty):∀n,me P n tv Val Val.cells∧me P n tf bJ bJ.cells:=by
 intro n
 induction n using Nat.strongRecOn with
 | _ n ih =>
  have hv:∀m,m≤n→(∀k,k<m→me P k tf bJ bJ.cells)→me P m tv Val Val.cells:=fun m hm Se=>by
   obtain ⟨fs,h1,h2⟩:=oh T.v
   have R:=fun (k:Nat) (hk:k<m)=>(iL (off:=0) T.ci (uj T.i) (iL T.cu (p8 T.u) (iL T.cu (p8 T.u) (iL T.cu (p8 T.u) (iL T.cs (p9 T.s) (iL T.cs (p9 T.s) (iL T.ci (uj T.i) (iL T.cb (wW T.b T.y T.cy)
     (iL T.ck (qR (st := .fl) T.k T.cf (by decide) fun j hj=>Se j (by omega)) Ah)))))))):mc P k _ 0 _ _)
   exact oQ h1 h2 (by simp [T.cv,T.ci,T.cu,T.cs,T.cb,T.ck]) R (fun a=>(⟨a.1,a.2.1,a.2.2.1,a.2.2.2.1,a.2.2.2.2.1,a.2.2.2.2.2.1,a.2.2.2.2.2.2.1,a.2.2.2.2.2.2.2.1,a.2.2.2.2.2.2.2.2.1⟩:Val)) (fun a=>rfl)
  refine ⟨hv n (Nat.le_refl n) fun k hk=>(ih k hk).2,?_⟩
  obtain ⟨fs,h1,h2⟩:=oh T.f
  have R:=fun (k:Nat) (hk:k<n)=>(iL (off:=0) T.cs (p9 T.s) (iL T.cv (hv k (by omega) fun j hj=>(ih j (by omega)).2) Ah):mc P k _ 0 _ _)
  exact oQ h1 h2 (by simp [T.cf,T.cv,T.cs]) R (fun a=>bJ.of a.1 a.2.1) (fun a=>by simp [bJ.of,bJ.cells,Val.cells,bJ.name,bJ.kind,bJ.bits,bJ.high,bJ.low,bJ.text,bJ.more,bJ.sub,bJ.bytes,bJ.kids])
theorem ValTys.rep {tv tf tk ti tu ts tb ty:TypeId} (T:ValTys P tv tf tk ti tu ts tb ty) {H:Type} {enc:TypeId × Value→H} {w:World} {base:Nat} {spare:Nat→Bool} {held:Bool} {cs:Array Value} {d:DataW H} {p:List MemPlace} (h:DataW.Trod enc P w base spare held tv (.agg cs) d p) :
  ∃v:Val,Rep (Old w) w (.ag (Val.cells v)) (.agg cs):=by
 obtain ⟨n,h⟩:=h
 obtain ⟨v,hv⟩:=(T.val n).1 H enc w base spare held _ _ h
 exact ⟨v,.ag (by simpa [Value.cells] using hv)⟩
end
end Go.Eng
namespace Go.Eng
open Ieee
namespace Fl
def Val (m:Nat) (p:Int) (N:Nat):Prop:=m * 2 ^ p.toNat=N * 2 ^ (-p).toNat
def W (b:Nat) (n:Int):Prop:=∃s m p,double.read b = .number s m p∧Val m p n.natAbs∧(n<0→s=true)∧(0<n→s=false)
theorem uO (s:Bool) (k d:Nat) (h:d≤(k * 2 ^ d).log2+2):Toward.even.cut s (k * 2 ^ d) d=k:=by
 unfold Toward.cut
 rw [Nat.min_eq_left h,Nat.one_shiftLeft]
 have hp:0<2 ^ d:=Nat.two_pow_pos d
 have h1:k * 2 ^ d / 2 ^ d=k:=Nat.mul_div_cancel k hp
 have h2:k * 2 ^ d % 2 ^ d=0:=Nat.mul_mod_left k (2 ^ d)
 simp only [h1,h2]
 have h3:¬(2 ^ d<2 * 0):=by omega
 have h4:(2 ^ d == 2 * 0)=false:=by rw [beq_eq_false_iff_ne];omega
 simp [h3,h4]
theorem PF (s:Bool) (n:Nat):Toward.even.cut s n 0=n:=by
 have:=uO s n 0 (Nat.zero_le _)
 rwa [Nat.pow_zero,Nat.mul_one] at this
theorem mz (N k:Nat) (h:N≠0):(N * 2 ^ k).log2=N.log2+k:=by
 have hp:0<2 ^ k:=Nat.two_pow_pos k
 have hn:N * 2 ^ k≠0:=Nat.mul_ne_zero h (by omega)
 refine (Nat.log2_eq_iff hn).2 ⟨?_,?_⟩
 ·rw [Nat.pow_add];exact ak _ (Nat.log2_self_le h)
 ·rw [show N.log2+k+1=N.log2+1+k by omega,Nat.pow_add]
  exact Nat.mul_lt_mul_of_pos_right Nat.lt_log2_self hp
set_option maxRecDepth 10000 in
theorem wo (s:Bool) (m:Nat) (p:Int) (N:Nat) (hN:N≤9007199254740992) (hv:Val m p N):∃K q,double.read (double.write (.number s m p)) = .number s K q∧Val K q N:=by
 have hw:double.signWeight=2 ^ 63:=rfl
 have hB:double.binade=4503599627370496:=rfl
 have hI:double.infRung=2047 * 4503599627370496:=rfl
 have QK:double.leastPlace=-1074:=by decide
 have HK:∀mX,mX<2 ^ 63→double.read (double.word s mX)=(if mX<4503599627370496 then .number s mX (-1074) else if mX<2047 * 4503599627370496 then .number s (4503599627370496+mX % 4503599627370496) (-1074+(mX / 4503599627370496 - 1:Nat)) else if mX=2047 * 4503599627370496 then .infinity s else .nan s (mX - 2047 * 4503599627370496)):=by
  intro mX hr
  unfold Format.read Format.word
  simp only [hw,hB,hI,QK]
  have e1:(if s=true then 2 ^ 63+mX else mX) % 2 ^ 63=mX:=by cases s <;> simp <;> omega
  have e2:((if s=true then 2 ^ 63+mX else mX) / 2 ^ 63 % 2 == 1)=s:=by
   cases s
   ·have:mX / 2 ^ 63=0:=Nat.div_eq_of_lt hr
    simp only [bp,if_false];rw [this];rfl
   ·have:(2 ^ 63+mX) / 2 ^ 63=1:=by rw [Nat.add_div_left _ (by decide),Nat.div_eq_of_lt hr]
    simp only [if_true];rw [this];rfl
  rw [e1,e2]
 by_cases hm:m=0
 ·subst hm
  refine ⟨0,-1074,?_,?_⟩
  ·unfold Format.write Format.nearest
   simp only [if_true]
   rw [HK 0 (by decide),aw (by decide)]
  ·unfold Val at hv ⊢
   have HT:N=0:=by
    rw [Nat.zero_mul] at hv
    rcases Nat.mul_eq_zero.1 hv.symm with h | h
    ·exact h
    ·exact absurd h (Nat.pos_iff_ne_zero.1 (Nat.two_pow_pos _))
   rw [HT,Nat.zero_mul,Nat.zero_mul]
 ·have HT:N≠0:=fun h=>by
   unfold Val at hv
   rw [h,Nat.zero_mul] at hv
   rcases Nat.mul_eq_zero.1 hv with h | h
   ·exact hm h
   ·exact absurd h (Nat.pos_iff_ne_zero.1 (Nat.two_pow_pos _))
  -- where the digits UC
  have SN:p+m.log2=N.log2:=by
   unfold Val at hv
   have h1:=mz m p.toNat hm
   have h2:=mz N (-p).toNat HT
   rw [hv] at h1
   omega
  have hl:N.log2≤53:=by
   have:=Nat.log2_self_le HT
   have h3:2 ^ N.log2<2 ^ 54:=by omega
   have:=(Nat.pow_lt_pow_iff_right (show 1<2 by decide)).1 h3
   omega
  have OO:=Nat.log2_self_le HT
  have Fu:N<2 ^ (N.log2+1):=Nat.lt_log2_self
  obtain ⟨L,hL⟩:∃L:Int,L=(N.log2:Int) - 52:=⟨_,rfl⟩
  obtain ⟨K,k1,k2,k3,k4,k5⟩:∃K:Nat,Val K L N∧4503599627370496≤K∧K<9007199254740992∧(L≤p→m * 2 ^ (p - L).toNat=K)∧(p<L→m=K * 2 ^ (L - p).toNat):=by
   unfold Val at hv
   by_cases hc:N.log2≤52
   ·have eL:L.toNat=0:=by omega
    have Tx:(-L).toNat=52 - N.log2:=by omega
    refine ⟨N * 2 ^ (52 - N.log2),?_,?_,?_,fun h=>?_,fun h=>?_⟩
    ·unfold Val;rw [eL,Tx,Nat.pow_zero,Nat.mul_one]
    ·have:=ak (2 ^ (52 - N.log2)) OO
     rw [←Nat.pow_add,show N.log2+(52 - N.log2)=52 by omega] at this
     exact this
    ·have:=Nat.mul_lt_mul_of_pos_right Fu (Nat.two_pow_pos (52 - N.log2))
     rw [←Nat.pow_add,show N.log2+1+(52 - N.log2)=53 by omega] at this
     exact this
    ·by_cases h0:0≤p
     ·rw [show (-p).toNat=0 by omega,Nat.pow_zero,Nat.mul_one] at hv
      rw [show (p - L).toNat=p.toNat+(52 - N.log2) by omega,Nat.pow_add,←Nat.mul_assoc,hv]
     ·rw [show p.toNat=0 by omega,Nat.pow_zero,Nat.mul_one] at hv
      rw [hv,Nat.mul_assoc,←Nat.pow_add,show (-p).toNat+(p - L).toNat=52 - N.log2 by omega]
    ·rw [show p.toNat=0 by omega,Nat.pow_zero,Nat.mul_one] at hv
     rw [hv,Nat.mul_assoc,←Nat.pow_add,show 52 - N.log2+(L - p).toNat=(-p).toNat by omega]
   ·have Ty:N.log2=53:=by omega
    have eN:N=9007199254740992:=by
     rw [Ty] at OO
     omega
    have eL:L=1:=by omega
    subst eL
    refine ⟨4503599627370496,?_,by decide,by decide,fun h=>?_,fun h=>?_⟩
    ·unfold Val;rw [eN];rfl
    ·rw [show (-p).toNat=0 by omega,Nat.pow_zero,Nat.mul_one,show p.toNat=(p - 1).toNat+1 by omega,Nat.pow_succ,eN,←Nat.mul_assoc] at hv
     omega
    ·rw [show p.toNat=0 by omega,Nat.pow_zero,Nat.mul_one,eN] at hv
     rw [hv,show (1 - p).toNat=(-p).toNat+1 by omega,Nat.pow_succ]
     omega
  have LS:Toward.even.cut s (m <<< (p - L).toNat) (L - p).toNat=K:=by
   rw [Nat.shiftLeft_eq]
   by_cases h:L≤p
   ·rw [k4 h,show (L - p).toNat=0 by omega];exact PF s K
   ·have e:=k5 (by omega)
    rw [show (p - L).toNat=0 by omega,Nat.pow_zero,Nat.mul_one,e]
    refine uO s K _ ?_
    rw [←e];omega
  have UK:(L+1074).toNat * 4503599627370496+K<2047 * 4503599627370496:=by omega
  refine ⟨K,L,?_,k1⟩
  unfold Format.write Format.nearest
  simp only [au hm,hB,hI,QK,show double.fractionBits=52 from rfl]
  rw [show max (p+(m.log2:Int) - ((52:Nat):Int)) (-1074)=L by omega,LS,show L - -1074=L+1074 by omega,Nat.min_eq_left (by omega),HK _ (by omega),au (by omega),aw (by omega)]
  have r1:((L+1074).toNat * 4503599627370496+K) % 4503599627370496=K - 4503599627370496:=by omega
  have r2:((L+1074).toNat * 4503599627370496+K) / 4503599627370496=(L+1074).toNat+1:=by omega
  have r3:4503599627370496+(K - 4503599627370496)=K:=by omega
  have r4 : -1074+(((L+1074).toNat+1 - 1:Nat):Int)=L:=by omega
  rw [r1,r2,r3,r4]
def WD (d:Datum) (n:Int):Prop:=∃s m p,d = .number s m p∧Val m p n.natAbs∧(n<0→s=true)∧(0<n→s=false)
theorem WD.write {d:Datum} {n:Int} (h:WD d n) (hn:n.natAbs≤9007199254740992):W (double.write d) n:=by
 obtain ⟨s,m,p,rfl,hv,h1,h2⟩:=h
 obtain ⟨K,q,hr,hk⟩:=wo s m p n.natAbs hn hv
 exact ⟨s,K,q,hr,hk,h1,h2⟩
theorem W.map {d:Datum} {n:Int} {o:Option Datum} (ho:o=some d) (h:WD d n) (hn:n.natAbs≤9007199254740992):∃r,o.map double.write=some r∧W r n:=⟨_,by rw [ho];rfl,h.write hn⟩
theorem WD.product {d e:Datum} {x y:Int} (hx:WD d x) (hy:WD e y):∃r,d.product e=some r∧WD r (x * y):=by
 obtain ⟨s,m,i,rfl,hv,h1,h2⟩:=hx
 obtain ⟨t,n,j,rfl,hw,g1,g2⟩:=hy
 refine ⟨_,rfl,_,_,_,rfl,?_,?_,?_⟩
 ·unfold Val at *
  rw [Int.natAbs_mul]
  obtain ⟨c,HR,Fx⟩:∃c:Nat,i.toNat+j.toNat=(i+j).toNat+c∧(-i).toNat+(-j).toNat=(-(i+j)).toNat+c:=by
   refine ⟨i.toNat+j.toNat - (i+j).toNat,?_,?_⟩ <;> omega
  have h:m * n * 2 ^ (i.toNat+j.toNat)=x.natAbs * y.natAbs * 2 ^ ((-i).toNat+(-j).toNat):=by
   rw [Nat.pow_add,Nat.pow_add]
   calc m * n * (2 ^ i.toNat * 2 ^ j.toNat)=(m * 2 ^ i.toNat) * (n * 2 ^ j.toNat):=by ac_rfl
    _=(x.natAbs * 2 ^ (-i).toNat) * (y.natAbs * 2 ^ (-j).toNat):=by rw [hv,hw]
    _=x.natAbs * y.natAbs * (2 ^ (-i).toNat * 2 ^ (-j).toNat):=by ac_rfl
  rw [HR,Fx,Nat.pow_add,Nat.pow_add,←Nat.mul_assoc,←Nat.mul_assoc] at h
  exact Nat.eq_of_mul_eq_mul_right (Nat.two_pow_pos c) h
 ·intro h
  rcases Int.lt_or_lt_of_ne (show x≠0 from fun e=>by rw [e,Int.zero_mul] at h;omega) with a | a
  ·have:0<y:=by
    rcases Int.lt_or_lt_of_ne (show y≠0 from fun e=>by rw [e,Int.mul_zero] at h;omega) with b | b
    ·have:=Int.mul_pos_of_neg_of_neg a b;omega
    ·exact b
   rw [h1 a,g2 this];rfl
  ·have:y<0:=by
    rcases Int.lt_or_lt_of_ne (show y≠0 from fun e=>by rw [e,Int.mul_zero] at h;omega) with b | b
    ·exact b
    ·have:=Int.mul_pos a b;omega
   rw [h2 a,g1 this];rfl
 ·intro h
  rcases Int.lt_or_lt_of_ne (show x≠0 from fun e=>by rw [e,Int.zero_mul] at h;omega) with a | a
  ·have:y<0:=by
    rcases Int.lt_or_lt_of_ne (show y≠0 from fun e=>by rw [e,Int.mul_zero] at h;omega) with b | b
    ·exact b
    ·have:=Int.mul_neg_of_neg_of_pos a b;omega
   rw [h1 a,g1 this];rfl
  ·have:0<y:=by
    rcases Int.lt_or_lt_of_ne (show y≠0 from fun e=>by rw [e,Int.mul_zero] at h;omega) with b | b
    ·have:=Int.mul_neg_of_pos_of_neg a b;omega
    ·exact b
   rw [h2 a,g2 this];rfl
theorem kD {s:Bool} {m:Nat} {i base:Int} {x:Int} (hv:Val m i x.natAbs) (h1:x<0→s=true) (h2:0<x→s=false) (hb:base≤i):Ieee.signed s m (i - base).toNat * (2:Int) ^ base.toNat=x * (2:Int) ^ (-base).toNat:=by
 unfold Val at hv
 have hN:m * 2 ^ (i - base).toNat * 2 ^ base.toNat=x.natAbs * 2 ^ (-base).toNat:=by
  obtain ⟨c,HR,Fx⟩:∃c:Nat,(i - base).toNat+base.toNat+c=i.toNat+((i - base).toNat+base.toNat+c - i.toNat)∧c=(-i).toNat:=⟨_,by omega,rfl⟩
  have e1:(i - base).toNat+base.toNat+(-i).toNat=i.toNat+(-base).toNat:=by omega
  have h:m * 2 ^ (i - base).toNat * 2 ^ base.toNat * 2 ^ (-i).toNat=x.natAbs * 2 ^ (-base).toNat * 2 ^ (-i).toNat:=by
   calc m * 2 ^ (i - base).toNat * 2 ^ base.toNat * 2 ^ (-i).toNat=m * 2 ^ ((i - base).toNat+base.toNat+(-i).toNat):=by rw [Nat.pow_add,Nat.pow_add];ac_rfl
    _=m * 2 ^ i.toNat * 2 ^ (-base).toNat:=by rw [e1,Nat.pow_add];ac_rfl
    _=x.natAbs * 2 ^ (-base).toNat * 2 ^ (-i).toNat:=by rw [hv];ac_rfl
  exact Nat.eq_of_mul_eq_mul_right (Nat.two_pow_pos _) h
 have hZ:((m * 2 ^ (i - base).toNat:Nat):Int) * (2:Int) ^ base.toNat=(x.natAbs:Int) * (2:Int) ^ (-base).toNat:=by
  have:=congrArg (Nat.cast (R:=Int)) hN
  simpa using this
 unfold Ieee.signed
 rw [Nat.shiftLeft_eq]
 rcases Int.lt_trichotomy x 0 with a | a | a
 ·rw [h1 a,aw rfl,Int.neg_mul,hZ,show (x.natAbs:Int)=-x by omega,Int.neg_mul,Int.neg_neg]
 ·subst a
  have h0:((m * 2 ^ (i - base).toNat:Nat):Int) * (2:Int) ^ base.toNat=0:=by rw [hZ];simp
  cases s
  ·rw [au (by decide),h0];simp
  ·rw [aw rfl,Int.neg_mul,h0];simp
 ·rw [h2 a,au (by decide),hZ,show (x.natAbs:Int)=x by omega]
theorem WD.sum {d e:Datum} {x y:Int} (hx:WD d x) (hy:WD e y):∃r,d.sum e=some r∧WD r (x+y):=by
 obtain ⟨s,m,i,rfl,hv,h1,h2⟩:=hx
 obtain ⟨t,n,j,rfl,hw,g1,g2⟩:=hy
 have e1:=kD hv h1 h2 (show min i j≤i by omega)
 have e2:=kD hw g1 g2 (show min i j≤j by omega)
 refine ⟨_,rfl,_,_,_,rfl,?_,?_,?_⟩
 all_goals generalize min i j=base at e1 e2 ⊢
 all_goals
  have e3:(Ieee.signed s m (i - base).toNat+Ieee.signed t n (j - base).toNat) * (2:Int) ^ base.toNat=(x+y) * (2:Int) ^ (-base).toNat:=by rw [Int.add_mul,Int.add_mul,e1,e2]
  generalize Ieee.signed s m (i - base).toNat+Ieee.signed t n (j - base).toNat=T at e3 ⊢
  have p1:(0:Int)<(2:Int) ^ base.toNat:=by exact_mod_cast Nat.two_pow_pos base.toNat
  have p2:(0:Int)<(2:Int) ^ (-base).toNat:=by exact_mod_cast Nat.two_pow_pos (-base).toNat
 ·unfold Val
  have:=congrArg Int.natAbs e3
  rw [Int.natAbs_mul,Int.natAbs_mul,Int.natAbs_pow,Int.natAbs_pow] at this
  exact this
 ·intro h
  have hT:T<0:=by
   have h3:=Int.mul_neg_of_neg_of_pos h p2
   rw [←e3] at h3
   exact Int.not_le.1 fun D0=>by have:=Int.mul_nonneg D0 (Int.le_of_lt p1);omega
  rw [au (by omega)];exact aa hT
 ·intro h
  have hT:0<T:=by
   have h3:=Int.mul_pos h p2
   rw [←e3] at h3
   exact Int.not_le.1 fun D0=>by have:=Int.mul_nonneg (show 0≤-T by omega) (Int.le_of_lt p1);rw [Int.neg_mul] at this;omega
  rw [au (by omega)];exact ab (by omega)
theorem WD.opposite {d:Datum} {x:Int} (hx:WD d x):WD d.opposite (-x):=by
 obtain ⟨s,m,i,rfl,hv,h1,h2⟩:=hx
 exact ⟨!s,m,i,rfl,by rw [Int.natAbs_neg];exact hv,fun h=>by rw [h2 (by omega)];rfl,fun h=>by rw [h1 (by omega)];rfl⟩
theorem Ci {a b:Nat} {x y:Int} (ha:W a x) (hb:W b y) (h:(x+y).natAbs≤9007199254740992):∃r,double.add a b=some r∧W r (x+y):=by
 obtain ⟨d,e,hd⟩:=WD.sum ha hb
 exact W.map e hd h
theorem A8 {a b:Nat} {x y:Int} (ha:W a x) (hb:W b y) (h:(x - y).natAbs≤9007199254740992):∃r,double.sub a b=some r∧W r (x - y):=by
 obtain ⟨d,e,hd⟩:=WD.sum ha (WD.opposite hb)
 exact W.map e hd h
theorem BB {a b:Nat} {x y:Int} (ha:W a x) (hb:W b y) (h:(x * y).natAbs≤9007199254740992):∃r,double.mul a b=some r∧W r (x * y):=by
 obtain ⟨d,e,hd⟩:=WD.product ha hb
 exact W.map e hd h
theorem wX (n:Int) (h:n.natAbs≤9007199254740992):W (double.write (.number (n<0) n.natAbs 0)) n :=
 WD.write ⟨_,_,_,rfl,by unfold Val;simp,fun h=>aa h,fun h=>ab (by omega)⟩ h
theorem jr {a b:Nat} {x y:Int} (ha:W a x) (hb:W b y):double.order a b=some (compare x y):=by
 obtain ⟨s,m,i,hr,hv,h1,h2⟩:=ha
 obtain ⟨t,n,j,hq,hw,g1,g2⟩:=hb
 have e1:=kD hv h1 h2 (show min i j≤i by omega)
 have e2:=kD hw g1 g2 (show min i j≤j by omega)
 unfold Format.order
 rw [hr,hq]
 show some (compare (Ieee.signed s m (i - min i j).toNat) (Ieee.signed t n (j - min i j).toNat))=_
 generalize min i j=base at e1 e2 ⊢
 have p1:(0:Int)<(2:Int) ^ base.toNat:=by exact_mod_cast Nat.two_pow_pos base.toNat
 have p2:(0:Int)<(2:Int) ^ (-base).toNat:=by exact_mod_cast Nat.two_pow_pos (-base).toNat
 generalize Ieee.signed s m (i - base).toNat=A at e1 ⊢
 generalize Ieee.signed t n (j - base).toNat=B at e2 ⊢
 congr 1
 rcases Int.lt_trichotomy x y with c | c | c
 ·have h3:=Int.mul_lt_mul_of_pos_right c p2
  rw [←e1,←e2] at h3
  have h4:A<B:=Int.lt_of_mul_lt_mul_right h3 (Int.le_of_lt p1)
  rw [Int.compare_eq_lt.2 h4,Int.compare_eq_lt.2 c]
 ·subst c
  rw [←e2] at e1
  have h4:A=B:=Int.eq_of_mul_eq_mul_right (by omega) e1
  rw [h4];simp
 ·have h3:=Int.mul_lt_mul_of_pos_right c p2
  rw [←e1,←e2] at h3
  have h4:B<A:=Int.lt_of_mul_lt_mul_right h3 (Int.le_of_lt p1)
  rw [Int.compare_eq_gt.2 h4,Int.compare_eq_gt.2 c]
end Fl
end Go.Eng
namespace Go.Eng
open Go.IntWalk
theorem bw {R:Type} {p:Bool} {x:Option R} (h:p=true):ck p x=x:=by rw [h];rfl
theorem ck4 (a b:Bool):(!a || (a&&(b || (a&&!b))))=true:=by cases a <;> cases b <;> rfl
theorem ck5 (a b:Bool):(!a || (a&&(!b || (a&&b))))=true:=by cases a <;> cases b <;> rfl
theorem iR:maxLen=9223372036854775807:=by decide
theorem AY {n:Nat} (h:n≤1099511627776):qT n=true:=BJ.2 (by rw [iR];omega)
theorem dW {n b:Nat} (h:n * b≤140737488355328) (h2:n≤140737488355328):fC n b=true:=E8.2 ⟨by rw [iR];omega,h⟩
theorem bK {n:Int} {l:Nat} (h0:0≤n) (h1:n<l):bB n l=true:=BM.2 ⟨h0,h1⟩
theorem jm {a b:Int} {l:Nat} (h0:0≤a) (h1:a≤b) (h2:b≤l):gA a b l=true:=B9.2 ⟨h0,h1,h2⟩
theorem lk (n:Nat):(BitVec.ofInt 64 (n:Int))=BitVec.ofNat 64 n:=by
 apply BitVec.eq_of_toNat_eq;rw [BitVec.toNat_ofInt,BitVec.toNat_ofNat];omega
theorem Hh (a b:Nat) (ha:a<9223372036854775808) (hb:b<9223372036854775808):cI .and .i64 a b=((a &&& b:Nat):Int):=by
 have h1:a &&& b≤a:=Nat.and_le_left
 have e:cI .and .i64 a b=IntKind.i64.wrap (((BitVec.ofInt 64 (a:Int) &&& BitVec.ofInt 64 (b:Int)).toNat:Nat):Int):=rfl
 rw [e,lk,lk,BitVec.toNat_and,BitVec.toNat_ofNat,BitVec.toNat_ofNat,Nat.mod_eq_of_lt (by omega),Nat.mod_eq_of_lt (by omega)]
 exact i64_in _ (by omega)
theorem Lp {a b k:Nat} (ha:a<2 ^ k) (hb:b<2 ^ k):a ||| b<2 ^ k:=Nat.or_lt_two_pow ha hb
theorem IL (a b:Nat) (ha:a<9223372036854775808) (hb:b<9223372036854775808):cI .or .i64 a b=((a ||| b:Nat):Int):=by
 have h1:a ||| b<9223372036854775808:=Lp (k:=63) (by simpa using ha) (by simpa using hb)
 have e:cI .or .i64 a b=IntKind.i64.wrap (((BitVec.ofInt 64 (a:Int) ||| BitVec.ofInt 64 (b:Int)).toNat:Nat):Int):=rfl
 rw [e,lk,lk,BitVec.toNat_or,BitVec.toNat_ofNat,BitVec.toNat_ofNat,Nat.mod_eq_of_lt (by omega),Nat.mod_eq_of_lt (by omega)]
 exact i64_in _ (by omega)
theorem mr {a b k:Nat} (hb:b<2 ^ k):(a * 2 ^ k) ||| b=a * 2 ^ k+b:=by
 rw [←Nat.shiftLeft_eq,Nat.shiftLeft_add_eq_or_of_lt hb]
theorem drop_cons {α:Type} {l:List α} {i:Nat} (hi:i<l.length) (d:α):l.drop i=l.getD i d :: l.drop (i+1):=by
 rw [List.drop_eq_getElem_cons hi,af,aq hi];rfl
theorem zZ (n:Nat):(UInt64.ofInt (n:Int)).toNat=n % 18446744073709551616:=by
 have h:=pK (n:Int)
 rw [jo] at h;omega
theorem Cy (n:Nat):(UInt8.ofInt (n:Int)).toNat=n % 256:=by
 have h:=rO (n:Int)
 rw [wrap_u8'] at h;omega
end Go.Eng
namespace Go.Eng
namespace Nt
def val:List UInt16→Nat
 | []=>0
 | d :: r=>d.toNat+65536 * val r
def fix:Nat→Nat→List UInt16
 | 0,_=>[]
 | k+1,n=>UInt16.ofNat n :: fix k (n / 65536)
def of (n:Nat):List UInt16:=if n=0 then [] else UInt16.ofNat n :: of (n / 65536)
termination_by n
decreasing_by exact Nat.div_lt_self (by omega) (by omega)
def norm (a:List UInt16):Bool:=decide (a.getLast?≠some 0)
def is (a:List UInt16):Bool:=decide (a.length≤256)&&norm a
def bits (n:Nat):Nat:=if n=0 then 0 else n.log2+1
def cmp (a b:Nat):Int:=if a<b then -1 else if a=b then 0 else 1
end Nt
namespace Gz
def Lg:List Cx:=[(4607182418800017408,0),(0,4607182418800017408),(13830554455654793216,0),(0,13830554455654793216)]
def mul (z w:Cx):Cx:=(Fl.qz z.1 z.2 w.1 w.2,Fl.qA z.1 z.2 w.1 w.2)
def add (z w:Cx):Cx:=(Fl.add z.1 w.1,Fl.add z.2 w.2)
def unit (k:Int):Cx:=Lg.getD (k % 4).toNat (0,0)
def nU (z:Cx) (k:Int):Cx:=mul z (unit k)
def part (l:Qd) (Ik:Int) (k:Nat):Nat→Cx
 | 0=>(0,0)
 | j+1=>add (part l Ik k j) (nU (l.get j) (j * k * Ik))
def mh (l:Qd) (Ik:Int):Qd:=⟨part l Ik 0 4,part l Ik 1 4,part l Ik 2 4,part l Ik 3 4⟩
def quarter (z:Cx):Cx:=(Fl.ofInt ((Fl.toInt z.1).tdiv 4),Fl.ofInt ((Fl.toInt z.2).tdiv 4))
def back (l:Qd):Qd:=⟨quarter (part l (-1) 0 4),quarter (part l (-1) 1 4),quarter (part l (-1) 2 4),quarter (part l (-1) 3 4)⟩
def wc (n:Int):Cx:=(Fl.ofInt n,Fl.ofInt 0)
def gS:List Int→List Qd
 | []=>[]
 | [a]=>[mh ⟨wc a,(0,0),(0,0),(0,0)⟩ 1]
 | a :: b :: r=>mh ⟨wc a,wc b,(0,0),(0,0)⟩ 1 :: gS r
def Is (z:Cx) (x y:Int):Prop:=Fl.W z.1 x∧Fl.W z.2 y
def In (z:Cx) (M:Nat):Prop:=∃x y:Int,Is z x y∧x.natAbs≤M∧y.natAbs≤M
def Ig (l:Qd) (M:Nat):Prop:=In l.c0 M∧In l.c1 M∧In l.c2 M∧In l.c3 M
def Ro (z:Cx):Prop:=∃x y:Int,Is z (4 * x) (4 * y)∧x.natAbs≤562949953421312∧y.natAbs≤562949953421312
open Classical in
noncomputable def tK (z:Cx) (M:Nat):Bool:=decide (In z M)
open Classical in
noncomputable def wg (l:Qd) (M:Nat):Bool:=decide (Ig l M)
open Classical in
noncomputable def I8 (l:Qd):Bool:=decide (∀k,k<4→Ro (part l (-1) k 4))
open Classical in
noncomputable def I7 (z:Cx) (b:Nat):Bool:=decide (∃x y m:Int,Is z x y∧Fl.W b m∧(x.natAbs:Int)≤m∧(y.natAbs:Int)≤m∧m≤9007199254740992)
open Classical in
noncomputable def HD (b:Nat):Bool:=decide (∃n:Int,Fl.W b n∧n.natAbs≤1125899906842624)
def Cc (a b:List Int) (m:Nat):Int:=(List.range (m+1)).foldl (fun s i=>s+a.getD i 0 * b.getD (m - i) 0) 0
def conv (a b:List Int):List Int:=if a=[]∨b=[] then [] else (List.range (a.length+b.length - 1)).map (Cc a b)
def ie (a:List Int):Bool:=a.all fun x=>decide (0≤x∧x≤65535)
end Gz
namespace Nr
def dV (c:UInt8):Bool:=decide (48≤c∧c≤57)
def num (d:bz):Nat:=d.foldl (fun n c=>10 * n+(c.toNat - 48)) 0
def dec (n:Nat):bz:=if n<10 then [UInt8.ofNat (48+n)] else dec (n / 10)++[UInt8.ofNat (48+n % 10)]
termination_by n
decreasing_by exact Nat.div_lt_self (by omega) (by omega)
noncomputable def HA:{f:Int→bz // ∀v,f v=if v<0 then 45 :: dec v.natAbs else dec v.natAbs}:=Classical.choice ⟨⟨fun v=>if v<0 then 45 :: dec v.natAbs else dec v.natAbs,fun _=>rfl⟩⟩
noncomputable def itoa (v:Int):bz:=HA.1 v
theorem nN (v:Int):itoa v=if v<0 then 45 :: dec v.natAbs else dec v.natAbs:=HA.2 v
def gr (d:bz):bz:=(d.reverse.dropWhile (· == 48)).reverse
def sE (d:bz):bz:=d.dropWhile (· == 48)
def mG (p:Nat):Nat:=if p<4503599627370496 then p else p % 4503599627370496+4503599627370496
def sh (p:Nat):Nat:=p / 4503599627370496 - 1
def mK (p:Nat):Nat:=(2 * mG p+1) * 2 ^ sh p
def ig:Nat:=2 * 2 ^ 1074
def fZ (a b p:Nat):Prop:=mK p * b<a * ig∨(mK p * b=a * ig∧p % 2=1)
def top:Nat:=9218868437227405311
open Classical in
noncomputable def gZ (a b:Nat):Option Nat:=if h:∃p,p≤top∧¬fZ a b p∧∀q,q<p→fZ a b q then some h.choose else none
def valid (d:bz):Bool:=decide (1≤d.length∧d.length≤300)&&d.all dV
noncomputable def rd (n:Nat) (k:Int):Option Nat:=gZ (n * 10 ^ k.toNat) (10 ^ (-k).toNat)
noncomputable def read (d:bz) (x:Int):Option Nat:=if valid d then rd (num d) (x - d.length) else none
noncomputable def pat (r:Option Nat):UInt64:=UInt64.ofNat (r.getD 0)
def split (b:UInt64):Int × Bool × UInt64 × Int :=
 let x:=b.toNat / 4503599627370496 % 2048
 let f:=b.toNat % 4503599627370496
 let neg:=decide (9223372036854775808≤b.toNat)
 if x=2047 then (if f=0 then (3,neg,0,0) else (4,neg,0,0))
 else if x=0 then (if f=0 then (1,neg,0,0) else (2,neg,UInt64.ofNat f,-1074))
 else (2,neg,UInt64.ofNat (4503599627370496+f),x - 1075)
def KV (m:Nat) (e:Int):Nat:=m * 2 ^ e.toNat * 5 ^ (-e).toNat
def exD (m:Nat) (e:Int):bz:=gr (dec (KV m e))
def Tr (m:Nat) (e:Int):Int:=(dec (KV m e)).length+min e 0
def times:List UInt64→UInt64→UInt64→List UInt64
 | [],_,c=>if c > 0 then [c] else []
 | a :: r,b,c=>(c+a * b) % 100000000 :: times r b ((c+a * b) / 100000000)
def tp (a b:Nat):Nat:=if b<2 * (a % b)∨(b=2 * (a % b)∧a / b % 2=1) then a / b+1 else a / b
def lg (a b:Nat):Bool:=decide (tp a b=a / b+1∧tp a b=9007199254740992)
def jb (a:Nat) (e:Int):Nat:=a * 2 ^ (-e).toNat
def iU (b:Nat) (e:Int):Nat:=b * 2 ^ e.toNat
def run (s:bz):Nat:=(s.takeWhile dV).length
def ot (s:bz) (k:Int):Int :=
 match s with
 | []=>k
 | c :: r=>if c=101∨c=69 then
   let r:=match r with | d :: q=>if d=43∨d=45 then q else r | []=>r
   if run r=0∨run r<r.length then 0 else 2
  else 0
def ll (s:bz):Int :=
 match s with
 | 46 :: r=>if run r=0 then 0 else ot (r.drop (run r)) 2
 | s=>ot s 1
def iX (s:bz):Int :=
 let t:=match s with | 45 :: r=>r | s=>s
 if run t=0∨(t.getD 0 0=48∧1<run t) then 0 else ll (t.drop (run t))
open Classical in
noncomputable def i64 (v:Int):Bool:=decide (-9223372036854775808≤v∧v≤9223372036854775807)
theorem DS {v:Int} (h:i64 v=true):decide (-9223372036854775808≤v∧v≤9223372036854775807)=true:=aa (ar h)
def signed (s:bz):bz:=match s with | c :: r=>if c=43∨c=45 then r else s | []=>[]
def xU (s:bz):Int :=
 let n:Nat:=num (signed s)
 if s.getD 0 0=45 then -(n:Int) else n
def body (s:bz):bz:=match s with | 45 :: r=>r | s=>s
def HC (c:UInt8):Bool:=decide (c=101∨c=69)
open Classical in
noncomputable def join (neg:Bool) (m:Nat) (e:Int):Option Nat :=
 if h:∃p,p≤top∧mG p * 2 ^ sh p * 2 ^ (-(e+1074)).toNat=m * 2 ^ (e+1074).toNat then some (h.choose+if neg then 9223372036854775808 else 0) else none
end Nr
end Go.Eng
namespace Go.Eng
namespace Sh
def tA (a:Nat) (k:Int):Nat:=a * 10 ^ k.toNat
def tB (b:Nat) (k:Int):Nat:=b * 10 ^ (-k).toNat
open Classical in
noncomputable def reads (p N:Nat) (k:Int):Option (bz × Int):=if Nr.rd N k=some p then some (Nr.gr (Nr.dec N),(Nr.dec N).length+k) else none
noncomputable def some_ (p a b:Nat) (x n:Int):Option (bz × Int) :=
 let P:=tA a (n - x)
 let Q:=tB b (n - x)
 let u:=reads p (P / Q) (x - n)
 let o:=reads p (P / Q+1) (x - n)
 if u.isSome=true∧(o.isSome=false∨2 * (P % Q)<Q∨(2 * (P % Q)=Q∧P / Q % 2=0)) then u else o
def iP (p:Nat):Nat:=Nr.mG p * 2 ^ ((Nr.sh p:Int) - 1074).toNat
def fY (p:Nat):Nat:=2 ^ (-((Nr.sh p:Int) - 1074)).toNat
def dx (p:Nat):Int:=Nr.Tr (Nr.mG p) ((Nr.sh p:Int) - 1074)
noncomputable def go (p:Nat):Nat→Nat→bz × Int
 | 0,_=>([],0)
 | f+1,i=>(some_ p (iP p) (fY p) (dx p) i).getD (go p f (i+1))
theorem go_succ (p f i:Nat):go p (f+1) i=(some_ p (iP p) (fY p) (dx p) i).getD (go p f (i+1)):=rfl
noncomputable def digits (p:Nat):bz × Int:=go p 17 1
def mM (b:UInt64):Nat:=b.toNat % 9223372036854775808
noncomputable def NG (b:UInt64):bz × Int × Bool:=if (Nr.split b).1=2 then ((digits (mM b)).1,(digits (mM b)).2,true) else ([],0,false)
noncomputable def Q5:{f:UInt64→bz × Int × Bool // ∀b,f b=NG b}:=Classical.choice ⟨⟨NG,fun _=>rfl⟩⟩
noncomputable def dg (b:UInt64):bz × Int × Bool:=Q5.1 b
theorem H0 (b:UInt64):dg b=NG b:=Q5.2 b
def dU (n:Int):bz:=List.replicate n.toNat 48
noncomputable def laid (d:bz) (x:Int):bz :=
 if 1≤x∧x≤21∧(d.length:Int)≤x then d++dU (x - d.length)
 else if 1≤x∧x≤21 then d.take x.toNat++([46]++d.drop x.toNat)
 else if -5≤x∧x≤0 then [48,46]++(dU (-x)++d)
 else (d.take 1++(if 1<d.length then 46 :: d.drop 1 else []))++(if x<1 then [101,45]++Nr.itoa (1 - x) else [101,43]++Nr.itoa (x - 1))
noncomputable def z8:{f:Nat→bz // ∀n,f n=Nr.dec n}:=Classical.choice ⟨⟨Nr.dec,fun _=>rfl⟩⟩
noncomputable def pM (n:Nat):bz:=z8.1 n
theorem tW (n:Nat):pM n=Nr.dec n:=z8.2 n
noncomputable def Aj:{f:Nat→Nat→Int→Option (bz × Int) // ∀p N k,f p N k=reads p N k}:=Classical.choice ⟨⟨reads,fun _ _ _=>rfl⟩⟩
noncomputable def jM (p N:Nat) (k:Int):Option (bz × Int):=Aj.1 p N k
theorem uc (p N:Nat) (k:Int):jM p N k=reads p N k:=Aj.2 p N k
noncomputable def CN:{f:Nat→Nat→Nat→Int→Int→Option (bz × Int) // ∀p a b x n,f p a b x n=some_ p a b x n}:=Classical.choice ⟨⟨some_,fun _ _ _ _ _=>rfl⟩⟩
noncomputable def ob (p a b:Nat) (x n:Int):Option (bz × Int):=CN.1 p a b x n
theorem rV (p a b:Nat) (x n:Int):ob p a b x n=some_ p a b x n:=CN.2 p a b x n
open Classical in
noncomputable def nJ (a b:Nat) (x n:Int):Bool:=decide (1≤n∧n≤17∧-380≤x∧x≤380∧0<a∧a<2 ^ 1100∧0<b∧b<2 ^ 1100∧tB b (n - x)≤tA a (n - x)∧tA a (n - x)<10 ^ 17 * tB b (n - x))
noncomputable def DD:{f:bz→Int→bz // ∀d x,f d x=laid d x}:=Classical.choice ⟨⟨laid,fun _ _=>rfl⟩⟩
noncomputable def AA (d:bz) (x:Int):bz:=DD.1 d x
theorem xu (d:bz) (x:Int):AA d x=laid d x:=DD.2 d x
def sign (b:UInt64):bz:=if (Nr.split b).2.1 then [45] else []
noncomputable def tX (b:UInt64):bz :=
 if (Nr.split b).1=4 then [78,97,78]
 else if (Nr.split b).1=3 then sign b++[73,110,102,105,110,105,116,121]
 else if (Nr.split b).1=1 then sign b++[48]
 else sign b++laid (dg b).1 (dg b).2.1
noncomputable def CJ:{f:UInt64→bz // ∀b,f b=tX b}:=Classical.choice ⟨⟨tX,fun _=>rfl⟩⟩
noncomputable def text (b:UInt64):bz:=CJ.1 b
theorem ve (b:UInt64):text b=tX b:=CJ.2 b
end Sh
end Go.Eng
set_option maxRecDepth 20000
namespace Go.Eng
namespace fy
def mA (r:Int):Bool:=decide (0≤r∧r≤1114111∧(r<55296∨57343<r))
def cont:Nat→Nat→bz→Option Nat
 | r,0,_=>some r
 | _,_+1,[]=>none
 | r,k+1,c :: l=>if 128≤c.toNat∧c.toNat<192 then cont (r * 64+(c.toNat - 128)) k l else none
def nj (r more least:Nat) (l:bz):Int × Int :=
 match cont r more l with
 | some r=>if r<least∨mA r=false then (0,0) else ((r:Int),(more+1:Int))
 | none=>(0,0)
def rune:bz→Int × Int
 | []=>(0,0)
 | c :: l =>
  if c.toNat<128 then ((c.toNat:Int),1)
  else if 192≤c.toNat∧c.toNat<224 then nj (c.toNat - 192) 1 128 l
  else if 224≤c.toNat∧c.toNat<240 then nj (c.toNat - 224) 2 2048 l
  else if 240≤c.toNat∧c.toNat<248 then nj (c.toNat - 240) 3 65536 l
  else (0,0)
def mi (b:bz) (i:Int):Int × Int:=if i<0∨(b.length:Int)≤i then (0,0) else rune (b.drop i.toNat)
def oX:Nat→bz→Nat × Nat
 | 0,_=>(0,0)
 | n+1,l=>if (rune l).2=0 then (0,0) else let q:=oX n (l.drop (rune l).2.toNat);(q.1+(rune l).2.toNat,q.2+1)
def look (l:bz):Nat × Nat:=oX l.length l
def whole (l:bz):Bool:=decide ((look l).1=l.length)
def zero (l:bz):Bool:=l.contains 0
end fy
end Go.Eng
set_option maxRecDepth 20000
namespace Go.Eng
mutual
def bJ.bO:bJ→Nat
 | .mk n _ _ _ _ t m _ y ks=>1+n.length+t.length+m.length+y.length+bJ.cM ks
def bJ.cM:List bJ→Nat
 | []=>0
 | f :: r=>bJ.bO f+bJ.cM r
end
namespace Tree
def BA:List bz:=[[],[100,111,117,98,108,101],[115,116,114,105,110,103],[100,111,99,117,109,101,110,116],[97,114,114,97,121],[98,105,110,97,114,121],[117,110,100,101,102,105,110,101,100],[111,98,106,101,99,116,105,100],[98,111,111,108],[100,97,116,101],[110,117,108,108],[114,101,103,101,120],[112,111,105,110,116,101,114],[99,111,100,101],[115,121,109,98,111,108],[115,99,111,112,101,100],[105,110,116,51,50],[116,105,109,101,115,116,97,109,112],[105,110,116,54,52],[100,101,99,105,109,97,108]]
def name (k:Int):bz :=
 if k=127 then [109,97,120,107,101,121]
 else if k=255 then [109,105,110,107,101,121]
 else if k<0∨20≤k then []
 else BA.getD k.toNat []
def kinds:List Int:=[1,2,3,4,5,6,7,8,9,10,11,12,13,14,15,16,17,18,19,127,255]
def xH (i:Nat) (k:Int):Bool :=
 match i with
 | 0=>decide (k∈[1,9,17,18,16,8])
 | 1=>decide (k=19)
 | 2=>decide (k∈[2,13,14,11,12,15])
 | 3=>decide (k=11)
 | 4=>decide (k=5)
 | 5=>decide (k∈[5,7,12])
 | _=>decide (k∈[3,4,15])
def j7 (v:Val):Bool :=
 (xH 0 v.kind || decide (v.bits=0))&&(xH 1 v.kind || (decide (v.high=0)&&decide (v.low=0)))&&(xH 2 v.kind || decide (v.text=[]))&&(xH 3 v.kind || decide (v.more=[])) &&
 (xH 4 v.kind || decide (v.sub=0))&&(xH 5 v.kind || decide (v.bytes=[]))&&(xH 6 v.kind || decide (v.kids=[])) &&
 (!decide (v.kind=16) || decide (v.bits<4294967296))&&(!decide (v.kind=8) || decide (v.bits<2))&&(decide (0≤v.sub)&&decide (v.sub≤255))&&(!(decide (v.kind=7) || decide (v.kind=12)) || decide (v.bytes.length=12))
def gH (s:bz) (plain:Bool):Bool:=fy.whole s&&!(plain&&fy.zero s)
def own (v:Val):Int :=
 if name v.kind=[] then 5
 else if j7 v=false then 1
 else if gH v.text (decide (v.kind=11))=false∨gH v.more (decide (v.kind=11))=false then 4
 else 0
def tH (v:Val) (n:bz):Int:=if own v≠0 then own v else if gH n true=false then 4 else 0
mutual
def iT:bJ→List Int→List Int × Int
 | .mk n k b h l t m s y ks,p=>if tH ⟨k,b,h,l,t,m,s,y,ks⟩ n≠0 then (p,tH ⟨k,b,h,l,t,m,s,y,ks⟩ n) else sZ ks 0 p
def sZ:List bJ→Nat→List Int→List Int × Int
 | [],_,_=>([],0)
 | f :: r,i,p=>if (iT f (p++[(i:Int)])).2≠0 then iT f (p++[(i:Int)]) else sZ r (i+1) p
end
mutual
def depth:bJ→Nat
 | .mk _ k _ _ _ _ _ _ _ ks=>if k=3∨k=4∨k=15 then EB ks+1 else 0
def EB:List bJ→Nat
 | []=>0
 | f :: r=>max (depth f) (EB r)
end
end Tree
namespace eU
def room (left:Int):List Int→Int
 | []=>left
 | s :: r=>if left<0∨left<s then -1 else room (left - s) r
mutual
def value (left:Int):bJ→Int
 | .mk _ _ _ _ _ t m _ y ks=>values (room left [2,t.length,m.length,y.length]) ks
def values (left:Int):List bJ→Int
 | []=>left
 | f :: r=>if left<0 then left else values (value (room left [(f.name.length:Int)]) f) r
end
end eU
end Go.Eng
set_option maxRecDepth 20000
namespace Go.Eng
namespace Tree
def lh:Nat→List bJ→Bool
 | _,[]=>true
 | i,f :: r=>decide (f.name=ie i)&&lh (i+1) r
def regular (l:List bJ):Bool:=lh 0 l
end Tree
end Go.Eng
set_option maxRecDepth 20000
namespace Go.Eng.lE
def sign (n:Nat):UInt8:=List.getD [48,49,50,51,52,53,54,55,56,57,97,98,99,100,101,102] n 0
def two (x:UInt8):bz:=[sign (x.toNat / 16),sign (x.toNat % 16)]
def text:bz→bz
 | []=>[]
 | x :: r=>two x++text r
def digit (c:UInt8):Int:=if 48≤c.toNat∧c.toNat≤57 then c.toNat - 48 else if 97≤c.toNat∧c.toNat≤102 then c.toNat - 87 else if 65≤c.toNat∧c.toNat≤70 then c.toNat - 55 else -1
def bytes:bz→Option bz
 | []=>some []
 | [_]=>none
 | x :: y :: r=>if digit x<0∨digit y<0 then none else (bytes r).map (UInt8.ofNat ((digit x).toNat * 16+(digit y).toNat) :: ·)
end Go.Eng.lE
set_option maxRecDepth 20000
namespace Go.Eng
noncomputable def dy.Lf:{f:dy→Nat // ∀a,f a=a.high.toNat * 18446744073709551616+a.low.toNat}:=Classical.choice ⟨⟨fun a=>a.high.toNat * 18446744073709551616+a.low.toNat,fun _=>rfl⟩⟩
noncomputable def dy.val (a:dy):Nat:=dy.Lf.1 a
theorem dy.jH (a:dy):a.val=a.high.toNat * 18446744073709551616+a.low.toNat:=dy.Lf.2 a
def dy.of (n:Nat):dy:=⟨UInt64.ofNat (n / 18446744073709551616),UInt64.ofNat n⟩
namespace Cn
def CP:bz:=[65,66,67,68,69,70,71,72,73,74,75,76,77,78,79,80,81,82,83,84,85,86,87,88,89,90,97,98,99,100,101,102,103,104,105,106,107,108,109,110,111,112,113,114,115,116,117,118,119,120,121,122,48,49,50,51,52,53,54,55,56,57,43,47]
def sign (c:UInt8):UInt8:=List.getD CP ((c.toNat:Int)).toNat 0
def base:bz→bz
 | a :: b :: c :: r=>sign (kX a 2) :: sign (mJ (a &&& 3) 4 ||| kX b 4) :: sign (mJ (b &&& 15) 2 ||| kX c 6) :: sign (c &&& 63) :: base r
 | [a,b]=>[sign (kX a 2),sign (mJ (a &&& 3) 4 ||| kX b 4),sign (mJ (b &&& 15) 2),61]
 | [a]=>[sign (kX a 2),sign (mJ (a &&& 3) 4),61,61]
 | []=>[]
noncomputable def pO (h l:UInt64):Int × Bool × dy × Int :=
 let neg:=decide (dD h 63=1)
 let JS:=dD h 58 &&& 31
 if JS=31 then (3,neg,⟨0,0⟩,0)
 else if JS=30 then (2,neg,⟨0,0⟩,0)
 else if dD JS 3=3 then (1,neg,⟨0,0⟩,((dD h 47 &&& 16383).toNat:Int) - 6176)
 else (1,neg,if dy.val ⟨h &&& 562949953421311,l⟩<10000000000000000000000000000000000 then ⟨h &&& 562949953421311,l⟩ else ⟨0,0⟩,((dD h 49 &&& 16383).toNat:Int) - 6176)
noncomputable def CM:{f:UInt64→UInt64→Int × Bool × dy × Int // ∀h l,f h l=pO h l}:=Classical.choice ⟨⟨pO,fun _ _=>rfl⟩⟩
noncomputable def split (h l:UInt64):Int × Bool × dy × Int:=CM.1 h l
theorem split_eq (h l:UInt64):split h l=pO h l:=CM.2 h l
def sB:dy:=⟨542101086242752,4003012203950112768⟩
noncomputable def AD (neg:Bool) (c:dy) (x:Int):UInt64 × UInt64 × Bool :=
 if 10000000000000000000000000000000000≤c.val∨x < -6176∨6111<x then (0,0,false)
 else (cond neg ((iK (UInt64.ofInt (x+6176)) 49 ||| c.high) ||| 9223372036854775808) (iK (UInt64.ofInt (x+6176)) 49 ||| c.high),c.low,true)
noncomputable def Hy:{f:Bool→dy→Int→UInt64 × UInt64 × Bool // ∀n c x,f n c x=AD n c x}:=Classical.choice ⟨⟨AD,fun _ _ _=>rfl⟩⟩
noncomputable def join (n:Bool) (c:dy) (x:Int):UInt64 × UInt64 × Bool:=Hy.1 n c x
theorem join_eq (n:Bool) (c:dy) (x:Int):join n c x=AD n c x:=Hy.2 n c x
noncomputable def pX (h l:UInt64):Bool :=
 let s:=split h l
 if s.1=3 then decide (h=8935141660703064064)&&decide (l=0)
 else if s.1=2 then decide (h &&& ~~~9223372036854775808=8646911284551352320)&&decide (l=0)
 else (join s.2.1 s.2.2.1 s.2.2.2).2.2&&decide ((join s.2.1 s.2.2.1 s.2.2.2).1=h)&&decide ((join s.2.1 s.2.2.1 s.2.2.2).2.1=l)
noncomputable def laid (d:bz) (x:Int):bz :=
 let n:Int:=d.length
 if x=0 then d
 else if x<0∧-6≤x+n - 1 then
  let e:=if n≤-x then List.replicate (1 - x - n).toNat 48++d else d
  e.take (e.length+x).toNat++46 :: e.drop (e.length+x).toNat
 else
  let t:=if 1<n then d.take 1++46 :: d.drop 1 else d.take 1
  if x+n - 1<0 then t++[69,45]++Nr.itoa (-(x+n - 1)) else t++[69,43]++Nr.itoa (x+n - 1)
noncomputable def sW (h l:UInt64):bz :=
 let s:=split h l
 if s.1=3 then [78,97,78]
 else
  let t:=if s.1=2 then [73,110,102,105,110,105,116,121] else laid (Nr.dec s.2.2.1.val) s.2.2.2
  cond s.2.1 (45 :: t) t
def str (s:bz):bM:=⟨5,s,[]⟩
noncomputable def num (v:Int):bM:=⟨4,Nr.itoa v,[]⟩
def one (n:bz) (j:bM):bM:=⟨7,[],[Mem.of n j]⟩
def two (n:bz) (j:bM) (m:bz) (k:bM):bM:=⟨7,[],[Mem.of n j,Mem.of m k]⟩
def b8 (v:UInt64):bz:=[56,48,40,32,24,16,8,0].map fun n=>UInt8.ofInt ((dD v n).toNat:Int)
def high (v:UInt64):bz:=lE.text (b8 v)
noncomputable def i64 (b:UInt64):Int:=IntKind.wrap .i64 b.toNat
noncomputable def i32 (b:UInt64):Int:=IntKind.wrap .i64 (IntKind.wrap .i32 b.toNat)
noncomputable def nW (v:Val):bM × Bool :=
 if v.kind=1 then
  if decide (Sh.text v.bits=[78,97,78])&&!decide (v.bits=9221120237041090560) then (one [36,100,111,117,98,108,101,66,105,116,115] (str (high v.bits)),true)
  else (one [36,110,117,109,98,101,114,68,111,117,98,108,101] (str (Sh.text v.bits)),true)
 else if v.kind=9 then (one [36,100,97,116,101] (one [36,110,117,109,98,101,114,76,111,110,103] (str (Nr.itoa (i64 v.bits)))),true)
 else if v.kind=16 then (one [36,110,117,109,98,101,114,73,110,116] (str (Nr.itoa (i32 v.bits))),true)
 else if v.kind=18 then (one [36,110,117,109,98,101,114,76,111,110,103] (str (Nr.itoa (i64 v.bits))),true)
 else if v.kind=17 then (one [36,116,105,109,101,115,116,97,109,112] (two [116] (num (i64 (dD v.bits 32))) [105] (num (i64 (v.bits &&& 4294967295)))),true)
 else if v.kind=19 then
  if pX v.high v.low then (one [36,110,117,109,98,101,114,68,101,99,105,109,97,108] (str (sW v.high v.low)),true)
  else (one [36,100,101,99,105,109,97,108,66,105,116,115] (str (high v.high++high v.low)),true)
 else (⟨0,[],[]⟩,false)
def qM (v:Val):bM :=
 if v.kind=5 then one [36,98,105,110,97,114,121] (two [98,97,115,101,54,52] (str (base v.bytes)) [115,117,98,84,121,112,101] (str (lE.text [UInt8.ofInt v.sub])))
 else if v.kind=7 then one [36,111,105,100] (str (lE.text v.bytes))
 else if v.kind=11 then one [36,114,101,103,117,108,97,114,69,120,112,114,101,115,115,105,111,110] (two [112,97,116,116,101,114,110] (str v.text) [111,112,116,105,111,110,115] (str v.more))
 else if v.kind=12 then one [36,100,98,80,111,105,110,116,101,114] (two [36,114,101,102] (str v.text) [36,105,100] (one [36,111,105,100] (str (lE.text v.bytes))))
 else if v.kind=13 then one [36,99,111,100,101] (str v.text)
 else if v.kind=14 then one [36,115,121,109,98,111,108] (str v.text)
 else str v.text
noncomputable def xl (v:Val):bM :=
 if v.kind=6 then one [36,117,110,100,101,102,105,110,101,100] ⟨3,[],[]⟩
 else if v.kind=8 then ⟨IntKind.wrap .i64 (2+i64 v.bits),[],[]⟩
 else if v.kind=10 then ⟨1,[],[]⟩
 else if v.kind=255 then one [36,109,105,110,75,101,121] (num 1)
 else if v.kind=127 then one [36,109,97,120,75,101,121] (num 1)
 else if (nW v).2 then (nW v).1
 else qM v
def mD:List bJ→Bool
 | f :: _=>decide (f.name.take 1=[36])
 | []=>false
def sz (m:Mem):Mem:=Mem.of [] m.val
mutual
noncomputable def nZ:bJ→bM
 | .mk _ k b h l t m s y ks =>
  if k=3 then cond (mD ks) (one [36,100,111,99,117,109,101,110,116] ⟨7,[],fM ks⟩) ⟨7,[],fM ks⟩
  else if k=4 then cond (Tree.regular ks) ⟨6,[],(fM ks).map sz⟩ (one [36,97,114,114,97,121] ⟨7,[],fM ks⟩)
  else if k=15 then two [36,99,111,100,101] (str t) [36,115,99,111,112,101] ⟨7,[],fM ks⟩
  else xl ⟨k,b,h,l,t,m,s,y,ks⟩
noncomputable def fM:List bJ→List Mem
 | []=>[]
 | f :: r=>Mem.of f.name (nZ f) :: fM r
end
noncomputable def wv (v:Val):bM:=nZ (bJ.of [] v)
noncomputable def oA (l:List bJ):bM:=⟨7,[],fM l⟩
def jv (v:Val):List Int × Int:=if (Tree.iT (bJ.of [] v) []).2≠0 then Tree.iT (bJ.of [] v) [] else if v.kind=3 then ([],0) else ([],5)
noncomputable def jf (v:Val):bM:=if (jv v).2=0 then oA v.kids else ⟨0,[],[]⟩
def Px:bz:=[34,92,98,102,110,114,116]
def FA (c:UInt8):bz :=
 if 0≤Lib.indexByte [34,92,8,12,10,13,9] c then [92,List.getD Px (Lib.indexByte [34,92,8,12,10,13,9] c).toNat 0]
 else if c<32 then [92,117,48,48]++lE.text [c]
 else [c]
def quote (s:bz):bz:=34 :: (s.flatMap FA++[34])
def jx (s:bz):bz:=cond (fy.whole s) (quote s) []
mutual
noncomputable def zO:Mem→Int
 | .mk _ k t ks =>
  if k<1∨7<k then 1
  else if ks≠[]∧k≠6∧k≠7 then 1
  else if t≠[]∧k≠4∧k≠5 then 1
  else if k=6∧(ks.any fun m=>!decide (m.name=[]))=true then 1
  else if k=4∧(Nr.iX t=0∨300<t.length) then 10
  else if k=5∧fy.whole t=false then 4
  else sY ks
noncomputable def sY:List Mem→Int
 | []=>0
 | m :: r=>if fy.whole m.name=false then 4 else if zO m≠0 then zO m else sY r
end
mutual
def vw:Mem→bz
 | .mk _ k t ks =>
  if k=1 then [110,117,108,108] else if k=2 then [102,97,108,115,101] else if k=3 then [116,114,117,101] else if k=4 then t else if k=5 then jx t
  else cond (decide (k=7)) 123 91 :: (nu (decide (k=7)) true ks++[cond (decide (k=7)) 125 93])
def nu (obj:Bool):Bool→List Mem→bz
 | _,[]=>[]
 | first,m :: r=>cond first [] [44]++(cond obj (jx m.name++[58]) []++(vw m++nu obj false r))
end
noncomputable def mE (j:bM):Int:=zO (Mem.of [] j)
def tJ (j:bM):bz:=vw (Mem.of [] j)
noncomputable def pW (j:bM):bz:=cond (decide (mE j=0)) (tJ j) []
noncomputable def oG (v:Val):List Int × Int:=if (jv v).2≠0 then jv v else ([],mE (jf v))
noncomputable def tV (v:Val):bz:=if (jv v).2≠0 then [] else pW (jf v)
mutual
def qP:Mem→Mem→Bool
 | .mk _ k t ks,.mk _ k' t' Sa=>decide (k=k')&&decide (t=t')&&jw ks Sa
def jw:List Mem→List Mem→Bool
 | [],[]=>true
 | m :: r,m' :: r'=>decide (m.name=m'.name)&&qP m m'&&jw r r'
 | _,_=>false
end
def mW (a b:bM):Bool:=qP (Mem.of [] a) (Mem.of [] b)
end Cn
mutual
def Mem.bO:Mem→Nat
 | .mk n _ t ks=>1+n.length+t.length+Mem.cM ks
def Mem.cM:List Mem→Nat
 | []=>0
 | m :: r=>Mem.bO m+Mem.cM r
end
def bM.bO (j:bM):Nat:=Mem.bO (Mem.of [] j)
end Go.Eng
set_option maxRecDepth 20000
namespace Go.Eng
namespace Jp
def blank (c:UInt8):Bool:=decide (c=9∨c=10∨c=13∨c=32)
def VX (c:UInt8):Bool:=Nr.dV c || List.contains [43,45,46,69,101] c
def four:Nat→Int→bz→Int
 | 0,v,_=>v
 | _+1,_,[]=>-2
 | n+1,v,c :: r=>if lE.digit c<0 then -1 else four n (v * 16+lE.digit c) r
def put (r:Int):bz :=
 if r<128 then [UInt8.ofInt r]
 else if r<2048 then [UInt8.ofInt (192+r / 64),UInt8.ofInt (128+r % 64)]
 else if r<65536 then [UInt8.ofInt (224+r / 4096),UInt8.ofInt (128+r / 64 % 64),UInt8.ofInt (128+r % 64)]
 else [UInt8.ofInt (240+r / 262144),UInt8.ofInt (128+r / 4096 % 64),UInt8.ofInt (128+r / 64 % 64),UInt8.ofInt (128+r % 64)]
def escape (c:UInt8):UInt8 :=
 if c=34 then 34 else if c=92 then 92 else if c=47 then 47 else if c=98 then 8 else if c=102 then 12 else if c=110 then 10 else if c=114 then 13 else if c=116 then 9 else 0
def Yy (r:bz):Option (Int × Nat) :=
 let v:=four 4 0 (r.drop 2)
 if 55296≤v∧v≤57343 then
  let w:=four 4 0 (r.drop 8)
  if 56320≤v∨(r.drop 6).take 2≠[92,117]∨w<56320∨57343<w then none else some (65536+(v - 55296) * 1024+w - 56320,12)
 else some (v,6)
abbrev R:=Tok × Int × Int
def no (e at_:Int):R:=(⟨0,0,0,[]⟩,e,at_)
def V0 (from_:Int):Nat→Int→bz→bz→R
 | 0,_,_,_=>no 2 from_
 | _+1,_,[],_=>no 2 from_
 | n+1,a,c :: r,acc =>
  if c=34 then (⟨8,from_,a+1,acc⟩,0,0)
  else if c<32 then no 3 a
  else if c≠92 then
   (if (fy.rune ((c :: r).take 4)).2=0 then no 4 a
   else V0 from_ n (a+(fy.rune ((c :: r).take 4)).2) ((c :: r).drop (fy.rune ((c :: r).take 4)).2.toNat) (acc++(c :: r).take (fy.rune ((c :: r).take 4)).2.toNat))
  else if r=[] then no 2 from_
  else if r.headD 0=117 then
   (if four 4 0 (r.drop 1)=-2 then no 2 from_
   else if four 4 0 (r.drop 1)=-1 then no 3 a
   else match Yy (c :: r) with
    | none=>no 4 a
    | some (v,k)=>V0 from_ n (a+k) ((c :: r).drop k) (acc++put v))
  else if escape (r.headD 0)=0 then no 3 a
  else V0 from_ n (a+2) (r.drop 1) (acc++[escape (r.headD 0)])
noncomputable def Zg:{f:bz→Int→R // ∀s a,f s a=V0 a (s.drop a.toNat).length (a+1) ((s.drop a.toNat).drop 1) []}:=Classical.choice ⟨⟨fun s a=>V0 a (s.drop a.toNat).length (a+1) ((s.drop a.toNat).drop 1) [],fun _ _=>rfl⟩⟩
noncomputable def W5 (s:bz) (a:Int):R:=Zg.1 s a
theorem X8 (s:bz) (a:Int):W5 s a=V0 a (s.drop a.toNat).length (a+1) ((s.drop a.toNat).drop 1) []:=Zg.2 s a
def plain (s:bz):Option (Int × Nat) :=
 if 0≤Lib.indexByte [123,125,91,93,58,44] (s.headD 0) then some (2+Lib.indexByte [123,125,91,93,58,44] (s.headD 0),1)
 else if List.isPrefixOf [116,114,117,101] s then some (10,4)
 else if List.isPrefixOf [102,97,108,115,101] s then some (11,5)
 else if List.isPrefixOf [110,117,108,108] s then some (12,4)
 else none
def Wb (s:bz) (a:Nat):R :=
 let r:=s.drop a
 if r=[] then (⟨1,a,a,[]⟩,0,0)
 else match plain r with
  | some (k,n)=>(⟨k,a,a+n,[]⟩,0,0)
  | none =>
   if r.headD 0=34 then V0 a r.length (a+1) (r.drop 1) []
   else if r.headD 0=45∨Nr.dV (r.headD 0)=true then
    (let t:=r.takeWhile VX
    if Nr.iX t=0 then no 3 a
    else if 300<t.length then no 10 a
    else (⟨9,a,a+t.length,t⟩,0,0))
   else no 3 a
def Xa (s:bz) (at_:Int):R :=
 if at_<0∨(s.length:Int)<at_ then no 1 0
 else Wb s (at_.toNat+((s.drop at_.toNat).takeWhile blank).length)
noncomputable def Zm:{f:bz→Int→R // ∀s a,f s a=Xa s a}:=Classical.choice ⟨⟨Xa,fun _ _=>rfl⟩⟩
noncomputable def next (s:bz) (at_:Int):R:=Zm.1 s at_
theorem Xh (s:bz) (at_:Int):next s at_=Xa s at_:=Zm.2 s at_
abbrev E:=Int × Int × Tok
noncomputable def V7 (s:bz) (at_:Int):Except E Tok:=if (next s at_).2.1=0 then .ok (next s at_).1 else .error ((next s at_).2.1,(next s at_).2.2,(next s at_).1)
def Wr (t:Tok):E:=(if t.kind=1 then 2 else 3,t.at_,t)
mutual
noncomputable def value (s:bz) (d:Int):Nat→Tok→Int→Except E (bM × Int)
 | 0,t,_ => .error (Wr t)
 | n+1,t,w =>
  if t.kind=12 then .ok (⟨1,[],[]⟩,t.end_)
  else if t.kind=11 then .ok (⟨2,[],[]⟩,t.end_)
  else if t.kind=10 then .ok (⟨3,[],[]⟩,t.end_)
  else if t.kind=9 then .ok (⟨4,t.text,[]⟩,t.end_)
  else if t.kind=8 then .ok (⟨5,t.text,[]⟩,t.end_)
  else if t.kind=2∨t.kind=4 then
   (if d≤w then .error (8,t.at_,t)
   else do
    let u ←V7 s t.end_
    if u.kind=t.kind+1 then .ok (⟨if t.kind=2 then 7 else 6,[],[]⟩,u.end_)
    else do
     let p ←loop s d n t.kind u (w+1) []
     .ok (⟨if t.kind=2 then 7 else 6,[],p.1⟩,p.2))
  else .error (Wr t)
noncomputable def loop (s:bz) (d:Int):Nat→Int→Tok→Int→List Mem→Except E (List Mem × Int)
 | 0,_,t,_,_ => .error (Wr t)
 | n+1,k,t,w,acc=>do
  let u ←(if k=2 then (if t.kind≠8 then .error (Wr t) else do
    let c ←V7 s t.end_
    if c.kind≠6 then .error (Wr c) else V7 s c.end_) else .ok t)
  let v ←value s d n u w
  let x ←V7 s v.2
  if x.kind=k+1 then .ok (acc++[Mem.of (if k=2 then t.text else []) v.1],x.end_)
  else if x.kind≠7 then .error (Wr x)
  else do
   let y ←V7 s x.end_
   loop s d n k y w (acc++[Mem.of (if k=2 then t.text else []) v.1])
end
def fuel (s:bz):Nat:=2 * s.length+5
noncomputable def WV (s:bz) (d:Int):bM × Int × Int :=
 if d<0∨1000<d then (⟨0,[],[]⟩,1,0)
 else match (do
   let t ←V7 s 0
   let v ←value s d (fuel s) t 0
   let x ←V7 s v.2
   if x.kind≠1 then .error (7,x.at_,x) else .ok v.1:Except E bM) with
  | .ok j=>(j,0,0)
  | .error e=>(⟨0,[],[]⟩,e.1,e.2.1)
noncomputable def YO:{f:bz→Int→bM × Int × Int // ∀s d,f s d=WV s d}:=Classical.choice ⟨⟨WV,fun _ _=>rfl⟩⟩
noncomputable def parse (s:bz) (d:Int):bM × Int × Int:=YO.1 s d
theorem Xr (s:bz) (d:Int):parse s d=WV s d:=YO.2 s d
end Jp
end Go.Eng
set_option maxRecDepth 20000
namespace Go.Eng
namespace Jp
def _root_.Go.Eng.Rj.st (p:Rj):R:=(⟨p.kind,p.at_,p.end_,p.text⟩,p.err,p.Pw)
def _root_.Go.Eng.Rj.put (p:Rj) (σ:R):Rj:=⟨p.s,p.depth,σ.1.kind,σ.1.at_,σ.1.end_,σ.1.text,σ.2.1,σ.2.2,p.path⟩
def Xj (c:UInt8):Int:=if escape c=0 then -1 else ((escape c).toNat:Int)
noncomputable def step (s:bz) (σ:R):R:=if σ.2.1=0 then next s σ.1.end_ else σ
def V5 (e:Int) (σ:R):R:=if σ.2.1=0 then (σ.1,(if σ.1.kind=1 then 2 else e),σ.1.at_) else σ
mutual
noncomputable def VY (s:bz) (d:Int):Nat→R→Int→bM × R
 | 0,σ,_=>(⟨0,[],[]⟩,σ)
 | n+1,σ,w =>
  if σ.1.kind=8 then (⟨5,σ.1.text,[]⟩,step s σ)
  else if σ.1.kind=9 then (⟨4,σ.1.text,[]⟩,step s σ)
  else if σ.1.kind=10 then (⟨3,[],[]⟩,step s σ)
  else if σ.1.kind=11 then (⟨2,[],[]⟩,step s σ)
  else if σ.1.kind=12 then (⟨1,[],[]⟩,step s σ)
  else if σ.1.kind=2∨σ.1.kind=4 then (if d≤w then (⟨0,[],[]⟩,V5 8 σ)
   else if (step s σ).2.1=0∧(step s σ).1.kind=σ.1.kind+1 then (⟨if σ.1.kind=4 then 6 else 7,[],[]⟩,step s (step s σ))
   else (⟨if σ.1.kind=4 then 6 else 7,[],(VW s d n σ.1.kind (step s σ) w []).1⟩,(VW s d n σ.1.kind (step s σ) w []).2))
  else (⟨0,[],[]⟩,V5 3 σ)
noncomputable def VW (s:bz) (d:Int):Nat→Int→R→Int→List Mem→List Mem × R
 | 0,_,σ,_,acc=>(acc,σ)
 | n+1,k,σ,w,acc =>
  if σ.2.1≠0 then (acc,σ)
  else if k=2∧σ.1.kind≠8 then (acc,V5 3 σ)
  else if k=2∧(step s σ).1.kind≠6 then (acc,V5 3 (step s σ))
  else if k=2∧(step s (step s σ)).2.1≠0 then (acc,step s (step s σ))
  else
   let v:=VY s d n (if k=2 then step s (step s σ) else σ) (w+1)
   let m:=acc++[Mem.of (if k=2 then σ.1.text else []) v.1]
   if v.2.2.1=0∧v.2.1.kind=k+1 then (m,step s v.2)
   else if v.2.1.kind≠7 then (m,V5 3 v.2)
   else VW s d n k (step s v.2) w m
end
noncomputable def YN (s:bz) (d:Int) (n:Nat) (k:Int) (σ:R) (w:Int):bM × R :=
 if (step s σ).2.1=0∧(step s σ).1.kind=k+1 then (⟨if k=4 then 6 else 7,[],[]⟩,step s (step s σ))
 else (⟨if k=4 then 6 else 7,[],(VW s d n k (step s σ) w []).1⟩,(VW s d n k (step s σ) w []).2)
def fg (s:bz) (at_:Int):Nat:=2 * (s.length - at_.toNat)+3
def Wf (s:bz) (t:Tok):Bool:=decide (0≤t.at_∧t.at_≤t.end_∧t.end_≤s.length∧(t.kind≠1→t.at_<t.end_))
noncomputable def Zk:{f:bz→Int→R→Int→bM × R // ∀s d σ w,f s d σ w=VY s d (fg s σ.1.at_) σ w}:=Classical.choice ⟨⟨fun s d σ w=>VY s d (fg s σ.1.at_) σ w,fun _ _ _ _=>rfl⟩⟩
noncomputable def rv (s:bz) (d:Int) (σ:R) (w:Int):bM × R:=Zk.1 s d σ w
theorem X9 (s:bz) (d:Int) (σ:R) (w:Int):rv s d σ w=VY s d (fg s σ.1.at_) σ w:=Zk.2 s d σ w
noncomputable def Zl:{f:bz→Int→Int→R→Int→bM × R // ∀s d k σ w,f s d k σ w=YN s d (fg s σ.1.at_) k σ w}:=Classical.choice ⟨⟨fun s d k σ w=>YN s d (fg s σ.1.at_) k σ w,fun _ _ _ _ _=>rfl⟩⟩
noncomputable def rr (s:bz) (d k:Int) (σ:R) (w:Int):bM × R:=Zl.1 s d k σ w
theorem Zh (s:bz) (d k:Int) (σ:R) (w:Int):rr s d k σ w=YN s d (fg s σ.1.at_) k σ w:=Zl.2 s d k σ w
end Jp
end Go.Eng
