/- Texts of my own, one behind the other: XV, XW, XX, XY, XT, XZ, YA, YB, YC, YE, YF, YG, YH, YJ, YK, XFloatP, XArithP, XNrPure, XShPure, RxUtfPure, RxTreePure, RxRegPure, RxHexaPure, RxPure, RxJpPure, RxRpPure, RxZPure, RxYPure. -/
import Derived.Test.YticoeljejdcofaaGreatDoorT1
import Derived.Sort.Grow
import Derived.Laws.Externs
import Derived.Deep.LoopGhost
import Derived.ScopeJumps
import Derived.Below
import Derived.Lib.LaidTab
import Derived.Lib.ItoaNum
import Derived.Deep.Draws
import Derived.ChangeArms
import Derived.ChangeShapes
import Derived.DataReads
import Derived.Laws.FloatArith
import Derived.IntWalk
import Derived.Lib.SlTrimSet
import Derived.Lib.IndexAny
import Derived.Lib.TrailingZeros
import Derived.Lib.Bytealg
set_option linter.unusedVariables false
set_option linter.unusedSimpArgs false
namespace Go.Eng
open Go.RowKit
theorem fx.xW {t t':fx} {l n:List t.El} {m:List t'.El} (h:t.app l t' m=some n):∃e:t'=t,n=l++(e ▸ m):=by
 unfold fx.app at h
 split at h <;> cases h <;> exact ⟨rfl,rfl⟩
section
variable {C:Ctx} {S V:St} {a:Act} {w w':World} {R:Reach} {τ:Nat→Value} {o:Oper} {d:Nat}
def PT (P:Program) (R:Reach) (w:World) (p:Bool) (x0:Value) (st:fx) (n:List st.El) (r:World→Result Value):Prop :=
 ∃v w' R',r w = .ok v w'∧ft R' w' p v (.sl st n)∧dT R w R' w'∧(∀b o,R' b o→R b o∨Value.gR v=some b)∧w'.os=w.os∧w'.tape=w.tape∧w'.output=w.output∧w.heap.size≤w'.heap.size∧(∀b,Value.gR v≠some b→b<w.heap.size→w'.heap[b]?=w.heap[b]?) ∧
  (∀b,Value.gR v=some b→(w.heap.size≤b∨Value.gR x0=some b)∧b<w'.heap.size)∧∀b,Value.gR v=some b→Value.gR x0=some b→∃g cap m,x0 = .slice (some ⟨g,0,none⟩) m cap∧v = .slice (some ⟨g,0,none⟩) n.length cap
theorem Nd {P:Program} {t u ty e:TypeId} {i:TypeInfo} {z:Value} {du:TypeDesc} (gk:∀b o,R b o→b<w.heap.size) (ht:P.underlying t=some (.slice e)) (hi:P.info? e=some i) (hz:i.zero=some z) (Vg:z.cells.size=i.size) (hu:P.underlying u=some du) (xC:∀k,du ≠ .int k)
  {p:Bool} {x0 x:Value} {st:fx} {l m:List st.El} {news:List Value} (hs:i.size=st.size) (h0:ft R w p x0 (.sl st l)) (hx:Source P w st.size x m.length news) (hL:dq R w ((m.map st.tv).flatMap TV.cells) news) (Qs:l.length+m.length≤maxLen) (hb:(l.length+m.length) * i.bytes≤140737488355328) :
  PT P R w p x0 st (l++m) fun w=>(Builtin.append_ #[t,u] ty #[x0,x]).run P w:=by
 rw [←hs] at hx
 have zN:=hx.2.2.1
 have O6:((l++m).map st.tv).flatMap TV.cells=(l.map st.tv).flatMap TV.cells++(m.map st.tv).flatMap TV.cells:=by simp
 have grow:∀(q:Option Addr) (cap:Nat) (ur:List Value),x0 = .slice q l.length cap→cap<l.length+m.length→(∀w':World,w'.heap=w.heap→(Builtin.firstCells i.size l.length (.slice q l.length cap)).run P w' = .ok ⟨ur⟩ w') →
   dq R w ((l.map st.tv).flatMap TV.cells) ur→PT P R w p x0 st (l++m) fun w=>(Builtin.append_ #[t,u] ty #[x0,x]).run P w:=by
  rintro q cap ur rfl Mg ho NM
  have kp:=ra (ty:=ty) ht hi hz hu xC ho hx Mg Qs hb
  have GJ:=grownCap_ge w (l.length+m.length) cap e
  have hle:=grownCap_le_maxLen w (l.length+m.length) cap e Qs
  generalize hG:grownCap w (l.length+m.length) cap e=G at kp GJ hle
  have AN:ur.length=l.length * i.size:=by rw [←NM.length,lL,hs]
  let cur:Array Value:=(⟨ur⟩:Array Value)++⟨news⟩++Builtin.zeroCells z.cells (G - (l.length+m.length))
  let R':Reach:=fun b o=>R b o∨(p=true∧b=w.heap.size∧o<(l.length+m.length) * st.size)
  have hold:∀b,b<w.heap.size→(w.drew.alloc (.cells cur e)).heap[b]?=w.heap[b]?:=fun b hb=>by
   show (w.heap.push _)[b]?=_
   rw [Array.getElem?_push,ao (by omega)]
  have dM:dT R w R' (w.drew.alloc (.cells cur e)):=fun b o hr=>⟨.inl hr,World.cell?_of_block (w:=w) (hold b (gk b o hr))⟩
  have Mq:cur.toList.take ((l++m).length * st.size)=ur++news:=by
   have e1:cur.toList=(ur++news)++(Builtin.zeroCells z.cells (G - (l.length+m.length))).toList:=by simp [cur]
   have e2:(ur++news).length=(l++m).length * st.size:=by rw [aj,aj,AN,zN,hs,Nat.add_mul]
   rw [e1,←e2,List.take_left]
  refine ⟨_,_,R',kp,⟨st,l++m,rfl,.inr ⟨w.heap.size,G,cur,e,(0,0),by rw [aj],?_,fun o _=>by simp,?_,by rw [aj];exact GJ,hle,?_,fun o=>⟨fun hr=>?_,fun hr => .inr ⟨hr.1,rfl,by have:=hr.2;rwa [aj] at this⟩⟩⟩⟩,dM,fun b o hr=>hr.imp id fun e=>by rw [e.2.1];rfl,rfl,rfl,rfl,?_,fun b _ hb=>hold b hb,fun b hb=>?_,fun b hb lr=>?_⟩
  ·show (w.heap.push _)[w.heap.size]?=some _;rw [Array.getElem?_push,au rfl]
  ·simp only [cur,Array.size_append,List.size_toArray,size_zeroCells,Vg,AN,zN,←Nat.add_mul,←hs]
   congr 1;omega
  ·rw [Mq,O6]
   exact (NM.append hL).mono dM
  ·rcases hr with hr | ⟨h1,_,h2⟩
   ·have:=gk _ _ hr;omega
   ·exact ⟨h1,by rwa [aj]⟩
  ·show w.heap.size≤(w.heap.push _).size;simp
  ·cases hb
   exact ⟨.inl (Nat.le_refl _),by show w.heap.size<(w.heap.push _).size;simp⟩
  ·cases hb
   exact absurd (h0.lt lr) (Nat.lt_irrefl _)
 rcases h0.cells with ⟨rfl,rfl⟩ | ⟨g,cap,cur,ce,fz,rfl,hg,hfz,uO,Yt,Jv,NM,hR⟩
 ·by_cases hm:m.length=0
  ·have RO:m=[]:=bf hm
   subst RO
   refine ⟨.slice none 0 0,w,R,?_,h0,dT.refl _ _,fun b o => .inl,rfl,rfl,rfl,Nat.le_refl _,fun _ _ _=>rfl,fun b hb=>(by cases hb),fun b hb=>by cases hb⟩
   obtain ⟨h1,h2,h3,h4⟩:=hx
   have RZ:(match du with | .int _=>true | _=>false)=false:=by cases du <;> first | rfl | exact (xC _ rfl).elim
   have zR:=h2 w rfl
   simp only [aB] at h1 zR
   simp [Builtin.append_,run_underlying ht,run_underlying hu,RZ,sizeOf,typeInfo,hi,h1,zR]
  ·exact grow none 0 [] rfl (by simp;omega) (fun _ _=>rfl) .nil
 ·have AN:(cur.toList.take (l.length * st.size)).length=l.length * i.size:=by rw [←NM.length,lL,hs]
  by_cases wq:l.length+m.length≤cap
  ·have kp:=q9 (ty:=ty) ht hi hu xC hg hfz hx wq (by rw [hs];exact uO)
   have hle:(l.length+m.length) * st.size≤cap * st.size:=av _ wq
   rw [Nat.add_mul] at hle
   rw [hs] at kp zN AN
   have AO:cur.toList.length=cap * st.size:=by simp [uO]
   let cur':Array Value:=(cur.toList.take (l.length * st.size)++news++cur.toList.drop (l.length * st.size+news.length)).toArray
   have O4:∀j,j<l.length * st.size→cur'[j]?=cur[j]?:=fun j hj=>by
    simp only [cur',List.getElem?_toArray,aE]
    rw [List.getElem?_append_left (by rw [AN];exact hj),aU,au hj];simp
   have zQ:∀j,(w.setRow g cur').cell? ⟨g,j,none⟩=cur'[j]?:=fun j=>cell_setRow_same w g j cur cur' ce fz hg
   let R':Reach:=fun b o=>R b o∨(p=true∧b=g∧o<(l.length+m.length) * st.size)
   have dM:dT R w R' (w.setRow g cur'):=fun c o EO=>⟨.inl EO,by
    by_cases Tn:c=g
    ·subst Tn
     rw [zQ,O4 o ((hR o).1 EO).2]
     simp [World.cell?,hg]
    ·exact cell_setRow_other w g cur' ⟨c,o,none⟩ Tn⟩
   have GI:g<w.heap.size:=(Array.getElem?_eq_some_iff.1 hg).1
   have Qc:cur'.toList.take ((l++m).length * st.size)=cur.toList.take (l.length * st.size)++news:=by
    have e2:(cur.toList.take (l.length * st.size)++news).length=(l++m).length * st.size:=by rw [aj,aj,AN,zN,Nat.add_mul]
    show (cur.toList.take (l.length * st.size)++news++_).take _=_
    rw [←e2,List.take_left]
   have sY:cur'.size=cur.size:=by
    simp only [cur',List.size_toArray,aj,AN,aV,AO,zN,←Array.length_toList];omega
   refine ⟨_,_,R',kp,⟨st,l++m,rfl,.inr ⟨g,cap,cur',ce,fz,by rw [aj],setRow_heap w g cur cur' ce fz hg,fun o ho=>hfz o (by rw [←sY];exact ho),by rw [sY];exact uO,by rw [aj];exact wq,Jv,?_,fun o=>⟨fun hr=>?_,fun hr => .inr ⟨hr.1,rfl,by have:=hr.2;rwa [aj] at this⟩⟩⟩⟩,
    dM,fun b o hr=>hr.imp id fun e=>by rw [e.2.1];rfl,rfl,rfl,rfl,by rw [setRow_size];exact Nat.le_refl _,fun b hb _=>setRow_other w g b cur' (fun e=>hb (by rw [e];rfl)),fun b hb=>?_,fun b _ _=>⟨g,cap,l.length,rfl,by rw [aj]⟩⟩
   ·rw [Qc,O6];exact (NM.append hL).mono dM
   ·rcases hr with hr | ⟨h1,_,h2⟩
    ·have:=(hR o).1 hr
     refine ⟨this.1,?_⟩
     rw [aj,Nat.add_mul];omega
    ·exact ⟨h1,by rwa [aj]⟩
   ·cases hb
    exact ⟨.inr rfl,by rw [setRow_size];exact GI⟩
  ·refine grow (some ⟨g,0,none⟩) cap _ rfl (by omega) (fun w' hw=>?_) NM
   rw [hs]
   exact run_firstCells_some (P:=P) w' st.size l.length ⟨g,0,none⟩ l.length cap _ (by rw [AN,hs]) (fun j v hj=>by
    rw [addr_add,Nat.zero_add,World.cell?_of_block (w:=w) (by rw [hw])]
    rw [aU] at hj
    split at hj
    ·simp only [World.cell?,hg];simpa using hj
    ·cases hj)
theorem eI.MA (h:eI C S a w R τ) {k k2:Nat} {v:Value} {x:TV} {g c:Gh} {y:TV} {R':Reach} (hk:C.nt≤k∧(S k).2.own=true∧(S k).2.CK=false) (rG:(S k2).2 = .no∧k2<1000000∧C.nt≤k2) (dM:dT R w R' w') (hn:∀b o,R' b o→R b o∨Value.gR v=some b) (os:w'.os=w.os) (tape:w'.tape=w.tape) (out:w'.output=w.output) (size:w.heap.size≤w'.heap.size)
  (heap:∀b,Value.gR v≠some b→b<w.heap.size→w'.heap[b]?=w.heap[b]?) (hb:∀b,Value.gR v=some b→(w.heap.size≤b∨Value.gR (τ k)=some b)∧b<w'.heap.size)
  (hg:g = .pv∨g = .lv) (new:ji R' w' τ x g v) (hc:c = .zz∨c = .us) (hy:ji R' w' τ y c (τ k)):eI C (cR (cR S k (y,c)) k2 (x,g)) a w' R' (vB τ k2 v):=by
 have nN:k≠k2:=by rintro rfl;rw [rG.1] at hk;cases hk.2.1
 have Ij:g.own=true:=by rcases hg with rfl | rfl <;> rfl
 have Tk:g.df=[]:=by rcases hg with rfl | rfl <;> rfl
 have Jv:c.df=[]:=by rcases hc with rfl | rfl <;> rfl
 have L3:cR (cR S k (y,c)) k2 (x,g) k=(y,c):=by rw [dp _ _ nN,cj]
 have U5:∀j,j≠k→gR τ S j≠none→∀b,gR τ S j=some b→Value.gR v≠some b:=fun j hj _ b GH hv=>by
  rcases (hb b hv).1 with e | e
  ·have:=h.core.lt GH;omega
  ·exact hj (h.core.vn (ib hk.2.1 (xy hk.2.2) e) GH).symm
 have dK:∀b,Value.gR v=some b→C.dK b:=fun b hv=>by
  rcases (hb b hv).1 with e | e
  ·exact .inr (Nat.le_trans h.ext.size e)
  ·exact h.core.dK k b (ib hk.2.1 (xy hk.2.2) e)
 have GN:Core C.nt R' w' C.dK (vB τ k2 v) (cR (cR S k (y,c)) k2 (x,g)):=by
  refine h.core.step (fun j=>j=k∨j=k2) dM (fun j hj=>?_) (fun j b hj GH=>?_) ?_ ?_ ?_ ?_ ?_ ?_ (fun _=>id) ?_ ?_ ?_
  ·have h1:j≠k:=fun e=>hj (.inl e)
   have h2:j≠k2:=fun e=>hj (.inr e)
   exact ⟨by rw [dp _ _ h2,dp _ _ h1],iw _ _ h2⟩
  ·have h1:j≠k:=fun e=>hj (.inl e)
   have:=U5 j h1 (by rw [GH];simp) b GH
   exact ⟨heap b this (h.core.lt GH),fun o hr=>(hn b o hr).resolve_right this⟩
  ·rintro j (rfl | rfl)
   ·rw [L3,iw _ _ nN]
    exact hy.dM (dT.refl _ _) (by rw [Jv];simp) fun b e=>by rcases hc with rfl | rfl <;> cases e
   ·rw [cj,gp]
    exact new.dM (dT.refl _ _) (by rw [Tk];simp) fun _ _=>⟨rfl,fun _=>id⟩
  ·rintro j (rfl | rfl)
   ·exact .inl (iw _ _ nN)
   ·exact .inr (.inr rG.1)
  ·rintro j (rfl | rfl)
   ·rw [L3];right;rcases hc with rfl | rfl <;> simp
   ·rw [cj];right;rcases hg with rfl | rfl <;> simp
  ·rintro j (rfl | rfl)
   ·rw [L3];exact .inl ⟨hk.2.2,by rcases hc with rfl | rfl <;> rfl⟩
   ·rw [cj,rG.1];exact .inl ⟨rfl,by rcases hg with rfl | rfl <;> rfl⟩
  ·rintro j (rfl | rfl) _
   ·exact .inl hk.2.1
   ·exact .inr rG.1
  ·rintro j b (rfl | rfl) GH
   ·have:=(fX GH).1;rw [L3] at this;rcases hc with rfl | rfl <;> cases this
   ·have hv:=(fX GH).2
    rw [gp] at hv
    refine ⟨dK b hv,?_,(hb b hv).1.imp id fun e=>⟨k,.inl rfl,ib hk.2.1 (xy hk.2.2) e⟩⟩
    rintro q (rfl | rfl) hq Vw
    ·have:=(fX Vw).1;rw [L3] at this;rcases hc with rfl | rfl <;> cases this
    ·exact hq rfl
  ·rintro j (rfl | rfl) q hq
   ·rw [L3,Jv] at hq;cases hq
   ·rw [cj,Tk] at hq;cases hq
  ·intro b o hr
   rcases hn b o hr with hr | hr
   ·have:=h.core.re b o hr;omega
   ·exact (hb b hr).2
  ·rintro j (rfl | rfl) hj <;> omega
 refine ⟨h.size,h.defers,GN,fun t ht=>by rw [iw _ _ (by omega)];exact h.tmps t ht,⟨h.io.1,fun j hj=>by rw [iw _ _ (by omega)];exact h.io.2 j hj⟩,h.ext.trans (io':=fun b=>Value.gR v=some b) ⟨os,tape,out,size,fun b lr hv=>heap b hv lr,dM,fun b o hr=>(hn b o hr).imp id .inr⟩ (fun b hv=>dK b hv),h.gl.dM dM⟩
end
end Go.Eng
namespace Go.Eng
open Go.RowKit
section
variable {C:Ctx} {S V:St} {a:Act} {w w':World} {R:Reach} {τ:Nat→Value} {o:Oper} {d:Nat}
theorem eI.Ph (h:eI C S a w R τ) {k2:Nat} {v:Value} {x:TV} {R':Reach} (rG:(S k2).2 = .no∧k2<1000000∧C.nt≤k2) (dM:dT R w R' w') (hn:∀b o,R' b o→R b o∨Value.gR v=some b) (os:w'.os=w.os) (tape:w'.tape=w.tape) (out:w'.output=w.output) (size:w.heap.size≤w'.heap.size)
  (heap:∀b,Value.gR v≠some b→b<w.heap.size→w'.heap[b]?=w.heap[b]?) (hb:∀b,Value.gR v=some b→w.heap.size≤b∧b<w'.heap.size) (new:ji R' w' τ x .pv v):eI C (cR S k2 (x,.pv)) a w' R' (vB τ k2 v):=by
 have Oj:∀b,b<w.heap.size→Value.gR v≠some b:=fun b h1 h2=>by have:=(hb b h2).1;omega
 refine ⟨h.size,h.defers,h.core.ie rG.2.2 dM (fun j b _ GH=>?_) new (.inr rG.1) ⟨by rw [rG.1];rfl,rfl⟩ (by simp) (fun _ => .inr rG.1) (fun b _ hv=>⟨.inr (Nat.le_trans h.ext.size (hb b hv).1),.inl (hb b hv).1⟩) (by simp [Gh.df]) (fun b o hr=>?_),
  fun t ht=>by rw [iw _ _ (by omega)];exact h.tmps t ht,⟨h.io.1,fun j hj=>by rw [iw _ _ (by omega)];exact h.io.2 j hj⟩,
  h.ext.trans (io':=fun b=>Value.gR v=some b) ⟨os,tape,out,size,fun b lr hv=>heap b hv lr,dM,fun b o hr=>(hn b o hr).imp id .inr⟩ (fun b hv => .inr (Nat.le_trans h.ext.size (hb b hv).1)),h.gl.dM dM⟩
 ·have hl:=h.core.lt GH
  exact ⟨heap b (Oj b hl) hl,fun o hr=>(hn b o hr).resolve_right (Oj b hl)⟩
 ·rcases hn b o hr with hr | hr
  ·have:=h.core.re b o hr;omega
  ·exact (hb b hr).2
theorem eI.recover (h:eI C S a w R τ) {k c:Nat} {x:TV} (hk:S k=(x,.pw c)):eI C (cR (cR S k (x,.pv)) c (.dead,.zz)) a w R τ :=
 ⟨h.size,h.defers,by have:=h.core.recover hk;rwa [sQ,sQ] at this,h.tmps,h.io,h.ext,h.gl⟩
variable (h:eI C S a w R τ) (hV:Lt V S)
include h hV
section
variable (hd:o.dst=some d) (hl:d<C.nt)
include hd hl
theorem go_app (hE:jq C.P C.E) {t u:TypeId} {x y:Operand} {st:fx} {pf k k2:Nat} {l m:List st.El} {news:List Value} {du:TypeDesc} {g c:Gh} {z:TV} (ho:o.op = .call { callee := .builtin .append,args:=#[x,y],argTypes:=#[t,u] }) (ht:C.E.ty t=some (st,pf)) (hx:gr C.E C.nt V t x=some (.pt,.fB k)) (hk:S k=(.sl st l,g))
  (hu:C.P.underlying u=some du) (xC:∀k,du ≠ .int k) (uN:Source C.P w st.size (a.eval y) m.length news) (hL:dq R w ((m.map st.tv).flatMap TV.cells) news) (wu:fi (l.length+m.length) pf=true) (rG:(S k2).2 = .no∧k2<1000000∧C.nt≤k2) (hg:(g = .pv∧c = .zz∧z = .dead)∨(g = .lv∧c = .us∧z = .sl st l)) :
  eJ C o a w (cR (cR (cR S k (z,c)) k2 (.sl st (l++m),g)) d (.pt,.fB k2)):=by
 obtain ⟨e,i,zv,h1,h2,h3,h4,h5,h6,h7⟩:=hE.ty _ _ _ ht
 obtain ⟨q1,_,q3⟩:=gz h hV hx
 have hv:a.eval x=τ k:=q1.1
 have hK:=h.core.key k
 rw [hk] at hK
 simp only [fi,af,aA] at wu
 have Ij:g.own=true∧g.CK=false∧g.slot=false:=by rcases hg with ⟨rfl,_⟩ | ⟨rfl,_⟩ <;> exact ⟨rfl,rfl,rfl⟩
 obtain ⟨p,hp,VB⟩:∃p,ft R w p (τ k) (.sl st l)∧∀R w τ x v,ji R w τ x g v=ft R w p v x:=by rcases hg with ⟨rfl,_⟩ | ⟨rfl,_⟩ <;> exact ⟨_,hK,fun _ _ _ _ _=>rfl⟩
 obtain ⟨v,w',R',kp,hs,dM,hn,os,tape,out,size,heap,hb,uP⟩:=Nd (P:=C.P) (ty:=o.type) h.core.re h1 h2 h5 (by rw [h3];exact h6) hu xC h3 hp uN hL wu.1 (by rw [h4];exact wu.2)
 have xA:v.oneCell'=true:=by
  rcases hs.cells with ⟨_,rfl⟩ | ⟨_,_,_,_,_,rfl,_⟩ <;> rfl
 have AM:=h.MA (k:=k) (k2:=k2) (x := .sl st (l++m)) (g:=g) (c:=c) (y:=z) ⟨(q3 k (by simp [Gh.df])).1,by rw [hk];exact ⟨Ij.1,Ij.2.1⟩⟩ rG dM hn os tape out size heap hb (by rcases hg with ⟨rfl,_⟩ | ⟨rfl,_⟩ <;> simp) (by rw [VB];exact hs)
  (by rcases hg with ⟨_,rfl,_⟩ | ⟨_,rfl,_⟩ <;> simp) (by
   rcases hg with ⟨_,rfl,_⟩ | ⟨rfl,rfl,rfl⟩
   ·trivial
   ·exact (ft.rep hK).1.mono dM)
 refine AM.wx (v:=v) hd hl ?_ (g := .fB k2) ⟨(gp _ _ _).symm,xA⟩ rfl fun j hj=>?_
 ·simp only [execOp,ho,hv,Sem.run_bind]
  have:(Builtin.append_ #[t,u] o.type #[τ k,a.eval y]).run C.P w = .ok v w':=kp
  simp [resolve,invoke,builtin,this,hv]
 ·simp only [Gh.df,List.mem_singleton] at hj
  subst hj
  exact ⟨rG.2.2,by rw [cj];rcases hg with ⟨rfl,_⟩ | ⟨rfl,_⟩ <;> simp⟩
theorem go_lend (hE:jq C.P C.E) {t u:TypeId} {x y:Operand} {st:fx} {pf k k2:Nat} {l m:List st.El} {news:List Value} {du:TypeDesc} (ho:o.op = .call { callee := .builtin .append,args:=#[x,y],argTypes:=#[t,u] }) (ht:C.E.ty t=some (st,pf)) (hv:a.eval x=τ k) (Mk:C.nt≤k) (hk:S k=(.sl st l,.pv))
  (hu:C.P.underlying u=some du) (xC:∀k,du ≠ .int k) (uN:Source C.P w st.size (a.eval y) m.length news) (hL:dq R w ((m.map st.tv).flatMap TV.cells) news) (wu:fi (l.length+m.length) pf=true) (rG:(S k2).2 = .no∧k2<1000000∧C.nt≤k2) :
  eJ C o a w (cR (cR (cR S k (.sl st l,.pw k2)) k2 (.sl st (l++m),.pc k)) d (.pt,.fB k2)):=by
 have _:=hV
 obtain ⟨e,i,zv,h1,h2,h3,h4,h5,h6,h7⟩:=hE.ty _ _ _ ht
 have hK:ft R w false (τ k) (.sl st l):=by have:=h.core.key k;rw [hk] at this;exact this
 simp only [fi,af,aA] at wu
 have nN:k2≠k:=by rintro rfl;rw [hk] at rG;cases rG.1
 obtain ⟨v,w',R',kp,hs,dM,hn,os,tape,out,size,heap,hb,uP⟩:=Nd (P:=C.P) (ty:=o.type) h.core.re h1 h2 h5 (by rw [h3];exact h6) hu xC h3 hK uN hL wu.1 (by rw [h4];exact wu.2)
 have xA:v.oneCell'=true:=by
  rcases hs.cells with ⟨_,rfl⟩ | ⟨_,_,_,_,_,rfl,_⟩ <;> rfl
 have AM:=h.MA (k:=k) (k2:=k2) (x := .sl st (l++m)) (g := .pv) (c := .zz) (y := .dead) ⟨Mk,by rw [hk];exact ⟨rfl,rfl⟩⟩ rG dM hn os tape out size heap hb (.inl rfl) hs (.inl rfl) trivial
 have own:∀b,gb (vB τ k2 v) (.pw k2) (τ k)=some b→Value.gR (τ k)=some b∧Value.gR v≠some b:=fun b lr=>by
  simp only [gb,gp] at lr
  split at lr
  ·cases lr
  ·rename_i RI;exact ⟨lr,fun e=>RI (by rw [lr,e])⟩
 have hp:Nq R' w' (vB τ k2 v k) (.sl st l) (vB τ k2 v k2):=by
  rw [gp,iw _ _ (Ne.symm nN)]
  cases GO:Value.gR (τ k) with
  | none=>exact .inl ⟨hK.dM dM fun g hg=>(by rw [GO] at hg;cases hg),.inl GO⟩
  | some b =>
   by_cases Qb:Value.gR v=some b
   ·obtain ⟨g,cap,q,e1,e2⟩:=uP b Qb GO
    refine .inr ⟨st,l,g,cap,_,rfl,?_,e2⟩
    obtain ⟨t2,l2,e3,⟨_,e4⟩ | ⟨g',Sz,_,_,_,e4,_⟩⟩:=hK
    ·rw [e4] at GO;cases GO
    ·cases e3;rw [e1] at e4;cases e4;exact e1
   ·refine .inl ⟨hK.dM dM fun g hg=>?_,.inr (by rw [GO];exact Ne.symm Qb)⟩
    rw [GO] at hg;cases hg
    exact ⟨heap b Qb (hK.lt GO),fun o hr=>(hn b o hr).resolve_right Qb⟩
 have e1:cR (cR S k (.dead,.zz)) k2 (.sl st (l++m),.pv) k=(.dead,.zz):=by rw [dp _ _ (Ne.symm nN),cj]
 have R9:=AM.core.PC (k:=k) (d:=k2) (t:=st) (l:=l) (m:=m) Mk rG.2.2 e1 (cj ..) hp (fun b lr=>by
  rw [iw _ _ (Ne.symm nN)] at lr
  obtain ⟨q1,q2⟩:=own b lr
  have Tf:gR τ S k=some b:=ib (by rw [hk];rfl) (by rw [hk];rfl) q1
  refine ⟨h.core.dK k b Tf,fun j hj=>?_⟩
  by_cases c1:j=k2
  ·rw [c1] at hj
   have:=(fX hj).2
   rw [gp] at this
   exact q2 this
  ·by_cases c2:j=k
   ·rw [c2] at hj;have:=(fX hj).1;rw [e1] at this;cases this
   ·have ej:cR (cR S k (.dead,.zz)) k2 (.sl st (l++m),.pv) j=S j:=by rw [dp _ _ c1,dp _ _ c2]
    have sv:gR τ S j=some b:=by
     unfold gR at hj ⊢
     rw [ej,iw _ _ c1] at hj
     rw [←hj,GX fun q hq=>?_]
     refine (iw _ _ ?_).symm
     rintro rfl
     exact (h.core.inv j q hq).2 rG.1
    exact c2 (h.core.sep _ _ _ sv Tf))
 rw [sQ,sQ] at R9
 have e2:cR (cR (cR (cR S k (.dead,.zz)) k2 (.sl st (l++m),.pv)) k (.sl st l,.pw k2)) k2 (.sl st (l++m),.pc k)=cR (cR S k (.sl st l,.pw k2)) k2 (.sl st (l++m),.pc k):=by
  funext j
  by_cases c1:j=k2
  ·rw [c1,cj,cj]
  ·by_cases c2:j=k
   ·rw [c2,dp _ _ (Ne.symm nN),cj,dp _ _ (Ne.symm nN),cj]
   ·rw [dp _ _ c1,dp _ _ c2,dp _ _ c1,dp _ _ c2,dp _ _ c1,dp _ _ c2]
 rw [e2] at R9
 have RJ:eI C (cR (cR S k (.sl st l,.pw k2)) k2 (.sl st (l++m),.pc k)) a w' R' (vB τ k2 v):=⟨AM.size,AM.defers,R9,AM.tmps,AM.io,AM.ext,AM.gl⟩
 refine RJ.wx (v:=v) hd hl ?_ (g := .fB k2) ⟨(gp _ _ _).symm,xA⟩ rfl fun j hj=>?_
 ·have:(Builtin.append_ #[t,u] o.type #[τ k,a.eval y]).run C.P w = .ok v w':=kp
  simp [execOp,ho,resolve,invoke,builtin,this,hv]
 ·simp only [Gh.df,List.mem_singleton] at hj
  subst hj
  exact ⟨rG.2.2,by rw [cj];simp⟩
theorem go_apn (hE:jq C.P C.E) {t u:TypeId} {x y:Operand} {st:fx} {pf k2:Nat} {m:List st.El} {news:List Value} {du:TypeDesc} (ho:o.op = .call { callee := .builtin .append,args:=#[x,y],argTypes:=#[t,u] }) (ht:C.E.ty t=some (st,pf)) (hx:gr C.E C.nt V t x=some (.nl st,.no))
  (hu:C.P.underlying u=some du) (xC:∀k,du ≠ .int k) (uN:Source C.P w st.size (a.eval y) m.length news) (hL:dq R w ((m.map st.tv).flatMap TV.cells) news) (wu:fi m.length pf=true) (rG:(S k2).2 = .no∧k2<1000000∧C.nt≤k2) :
  eJ C o a w (cR (cR S k2 (.sl st m,.pv)) d (.pt,.fB k2)):=by
 obtain ⟨e,i,zv,h1,h2,h3,h4,h5,h6,h7⟩:=hE.ty _ _ _ ht
 have hv:a.eval x = .slice none 0 0:=by
  have:=eC h hV hx
  generalize a.eval x=v at this ⊢
  cases this with
  | sc h=>cases h
  | nl=>rfl
 simp only [fi,af,aA] at wu
 obtain ⟨v,w',R',kp,hs,dM,hn,os,tape,out,size,heap,hb,uP⟩:=Nd (P:=C.P) (ty:=o.type) (p:=false) (x0 := .slice none 0 0) (l:=[]) h.core.re h1 h2 h5 (by rw [h3];exact h6) hu xC h3 ⟨st,[],rfl,.inl ⟨rfl,rfl⟩⟩ uN hL (by simpa using wu.1) (by rw [h4];simpa using wu.2)
 have xA:v.oneCell'=true:=by
  rcases hs.cells with ⟨_,rfl⟩ | ⟨_,_,_,_,_,rfl,_⟩ <;> rfl
 refine (h.Ph (x := .sl st m) rG dM hn os tape out size heap (fun b hv=>⟨(hb b hv).1.resolve_right (by simp [Value.gR]),(hb b hv).2⟩) hs).wx (v:=v) hd hl ?_ (g := .fB k2) ⟨(gp _ _ _).symm,xA⟩ rfl fun j hj=>?_
 ·have:(Builtin.append_ #[t,u] o.type #[.slice none 0 0,a.eval y]).run C.P w = .ok v w':=kp
  simp [execOp,ho,resolve,invoke,builtin,this,hv]
 ·simp only [Gh.df,List.mem_singleton] at hj
  subst hj
  exact ⟨rG.2.2,by rw [cj];simp⟩
theorem go_psl {t:TypeId} {x y:Operand} {st:fx} {k k2:Nat} {l:List st.El} {n:Int} (hE:jq C.P C.E) (ho:o.op = .slice t x none (some y) none) (ht:sF C.E t st=true) (hx:gr C.E C.nt V t x=some (.pt,.fB k)) (hk:S k=(.sl st l,.pv)) (hy:mF C.E C.nt V (some y)=some (some n)) (hc:gY 0 n l.length=true)
  (rG:(S k2).2 = .no∧k2<1000000∧C.nt≤k2):eJ C o a w (cR (cR (cR S k (.dead,.zz)) k2 (.sl st (l.take n.toNat),.pv)) d (.pt,.fB k2)):=by
 obtain ⟨e,inf,ht,qM,hz⟩:=oW hE ht
 obtain ⟨q1,_,q3⟩:=gz h hV hx
 have hv:a.eval x=τ k:=q1.1
 have hK:=h.core.key k
 rw [hk] at hK
 have hb:=fun cap uP=>bounds h hV (lo:=none) (p:=none) rfl hy hc true (cap:=cap) uP (fun e=>by cases e)
 simp only [Option.getD_some,Option.getD_none] at hb
 obtain ⟨_,_,SS⟩:=hb l.length (Nat.le_refl _)
 generalize hu:n.toNat=u at *
 have gk:(l.take u).length=u:=by rw [aF];omega
 have fin:∀v,(execOp a.eval o).run C.P w = .ok (.value v) w→ft R w false v (.sl st (l.take u))→(∀b,Value.gR v=some b→Value.gR (τ k)=some b)→v.oneCell'=true→eJ C o a w (cR (cR (cR S k (.dead,.zz)) k2 (.sl st (l.take u),.pv)) d (.pt,.fB k2)):=fun v kp hs hb xA=>by
  have AM:=h.MA (w':=w) (R':=R) (k:=k) (k2:=k2) (v:=v) (x := .sl st (l.take u)) (g := .pv) (c := .zz) (y := .dead) ⟨(q3 k (by simp [Gh.df])).1,by rw [hk];exact ⟨rfl,rfl⟩⟩ rG (dT.refl _ _) (fun _ _ => .inl) rfl rfl rfl (Nat.le_refl _) (fun _ _ _=>rfl) (fun b lr=>⟨.inr (hb b lr),hs.lt lr⟩) (.inl rfl) hs (.inl rfl) trivial
  refine AM.wx (v:=v) hd hl kp (g := .fB k2) ⟨(gp _ _ _).symm,xA⟩ rfl fun j hj=>?_
  simp only [Gh.df,List.mem_singleton] at hj
  subst hj
  exact ⟨rG.2.2,by rw [cj];simp⟩
 rcases ft.cells hK with ⟨rfl,e1⟩ | ⟨g,cap,cur,ce,fz,e1,e2,e3,e4,e5,e6,e7,e8⟩
 ·obtain rfl:u=0:=by simpa using SS
  have pE:=(hb 0 (by simp)).1
  simp only [aB] at pE
  refine fin (.slice none 0 0) ?_ ⟨st,[],rfl,.inl ⟨rfl,rfl⟩⟩ (fun b hb=>by cases hb) rfl
  simp only [execOp,ho,hv,e1,Instr.sliceAt,Instr.slice,Sem.run_bind,run_underlying ht,Result.andThen_ok,Option.map_none,Option.map_some,run_sizeOf qM,Sem.run_pure]
  simp at pE
  simp [pE]
 ·have pE:=(hb cap e5).1
  refine fin (.slice (some ⟨g,0,none⟩) u cap) ?_ ⟨st,l.take u,rfl,.inr ⟨g,cap,cur,ce,fz,by rw [gk],e2,e3,e4,by omega,e6,?_,fun o=>⟨fun hr=>by simpa using (e8 o).1 hr,fun hr=>by simp at hr⟩⟩⟩ (fun b hb=>by rw [e1];exact hb) rfl
  ·simp only [execOp,ho,hv,e1,Instr.sliceAt,Instr.slice,Sem.run_bind,run_underlying ht,Result.andThen_ok,Option.map_none,Option.map_some,run_sizeOf qM,Sem.run_pure]
   simp at pE
   simp [pE,addr_add]
  ·rw [gk]
   have:((l.take u).map st.tv).flatMap TV.cells=((l.map st.tv).flatMap TV.cells).take (u * st.size):=by
    have e:=congrArg (fun m:List st.El=>(m.map st.tv).flatMap TV.cells) (List.take_append_drop u l)
    simp only [List.map_append,List.flatMap_append] at e
    rw [←e,show u * st.size=(((l.take u).map st.tv).flatMap TV.cells).length by rw [lL,gk],List.take_left]
   rw [this]
   have hle:u * st.size≤l.length * st.size:=av _ SS
   have:=e7.take (u * st.size)
   rwa [List.take_take,Nat.min_eq_left hle] at this
end
theorem go_stt (hd:o.dst=none) {x v:Operand} {t:TypeId} {inf:TypeInfo} {m q k:Nat} {cs:List TV} {ts:List (Nat × Nat)} (ho:o.op = .store t x v) (hi:C.P.info? t=some inf) (hn:inf.size=1) (hx:gr C.E C.nt V 0 x=some (.pt,.ptr m q)) (hm:S m=(.ag cs,.cl ts)) (hv:gr C.E C.nt V t v=some (.pt,.fB k)) (lD:q<cs.length) (nN:k≠m) (NA:∀t∈ts,t.2≠m) :
  eJ C o a w (cR S m (.ag (gI cs q [.pt]),.cl ((q,k) :: Cl q 1 ts))):=by
 obtain ⟨q1,_,q3⟩:=gz h hV hv
 have e1:a.eval v=τ k:=q1.1
 have e2:(a.eval v).oneCell'=true:=q1.2
 have e3:(a.eval v).cells.toList=[a.eval v]:=vT e2
 refine go_st' h hV hd ho hi hx hm (qs:=[.pt]) (by rw [e3];exact .cons e2 (.pt _) .nil) (by simp [hn]) (by omega) fun u hu=>?_
 rcases aP.1 hu with rfl | hu
 ·exact ⟨nN,.inr ⟨(q3 k (by simp [Gh.df])).1,(q3 k (by simp [Gh.df])).2,Nat.le_refl _,by rw [e3,e1];simp⟩⟩
 ·obtain ⟨h1,h2⟩:=vM hu
  rw [hn]
  exact ⟨NA u h1,.inl ⟨h1,h2⟩⟩
theorem go_sto (hd:o.dst=none) {x v:Operand} {t:TypeId} {inf:TypeInfo} {m:Nat} {cs xs:List TV} {ts us:List (Nat × Nat)} (ho:o.op = .store t x v) (hi:C.P.info? t=some inf) (hx:gr C.E C.nt V 0 x=some (.pt,.ptr m 0)) (hm:S m=(.ag cs,.cl ts)) (hv:gr C.E C.nt V t v=some (.ag xs,.ow us)) (hn:xs.length=inf.size) (lD:inf.size=cs.length) (Vo:∀t∈us,t.2≠m) :
  eJ C o a w (cR S m (.ag xs,.cl us)):=by
 obtain ⟨q1,_,q3⟩:=gz h hV hv
 obtain ⟨ys,vs,e1,e2,e3,e4⟩:∃ys vs,a.eval v = .agg ⟨ys⟩∧TV.ag xs = .ag vs∧dq R w vs ys∧∀p∈us,ys[p.1]?=some (τ p.2):=q1
 cases e2
 have e5:(a.eval v).cells.toList=ys:=by rw [e1];rfl
 have:=go_st' h hV hd ho hi hx hm (qs:=xs) (us:=us) (by rw [e5];exact e3) hn (by omega) fun u hu=>⟨Vo u hu,.inr ⟨(q3 u.2 (List.mem_map_of_mem (f:=(·.2)) hu)).1,(q3 u.2 (List.mem_map_of_mem (f:=(·.2)) hu)).2,Nat.zero_le _,by rw [e5,Nat.sub_zero];exact e4 u hu⟩⟩
 have e6:gI cs 0 xs=xs:=by simp [gI,hn,lD]
 rwa [e6] at this
end
end Go.Eng
namespace Go.Eng
open Go.RowKit
def o0 (P:Program) (f:Nat):Bool:=(P.funcs[f]?).any fun fn=>fn.body.isSome&&!(fn.name == "runtime.NumGoroutine")
def Om:Nat→Value:=fun _=>undef
def Dh (R:Reach) (w:World) (m:Md) (x:TV) (v:Value):Prop :=
 match m with
 | .pl=>Rep R w x v
 | .rf=>wT R w Om v x []
 | _=>ft R w false v x
def yb (R:Reach) (w:World) (ms:List Md) (ins:List TV) (xs:List Value):Prop:=ins.length=xs.length∧∀i x v,ins[i]?=some x→xs[i]?=some v→Dh R w (ms.getD i .pl) x v
def Nl (p:Md→Prop) (ms:List Md) (xs:List Value):Prop:=∀i j v v' b,p (ms.getD i .pl)→p (ms.getD j .pl)→xs[i]?=some v→xs[j]?=some v'→Value.gR v=some b→Value.gR v'=some b→i=j
def yd (ms:List Md) (xs:List Value) (b:Nat):Prop:=∃i v,ms.getD i .pl ≠ .pl∧xs[i]?=some v∧Value.gR v=some b
def Md.D2 (m:Md):Prop:=m ≠ .pl∧m ≠ .gv
def H8 (R:Reach) (w:World) (m:Md) (y:TV) (v:Value):Prop :=
 match m with
 | .rf=>wT R w Om v y []
 | .sl=>ft R w false v y
 | .sm=>ft R w false v y
 | _=>True
def nC (vs:List Value) (i:Nat):Option Value:=cond (Nat.blt i 1000) (vs[i]?) (match vs[0]? with | some (Value.agg cs)=>cs.toList[i - 1000]? | _=>none)
structure ya (sg:bW) (R:Reach) (w:World) (dK:Nat→Prop) (ins:List TV) (xs:List Value) (outs:List TV) (x:Value) (mo:List Value) (ys:List TV):Prop where
 len:mo.length=sg.fh
 le:sg.fh≤outs.length
 val:x=if sg.fh=1 then mo.headD undef else .tuple ⟨mo⟩
 rep:iv R w (pJ sg.own (outs.take sg.fh)) mo
 own:∀i∈sg.own,∀v y,nC mo i=some v→po outs i=some y→ft R w false v y
 back:kE sg.md ins (outs.drop sg.fh)=some ys
 Pw:∀i y v,ys[i]?=some y→xs[i]?=some v→H8 R w (sg.md.getD i .pl) y v
 dK:∀i∈sg.own,∀v b,nC mo i=some v→Value.gR v=some b→dK b
 Q3:∀(j j' i i':Nat) (v v':Value) (b:Nat),sg.own[j]?=some i→sg.own[j']?=some i'→nC mo i=some v→nC mo i'=some v'→Value.gR v=some b→Value.gR v'=some b→j=j'
 Q2:∀i∈sg.own,∀v b,nC mo i=some v→Value.gR v=some b→∀q u,(sg.md.getD q .pl).D2→xs[q]?=some u→Value.gR u≠some b
def bC (P:Program) (gl:Nat→Option (List Value)) (f:Nat) (c:eu × bW):Prop :=
 ∀ins outs,(c.1 ins).holds outs→o0 P f=true∧∀w R xs,(∀b o,R b o→b<w.heap.size)→GlOK gl R w→yb R w c.2.md ins xs→Nl (· ≠ .pl) c.2.md xs →
  Calls P f ⟨xs⟩ w fun e w'=>∃x R' mo ys,e = .returned x∧Ext w R (yd c.2.md xs) w' R'∧(∀b o,R' b o→b<w'.heap.size)∧ya c.2 R' w' (fun b=>yd c.2.md xs b∨w.heap.size≤b) ins xs outs x mo ys
def KX (V:St) (R:Reach) (w:World) (τ:Nat→Value) (m:Md) (c:Cell) (x:TV) (v:Value):Prop :=
 match m with
 | .pl=>Rep R w x v
 | .rf=>∃k cs ts b ys e xs,c=(.pt,.ptr k 0)∧V k=(.ag cs,.cl ts)∧v=τ k∧τ k = .pointer (some ⟨b,0,none⟩)∧w.heap[b]?=some (.cells ⟨ys⟩ e (0,0))∧x = .ag xs∧dq R w xs ys
 | m=>(∃k g,c=(.pt,.fB k)∧V k=(x,g)∧(g = .pv∨(m = .sm∧∃r,g = .pc r))∧v=τ k)∨((m = .sm∨m = .gv)∧∃t,c=(.nl t,.no)∧x = .sl t []∧v = .slice none 0 0)
theorem KX.mono {V:St} {R R':Reach} {w:World} {τ:Nat→Value} {m:Md} {c:Cell} {x:TV} {v:Value} (h:KX V R w τ m c x v) (k:dT R w R' w):KX V R' w τ m c x v:=by
 cases m <;> simp only [KX] at h ⊢ <;> first | exact h.mono k | exact h | skip
 obtain ⟨q,cs,ts,b,ys,e,xs,h1,h2,h3,h4,h5,h6,h7⟩:=h
 exact ⟨q,cs,ts,b,ys,e,xs,h1,h2,h3,h4,h5,h6,h7.mono k⟩
inductive qK (V:St) (R:Reach) (w:World) (τ:Nat→Value):List Md→List Cell→List TV→List Value→Prop
 | nil (ms:List Md):qK V R w τ ms [] [] []
 | cons {ms:List Md} {c:Cell} {x:TV} {v:Value} {cs:List Cell} {xs:List TV} {vs:List Value}:KX V R w τ (ms.headD .pl) c x v→qK V R w τ ms.tail cs xs vs→qK V R w τ ms (c :: cs) (x :: xs) (v :: vs)
theorem qK.mono {V:St} {R R':Reach} {w:World} {τ:Nat→Value} (k:dT R w R' w):∀{ms:List Md} {cs:List Cell} {xs:List TV} {vs:List Value},qK V R w τ ms cs xs vs→qK V R' w τ ms cs xs vs
 | _,_,_,_,.nil _ => .nil _
 | _,_,_,_,.cons a b => .cons (a.mono k) (qK.mono k b)
theorem qK.len {V:St} {R:Reach} {w:World} {τ:Nat→Value}:∀{ms:List Md} {cs:List Cell} {xs:List TV} {vs:List Value},qK V R w τ ms cs xs vs→xs.length=vs.length∧cs.length=vs.length
 | _,_,_,_,.nil _=>⟨rfl,rfl⟩
 | _,_,_,_,.cons _ b=>by obtain ⟨h1,h2⟩:=qK.len b;simp [h1,h2]
theorem Ek {ms:List Md} {i:Nat}:ms.tail.getD i .pl=ms.getD (i+1) .pl:=by cases ms <;> rfl
theorem Em {ms:List Md}:ms.headD .pl=ms.getD 0 .pl:=by cases ms <;> rfl
theorem qK.get {V:St} {R:Reach} {w:World} {τ:Nat→Value}:∀{ms:List Md} {cs:List Cell} {xs:List TV} {vs:List Value},qK V R w τ ms cs xs vs→∀(i:Nat) (v:Value),vs[i]?=some v→∃c x,cs[i]?=some c∧xs[i]?=some x∧KX V R w τ (ms.getD i .pl) c x v
 | _,_,_,_,.nil _,i,v,h=>by simp at h
 | _,_,_,_,.cons a b,0,v,h=>by cases h;exact ⟨_,_,rfl,rfl,by rw [←Em];exact a⟩
 | _,_,_,_,.cons a b,i+1,v,h=>by
  obtain ⟨c,x,h1,h2,h3⟩:=qK.get b i v (by simpa using h)
  exact ⟨c,x,by simpa using h1,by simpa using h2,by rw [←Ek];exact h3⟩
section
variable {nt:Nat} {R:Reach} {w:World} {dK:Nat→Prop} {τ:Nat→Value} {S V:St}
theorem JX (h:Core nt R w dK τ S) (hV:Lq V S) {m:Md} {c:Cell} {v:Value} {x:TV} {ws:List (Nat × Cell)} (hs:dS R w τ c.1 c.2 v) (hc:∀k∈c.2.df,nt≤k) (he:Nc V m c=some (x,ws)) :
  ∃R',Core nt R' w dK τ (fo S ws)∧Fz dK R w R'∧KX V R' w τ m c x v∧Lq V (fo S ws):=by
 have fB:∀{m:Md} {k:Nat} {g:Gh},m ≠ .pl→m ≠ .rf→c=(.pt,.fB k)→ws=[]→V k=(x,g)→(g = .pv∨(m = .sm∧∃r,g = .pc r))→∃R',Core nt R' w dK τ (fo S ws)∧Fz dK R w R'∧KX V R' w τ m c x v∧Lq V (fo S ws):=by
  rintro m k g h1 h2 rfl rfl hk hg
  have:v=τ k:=hs.1
  refine ⟨R,h,Fz.refl _ _ _,?_,hV⟩
  cases m <;> first | exact (h1 rfl).elim | exact (h2 rfl).elim | exact .inl ⟨k,g,rfl,hk,hg,this⟩
 unfold Nc at he
 split at he
 ·obtain ⟨R',h1,h2,h3,h4⟩:=xI h hV hs hc he
  exact ⟨R',h1,h2,h3,h4⟩
 ·rename_i k
  split at he
  ·rename_i cs ts hk
   split at he
   ·rename_i xS PU hf
    cases he
    have e:S k=(.ag cs,.cl ts):=by
     rcases hV k with e | e | ⟨e,_⟩
     ·rw [←e,hk]
     ·rw [hk] at e;cases e
     ·rw [hk] at e;cases e
    have hK:=h.key k
    rw [e] at hK
    obtain ⟨b,ys,el,xs,h1,h2,h3,h4,h5,h6⟩:=hK
    cases h3
    obtain ⟨b',p1,hv⟩:∃b,τ k = .pointer (some ⟨b,0,none⟩)∧v = .pointer (some ⟨b,0,none⟩):=hs
    obtain ⟨R',f1,f2,f3,f4,_⟩:=ng h hV h4 (fun t ht=>⟨by
     have:=h.inv k t.2
     rw [e] at this
     exact (this (List.mem_map_of_mem (f:=(·.2)) ht)).1,h5 t ht⟩) hf
    exact ⟨R',f1,f2,⟨k,cs,ts,b,ys,el,_,rfl,hk,by rw [hv,p1],h1,h2,rfl,oE f3⟩,f4⟩
   ·cases he
  ·cases he
 ·cases he
 ·rename_i k n1 _
  split at he
  ·rename_i y hk
   cases he
   exact fB (by intro e;subst e;simp_all) (by intro e;subst e;simp_all) rfl rfl (by assumption) (.inl rfl)
  ·rename_i y r hk
   cases he
   exact fB (by simp) (by simp) rfl rfl (by assumption) (.inr ⟨rfl,_,rfl⟩)
  ·cases he
 ·rename_i t
  cases he
  refine ⟨R,h,Fz.refl _ _ _,.inr ⟨.inl rfl,t,rfl,rfl,?_⟩,hV⟩
  have:Rep R w (.nl t) v:=jF.rep hs
  cases this with
  | sc h=>cases h
  | nl=>rfl
 ·rename_i t
  cases he
  refine ⟨R,h,Fz.refl _ _ _,.inr ⟨.inr rfl,t,rfl,rfl,?_⟩,hV⟩
  have:Rep R w (.nl t) v:=jF.rep hs
  cases this with
  | sc h=>cases h
  | nl=>rfl
 ·cases he
theorem Az:∀{cs:List Cell} {ms:List Md} {R:Reach} {S:St} {vs:List Value} {xs:List TV} {ws:List (Nat × Cell)},Core nt R w dK τ S→Lq V S→Cells R w τ nt cs vs→AA V ms cs=some (xs,ws) →
  ∃R',Core nt R' w dK τ (fo S ws)∧Fz dK R w R'∧qK V R' w τ ms cs xs vs∧Lq V (fo S ws)
 | [],ms,R,S,_,_,_,h,hV,.nil,he=>by cases he;exact ⟨R,h,Fz.refl _ _ _,.nil _,hV⟩
 | c :: cs,ms,R,S,_,_,_,h,hV,.cons a b t,he=>by
  simp only [AA] at he
  split at he
  ·rename_i x ws e1
   split at he
   ·rename_i xs us e2
    cases he
    obtain ⟨R1,h1,k1,r1,q1⟩:=Az h hV t e2
    obtain ⟨R2,h2,k2,r2,q2⟩:=JX h1 q1 (a.dM k1.1 fun _ _=>rfl) b e1
    rw [jv]
    exact ⟨R2,h2,k1.trans k2,.cons r2 (r1.mono k2.1),q2⟩
   ·cases he
  ·cases he
theorem xh:∀{l:List (Nat × Cell)} {S:St} {k:Nat} {x:Cell},(k,x)∈l→(∀y,(k,y)∈l→y=x)→fo S l k=x
 | (j,y) :: l,S,k,x,h,hu=>by
  simp only [fo]
  by_cases e:k=j
  ·subst e
   rw [cj]
   exact hu y (List.mem_cons_self ..)
  ·rw [dp _ _ e]
   rcases aP.1 h with h | h
   ·cases h;exact (e rfl).elim
   ·exact xh h fun y hy=>hu y (List.mem_cons_of_mem _ hy)
theorem pj {V:St}:∀{ms:List Md} {cs:List Cell} {ys:List TV} {p:Nat × Cell},p∈ig V ms cs ys→∃i c y,cs[i]?=some c∧ys[i]?=some y∧i<ms.length∧lu V (ms.getD i .pl) c y=some p
 | m :: ms,c :: cs,y :: ys,p,h=>by
  simp only [ig] at h
  split at h
  ·rename_i q e
   rcases aP.1 h with rfl | h
   ·exact ⟨0,c,y,rfl,rfl,by simp,e⟩
   ·obtain ⟨i,c',y',h1,h2,h3,h4⟩:=pj h
    exact ⟨i+1,c',y',by simpa using h1,by simpa using h2,by simpa using h3,h4⟩
  ·obtain ⟨i,c',y',h1,h2,h3,h4⟩:=pj h
   exact ⟨i+1,c',y',by simpa using h1,by simpa using h2,by simpa using h3,h4⟩
 | [],_,_,_,h=>by simp [ig] at h
 | _ :: _,[],_,_,h=>by simp [ig] at h
 | _ :: _,_ :: _,[],_,h=>by simp [ig] at h
theorem mY {V:St}:∀{ms:List Md} {cs:List Cell} {ys:List TV} {p:Nat × Cell} {i:Nat} {c:Cell} {y:TV},cs[i]?=some c→ys[i]?=some y→i<ms.length→lu V (ms.getD i .pl) c y=some p→p∈ig V ms cs ys
 | m :: ms,c :: cs,y :: ys,p,0,_,_,h1,h2,_,h4=>by
  cases h1;cases h2
  simp only [ig]
  have:lu V m c y=some p:=h4
  rw [this];exact List.mem_cons_self ..
 | m :: ms,c :: cs,y :: ys,p,i+1,_,_,h1,h2,h3,h4=>by
  have:=mY (ms:=ms) (cs:=cs) (ys:=ys) (i:=i) (by simpa using h1) (by simpa using h2) (by simpa using h3) h4
  simp only [ig]
  split
  ·exact List.mem_cons_of_mem _ this
  ·exact this
 | [],_,_,_,_,_,_,_,_,h,_=>by simp at h
 | _ :: _,[],_,_,_,_,_,h,_,_,_=>by simp at h
 | _ :: _,_ :: _,[],_,_,_,_,_,h,_,_=>by simp at h
theorem Ae {k:Nat} {x:Cell} {l:List (Nat × Cell)} (h:xR ((k,x) :: l)=true) {p:Nat × Cell} (hp:p∈l):p.1≠k:=by
 simp only [xR,af,aD] at h
 have:=h.1 p hp
 intro e
 rw [e] at this
 simp at this
theorem EB {p:Nat × Cell} {l:List (Nat × Cell)} (h:xR (p :: l)=true):xR l=true:=by
 obtain ⟨k,x⟩:=p
 simp only [xR,af] at h;exact h.2
theorem xQ {V:St}:∀{ms:List Md} {cs:List Cell} {ys:List TV} {k i j:Nat} {c c':Cell} {y y':TV} {x x':Cell},xR (ig V ms cs ys)=true→cs[i]?=some c→ys[i]?=some y→i<ms.length→lu V (ms.getD i .pl) c y=some (k,x) →
  cs[j]?=some c'→ys[j]?=some y'→j<ms.length→lu V (ms.getD j .pl) c' y'=some (k,x')→i=j
 | m :: ms,c :: cs,y :: ys,k,0,0,_,_,_,_,_,_,_,_,_,_,_,_,_,_,_=>rfl
 | m :: ms,c :: cs,y :: ys,k,0,j+1,_,_,_,_,_,_,hd,h1,h2,h3,h4,k1,k2,k3,k4=>by
  cases h1;cases h2
  have e:lu V m c y=some (k,_):=h4
  simp only [ig,e] at hd
  exact (Ae hd (mY (by simpa using k1) (by simpa using k2) (by simpa using k3) k4) rfl).elim
 | m :: ms,c :: cs,y :: ys,k,i+1,0,_,_,_,_,_,_,hd,h1,h2,h3,h4,k1,k2,k3,k4=>by
  cases k1;cases k2
  have e:lu V m c y=some (k,_):=k4
  simp only [ig,e] at hd
  exact (Ae hd (mY (by simpa using h1) (by simpa using h2) (by simpa using h3) h4) rfl).elim
 | m :: ms,c :: cs,y :: ys,k,i+1,j+1,_,_,_,_,_,_,hd,h1,h2,h3,h4,k1,k2,k3,k4=>by
  have ER:xR (ig V ms cs ys)=true:=by
   simp only [ig] at hd
   split at hd
   ·exact EB hd
   ·exact hd
  rw [xQ ER (by simpa using h1) (by simpa using h2) (by simpa using h3) h4 (by simpa using k1) (by simpa using k2) (by simpa using k3) k4]
 | [],_,_,_,_,_,_,_,_,_,_,_,_,_,_,h,_,_,_,_,_=>by simp at h
 | _ :: _,[],_,_,_,_,_,_,_,_,_,_,_,h,_,_,_,_,_,_,_=>by simp at h
 | _ :: _,_ :: _,[],_,_,_,_,_,_,_,_,_,_,_,h,_,_,_,_,_,_=>by simp at h
theorem zf {nt:Nat} {own:Nat→Nat}:∀{l:List Nat} {j:Nat} {outs:List TV} {ns:List (Nat × Cell)},I9 nt own V l j outs=some ns →
  (∀p∈ns,∃q i y,l[q]?=some i∧p=(own (j+q),(y,.pv))∧po outs i=some y∧rr nt V (own (j+q))=true)∧(∀q i,l[q]?=some i→∃y,po outs i=some y∧(own (j+q),(y,.pv))∈ns∧rr nt V (own (j+q))=true)
 | [],j,outs,ns,h=>by cases h;exact ⟨by simp,by simp⟩
 | i :: l,j,outs,ns,h=>by
  simp only [I9] at h
  split at h
  ·rename_i x hx
   obtain ⟨h1,h2⟩:=bE.1 h
   rw [aM] at h2
   obtain ⟨Ye,h2,rfl⟩:=h2
   obtain ⟨k1,k2⟩:=zf h2
   refine ⟨fun p hp=>?_,fun q i' hq=>?_⟩
   ·rcases aP.1 hp with rfl | hp
    ·exact ⟨0,i,x,rfl,rfl,hx,h1⟩
    ·obtain ⟨q,i',y,e1,e2,e3,e4⟩:=k1 p hp
     rw [show j+1+q=j+(q+1) by omega] at e2 e4
     exact ⟨q+1,i',y,by simpa using e1,e2,e3,e4⟩
   ·cases q with
    | zero=>cases hq;exact ⟨x,hx,List.mem_cons_self ..,h1⟩
    | succ q =>
     obtain ⟨y,e1,e2,e3⟩:=k2 q i' (by simpa using hq)
     rw [show j+1+q=j+(q+1) by omega] at e2 e3
     exact ⟨y,e1,List.mem_cons_of_mem _ e2,e3⟩
  ·cases h
theorem I1 {R:Reach} {w:World} {l:List Nat} {outs:List TV} {mo:List Value} {i:Nat} {y:TV} (h:iv R w (pJ l outs) mo) (hi:i∈l) (hy:po outs i=some y):∃v,nC mo i=some v:=by
 unfold po at hy
 unfold nC
 cases hb:Nat.blt i 1000 with
 | true =>
  rw [hb,ah] at hy
  simp only [ah]
  have hl:=h.length
  have:(pJ l outs).length=outs.length:=by unfold pJ;cases kI l <;> simp
  have gk:=(aH.1 hy).1
  exact ⟨_,ar (by omega)⟩
 | false =>
  rw [hb,ae] at hy
  simp only [ae]
  have hs:kI l=false:=by
   cases hs:kI l with
   | false=>rfl
   | true=>have:=aD.1 hs i hi;rw [hb] at this;cases this
  unfold pJ at h
  rw [hs,ae] at h
  match outs,hy with
  | .ag cs :: r,hy =>
   simp only [List.getElem?_cons_zero] at hy
   simp only [aX,P0] at h
   cases h with
   | cons h1 h2 =>
    cases h1 with
    | sc e=>cases e
    | @ag _ ys hL =>
     have hl:=hL.length
     simp only [List.length_mapIdx] at hl
     have gk:=(aH.1 hy).1
     exact ⟨_,ar (l:=ys) (by simpa using (by omega:i - 1000<ys.length))⟩
theorem vQ {outs:List TV} {n i:Nat} {y:TV} (h:po (outs.take n) i=some y):po outs i=some y:=by
 unfold po at h ⊢
 have t:∀j x,(outs.take n)[j]?=some x→outs[j]?=some x:=fun j x hj=>by
  rw [aU] at hj
  split at hj
  ·exact hj
  ·cases hj
 cases hb:Nat.blt i 1000 with
 | true=>rw [hb,ah] at h;rw [ah];exact t _ _ h
 | false =>
  rw [hb,ae] at h
  rw [ae]
  split at h
  ·rename_i cs e;rw [t _ _ e];exact h
  ·cases h
end
end Go.Eng
namespace Go.Eng
open Go.RowKit
theorem wR:∀{ms:List Md} {ins outs ys:List TV},kE ms ins outs=some ys→ys.length=ms.length
 | [],_,_,_,h=>by
  simp only [kE] at h
  obtain ⟨_,h⟩:=bE.1 h
  cases h;rfl
 | m :: ms,ins,outs,ys,h=>by
  have key:∀{y:TV} {ins outs:List TV},(kE ms ins outs).map (y :: ·)=some ys→ys.length=(m :: ms).length:=fun h=>by
   rw [aM] at h
   obtain ⟨zs,h1,rfl⟩:=h
   simp [wR h1]
  unfold kE at h
  split at h <;> first | (rename_i e;cases e;exact key h) | (rename_i e _;cases e;exact key h) | (rename_i e _ _;cases e;exact key h) | (cases h;done) | skip
  all_goals simp_all
theorem Ay:∀{ms:List Md} {ins outs ys:List TV} {i:Nat},kE ms ins outs=some ys→ms.getD i .pl = .sm→ys[i]?=ins[i]?
 | [],_,_,_,i,_,h=>by simp at h
 | m :: ms,ins,outs,ys,i,h,hm=>by
  have key:∀{y z:TV} {LR Kh:List TV},ins=z :: LR→(kE ms LR Kh).map (y :: ·)=some ys→(m = .sm→y=z)→ys[i]?=ins[i]?:=fun {y z LR Kh} e h hy=>by
   rw [aM] at h
   obtain ⟨zs,h1,rfl⟩:=h
   subst e
   cases i with
   | zero=>simp at hm ⊢;exact hy hm
   | succ i=>simp at hm ⊢;exact Ay h1 (by simpa using hm)
  unfold kE at h
  split at h <;> first | (rename_i e;cases e;exact key rfl h (by simp)) | (rename_i e _;cases e;exact key rfl h (by simp)) | (rename_i e _ _;cases e;exact key rfl h (by simp)) | (cases h;done) | skip
  all_goals simp_all
theorem yY (l:List TV):pJ [] l=l:=by
 unfold pJ
 simp only [kI,List.all_nil,ah]
 apply List.ext_getElem?
 intro i
 rw [List.getElem?_mapIdx]
 cases l[i]? <;> rfl
theorem ft.one {R:Reach} {w:World} {p:Bool} {v:Value} {x:TV} (h:ft R w p v x):v.oneCell'=true:=by
 obtain ⟨t,l,_,⟨_,rfl⟩ | ⟨g,cap,cur,e,fz,rfl,_⟩⟩:=h <;> rfl
section
variable {C:Ctx} {S V:St} {a:Act} {w:World} {R:Reach} {τ:Nat→Value} {o:Oper} {d:Nat}
theorem eI.Oe (h:eI C S a w R τ) (hl:d<C.nt) {v:Value} {x:TV} {g:Gh} (hs:dS R w τ x g v) (hg:g.slot=true) (hm:∀k∈g.df,C.nt≤k∧(S k).2 ≠ .no):Sim C (cR S d (x,g)) (a.put (some d) v) w:=by
 refine ⟨R,_,by simp [Act.put,h.size],h.defers,h.core.put hl hs hg hm,fun t ht=>?_,⟨h.io.1,fun k hk=>?_⟩,h.ext,h.gl⟩
 ·by_cases e:t=d
  ·subst e;rw [gp];simp [Act.put,Array.getD,h.size,ht]
  ·rw [iw _ _ e,←h.tmps t ht]
   simp only [Act.put,Array.getD_eq_getD_getElem?]
   rw [Array.getElem?_setIfInBounds_ne (Ne.symm e)]
 ·have:=h.io.1
  rw [iw _ _ (by omega)];exact h.io.2 k hk
theorem HE {f:Nat} {args:Array Operand} {ts:Array TypeId} {x:Operand} (ho:o.op = .call { callee := .value x,args,argTypes:=ts }) (hx:a.eval x = .func (.func f) #[] #[]) (hp:o0 C.P f=true):(execOp a.eval o).run C.P w = .ok (.enter f (args.map a.eval)) w:=by
 unfold o0 at hp
 cases hf:C.P.funcs[f]? with
 | none=>simp [hf] at hp
 | some fn =>
  simp only [hf,Option.any_some,af,Bool.not_eq_true',beq_eq_false_iff_ne,ne_eq] at hp
  obtain ⟨h1,h2⟩:=hp
  have Im:fn.body.isNone=false:=by cases hb:fn.body <;> simp [hb] at h1 ⊢
  simp [execOp,ho,resolve,Deferred.ofValue,hx,invoke,callFunc,hf]
  rw [ao h2,ao (by intro e;rw [e] at h1;cases h1)]
open Classical in
noncomputable def ze (τ:Nat→Value) (own:Nat→Nat) (l:List Nat) (mo:List Value) (k:Nat):Value :=
 if h:∃q i,l[q]?=some i∧own q=k then (nC mo (l.getD h.choose 0)).getD undef else τ k
theorem FX {own:Nat→Nat} {l:List Nat} {mo:List Value} {q i:Nat} (xB:∀j j',own j=own j'→j=j') (hq:l[q]?=some i):ze τ own l mo (own q)=(nC mo i).getD undef:=by
 have h:∃q' i,l[q']?=some i∧own q'=own q:=⟨q,i,hq,rfl⟩
 unfold ze
 rw [dif_pos h]
 obtain ⟨i',h1,h2⟩:=h.choose_spec
 have:h.choose=q:=xB _ _ h2
 rw [this,show l.getD q 0=i by simp [ai,hq]]
theorem DR {own:Nat→Nat} {l:List Nat} {mo:List Value} {k:Nat} (h:∀q i,l[q]?=some i→own q≠k):ze τ own l mo k=τ k:=by
 unfold ze
 rw [dif_neg]
 rintro ⟨q,i,h1,h2⟩
 exact h q i h1 h2
set_option maxHeartbeats 2000000 in
theorem go_call (h:eI C S a w R τ) (hV:Lt V S) (hd:o.dst=none∨∃d,o.dst=some d∧d<C.nt) {f:Nat} {c:eu} {sg:bW} (hS:bC C.P C.gl f (c,sg)) {args:Array Operand} {ts:Array TypeId} {x:Operand} (ho:o.op = .call { callee := .value x,args,argTypes:=ts }) (hx:a.eval x = .func (.func f) #[] #[])
  {tl:List TypeId} {cs:List Cell} {xs:List TV} {ws:List (Nat × Cell)} {outs:List TV} {own:Nat→Nat} {p:Option Bool} {e:gX} (uO:pq C.E C.nt V tl args.toList=some cs) (Kr:AA V sg.md cs=some (xs,ws)) (hc:(c xs).holds outs) (xB:0<C.nt→∀j j',own j=own j'→j=j') (he:Ar C.nt own V sg cs xs ws p outs=some e):eJ C o a w (iY S o.dst e):=by
 unfold Ar at he
 obtain ⟨hh,he⟩:=bE.1 he
 simp only [af] at hh
 obtain ⟨hh,RD⟩:=hh
 have xB:=xB (Nat.le_of_ble_eq_true hh.2)
 have hle:=Nat.le_of_ble_eq_true hh.1
 split at he <;> try (cases he;done)
 rename_i ns ys VG LY
 obtain ⟨Tj,he⟩:=bE.1 he
 cases he
 simp only [af] at Tj
 obtain ⟨KC,Ig⟩:=Tj
 have Ig:∀q∈ws,∀p∈ig V sg.md cs ys,p.1≠q.1:=fun q hq p hp e=>by
  have:=aD.1 (aD.1 Ig q hq) p hp
  rw [e] at this;simp at this
 obtain ⟨jI,_,Me⟩:=qm h hV uO
 obtain ⟨R1,h1,f1,L7,hq⟩:=Az h.core hV.q jI Kr
 have h':eI C (fo S ws) a w R1 τ:=h.fz h1 f1
 obtain ⟨OM,Mj⟩:=L7.len
 generalize Gy:args.toList.map a.eval=vs at *
 generalize Tu:fo S ws=S1 at *
 have Nz:=wR LY
 obtain ⟨Jt,AM⟩:=zf VG
 simp only [Nat.zero_add] at Jt AM
 -- a handed argument
 have hand:∀i v,vs[i]?=some v→sg.md.getD i .pl ≠ .pl→∃c y x,cs[i]?=some c∧ys[i]?=some y∧xs[i]?=some x∧i<sg.md.length∧Dh R1 w (sg.md.getD i .pl) x v ∧
   ((v = .slice none 0 0∧∀y,lu V (sg.md.getD i .pl) c y=none)∨∃k x',lu V (sg.md.getD i .pl) c y=some (k,x')∧v=τ k∧C.nt≤k∧(S1 k).2.own=true∧(S1 k).2.CJ=false∧((S1 k).2.CK=false∨sg.md.getD i .pl = .sm)∧(sg.md.getD i .pl = .sm→S1 k=(x,(V k).2)∧((V k).2 = .pv∨∃r,(V k).2 = .pc r))):=by
  intro i v hv hm
  obtain ⟨c,x,e1,e2,e3⟩:=L7.get i v hv
  have hi:i<sg.md.length:=by
   rcases Nat.lt_or_ge i sg.md.length with hi | hi
   ·exact hi
   ·rw [ai,List.getElem?_eq_none hi] at hm;exact (hm rfl).elim
  have ey:ys[i]?=some ys[i]:=ar (by omega)
  have OJ:=Me c (aK e1)
  have Oj:∀k x',lu V (sg.md.getD i .pl) c ys[i]=some (k,x')→(V k).2 ≠ .hid→S1 k=V k:=fun k x' hb hg=>by
   have rF:=mY e1 ey hi hb
   rw [←Tu,ix fun q hq e=>Ig q hq _ rF e.symm]
   exact ((hV k).resolve_right hg).symm
  refine ⟨c,ys[i],x,e1,ey,e2,hi,?_⟩
  generalize sg.md.getD i .pl=m at *
  have fB:m ≠ .pl→m ≠ .rf→(∃k g,c=(.pt,.fB k)∧V k=(x,g)∧(g = .pv∨(m = .sm∧∃r,g = .pc r))∧v=τ k)→Dh R1 w m x v∧((v = .slice none 0 0∧∀y,lu V m c y=none)∨∃k x',lu V m c ys[i]=some (k,x')∧v=τ k∧C.nt≤k∧(S1 k).2.own=true∧(S1 k).2.CJ=false∧((S1 k).2.CK=false∨m = .sm)∧(m = .sm→S1 k=(x,(V k).2)∧((V k).2 = .pv∨∃r,(V k).2 = .pc r))):=by
   rintro Ta S9 ⟨k,g,rfl,hk,hg,rfl⟩
   have Ij:g.own=true∧g.CJ=false∧g ≠ .hid∧∀R w τ x v,ji R w τ x g v=ft R w false v x:=by rcases hg with rfl | ⟨_,r,rfl⟩ <;> exact ⟨rfl,rfl,by simp,fun _ _ _ _ _=>rfl⟩
   obtain ⟨x',hb⟩:∃x',lu V m (.pt,.fB k) ys[i]=some (k,x'):=by cases m <;> first | exact (Ta rfl).elim | exact (S9 rfl).elim | exact ⟨_,rfl⟩
   have e:=Oj k x' hb (by rw [hk];exact Ij.2.2.1)
   have hK:=h1.key k
   rw [e,hk,Ij.2.2.2] at hK
   refine ⟨?_,.inr ⟨k,x',hb,rfl,(OJ.2 k (by simp [Gh.df])).1,by rw [e,hk];exact Ij.1,by rw [e,hk];exact Ij.2.1,by rw [e,hk];exact hg.imp (fun e=>by rw [e];rfl) (·.1),fun _=>by rw [e,hk];exact ⟨rfl,hg.imp id (·.2)⟩⟩⟩
   cases m <;> first | exact (Ta rfl).elim | exact (S9 rfl).elim | exact hK
  cases m with
  | pl=>exact (hm rfl).elim
  | rf =>
   obtain ⟨k,xS,ts,b,zs,el,H9,rfl,hk,rfl,hb,VU,rfl,hL⟩:=e3
   have e:=Oj k _ rfl (by rw [hk];simp)
   have hK:=h1.key k
   rw [e,hk] at hK
   obtain ⟨b',_,_,_,k1,_,_,_,_,k2⟩:=hK
   rw [hb] at k1;cases k1
   exact ⟨⟨b,zs,el,H9,hb,VU,rfl,hL,by simp,k2⟩,.inr ⟨k,_,rfl,rfl,(OJ.2 k (by simp [Gh.df])).1,by rw [e,hk];rfl,by rw [e,hk];rfl,.inl (by rw [e,hk];rfl),fun e=>by cases e⟩⟩
  | sl=>exact fB (by simp) (by simp) (e3.resolve_right (by simp))
  | gv =>
   rcases e3 with e3 | ⟨_,t,rfl,rfl,rfl⟩
   ·exact fB (by simp) (by simp) e3
   ·exact ⟨⟨t,[],rfl,.inl ⟨rfl,rfl⟩⟩,.inl ⟨rfl,fun _=>rfl⟩⟩
  | sm =>
   rcases e3 with e3 | ⟨_,t,rfl,rfl,rfl⟩
   ·exact fB (by simp) (by simp) e3
   ·exact ⟨⟨t,[],rfl,.inl ⟨rfl,rfl⟩⟩,.inl ⟨rfl,fun _=>rfl⟩⟩
 have hargs:yb R1 w sg.md xs vs:=⟨OM,fun i x v hx hv=>by
  by_cases hm:sg.md.getD i .pl = .pl
  ·obtain ⟨c,x',_,e2,e3⟩:=L7.get i v hv
   rw [hx] at e2;cases e2
   rw [hm] at e3 ⊢
   exact e3
  ·obtain ⟨_,_,x',_,_,e2,_,e3,_⟩:=hand i v hv hm
   rw [hx] at e2;cases e2;exact e3⟩
 have Ru:Nl (· ≠ .pl) sg.md vs:=fun i j v v' b hi hj hv wm hb lr=>by
  obtain ⟨c,y,_,a1,a2,_,a3,_,a4⟩:=hand i v hv hi
  obtain ⟨c',y',_,b1,b2,_,b3,_,b4⟩:=hand j v' wm hj
  rcases a4 with ⟨rfl,_⟩ | ⟨k,x1,k1,rfl,_,k2,k3,_⟩
  ·cases hb
  rcases b4 with ⟨rfl,_⟩ | ⟨k',x2,l1,rfl,_,l2,l3,_⟩
  ·cases lr
  have:=h1.vn (ib k2 k3 hb) (ib l2 l3 lr)
  subst this
  exact xQ KC a1 a2 a3 k1 b1 b2 b3 l1
 obtain ⟨VC,uQ⟩:=hS xs outs hc
 intro K Q hK
 unfold Oper.wp
 rw [HE ho hx VC,Oper.upon_enter]
 have e0:(⟨vs⟩:Array Value)=args.map a.eval:=by apply Array.ext';simp [←Gy]
 have uQ:=uQ w R1 vs h1.re h'.gl hargs Ru
 rw [e0] at uQ
 refine uQ.mono ?_
 rintro e w' ⟨x,R',mo,wV,rfl,Ef,Rw,sH⟩
 have:wV=ys:=by have:=sH.back;simp only at this;rw [LY] at this;cases this;rfl
 subst this
 simp only at Ef sH
 -- the Lv that UO handed over
 have bk:∀k x,(k,x)∈ig V sg.md cs wV→∃i v y,vs[i]?=some v∧wV[i]?=some y∧v=τ k∧C.nt≤k∧(S1 k).2.own=true∧(S1 k).2.CJ=false∧((x,sg.md.getD i .pl)∈[((y,.cl []),.rf),((y,.pv),.sl),((.dead,.zz),.gv)]∧(S1 k).2.CK=false∨sg.md.getD i .pl = .sm∧x=S1 k∧y=x.1∧(x.2 = .pv∨∃r,x.2 = .pc r))∧(∀x',(k,x')∈ig V sg.md cs wV→x'=x):=by
  intro k x rF
  obtain ⟨i,c,y,e1,e2,e3,e4⟩:=pj rF
  have hi:i<vs.length:=by have:=(aH.1 e1).1;omega
  have ev:vs[i]?=some vs[i]:=ar hi
  have hm:sg.md.getD i .pl ≠ .pl:=by intro e;rw [e] at e4;cases e4
  obtain ⟨c',y',xi,a1,a2,ax,a3,_,a4⟩:=hand i _ ev hm
  rw [e1] at a1;cases a1
  rw [e2] at a2;cases a2
  have hu:∀x',(k,x')∈ig V sg.md cs wV→x'=x:=fun x' xz=>by
   obtain ⟨j,c2,y2,k1,k2,k3,k4⟩:=pj xz
   have:=xQ KC e1 e2 e3 e4 k1 k2 k3 k4
   subst this
   rw [e1] at k1;cases k1
   rw [e2] at k2;cases k2
   rw [e4] at k4;cases k4;rfl
  rcases a4 with ⟨_,a4⟩ | ⟨k',x',k1,k2,k3,k4,k5,k6,k7⟩
  ·rw [a4] at e4;cases e4
  ·rw [e4] at k1;cases k1
   refine ⟨i,_,y,ev,e2,k2,k3,k4,k5,?_,hu⟩
   by_cases hs:sg.md.getD i .pl = .sm
   ·right
    obtain ⟨q1,q2⟩:=k7 hs
    have ey:y=xi:=by have:=Ay LY hs;rw [e2,ax] at this;exact Option.some.inj this
    rw [hs] at e4
    unfold lu at e4
    split at e4 <;> first | (cases e4;done) | (rename_i em _;cases em;done) | skip
    rename_i ec
    cases e4
    exact ⟨hs,by rw [q1,ey],rfl,q2⟩
   ·left
    refine ⟨?_,k6.resolve_right hs⟩
    unfold lu at e4
    split at e4 <;> first | (cases e4;done) | (rename_i em _;exact (hs em).elim) | (rename_i em _;cases e4;rw [em];simp)
 have nw:∀q i,sg.own[q]?=some i→(S1 (own q)).2 = .no∧own q<1000000∧C.nt≤own q:=fun q i lp=>iA hq (AM q i lp).choose_spec.2.2
 have NQ:∀k x,(k,x)∈ig V sg.md cs wV→∀q i,sg.own[q]?=some i→own q≠k:=fun k x rF q i lp e=>by
  obtain ⟨_,_,_,_,_,_,_,ho,_⟩:=bk k x rF
  rw [←e,(nw q i lp).1] at ho;cases ho
 have Ri:∀g,yd sg.md vs g→∃k x,(k,x)∈ig V sg.md cs wV∧gR τ S1 k=some g:=by
  rintro g ⟨i,v,hm,hv,hb⟩
  obtain ⟨c',y',_,a1,a2,_,a3,_,a4⟩:=hand i v hv hm
  rcases a4 with ⟨rfl,_⟩ | ⟨k',x',k1,rfl,k3,k4,k5,_⟩
  ·cases hb
  ·exact ⟨k',x',mY a1 a2 a3 k1,ib k4 k5 hb⟩
 have Ju:∀g,yd sg.md vs g→C.dK g:=fun g hg=>by obtain ⟨k,_,_,hb⟩:=Ri g hg;exact h1.dK k g hb
 have rv:∀q i,sg.own[q]?=some i→∃v y,nC mo i=some v∧(nC mo i).getD undef=v∧po (outs.take sg.fh) i=some y∧po outs i=some y∧ft R' w' false v y:=fun q i lp=>by
  obtain ⟨y,e1,_⟩:=AM q i lp
  have hi:=aK lp
  obtain ⟨v,hv⟩:=I1 sH.rep hi e1
  exact ⟨v,y,hv,by rw [hv];rfl,e1,vQ e1,sH.own i hi _ _ hv (vQ e1)⟩
 -- the state behind the call
 let nX:=ze τ own sg.own mo
 have t1:∀q i,sg.own[q]?=some i→nX (own q)=(nC mo i).getD undef:=fun q i=>FX xB
 have t2:∀k,(∀q i,sg.own[q]?=some i→own q≠k)→nX k=τ k:=fun k=>DR
 have L6:fo S (ig V sg.md cs wV++(ns++ws))=fo (fo S1 ns) (ig V sg.md cs wV):=by rw [jv,jv,Tu]
 generalize NL:fo S (ig V sg.md cs wV++(ns++ws))=S' at *
 have s1:∀k x,(k,x)∈ig V sg.md cs wV→S' k=x:=fun k x rF=>by
  obtain ⟨_,_,_,_,_,_,_,_,_,_,hu⟩:=bk k x rF
  rw [L6];exact xh rF hu
 have s2:∀q i y,sg.own[q]?=some i→po (outs.take sg.fh) i=some y→S' (own q)=(y,.pv):=fun q i y lp hy=>by
  obtain ⟨y',e1,e2,_⟩:=AM q i lp
  rw [hy] at e1;cases e1
  rw [L6,ix fun p hp e=>NQ p.1 p.2 hp q i lp e.symm]
  refine xh e2 fun z hz=>?_
  obtain ⟨q',i',y2,k1,k2,k3,_⟩:=Jt _ hz
  have ek:own q=own q':=congrArg Prod.fst k2
  have:=xB _ _ ek
  subst this
  rw [lp] at k1;cases k1
  rw [hy] at k3;cases k3
  exact congrArg Prod.snd k2
 have s3:∀k,(∀x,(k,x) ∉ ig V sg.md cs wV)→(∀q i,sg.own[q]?=some i→own q≠k)→S' k=S1 k:=fun k hb hn=>by
  rw [L6,ix fun p hp e=>hb p.2 (by rw [←e];exact hp),ix fun p hp e=>by
   obtain ⟨q,i,y,k1,rfl,_⟩:=Jt p hp
   exact hn q i k1 e]
 have GN:Core C.nt R' w' C.dK nX S':=by
  refine h1.step (fun k=>(∃x,(k,x)∈ig V sg.md cs wV)∨∃q i,sg.own[q]?=some i∧own q=k) Ef.dM (fun k hk=>?_) (fun k g hk hb=>?_) ?_ ?_ ?_ ?_ ?_ ?_ (fun _=>id) ?_ Rw ?_
  ·have e1:∀q i,sg.own[q]?=some i→own q≠k:=fun q i a b=>hk (.inr ⟨q,i,a,b⟩)
   exact ⟨s3 k (fun x hx=>hk (.inl ⟨x,hx⟩)) e1,t2 k e1⟩
  ·have gk:=h1.lt hb
   have S6:¬yd sg.md vs g:=fun hg=>by
    obtain ⟨k',x,hm,lr⟩:=Ri g hg
    obtain ⟨_,_,_,_,_,_,_,_,hp,_⟩:=bk k' x hm
    have:=h1.vn lr hb
    subst this
    exact hk (.inl ⟨x,hm⟩)
   exact ⟨Ef.heap g gk S6,fun o hr=>(Ef.DE g o hr).resolve_right (by rintro (h | h);exact absurd gk (by omega);exact S6 h)⟩
  ·rintro k (⟨x,hx⟩ | ⟨q,i,lp,rfl⟩)
   ·obtain ⟨i,v,y,e1,e2,rfl,e3,e4,e5,e6,_⟩:=bk k x hx
    have hB:=sH.Pw i y _ e2 e1
    rw [s1 k x hx,t2 k (NQ k x hx)]
    simp only [aP,Prod.mk.injEq,List.not_mem_nil,or_false] at e6
    rcases e6 with ⟨⟨rfl,em⟩ | ⟨rfl,em⟩ | ⟨rfl,em⟩,_⟩ | ⟨em,_,rfl,Ws⟩ <;> rw [em] at hB
    ·obtain ⟨b,cs,e,xs,k1,k2,k3,k4,k5,k6⟩:=hB
     exact ⟨b,cs,e,xs,k1,k2,k3,k4,by simp,k6⟩
    ·exact hB
    ·trivial
    ·rcases Ws with e | ⟨r,e⟩ <;> rw [e] <;> exact hB
   ·obtain ⟨v,y,e1,e2,e3,e4,e5⟩:=rv q i lp
    rw [s2 q i y lp e3,t1 q i lp,e2]
    exact e5
  ·rintro k (⟨x,hx⟩ | ⟨q,i,lp,rfl⟩)
   ·exact .inl (t2 k (NQ k x hx))
   ·exact .inr (.inr (nw q i lp).1)
  ·rintro k (⟨x,hx⟩ | ⟨q,i,lp,rfl⟩)
   ·obtain ⟨i,v,y,e1,e2,rfl,e3,e4,e5,e6,_⟩:=bk k x hx
    rw [s1 k x hx]
    simp only [aP,Prod.mk.injEq,List.not_mem_nil,or_false] at e6
    right
    rcases e6 with ⟨⟨rfl,em⟩ | ⟨rfl,em⟩ | ⟨rfl,em⟩,_⟩ | ⟨em,_,rfl,e | ⟨r,e⟩⟩ <;> first | (rw [e];simp) | simp
   ·obtain ⟨v,y,e1,e2,e3,e4,e5⟩:=rv q i lp
    rw [s2 q i y lp e3];right;simp
  ·rintro k (⟨x,hx⟩ | ⟨q,i,lp,rfl⟩)
   ·obtain ⟨i,v,y,e1,e2,rfl,e3,e4,e5,e6,_⟩:=bk k x hx
    rw [s1 k x hx]
    simp only [aP,Prod.mk.injEq,List.not_mem_nil,or_false] at e6
    rcases e6 with ⟨e6,hP⟩ | ⟨em,ex,_⟩
    ·exact .inl ⟨hP,by rcases e6 with ⟨rfl,em⟩ | ⟨rfl,em⟩ | ⟨rfl,em⟩ <;> rfl⟩
    ·exact .inr ⟨e5,ex⟩
   ·obtain ⟨v,y,e1,e2,e3,e4,e5⟩:=rv q i lp
    rw [s2 q i y lp e3,(nw q i lp).1];exact .inl ⟨rfl,rfl⟩
  ·rintro k (⟨x,hx⟩ | ⟨q,i,lp,rfl⟩) _
   ·obtain ⟨i,v,y,e1,e2,rfl,e3,e4,e5,e6,_⟩:=bk k x hx
    exact .inl e4
   ·exact .inr (nw q i lp).1
  ·have D2:∀k x,(k,x)∈ig V sg.md cs wV→(S' k).2.own=true→∃i,(sg.md.getD i .pl).D2∧vs[i]?=some (τ k):=fun k x hx ho=>by
    obtain ⟨i,v,y,e1,e2,rfl,e3,e4,e5,e6,_⟩:=bk k x hx
    rw [s1 k x hx] at ho
    refine ⟨i,?_,e1⟩
    simp only [aP,Prod.mk.injEq,List.not_mem_nil,or_false] at e6
    rcases e6 with ⟨⟨rfl,em⟩ | ⟨rfl,em⟩ | ⟨rfl,em⟩,_⟩ | ⟨em,_⟩ <;> rw [em] <;> first | (cases ho;done) | exact ⟨by simp,by simp⟩
   have KO:∀k x q i g,(k,x)∈ig V sg.md cs wV→sg.own[q]?=some i→gR nX S' k=some g→gR nX S' (own q)=some g→False:=fun k x q i g hx lp h1 h2=>by
    obtain ⟨o1,b1⟩:=fX h1
    obtain ⟨o2,b2⟩:=fX h2
    obtain ⟨j,l1,l2⟩:=D2 k x hx o1
    obtain ⟨v,y,e1,e2,e3,e4,e5⟩:=rv q i lp
    rw [t1 q i lp,e2] at b2
    rw [t2 k (NQ k x hx)] at b1
    exact sH.Q2 i (aK lp) v g e1 b2 j _ l1 l2 b1
   rintro k g (⟨x,hx⟩ | ⟨q,i,lp,rfl⟩) hb
   ·obtain ⟨i,v,y,e1,e2,rfl,e3,e4,e5,e6,_⟩:=bk k x hx
    have b1:=(fX hb).2
    rw [t2 k (NQ k x hx)] at b1
    have b2:=ib e4 e5 b1
    refine ⟨h1.dK k g b2,?_,.inr ⟨k,.inl ⟨x,hx⟩,b2⟩⟩
    rintro k' (⟨x',xz⟩ | ⟨q,i,lp,rfl⟩) nN lr
    ·obtain ⟨_,_,_,_,_,_,_,f4,f5,_⟩:=bk k' x' xz
     have b3:=(fX lr).2
     rw [t2 k' (NQ k' x' xz)] at b3
     exact nN (h1.vn b2 (ib f4 f5 b3)).symm
    ·exact KO k x q i g hx lp hb lr
   ·obtain ⟨v,y,e1,e2,e3,e4,e5⟩:=rv q i lp
    have b1:=(fX hb).2
    rw [t1 q i lp,e2] at b1
    have hm:=sH.dK i (aK lp) v g e1 b1
    refine ⟨hm.elim (Ju g) fun e => .inr (Nat.le_trans h'.ext.size e),?_,hm.symm.imp id fun hg=>?_⟩
    ·rintro k' (⟨x',xz⟩ | ⟨q',i',L5,rfl⟩) nN lr
     ·exact KO k' x' q i g xz lp lr hb
     ·obtain ⟨v',y',f1,f2,_⟩:=rv q' i' L5
      have b2:=(fX lr).2
      rw [t1 q' i' L5,f2] at b2
      exact nN (by rw [sH.Q3 q q' i i' v v' g lp L5 e1 f1 b1 b2])
    ·obtain ⟨k0,x0,h0,pE⟩:=Ri g hg
     exact ⟨k0,.inl ⟨x0,h0⟩,pE⟩
  ·rintro k (⟨x,hx⟩ | ⟨q,i,lp,rfl⟩) j hj
   ·obtain ⟨i,v,y,e1,e2,rfl,e3,e4,e5,e6,_⟩:=bk k x hx
    rw [s1 k x hx] at hj
    simp only [aP,Prod.mk.injEq,List.not_mem_nil,or_false] at e6
    rcases e6 with ⟨⟨rfl,em⟩ | ⟨rfl,em⟩ | ⟨rfl,em⟩,_⟩ | ⟨em,ex,_⟩ <;> first | (simp [Gh.df] at hj;done) | skip
    rw [ex] at hj
    obtain ⟨q1,q2⟩:=h1.inv k j hj
    refine ⟨q1,?_⟩
    by_cases hb:∃x',(j,x')∈ig V sg.md cs wV
    ·obtain ⟨x',xz⟩:=hb
     obtain ⟨i',_,_,_,_,_,_,f3,_,f6,_⟩:=bk j x' xz
     rw [s1 j x' xz]
     simp only [aP,Prod.mk.injEq,List.not_mem_nil,or_false] at f6
     rcases f6 with ⟨⟨rfl,_⟩ | ⟨rfl,_⟩ | ⟨rfl,_⟩,_⟩ | ⟨_,rfl,_⟩ <;> first | (simp;done) | exact q2
    ·rw [s3 j (fun x' xz=>hb ⟨x',xz⟩) fun q i lp e=>by rw [←e] at q2;exact q2 (nw q i lp).1]
     exact q2
   ·obtain ⟨v,y,e1,e2,e3,e4,e5⟩:=rv q i lp
    rw [s2 q i y lp e3] at hj
    simp [Gh.df] at hj
  ·rintro k (⟨x,hx⟩ | ⟨q,i,lp,rfl⟩) hk
   ·obtain ⟨_,_,_,_,_,_,e3,_⟩:=bk k x hx;omega
   ·have:=(nw q i lp).2.2;omega
 have zL:eI C S' a w' R' nX:=⟨h'.size,h'.defers,GN,fun t ht=>by
   rw [t2 t fun q i lp e=>by have:=(nw q i lp).2.2;omega];exact h'.tmps t ht,
  ⟨h'.io.1,fun k hk=>by rw [t2 k fun q i lp e=>by have:=(nw q i lp).2.1;omega];exact h'.io.2 k hk⟩,h'.ext.trans Ef (fun b hb=>Ju b hb),h'.gl.dM Ef.dM⟩
 show K (a.put o.dst x) w'
 rcases hd with hd | ⟨d,hd,hl⟩
 ·rw [hd] at hK ⊢
  exact hK _ _ ⟨R',nX,show eI C _ a w' R' nX by simpa only [iY,NL] using zL⟩
 ·rw [hd] at hK ⊢
  refine hK _ _ ?_
  simp only [iY,NL]
  have wo:dS R' w' nX (DH own sg (outs.take sg.fh)).1 (DH own sg (outs.take sg.fh)).2 x∧(DH own sg (outs.take sg.fh)).2.slot=true∧∀k∈(DH own sg (outs.take sg.fh)).2.df,∃q i,sg.own[q]?=some i∧k=own q:=by
   have j7:=sH.rep
   unfold DH
   cases hb:Nat.beq sg.fh 1 with
   | true =>
    have hb:=aw hb
    have hx:=sH.val
    simp only [hb,if_true] at hx
    have hl:=sH.len
    simp only [hb] at hl
    obtain ⟨v,rfl⟩:∃v,mo=[v]:=by
     match mo,hl with
     | [v],_=>exact ⟨v,rfl⟩
    subst hx
    simp only [ah]
    cases ho:sg.own with
    | nil =>
     rw [ho,yY] at j7
     refine ⟨?_,rfl,by simp [Gh.df]⟩
     generalize outs.take sg.fh=l at *
     cases j7 with
     | cons hr _=>exact .no hr
    | cons i r =>
     have h0:sg.own[0]?=some i:=by rw [ho];rfl
     obtain ⟨v',y,e1,e2,e3,e4,e5⟩:=rv 0 i h0
     cases NI:Nat.blt i 1000 with
     | true =>
      have Ex:=e1
      unfold nC at Ex
      rw [NI,ah] at Ex
      have hi:i=0:=by have:=(aH.1 Ex).1;simp at this;exact this
      subst hi
      cases Ex
      dsimp only
      simp only [NI,ah]
      exact ⟨⟨by rw [t1 0 0 h0];rfl,e5.one⟩,rfl,fun k hk=>⟨0,0,by rw [←ho];exact h0,by simpa [Gh.df] using hk⟩⟩
     | false =>
      have Ex:=e1
      unfold nC at Ex
      rw [NI,ae] at Ex
      simp only [List.getElem?_cons_zero] at Ex
      have OC:kI (i :: r)=false:=by unfold kI;rw [List.all_cons,NI];rfl
      rw [ho] at j7
      dsimp only
      simp only [NI,ae]
      unfold pJ at j7 ⊢
      rw [OC] at j7 ⊢
      simp only [ae] at j7 ⊢
      unfold po at e3
      rw [NI,ae] at e3
      generalize outs.take sg.fh=l at *
      match l,e3,j7 with
      | .ag xS :: l',_,j7 =>
       simp only [aX,P0] at j7 ⊢
       cases j7 with
       | cons hr ht =>
        cases hr with
        | sc e=>cases e
        | @ag _ ys hL =>
         have zQ:ys[i - 1000]?=some (nX (own 0)):=by rw [t1 0 i h0,e2];exact Ex
         exact ⟨⟨_,_,rfl,rfl,hL,fun p hp=>by simp at hp;subst hp;exact zQ⟩,rfl,fun k hk=>⟨0,i,by rw [←ho];exact h0,by simpa [Gh.df] using hk⟩⟩
   | false =>
    have hb:sg.fh≠1:=fun e=>by rw [e] at hb;cases hb
    have hx:=sH.val
    simp only [ao hb] at hx
    subst hx
    simp only [ae]
    cases ho:sg.own with
    | nil =>
     rw [ho] at j7
     exact ⟨.no (.tu j7),rfl,by simp [Gh.df]⟩
    | cons i r =>
     simp only [List.isEmpty_cons,ae]
     rw [←ho]
     have key:∀p∈(sg.own.mapIdx fun j i=>(i,own j)),∃q,sg.own[q]?=some p.1∧p.2=own q:=fun p hp=>by
      obtain ⟨q,hq⟩:=List.mem_iff_getElem?.1 hp
      rw [List.getElem?_mapIdx,aM] at hq
      obtain ⟨i,h1,rfl⟩:=hq
      exact ⟨q,h1,rfl⟩
     refine ⟨⟨mo,_,rfl,rfl,j7,fun p hp=>?_⟩,rfl,fun k hk=>?_⟩
     ·obtain ⟨q,k1,k2⟩:=key p hp
      obtain ⟨v',y,e1,e2,e3,e4,e5⟩:=rv q p.1 k1
      have OC:kI sg.own=true:=by
       unfold okO at RD
       cases hs:kI sg.own with
       | true=>rfl
       | false=>rw [hs,Bool.false_or,af] at RD;exact (hb (aw RD.1)).elim
      have Ex:=e1
      unfold nC at Ex
      rw [aD.1 OC p.1 (aK k1),ah] at Ex
      rw [k2,t1 q p.1 k1,e2,Ex]
     ·obtain ⟨p,hp,rfl⟩:=bg.1 hk
      obtain ⟨q,k1,k2⟩:=key p hp
      exact ⟨q,p.1,k1,k2⟩
  refine zL.Oe hl wo.1 wo.2.1 fun k hk=>?_
  obtain ⟨q,i,lp,rfl⟩:=wo.2.2 k hk
  obtain ⟨v,y,e1,e2,e3,e4,e5⟩:=rv q i lp
  exact ⟨(nw q i lp).2.2,by rw [s2 q i y lp e3];simp⟩
end
end Go.Eng
namespace Go.Eng
open Go.RowKit
theorem Fc {P:Program} {w:World} {nm:String} {b:Nat} (hb:Fl.num b=true):(Extern.MathFloor.toIntegral nm .zero #[.float .f64 b]).run P w = .ok (.float .f64 (Fl.kU b)) w:=by
 unfold Fl.num at hb
 have e:Extern.MathFloor.toIntegral nm .zero #[.float .f64 b]=(match FloatKind.f64.decode b with
  | .nan s t =>
   if FloatKind.f64.format.quiet t=t then pure (.float .f64 b) else do
   let kept ←choose (.extern "math.Floor,Ceil,Trunc,RoundToEven.signallingNaN kept" 2)
   pure (.float .f64 (if kept == 1 then b else FloatKind.f64.encode (.nan s (FloatKind.f64.format.quiet t))))
  | d=>pure (.float .f64 (FloatKind.f64.encode (d.integral .zero)))):=rfl
 rw [e]
 unfold Fl.kU
 cases hd:FloatKind.f64.decode b with
 | nan s t=>rw [hd] at hb;cases hb
 | number s m e=>rfl
 | infinity s=>rfl
theorem G8 {fn:Func} {nm:String} {f:Array Value→Sem Value} (h:fn.name=nm) (e1:Extern.allGenericRows.lookup nm=none) (e2:Extern.allTypedRows.lookup nm=none) (e3:Extern.allRows.lookup nm=some f):Extern.find fn=some f:=by
 unfold Extern.find
 simp only [h,e1,e2,e3]
 rfl
theorem G7 {fn:Func} {nm:String} (h:fn.name=nm) (h2:fn.origin = "" ∨ fn.origin=nm) (e1:Extern.allNextRows.lookup nm=none):Extern.findNext fn=none:=by
 have e2:(Extern.allNextRows.lookup "")=none:=by kernel_rfl
 unfold Extern.findNext
 rcases h2 with h2 | h2 <;> simp only [h,h2,e1,e2] <;> rfl
section
variable {C:Ctx} {S V:St} {a:Act} {w:World} {R:Reach} {τ:Nat→Value} {o:Oper}
theorem Aq {f:Nat} {nm:String} {args:Array Operand} {ts:Array TypeId} {g:Array Value→Sem Value} {vs:Array Value} {v:Value} (ho:o.op = .call { callee := .value (.func f),args:=args,argTypes:=ts }) (hv:args.map a.eval=vs) (hf:qE C.P f nm=true) (hg:(nm == "runtime.NumGoroutine")=false)
  (e1:Extern.allGenericRows.lookup nm=none) (e2:Extern.allTypedRows.lookup nm=none) (e3:Extern.allRows.lookup nm=some g) (e4:Extern.allNextRows.lookup nm=none) (hr:(g vs).run C.P w = .ok v w):(execOp a.eval o).run C.P w = .ok (.value v) w:=by
 unfold qE at hf
 cases hfn:C.P.funcs[f]? with
 | none=>simp [hfn] at hf
 | some fn =>
  simp only [hfn,Option.any_some,af,beq_iff_eq,Bool.or_eq_true] at hf
  obtain ⟨⟨hn,hb⟩,VE⟩:=hf
  have uQ:=run_callFunc_extern (P:=C.P) hfn (by rw [hn];simpa using hg) hb (G7 hn VE e4) (G8 hn e1 e2 e3) vs w
  rw [hr] at uQ
  have he:a.eval (.func f) = .func (.func f) #[] #[]:=rfl
  simp only [execOp,ho,resolve,Deferred.ofValue,he,invoke]
  simpa [hv,resolve,Deferred.ofValue,invoke] using uQ
theorem eJ.any (h:eI C S a w R τ) (hd:o.dst=none∨∃d,o.dst=some d∧d<C.nt) {v:Value} {x:TV} (hr:(execOp a.eval o).run C.P w = .ok (.value v) w) (hs:Rep R w x v):eJ C o a w (iY S o.dst ⟨none,(x,.no),[]⟩):=by
 rcases hd with hd | ⟨d,hd,hl⟩
 ·intro K Q hK
  unfold Oper.wp
  rw [hr,Oper.upon_value,hd]
  rw [hd] at hK
  exact hK _ _ ⟨R,τ,h⟩
 ·rw [hd];exact h.ic hd hl hr hs
theorem go_xtn (h:eI C S a w R τ) (hV:Lt V S) (hd:o.dst=none∨∃d,o.dst=some d∧d<C.nt) {f:Nat} {args:Array Operand} {ts:Array TypeId} {e:gX} (hp:∀p,e.p=some p→p=true) (ho:o.op = .call { callee := .value (.func f),args:=args,argTypes:=ts }) (he:MI C.P f (pq C.E C.nt V ts.toList args.toList)=some e):eJ C o a w (iY S o.dst e):=by
 cases uO:pq C.E C.nt V ts.toList args.toList with
 | none=>rw [uO] at he;cases he
 | some cs =>
  obtain ⟨jI,_,_⟩:=qm h hV uO
  have ea:∀{vs:List Value},args.toList.map a.eval=vs→args.map a.eval=⟨vs⟩:=fun hv=>by apply Array.ext';simpa using hv
  rw [uO] at he
  unfold MI at he
  split at he
  ·rename_i b hb
   cases hb
   obtain ⟨h1,h2⟩:=bE.1 he
   cases h2
   generalize hv:args.toList.map a.eval=vs at jI
   cases jI with
   | cons a1 _ t =>
    cases t
    obtain rfl:=(jF.rep a1).dJ rfl
    have:=Aq ho (ea hv) h1 (by decide +kernel) (by kernel_rfl) (by kernel_rfl) (by kernel_rfl) (by kernel_rfl) (Fc (P:=C.P) (w:=w) (nm:=Fg) (hp _ rfl))
    exact eJ.any h hd this (.sc rfl)
  ·rename_i l c hb
   cases hb
   obtain ⟨h1,h2⟩:=bE.1 he
   cases h2
   generalize hv:args.toList.map a.eval=vs at jI
   cases jI with
   | cons a1 _ t =>
    cases t with
    | cons a2 _ t =>
     cases t
     obtain rfl:=(jF.rep a1).dJ rfl
     obtain rfl:=(jF.rep a2).dJ rfl
     have hr:(Extern.BytealgIndexByte.indexByte #[.string ⟨⟨l⟩⟩,.int .u8 c.toNat]).run C.P w = .ok (.int .i64 (Lib.indexByte l c)) w:=by
      rw [Lib.run_indexByteString];simp
     have:=Aq ho (ea hv) h1 (by decide +kernel) (by kernel_rfl) (by kernel_rfl) (by kernel_rfl) (by kernel_rfl) hr
     exact eJ.any h hd this (.sc rfl)
  ·cases he
end
end Go.Eng
namespace Go.Eng
open Go.RowKit
theorem EF {e:gX} {st:fx} {l:List st.El} {lo hi:Option Int} (he:MZ st l lo hi=some e) (hp:∀p,e.p=some p→p=true):gY (lo.getD 0) (hi.getD l.length) l.length=true∧e.x=(.sl st ((l.take (hi.getD l.length).toNat).drop (lo.getD 0).toNat),.no)∧e.ws=[]:=by
 unfold MZ at he
 split at he <;> cases he
 ·exact ⟨hp _ rfl,rfl,rfl⟩
 ·exact ⟨hp _ rfl,by simp,rfl⟩
 ·exact ⟨hp _ rfl,by simp,rfl⟩
 ·exact ⟨by simp [gY],by simp,rfl⟩
theorem ED {e:gX} {l:bz} {lo hi:Option Int} (he:MY l lo hi=some e) (hp:∀p,e.p=some p→p=true):gY (lo.getD 0) (hi.getD l.length) l.length=true∧e.x=(.s ((l.take (hi.getD l.length).toNat).drop (lo.getD 0).toNat),.no)∧e.ws=[]:=by
 unfold MY at he
 split at he <;> cases he
 ·exact ⟨hp _ rfl,rfl,rfl⟩
 ·exact ⟨hp _ rfl,by simp,rfl⟩
 ·exact ⟨hp _ rfl,by simp,rfl⟩
 ·exact ⟨by simp [gY],by simp,rfl⟩
theorem BX {l:List (Nat × Nat)} {m:Nat} (h:(l.all fun t=>!Nat.beq t.2 m)=true) (t:Nat × Nat) (ht:t∈l):t.2≠m:=fun e=>by
 have:=aD.1 h t ht
 rw [e] at this;simp at this
theorem xX {l:List (Nat × Cell)} {m:Nat} (h:(l.all fun t=>!Nat.beq t.1 m)=true) (t:Nat × Cell) (ht:t∈l):t.1≠m:=fun e=>by
 have:=aD.1 h t ht
 rw [e] at this;simp at this
theorem zY {V:St} {c:Cell} {x:TV} {ws:List (Nat × Cell)} (h:CU V c=some (x,ws)) (p:Nat × Cell) (hp:p∈ws):p.1∈c.2.df:=by
 unfold CU at h
 split at h
 ·split at h
  ·cases h;simp only [List.mem_singleton] at hp;subst hp;simp [Gh.df]
  ·cases h;cases hp
  ·obtain ⟨_,h⟩:=bE.1 h;cases h;cases hp
  ·cases h
 ·cases h;cases hp
 ·cases h
theorem pU {V:St} {o n:Nat}:∀{ts:List (Nat × Nat)} {cs ds:List TV} {ws:List (Nat × Cell)},nh V o n ts cs=some (ds,ws)→∀p∈ws,p.1∈ts.map (·.2)
 | [],_,_,_,h,p,hp=>by cases h;cases hp
 | (c,k) :: ts,cs,ds,ws,h,p,hp=>by
  simp only [nh] at h
  split at h
  ·rename_i xS PU h1
   cases hb:(Nat.ble o c&&Nat.blt c (o+n)) with
   | true =>
    rw [hb,ah] at h
    split at h
    ·rename_i h2
     cases h
     rcases List.mem_append.1 hp with hp | hp
     ·have:=zY h2 p hp
      simp [Gh.df] at this
      exact this ▸ List.mem_cons_self ..
     ·exact List.mem_cons_of_mem _ (pU h1 p hp)
    ·cases h
   | false=>rw [hb,ae] at h;cases h;exact List.mem_cons_of_mem _ (pU h1 p hp)
  ·cases h
theorem G1 {V:St} {c:Cell} {x:TV} {ws:List (Nat × Cell)} (h:zZ V c=some (x,ws)) (p:Nat × Cell) (hp:p∈ws):p.1∈c.2.df:=by
 unfold zZ at h
 split at h
 ·split at h
  ·rename_i hf;cases h;exact pU hf p hp
  ·cases h
 ·exact zY h p hp
theorem DN {E:cr} {nt:Nat} {V V':St} {t:TypeId} {x:Operand} (h:∀i,i<nt→V' i=V i):gr E nt V' t x=gr E nt V t x:=by
 cases x <;> try rfl
 rename_i i
 unfold gr
 by_cases hi:i<nt
 ·simp only [h i hi]
 ·have:Nat.blt i nt=false:=by
   cases hb:Nat.blt i nt with
   | false=>rfl
   | true=>exact absurd (Nat.le_of_ble_eq_true hb) hi
  simp only [this,fw,ae]
theorem Lt.fo {V S:St} (h:Lt V S):∀ws:List (Nat × Cell),Lt (fo V ws) (fo S ws)
 | []=>h
 | (k,x) :: ws=>fun j=>by
  by_cases e:j=k
  ·subst e;simp only [Go.Eng.fo,cj];exact .inl trivial
  ·simp only [Go.Eng.fo,dp _ _ e];exact h.fo ws j
section
variable {C:Ctx} {S V:St} {a:Act} {w:World} {R:Reach} {τ:Nat→Value} {o:Oper} {d:Nat} {own:Nat→Nat} {e:gX} (h:eI C S a w R τ) (hV:Lt V S) (hE:jq C.P C.E) (hp:∀p,e.p=some p→p=true)
include h hV hE hp
section
variable (hd:o.dst=some d) (hl:d<C.nt)
include hd hl
omit hE in
theorem Hw {s t:TypeId} {x:Operand} {c:Cell} {y:TV} (ho:o.op = .convert s t x) (hx:gr C.E C.nt V s x=some c) (hy:vi V c=some y) (he:Hx C.P C.nt own V s t y=some e):eJ C o a w (iY S (some d) e):=by
 unfold Hx at he
 split at he
 ·rename_i hs ht
  split at he <;> cases he
  exact go_ci h hV hd hl ho hx hy (by assumption) hs ht
 ·rename_i hs ht
  split at he <;> cases he
  exact go_cf h hV hd hl ho hx hy (by rw [hs];rfl) ht
 ·rename_i hs ht
  split at he <;> cases he
  exact go_fc h hV hd hl ho hx hy (hp _ rfl) (by rw [hs];rfl) ht
 ·rename_i hs ht
  split at he <;> cases he
  exact go_cs h hV hd hl ho hx hy hs ht
 ·rename_i hs ht
  split at he
  ·rename_i hu
   obtain ⟨h1,h2⟩:=bE.1 he
   cases h2
   exact go_sb h hd hl hV ho hx hy hs ht hu (hp _ rfl) (iA hV.q h1)
  ·cases he
 ·rename_i hs ht
  split at he <;> cases he
  exact go_bs h hV hd hl ho hx hy hs (by assumption) ht
 ·cases he
theorem Df {t u:TypeId} {x y:Operand} {st st':fx} {pf:Nat} {c:Cell} {m:List st'.El} {du:TypeDesc} {news:List Value} (ho:o.op = .call { callee := .builtin .append,args:=#[x,y],argTypes:=#[t,u] }) (ht:C.E.ty t=some (st,pf)) (hx:gr C.E C.nt V t x=some c) (hu:C.P.underlying u=some du) (xC:∀k,du ≠ .int k)
  (uN:Source C.P w st'.size (a.eval y) m.length news) (hL:dq R w ((m.map st'.tv).flatMap TV.cells) news) (he:JY C.E C.nt own V st pf c st' m=some e):eJ C o a w (iY S (some d) e):=by
 unfold JY at he
 split at he
 ·rename_i k
  obtain ⟨q1,_,q3⟩:=gz h hV hx
  have hv:a.eval x=τ k:=q1.1
  have Mk:C.nt≤k:=(q3 k (by simp [Gh.df])).1
  split at he
  ·rename_i t' l hk
   split at he
   ·obtain ⟨h0,hq⟩:=bE.1 he
    clear he
    obtain rfl:=aq h0
    unfold CD at hq
    split at hq
    ·rename_i n hn
     obtain ⟨h1,h2⟩:=bE.1 hq
     cases h2
     obtain ⟨e1,rfl⟩:=fx.xW hn
     subst e1
     exact go_lend h hV hd hl hE ho ht hv Mk (hV.of hk) hu xC uN hL (hp _ rfl) (iA hV.q h1)
    ·cases hq
   split at he
   ·rename_i n hn
    obtain ⟨h1,h2⟩:=bE.1 he
    cases h2
    simp only [af,aA] at h1
    obtain ⟨rfl,h1⟩:=h1
    obtain ⟨e1,rfl⟩:=fx.xW hn
    subst e1
    exact go_app h hV hd hl hE ho ht hx (hV.of hk) hu xC uN hL (hp _ rfl) (iA hV.q h1) (.inl ⟨rfl,rfl,rfl⟩)
   ·cases he
  ·rename_i t' l d0 hk
   obtain ⟨h0,hq⟩:=bE.1 he
   clear he
   obtain rfl:=aq h0
   unfold CD at hq
   split at hq
   ·rename_i n hn
    obtain ⟨h1,h2⟩:=bE.1 hq
    cases h2
    obtain ⟨e1,rfl⟩:=fx.xW hn
    subst e1
    have hk:=hV.of hk
    obtain ⟨p1,_⟩:=h.core.par k d0 (by rw [hk])
    obtain ⟨n1,n2,n3⟩:=iA hV.q h1
    have c1:own 0≠k:=by intro e;rw [e,hk] at n1;cases n1
    have c2:own 0≠d0:=by intro e;rw [e,p1] at n1;cases n1
    have c3:k≠d0:=by rintro rfl;rw [hk] at p1;cases p1
    have hr:=h.recover hk
    have:=go_lend hr (Lt.refl _) hd hl hE ho ht hv Mk (by rw [dp _ _ c3,cj]) hu xC uN hL (hp _ rfl) (k2:=own 0) ⟨by rw [dp _ _ c2,dp _ _ c1];exact n1,n2,n3⟩
    have e2:cR (cR (cR (cR S k (.sl st' l,.pv)) d0 (.dead,.zz)) k (.sl st' l,.pw (own 0))) (own 0) (.sl st' (l++m),.pc k)=cR (cR (cR S d0 (.dead,.zz)) k (.sl st' l,.pw (own 0))) (own 0) (.sl st' (l++m),.pc k):=by
     funext j
     by_cases j1:j=own 0
     ·rw [j1,cj,cj]
     ·rw [dp _ _ j1,dp _ _ j1]
      by_cases j2:j=k
      ·rw [j2,cj,cj]
      ·rw [dp _ _ j2,dp _ _ j2]
       by_cases j3:j=d0
       ·rw [j3,cj,cj]
       ·rw [dp _ _ j3,dp _ _ j3,dp _ _ j2]
    rw [e2] at this
    exact this
   ·cases hq
  ·rename_i t' l hk
   split at he
   ·rename_i n hn
    obtain ⟨h1,h2⟩:=bE.1 he
    cases h2
    simp only [af,aA] at h1
    obtain ⟨rfl,h1⟩:=h1
    obtain ⟨e1,rfl⟩:=fx.xW hn
    subst e1
    exact go_app h hV hd hl hE ho ht hx (hV.of hk) hu xC uN hL (hp _ rfl) (iA hV.q h1) (.inr ⟨rfl,rfl,rfl⟩)
   ·cases he
  ·cases he
 ·rename_i t'
  obtain ⟨h1,h2⟩:=bE.1 he
  simp only [af,aA] at h1
  obtain ⟨rfl,rfl⟩:=h1
  obtain ⟨h1,h2⟩:=bE.1 h2
  cases h2
  exact go_apn h hV hd hl hE ho ht hx hu xC uN hL (hp _ rfl) (iA hV.q h1)
 ·cases he
theorem As {b:Builtin} {ts:Array TypeId} {args:Array Operand} (ho:o.op = .call { callee := .builtin b,args:=args,argTypes:=ts }) (he:uW C.P C.E C.nt own V b ts.toList args.toList=some e):eJ C o a w (iY S (some d) e):=by
 obtain ⟨ts⟩:=ts
 obtain ⟨args⟩:=args
 simp only at he
 unfold uW at he
 split at he
 ·split at he <;> cases he
  ·exact go_len h hV hd hl ho (by assumption) (by assumption)
  ·exact go_lens h hV hd hl ho (by assumption) (by assumption)
 ·split at he
  ·rename_i hm
   obtain ⟨news,h1,h2⟩:=Source.of (P:=C.P) (ui h hV hm)
   exact Df h hV hE hp hd hl ho (by assumption) (by assumption) (by assumption) (by simp) h1 h2 he
  ·rename_i hm
   obtain ⟨h1,h2⟩:=Source.Lz (P:=C.P) (w:=w) (R:=R) _
   have e1:=FJ h hV hm
   rw [←e1] at h1
   exact Df h hV hE hp hd hl (st' := .bs) ho (by assumption) (by assumption) (by assumption) (by simp) h1 h2 he
  ·cases he
 ·split at he
  ·obtain ⟨h1,h2⟩:=bE.1 he
   cases h2
   have h1:=aq h1
   subst h1
   exact go_minmax h hV hd hl (mx:=false) ho (by assumption) (by assumption)
  ·cases he
 ·split at he
  ·obtain ⟨h1,h2⟩:=bE.1 he
   cases h2
   have h1:=aq h1
   subst h1
   exact go_minmax h hV hd hl (mx:=true) ho (by assumption) (by assumption)
  ·cases he
 ·split at he <;> cases he
  exact go_real h hV hd hl (im:=false) ho (by assumption)
 ·split at he <;> cases he
  exact go_real h hV hd hl (im:=true) ho (by assumption)
 ·split at he <;> cases he
  exact go_cx h hV hd hl ho (by assumption) (by assumption)
 ·cases he
theorem LP {t:TypeId} {x i:Operand} {c:Cell} {n:Int} (ho:o.op = .indexAddr t x i) (hx:gr C.E C.nt V t x=some c) (hi:pS C.E C.nt V i=some n) (he:Rh C.P C.E V t c n=some e):eJ C o a w (iY S (some d) e):=by
 have fB:∀{k:Nat},c=(.pt,.fB k)→a.eval x=τ k:=by rintro k rfl;exact (gz h hV hx).1.1
 unfold Rh at he
 split at he
 ·rename_i k _
  split at he
  ·rename_i hk
   obtain ⟨h1,h2⟩:=bE.1 he
   cases h2
   exact go_pix h hV hd hl hE ho h1 hx (hV.of hk) hi (hp _ rfl)
  ·rename_i hk
   obtain ⟨h1,h2⟩:=bE.1 he
   cases h2
   have hK:=h.core.key k
   rw [hV.of hk] at hK
   exact go_ix h hV hd hl hE ho h1 (by rw [fB rfl];exact (ft.rep hK).1) hi (hp _ rfl)
  ·rename_i hk
   obtain ⟨h1,h2⟩:=bE.1 he
   cases h2
   have hK:=h.core.key k
   rw [hV.of hk] at hK
   exact go_ix h hV hd hl hE ho h1 (by rw [fB rfl];exact hK) hi (hp _ rfl)
  ·cases he
 ·obtain ⟨h1,h2⟩:=bE.1 he
  cases h2
  exact go_ix h hV hd hl hE ho h1 (eC h hV hx) hi (hp _ rfl)
 ·split at he
  ·rename_i hk
   rw [aN] at he
   obtain ⟨inf,h1,h2⟩:=he
   cases h2
   exact go_la h hV hd hl ho (by assumption) h1 hx (hV.of hk) hi (hp _ rfl)
  ·cases he
 ·cases he
theorem JK {t:TypeId} {x:Operand} {lo hi:Option Operand} {p q:Option Int} {c:Cell} (ho:o.op = .slice t x lo hi none) (hx:gr C.E C.nt V t x=some c) (h1:mF C.E C.nt V lo=some p) (h2:mF C.E C.nt V hi=some q) (he:Hu C.E V t c p q=some e):eJ C o a w (iY S (some d) e):=by
 unfold Hu at he
 split at he
 ·rename_i hf
  obtain ⟨k1,k2⟩:=bE.1 he
  rw [aM] at k2
  obtain ⟨e',k2,rfl⟩:=k2
  obtain ⟨c1,c2,c3⟩:=EF (e:=e') k2 hp
  unfold iY
  simp only [c2]
  exact go_sc h hV hd hl hE ho k1 hx hf h1 h2 c1
 ·cases he
omit hE in
theorem F8 {t:TypeId} {x:Operand} {c:Cell} (ho:o.op = .load t x) (hx:gr C.E C.nt V 0 x=some c) (he:F9 C.P C.E own V t c=some e):eJ C o a w (iY S (some d) e):=by
 unfold F9 at he
 split at he
 ·rename_i n agg hs
  obtain ⟨h1,BC⟩:=bE.1 he
  clear he
  have he:=BC
  clear BC
  have h1:agg=true∨n=1:=by
   rcases Bool.or_eq_true _ _ ▸ h1 with h | h
   ·exact .inl h
   ·exact .inr (aw h)
  split at he
  ·split at he
   ·rename_i hm
    split at he
    ·rename_i hf
     cases he
     have:n=1:=by simpa using h1
     subst this
     exact go_ldt h hV hd hl ho hs hx (hV.of hm) (by assumption)
    ·split at he
     ·obtain ⟨k1,k2⟩:=bE.1 he
      cases k2
      simp only [af] at k1
      obtain ⟨⟨rfl,k1⟩,k2⟩:=k1
      have k1:=aw k1
      have k2:=aw k2
      subst k1 k2
      exact go_ldo h hV hd hl ho hs hx (hV.of hm)
     ·split at he
      ·split at he <;> cases he
       exact go_ld h hV hd hl ho hs h1 hx (hV.of hm) (by assumption) (by assumption)
      ·cases he
   ·cases he
  ·rename_i k
   split at he
   ·rename_i st l g hk
    split at he
    ·rename_i Vy
     obtain ⟨k1,k2⟩:=bE.1 he
     cases k2
     simp only [af,Bool.or_eq_true,aA] at k1
     obtain ⟨k1,k2⟩:=k1
     have gk:=aq (hp _ rfl)
     have hK:=h.core.key k
     rw [hV.of hk (by rcases k1 with rfl | rfl <;> simp)] at hK
     obtain ⟨p,hK⟩:∃p,ft R w p (τ k) (.sl st l):=by rcases k1 with rfl | rfl <;> exact ⟨_,hK⟩
     exact go_pld h hV hd hl ho hs h1 hx hK (aw k2) gk Vy
    ·cases he
   ·rename_i cs hk
    split at he
    ·obtain ⟨k1,k2⟩:=bE.1 he
     cases k2
     simp only [af,Bool.not_eq_true'] at k1
     obtain ⟨⟨⟨k1,k2⟩,k3⟩,rfl⟩:=k1
     have k1:=aw k1
     have k2:=aw k2
     have k3:=aw k3
     subst k1 k2 k3
     exact go_pla h hV hd hl ho hs hx (hV.of hk) (aq (hp _ rfl)) (by assumption)
    ·cases he
   ·cases he
  ·obtain ⟨k1,k2⟩:=bE.1 he
   cases k2
   simp only [af,beq_iff_eq] at k1
   exact go_lr h hV hd hl ho hs h1 hx k1.1.2 (aw k1.2)
  ·cases he
 ·cases he
end
omit hE in
theorem Dt (hd:o.dst=none) {t:TypeId} {x y:Operand} {c v:Cell} (ho:o.op = .store t x y) (hx:gr C.E C.nt V 0 x=some c) (hy:gr C.E C.nt V t y=some v) (he:A0 C.P V t c v=some e):eJ C o a w (iY S none e):=by
 unfold A0 at he
 split at he
 ·rename_i n agg hs
  obtain ⟨inf,hi,rfl,_⟩:=gn hs
  split at he
  ·split at he
   ·rename_i cs ts hm
    split at he
    ·rename_i k
     obtain ⟨k1,k2⟩:=bE.1 he
     cases k2
     simp only [af,Bool.not_eq_true'] at k1
     have hn:=aw k1.1.1
     have Ee:=hV.of hm
     rw [hn]
     exact go_stt h hV hd ho hi hn hx Ee hy (Nat.le_of_ble_eq_true k1.1.2) (Nat.ne_of_beq_eq_false k1.2.1) (BX k1.2.2)
    ·obtain ⟨k1,k2⟩:=bE.1 he
     cases k2
     simp only [af] at k1
     obtain ⟨⟨⟨k1,k2⟩,k3⟩,k4⟩:=k1
     have k1:=aw k1
     subst k1
     exact go_sto h hV hd ho hi hx (hV.of hm) hy (aw k2) (aw k3) (BX k4)
    ·obtain ⟨k1,k2⟩:=bE.1 he
     cases k2
     simp only [af] at k1
     have Ee:=hV.of hm
     have hr:=eC h hV hy
     have hn:=aw k1.1.1.2
     refine go_st' h hV hd ho hi hx Ee (lI hr k1.1.1.1) hn (Nat.le_of_ble_eq_true k1.1.2) fun u hu=>?_
     obtain ⟨h1,h2⟩:=vM hu
     exact ⟨BX k1.2 u h1,.inl ⟨h1,h2⟩⟩
    ·cases he
   ·cases he
  ·rename_i i s q k
   split at he
   ·rename_i y' ws hf
    obtain ⟨R',h',e1,_⟩:=h.fr hV hy hf
    have OO:∀p∈ws,C.nt≤p.1:=fun p hp=>((gz h hV hy).2.2 _ (G1 hf p hp)).1
    have Qo:Lt (fo V ws) (fo S ws):=hV.fo ws
    have xz:gr C.E C.nt (fo V ws) 0 x=some (.el i s q,.pe k):=by
     rw [←hx];exact DN fun i hi=>ix fun p hp e=>by have:=OO p hp;omega
    split at he
    ·rename_i st l hk
     split at he
     ·split at he
      ·obtain ⟨k1,k2⟩:=bE.1 he
       cases k2
       simp only [af] at k1
       exact go_pst h' Qo hd ho hi xz (by rw [ix (xX k1.2)];exact hV.of hk) e1 k1.1.1.1 (aw k1.1.2) (aw k1.1.1.2) (aq (hp _ rfl)) (by assumption) (by assumption)
      ·cases he
     ·cases he
    ·rename_i cs hk
     split at he
     ·obtain ⟨k1,k2⟩:=bE.1 he
      cases k2
      simp only [af] at k1
      have k2:=aw k1.1.1.1
      have k3:=aw k1.1.1.2
      subst k2 k3
      exact go_ls h' Qo hd ho hi (aw k1.1.2) xz (by rw [ix (xX k1.2)];exact hV.of hk) (aq (hp _ rfl)) e1 (by assumption)
     ·cases he
    ·cases he
   ·cases he
  ·cases he
 ·cases he
theorem yG (hF:∀f,bC C.P C.gl f (C.E.fs f)) (xB:0<C.nt→∀j j',own j=own j'→j=j') (l8:uT C.nt o=true) (he:yH C.P C.E C.nt own V o.type o.op=some e):eJ C o a w (iY S o.dst e):=by
 have nj:(∀t x y,o.op ≠ .store t x y)→(∀x args ts,o.op ≠ .call { callee := .value x,args:=args,argTypes:=ts })→∃d,o.dst=some d∧d<C.nt:=fun h1 h2=>by
  unfold uT at l8
  split at l8
  ·exact (h1 _ _ _ (by assumption)).elim
  ·cases l8
  ·exact (h2 _ _ _ (by assumption)).elim
  ·exact ⟨_,by assumption,Nat.le_of_ble_eq_true l8⟩
  ·cases l8
 have MU:∀{x:Operand} {args:Array Operand} {ts:Array TypeId},o.op = .call { callee := .value x,args:=args,argTypes:=ts }→o.dst=none∨∃d,o.dst=some d∧d<C.nt:=fun {x args ts} h1=>by
  cases hd:o.dst with
  | none=>exact .inl rfl
  | some d =>
   right
   unfold uT at l8
   rw [h1,hd] at l8
   exact ⟨d,rfl,Nat.le_of_ble_eq_true l8⟩
 have call:∀{f:Nat} {x:Operand} {args:Array Operand} {ts:Array TypeId},o.op = .call { callee := .value x,args:=args,argTypes:=ts }→a.eval x = .func (.func f) #[] #[]→C8 C.E C.nt own V f ts.toList args.toList=some e→eJ C o a w (iY S o.dst e):=fun {f x args ts} ho hx he=>by
  unfold C8 at he
  split at he
  ·rename_i cs uO
   split at he
   ·rename_i xs ws Kr
    split at he
    ·rename_i outs hc
     exact go_call h hV (MU ho) (c:=(C.E.fs f).1) (sg:=(C.E.fs f).2) (hF f) ho hx uO Kr (by rw [hc];rfl) xB he
    ·rename_i p outs hc
     have AL:p=true:=by
      have BC:=he
      unfold Ar at BC
      obtain ⟨_,BC⟩:=bE.1 BC
      split at BC
      ·obtain ⟨_,BC⟩:=bE.1 BC
       cases BC
       exact hp _ rfl
      ·cases BC
     exact go_call h hV (MU ho) (c:=(C.E.fs f).1) (sg:=(C.E.fs f).2) (hF f) ho hx uO Kr (by rw [hc];exact ⟨AL,rfl⟩) xB he
    ·cases he
   ·cases he
  ·cases he
 generalize ja:o.op=op at he
 unfold yH at he
 split at he
 ·obtain ⟨d,hd,hl⟩:=nj (by simp [ja]) (by simp [ja])
  rw [aM] at he
  obtain ⟨c,h1,rfl⟩:=he
  rw [hd]
  exact go_move h hV hd hl (.inl ja) h1
 ·obtain ⟨d,hd,hl⟩:=nj (by simp [ja]) (by simp [ja])
  rw [aM] at he
  obtain ⟨c,h1,rfl⟩:=he
  rw [hd]
  exact go_move h hV hd hl (.inr ja) h1
 ·obtain ⟨d,hd,hl⟩:=nj (by simp [ja]) (by simp [ja])
  split at he
  ·obtain ⟨z,h1,h2,h3⟩:=oc.BL he hp
   rw [qF hd h2 h3]
   exact go_pick h hV hd hl ja (by assumption) (by assumption) (by assumption) h1
  ·cases he
 ·obtain ⟨d,hd,hl⟩:=nj (by simp [ja]) (by simp [ja])
  split at he
  ·split at he
   ·split at he
    ·cases he
     rw [hd]
     exact go_nl h hV hd hl ja (by assumption) (by assumption) (by assumption) (by assumption)
    ·cases he
   ·split at he <;> cases he <;> rw [hd]
    ·exact go_be h hV hd hl (neg:=false) ja rfl (by assumption) (by assumption) (by assumption)
    ·exact go_be h hV hd hl (neg:=true) ja rfl (by assumption) (by assumption) (by assumption)
   ·split at he
    ·obtain ⟨r,hr,he⟩:=aN.1 he
     cases he;rw [hd]
     exact go_es h hV hd hl false ja rfl (by assumption) (by assumption) (by assumption) hr
    ·obtain ⟨r,hr,he⟩:=aN.1 he
     cases he;rw [hd]
     exact go_es h hV hd hl true ja rfl (by assumption) (by assumption) (by assumption) hr
    ·cases he
   ·split at he
    ·obtain ⟨z,h1,h2,h3⟩:=oc.BL he hp
     rw [qF hd h2 h3]
     exact go_bin h hV hd hl ja (by assumption) (by assumption) h1
    ·cases he
  ·cases he
 ·obtain ⟨d,hd,hl⟩:=nj (by simp [ja]) (by simp [ja])
  split at he
  ·obtain ⟨z,h1,h2,h3⟩:=oc.BL he hp
   rw [qF hd h2 h3]
   exact go_un h hV hd hl ja (by assumption) h1
  ·cases he
 ·obtain ⟨d,hd,hl⟩:=nj (by simp [ja]) (by simp [ja])
  split at he
  ·split at he
   ·rw [hd];exact Hw h hV hp hd hl ja (by assumption) (by assumption) he
   ·cases he
  ·cases he
 ·obtain ⟨d,hd,hl⟩:=nj (by simp [ja]) (by simp [ja])
  rw [hd];exact As h hV hE hp hd hl ja he
 ·rename_i f _ _
  cases hb:CQ C.P f with
  | true=>rw [hb] at he;exact call ja rfl he
  | false=>rw [hb] at he;exact go_xtn h hV (MU ja) hp ja he
 ·split at he
  ·rename_i hx
   exact call ja ((eC h hV hx).dJ rfl) he
  ·cases he
 ·obtain ⟨d,hd,hl⟩:=nj (by simp [ja]) (by simp [ja])
  split at he
  ·rw [hd];exact LP h hV hE hp hd hl ja (by assumption) (by assumption) he
  ·cases he
 ·obtain ⟨d,hd,hl⟩:=nj (by simp [ja]) (by simp [ja])
  split at he
  ·split at he
   ·cases he;rw [hd];exact go_si h hV hd hl ja (by assumption) (by assumption) (hp _ rfl) (by assumption)
   ·cases he
  ·rename_i hi
   split at he
   ·split at he
    ·rename_i hs
     split at he
     ·rename_i hx
      obtain ⟨k1,k2⟩:=bE.1 he
      cases k2
      rw [hd]
      have hn:=hp _ rfl
      have zO:=hn
      simp only [bD,af,aA] at zO
      have hm:=aw k1
      exact go_ai h hV hd hl ja (by assumption) hi (by assumption) hs (.inr rfl) hn (by
       rw [Nat.mul_one];exact xV hx (by omega))
     ·cases he
    ·rename_i hs
     split at he
     ·rename_i hx
      obtain ⟨k1,k2⟩:=bE.1 he
      cases k2
      rw [hd]
      have hn:=hp _ rfl
      have zO:=hn
      simp only [bD,af,aA] at zO
      have hm:=aw k1
      refine go_ai h hV hd hl ja (by assumption) hi (by assumption) hs (.inl rfl) hn ?_
      have hx:=Al hm (by omega) _ (Nat.le_refl _) hx
      rw [Nat.sub_self,Nat.add_zero] at hx
      have hb:∀{x y:Nat},x≤y→Nat.ble x y=true:=Nat.ble_eq_true_of_le
      simp only [mA]
      rw [hb (by rw [←hm,←Nat.succ_mul];exact av _ (by omega)),ah,hx]
     ·cases he
    ·cases he
   ·cases he
  ·cases he
 ·obtain ⟨d,hd,hl⟩:=nj (by simp [ja]) (by simp [ja])
  split at he
  ·split at he
   ·rename_i agg hs
    split at he
    ·obtain ⟨k1,k2⟩:=bE.1 he
     cases k2
     rw [hd]
     refine go_fe h hV hd hl ja (by assumption) (by assumption) hs (by assumption) ?_
     rcases Bool.or_eq_true _ _ ▸ k1 with h | h
     ·exact .inl h
     ·exact .inr (aw h)
    ·cases he
   ·cases he
  ·cases he
 ·obtain ⟨d,hd,hl⟩:=nj (by simp [ja]) (by simp [ja])
  split at he
  ·split at he
   ·rename_i hs
    obtain ⟨k1,k2⟩:=bE.1 he
    clear he
    have k1:=Nat.le_of_ble_eq_true k1
    rw [hd]
    split at k2
    ·cases k2;exact go_fa h hV hd hl ja (by assumption) hs k1 (by assumption)
    ·cases k2;exact go_pfa h hV hd hl ja (by assumption) hs k1 (by assumption)
    ·split at k2 <;> cases k2
     exact go_fr h hV hd hl ja (by assumption) hs k1 (by assumption) (by assumption)
    ·cases k2
   ·cases he
  ·cases he
 ·obtain ⟨d,hd,hl⟩:=nj (by simp [ja]) (by simp [ja])
  split at he <;> cases he <;> rw [hd]
  ·exact go_nc h hV hd hl ja (by assumption)
  ·exact go_ncr h hV hd hl ja (by assumption)
 ·obtain ⟨d,hd,hl⟩:=nj (by simp [ja]) (by simp [ja])
  split at he
  ·rw [aN] at he
   obtain ⟨y,h1,h2⟩:=he
   cases h2
   rw [hd]
   exact go_ex h hV hd hl (l:=[]) ja (.inl (by assumption)) h1
  ·split at he
   ·rename_i k _
    split at he
    ·rename_i hk
     cases he
     rw [hd]
     have hK:=h.core.key k
     rw [hV.of hk] at hK
     exact go_ext h hV hd hl ja (by assumption) (by assumption) (ft.one hK)
    ·cases he
   ·rw [aN] at he
    obtain ⟨y,h1,h2⟩:=he
    cases h2
    rw [hd]
    exact go_ex h hV hd hl ja (.inr (by assumption)) h1
  ·cases he
 ·obtain ⟨d,hd,hl⟩:=nj (by simp [ja]) (by simp [ja])
  split at he
  ·rw [hd];exact F8 h hV hp hd hl ja (by assumption) he
  ·cases he
 ·have hd:o.dst=none:=by
   unfold uT at l8
   rw [ja] at l8
   cases hd:o.dst with
   | none=>rfl
   | some d=>rw [hd] at l8;cases l8
  split at he
  ·rw [hd];exact Dt h hV hp hd ja (by assumption) (by assumption) he
  ·cases he
 ·obtain ⟨d,hd,hl⟩:=nj (by simp [ja]) (by simp [ja])
  split at he
  ·obtain ⟨c1,c2,c3⟩:=ED he hp
   rw [qF hd c2 c3]
   exact go_ss h hV hd hl ja (by assumption) (by assumption) (by assumption) (by assumption) c1
  ·rename_i c lo hi ht hx h1 h2
   have cx:Hu C.E V _ c lo hi=some e→eJ C o a w (iY S o.dst e):=fun he=>by
    rw [hd];exact JK h hV hE hp hd hl ja hx h1 h2 he
   split at he
   ·rename_i k n
    split at he
    ·rename_i hk
     obtain ⟨k1,k2⟩:=bE.1 he
     cases k2
     simp only [af] at k1
     rw [hd]
     obtain ⟨rfl,_⟩:_=none∧True:=by
      rcases uJ h hV h1 with ⟨e1,_⟩ | ⟨_,_,_,_,e1,_⟩
      ·exact ⟨e1,trivial⟩
      ·cases e1
     obtain ⟨y,rfl⟩:∃y,_=some y:=by
      rcases uJ h hV h2 with ⟨_,e1⟩ | ⟨y,_,_,e1,_⟩
      ·cases e1
      ·exact ⟨y,e1⟩
     exact go_psl h hV hd hl hE ja k1.1 hx (hV.of hk) h2 (hp _ rfl) (iA hV.q k1.2)
    ·exact cx he
   ·exact cx he
  ·cases he
 ·obtain ⟨d,hd,hl⟩:=nj (by simp [ja]) (by simp [ja])
  split at he
  ·split at he
   ·split at he
    ·split at he
     ·obtain ⟨k1,k2⟩:=bE.1 he
      simp only [af,aA] at k1
      obtain ⟨k4,k3⟩:=bE.1 k2
      cases k3
      rw [hd]
      exact go_bl h hV hd hl hE ja (by assumption) (by assumption) (by assumption) (by assumption) (aw k1.1.1) (Nat.le_of_ble_eq_true k1.1.2) k1.2 k4
     ·cases he
    ·cases he
   ·cases he
  ·cases he
 ·obtain ⟨d,hd,hl⟩:=nj (by simp [ja]) (by simp [ja])
  split at he
  ·split at he
   ·split at he
    ·split at he
     ·split at he
      ·obtain ⟨k1,k2⟩:=bE.1 he
       simp only [af,aD,Bool.not_eq_true'] at k1
       cases k2
       rw [hd]
       exact go_bo h hV hd hl hE ja (by assumption) (by assumption) (by assumption) (by assumption) (by assumption) (by assumption) (by assumption) (aw k1.2.1) (fun p hp e=>by have:=k1.2.2 p hp;rw [e,Nat.beq_refl] at this;cases this) (aD.2 k1.1)
      ·cases he
     ·cases he
    ·split at he
     ·split at he
      ·obtain ⟨k1,k2⟩:=bE.1 he
       cases k2
       rw [hd]
       exact go_bd h hV hd hl hE ja (by assumption) (by assumption) (by assumption) (by assumption) (by assumption) k1
      ·cases he
     ·cases he
   ·cases he
  ·cases he
 ·obtain ⟨d,hd,hl⟩:=nj (by simp [ja]) (by simp [ja])
  rw [aN] at he
  obtain ⟨z,h1,h2⟩:=he
  obtain ⟨k1,k2⟩:=bE.1 h2
  cases k2
  rw [hd]
  exact go_al h hd hl hE ja h1 (iA hV.q k1)
 ·obtain ⟨d,hd,hl⟩:=nj (by simp [ja]) (by simp [ja])
  split at he
  ·obtain ⟨k1,k2⟩:=bE.1 he
   cases k2
   simp only [af] at k1
   rw [hd]
   exact go_bx h hd hl hV ja (by assumption) k1.1 (iA hV.q k1.2)
  ·cases he
 ·obtain ⟨d,hd,hl⟩:=nj (by simp [ja]) (by simp [ja])
  split at he
  ·obtain ⟨k1,k2⟩:=bE.1 he
   cases k2
   rw [hd]
   exact go_mk h hd hl hE hV ja (by assumption) (by assumption) (by assumption) (hp _ rfl) (iA hV.q k1)
  ·cases he
 ·cases he
end
end Go.Eng
namespace Go.Eng
open Go.RowKit
theorem rS {l:List TV} (h:sI l=none):∀x∈l,x.HA=none:=by
 induction l with
 | nil=>simp
 | cons x l ih =>
  simp only [sI] at h
  split at h
  ·rename_i h1
   intro y hy
   rcases aP.1 hy with rfl | hy
   ·exact h1
   ·exact ih h y hy
  ·cases h
  ·cases h
theorem wN {l:List TV} (h:sI l=some true):∀x∈l,∀q,x.HA=some q→q=true:=by
 induction l with
 | nil=>simp
 | cons x l ih =>
  simp only [sI] at h
  split at h
  ·rename_i h1
   intro y hy q hq
   rcases aP.1 hy with rfl | hy
   ·rw [h1] at hq;cases hq
   ·exact ih h y hy q hq
  ·rename_i p h1 h2
   cases h
   intro y hy q hq
   rcases aP.1 hy with rfl | hy
   ·rw [h1] at hq;cases hq;rfl
   ·rw [rS h2 y hy] at hq;cases hq
  ·rename_i p q' h1 h2
   have h:=Option.some.inj h
   rw [af] at h
   obtain ⟨rfl,rfl⟩:=h
   intro y hy q hq
   rcases aP.1 hy with rfl | hy
   ·rw [h1] at hq;cases hq;rfl
   ·exact ih h2 y hy q hq
section
variable {C:Ctx} {S V:St} {a:Act} {w:World} {R:Reach} {τ:Nat→Value} {o:Oper} {d:Nat} {e:gX} {K:Act→World→Prop} {Q:Exit→Act→World→Prop}
theorem Cb {x:TV} {g:Gh} {v:Value} (hx:x.Gu=false):dS R w τ (.gd true x) g v ↔ dS R w τ x g v:=by
 cases x <;> first | (cases hx;done) | exact Iff.rfl
theorem Core.Ca {nt:Nat} {dK:Nat→Prop} {S S':St} (h:Core nt R w dK τ S) (h1:∀k,nt≤k→S' k=S k) (h2:∀k,k<nt→(S' k).2=(S k).2) (h3:∀k,k<nt→dS R w τ (S k).1 (S k).2 (τ k)→dS R w τ (S' k).1 (S' k).2 (τ k)):Core nt R w dK τ S':=by
 have hg:∀k,(S' k).2=(S k).2:=fun k=>by
  rcases Nat.lt_or_ge k nt with hk | hk
  ·exact h2 k hk
  ·rw [h1 k hk]
 have hb:∀k,gR τ S' k=gR τ S k:=fun k=>by unfold gR;rw [hg]
 refine ⟨fun k=>?_,fun k k' g a b=>?_,fun k g a=>?_,fun j k hk=>?_,h.re,fun k hk=>by rw [hg];exact h.slt k hk,fun k d hk=>?_⟩
 ·rcases Nat.lt_or_ge k nt with hk | hk
  ·have hs:=h.slt k hk
   have hK:=h.key k
   rw [ji.slot hs] at hK
   rw [ji.slot (by rw [hg];exact hs)]
   exact h3 k hk hK
  ·rw [h1 k hk];exact h.key k
 ·rw [hb] at a b;exact h.sep k k' g a b
 ·rw [hb] at a;exact h.dK k g a
 ·rw [hg] at hk;rw [hg];exact h.inv j k hk
 ·rw [hg] at hk
  have Mk:nt≤k:=by
   rcases Nat.lt_or_ge k nt with RT | RT
   ·have:=h.slt k RT;rw [hk] at this;cases this
   ·exact RT
  have VY:nt≤d:=(h.inv k d (by rw [hk];exact List.mem_singleton.2 rfl)).1
  rw [h1 k Mk,h1 d VY];exact h.par k d hk
theorem eI.Ca {S':St} (h:eI C S a w R τ) (h1:∀k,C.nt≤k→S' k=S k) (h2:∀k,k<C.nt→(S' k).2=(S k).2) (h3:∀k,k<C.nt→dS R w τ (S k).1 (S k).2 (τ k)→dS R w τ (S' k).1 (S' k).2 (τ k)):eI C S' a w R τ :=
 { h with core:=h.core.Ca h1 h2 h3 }
theorem sM (h:eI C S a w R τ) {t:Nat} (ht:t<C.nt):dS R w τ (S t).1 (S t).2 (a.tmps.getD t undef):=by
 have:=h.core.key t
 rw [ji.slot (h.core.slt t ht),←h.tmps t ht] at this
 exact this
theorem yq (h:eI C S a w R τ) {ops:Array Oper} {j t:Nat} {x:Bool} (ht:t<C.nt) (hj:(ops[j]?).bind (·.dst)=some t) (hx:a.tmps.getD t undef = .bool x):yielded ops a.tmps j=some x:=by
 have hs:t<a.tmps.size:=by rw [h.size];exact ht
 have e2:a.tmps[t]?=some (.bool x):=by
  rw [Array.getElem?_eq_getElem hs,←hx];simp [Array.getD,hs]
 simp [yielded,hj,e2]
theorem E2 (h:eI C S a w R τ) {ops:Array Oper} {j t:Nat} (ht:t<C.nt) (hj:(ops[j]?).bind (·.dst)=some t) (hx:a.tmps.getD t undef=undef):yielded ops a.tmps j=none:=by
 have hs:t<a.tmps.size:=by rw [h.size];exact ht
 have e2:a.tmps[t]?=some undef:=by
  rw [Array.getElem?_eq_getElem hs,←hx];simp [Array.getD,hs]
 simp [yielded,hj,e2,undef]
theorem y7 {nt:Nat} {dst:Option Nat} (h:0<nt) (j j':Nat) (e:y8 nt dst j=y8 nt dst j'):j=j':=by
 unfold y8 at e
 have:(j+1) * nt=(j'+1) * nt:=by omega
 have:=Nat.eq_of_mul_eq_mul_right h this
 omega
theorem ph {nt:Nat} {ts:List Nat} {S:St} {k:Nat} (h:k<nt) (hk:k∈ts):kb nt ts S k=((S k).1.bare,(S k).2):=by
 have h1:Nat.blt k nt=true:=Nat.ble_eq_true_of_le h
 have h2:ts.contains k=true:=by simpa using hk
 unfold kb
 simp only [h1,h2,aZ,ah]
theorem nS {nt:Nat} {ts:List Nat} {S:St} {k:Nat} (h:nt≤k∨k ∉ ts):kb nt ts S k=S k:=by
 unfold kb
 cases hb:(Nat.blt k nt&&ts.contains k) with
 | false=>rfl
 | true =>
  exfalso
  simp only [af] at hb
  have h1:k+1≤nt:=Nat.le_of_ble_eq_true hb.1
  have h2:k∈ts:=by simpa using hb.2
  rcases h with h | h
  ·omega
  ·exact h h2
theorem Lt.kb {nt:Nat} {ts:List Nat} (h:Lt V S):Lt (kb nt ts V) (kb nt ts S):=fun k=>by
 by_cases hk:k<nt∧k∈ts
 ·rw [ph hk.1 hk.2,ph hk.1 hk.2]
  exact (h k).imp (fun e=>by rw [e]) id
 ·have:nt≤k∨k ∉ ts:=by
   by_cases h1:k<nt
   ·exact .inr fun h2=>hk ⟨h1,h2⟩
   ·exact .inl (by omega)
  rw [nS this,nS this]
  exact h k
theorem uj:∀{l:List (Nat × Cell)} {S S':St} {k:Nat},k∈l.map (·.1)→fo S l k=fo S' l k
 | (j,x) :: l,S,S',k,h=>by
  simp only [fo]
  by_cases e:k=j
  ·subst e;rw [cj,cj]
  ·rw [dp _ _ e,dp _ _ e]
   rcases aP.1 h with h | h
   ·exact (e h).elim
   ·exact uj h
theorem vF (h:eI C S a w R τ) (hV:Lt V S) (hE:jq C.P C.E) (hF:∀f,bC C.P C.gl f (C.E.fs f)) {d:Nat} {x':Cell} {e0:gX} (hd:o.dst=some d) (hl:d<C.nt) (l8:uT C.nt o=true)
  (KE:∀t∈watch o.op,∀q,(V t).1.HA=some q→q=true) (CN:(watch o.op).all (fun t=>!(V t).1.bare.Gu)=true) (Ql:yH C.P C.E C.nt (y8 C.nt o.dst) (kb C.nt (watch o.op) V) o.type o.op=some e0) (Jr:∀p,e0.p=some p→p=true) (Ig:∀p∈e0.ws,C.nt≤p.1)
  (Ks:x'.2=e0.x.2) (hx:∀(R:Reach) (w:World) (τ:Nat→Value) (v:Value),dS R w τ e0.x.1 e0.x.2 v→dS R w τ x'.1 x'.2 v) (hK:∀a' w',Sim C (cR (fo S e0.ws) d x') a' w'→K a' w'):o.wp C.P a w K Q:=by
 let S':St:=fun k=>if (V k).2 = .hid then S k else kb C.nt (watch o.op) S k
 have bk:∀k,S' k=S k∨(k<C.nt∧S' k=((S k).1.bare,(S k).2)∧(S k).1.bare.Gu=false∧∀q,(S k).1.HA=some q→q=true):=fun k=>by
  show (if (V k).2 = .hid then S k else kb C.nt (watch o.op) S k)=S k∨_
  by_cases hh:(V k).2 = .hid
  ·left;rw [au hh]
  by_cases hk:k<C.nt∧k∈watch o.op
  ·right
   have e:=(hV k).resolve_right hh
   have hn:=aD.1 CN k hk.2
   refine ⟨hk.1,?_,?_,?_⟩
   ·show (if (V k).2 = .hid then S k else kb C.nt (watch o.op) S k)=_
    rw [ao hh,ph hk.1 hk.2]
   ·rw [←e];simpa using hn
   ·rw [←e];exact KE k hk.2
  ·left
   rw [ao hh,nS]
   by_cases h1:k<C.nt
   ·exact .inr fun h2=>hk ⟨h1,h2⟩
   ·exact .inl (by omega)
 have conv:∀{R:Reach} {w:World} {τ:Nat→Value} k,k<C.nt→(S' k).2=(S k).2∧(dS R w τ (S k).1 (S k).2 (τ k) ↔ dS R w τ (S' k).1 (S' k).2 (τ k)):=fun {R w τ} k _=>by
  rcases bk k with e | ⟨_,e,h1,h2⟩
  ·rw [e];exact ⟨rfl,Iff.rfl⟩
  ·rw [e]
   refine ⟨rfl,?_⟩
   generalize S k=c at *
   obtain ⟨x,g⟩:=c
   cases x <;> first | exact Iff.rfl | skip
   rename_i q x
   have:=h2 q rfl
   subst this
   exact Cb h1
 have NL:eI C S' a w R τ:=h.Ca (fun k hk=>by
  rcases bk k with e | ⟨h1,_⟩
  ·exact e
  ·omega) (fun k hk=>(conv (R:=R) (w:=w) (τ:=τ) k hk).1) fun k hk=>(conv k hk).2.1
 have Qo:Lt (kb C.nt (watch o.op) V) S':=fun k=>by
  show _=(if (V k).2 = .hid then S k else kb C.nt (watch o.op) S k)∨_
  by_cases hh:(V k).2 = .hid
  ·right
   by_cases hk:k<C.nt∧k∈watch o.op
   ·rw [ph hk.1 hk.2];exact hh
   ·rw [nS]
    ·exact hh
    ·by_cases h1:k<C.nt
     ·exact .inr fun h2=>hk ⟨h1,h2⟩
     ·exact .inl (by omega)
  ·rw [ao hh];exact hV.kb k
 have Ij:=yG NL Qo hE Jr hF (fun hn=>y7 hn) l8 Ql
 refine Ij K Q fun a' w' zL=>hK _ _ ?_
 obtain ⟨R2,AI,zL⟩:=zL
 rw [hd] at zL
 simp only [iY] at zL
 have put:∀k,fo S e0.ws k=fo S' e0.ws k∨(k<C.nt∧fo S e0.ws k=S k∧fo S' e0.ws k=S' k):=fun k=>by
  by_cases hk:k<C.nt
  ·have hn:∀p∈e0.ws,p.1≠k:=fun p hp e=>by have:=Ig p hp;omega
   exact .inr ⟨hk,ix hn,ix hn⟩
  ·left
   by_cases hm:k∈e0.ws.map (·.1)
   ·exact uj hm
   ·have hn:∀p∈e0.ws,p.1≠k:=fun p hp e=>hm (bg.2 ⟨p,hp,e⟩)
    rw [ix hn,ix hn]
    rcases bk k with e | ⟨h1,_⟩
    ·exact e.symm
    ·exact (hk h1).elim
 refine ⟨R2,AI,zL.Ca (fun k hk=>?_) (fun k hk=>?_) fun k hk=>?_⟩
 ·have hk:C.nt≤k:=hk
  have nN:k≠d:=Nat.ne_of_gt (Nat.lt_of_lt_of_le hl hk)
  rw [dp _ _ nN,dp _ _ nN]
  rcases put k with e | ⟨h1,_⟩
  ·exact e
  ·omega
 ·by_cases e:k=d
  ·subst e;rw [cj,cj];exact Ks
  ·rw [dp _ _ e,dp _ _ e]
   rcases put k with e | ⟨h1,e1,e2⟩
   ·rw [e]
   ·rw [e1,e2];exact (conv (R:=R) (w:=w) (τ:=τ) k h1).1.symm
 ·by_cases e:k=d
  ·subst e;rw [cj,cj];exact hx _ _ _ _
  ·rw [dp _ _ e,dp _ _ e]
   rcases put k with e | ⟨h1,e1,e2⟩
   ·rw [e];exact id
   ·rw [e1,e2];exact (conv k h1).2.2
theorem step_ok (h:eI C S a w R τ) (hV:Lt V S) (hE:jq C.P C.E) (hF:∀f,bC C.P C.gl f (C.E.fs f)) {ops:Array Oper} (hp:∀p,e.p=some p→p=true) (he:mU C.P C.E C.nt ops o V=some e) (hK:∀a' w',Sim C (iY S o.dst e) a' w'→K a' w') :
  if Region.wanted o (yielded ops a.tmps) then o.wp C.P a w K Q∨(o.asks C.P a w∧LetsOut Q) else K (a.put o.dst undef) w:=by
 unfold mU at he
 obtain ⟨l8,he⟩:=bE.1 he
 split at he
 ·rename_i hg
  simp only [Region.wanted,hg,if_true]
  exact .inl (yG h hV hE hp hF (fun hn=>y7 hn) l8 he K Q hK)
 ·rename_i j b hg
  split at he
  ·rename_i t hj
   split at he
   ·rename_i x V3
    split at he
    ·rename_i c e0 hc Ql
     obtain ⟨h1,NG⟩:=bE.1 he
     simp only [af] at h1
     obtain ⟨ht,VX,CN⟩:=h1
     have ht:t<C.nt:=Nat.le_of_ble_eq_true ht
     obtain ⟨d,hd⟩:=Option.isSome_iff_exists.1 VX
     have hl:d<C.nt:=by
      unfold uT at l8
      split at l8
      ·rename_i ER;rw [hd] at ER;cases ER
      ·cases l8
      ·rename_i ER;rw [hd] at ER;cases ER
      ·rename_i ER _;rw [hd] at ER;cases ER;exact Nat.le_of_ble_eq_true l8
      ·cases l8
     -- the guard
     have Qf:=sM h ht
     have V7:S t=(x,.no):=hV.of V3
     rw [V7] at Qf
     have hw:Region.wanted o (yielded ops a.tmps)=c:=by
      unfold GU at hc
      split at hc
      ·rename_i y
       cases hc
       have:=(jF.rep Qf).dJ rfl
       simp only [Region.wanted,hg,yq h ht hj this]
       cases b <;> cases y <;> rfl
      ·rename_i q y
       cases hc
       cases q with
       | false =>
        simp only [Region.wanted,hg,E2 h ht hj Qf]
        try (cases b <;> cases y <;> rfl)
       | true =>
        have:Rep R w (.b y) (a.tmps.getD t undef):=Qf
        simp only [Region.wanted,hg,yq h ht hj (this.dJ rfl)]
        cases b <;> cases y <;> rfl
      ·cases hc
     cases hf:C.E.ld.contains (y8 C.nt o.dst 1) with
     | true =>
      rw [hf,ah] at NG
      unfold G2 at NG
      obtain ⟨h2,RY⟩:=bE.1 NG
      cases RY
      have Ig:∀p∈e0.ws,C.nt≤p.1:=fun p hp=>Nat.le_of_ble_eq_true (aD.1 h2 p hp)
      have hp:=hp _ rfl
      simp only at hp
      have Jw:c=true∧(∀r,sI ((watch o.op).map fun t=>(V t).1)=some r→r=true)∧∀p,e0.p=some p→p=true:=by
       cases hq:sI ((watch o.op).map fun t=>(V t).1) with
       | none =>
        cases GM:e0.p with
        | none=>rw [hq,GM] at hp;exact ⟨hp,fun r hr=>(by cases hr),fun p AL=>(by cases AL)⟩
        | some p0=>rw [hq,GM] at hp;simp only [af] at hp;exact ⟨hp.1,fun r hr=>(by cases hr),fun p AL=>(by cases AL;exact hp.2)⟩
       | some q0 =>
        cases GM:e0.p with
        | none=>rw [hq,GM] at hp;simp only [af] at hp;exact ⟨hp.1,fun r hr=>(by cases hr;exact hp.2),fun p AL=>(by cases AL)⟩
        | some p0=>rw [hq,GM] at hp;simp only [af] at hp;exact ⟨hp.1,fun r hr=>(by cases hr;exact hp.2.1),fun p AL=>(by cases AL;exact hp.2.2)⟩
      obtain ⟨Il,vu,OG⟩:=Jw
      rw [hw,Il,au rfl]
      left
      refine vF h hV hE hF hd hl l8 (fun t ht q hq=>?_) CN Ql OG Ig rfl (fun _ _ _ _ k=>k) (fun a' w' hs=>hK a' w' (by rw [hd];exact hs))
      have hm:(V t).1∈(watch o.op).map fun t=>(V t).1:=List.mem_map_of_mem (f:=fun t=>(V t).1) ht
      generalize uO:sI ((watch o.op).map fun t=>(V t).1)=r at vu
      cases r with
      | none=>rw [rS uO _ hm] at hq;cases hq
      | some r=>have:=vu r rfl;subst this;exact wN uO _ hm q hq
     | false =>
      rw [hf,ae] at NG
      unfold E6 at NG
      obtain ⟨h2,RY⟩:=bE.1 NG
      cases RY
      simp only [af,Bool.not_eq_true',List.isEmpty_iff] at h2
      obtain ⟨⟨Ig,NB,RH⟩,RM⟩:=h2
      have VK:∀k∈e0.x.2.df,C.nt≤k∧(S k).2 ≠ .no:=fun k hk=>by
       have:=aD.1 RM k hk
       simp only [SQ,af] at this
       refine ⟨Nat.le_of_ble_eq_true this.1,?_⟩
       rcases hV k with e | e
       ·rw [←e];intro e';rw [e'] at this;cases this.2
       ·rw [e] at this;cases this.2
      rw [hw]
      cases c with
      | false =>
       simp only [bp,if_false]
       rw [hd]
       refine hK _ _ ?_
       rw [hd]
       exact h.Oe hl (x := .gd false e0.x.1) (v:=undef) rfl NB VK
      | true =>
       simp only [if_true]
       have KE:∀t∈watch o.op,∀q,(V t).1.HA=some q→q=true:=by
        intro t ht q hq
        have hm:(V t).1∈(watch o.op).map fun t=>(V t).1:=List.mem_map_of_mem (f:=fun t=>(V t).1) ht
        generalize uO:sI ((watch o.op).map fun t=>(V t).1)=r at hp
        cases r with
        | none=>rw [rS uO _ hm] at hq;cases hq
        | some r =>
         have:r=true:=by
          cases GM:e0.p with
          | none=>have:=hp _ (by simp only [GM];rfl);simpa using this
          | some p=>have:=hp _ (by simp only [GM];rfl);simp at this;exact this.1
         subst this
         exact wN uO _ hm q hq
       have Jr:∀p,e0.p=some p→p=true:=fun p GM=>by
        generalize sI ((watch o.op).map fun t=>(V t).1)=r at hp
        cases r with
        | none=>have:=hp _ (by simp only [GM];rfl);simpa using this
        | some r=>have:=hp _ (by simp only [GM];rfl);simp at this;exact this.2
       left
       refine vF h hV hE hF hd hl l8 KE CN Ql Jr (by rw [Ig];simp) (x':=(.gd true e0.x.1,e0.x.2)) rfl (fun _ _ _ _ k=>(Cb RH).2 k) (fun a' w' hs=>hK a' w' ?_)
       rw [hd]
       simp only [iY,fo]
       rw [Ig] at hs
       exact hs
    ·cases he
   ·cases he
  ·cases he
end
end Go.Eng
namespace Go.Eng
open Go.RowKit
theorem Ao {X:Type} {p:Option Bool} {x:Option X} {r:X} (h:JM p x=some r):(∀q,p=some q→q=true)∧x=some r:=by
 unfold JM at h
 split at h
 ·exact ⟨by simp,h⟩
 ·rename_i p
  cases p with
  | true=>exact ⟨by rintro q e;cases e;rfl,h⟩
  | false=>cases h
section
variable {L:Nat→Prop} {ops:List Oper}
theorem qI (AO:∀i o,ops[i]?=some o→L i→∀e∈r8 o,L e):∀(rest pre:List Oper) (acc:List (List Nat)),ops=pre++rest→acc.length=pre.length →
  (∀i o,i<acc.length→ops[i]?=some o→(∀e∈r8 o,L e)→∀j∈acc.getD i [],L j) →
  ∀i o,ops[i]?=some o→(∀e∈r8 o,L e)→∀j∈(rest.foldl (fun acc o=>acc++[(r8 o).flatMap fun e=>e :: (acc.getD e [])]) acc).getD i [],L j
 | [],pre,acc,e,hl,inv=>by
  intro i o hi hb j hj
  simp only [bj] at e
  subst e
  have:i<acc.length:=by
   rw [hl]
   exact (aH.1 hi).1
  exact inv i o this hi hb j hj
 | r :: rest,pre,acc,e,hl,inv=>by
  simp only [List.foldl_cons]
  refine qI AO rest (pre++[r]) _ (by simp [e]) (by simp [hl]) ?_
  intro i o hi ho hb j hj
  by_cases gk:i<acc.length
  ·rw [ai,List.getElem?_append_left gk,←ai] at hj
   exact inv i o gk ho hb j hj
  ·have qM:i=acc.length:=by simp at hi;omega
   subst qM
   rw [ai,aR (Nat.le_refl _)] at hj
   simp only [Nat.sub_self,List.getElem?_cons_zero,Option.getD_some,List.mem_flatMap,aP] at hj
   have hr:o=r:=by
    rw [e,hl,aR (Nat.le_refl _)] at ho
    simpa using ho.symm
   subst hr
   obtain ⟨x,hx,rfl | hj⟩:=hj
   ·exact hb _ hx
   ·by_cases Qa:x<acc.length
    ·have SW:x<ops.length:=by rw [e];simp;omega
     exact inv x _ Qa (ar SW) (AO x _ (ar SW) (hb x hx)) j hj
    ·simp [List.getD,List.getElem?_eq_none (Nat.le_of_not_lt Qa)] at hj
theorem uY (AO:∀i o,ops[i]?=some o→L i→∀e∈r8 o,L e) {i:Nat} {o:Oper} (hi:ops[i]?=some o) (hb:∀e∈r8 o,L e):∀j∈(mI ops).getD i [],L j :=
 qI AO ops [] [] rfl rfl (fun _ _ h=>by simp at h) i o hi hb
theorem BS (NF:td ops=true) {i j:Nat} {o:Oper} (hi:ops[i]?=some o) (hj:j∈(mI ops).getD i []):j<i:=by
 have hb:∀k p,ops[k]?=some p→∀e∈r8 p,e<k:=fun k p hk e he=>by
  have hm:(p,k)∈ops.zipIdx:=List.mem_zipIdx_iff_getElem?.2 (by simpa using hk)
  have:=aD.1 (aD.1 NF _ hm) e he
  simpa using this
 exact uY (L:=fun k=>k<i) (fun k p hk hl e he=>Nat.lt_trans (hb k p hk e he) hl) hi (hb i o hi) j hj
end
theorem Ir {A:Type} {l:List A} {p:A × Nat→Bool} (h:l.zipIdx.all p=true) {i:Nat} {x:A} (hi:l[i]?=some x):p (x,i)=true :=
 aD.1 h _ (List.mem_zipIdx_iff_getElem?.2 (by simpa using hi))
theorem zW (l:Array Bool) (i x:Nat) (d:Bool):(l.setIfInBounds i true).getD x d=if i=x then (if i<l.size then true else d) else l.getD x d:=by
 simp only [Array.getD_eq_getD_getElem?,Array.getElem?_setIfInBounds]
 split
 ·split <;> rfl
 ·rfl
def gj (n:Nat) (listed:Array Bool):List Nat:=(List.range n).filter fun i=>!listed.getD i true
theorem yV {n i:Nat} {listed:Array Bool} (hs:listed.size=n) (hi:i<n):gj n (listed.setIfInBounds i true)=(gj n listed).filter (fun j=>decide (j≠i)):=by
 simp only [gj,List.filter_filter]
 apply List.filter_congr
 intro j hj
 have hj:j<n:=by simpa using hj
 by_cases h:j=i
 ·subst h
  simp [Array.getD,hs,hi]
 ·have:i≠j:=fun e=>h e.symm
  simp [Array.getD,hs,hj,Array.getElem_setIfInBounds,h,this]
theorem uA {listed:Array Bool} {n i:Nat} (hs:listed.size=n) (hi:i<n):listed.getD i true=listed.getD i false:=by simp [Array.getD,hs,hi]
theorem rN (S:St) (d:Option Nat) (e:gX):iY S d e=fo S (d.toList.map (fun d=>(d,e.x))++e.ws):=by
 cases d <;> rfl
theorem zE (d:Option Nat) (e:gX):(d.toList.map (fun d=>(d,e.x))++e.ws).map (·.1)=ky d e:=by
 unfold ky;cases d <;> simp
theorem lk {S:St} {d:Option Nat} {e:gX} {k:Nat} (h:k ∉ ky d e):iY S d e k=S k:=by
 rw [rN]
 refine ix fun p hp ep=>h ?_
 rw [←zE]
 exact bg.2 ⟨p,hp,ep⟩
theorem C0 {S S':St} {d:Option Nat} {e:gX} {k:Nat} (h:k∈ky d e):iY S d e k=iY S' d e k:=by
 rw [rN,rN]
 exact uj (by rw [zE];exact h)
theorem Eu {S:St} {d d':Option Nat} {e e':gX} (h:∀k∈ky d e,k ∉ ky d' e'):iY (iY S d e) d' e'=iY (iY S d' e') d e:=by
 funext k
 by_cases h1:k∈ky d e
 ·rw [lk (h k h1),C0 (S':=iY S d' e') h1]
 ·by_cases h2:k∈ky d' e'
  ·rw [lk (S:=iY S d' e') h1,C0 (S':=S) h2]
  ·rw [lk h2,lk h1,lk h1,lk h2]
section
variable {C:Ctx} {Q:Exit→Act→World→Prop}
theorem eI.drew {S:St} {a:Act} {w:World} {R:Reach} {τ:Nat→Value} (h:eI C S a w R τ):eI C S a { w with drawn:=w.drawn+1 } R τ:=by
 have dM:dT R w R { w with drawn:=w.drawn+1 }:=fun b o hr=>⟨hr,rfl⟩
 refine ⟨h.size,h.defers,h.core.step (fun _=>False) dM (fun _ _=>⟨rfl,rfl⟩) (fun _ _ _ _=>⟨rfl,fun _=>id⟩) (fun _=>False.elim) (fun _=>False.elim) (fun _=>False.elim) (fun _=>False.elim) (fun _=>False.elim) (fun _ _=>False.elim) (fun _=>id) (fun _=>False.elim) h.core.re (fun _=>False.elim),h.tmps,h.io,?_,h.gl.dM dM⟩
 exact h.ext.trans (io':=C.io) ⟨rfl,rfl,rfl,Nat.le_refl _,fun _ _ _=>rfl,dM,fun b o hr => .inl hr⟩ fun b hb => .inl hb
theorem CB (hE:jq C.P C.E) (hF:∀f,bC C.P C.gl f (C.E.fs f)) {X:Type} {ops:Array Oper}:∀{os:List Oper} {S:St} {a:Act} {w:World} {K:St→Option X} {r:X},Sim C S a w→DA C.P C.E C.nt ops os S K=some r→(∀S' a' w',Sim C S' a' w'→K S'=some r→Q .normal a' w')→wpList C.P ops Q os a w
 | [],S,a,w,K,r,h,hr,hQ=>hQ _ _ _ h hr
 | o :: os,S,a,w,K,r,⟨R,τ,h⟩,hr,hQ=>by
  rw [Dz] at hr
  split at hr
  ·rename_i e he
   obtain ⟨hp,hr⟩:=Ao hr
   unfold wpList
   exact step_ok h (Lt.refl S) hE hF hp he fun a' w' h'=>CB hE hF h' hr hQ
  ·cases hr
structure Ns (C:Ctx) (ops:Array Oper) (l:List (St × gX)):Prop where
 step:∀(i:Nat) (o:Oper) (V:St) (e:gX),ops.toList[i]?=some o→l[i]?=some (V,e)→mU C.P C.E C.nt ops o V=some e∧∀p,e.p=some p→p=true
 off:∀(i j:Nat) (o o':Oper) (V V':St) (e e':gX),i≠j→ops.toList[i]?=some o→ops.toList[j]?=some o'→l[i]?=some (V,e)→l[j]?=some (V',e')→j ∉ (mI ops.toList).getD i []→i ∉ (mI ops.toList).getD j [] →
  ∀k∈ky o'.dst e',(V k).2 = .hid∧k ∉ ky o.dst e
def Rn (ops:Array Oper) (l:List (St × gX)):List Nat→St→St→Prop
 | [],S,S'=>S'=S
 | i :: r,S,S'=>∃V e o,ops.toList[i]?=some o∧l[i]?=some (V,e)∧Lt V S∧Rn ops l r (iY S o.dst e) S'
theorem Lt.KJ {V S:St} {d:Option Nat} {e:gX} (h:∀k∈ky d e,(V k).2 = .hid):Lt V S ↔ Lt V (iY S d e):=by
 constructor
 ·intro hl k
  by_cases hk:k∈ky d e
  ·exact .inr (h k hk)
  ·rw [lk hk];exact hl k
 ·intro hl k
  by_cases hk:k∈ky d e
  ·exact .inr (h k hk)
  ·have:=hl k
   rwa [lk hk] at this
theorem Rn.front {ops:Array Oper} {l:List (St × gX)} (hp:Ns C ops l) {i:Nat} {B:List Nat}:∀{A:List Nat} {S S':St},Rn ops l (A++i :: B) S S'→(∀j∈A,j≠i∧j ∉ (mI ops.toList).getD i []∧i ∉ (mI ops.toList).getD j [])→Rn ops l (i :: (A++B)) S S'
 | [],_,_,h,_=>h
 | j :: A,S,S',⟨V,e,o,h1,h2,h3,h4⟩,hA=>by
  obtain ⟨V',e',o',k1,k2,k3,k4⟩:=Rn.front hp h4 fun x hx=>hA x (List.mem_cons_of_mem _ hx)
  obtain ⟨nN,ha,hb⟩:=hA j (List.mem_cons_self ..)
  have o1:=hp.off j i o o' V V' e e' nN h1 k1 h2 k2 hb ha
  have o2:=hp.off i j o' o V' V e' e (Ne.symm nN) k1 h1 k2 h2 ha hb
  refine ⟨V',e',o',k1,k2,(Lt.KJ fun k hk=>(o2 k hk).1).2 k3,V,e,o,h1,h2,(Lt.KJ fun k hk=>(o1 k hk).1).1 h3,?_⟩
  rwa [Eu fun k hk=>(o1 k hk).2]
def Ch:List Oper→List (St × gX)→St→St→Prop
 | [],[],S,S'=>S'=S
 | o :: os,(V,e) :: l,S,S'=>Lt V S∧Ch os l (iY S o.dst e) S'
 | _,_,_,_=>False
theorem Ch.rn {ops:Array Oper} {l:List (St × gX)}:∀(n i:Nat) {S S':St},ops.toList.length=i+n→Ch (ops.toList.drop i) (l.drop i) S S'→Rn ops l (List.range' i n) S S'
 | 0,i,S,S',hn,h=>by
  rw [List.drop_eq_nil_of_le (by omega)] at h
  cases hl:l.drop i with
  | nil=>rw [hl] at h;exact h
  | cons p r=>rw [hl] at h;cases h
 | n+1,i,S,S',hn,h=>by
  have hi:i<ops.toList.length:=by omega
  rw [List.drop_eq_getElem_cons hi] at h
  cases hl:l.drop i with
  | nil=>rw [hl] at h;cases h
  | cons p r =>
   obtain ⟨V,e⟩:=p
   rw [hl] at h
   obtain ⟨h1,h2⟩:=h
   have hg:l[i]?=some (V,e):=by
    have:(l.drop i)[0]?=some (V,e):=by rw [hl];rfl
    rwa [List.getElem?_drop,Nat.add_zero] at this
   have hr:l.drop (i+1)=r:=by rw [←List.drop_drop,hl];rfl
   exact ⟨V,e,_,ar hi,hg,h1,Ch.rn n (i+1) (by omega) (by rw [hr];exact h2)⟩
theorem F4 (ds:List Nat) (S:St):Lt (pC ds S) S:=fun k=>by
 unfold pC
 cases ds.contains k with
 | true=>exact .inr rfl
 | false=>exact .inl rfl
theorem DY {ds:List Nat} {S:St} {k:Nat} (h:k∈ds):(pC ds S k).2 = .hid:=by
 unfold pC
 have:ds.contains k=true:=by simpa using h
 rw [this];rfl
theorem Ce {X:Type} {ops:Array Oper} {W B:List (List Nat)} {K:St→Option X} {r:X}:∀{os:List Oper} {i:Nat} {S:St},DC C.P C.E C.nt ops W B i os S K=some r →
  ∃l S',l.length=os.length∧Ch os l S S'∧K S'=some r∧∀(n:Nat) (o:Oper) (V:St) (e:gX),os[n]?=some o→l[n]?=some (V,e)→(∃S0,V=pC (rq W B (i+n)) S0)∧mU C.P C.E C.nt ops o V=some e∧(∀p,e.p=some p→p=true)∧ky o.dst e=W.getD (i+n) []∧∀k∈rq W B (i+n),k ∉ W.getD (i+n) []
 | [],i,S,h=>⟨[],S,rfl,rfl,h,by simp⟩
 | o :: os,i,S,h=>by
  rw [DB] at h
  split at h
  ·rename_i e he
   obtain ⟨h1,h2⟩:=bE.1 h
   obtain ⟨hp,h3⟩:=Ao h2
   obtain ⟨l,S',k1,k2,k3,k4⟩:=Ce h3
   simp only [af,aA] at h1
   refine ⟨(pC (rq W B i) S,e) :: l,S',by simp [k1],⟨F4 _ _,k2⟩,k3,fun n o' V e' hn hl=>?_⟩
   cases n with
   | zero =>
    cases hn;cases hl
    refine ⟨⟨S,rfl⟩,he,hp,h1.1,fun k hk=>?_⟩
    have:=aD.1 h1.2 k hk
    simpa using this
   | succ n =>
    have:=k4 n o' V e' (by simpa using hn) (by simpa using hl)
    rwa [show i+1+n=i+(n+1) by omega] at this
  ·cases h
theorem Nf (hE:jq C.P C.E) (hF:∀f,bC C.P C.gl f (C.E.fs f)) {ops:Array Oper} {l:List (St × gX)} (hlen:l.length=ops.size) (yf:Ns C ops l) (NF:td ops.toList=true) {S':St} (hQ:∀a' w',Sim C S' a' w'→Q .normal a' w') :
  ∀(fuel:Nat) {listed:Array Bool} {S:St} {a:Act} {w:World},Sim C S a w→listed.size=ops.size →
   (∀i o,ops.toList[i]?=some o→listed.getD i false=true→∀e∈r8 o,listed.getD e false=true) →
   (gj ops.size listed).length≤fuel→Rn ops l (gj ops.size listed) S S'→wpAny C.P .any ops Q fuel listed a w:=by
 have RG:∀{listed:Array Bool},listed.size=ops.size→Region.ready .any ops listed=[]→gj ops.size listed=[]:=by
  intro listed hs hr
  cases GD:gj ops.size listed with
  | nil=>rfl
  | cons i rest =>
   exfalso
   have rF:i∈gj ops.size listed:=by rw [GD];exact List.mem_cons_self ..
   have Kz:=rF
   simp only [gj,List.mem_filter,List.mem_range,Bool.not_eq_true'] at Kz
   obtain ⟨hi,hl⟩:=Kz
   have zK:(gj ops.size listed).Pairwise (· < ·):=List.Pairwise.filter _ List.pairwise_lt_range
   have Ju:ops.toList[i]?=some ops[i]:=by simp [hi]
   have hb:=Ir NF Ju
   have:i∈Region.ready .any ops listed:=by
    simp only [Region.ready,List.mem_filter,List.mem_range]
    refine ⟨hi,?_⟩
    simp only [hl,aI,Bool.true_and,Array.getElem?_eq_getElem hi,Option.map_some,Option.getD_some,Array.all_eq_true_iff_forall_mem,Bool.or_eq_true,Bool.not_eq_true']
    intro e he
    cases O8:Region.binds .any e with
    | false=>exact .inl rfl
    | true =>
     right
     have gk:e.on<i:=by
      have:e.on∈r8 ops[i]:=bg.2 ⟨e,List.mem_filter.2 ⟨by simpa using he,O8⟩,rfl⟩
      have lr:=aD.1 hb _ this
      simpa using lr
     cases hle:listed.getD e.on false with
     | true=>rfl
     | false =>
      have EP:e.on∈gj ops.size listed:=by
       simp only [gj,List.mem_filter,List.mem_range,Bool.not_eq_true']
       exact ⟨by omega,by rw [uA hs (by omega)];exact hle⟩
      rw [GD] at EP zK
      rcases aP.1 EP with h | h
      ·omega
      ·have:=(List.pairwise_cons.1 zK).1 _ h
       omega
   rw [hr] at this
   cases this
 intro fuel
 induction fuel with
 | zero =>
  intro listed S a w h hs xD hf hr
  have h0:gj ops.size listed=[]:=by simpa using hf
  rw [h0] at hr
  cases hr
  refine ⟨?_,hQ _ _ h⟩
  cases L4:Region.ready .any ops listed with
  | nil=>rfl
  | cons i rest =>
   have:i∈Region.ready .any ops listed:=by rw [L4];exact List.mem_cons_self ..
   simp only [Region.ready,List.mem_filter,List.mem_range,af] at this
   have h1:i∈gj ops.size listed:=by
    simp only [gj,List.mem_filter,List.mem_range]
    exact ⟨this.1,this.2.1⟩
   rw [h0] at h1
   cases h1
 | succ fuel ih =>
  intro listed S a w h hs xD hf hr
  refine ⟨fun L4=>?_,fun i hi=>?_⟩
  ·rw [RG hs L4] at hr
   cases hr
   exact hQ _ _ h
  ·simp only [Region.ready,List.mem_filter,List.mem_range,af] at hi
   obtain ⟨EP,OU,Ti⟩:=hi
   have OS:i∈gj ops.size listed:=by
    simp only [gj,List.mem_filter,List.mem_range]
    exact ⟨EP,OU⟩
   have Ju:ops.toList[i]?=some ops[i]:=by simp [EP]
   simp only [Array.getElem?_eq_getElem EP,Option.map_some,Option.getD_some,Array.all_eq_true_iff_forall_mem,Bool.or_eq_true,Bool.not_eq_true'] at Ti
   have Eg:∀e∈r8 ops[i],listed.getD e false=true:=by
    intro e he
    simp only [r8,bg,List.mem_filter] at he
    obtain ⟨x,⟨hx,hb⟩,rfl⟩:=he
    rcases Ti x (by simpa using hx) with h | h
    ·rw [hb] at h;cases h
    ·exact h
   obtain ⟨A,B,Mw⟩:=List.append_of_mem OS
   have zK:(gj ops.size listed).Pairwise (· < ·):=List.Pairwise.filter _ List.pairwise_lt_range
   rw [Mw,List.pairwise_append] at zK
   obtain ⟨-,hB,hA⟩:=zK
   have TE:∀j∈A,j<i:=fun j hj=>hA j hj i (List.mem_cons_self ..)
   have Wi:∀j∈B,i<j:=fun j hj=>(List.pairwise_cons.1 hB).1 j hj
   rw [Mw] at hr
   have Mn:=hr.front yf (fun j hj=>by
    have RU:=TE j hj
    have OQ:j∈gj ops.size listed:=by rw [Mw];exact List.mem_append_left _ hj
    simp only [gj,List.mem_filter,List.mem_range,Bool.not_eq_true'] at OQ
    refine ⟨by omega,fun hb=>?_,fun hb=>?_⟩
    ·have h3:=uY (L:=fun e=>listed.getD e false=true) xD Ju Eg j hb
     rw [uA hs OQ.1,h3] at OQ
     cases OQ.2
    ·have VQ:ops.toList[j]?=some ops[j]:=by simp [OQ.1]
     have:=BS NF VQ hb
     omega)
   obtain ⟨V,e,o,k1,k2,k3,k4⟩:=Mn
   rw [Ju] at k1;cases k1
   obtain ⟨s1,s2⟩:=yf.step i _ V e Ju k2
   obtain ⟨R,τ,h⟩:=h
   simp only [wpOp,Array.getElem?_eq_getElem EP]
   refine step_ok h k3 hE hF s2 s1 fun a' w' h'=>?_
   have S2:gj ops.size (listed.setIfInBounds i true)=A++B:=by
    rw [yV hs EP,Mw,List.filter_append,List.filter_cons]
    simp only [ne_eq,not_true_eq_false,decide_false,bp,if_false]
    rw [List.filter_eq_self.2 (fun j hj=>by have:=TE j hj;simp;omega),List.filter_eq_self.2 (fun j hj=>by have:=Wi j hj;simp;omega)]
   refine ih h' (by simp [hs]) ?_ ?_ ?_
   ·intro j o hj Qi e he
    have Jp:∀x,listed.getD x false=true→(listed.setIfInBounds i true).getD x false=true:=by
     intro x hx
     rw [zW]
     split
     ·rename_i ND
      subst ND
      rw [au (by rw [hs];exact EP)]
     ·exact hx
    by_cases RU:j=i
    ·subst RU
     rw [Ju] at hj
     cases hj
     exact Jp _ (Eg e he)
    ·refine Jp _ (xD j o hj ?_ e he)
     have VS:i≠j:=fun e=>RU e.symm
     rw [zW,ao VS] at Qi
     exact Qi
   ·rw [S2]
    rw [Mw] at hf
    simp at hf ⊢
    omega
   ·rw [S2];exact k4
theorem DI (hE:jq C.P C.E) (hF:∀f,bC C.P C.gl f (C.E.fs f)) {X:Type} {id:Nat} {ops:Array Oper} {draw:Bool} {S:St} {a:Act} {w:World} {K:St→Option X} {r:X} (h:Sim C S a w) (hr:Dy C.P C.E C.nt ops draw S K=some r) (hQ:∀S' a' w',Sim C S' a' w'→K S'=some r→Q .normal a' w'):(Code.region id ops draw).wp C.P Q a w:=by
 cases draw with
 | false=>exact wp_region_list (CB hE hF h hr hQ)
 | true =>
  simp only [Dy] at hr
  obtain ⟨NF,hr⟩:=bE.1 hr
  split at hr
  ·rename_i W _
   obtain ⟨l,S',k1,k2,k3,k4⟩:=Ce hr
   simp only [Nat.zero_add] at k4
   have hlen:l.length=ops.size:=by simpa using k1
   have yf:Ns C ops l:=⟨fun i o V e ho hl=>⟨(k4 i o V e ho hl).2.1,(k4 i o V e ho hl).2.2.1⟩,fun i j o o' V V' e e' nN ho VF hl Td hj hi k hk=>by
    obtain ⟨⟨S0,rfl⟩,_,_,a1,a2⟩:=k4 i o V e ho hl
    obtain ⟨_,_,_,b1,_⟩:=k4 j o' V' e' VF Td
    rw [b1] at hk
    have EP:k∈rq W (mI ops.toList) i:=by
     unfold rq
     rcases Nat.lt_or_ge j W.length with gk | GJ
     ·refine List.mem_flatMap.2 ⟨(W[j],j),List.mem_filter.2 ⟨List.mem_zipIdx_iff_getElem?.2 (by simp [ar gk]),?_⟩,?_⟩
      ·have e1:Nat.beq j i=false:=by
        cases hb:Nat.beq j i with
        | false=>rfl
        | true=>exact (nN (aw hb).symm).elim
       simp only [e1,aI,Bool.true_and,af,Bool.not_eq_true']
       exact ⟨by simpa using hj,by simpa using hi⟩
      ·rwa [ai,ar gk] at hk
     ·rw [ai,List.getElem?_eq_none GJ] at hk;cases hk
    exact ⟨DY EP,by rw [a1];exact a2 k EP⟩⟩
   have GD:gj ops.size (Array.replicate ops.size false)=List.range ops.size:=by
    simp only [gj]
    apply List.filter_eq_self.2
    intro i hi
    have hi:i<ops.size:=by simpa using hi
    simp [Array.getD,hi]
   obtain ⟨R,τ,h⟩:=h
   refine wp_region_any hE.mixed (Nf hE hF hlen yf NF (fun a' w' h'=>hQ S' a' w' h' k3) ops.size ⟨R,τ,h.drew⟩ (by simp) ?_ (by rw [GD];simp) ?_)
   ·intro i o _ hl
    exfalso
    by_cases hi:i<ops.size <;> simp [Array.getD,hi] at hl
   ·rw [GD,List.range_eq_range']
    exact Ch.rn ops.size 0 (by simp) (by simpa using k2)
  ·cases hr
end
end Go.Eng
namespace Go.Eng
open Go.RowKit
theorem Af:∀{l:List Nat} {i j k:Nat},me l=true→l[i]?=some k→l[j]?=some k→i=j
 | x :: l,0,0,k,_,_,_=>rfl
 | x :: l,0,j+1,k,h,h1,h2=>by
  have e:x=k:=by simpa using h1
  subst e
  simp only [me,af,aD] at h
  have:=h.1 x (aK (by simpa using h2))
  simp at this
 | x :: l,i+1,0,k,h,h1,h2=>by
  have e:x=k:=by simpa using h2
  subst e
  simp only [me,af,aD] at h
  have:=h.1 x (aK (by simpa using h1))
  simp at this
 | x :: l,i+1,j+1,k,h,h1,h2=>by
  simp only [me,af] at h
  exact congrArg (· + 1) (Af (k:=k) h.2 (by simpa using h1) (by simpa using h2))
 | [],i,_,_,_,h,_=>by simp at h
theorem lK:∀{G:GL} {xs:List TV} (k:Nat),gE G xs k=(.dead,.no)∨∃(i:Nat) (g:Gh) (x:TV),G[i]?=some (k,g)∧xs[i]?=some x∧gE G xs k=(x,g)
 | [],_,_ => .inl rfl
 | _ :: _,[],_ => .inl rfl
 | (j,g) :: G,x :: xs,k=>by
  simp only [gE]
  cases hb:Nat.beq k j with
  | true=>exact .inr ⟨0,g,x,by rw [aw hb];rfl,rfl,rfl⟩
  | false =>
   rcases lK (G:=G) (xs:=xs) k with h | ⟨i,g',x',h1,h2,h3⟩
   ·exact .inl h
   ·exact .inr ⟨i+1,g',x',by simpa using h1,by simpa using h2,h3⟩
theorem qA:∀{G:GL} {xs:List TV} {i k:Nat} {g:Gh} {x:TV},me (G.map (·.1))=true→G[i]?=some (k,g)→xs[i]?=some x→gE G xs k=(x,g)
 | (j,g) :: G,x :: xs,0,k,_,_,_,h1,h2=>by
  cases h1;cases h2
  have:Nat.beq j j=true:=by simp
  simp only [gE,this,ah]
 | (j,g) :: G,x :: xs,i+1,k,_,_,hd,h1,h2=>by
  simp only [aX,me,af,aD] at hd
  have hm:k∈G.map (·.1):=bg.2 ⟨_,aK (by simpa using h1),rfl⟩
  have:=hd.1 k hm
  simp only [Bool.not_eq_true'] at this
  simp only [gE,this,ae]
  exact qA hd.2 (by simpa using h1) (by simpa using h2)
 | [],_,_,_,_,_,_,h,_=>by simp at h
 | _ :: _,[],_,_,_,_,_,_,h=>by simp at h
theorem qD {ts us:List (Nat × Nat)} {p:Nat × Nat} (h:p∈us.filter fun u=>(mc u.1 ts).isNone):p∈us:=(List.mem_filter.1 h).1
theorem dq.vO {R:Reach} {w:World}:∀{ts:List (Nat × Nat)} {xs:List TV} {ys:List Value},dq R w xs ys→dq R w (vO ts xs) ys
 | [],_,_,h=>h
 | t :: ts,xs,ys,h=>by
  simp only [Go.Eng.vO,List.foldl_cons]
  exact dq.vO (ts:=ts) (h.set fun y _ => .pt y)
section
variable {nt:Nat} {R R':Reach} {w:World} {dK:Nat→Prop} {τ:Nat→Value} {S S1:St} {G:GL} {ρ:List (Nat × Option Nat)}
def Fact (nt:Nat) (w:World) (τ:Nat→Value) (S:St) (ρ:List (Nat × Option Nat)) (W:List (Nat × Cell)) (R:Reach) (p:Nat × Gh) (x:TV):Prop :=
 match p.2 with
 | .no=>p.1<nt∧Rep R w x (τ p.1)
 | .fB _=>p.1<nt∧x = .pt∧((∃j,S p.1=(.pt,.fB j))∨∃t,S p.1=(.nl t,.no))
 | .ptr m o=>p.1<nt∧x = .pt∧S p.1=(.pt,.ptr m o)
 | .cl ts=>nt≤p.1∧∃cs us b ys e zs,S p.1=(.ag cs,.cl us)∧τ p.1 = .pointer (some ⟨b,0,none⟩)∧w.heap[b]?=some (.cells ⟨ys⟩ e (0,0))∧x = .ag zs∧dq R w zs ys∧dq R w cs ys∧(∀t∈us,ys[t.1]?=some (τ t.2))∧∀t∈ts,(mc t.1 us).isSome=true∨∃y,cs[t.1]?=some (.nl y)
 | .pv=>nt≤p.1∧((∃j,jw ρ p.1=some j∧S j=(x,.pv))∨(jw ρ p.1=none∧∃t,x = .sl t []))
 | .lv=>nt≤p.1∧((∃j,jw ρ p.1=some j∧(S j=(x,.lv)∨(S j=(x,.pv)∧(j,(x,.lv))∈W)))∨(jw ρ p.1=none∧∃t,x = .sl t []))
 | _=>False
theorem Fact.mono {W W':List (Nat × Cell)} {p:Nat × Gh} {x:TV} (h:Fact nt w τ S ρ W R p x) (k:dT R w R' w) (hw:∀q∈W,q∈W'):Fact nt w τ S ρ W' R' p x:=by
 unfold Fact at h ⊢
 split at h
 ·exact ⟨h.1,h.2.mono k⟩
 ·exact h
 ·exact h
 ·obtain ⟨h0,cs,us,b,ys,e,zs,h1,h2,h3,h4,h5,h6,h7,h8⟩:=h
  exact ⟨h0,cs,us,b,ys,e,zs,h1,h2,h3,h4,h5.mono k,h6.mono k,h7,h8⟩
 ·exact h
 ·refine ⟨h.1,h.2.imp (fun ⟨j,a,b⟩=>⟨j,a,b.imp id fun ⟨c,d⟩=>⟨c,hw _ d⟩⟩) id⟩
 ·exact h.elim
def NT (nt:Nat) (ws:List (Nat × Cell)):Prop:=∀p∈ws,p.2.2 = .lv
theorem BG {V:St} {c:Cell} {x:TV} {ws:List (Nat × Cell)} (h:CU V c=some (x,ws)):NT nt ws:=by
 intro p hp
 unfold CU at h
 split at h
 ·split at h
  ·cases h;simp only [List.mem_singleton] at hp;subst hp;rfl
  ·cases h;cases hp
  ·obtain ⟨_,h⟩:=bE.1 h;cases h;cases hp
  ·cases h
 ·cases h;cases hp
 ·cases h
theorem qC {V:St} {o n:Nat}:∀{ts:List (Nat × Nat)} {cs ds:List TV} {ws:List (Nat × Cell)},nh V o n ts cs=some (ds,ws)→NT nt ws
 | [],_,_,_,h=>by cases h;intro p hp;cases hp
 | (c,k) :: ts,cs,ds,ws,h=>by
  simp only [nh] at h
  split at h
  ·rename_i xS PU h1
   cases hb:(Nat.ble o c&&Nat.blt c (o+n)) with
   | true =>
    rw [hb,ah] at h
    split at h
    ·rename_i h2
     cases h
     intro p hp
     rcases List.mem_append.1 hp with hp | hp
     ·exact BG (nt:=nt) h2 p hp
     ·exact qC h1 p hp
    ·cases h
   | false=>rw [hb,ae] at h;cases h;exact qC h1
  ·cases h
theorem MD {V:St} {c:Cell} {x:TV} {ws:List (Nat × Cell)} (h:zZ V c=some (x,ws)):NT nt ws:=by
 unfold zZ at h
 split at h
 ·split at h
  ·rename_i hf;cases h;exact qC hf
  ·cases h
 ·exact BG h
theorem Iv (h:Core nt R w dK τ S1) (hV:Lq S S1) (hS:∀k,k<nt→dS R w τ (S k).1 (S k).2 (τ k)∧∀m∈(S k).2.df,nt≤m) (hj:∀k j,jw ρ k=some j→nt≤k→nt≤j) {p:Nat × Gh} {x:TV} {ws:List (Nat × Cell)} (he:AV nt S G ρ p=some (x,ws)) :
  ∃R',Core nt R' w dK τ (fo S1 ws)∧Fz dK R w R'∧Fact nt w τ S ρ ws R' p x∧Lq S (fo S1 ws)∧NT nt ws:=by
 obtain ⟨k,g⟩:=p
 have LG:NT nt []:=fun p hp=>by cases hp
 unfold AV at he
 unfold Fact
 simp only at he ⊢
 cases g <;> simp only at he ⊢ <;> try (cases he;done)
 case no =>
  obtain ⟨h1,h2⟩:=bE.1 he
  have hk:k<nt:=Nat.le_of_ble_eq_true h1
  obtain ⟨a,b⟩:=hS k hk
  obtain ⟨R',k1,k2,k3,k4⟩:=xI h hV a b h2
  exact ⟨R',k1,k2,⟨hk,k3⟩,k4,MD h2⟩
 case fB i =>
  obtain ⟨h1,h2⟩:=bE.1 he
  have hk:k<nt:=Nat.le_of_ble_eq_true h1
  split at h2 <;> cases h2
  ·exact ⟨R,h,Fz.refl _ _ _,⟨hk,rfl,.inl ⟨_,by assumption⟩⟩,hV,LG⟩
  ·exact ⟨R,h,Fz.refl _ _ _,⟨hk,rfl,.inr ⟨_,by assumption⟩⟩,hV,LG⟩
 case ptr m o =>
  obtain ⟨h1,h2⟩:=bE.1 he
  have hk:k<nt:=Nat.le_of_ble_eq_true h1
  split at h2
  ·rename_i e
   obtain ⟨h3,h4⟩:=bE.1 h2
   cases h4
   simp only [af] at h3
   rw [aw h3.1,aw h3.2] at e
   exact ⟨R,h,Fz.refl _ _ _,⟨hk,rfl,e⟩,hV,LG⟩
  ·cases h2
 case cl ts =>
  obtain ⟨h1,h2⟩:=bE.1 he
  have hk:nt≤k:=Nat.le_of_ble_eq_true h1
  split at h2
  ·rename_i cs us e
   obtain ⟨h3,h4⟩:=bE.1 h2
   split at h4
   ·rename_i xS PU hf
    cases h4
    have e1:S1 k=(.ag cs,.cl us):=by
     rcases hV k with e' | e' | ⟨e',_⟩
     ·rw [←e',e]
     ·rw [e] at e';cases e'
     ·rw [e] at e';cases e'
    have hK:=h.key k
    rw [e1] at hK
    obtain ⟨b,ys,el,xs,a1,a2,a3,a4,a5,a6⟩:=hK
    cases a3
    obtain ⟨R',f1,f2,f3,f4,_⟩:=ng h hV a4 (fun t ht=>⟨by
     have:=h.inv k t.2
     rw [e1] at this
     exact (this (List.mem_map_of_mem (f:=(·.2)) (qD ht))).1,a5 t (qD ht)⟩) hf
    refine ⟨R',f1,f2,⟨hk,cs,us,b,ys,el,_,e,a1,a2,rfl,dq.vO (oE f3),a4.mono f2.1,a5,fun t ht=>?_⟩,f4,qC hf⟩
    have:=aD.1 h3 t ht
    rcases Bool.or_eq_true _ _ ▸ this with h | h
    ·exact .inl h
    ·right
     unfold Ow at h
     split at h
     ·exact ⟨_,by assumption⟩
     ·cases h
   ·cases h4
  ·cases h2
 case pv =>
  obtain ⟨h1,h2⟩:=bE.1 he
  have hk:nt≤k:=Nat.le_of_ble_eq_true h1
  split at h2
  ·rename_i j sv
   split at h2 <;> cases h2
   exact ⟨R,h,Fz.refl _ _ _,⟨hk,.inl ⟨j,sv,by assumption⟩⟩,hV,LG⟩
  ·rename_i sv
   rw [aM] at h2
   obtain ⟨t,_,h2⟩:=h2
   cases h2
   exact ⟨R,h,Fz.refl _ _ _,⟨hk,.inr ⟨sv,t,rfl⟩⟩,hV,LG⟩
 case lv =>
  obtain ⟨h1,h2⟩:=bE.1 he
  have hk:nt≤k:=Nat.le_of_ble_eq_true h1
  split at h2
  ·rename_i j sv
   have VH:=hj k j sv hk
   split at h2 <;> cases h2
   ·rename_i e
    have hf:CU S (.pt,.fB j)=some (x,[(j,(x,.lv))]):=by simp only [CU,e]
    obtain ⟨R',k1,k2,_,k4,_,_⟩:=BF h hV VH hf
    exact ⟨R',k1,k2,⟨hk,.inl ⟨j,sv,.inr ⟨e,List.mem_singleton.2 rfl⟩⟩⟩,k4,BG hf⟩
   ·exact ⟨R,h,Fz.refl _ _ _,⟨hk,.inl ⟨j,sv,.inl (by assumption)⟩⟩,hV,LG⟩
  ·rename_i sv
   rw [aM] at h2
   obtain ⟨t,_,h2⟩:=h2
   cases h2
   exact ⟨R,h,Fz.refl _ _ _,⟨hk,.inr ⟨sv,t,rfl⟩⟩,hV,LG⟩
theorem yw (Pc:Core nt R w dK τ S) (hj:∀k j,jw ρ k=some j→nt≤k→nt≤j):∀{l:GL} {xs:List TV} {ws:List (Nat × Cell)},sb nt S G ρ l=some (xs,ws) →
  ∃R',Core nt R' w dK τ (fo S ws)∧Fz dK R w R'∧xs.length=l.length∧(∀(i:Nat) (p:Nat × Gh) (x:TV),l[i]?=some p→xs[i]?=some x→Fact nt w τ S ρ ws R' p x)∧Lq S (fo S ws)∧NT nt ws
 | [],_,_,h=>by cases h;exact ⟨R,Pc,Fz.refl _ _ _,rfl,by simp,(fun k => .inl rfl),fun p hp=>by cases hp⟩
 | p :: l,xs,ws,h=>by
  simp only [sb] at h
  split at h
  ·rename_i x PU h1
   split at h
   ·rename_i H9 us h2
    cases h
    obtain ⟨R1,k1,k2,k3,k4,k5,k6⟩:=yw Pc hj h2
    obtain ⟨R2,m1,m2,m3,m4,m5⟩:=Iv k1 k5 (fun k hk=>by
     have hs:=Pc.slt k hk
     have hK:=Pc.key k
     rw [ji.slot hs] at hK
     exact ⟨hK.dM k2.1 fun _ _=>rfl,fun m hm=>(Pc.inv k m hm).1⟩) hj h1
    rw [jv]
    refine ⟨R2,m1,k2.trans m2,by simp [k3],fun i p' x' hi hx=>?_,m4,fun q hq=>?_⟩
    ·cases i with
     | zero=>cases hi;cases hx;exact m3.mono (dT.refl _ _) fun q hq=>List.mem_append_left _ hq
     | succ i=>exact (k4 i p' x' (by simpa using hi) (by simpa using hx)).mono m2.1 fun q hq=>List.mem_append_right _ hq
    ·rcases List.mem_append.1 hq with hq | hq
     ·exact m5 q hq
     ·exact k6 q hq
   ·cases h
  ·cases h
theorem vN:∀{ws:List (Nat × Cell)} {S:St} {k:Nat} {c:Cell},(k,c)∈ws→∃p∈ws,p.1=k∧fo S ws k=p.2
 | (j,x) :: ws,S,k,c,h=>by
  simp only [fo]
  by_cases e:k=j
  ·subst e;exact ⟨_,List.mem_cons_self ..,rfl,by rw [cj]⟩
  ·rw [dp _ _ e]
   rcases aP.1 h with h | h
   ·cases h;exact (e rfl).elim
   ·obtain ⟨p,h1,h2,h3⟩:=vN h (S:=S)
    exact ⟨p,List.mem_cons_of_mem _ h1,h2,h3⟩
def kY (nt:Nat) (τ:Nat→Value) (ρ:List (Nat × Option Nat)) (k:Nat):Value:=if k<nt then τ k else match jw ρ k with | some j=>τ j | none => .slice none 0 0
end
theorem rC {k:Nat} {r:Option Nat}:∀{ρ:List (Nat × Option Nat)},oI k ρ=some r→(k,r)∈ρ
 | (i,j) :: ρ,h=>by
  simp only [oI] at h
  cases hb:Nat.beq i k with
  | true=>rw [hb] at h;cases h;rw [aw hb];exact List.mem_cons_self ..
  | false=>rw [hb] at h;exact List.mem_cons_of_mem _ (rC h)
theorem yU {S:St} {k i:Nat}:∀{G:GL},(k,.fB i)∈G→(∀j,S k=(.pt,.fB j)→(i,some j)∈oz S G)∧∀t,S k=(.nl t,.no)→(i,none)∈oz S G
 | (k',g) :: G,h=>by
  rcases aP.1 h with h | h
  ·cases h
   refine ⟨fun j hj=>?_,fun t hj=>?_⟩ <;> simp only [oz,hj] <;> exact List.mem_append_left _ (List.mem_singleton.2 rfl)
  ·obtain ⟨h1,h2⟩:=yU h (S:=S)
   cases g <;> first | exact ⟨fun j hj=>List.mem_append_right _ (h1 j hj),fun t hj=>List.mem_append_right _ (h2 t hj)⟩ | exact ⟨h1,h2⟩
theorem Cg {S:St} {m:Nat} {ts us:List (Nat × Nat)} {cs:List TV} (hm:S m=(.ag cs,.cl us)):∀{G:GL},(m,.cl ts)∈G→∀t∈ts,(∀j,mc t.1 us=some j→(t.2,some j)∈oz S G)∧(mc t.1 us=none→∀y,cs[t.1]?=some (.nl y)→(t.2,none)∈oz S G)
 | (k',g) :: G,h,t,ht=>by
  rcases aP.1 h with h | h
  ·cases h
   refine ⟨fun j hj=>?_,fun hj y hy=>?_⟩ <;> simp only [oz,hm] <;> refine List.mem_append_left _ (List.mem_filterMap.2 ⟨t,ht,?_⟩)
   ·simp only [hj]
   ·simp only [hj,hy]
  ·obtain ⟨h1,h2⟩:=Cg hm h t ht
   cases g <;> first | exact ⟨fun j hj=>List.mem_append_right _ (h1 j hj),fun a b c=>List.mem_append_right _ (h2 a b c)⟩ | exact ⟨h1,h2⟩
theorem qk {S:St} {i j:Nat}:∀{G:GL},(i,some j)∈oz S G→∃q,j∈(S q).2.df
 | (k',g) :: G,h=>by
  cases g <;> first | exact qk (G:=G) h | skip
  ·simp only [oz] at h
   rcases List.mem_append.1 h with h | h
   ·refine ⟨k',?_⟩
    split at h
    ·rename_i e
     simp only [List.mem_singleton,Prod.mk.injEq,aL] at h
     rw [e,h.2];exact List.mem_singleton.2 rfl
    ·simp at h
    ·cases h
   ·exact qk h
  ·rename_i ts
   simp only [oz] at h
   rcases List.mem_append.1 h with h | h
   ·refine ⟨k',?_⟩
    split at h
    ·rename_i cs us e
     obtain ⟨t,_,ht⟩:=List.mem_filterMap.1 h
     split at ht
     ·rename_i hf
      simp only [aL,Prod.mk.injEq] at ht
      rw [e,←ht.2]
      exact bg.2 ⟨_,ni hf,rfl⟩
     ·simp at ht
     ·cases ht
    ·cases h
   ·exact qk h
theorem Ag {A:Type} {f:A→Option Nat}:∀{l:List A} {i j k:Nat} {x y:A},me (l.filterMap f)=true→l[i]?=some x→f x=some k→l[j]?=some y→f y=some k→i=j
 | a :: l,0,0,_,_,_,_,_,_,_,_=>rfl
 | a :: l,0,j+1,k,x,y,hd,h1,h2,h3,h4=>by
  have e:a=x:=by simpa using h1
  subst e
  rw [List.filterMap_cons,h2] at hd
  simp only [me,af,aD] at hd
  have:=hd.1 k (List.mem_filterMap.2 ⟨y,aK (by simpa using h3),h4⟩)
  simp at this
 | a :: l,i+1,0,k,x,y,hd,h1,h2,h3,h4=>by
  have e:a=y:=by simpa using h3
  subst e
  rw [List.filterMap_cons,h4] at hd
  simp only [me,af,aD] at hd
  have:=hd.1 k (List.mem_filterMap.2 ⟨x,aK (by simpa using h1),h2⟩)
  simp at this
 | a :: l,i+1,j+1,k,x,y,hd,h1,h2,h3,h4=>by
  have ER:me (l.filterMap f)=true:=by
   rw [List.filterMap_cons] at hd
   split at hd
   ·exact hd
   ·simp only [me,af] at hd;exact hd.2
  exact congrArg (· + 1) (Ag ER (by simpa using h1) h2 (by simpa using h3) h4)
 | [],_,_,_,_,_,_,h,_,_,_=>by simp at h
section
variable {C:Ctx} {S:St} {a:Act} {w:World} {R:Reach} {τ:Nat→Value} {G:GL} {xs:List TV}
theorem DG (h:eI C S a w R τ) (he:ua C.nt G S=some xs):∃R',eI C (gE G xs) a w R' (kY C.nt τ (oz S G))∧dT R w R' w:=by
 unfold ua at he
 split at he
 ·rename_i H9 ws hv
  obtain ⟨wu,he⟩:=bE.1 he
  cases he
  generalize LX:oz S G=ρ at *
  simp only [P1,af] at wu
  obtain ⟨⟨⟨⟨o1,o2⟩,o3⟩,o4⟩,o5⟩:=wu
  -- the names
  have cons:∀i r,(i,r)∈ρ→oI i ρ=some r∧(i<1000000∨r=some i)∧C.nt≤i:=fun i r hi=>by
   have:=aD.1 o2 (i,r) hi
   simp only [af,Bool.or_eq_true,aA] at this
   exact ⟨this.1.1,this.1.2.imp (fun h=>Nat.le_of_ble_eq_true h) id,Nat.le_of_ble_eq_true this.2⟩
  have Rx:∀k j,jw ρ k=some j→C.nt≤k→C.nt≤j:=fun k j hk hn=>by
   unfold jw at hk
   cases hl:oI k ρ with
   | none=>rw [hl] at hk;cases hk;exact hn
   | some r =>
    rw [hl] at hk
    simp only [Option.getD_some] at hk
    subst hk
    have hm:=rC hl
    rw [←LX] at hm
    obtain ⟨q,hq⟩:=qk hm
    exact (h.core.inv q j hq).1
  obtain ⟨R',k1,k2,k3,k4,k5,k6⟩:=yw h.core Rx hv
  refine ⟨R',⟨h.size,h.defers,?_,fun t ht=>?_,⟨h.io.1,fun k hk=>?_⟩,h.ext.reach k2.1 k2.2,h.gl.dM k2.1⟩,k2.1⟩
  ·have len:xs.length=G.length:=k3
   have PX:∀i r,(i,r)∈ρ→kY C.nt τ ρ i=match r with | some j=>τ j | none => .slice none 0 0:=fun i r hi=>by
    obtain ⟨c1,_,c2⟩:=cons i r hi
    unfold kY jw
    rw [ao (by omega),c1]
    cases r <;> rfl
   have Q8:∀k,C.nt≤k→oI k ρ=none→kY C.nt τ ρ k=τ k:=fun k hk hl=>by
    unfold kY jw;rw [ao (by omega),hl];rfl
   have FH:∀k,k<C.nt→kY C.nt τ ρ k=τ k:=fun k hk=>by unfold kY;rw [au hk]
   have PY:∀k j,C.nt≤k→jw ρ k=some j→kY C.nt τ ρ k=τ j:=fun k j hk hj=>by unfold kY;rw [ao (by omega),hj]
   have IV:∀k,C.nt≤k→jw ρ k=none→kY C.nt τ ρ k = .slice none 0 0:=fun k hk hj=>by unfold kY;rw [ao (by omega),hj]
   have P2:∀p∈G,_:=aD.1 o5
   -- Lv in the state where all is read that is to be read
   have PZ:∀k j x,(k,.pv)∈G→jw ρ k=some j→S j=(x,.pv)→fo S ws j=(x,.pv):=fun k j x hm hn hs=>by
    have:=P2 _ hm
    simp only [hn] at this
    rw [ix (xX this),hs]
   have P4:∀j x,(S j=(x,.lv)∨(S j=(x,.pv)∧(j,(x,.lv))∈ws))→fo S ws j=(x,.lv):=fun j x hs=>by
    rcases hs with hs | ⟨hs,hm⟩
    ·rcases k5 j with e | e | ⟨e,_⟩
     ·rw [←e,hs]
     ·rw [hs] at e;cases e
     ·rw [hs] at e;cases e
    ·obtain ⟨p,hp,_,Ii⟩:=vN (S:=S) hm
     rcases k5 j with e | e | ⟨_,e⟩
     ·have:=k6 p hp
      rw [←Ii,←e,hs] at this;cases this
     ·rw [hs] at e;cases e
     ·rw [e,hs]
   have QA:∀k cs us,S k=(.ag cs,.cl us)→fo S ws k=(.ag cs,.cl us):=fun k cs us hs=>by
    rcases k5 k with e | e | ⟨e,_⟩
    ·rw [←e,hs]
    ·rw [hs] at e;cases e
    ·rw [hs] at e;cases e
   have key:∀k i g x,G[i]?=some (k,g)→xs[i]?=some x→ji R' w (kY C.nt τ ρ) x g (kY C.nt τ ρ k):=fun k i g x hG hx=>by
    have hm:=aK hG
    have hf:=k4 i (k,g) x hG hx
    unfold Fact at hf
    cases g <;> simp only at hf <;> try (exact hf.elim)
    case no =>
     rw [FH k hf.1];exact dS.no hf.2
    case fB i' =>
     obtain ⟨hk,rfl,hf⟩:=hf
     have hK:=h.core.key k
     rw [FH k hk]
     rw [ji.slot (h.core.slt k hk)] at hK
     obtain ⟨n1,n2⟩:=yU (S:=S) hm
     rw [LX] at n1 n2
     rcases hf with ⟨j,hj⟩ | ⟨t,hj⟩
     ·rw [hj] at hK
      exact ⟨by rw [PX _ _ (n1 j hj)];exact hK.1,hK.2⟩
     ·rw [hj] at hK
      have hv:τ k = .slice none 0 0:=by
       have:Rep R w (.nl t) (τ k):=jF.rep hK
       generalize τ k=v at *
       cases this with
       | sc h=>cases h
       | nl=>rfl
      exact ⟨by rw [PX _ _ (n2 t hj)];exact hv,by rw [hv];rfl⟩
    case ptr m o =>
     obtain ⟨hk,rfl,hj⟩:=hf
     have hK:=h.core.key k
     rw [FH k hk]
     rw [ji.slot (h.core.slt k hk),hj] at hK
     have hi:=h.core.inv k m (by rw [hj];exact List.mem_singleton.2 rfl)
     have hl:=P2 _ hm
     simp only [Option.isNone_iff_eq_none] at hl
     obtain ⟨b,b1,b2⟩:∃b,τ m = .pointer (some ⟨b,0,none⟩)∧τ k = .pointer (some ⟨b,o,none⟩):=hK
     exact ⟨b,by rw [Q8 m hi.1 hl];exact b1,b2⟩
    case cl ts =>
     obtain ⟨hk,cs,us,b,ys,e,zs,a1,a2,a3,rfl,a5,a6,a7,a8⟩:=hf
     have hl:=P2 _ hm
     simp only [Option.isNone_iff_eq_none] at hl
     have hK:=k1.key k
     rw [QA k cs us a1] at hK
     obtain ⟨b',_,_,_,c1,_,_,_,_,c2⟩:=hK
     rw [a2] at c1;cases c1
     refine ⟨b,ys,e,zs,by rw [Q8 k hk hl];exact a2,a3,rfl,a5,fun t ht=>?_,c2⟩
     obtain ⟨n1,n2⟩:=Cg a1 hm t ht
     rw [LX] at n1 n2
     cases Qk:mc t.1 us with
     | some j =>
      rw [PX _ _ (n1 j Qk)]
      exact a7 _ (ni Qk)
     | none =>
      obtain ⟨y,hy⟩:=(a8 t ht).resolve_left (by rw [Qk];simp)
      rw [PX _ _ (n2 Qk y hy)]
      obtain ⟨v,hv,_,hr⟩:=a6.get _ _ hy
      rw [hv]
      cases hr with
      | sc h=>cases h
      | nl=>rfl
    case pv =>
     obtain ⟨hk,⟨j,hj,hs⟩ | ⟨hj,t,rfl⟩⟩:=hf
     ·have hK:=k1.key j
      rw [PZ k j x hm hj hs] at hK
      rw [PY k j hk hj];exact hK
     ·rw [IV k hk hj];exact ⟨t,[],rfl,.inl ⟨rfl,rfl⟩⟩
    case lv =>
     obtain ⟨hk,⟨j,hj,hs⟩ | ⟨hj,t,rfl⟩⟩:=hf
     ·have hK:=k1.key j
      rw [P4 j x hs] at hK
      rw [PY k j hk hj];exact hK
     ·rw [IV k hk hj];exact ⟨t,[],rfl,.inl ⟨rfl,rfl⟩⟩
   have owner:∀k g,gR (kY C.nt τ ρ) (gE G xs) k=some g→∃(i:Nat) (g0:Gh) (j:Nat),G[i]?=some (k,g0)∧g0.own=true∧jw ρ k=some j∧gR τ (fo S ws) j=some g∧(fo S ws j).2.CK=false:=fun k g hb=>by
    obtain ⟨ho,hb⟩:=fX hb
    rcases lK (G:=G) (xs:=xs) k with e | ⟨i,g0,x,hG,hx,e⟩
    ·rw [e] at ho;cases ho
    ·rw [e] at ho
     have hm:=aK hG
     have hf:=k4 i (k,g0) x hG hx
     unfold Fact at hf
     cases g0 <;> simp only at hf <;> try (first | exact hf.elim | (cases ho;done))
     case cl ts =>
      obtain ⟨hk,cs,us,b,ys,e,zs,a1,a2,a3,rfl,a5,a6,a7,a8⟩:=hf
      have hl:=P2 _ hm
      simp only [Option.isNone_iff_eq_none] at hl
      have hn:jw ρ k=some k:=by unfold jw;rw [hl];rfl
      rw [Q8 k hk hl] at hb
      exact ⟨i,_,k,hG,rfl,hn,ib (by rw [QA k cs us a1];rfl) (by rw [QA k cs us a1];rfl) hb,by rw [QA k cs us a1];rfl⟩
     case pv =>
      obtain ⟨hk,⟨j,hj,hs⟩ | ⟨hj,t,rfl⟩⟩:=hf
      ·rw [PY k j hk hj] at hb
       exact ⟨i,_,j,hG,rfl,hj,ib (by rw [PZ k j x hm hj hs];rfl) (by rw [PZ k j x hm hj hs];rfl) hb,by rw [PZ k j x hm hj hs];rfl⟩
      ·rw [IV k hk hj] at hb;cases hb
     case lv =>
      obtain ⟨hk,⟨j,hj,hs⟩ | ⟨hj,t,rfl⟩⟩:=hf
      ·rw [PY k j hk hj] at hb
       exact ⟨i,_,j,hG,rfl,hj,ib (by rw [P4 j x hs];rfl) (by rw [P4 j x hs];rfl) hb,by rw [P4 j x hs];rfl⟩
      ·rw [IV k hk hj] at hb;cases hb
   refine ⟨fun k=>?_,fun k k' g hb lr=>?_,fun k g hb=>?_,fun j k hk=>?_,k1.re,fun k hk=>?_,fun k d hk=>?_⟩
   ·rcases lK (G:=G) (xs:=xs) k with e | ⟨i,g,x,hG,hx,e⟩
    ·rw [e];exact dS.no (τ:=kY C.nt τ ρ) (.dead _)
    ·rw [e];exact key k i g x hG hx
   ·obtain ⟨i,g0,j,e1,e2,e3,e4,e5⟩:=owner k g hb
    obtain ⟨i',YS,j',f1,f2,f3,f4,f5⟩:=owner k' g lr
    have:=k1.vn e4 f4
    subst this
    have:=Ag o3 e1 (by simp only [e2,ah];exact e3) f1 (by simp only [f2,ah];exact f3)
    subst this
    rw [e1] at f1;cases f1;rfl
   ·obtain ⟨i,g0,j,e1,e2,e3,e4,e5⟩:=owner k g hb
    exact k1.dK j g e4
   ·rcases lK (G:=G) (xs:=xs) j with e | ⟨i,g,x,hG,hx,e⟩
    ·rw [e] at hk;cases hk
    ·rw [e] at hk
     have:=aD.1 (aD.1 o4 _ (aK hG)) k hk
     obtain ⟨q,hq,Ky⟩:=List.any_eq_true.1 this
     simp only [af] at Ky
     obtain ⟨Ky,RA⟩:=Ky
     obtain ⟨i',qM⟩:=List.mem_iff_getElem?.1 hq
     have gk:i'<xs.length:=by rw [len];exact (aH.1 qM).1
     have xz:xs[i']?=some xs[i']:=ar gk
     have S4:=aw Ky
     obtain ⟨q1,q2⟩:=q
     simp only at S4 RA
     subst S4
     have hf:=k4 i' _ _ qM xz
     refine ⟨?_,?_⟩
     ·unfold Fact at hf
      cases q2 <;> simp only at hf <;> first | exact hf.1 | exact hf.elim | cases RA
     ·rw [qA o1 qM xz];intro e;simp only at e;subst e;cases RA
   ·rcases lK (G:=G) (xs:=xs) k with e | ⟨i,g,x,hG,hx,e⟩
    ·rw [e];rfl
    ·rw [e]
     have hf:=k4 i (k,g) x hG hx
     unfold Fact at hf
     cases g <;> simp only at hf <;> first | rfl | exact hf.elim | (exfalso;have:=hf.1;omega)
   ·rcases lK (G:=G) (xs:=xs) k with e | ⟨i,g,x,hG,hx,e⟩
    ·rw [e] at hk;cases hk
    ·rw [e] at hk
     simp only at hk
     subst hk
     have hf:=k4 i _ x hG hx
     exact hf.elim
  ·unfold kY;rw [au ht];exact h.tmps t ht
  ·unfold kY
   have:=h.io.1
   rw [ao (by omega)]
   unfold jw
   cases hl:oI k ρ with
   | none=>simp only [Option.getD_none];exact h.io.2 k hk
   | some r =>
    have:=(cons k r (rC hl)).2.1.resolve_left (by omega)
    subst this
    simp only [Option.getD_some];exact h.io.2 k hk
 ·cases he
theorem ug:∀{l:List Nat} {S:St},eI C S a w R τ→eI C (yW l S) a w R τ
 | [],_,h=>h
 | k :: r,S,h=>by
  unfold yW
  split
  ·rename_i x d hk;exact ug (h.recover hk)
  ·exact ug h
theorem tY (h:eI C S a w R τ) (he:jL C.nt G S=some xs):∃R' nX,eI C (gE G xs) a w R' nX∧dT R w R' w:=by
 obtain ⟨R',h1,h2⟩:=DG (ug h) he
 exact ⟨R',_,h1,h2⟩
end
end Go.Eng
namespace Go.Eng
open Go.RowKit
def IB:MX→Exit
 | .normal => .normal
 | .exit id => .exit id
 | .goto l => .goto l
 | .ret => .ret
section
variable {C:Ctx} {R:Type}
theorem Sim.jL {S:St} {a:Act} {w:World} {G:GL} {xs:List TV} (h:Sim C S a w) (he:jL C.nt G S=some xs):Sim C (gE G xs) a w:=by
 obtain ⟨R,τ,h⟩:=h
 obtain ⟨R',nX,h',_⟩:=tY h he
 exact ⟨R',_,h'⟩
theorem vj {P:Program} {a:Act} {w:World} {Q:Exit→Act→World→Prop} {c:Code} (I:Nat→Nat→Act→World→Prop)
  (first:c.wp P (fun e a w=>match e with | .goto l=>∃n,I n l a w | e=>Q e a w) a w)
  (pass:∀n l a w,I n l a w→∃rest,findLabel c l=some rest∧rest.wp P (fun e a' w'=>match e with | .goto l'=>∃m,m<n∧I m l' a' w' | e=>Q e a' w') a w) :
  (Code.scope c).wp P Q a w:=by
 intro b k cs
 have key:∀n l a w,I n l a w→∀rest,findLabel c l=some rest→∃e a' w',Q e a' w'∧Arrives P (lone (b.at a (.code rest :: .inScope c :: k)) cs w) b k cs e a' w':=by
  intro n
  induction n using Nat.strongRecOn with
  | _ n ih =>
   intro l a w hI rest hf
   obtain ⟨SN,Mp,hp⟩:=pass n l a w hI
   rw [hf] at Mp
   cases Mp
   obtain ⟨e,p8,pG,hq,rH⟩:=hp b (.inScope c :: k) cs
   cases e with
   | normal=>exact ⟨.normal,p8,pG,hq,Steps.trans rH (.one step_inScope)⟩
   | exit id=>exact ⟨.exit id,p8,pG,hq,fun k' hk=>rH k' (by simp [exitTo,hk])⟩
   | goto l' =>
    obtain ⟨m,gk,hJ⟩:=hq
    obtain ⟨yT,O0,_⟩:=pass m l' p8 pG hJ
    have hg:gotoIn l' (.inScope c :: k)=some (.code yT :: .inScope c :: k):=by simp [gotoIn,O0]
    obtain ⟨MH,Na,K0,GF,xE⟩:=ih m gk l' p8 pG hJ yT O0
    exact ⟨MH,Na,K0,GF,.of_steps (rH _ hg) xE⟩
   | ret=>exact ⟨_,p8,pG,hq,rH⟩
   | panic ch=>exact ⟨_,p8,pG,hq,rH⟩
   | outgrown=>exact ⟨_,p8,pG,hq,rH⟩
 obtain ⟨e,p8,pG,hq,rH⟩:=first b (.inScope c :: k) cs
 cases e with
 | normal=>exact ⟨.normal,p8,pG,hq,.head step_scope (Steps.trans rH (.one step_inScope))⟩
 | exit id=>exact ⟨.exit id,p8,pG,hq,fun k' hk => .head step_scope (rH k' (by simp [exitTo,hk]))⟩
 | goto l' =>
  obtain ⟨m,hJ⟩:=hq
  obtain ⟨yT,O0,_⟩:=pass m l' p8 pG hJ
  have hg:gotoIn l' (.inScope c :: k)=some (.code yT :: .inScope c :: k):=by simp [gotoIn,O0]
  obtain ⟨MH,Na,K0,GF,xE⟩:=key m l' p8 pG hJ yT O0
  exact ⟨MH,Na,K0,GF,.of_steps (.head step_scope (rH _ hg)) xE⟩
 | ret=>exact ⟨_,p8,pG,hq,.of_steps (.one step_scope) rH⟩
 | panic ch=>exact ⟨_,p8,pG,hq,.of_steps (.one step_scope) rH⟩
 | outgrown=>exact ⟨_,p8,pG,hq,.of_steps (.one step_scope) rH⟩
def AH (C:Ctx) (R:Type) (c:Code) (g:Ev R):Prop:=∀{h:Hint} {S:St} {a:Act} {w:World} {K:fy R} {r:R} {Q:Exit→Act→World→Prop},Sim C S a w→g h S K=some r →
  (∀e S' a' w',Sim C S' a' w'→K e S'=some r→Q (IB e) a' w')→c.wp C.P Q a w
theorem AH.seq {x y:Code} {g:Ev R} {o:Ev R} (hx:AH C R x g) (hy:AH C R y o):AH C R (.seq x y) (Ll C.nt g o o):=by
 intro h S a w K r Q hs he hQ
 have plain:∀{h1 h2:Hint},g h1 S (IQ (o h2) K)=some r→(Code.seq x y).wp C.P Q a w:=fun he=>by
  refine wp_seq (hx hs he fun e S' a' w' h' hk=>?_)
  cases e with
  | normal=>exact hy h' hk hQ
  | exit id=>exact hQ (.exit id) S' a' w' h' hk
  | goto l=>exact hQ (.goto l) S' a' w' h' hk
  | ret=>exact hQ .ret S' a' w' h' hk
 cases h <;> first | exact plain he | skip
 rename_i G h1 h2
 have he:g h1 S (uI C.nt (o h2) G K)=some r:=he
 refine wp_seq (hx hs he fun e S' a' w' h' hk=>?_)
 cases e with
 | normal =>
  simp only [uI] at hk
  split at hk
  ·rename_i xs hr
   exact hy (h'.jL hr) hk hQ
  ·cases hk
 | exit id=>exact hQ (.exit id) S' a' w' h' hk
 | goto l=>exact hQ (.goto l) S' a' w' h' hk
 | ret=>exact hQ .ret S' a' w' h' hk
theorem MK (hE:jq C.P C.E) (hF:∀f,bC C.P C.gl f (C.E.fs f)) (c:Code):AH C R c (oe C.P C.E C.nt c)∧(∀l g,yg (R:=R) C.P C.E C.nt c l=some g→∃rest,findLabel c l=some rest∧AH C R rest g)∧∀l,yg (R:=R) C.P C.E C.nt c l=none→findLabel c l=none:=by
 have uv:∀{f:Ev R} {c:Code},∀l g,(iy f).2 l=some g→∃rest,findLabel c l=some rest∧AH C R rest g:=fun l g e=>by cases e
 induction c with
 | skip=>exact ⟨fun hs he hQ=>wp_skip (hQ .normal _ _ _ hs he),uv,fun _ _=>rfl⟩
 | label l =>
  refine ⟨fun hs he hQ=>wp_label (hQ .normal _ _ _ hs he),fun l' g e=>?_,fun l' e=>?_⟩
  ·have e:pR l l'=some g:=e
   unfold pR at e
   cases hb:Nat.beq l l' with
   | true =>
    rw [hb] at e;cases e
    exact ⟨.skip,by rw [aw hb];simp [findLabel],fun hs he hQ=>wp_skip (hQ .normal _ _ _ hs he)⟩
   | false=>rw [hb] at e;cases e
  ·have e:pR (R:=R) l l'=none:=e
   unfold pR at e
   cases hb:Nat.beq l l' with
   | true=>rw [hb] at e;cases e
   | false =>
    have:¬l=l':=fun e=>by rw [e] at hb;simp at hb
    simp [findLabel,this]
 | exit id=>exact ⟨fun hs he hQ=>wp_exit (hQ (.exit id) _ _ _ hs he),uv,fun _ _=>rfl⟩
 | goto l=>exact ⟨fun hs he hQ=>wp_goto (hQ (.goto l) _ _ _ hs he),uv,fun _ _=>rfl⟩
 | ret=>exact ⟨fun hs he hQ=>wp_ret (hQ .ret _ _ _ hs he),uv,fun _ _=>rfl⟩
 | region id ops draw=>exact ⟨fun hs he hQ=>DI hE hF hs he fun S' a' w' h' hk=>hQ .normal S' a' w' h' hk,uv,fun _ _=>rfl⟩
 | seq x y LV Kq =>
  refine ⟨AH.seq LV.1 Kq.1,fun l g e=>?_,fun l e=>?_⟩
  ·have e:A6 C.nt (yg C.P C.E C.nt x) (yg C.P C.E C.nt y) (oe C.P C.E C.nt y) (oe C.P C.E C.nt y) l=some g:=e
   unfold A6 at e
   split at e
   ·rename_i gx ex
    cases e
    obtain ⟨rest,hr,hd⟩:=LV.2.1 l gx ex
    exact ⟨.seq rest y,by simp [findLabel,hr],hd.seq Kq.1⟩
   ·rename_i ex
    split at e
    ·rename_i gy ey
     cases e
     obtain ⟨rest,hr,hd⟩:=Kq.2.1 l gy ey
     exact ⟨rest,by simp [findLabel,LV.2.2 l ex,hr],fun hs he hQ=>hd hs he hQ⟩
    ·cases e
  ·have e:A6 C.nt (yg C.P C.E C.nt x) (yg C.P C.E C.nt y) (oe C.P C.E C.nt y) (oe C.P C.E C.nt y) l=none:=e
   unfold A6 at e
   split at e
   ·cases e
   ·rename_i ex
    split at e
    ·cases e
    ·rename_i ey;simp [findLabel,LV.2.2 l ex,Kq.2.2 l ey]
 | cond o x y LV Kq =>
  refine ⟨?_,uv,fun _ _=>rfl⟩
  intro h S a w K r Q hs he hQ
  have he:(match gr C.E C.nt S 0 o with | some (.b t,.no)=>cond t (oe C.P C.E C.nt x h.s1 S K) (oe C.P C.E C.nt y h.s2 S K) | some (.ub e,.no)=>cond e (both (oe C.P C.E C.nt x h.s1 S K) (oe C.P C.E C.nt y h.s2 S K)) (oe C.P C.E C.nt y h.s2 S K) | _=>none)=some r:=he
  split at he
  ·rename_i t ho
   have Rv:=hs
   obtain ⟨R0,τ,h0⟩:=Rv
   have hv:=(eC h0 (Lt.refl S) ho).dJ rfl
   refine wp_cond_split hv (fun e=>?_) (fun e=>?_)
   ·subst e;exact LV.1 hs he hQ
   ·subst e;exact Kq.1 hs he hQ
  ·rename_i e ho
   have Rv:=hs
   obtain ⟨R0,τ,h0⟩:=Rv
   obtain ⟨b,hv,hb⟩:∃b,a.eval o = .bool b∧(b=true→e=true):=by
    have hv:=eC h0 (Lt.refl S) ho
    generalize a.eval o=v at hv
    cases hv with
    | sc h=>cases h
    | ub h=>exact ⟨_,rfl,h⟩
   refine wp_cond_split hv (fun e1=>?_) (fun e1=>?_)
   ·rw [hb e1] at he
    exact LV.1 hs (rZ.1 he).1 hQ
   ·cases e with
    | false=>exact Kq.1 hs he hQ
    | true=>exact Kq.1 hs (rZ.1 he).2 hQ
  ·cases he
 | block id x ih =>
  refine ⟨?_,uv,fun _ _=>rfl⟩
  intro h S a w K r Q hs he hQ
  have he:oe C.P C.E C.nt x h.s1 S (mM id K)=some r:=he
  refine wp_block (ih.1 hs he fun e S' a' w' h' hk=>?_)
  cases e with
  | normal=>exact hQ .normal S' a' w' h' hk
  | exit j =>
   simp only [mM] at hk
   cases hb:Nat.beq j id with
   | true =>
    rw [hb] at hk
    have:=aw hb
    simp only [IB,Exit.inBlock,this,if_true]
    exact hQ .normal S' a' w' h' hk
   | false =>
    rw [hb] at hk
    have:j≠id:=fun e=>by rw [e] at hb;simp at hb
    simp only [IB,Exit.inBlock,this,if_false]
    exact hQ (.exit j) S' a' w' h' hk
  | goto l=>exact hQ (.goto l) S' a' w' h' hk
  | ret=>exact hQ .ret S' a' w' h' hk
 | loop x ih =>
  refine ⟨?_,uv,fun _ _=>rfl⟩
  intro h S a w K r Q hs he hQ
  cases h <;> try (cases he;done)
  rename_i G h1
  have he:zi C.nt (oe C.P C.E C.nt x h1) G S K=some r:=he
  unfold zi at he
  split at he
  ·rename_i xs hr
   obtain ⟨n,hn⟩:=(uB (fun n r=>nf (xU ((tc C.P C.E x).1 h1) G) (tr:=N8 C.nt G) n xs r)).1 he
   refine wp_loop_ghost (fun n a w=>∃xs,Sim C (gE G xs) a w∧oN (QC (oe C.P C.E C.nt x h1) G) (N8 C.nt G) n xs K=some r) n ⟨xs,hs.jL hr,hn⟩ ?_
   rintro n a w ⟨xs,hs,hn⟩
   cases n with
   | zero=>cases hn
   | succ n =>
    rw [oN] at hn
    refine ih.1 hs hn fun e S' a' w' h' hk=>?_
    cases e with
    | normal =>
     simp only [N8] at hk
     split at hk
     ·rename_i e;cases e
     ·cases hk
     ·rename_i ys hr
      cases EO:jL C.nt G S' with
      | none=>rw [EO] at hr;cases hr
      | some zs =>
       rw [EO] at hr;cases hr
       exact ⟨n,Nat.lt_succ_self n,_,h'.jL EO,hk⟩
    | exit id=>exact hQ (.exit id) S' a' w' h' hk
    | goto l=>exact hQ (.goto l) S' a' w' h' hk
    | ret=>exact hQ .ret S' a' w' h' hk
  ·cases he
 | rangeFunc _ _ _ _ _ _=>exact ⟨fun _ he=>(by cases he),uv,fun _ _=>rfl⟩
 | scope x ih =>
  refine ⟨?_,uv,fun _ _=>rfl⟩
  intro h S a w K r Q hs he hQ
  cases h <;> try (cases he;done)
  rename_i ls h1
  have he:oe C.P C.E C.nt x h1 S (lP C.nt (yg C.P C.E C.nt x) ls h1 K)=some r:=he
  let F:=yg (R:=R) C.P C.E C.nt x
  have hm:=fun i=>fun n r=>nf (xT (f:=F) (tc C.P C.E x).2 ls h1) (tr:=Ib C.nt ls) (K:=K) n i r
  have go:∀{S' a' w'} l,Sim C S' a' w'→∀j,Ib C.nt ls (.goto l) S'=some (some j)→j.1=l∧∃G,vZ l ls=some G∧Sim C (gE G j.2) a' w':=by
   intro S' a' w' l h' j hj
   simp only [Ib] at hj
   split at hj
   ·rename_i G hl
    cases hr:jL C.nt G S' with
    | none=>rw [hr] at hj;cases hj
    | some ys=>rw [hr] at hj;cases hj;exact ⟨rfl,G,hl,h'.jL hr⟩
   ·cases hj
  refine vj (fun n l a w=>∃xs G,vZ l ls=some G∧Sim C (gE G xs) a w∧oN (HW F ls h1) (Ib C.nt ls) n (l,xs) K=some r) ?_ ?_
  ·refine ih.1 hs he fun e S' a' w' h' hk=>?_
   cases e with
   | goto l =>
    simp only [lP,vw] at hk
    split at hk
    ·rename_i e;simp [Ib] at e
    ·cases hk
    ·rename_i j hj
     obtain ⟨e1,G,hG,hS⟩:=go l h' j hj
     obtain ⟨n,hn⟩:=(uB (hm j)).1 hk
     exact ⟨n,j.2,G,hG,hS,by rw [←e1];exact hn⟩
   | normal=>exact hQ .normal S' a' w' h' hk
   | exit id=>exact hQ (.exit id) S' a' w' h' hk
   | ret=>exact hQ .ret S' a' w' h' hk
  ·rintro n l a w ⟨xs,G,hG,hS,hn⟩
   cases n with
   | zero=>cases hn
   | succ n =>
    rw [oN] at hn
    simp only [HW,hG] at hn
    cases hF:F l with
    | none=>rw [hF] at hn;cases hn
    | some g =>
     rw [hF] at hn
     obtain ⟨rest,hr,hd⟩:=ih.2.1 l g hF
     refine ⟨rest,hr,hd hS hn fun e S' a' w' h' hk=>?_⟩
     cases e with
     | goto l' =>
      split at hk
      ·rename_i e;simp [Ib] at e
      ·cases hk
      ·rename_i j hj
       obtain ⟨e1,G',Wh,NL⟩:=go l' h' j hj
       exact ⟨n,Nat.lt_succ_self n,j.2,G',Wh,NL,by rw [←e1];exact hk⟩
     | normal=>exact hQ .normal S' a' w' h' hk
     | exit id=>exact hQ (.exit id) S' a' w' h' hk
     | ret=>exact hQ .ret S' a' w' h' hk
 | refuse _=>exact ⟨fun _ he=>(by cases he),uv,fun _ _=>rfl⟩
theorem ML (hE:jq C.P C.E) (hF:∀f,bC C.P C.gl f (C.E.fs f)) (c:Code):∀{h:Hint} {S:St} {a:Act} {w:World} {K:fy R} {r:R} {Q:Exit→Act→World→Prop},Sim C S a w→oe C.P C.E C.nt c h S K=some r →
  (∀e S' a' w',Sim C S' a' w'→K e S'=some r→Q (IB e) a' w')→c.wp C.P Q a w:=fun hs he hQ=>(MK hE hF c).1 hs he hQ
end
end Go.Eng
namespace Go.Eng
open Go.RowKit
def kF (xs:List Value) (k:Nat):Value:=if k<1000000 then xs.getD k undef else xs.getD (k - 1000000) undef
theorem uL {n:Nat} {ms:List Md} {sE:List TV} {k:Nat} (h:k<n):Ic n ms sE k=match ms.getD k .pl with | .pl=>(sE.getD k .dead,.no) | .rf=>(.pt,.ptr (1000000+k) 0) | _=>(.pt,.fB (1000000+k)):=by
 have:Nat.blt k n=true:=Nat.ble_eq_true_of_le h
 unfold Ic
 simp only [this,ah]
 rfl
theorem uM {n:Nat} {ms:List Md} {sE:List TV} {k:Nat} (hn:n≤1000000) (h:k<n):Ic n ms sE (1000000+k)=match ms.getD k .pl with | .pl=>(.dead,.no) | .rf=>(sE.getD k .dead,.cl []) | _=>(sE.getD k .dead,.pv):=by
 have h1:Nat.blt (1000000+k) n=false:=by
  cases hb:Nat.blt (1000000+k) n with
  | false=>rfl
  | true=>exact absurd (Nat.le_of_ble_eq_true hb:1000000+k+1≤n) (by omega)
 have h2:Nat.ble 1000000 (1000000+k)=true:=Nat.ble_eq_true_of_le (by omega)
 have h3:Nat.blt (1000000+k) (1000000+n)=true:=Nat.ble_eq_true_of_le (by omega)
 unfold Ic
 simp only [h1,h2,h3,ah,ae,aZ,Nat.add_sub_cancel_left]
 rfl
theorem qy {n:Nat} {ms:List Md} {sE:List TV} {k:Nat} (h1:n≤k) (h2:k<1000000∨1000000+n≤k):Ic n ms sE k=(.dead,.no):=by
 have e1:Nat.blt k n=false:=by
  cases hb:Nat.blt k n with
  | false=>rfl
  | true=>exact absurd (Nat.le_of_ble_eq_true hb:k+1≤n) (by omega)
 have e2:(Nat.ble 1000000 k&&Nat.blt k (1000000+n))=false:=by
  cases hb:(Nat.ble 1000000 k&&Nat.blt k (1000000+n)) with
  | false=>rfl
  | true =>
   simp only [af] at hb
   have a:=Nat.le_of_ble_eq_true hb.1
   have b:k+1≤1000000+n:=Nat.le_of_ble_eq_true hb.2
   omega
 unfold Ic
 simp only [e1,e2,ae]
theorem oL {n:Nat} (hn:n≤1000000) (k:Nat):k<n∨(∃j,j<n∧k=1000000+j)∨(n≤k∧(k<1000000∨1000000+n≤k)):=by
 by_cases h1:k<n
 ·exact .inl h1
 ·by_cases h2:k<1000000∨1000000+n≤k
  ·exact .inr (.inr ⟨by omega,h2⟩)
  ·exact .inr (.inl ⟨k - 1000000,by omega,by omega⟩)
theorem HT {P:Program} {E:cr} {gl:Nat→Option (List Value)} {nt:Nat} {w:World} {R:Reach} {ins:List TV} {xs:List Value} {ms:List Md} (hn:xs.length≤nt) (RE:nt≤1000000) (hR:∀b o,R b o→b<w.heap.size) (GI:GlOK gl R w) (ha:yb R w ms ins xs) (hs:Nl (· ≠ .pl) ms xs) :
  eI ⟨P,E,nt,w,R,yd ms xs,kF xs,gl⟩ (Ic xs.length ms ins) { tmps:=(⟨xs⟩:Array Value)++Array.replicate (nt - xs.length) undef,defers:=[] } w R (kF xs):=by
 have hx:xs.length≤1000000:=Nat.le_trans hn RE
 have arg:∀k,k<xs.length→Dh R w (ms.getD k .pl) (ins.getD k .dead) (xs.getD k undef):=fun k hk=>by
  have h1:xs[k]?=some xs[k]:=ar hk
  have h2:ins[k]?=some (ins[k]'(by rw [ha.1];exact hk)):=ar _
  have:=ha.2 k _ _ h2 h1
  rw [ai,ai,ai,h1,h2] at *
  simpa using this
 have t1:∀k,k<xs.length→kF xs k=xs.getD k undef:=fun k hk=>by unfold kF;rw [au (by omega)]
 have t2:∀k,kF xs (1000000+k)=xs.getD k undef:=fun k=>by unfold kF;rw [ao (by omega),Nat.add_sub_cancel_left]
 have own:∀k,(Ic xs.length ms ins k).2.own=true→∃j,j<xs.length∧k=1000000+j∧ms.getD j .pl ≠ .pl:=fun k ho=>by
  rcases oL hx k with h | ⟨j,hj,rfl⟩ | ⟨h1,h2⟩
  ·rw [uL h] at ho
   cases hm:ms.getD k .pl <;> rw [hm] at ho <;> cases ho
  ·refine ⟨j,hj,rfl,fun hm=>?_⟩
   rw [uM hx hj,hm] at ho;cases ho
  ·rw [qy h1 h2] at ho;cases ho
 have val:∀k,k<xs.length→xs[k]?=some (xs.getD k undef):=fun k hk=>by rw [ai,ar hk];rfl
 refine ⟨by simp;omega,rfl,⟨fun k=>?_,fun k k' g hb lr=>?_,fun k g hb=>?_,fun j k hk=>?_,hR,fun k hk=>?_,fun k d hk=>?_⟩,fun t ht=>?_,⟨RE,fun k _=>rfl⟩,Ext.refl _ _ _,GI⟩
 ·rcases oL hx k with h | ⟨j,hj,rfl⟩ | ⟨h1,h2⟩
  ·have hA:=arg k h
   rw [uL h,t1 k h]
   cases hm:ms.getD k .pl <;> rw [hm] at hA
   ·exact dS.no (τ:=kF xs) hA
   ·obtain ⟨b,cs,e,zs,e1,_⟩:=hA
    exact ⟨b,by rw [t2,e1],e1⟩
   all_goals exact ⟨(t2 k).symm,ft.one hA⟩
  ·have hA:=arg j hj
   rw [uM hx hj,t2]
   cases hm:ms.getD j .pl <;> rw [hm] at hA
   ·exact dS.no (τ:=kF xs) (.dead _)
   ·obtain ⟨b,cs,e,zs,e1,e2,e3,e4,e5,e6⟩:=hA
    exact ⟨b,cs,e,zs,e1,e2,e3,e4,by simp,e6⟩
   all_goals exact hA
  ·rw [qy h1 h2];exact dS.no (τ:=kF xs) (.dead _)
 ·obtain ⟨o1,b1⟩:=fX hb
  obtain ⟨o2,b2⟩:=fX lr
  obtain ⟨j,hj,rfl,m1⟩:=own k o1
  obtain ⟨j',sv,rfl,m2⟩:=own k' o2
  rw [t2] at b1 b2
  rw [hs j j' _ _ g m1 m2 (val j hj) (val j' sv) b1 b2]
 ·obtain ⟨o1,b1⟩:=fX hb
  obtain ⟨j,hj,rfl,m1⟩:=own k o1
  rw [t2] at b1
  exact .inl ⟨j,_,m1,val j hj,b1⟩
 ·rcases oL hx j with h | ⟨i,hi,rfl⟩ | ⟨h1,h2⟩
  ·rw [uL h] at hk
   have key:ms.getD j .pl ≠ .pl→k=1000000+j→nt≤k∧(Ic xs.length ms ins k).2 ≠ .no:=fun hm e=>by
    subst e
    refine ⟨by omega,?_⟩
    rw [uM hx h]
    cases Ee:ms.getD j .pl <;> first | exact (hm Ee).elim | simp
   cases hm:ms.getD j .pl <;> rw [hm] at hk key <;> simp only [Gh.df,List.mem_singleton,List.not_mem_nil] at hk
   all_goals exact key (by simp) hk
  ·rw [uM hx hi] at hk
   cases hm:ms.getD i .pl <;> rw [hm] at hk <;> simp [Gh.df] at hk
  ·rw [qy h1 h2] at hk;cases hk
 ·rcases oL hx k with h | ⟨j,hj,rfl⟩ | ⟨h1,h2⟩
  ·rw [uL h];cases ms.getD k .pl <;> rfl
  ·have:1000000+j<nt:=hk
   omega
  ·rw [qy h1 h2];rfl
 ·rcases oL hx k with h | ⟨j,hj,rfl⟩ | ⟨h1,h2⟩
  ·rw [uL h] at hk;cases hm:ms.getD k .pl <;> rw [hm] at hk <;> cases hk
  ·rw [uM hx hj] at hk;cases hm:ms.getD j .pl <;> rw [hm] at hk <;> cases hk
  ·rw [qy h1 h2] at hk;cases hk
 ·have ht:t<nt:=ht
  unfold kF
  rw [au (by omega)]
  simp only [Array.getD_eq_getD_getElem?,Array.getElem?_append,List.size_toArray]
  by_cases h:t<xs.length
  ·simp [h,ai]
  ·have Qe:t - xs.length<nt - xs.length:=by omega
   rw [ao h,ai,List.getElem?_eq_none (by omega)]
   simp [Qe]
end Go.Eng
namespace Go.Eng
open Go.RowKit
def Be (tmps:Array Value):ResultVar→Sem Value
 | .tmp t=>pure (tmps.getD t undef)
 | .cell a t=>do loadVar t (←asAddr (tmps.getD a undef))
theorem si {P:Program} {w:World} {fn:Func} {tmps:Array Value} {vs:List Value} (h:(fn.results.toList.mapM (Be tmps)).run P w = .ok vs w) :
  (results fn tmps).run P w = .ok (if vs.length=1 then vs.headD undef else .tuple ⟨vs⟩) w:=by
 have e:results fn tmps=(do
   let vs ←fn.results.mapM (Be tmps)
   pure (if h:vs.size=1 then vs[0] else .tuple vs)):=by
  unfold results
  congr 2
 rw [e,Array.mapM_eq_mapM_toList]
 simp only [Sem.run_bind,Sem.run_map,h,Result.andThen_ok,Sem.run_pure]
 match vs with
 | []=>simp
 | [x]=>simp
 | _ :: _ :: _=>simp
section
variable {C:Ctx} {a:Act} {w:World} {τ:Nat→Value}
theorem rW {own:List Nat}:∀{rs:List ResultVar} {i:Nat} {S S':St} {xs:List TV} {R:Reach},eI C S a w R τ→rX C.P C.nt own i rs S=some (xs,S') →
  ∃R' vs,eI C S' a w R' τ∧dT R w R' w∧(rs.mapM (Be a.tmps)).run C.P w = .ok vs w∧xs.length=rs.length∧vs.length=rs.length ∧
   ∀(q:Nat) (r:ResultVar) (x:TV) (v:Value),rs[q]?=some r→xs[q]?=some x→vs[q]?=some v→match r with | .tmp t=>v=a.tmps.getD t undef | .cell _ _=>Rep R' w x v∧(i+q) ∉ own
 | [],i,S,S',xs,R,h,he=>by
  cases he
  exact ⟨R,[],h,dT.refl _ _,rfl,rfl,rfl,by simp⟩
 | .tmp t :: rs,i,S,S',xs,R,h,he=>by
  simp only [rX] at he
  split at he
  ·rename_i H9 WH h1
   cases he
   obtain ⟨R',vs,k1,k2,k3,k4,k5,k6⟩:=rW h h1
   refine ⟨R',a.tmps.getD t undef :: vs,k1,k2,?_,by simp [k4],by simp [k5],fun q r x v hr hx hv=>?_⟩
   ·simp only [List.mapM_cons,Be,Sem.run_bind,Sem.run_pure,Result.andThen_ok,k3]
   ·cases q with
    | zero=>cases hr;cases hv;rfl
    | succ q =>
     have:=k6 q r x v (by simpa using hr) (by simpa using hx) (by simpa using hv)
     rwa [show i+1+q=i+(q+1) by omega] at this
  ·cases he
 | .cell b t :: rs,i,S,S',xs,R,h,he=>by
  simp only [rX] at he
  obtain ⟨h0,he⟩:=bE.1 he
  simp only [af,Bool.not_eq_true'] at h0
  have hb:b<C.nt:=Nat.le_of_ble_eq_true h0.1
  split at he
  ·rename_i m o n agg hS hs
   obtain ⟨h1,he⟩:=bE.1 he
   have h1:agg=true∨n=1:=by
    rcases Bool.or_eq_true _ _ ▸ h1 with h | h
    ·exact .inl h
    ·exact .inr (aw h)
   split at he
   ·rename_i cs ts hm
    split at he
    ·rename_i xS ws hf
     split at he
     ·rename_i x hp
      split at he
      ·rename_i H9 WH Ry
       cases he
       obtain ⟨bb,ys,e,c1,c2,c3,c4,c5,c6,_⟩:=oi h (Lt.refl S) hm
       obtain ⟨R1,f1,f2,f3,f4,_⟩:=ng h.core (Lt.refl S).q c3 (fun t ht=>⟨(c6 t ht).1,c4 t ht⟩) hf
       have NB:=sM h hb
       rw [hS] at NB
       obtain ⟨b',p1,hv⟩:∃b',τ m = .pointer (some ⟨b',0,none⟩)∧a.tmps.getD b undef = .pointer (some ⟨b',o,none⟩):=NB
       rw [c1] at p1;cases p1
       obtain ⟨inf,hi,rfl,ha⟩:=gn hs
       obtain ⟨hlen,j7⟩:=oB f3 hp h1
       have hc:∀j y,((ys.drop o).take inf.size)[j]?=some y→w.cell? ⟨bb,o+j,none⟩=some y:=fun j y hj=>by
        rw [aU] at hj
        split at hj
        ·rw [List.getElem?_drop] at hj
         simp only [World.cell?,c2];simpa using hj
        ·cases hj
       obtain ⟨R2,vs,k1,k2,k3,k4,k5,k6⟩:=rW (h.fz f1 f2) Ry
       refine ⟨R2,(if agg then .agg ⟨(ys.drop o).take inf.size⟩ else ((ys.drop o).take inf.size).headD undef) :: vs,k1,f2.1.trans k2,?_,by simp [k4],by simp [k5],fun q r x' v hr hx wm=>?_⟩
       ·simp only [List.mapM_cons,Be,hv,asAddr,Sem.run_bind,Sem.run_pure,Result.andThen_ok,jc hi ha h1 hlen hc,k3]
       ·cases q with
        | zero =>
         cases hr;cases hx;cases wm
         exact ⟨(xo j7).mono k2,by simpa using h0.2⟩
        | succ q =>
         have:=k6 q r x' v (by simpa using hr) (by simpa using hx) (by simpa using wm)
         rwa [show i+1+q=i+(q+1) by omega] at this
      ·cases he
     ·cases he
    ·cases he
   ·cases he
  ·cases he
end
theorem iv.of {R:Reach} {w:World}:∀{xs:List TV} {ys:List Value},xs.length=ys.length→(∀(i:Nat) (x:TV) (y:Value),xs[i]?=some x→ys[i]?=some y→Rep R w x y)→iv R w xs ys
 | [],[],_,_ => .nil
 | x :: xs,y :: ys,h,k => .cons (k 0 x y rfl rfl) (iv.of (by simpa using h) fun i a b ha hb=>k (i+1) a b (by simpa using ha) (by simpa using hb))
 | [],_ :: _,h,_=>by simp at h
 | _ :: _,[],h,_=>by simp at h
theorem ue {own:List Nat}:∀{rs:List ResultVar} {i q t:Nat},rs[q]?=some (.tmp t)→(own.contains (i+q)=false→(t,.no)∈Bf own i rs)∧(own.contains (i+q)=true→(t,.fB (900000+(i+q)))∈Bf own i rs∧(900000+(i+q),.pv)∈Bf own i rs)
 | r :: rs,i,0,t,h=>by
  cases h
  refine ⟨fun h=>?_,fun h=>?_⟩ <;> simp only [Nat.add_zero] at h ⊢ <;> simp only [Bf,h,ah,ae]
  ·exact List.mem_append_left _ (List.mem_singleton.2 rfl)
  ·exact ⟨List.mem_append_left _ (List.mem_cons_self ..),List.mem_append_left _ (List.mem_cons_of_mem _ (List.mem_singleton.2 rfl))⟩
 | r :: rs,i,q+1,t,h=>by
  obtain ⟨h1,h2⟩:=ue (own:=own) (rs:=rs) (i:=i+1) (q:=q) (t:=t) (by simpa using h)
  rw [show i+1+q=i+(q+1) by omega] at h1 h2
  cases r with
  | tmp u=>exact ⟨fun h=>List.mem_append_right _ (h1 h),fun h=>⟨List.mem_append_right _ (h2 h).1,List.mem_append_right _ (h2 h).2⟩⟩
  | cell u v=>exact ⟨h1,h2⟩
theorem wS:∀{ms:List Md} {k q:Nat},(ms[q]?=some .rf→(1000000+(k+q),.cl [])∈nW k ms)∧((ms[q]?=some .sl∨ms[q]?=some .sm)→(1000000+(k+q),.pv)∈nW k ms)
 | [],k,q=>by simp
 | m :: ms,k,0=>by
  refine ⟨fun h=>?_,fun h=>?_⟩
  ·cases h;exact List.mem_cons_self ..
  ·rcases h with h | h <;> cases h <;> exact List.mem_cons_self ..
 | m :: ms,k,q+1=>by
  obtain ⟨h1,h2⟩:=wS (ms:=ms) (k:=k+1) (q:=q)
  rw [show k+1+q=k+(q+1) by omega] at h1 h2
  refine ⟨fun h=>?_,fun h=>?_⟩
  ·have:=h1 (by simpa using h)
   cases m <;> first | exact List.mem_cons_of_mem _ this | exact this
  ·have:=h2 (by simpa using h)
   cases m <;> first | exact List.mem_cons_of_mem _ this | exact this
theorem uc {own:List Nat} {H:St}:∀{rs:List ResultVar} {i:Nat} {xs:List TV},xs.length=rs.length→(rh own H i rs xs).length=rs.length
 | [],_,_,_=>by simp [rh]
 | .tmp _ :: rs,i,x :: xs,h=>by simp [rh,uc (rs:=rs) (i:=i+1) (xs:=xs) (by simpa using h)]
 | .cell _ _ :: rs,i,x :: xs,h=>by simp [rh,uc (rs:=rs) (i:=i+1) (xs:=xs) (by simpa using h)]
 | _ :: _,_,[],h=>by simp at h
theorem ud {own:List Nat} {H:St}:∀{rs:List ResultVar} {i q:Nat} {xs:List TV} {r:ResultVar} {x:TV},rs[q]?=some r→xs[q]?=some x→(rh own H i rs xs)[q]?=some (match r with | .tmp t=>cond (own.contains (i+q)) (H (900000+(i+q))).1 (H t).1 | .cell _ _=>x)
 | r :: rs,i,0,x :: xs,_,_,h1,h2=>by cases h1;cases h2;cases r <;> simp [rh]
 | r :: rs,i,q+1,x :: xs,r',x',h1,h2=>by
  have:=ud (own:=own) (H:=H) (rs:=rs) (i:=i+1) (q:=q) (xs:=xs) (r:=r') (x:=x') (by simpa using h1) (by simpa using h2)
  rw [show i+1+q=i+(q+1) by omega] at this
  cases r <;> simp only [rh,List.getElem?_cons_succ] <;> exact this
 | [],_,_,_,_,_,h,_=>by simp at h
 | _ :: _,_,_,[],_,_,_,h=>by simp at h
def mi (H:St):Nat→List Md→List TV→List TV
 | k,.rf :: ms,_ :: ins=>(H (1000000+k)).1 :: mi H (k+1) ms ins
 | k,.sl :: ms,_ :: ins=>(H (1000000+k)).1 :: mi H (k+1) ms ins
 | k,_ :: ms,y :: ins=>y :: mi H (k+1) ms ins
 | _,_,_=>[]
theorem uZ {H:St}:∀{ms:List Md} {k:Nat} {ins:List TV},ms.length≤ins.length→kE ms ins (qJ H k ms)=some (mi H k ms ins)
 | [],k,ins,_=>by cases ins <;> simp [kE,qJ,mi,fw]
 | m :: ms,k,y :: ins,h=>by
  have:=uZ (H:=H) (ms:=ms) (k:=k+1) (ins:=ins) (by simpa using h)
  cases m <;> simp [kE,qJ,mi,this]
 | _ :: _,_,[],h=>by simp at h
theorem wQ {H:St}:∀{ms:List Md} {k q:Nat} {ins:List TV} {y:TV},(mi H k ms ins)[q]?=some y→(ms.getD q .pl = .rf∨ms.getD q .pl = .sl→y=(H (1000000+(k+q))).1)∧(ms.getD q .pl = .sm→ins[q]?=some y)∧q<ms.length
 | m :: ms,k,0,x :: ins,y,h=>by
  cases m <;> simp only [mi,List.getElem?_cons_zero,aL] at h <;> subst h <;> simp
 | m :: ms,k,q+1,x :: ins,y,h=>by
  have h':(mi H (k+1) ms ins)[q]?=some y:=by cases m <;> simpa [mi] using h
  obtain ⟨h1,h2,h3⟩:=wQ h'
  rw [show k+1+q=k+(q+1) by omega] at h1
  exact ⟨h1,h2,by simp;omega⟩
 | [],k,q,ins,y,h=>by cases ins <;> simp [mi] at h
 | m :: _,_,_,[],_,h=>by cases m <;> simp [mi] at h
theorem wa {H:St}:∀{ms:List Md} {k q:Nat} {ins:List TV} {y:TV},oJ H k ms=mD ms ins→ms.length≤ins.length→ms[q]?=some .sm→ins[q]?=some y→y=(H (1000000+(k+q))).1
 | m :: ms,k,0,x :: ins,y,h,_,h1,h2=>by
  cases h1;cases h2
  simp only [oJ,mD,bt] at h
  exact h.1.symm
 | m :: ms,k,q+1,x :: ins,y,h,hl,h1,h2=>by
  have h':oJ H (k+1) ms=mD ms ins:=by
   cases m <;> simp only [oJ,mD,bt] at h <;> first | exact h | exact h.2
  have:=wa h' (by simpa using hl) (by simpa using h1) (by simpa using h2)
  rwa [show k+1+q=k+(q+1) by omega] at this
 | [],_,_,_,_,_,_,h,_=>by simp at h
 | _ :: _,_,_,[],_,_,h,_,_=>by simp at h
theorem uC {H:St}:∀{ms:List Md} {k:Nat} {ins:List TV},ms.length≤ins.length→(oJ H k ms).length=(mD ms ins).length
 | [],_,ins,_=>by cases ins <;> rfl
 | m :: ms,k,x :: ins,h=>by
  have:=uC (H:=H) (ms:=ms) (k:=k+1) (ins:=ins) (by simpa using h)
  cases m <;> simp [oJ,mD,this]
 | _ :: _,_,[],h=>by simp at h
theorem qQ {nt:Nat} {S:St} {G:GL} {ρ:List (Nat × Option Nat)}:∀{l:GL} {xs:List TV} {ws:List (Nat × Cell)},sb nt S G ρ l=some (xs,ws)→xs.length=l.length
 | [],_,_,h=>by cases h;rfl
 | p :: l,xs,ws,h=>by
  simp only [sb] at h
  split at h
  ·split at h
   ·rename_i h2;cases h;simp [qQ h2]
   ·cases h
  ·cases h
theorem qR {nt:Nat} {S:St} {G:GL} {ρ:List (Nat × Option Nat)}:∀{l:GL} {xs:List TV} {ws:List (Nat × Cell)} {i:Nat} {p:Nat × Gh} {x:TV},sb nt S G ρ l=some (xs,ws)→l[i]?=some p→xs[i]?=some x→∃us,AV nt S G ρ p=some (x,us)
 | p :: l,xs,ws,i,p',x',h,h1,h2=>by
  simp only [sb] at h
  split at h
  ·rename_i hv
   split at h
   ·rename_i h3
    cases h
    cases i with
    | zero=>cases h1;cases h2;exact ⟨_,hv⟩
    | succ i=>exact qR h3 (by simpa using h1) (by simpa using h2)
   ·cases h
  ·cases h
 | [],_,_,_,_,_,_,h,_=>by simp at h
theorem tZ {nt:Nat} {G:GL} {S:St} {xs:List TV} (h:jL nt G S=some xs) {k:Nat} {g:Gh} (hm:(k,g)∈G):∃x,gE G xs k=(x,g)∧(g = .no→k<nt)∧∀i,g = .fB i→k<nt∧x = .pt:=by
 unfold jL ua at h
 split at h
 ·rename_i hv
  obtain ⟨wu,he⟩:=bE.1 h
  cases he
  simp only [P1,af] at wu
  obtain ⟨i,hi⟩:=List.mem_iff_getElem?.1 hm
  have gk:i<xs.length:=by rw [qQ hv];exact (aH.1 hi).1
  have hx:xs[i]?=some xs[i]:=ar gk
  obtain ⟨us,hu⟩:=qR hv hi hx
  refine ⟨_,qA wu.1.1.1.1 hi hx,fun e=>?_,fun j e=>?_⟩
  ·subst e
   simp only [AV] at hu
   exact Nat.le_of_ble_eq_true (bE.1 hu).1
  ·subst e
   simp only [AV] at hu
   obtain ⟨h1,h2⟩:=bE.1 hu
   refine ⟨Nat.le_of_ble_eq_true h1,?_⟩
   split at h2
   ·simp only [aL,Prod.mk.injEq] at h2;exact h2.1.symm
   ·simp only [aL,Prod.mk.injEq] at h2;exact h2.1.symm
   ·cases h2
 ·cases h
section
variable {P:Program} {E:cr} {gl:Nat→Option (List Value)} {nt:Nat} {ms:List Md} {w w0:World} {R0 R2:Reach} {ins outs:List TV} {xs:List Value} {H:St} {a:Act} {AI:Nat→Value}
theorem uD (hs:eI ⟨P,E,nt,w0,R0,yd ms xs,kF xs,gl⟩ H a w R2 AI) (hG:∀p∈nW 0 ms,∃x,H p.1=(x,p.2)) {q:Nat} {v:Value} (hm:(ms.getD q .pl).D2) (hv:xs[q]?=some v):∃x g,H (1000000+q)=(x,g)∧(ms.getD q .pl = .rf→g = .cl [])∧(ms.getD q .pl ≠ .rf→g = .pv)∧v=AI (1000000+q):=by
 have Mf:ms[q]?=some (ms.getD q .pl):=by
  cases e:ms[q]? with
  | none=>rw [ai,e] at hm;exact (hm.1 rfl).elim
  | some m=>rw [ai,e];rfl
 have wm:v=AI (1000000+q):=by
  have:AI (1000000+q)=kF xs (1000000+q):=hs.io.2 _ (Nat.le_add_right _ _)
  rw [this]
  unfold kF
  rw [ao (by omega),Nat.add_sub_cancel_left,ai,hv];rfl
 obtain ⟨g1,g2⟩:=wS (ms:=ms) (k:=0) (q:=q)
 rw [Nat.zero_add] at g1 g2
 cases e:ms.getD q .pl <;> rw [e] at hm Mf
 ·exact (hm.1 rfl).elim
 ·obtain ⟨x,c1⟩:=hG _ (g1 Mf)
  exact ⟨x,_,c1,fun _=>rfl,fun h=>(h rfl).elim,wm⟩
 ·obtain ⟨x,c1⟩:=hG _ (g2 (.inl Mf))
  exact ⟨x,_,c1,fun h=>by (try cases h),fun _=>rfl,wm⟩
 ·obtain ⟨x,c1⟩:=hG _ (g2 (.inr Mf))
  exact ⟨x,_,c1,fun h=>by (try cases h),fun _=>rfl,wm⟩
 ·exact (hm.2 rfl).elim
theorem Ax (hs:eI ⟨P,E,nt,w0,R0,yd ms xs,kF xs,gl⟩ H a w R2 AI) (hG:∀p∈nW 0 ms,∃x,H p.1=(x,p.2)) (Ed:ms.length≤ins.length) (e2:oJ H 0 ms=mD ms ins) {q:Nat} {y:TV} {v:Value} (hy:(mi H 0 ms ins)[q]?=some y) (hv:xs[q]?=some v):H8 R2 w (ms.getD q .pl) y v:=by
 obtain ⟨y1,y2,y3⟩:=wQ hy
 rw [Nat.zero_add] at y1
 by_cases hm:(ms.getD q .pl).D2
 ·obtain ⟨x,g,c1,c2,c3,c4⟩:=uD hs hG hm hv
  have hK:=hs.core.key (1000000+q)
  rw [c1] at hK
  cases e:ms.getD q .pl <;> rw [e] at hm
  ·exact (hm.1 rfl).elim
  ·have AK:=y1 (.inl e)
   rw [c1] at AK
   have:=c2 e
   subst this
   obtain ⟨b,cs,el,zs,p1,p2,p3,p4,p5,p6⟩:=hK
   exact ⟨b,cs,el,zs,by rw [c4];exact p1,p2,by rw [AK];exact p3,p4,by simp,p6⟩
  ·have AK:=y1 (.inr e)
   rw [c1] at AK
   have:=c3 (by rw [e];simp)
   subst this
   rw [AK,c4];exact hK
  ·have Mf:ms[q]?=some .sm:=by
    rw [ai,ar y3] at e
    rw [ar y3];exact congrArg some e
   have AK:=wa e2 Ed Mf (y2 e)
   rw [Nat.zero_add,c1] at AK
   have:=c3 (by rw [e];simp)
   subst this
   rw [AK,c4];exact hK
  ·exact (hm.2 rfl).elim
 ·cases e:ms.getD q .pl <;> rw [e] at hm <;> first | trivial | exact (hm ⟨by simp,by simp⟩).elim
theorem zm {q:Nat} {g:Gh} (c2:ms.getD q .pl = .rf→g = .cl []) (c3:ms.getD q .pl ≠ .rf→g = .pv):g.own=true∧g.CJ=false:=by
 by_cases e:ms.getD q .pl = .rf
 ·rw [c2 e];exact ⟨rfl,rfl⟩
 ·rw [c3 e];exact ⟨rfl,rfl⟩
end
theorem DF {nt:Nat} {G:GL} {S:St} {xs:List TV} (h:jL nt G S=some xs) {k m o:Nat} (hm:(k,.ptr m o)∈G):(gE G xs k).1 = .pt:=by
 unfold jL ua at h
 split at h
 ·rename_i hv
  obtain ⟨wu,he⟩:=bE.1 h
  cases he
  simp only [P1,af] at wu
  obtain ⟨i,hi⟩:=List.mem_iff_getElem?.1 hm
  have gk:i<xs.length:=by rw [qQ hv];exact (aH.1 hi).1
  have hx:xs[i]?=some xs[i]:=ar gk
  obtain ⟨us,hu⟩:=qR hv hi hx
  rw [qA wu.1.1.1.1 hi hx]
  simp only [AV] at hu
  obtain ⟨_,h2⟩:=bE.1 hu
  split at h2
  ·obtain ⟨_,h3⟩:=bE.1 h2
   simp only [aL,Prod.mk.injEq] at h3;exact h3.1.symm
  ·cases h2
 ·cases h
theorem MP {P:Program} {E:cr} {gl:Nat→Option (List Value)} {fn:Func} {sg:bW} {w w0:World} {R0:Reach} {ins outs:List TV} {xs:List Value} {S:St} {a:Act} (hlen:ins.length=xs.length) (hp:xs.length=fn.params.size) (lD:BJ fn sg=true)
  (h:Sim ⟨P,E,fn.ntmps,w0,R0,yd sg.md xs,kF xs,gl⟩ S a w) (ho:DM fn sg=none) (he:BK P fn.ntmps fn sg S=some (outs++mD sg.md ins)) :
  a.defers=[]∧∃x R' mo ys,(results fn a.tmps).run P w = .ok x w∧Ext w0 R0 (yd sg.md xs) w R'∧(∀b o,R' b o→b<w.heap.size)∧ya sg R' w (fun b=>yd sg.md xs b∨w0.heap.size≤b) ins xs outs x mo ys:=by
 simp only [BJ,af] at lD
 obtain ⟨⟨⟨⟨⟨⟨⟨b1,b2⟩,b3⟩,b4⟩,b5⟩,b6⟩,b7⟩,b8⟩:=lD
 have b1:fn.ntmps<900000:=Nat.le_of_ble_eq_true b1
 have b2:=Nat.le_of_ble_eq_true b2
 have b3:=Nat.le_of_ble_eq_true b3
 have b4:=aw b4
 have b5:fn.results.size<1000:=Nat.le_of_ble_eq_true b5
 have Ed:sg.md.length≤ins.length:=by omega
 rw [ho,Option.isSome_none,Bool.false_or] at b6
 have blt:∀q∈sg.own,q<sg.fh:=fun q hq=>Nat.le_of_ble_eq_true (aD.1 b6 q hq)
 have bs:∀q∈sg.own,Nat.blt q 1000=true:=fun q hq=>Nat.ble_eq_true_of_le (show q+1≤1000 by have:=blt q hq;omega)
 have T0:kI sg.own=true:=aD.2 bs
 have oV:∀q∈sg.own,∀l,nC l q=l[q]?:=fun q hq l=>by unfold nC;rw [bs q hq,ah]
 have oT:∀q∈sg.own,∀l,po l q=l[q]?:=fun q hq l=>by unfold po;rw [bs q hq,ah]
 obtain ⟨R,τ,h⟩:=h
 simp only [BK,ho] at he
 split at he
 ·rename_i cx S1 hc
  split at he
  ·rename_i ys hr
   obtain ⟨R1,vs,k1,k2,k3,k4,k5,k6⟩:=rW h hc
   obtain ⟨R2,AI,hs,Gm⟩:=tY k1 hr
   have he:=Option.some.inj he
   have qz:=fun {k g}=>tZ hr (k:=k) (g:=g)
   generalize hH:gE (Hj fn sg) ys=H at *
   have hl:=uC (H:=H) (ms:=sg.md) (k:=0) Ed
   obtain ⟨e1,e2⟩:=List.append_inj' he hl
   have NC:(rh sg.own H 0 fn.results.toList cx).length=sg.fh:=by rw [uc k4,b4,Array.length_toList]
   have Oy:vs.length=sg.fh:=by rw [k5,b4,Array.length_toList]
   have Kv:outs.take sg.fh=rh sg.own H 0 fn.results.toList cx:=by rw [←e1,←NC,List.take_left]
   have O1:outs.drop sg.fh=qJ H 0 sg.md:=by rw [←e1,←NC,List.drop_left]
   have KD:∀q,sg.own.contains q=true ↔ q∈sg.own:=fun q=>by simp
   -- a result
   have res:∀q v,vs[q]?=some v→∃(r:ResultVar) (x:TV),fn.results.toList[q]?=some r∧cx[q]?=some x∧(match r with | ResultVar.tmp t=>v=a.tmps.getD t undef | ResultVar.cell _ _=>Rep R1 w x v∧q ∉ sg.own):=fun q v hv=>by
    have gk:=(aH.1 hv).1
    have h1:fn.results.toList[q]?=some (fn.results.toList[q]'(by omega)):=ar _
    have h2:cx[q]?=some (cx[q]'(by omega)):=ar _
    have:=k6 q _ _ v h1 h2 hv
    rw [Nat.zero_add] at this
    exact ⟨_,_,h1,h2,this⟩
   have Fp:∀k x g,H k=(x,g)→k<fn.ntmps→dS R2 w AI x g (a.tmps.getD k undef):=fun k x g hk gk=>by
    have:=sM hs (t:=k) gk
    rw [hk] at this;exact this
   have Ra:∀q,q<sg.fh→outs[q]?=(rh sg.own H 0 fn.results.toList cx)[q]?:=fun q hq=>by
    rw [←Kv,aU,au hq]
   -- a result of SP own
   have own:∀q∈sg.own,∀v,vs[q]?=some v→∃y,outs[q]?=some y∧v=AI (900000+q)∧H (900000+q)=(y,.pv)∧ft R2 w false v y:=fun q hq v hv=>by
    obtain ⟨r,x,r1,r2,r3⟩:=res q v hv
    have gk:=(aH.1 hv).1
    cases r with
    | cell=>exact (r3.2 hq).elim
    | tmp t =>
     obtain ⟨m1,m2⟩:=(ue (own:=sg.own) (i:=0) r1).2 (by rw [Nat.zero_add];exact (KD q).2 hq)
     rw [Nat.zero_add] at m1 m2
     obtain ⟨x1,c1,_,c2⟩:=qz (List.mem_append_left _ m1)
     obtain ⟨x2,d1,_⟩:=qz (List.mem_append_left _ m2)
     obtain ⟨c3,rfl⟩:=c2 _ rfl
     have NB:=Fp t _ _ c1 c3
     have hK:=hs.core.key (900000+q)
     rw [d1] at hK
     have wm:v=AI (900000+q):=r3.trans NB.1
     refine ⟨x2,?_,wm,d1,by rw [wm];exact hK⟩
     rw [Ra q (by omega),ud r1 r2,Nat.zero_add]
     simp only [(KD q).2 hq,ah,d1]
   have Pd:∀p∈nW 0 sg.md,∃x,H p.1=(x,p.2):=fun p hp=>by obtain ⟨x,c,_⟩:=qz (List.mem_append_right _ hp);exact ⟨x,c⟩
   refine ⟨hs.defers,_,R2,vs,mi H 0 sg.md ins,si k3,hs.ext,hs.core.re,⟨Oy,?_,by rw [Oy],?_,fun q hq v y hv hy=>?_,by rw [O1];exact uZ Ed,fun q y v hy hv=>?_,fun q hq v b hv hb=>?_,fun j j' i i' v v' b hj sv hv wm hb lr=>?_,fun i hi v b hv hb q u hm hu O7=>?_⟩⟩
   ·rw [←e1];simp only [aj,NC];omega
   ·refine iv.of (by simp only [pJ,T0,ah,List.length_mapIdx,aF];rw [Oy,←e1,aj,NC];omega) fun q x v hx hv=>?_
    simp only [pJ,T0,ah,List.getElem?_mapIdx,aM] at hx
    obtain ⟨y,hy,rfl⟩:=hx
    cases Tm:sg.own.contains q with
    | true=>exact .pt _
    | false =>
     rw [ae]
     obtain ⟨r,x,r1,r2,r3⟩:=res q v hv
     rw [Kv,ud r1 r2,Nat.zero_add] at hy
     cases r with
     | cell=>cases hy;exact r3.1.mono Gm
     | tmp t =>
      simp only [Tm,ae,aL] at hy
      subst hy
      have m1:=(ue (own:=sg.own) (i:=0) r1).1 (by rw [Nat.zero_add];exact Tm)
      obtain ⟨x1,c1,c2,_⟩:=qz (List.mem_append_left _ m1)
      rw [c1,r3]
      exact jF.rep (Fp t _ _ c1 (c2 rfl))
   ·rw [oV q hq] at hv
    rw [oT q hq] at hy
    obtain ⟨y',o1,_,_,o2⟩:=own q hq v hv
    rw [o1] at hy;cases hy;exact o2
   ·exact Ax hs Pd Ed e2 hy hv
   ·rw [oV q hq] at hv
    obtain ⟨y,_,o1,o2,_⟩:=own q hq v hv
    rw [o1] at hb
    exact hs.core.dK (900000+q) b (ib (by rw [o2];rfl) (by rw [o2];rfl) hb)
   ·rw [oV i (aK hj)] at hv
    rw [oV i' (aK sv)] at wm
    obtain ⟨y,_,o1,o2,_⟩:=own i (aK hj) v hv
    obtain ⟨y',_,U7,SR,_⟩:=own i' (aK sv) v' wm
    rw [o1] at hb
    rw [U7] at lr
    have:=hs.core.vn (ib (by rw [o2];rfl) (by rw [o2];rfl) hb) (ib (by rw [SR];rfl) (by rw [SR];rfl) lr)
    have:i=i':=by omega
    subst this
    exact Af b7 hj sv
   ·rw [oV i hi] at hv
    obtain ⟨y,_,o1,o2,_⟩:=own i hi v hv
    obtain ⟨x,g,c1,c2,c3,c4⟩:=uD hs Pd hm hu
    rw [o1] at hb
    rw [c4] at O7
    have OH:=zm c2 c3
    have:=hs.core.vn (ib (by rw [o2];rfl) (by rw [o2];rfl) hb) (ib (by rw [c1];exact OH.1) (by rw [c1];exact OH.2) O7)
    have gk:=(aH.1 hv).1
    have:fn.results.size=sg.fh:=b4.symm
    omega
  ·cases he
 ·cases he
theorem MO {P:Program} {E:cr} {gl:Nat→Option (List Value)} {fn:Func} {sg:bW} {w w0:World} {R0:Reach} {ins outs:List TV} {xs:List Value} {S:St} {a:Act} {r c:Nat} {t:TypeId} (hlen:ins.length=xs.length) (hp:xs.length=fn.params.size) (lD:BJ fn sg=true)
  (h:Sim ⟨P,E,fn.ntmps,w0,R0,yd sg.md xs,kF xs,gl⟩ S a w) (ho:DM fn sg=some ((r,t),c)) (he:BK P fn.ntmps fn sg S=some (outs++mD sg.md ins)) :
  a.defers=[]∧∃x R' mo ys,(results fn a.tmps).run P w = .ok x w∧Ext w0 R0 (yd sg.md xs) w R'∧(∀b o,R' b o→b<w.heap.size)∧ya sg R' w (fun b=>yd sg.md xs b∨w0.heap.size≤b) ins xs outs x mo ys:=by
 simp only [BJ,af] at lD
 obtain ⟨⟨⟨⟨⟨⟨⟨b1,b2⟩,b3⟩,b4⟩,b5⟩,b6⟩,b7⟩,b8⟩:=lD
 have b1:fn.ntmps<900000:=Nat.le_of_ble_eq_true b1
 have b3:=Nat.le_of_ble_eq_true b3
 have b4:=aw b4
 have Ed:sg.md.length≤ins.length:=by omega
 obtain ⟨R,τ,h⟩:=h
 simp only [BK,ho] at he
 obtain ⟨OD,Js⟩:fn.results.toList=[.cell r t]∧sg.own=[1000+c]:=by
  unfold DM at ho
  split at ho
  ·rename_i a' t' j h1 h2
   cases hb:Nat.blt j 1000 with
   | true=>rw [hb] at ho;cases ho
   | false =>
    rw [hb] at ho;cases ho
    have:1000≤j:=Nat.le_of_not_lt fun gk=>by rw [show Nat.blt j 1000=true from Nat.ble_eq_true_of_le gk] at hb;cases hb
    rw [h1,h2,show 1000+(j - 1000)=j by omega];exact ⟨rfl,rfl⟩
  ·cases ho
 have Jt:sg.fh=1:=by rw [b4,←Array.length_toList,OD];rfl
 unfold Pl at he
 split at he
 ·rename_i m n YL L2
  split at he
  ·rename_i ys hr
   obtain ⟨R2,AI,hs,Gm⟩:=tY h hr
   have qz:=fun {k g}=>tZ hr (k:=k) (g:=g)
   generalize hH:gE (Et r m c sg) ys=H at *
   obtain ⟨x1,c1,_,_⟩:=qz (k:=r) (g := .ptr m 0) (List.mem_cons_self ..)
   obtain ⟨x2,c2,_,_⟩:=qz (k:=m) (g := .cl [(c,900000)]) (List.mem_cons_of_mem _ (List.mem_cons_self ..))
   obtain ⟨y,c3,_,_⟩:=qz (k:=900000) (g := .pv) (List.mem_cons_of_mem _ (List.mem_cons_of_mem _ (List.mem_cons_self ..)))
   have Pd:∀p∈nW 0 sg.md,∃x,H p.1=(x,p.2):=fun p hp=>by obtain ⟨x,c,_⟩:=qz (List.mem_cons_of_mem _ (List.mem_cons_of_mem _ (List.mem_cons_of_mem _ hp)));exact ⟨x,c⟩
   rw [c2] at he
   split at he
   ·rename_i cs g e
    cases e
    obtain ⟨hh,he⟩:=bE.1 he
    simp only [af] at hh
    have hn:=aw hh.1
    have NC:r<fn.ntmps:=Nat.le_of_ble_eq_true hh.2
    have he:=Option.some.inj he
    have hl:=uC (H:=H) (ms:=sg.md) (k:=0) Ed
    rw [←List.cons_append] at he
    obtain ⟨e1,e2⟩:=List.append_inj' he hl
    rw [c3] at e1
    have wo:=sM hs (t:=r) NC
    rw [c1] at wo
    have hV:=hs.core.key m
    rw [c2] at hV
    obtain ⟨b,zs,el,H9,p1,p2,p3,p4,p5,p6⟩:=hV
    cases p3
    have hv:a.tmps.getD r undef = .pointer (some ⟨b,0,none⟩):=by
     have Ro:=DF hr (List.mem_cons_self ..)
     rw [hH,c1] at Ro
     simp only at Ro
     subst Ro
     obtain ⟨b',q1,q2⟩:∃b',AI m = .pointer (some ⟨b',0,none⟩)∧a.tmps.getD r undef = .pointer (some ⟨b',0,none⟩):=wo
     rw [p1] at q1;cases q1;exact q2
    have hy:=p5 (c,900000) (List.mem_singleton.2 rfl)
    simp only at hy
    have hK:=hs.core.key 900000
    rw [c3] at hK
    obtain ⟨inf,hi,sY,ha⟩:=gn L2
    have D9:=p4.length
    have AO:c<zs.length:=(aH.1 hy).1
    have kp:(fn.results.toList.mapM (Be a.tmps)).run P w = .ok [.agg ⟨zs⟩] w:=by
     rw [OD]
     simp only [List.mapM_cons,List.mapM_nil,Be,hv,asAddr,Sem.run_bind,Sem.run_pure,Result.andThen_ok,jc hi ha (.inl rfl) (w:=w) (b:=b) (off:=0) (ys:=zs) (by omega) (fun j y hj=>by simp only [World.cell?,p2];simpa using hj),if_true]
    have OI:Nat.blt (1000+c) 1000=false:=by
     cases hb:Nat.blt (1000+c) 1000 with
     | false=>rfl
     | true=>have:1000+c+1≤1000:=Nat.le_of_ble_eq_true hb;omega
    have oV:∀q∈sg.own,∀v,nC [.agg ⟨zs⟩] q=some v→v=AI 900000:=fun q hq v hv=>by
     rw [Js,List.mem_singleton] at hq
     subst hq
     unfold nC at hv
     simp only [OI,ae,List.getElem?_cons_zero,Nat.add_sub_cancel_left] at hv
     rw [hy] at hv;cases hv;rfl
    have S5:∀{v b},v=AI 900000→Value.gR v=some b→gR AI H 900000=some b:=fun e hb=>by subst e;exact ib (by rw [c3];rfl) (by rw [c3];rfl) hb
    refine ⟨hs.defers,_,R2,[.agg ⟨zs⟩],mi H 0 sg.md ins,si kp,hs.ext,hs.core.re,⟨Jt.symm,?_,by rw [Jt];rfl,?_,fun q hq v y' hv AK=>?_,by rw [Jt,←e1];exact uZ Ed,fun q y v hy hv=>?_,fun q hq v b hv hb=>?_,fun j j' i i' v v' b hj sv hv wm hb lr=>?_,fun i hi v b hv hb q u hm hu O7=>?_⟩⟩
    ·rw [Jt,←e1];simp
    ·have OC:kI [1000+c]=false:=by unfold kI;rw [List.all_cons,OI];rfl
     rw [Jt,←e1,Js]
     simp only [List.take_succ_cons,List.take_zero,pJ,OC,ae,aX,bw,P0]
     refine .cons (.ag ?_) .nil
     have:((cs.set c y).mapIdx fun k z=>cond ([1000+c].contains (1000+k)) TV.pt z)=cs.set c .pt:=by
      apply List.ext_getElem?
      intro k
      rw [List.getElem?_mapIdx,List.getElem?_set,List.getElem?_set]
      by_cases e:c=k
      ·subst e;simp [show c<cs.length by omega]
      ·have e':¬k=c:=fun h=>e h.symm
       simp [e,e']
     rw [this]
     exact p4.set fun _ _ => .pt _
    ·rw [oV q hq v hv]
     rw [Js,List.mem_singleton] at hq
     subst hq
     unfold po at AK
     rw [←e1] at AK
     simp only [OI,ae,List.getElem?_cons_zero,Nat.add_sub_cancel_left,List.getElem?_set,if_true,show c<cs.length by omega] at AK
     cases AK;exact hK
    ·exact Ax hs Pd Ed e2 hy hv
    ·exact hs.core.dK 900000 b (S5 (oV q hq v hv) hb)
    ·rw [Js] at hj sv
     have:=(aH.1 hj).1
     have:=(aH.1 sv).1
     simp at *;omega
    ·obtain ⟨x,g,d1,d2,d3,d4⟩:=uD hs Pd hm hu
     rw [d4] at O7
     have OH:=zm d2 d3
     have:=hs.core.vn (S5 (oV i hi v hv) hb) (ib (by rw [d1];exact OH.1) (by rw [d1];exact OH.2) O7)
     omega
   ·cases he
  ·cases he
 ·cases he
theorem Hi {P:Program} {E:cr} {gl:Nat→Option (List Value)} {fn:Func} {sg:bW} {w w0:World} {R0:Reach} {ins outs:List TV} {xs:List Value} {S:St} {a:Act} (hlen:ins.length=xs.length) (hp:xs.length=fn.params.size) (lD:BJ fn sg=true)
  (h:Sim ⟨P,E,fn.ntmps,w0,R0,yd sg.md xs,kF xs,gl⟩ S a w) (he:BK P fn.ntmps fn sg S=some (outs++mD sg.md ins)) :
  a.defers=[]∧∃x R' mo ys,(results fn a.tmps).run P w = .ok x w∧Ext w0 R0 (yd sg.md xs) w R'∧(∀b o,R' b o→b<w.heap.size)∧ya sg R' w (fun b=>yd sg.md xs b∨w0.heap.size≤b) ins xs outs x mo ys:=by
 cases ho:DM fn sg with
 | none=>exact MP hlen hp lD h ho he
 | some p=>obtain ⟨⟨r,t⟩,c⟩:=p;exact MO hlen hp lD h ho he
theorem IG {P:Program} {E:cr} {gl:Nat→Option (List Value)} (hE:jq P E) (hF:∀f,bC P gl f (E.fs f)) {f:Nat} {c:eu} {sg:bW} (hint:Hint) (hG:∀ins outs,(c ins).holds outs→cI P E f sg hint ins=some (outs++mD sg.md ins)):bC P gl f (c,sg):=by
 intro ins outs hc
 have hr:=hG ins outs hc
 unfold cI at hr
 split at hr
 ·rename_i fn hf
  split at hr
  ·rename_i body hb
   obtain ⟨h1,hr⟩:=bE.1 hr
   simp only [af] at h1
   obtain ⟨lD,hl⟩:=h1
   have hl:=aw hl
   have KB:=lD
   simp only [BJ,af] at KB
   obtain ⟨⟨⟨⟨⟨⟨⟨b1,b2⟩,b3⟩,b4⟩,b5⟩,b6⟩,b7⟩,b8⟩:=KB
   have b1:fn.ntmps<900000:=Nat.le_of_ble_eq_true b1
   have b2:=Nat.le_of_ble_eq_true b2
   refine ⟨?_,fun w R xs hR GI ha hs=>?_⟩
   ·unfold o0
    rw [hf]
    simp only [Option.any_some,hb,Option.isSome_some,Bool.true_and]
    exact b8
   ·have hx:xs.length=fn.params.size:=by rw [←ha.1,hl]
    refine calls_of_wp hf hb ?_
    have sY:(⟨xs⟩:Array Value).size=xs.length:=rfl
    rw [sY]
    have R7:=HT (P:=P) (E:=E) (nt:=fn.ntmps) (by omega) (by omega) hR GI ha hs
    rw [←hx,←Hd] at hr
    refine ML (C:=⟨P,E,fn.ntmps,w,R,yd sg.md xs,kF xs,gl⟩) hE hF body ⟨R,_,R7⟩ hr fun e S' a' w' h' hk=>?_
    cases e with
    | ret =>
     obtain ⟨d,x,R',mo,ys,k1,k2,k3,k4⟩:=Hi ha.1 hx lD h' hk
     exact ⟨d,x,k1,x,R',mo,ys,rfl,k2,k3,k4⟩
    | normal =>
     obtain ⟨d,x,R',mo,ys,k1,k2,k3,k4⟩:=Hi ha.1 hx lD h' hk
     exact ⟨d,x,k1,x,R',mo,ys,rfl,k2,k3,k4⟩
    | _=>cases hk
  ·cases hr
 ·cases hr
end Go.Eng
namespace Go.Eng
open Go.RowKit
def FW:eu × bW:=(fun _ => .err,{})
theorem Du {P:Program} {gl:Nat→Option (List Value)} {f:Nat}:bC P gl f FW:=fun _ _ h=>h.elim
def look {A:Type} (z:A):List (Nat × A)→Nat→A
 | [],_=>z
 | (k,c) :: r,n=>cond (Nat.beq n k) c (look z r n)
abbrev PI:=List (Nat × (fx × Nat))
abbrev Zs:=List (Nat × List TV)
def zj {A:Type}:List (Nat × A)→Nat→Option A
 | [],_=>none
 | (k,c) :: r,n=>cond (Nat.beq n k) (some c) (zj r n)
def cL (ty:PI) (z:Zs) (l:List (Nat × (eu × bW))) (ld:List Nat:=[]):cr:=⟨look FW l,zj ty,zj z,ld⟩
theorem MN {P:Program} {gl:Nat→Option (List Value)} {l:List (Nat × (eu × bW))} (h:∀p∈l,bC P gl p.1 p.2):∀f,bC P gl f (look FW l f):=by
 intro f
 induction l with
 | nil=>exact Du
 | cons p r ih =>
  obtain ⟨k,c⟩:=p
  simp only [look]
  cases hb:Nat.beq f k with
  | true=>rw [aw hb];exact h (k,c) (List.mem_cons_self ..)
  | false=>exact ih fun q hq=>h q (List.mem_cons_of_mem _ hq)
theorem rD {A:Type} {n:Nat} {x:A}:∀{l:List (Nat × A)},zj l n=some x→(n,x)∈l
 | (k,c) :: r,h=>by
  simp only [zj] at h
  cases hb:Nat.beq n k with
  | true=>rw [hb] at h;cases h;rw [aw hb];exact List.mem_cons_self ..
  | false=>rw [hb] at h;exact List.mem_cons_of_mem _ (rD h)
def KM:Value→TV→Bool
 | .slice none 0 0,.sl _ []=>true
 | v,x=>B3 v x
def rQ:List Value→List TV→Bool
 | [],[]=>true
 | x :: xs,y :: ys=>KM x y&&rQ xs ys
 | _,_=>false
theorem wK {R:Reach} {w:World}:∀{vs:List Value} {xs:List TV},rQ vs xs=true→dq R w xs vs
 | [],[],_ => .nil
 | v :: vs,x :: xs,h=>by
  simp only [rQ,af] at h
  have h1:Rep R w x v∧v.oneCell'=true:=by
   have:=h.1
   unfold KM at this
   split at this
   ·exact ⟨.sn _,rfl⟩
   ·exact tw this
  exact .cons h1.2 h1.1 (wK h.2)
 | [],_ :: _,h=>by simp [rQ] at h
 | _ :: _,[],h=>by simp [rQ] at h
def E9 (P:Program) (ty:PI):Bool:=ty.all fun p=>match P.underlying p.1 with
 | some (.slice e)=>match P.info? e with
  | some i=>Nat.beq i.size p.2.1.size&&Nat.beq i.bytes p.2.2&&(match i.zero with
   | some z=>rQ z.cells.toList (p.2.1.tv p.2.1.gm).cells
   | none=>false)
  | none=>false
 | _=>false
def KZ (P:Program) (z:Zs):Bool:=z.all fun p=>oP P p.1&&match (P.info? p.1).bind (·.zero) with
 | some v=>og v.cells.toList p.2
 | none=>false
theorem MM {P:Program} {ty:PI} {z:Zs} {l:List (Nat × (eu × bW))} {ld:List Nat} (hm:P.follows .mixedOrders=true) (h1:E9 P ty=true) (h2:KZ P z=true):jq P (cL ty z l ld):=by
 refine ⟨hm,fun t st b he=>?_,fun t c he=>?_⟩
 ·have:=aD.1 h1 _ (rD (l:=ty) he)
  simp only at this
  split at this
  ·rename_i e hu
   split at this
   ·rename_i i hi
    simp only [af] at this
    obtain ⟨⟨k1,k2⟩,k3⟩:=this
    split at k3
    ·rename_i zv hz
     have hL:∀R w,dq R w (st.tv st.gm).cells zv.cells.toList:=fun R w=>wK k3
     refine ⟨e,i,zv,hu,hi,aw k1,aw k2,hz,?_,hL⟩
     have:=(hL (fun _ _=>False) default).length
     rw [fx.kN] at this
     simpa using this.symm
    ·cases k3
   ·cases this
  ·cases this
 ·have:=aD.1 h2 _ (rD (l:=z) he)
  simp only [af] at this
  refine ⟨this.1,?_⟩
  have h:=this.2
  split at h
  ·rename_i v hv
   exact ⟨v,hv,h⟩
  ·cases h
theorem meets {P:Program} {gl:Nat→Option (List Value)} {ty:PI} {z:Zs} {l:List (Nat × (eu × bW))} {ld:List Nat} (hm:P.follows .mixedOrders=true∧E9 P ty=true∧KZ P z=true) (hE:∀p∈l,bC P gl p.1 p.2) {f:Nat} (hint:Hint) {c:eu} {sg:bW}
  (hG:∀ins outs,(c ins).holds outs→cI P (cL ty z l ld) f sg hint ins=some (outs++mD sg.md ins)):bC P gl f (c,sg) :=
 IG (MM hm.1 hm.2.1 hm.2.2) (MN hE) hint hG
def Fit (F:List TV→OT) (l:List TV→List TV) (ins:List TV):oc→Prop
 | .ok outs=>F ins=some (outs++l ins)
 | .eF p outs=>p=true→F ins=some (outs++l ins)
 | .err=>True
theorem fits {c:eu} {F:List TV→OT} {l:List TV→List TV} (h:∀ins,Fit F l ins (c ins)):∀ins outs,(c ins).holds outs→F ins=some (outs++l ins):=fun ins outs hc=>by
 have h:=h ins
 cases e:c ins with
 | ok ws=>rw [e] at h hc;obtain rfl:outs=ws:=hc;exact h
 | eF p ws=>rw [e] at h hc;obtain ⟨hp,rfl⟩:p=true∧outs=ws:=hc;exact h hp
 | err=>rw [e] at hc;exact hc.elim
theorem kX {P:Program} {gl:Nat→Option (List Value)} {f:Nat} {sg:bW} {c':eu} (h:∀ti kV,(c' ti).holds kV→∃c:eu,bC P gl f (c,sg)∧(c ti).holds kV):bC P gl f (c',sg):=fun ins outs hc=>by
 obtain ⟨c,hs,hc⟩:=h ins outs hc
 exact hs ins outs hc
theorem jk {P:Program} {gl:Nat→Option (List Value)} {f:Nat} {sg:bW} {c:eu} (h:∀ti kV,¬(c ti).holds kV):bC P gl f (c,sg):=fun ins outs hc=>(h ins outs hc).elim
theorem all_nil {A:Type} {p:A→Prop}:∀x∈([]:List A),p x:=fun _ h=>by cases h
theorem all_cons {A:Type} {p:A→Prop} {a:A} {l:List A} (h:p a) (t:∀x∈l,p x):∀x∈a :: l,p x:=fun x hx=>by
 rcases aP.1 hx with rfl | hx
 ·exact h
 ·exact t x hx
def Old (w:World):Reach:=fun b _=>b<w.heap.size
theorem calls_of_spec {P:Program} {gl:Nat→Option (List Value)} {f:Nat} {c:eu} (h:bC P gl f (c,{})) {ti:List TV} {xs:List Value} {w:World}
  (GI:GlOK gl (Old w) w) (hc:(c ti).holds [.b true]) (ha:iv (Old w) w ti xs):Calls P f ⟨xs⟩ w fun e w'=>e = .returned (.bool true)∧Below w.heap.size w w':=by
 refine ((h ti [.b true] hc).2 w (Old w) xs (fun b o hb=>hb) GI ⟨ha.length,fun i x v hx hv=>?_⟩ fun i j v v' b hi=>(hi (by simp)).elim).mono ?_
 ·obtain ⟨y,h1,h2⟩:=ha.get i x hx
  rw [hv] at h1;cases h1;exact h2
 ·rintro e w' ⟨x,R',mo,ys,rfl,hx,hr,ho⟩
  refine ⟨?_,hx.os,hx.tape,hx.output,hx.size,fun k hk=>hx.heap k hk ?_⟩
  ·congr 1
   have hl:mo.length=1:=ho.len
   have j7:=ho.rep
   rw [ho.val]
   match mo,hl with
   | [y],_ =>
    simp only [if_true,List.headD_cons]
    have j7:iv R' w' [.b true] [y]:=j7
    cases j7 with
    | cons a _=>exact a.dJ rfl
  ·rintro ⟨i,v,hm,_⟩
   exact hm (by simp)
theorem D8 {n:Int} {l:Nat}:bD n l=true ↔ 0≤n∧n<l:=by simp [bD]
theorem EE {a b:Int} {l:Nat}:gY a b l=true ↔ 0≤a∧a≤b∧b≤l:=by simp [gY,and_assoc]
theorem HY {n b:Nat}:fi n b=true ↔ n≤maxLen∧n * b≤140737488355328:=by simp [fi]
theorem kZ {l c:Int} {b:Nat}:pO l c b=true ↔ 0≤l∧l≤c∧c * b≤140737488355328∧c≤maxLen:=by simp [pO,and_assoc]
theorem D3 {n:Nat}:so n=true ↔ n≤maxLen:=by simp [so]
end Go.Eng
namespace Go.Eng
open Go.RowKit Go.Sort
theorem pg {w w':World} {R:Reach} {io:Nat→Prop} (hR:∀b o,R b o→b<w.heap.size) (h:Below w.heap.size w w'):Ext w R io w' R :=
 ⟨h.os,h.tape,h.output,h.size,fun b hb _=>h.block b hb,fun b o hr=>⟨hr,by simp only [World.cell?,h.block b (hR b o hr)]⟩,fun b o hr => .inl hr⟩
theorem De {R:Reach} {w:World} {ti:List TV} {xs:List Value} (h:yb R w [] ti xs):iv R w ti xs:=iv.of h.1 fun i x y hx hy=>h.2 i x y hx hy
theorem iL {P:Program} {gl:Nat→Option (List Value)} {f:Nat} {c:eu} (hb:o0 P f=true) (h:∀(ti kV:List TV) (w:World) (R:Reach) (xs:List Value),(c ti).holds kV→iv R w ti xs→(∀b o,R b o→b<w.heap.size)→GlOK gl R w →
  Calls P f ⟨xs⟩ w fun e w'=>∃x,e = .returned x∧Below w.heap.size w w'∧∀R w',iv R w' kV [x]):bC P gl f (c,{}):=by
 refine fun ti kV hc=>⟨hb,fun w R xs hR GI ha _=>(h ti kV w R xs hc (De ha) hR GI).mono ?_⟩
 rintro e w' ⟨x,rfl,Eg,hx⟩
 have hl:kV.length=1:=by simpa using (hx R w').length
 match kV,hl with
 | [y],_ =>
  refine ⟨x,R,[x],[],rfl,pg hR Eg,fun b o hr=>Nat.lt_of_lt_of_le (hR b o hr) Eg.size,?_⟩
  exact ⟨rfl,Nat.le_refl _,rfl,hx R w',fun i hi=>(by cases hi),rfl,fun i y v hy=>(by simp at hy),fun i hi=>(by cases hi),fun j j' i i' v v' b hj=>(by simp at hj),fun i hi=>(by cases hi)⟩
theorem yI {P:Program} {gl:Nat→Option (List Value)} {f n:Nat} {c:eu} (hb:o0 P f=true) (hn:n≠1) (h:∀(ti kV:List TV) (w:World) (R:Reach) (xs:List Value),(c ti).holds kV→iv R w ti xs→(∀b o,R b o→b<w.heap.size)→GlOK gl R w →
  Calls P f ⟨xs⟩ w fun e w'=>∃ys,ys.length=n∧e = .returned (.tuple ⟨ys⟩)∧Below w.heap.size w w'∧∀R w',iv R w' kV ys):bC P gl f (c,{ fh:=n }):=by
 refine fun ti kV hc=>⟨hb,fun w R xs hR GI ha _=>(h ti kV w R xs hc (De ha) hR GI).mono ?_⟩
 rintro e w' ⟨ys,hy,rfl,Eg,hx⟩
 have hl:kV.length=n:=by rw [(hx R w').length,hy]
 refine ⟨.tuple ⟨ys⟩,R,ys,[],rfl,pg hR Eg,fun b o hr=>Nat.lt_of_lt_of_le (hR b o hr) Eg.size,?_⟩
 have e1:kV.take n=kV:=List.take_of_length_le (by omega)
 have e2:kV.drop n=[]:=aC (by omega)
 refine ⟨hy,by show n≤_;omega,by show _=if n=1 then _ else _;rw [ao hn],?_,fun i hi=>(by cases hi),?_,fun i y v hy=>(by simp at hy),fun i hi=>(by cases hi),fun j j' i i' v v' b hj=>(by simp at hj),fun i hi=>(by cases hi)⟩
 ·have e3:pJ [] (kV.take n)=kV:=by rw [e1,yY]
  show iv R w' (pJ [] (kV.take n)) ys
  rw [e3];exact hx R w'
 ·show kE [] ti (kV.drop n)=some []
  rw [e2];rfl
theorem jt {R:Reach} {w:World}:∀{ti:List TV} {xs ys:List Value},iv R w ti xs→ti.mapM TV.val=some ys→xs=ys
 | [],_,_,.nil,h=>by simpa using h
 | x :: r,_,_,.cons a b,h=>by
  rw [List.mapM_cons] at h
  obtain ⟨v,hv,h⟩:=aN.1 h
  obtain ⟨vs,Gy,h⟩:=aN.1 h
  cases h
  rw [a.dJ hv,jt b Gy]
theorem qj {R:Reach} {w:World} {l:bz}:Rep R w (.s l) (.string ⟨⟨l⟩⟩) := .sc rfl
theorem Kd {R:Reach} {w:World} {n:Int}:Rep R w (.i .i64 n) (.int .i64 n) := .sc rfl
theorem ox {R:Reach} {w:World} {x:TV} {v:Value} (h:Rep R w x v):iv R w [x] [v] := .cons h .nil
def Jx:List (Nat × List Value)→Nat→Option (List Value)
 | [],_=>none
 | (k,v) :: r,n=>cond (Nat.beq n k) (some v) (Jx r n)
def vm (k:IntKind) (zs:List Int):List Value:=zs.map fun z=>Value.int k z
theorem Mz {P:Program} {w:World} {name:String} {k:IntKind} {zs:List Int} {g:Nat} (h:Lib.TabIs P w name k zs) (hg:P.globalNamed name=some g) (o:Nat):Old w g o∧w.cell? ⟨g,o,none⟩=(vm k zs)[o]?:=by
 have hs:g<w.heap.size:=by
  unfold Lib.TabIs World.var? at h
  rw [hg] at h
  simp only [Option.bind_some] at h
  cases hh:w.heap[g]? with
  | none=>rw [hh] at h;cases h
  | some x=>exact (Array.getElem?_eq_some_iff.1 hh).1
 exact ⟨hs,by have:=World.var?_cell hg h o;simpa [vm] using this⟩
theorem Ld {P:Program} {gl:Nat→Option (List Value)} {R:Reach} {w:World} {name:String} {k:IntKind} {z:Int} {zs:List Int} {g:Nat} (h:GlOK gl R w) (e:gl g=some (vm k (z :: zs))) (hg:P.globalNamed name=some g):Lib.TabIs P w name k (z :: zs):=by
 have h2:=fun o=>(h g _ e o).2
 have h0:=h2 0
 unfold Lib.TabIs World.var?
 rw [hg]
 simp only [Option.bind_some]
 simp only [World.cell?] at h0 h2
 cases hh:w.heap[g]? with
 | none=>rw [hh] at h0;cases h0
 | some x =>
  rw [hh] at h0 h2
  cases x with
  | cells cs e f =>
   simp only at h2 ⊢
   congr 1
   apply Array.ext_getElem?
   intro i
   have:=h2 i
   simp only [Option.isSome_none,bp,if_false] at this
   rw [this]
   simp [vm]
  | _=>cases h0
theorem gl_nil {R:Reach} {w:World}:GlOK (Jx []) R w:=fun _ _ h=>by cases h
theorem gl_cons {P:Program} {w:World} {name:String} {k:IntKind} {zs:List Int} {g:Nat} {r:List (Nat × List Value)} (h:Lib.TabIs P w name k zs) (hg:P.globalNamed name=some g) (t:GlOK (Jx r) (Old w) w):GlOK (Jx ((g,vm k zs) :: r)) (Old w) w:=fun n vs hn o=>by
 unfold Jx at hn
 cases hb:Nat.beq n g with
 | true=>rw [hb] at hn;cases hn;rw [aw hb];exact Mz h hg o
 | false=>rw [hb] at hn;exact t n vs hn o
theorem nR (w:World) (k:Nat) (os:Array Obj):Below w.heap.size w (grow (w.drewN k) os) :=
 ⟨rfl,rfl,rfl,by show w.heap.size≤(w.heap++os).size;simp,fun i hi=>heap_grow_old (w.drewN k) os hi⟩
def iT (n:Nat):bz:=if h:n<10 then [UInt8.ofNat (48+n)] else iT (n / 10)++[UInt8.ofNat (48+n % 10)]
termination_by n
decreasing_by omega
theorem Ah (n:Nat):Lib.decDigits n=iT n:=by
 induction n using Nat.strongRecOn with
 | _ n ih =>
  rw [Lib.decDigits,iT]
  by_cases h:n<10
  ·rw [dif_pos h,dif_pos h]
  ·rw [dif_neg h,dif_neg h,ih (n / 10) (by omega)]
theorem Gt (n:Nat):Lib.itoa (n:Int)=iT n:=by
 rw [Lib.itoa,ao (by omega),ak,Ah]
end Go.Eng
namespace Go.Eng
open Go.RowKit
def nq (P:Program) (n:Nat) (t:TypeId) (A:Type) (g:A→List TV):Prop :=
 ∀(H:Type) (enc:TypeId × Value→H) (w:World) (base:Nat) (spare:Nat→Bool) (held:Bool) (cs:List Value) (x:DataW H × List MemPlace),DataW.trod enc P w base spare held n t cs=some x→∃a:A,dq (Old w) w (g a) cs
theorem N7 {n:Int} (h:(Lit.int .u8 n).wf=true):((UInt8.ofInt n).toNat:Int)=n:=by
 have hx:0≤n∧n≤255:=by simpa [Lit.wf,IntKind.min,IntKind.max,IntKind.signed,IntKind.bits] using h
 rw [tI,wrap_u8'];omega
section
variable {P:Program} {n:Nat} {t:TypeId}
theorem vR (ht:P.underlying t=some (.int .i64)):nq P n t Int fun m=>[.i .i64 m]:=by
 intro H enc w base spare held cs x h
 obtain ⟨m,rfl,_,_⟩:=DataW.trod_int ht h
 exact ⟨m,.cons rfl (.sc rfl) .nil⟩
theorem K5 {n:Int} (h:(Lit.int .u64 n).wf=true):((UInt64.ofInt n).toNat:Int)=n:=by
 have hx:0≤n∧n≤18446744073709551615:=by simpa [Lit.wf,IntKind.min,IntKind.max,IntKind.signed,IntKind.bits] using h
 have e:IntKind.u64.wrap n=n % (18446744073709551616:Nat):=by simp [IntKind.wrap,IntKind.bits,IntKind.signed]
 rw [mS,e];omega
theorem IW {R:Reach} {w:World} {n:Int} (h:(Lit.int .u64 n).wf=true):Rep R w (.u64 (UInt64.ofInt n)) (.int .u64 n) := .sc (by show some _=some _;rw [K5 h])
theorem rm (ht:P.underlying t=some (.int .u64)):nq P n t UInt64 fun m=>[.u64 m]:=by
 intro H enc w base spare held cs x h
 obtain ⟨m,rfl,_,hw⟩:=DataW.trod_int ht h
 exact ⟨UInt64.ofInt m,.cons rfl (IW hw) .nil⟩
theorem FO (ht:P.underlying t=some (.int .u8)):nq P n t UInt8 fun m=>[.u8 m]:=by
 intro H enc w base spare held cs x h
 obtain ⟨m,rfl,_,hw⟩:=DataW.trod_int ht h
 exact ⟨UInt8.ofInt m,.cons rfl (.sc (by show some _=some _;rw [N7 hw])) .nil⟩
theorem rp (ht:P.underlying t=some .string):nq P n t bz fun m=>[.s m]:=by
 intro H enc w base spare held cs x h
 obtain ⟨m,rfl,_,_⟩:=DataW.trod_string ht h
 exact ⟨m.data.toList,.cons rfl (.sc rfl) .nil⟩
theorem sj {e:TypeId} {st:fx} (ht:P.underlying t=some (.slice e)) (hs:P.cellsOf e=st.size) (pT:0<st.size) (he:∀m,m<n→nq P m e st.El fun a=>(st.tv a).cells):nq P n t (List st.El) fun l=>[.sl st l]:=by
 intro H enc w base spare held cs x h
 rcases DataW.trod_slice ht h with ⟨rfl,_⟩ | ⟨a,len,cap,elems,rest,m,rfl,rfl,_,_,h2,h3,h4,h5,_,_⟩
 ·exact ⟨[],.cons rfl (.sn _) .nil⟩
 ·by_cases h0:len=0
  ·subst h0;exact ⟨[],.cons rfl (.em _ h3) .nil⟩
  ·have get:∀i,i<len→∃ys,w.cells? base (a.add (i * st.size)) st.size=some ys∧∃y:st.El,dq (Old w) w (st.tv y).cells ys:=fun i hi=>by
    have:=h5 i hi
    rw [hs] at this
    have gk:i<elems.length:=by omega
    rw [ar gk] at this
    obtain ⟨ys,h6,h7⟩:=aN.1 this
    exact ⟨ys,h6,he m (Nat.lt_succ_self m) H enc w base spare held ys _ h7⟩
   have Kw:a.spot=none:=by
    obtain ⟨ys,h6,_⟩:=get 0 (by omega)
    obtain ⟨_,h7,h8⟩:=World.cells?_some h6
    have h9:=h8 0 pT
    cases hy:ys[0]? with
    | none=>rw [List.getElem?_eq_none_iff] at hy;omega
    | some y=>rw [hy] at h9;simpa [Addr.add] using World.cell?_spot h9
   obtain ⟨b,off,spot⟩:=a
   simp only at Kw
   subst Kw
   have key:∀k i,i+k=len→∃l:List st.El,l.length=k∧kf (Old w) w st.size (l.map st.tv) b (off+i * st.size):=by
    intro k
    induction k with
    | zero=>exact fun i _=>⟨[],rfl,.nil _ _ _⟩
    | succ k ih =>
     intro i hi
     obtain ⟨l,hl,hE⟩:=ih (i+1) (by omega)
     obtain ⟨ys,h6,y,h7⟩:=get i (by omega)
     obtain ⟨_,h8,h9⟩:=World.cells?_some h6
     refine ⟨y :: l,by simp [hl],.cons (ly.write (fx.kN st y) h7 (fun j hj=>?_) (fun j z hz=>?_)) ?_⟩
     ·have iS:=h9 j hj
      have VP:j<ys.length:=by omega
      rw [ar VP] at iS
      by_cases gk:b<w.heap.size
      ·exact gk
      ·have:w.heap[b]?=none:=Array.getElem?_eq_none (by omega)
       rw [addr_add,addr_add] at iS
       simp only [World.cell?,this] at iS
       cases iS
     ·have hj:j<st.size:=by have:=(aH.1 hz).1;omega
      have iS:=h9 j hj
      rw [hz,addr_add,addr_add] at iS
      exact iS
     ·rw [show off+i * st.size+st.size=off+(i+1) * st.size by rw [Nat.succ_mul];omega];exact hE
   obtain ⟨l,hl,hE⟩:=key len 0 (by omega)
   refine ⟨l,.cons rfl (.sl hl.symm h2 h3 ?_) .nil⟩
   simpa using hE
def np (P:Program) (n:Nat) (fs:List (TypeId × Nat)) (off:Nat) (A:Type) (g:A→List TV):Prop :=
 ∀(H:Type) (enc:TypeId × Value→H) (w:World) (base:Nat) (spare:Nat→Bool) (held:Bool) (cs:List Value),(∀f∈fs,∃x:DataW H × List MemPlace,DataW.trod enc P w base spare held n f.1 ((cs.drop f.2).take (P.cellsOf f.1))=some x)→cs.length=off+(fs.map fun f=>P.cellsOf f.1).sum→∃a:A,dq (Old w) w (g a) (cs.drop off)
theorem Cf {off:Nat}:np P n [] off Unit fun _=>[]:=by
 intro H enc w base spare held cs _ hl
 refine ⟨(),?_⟩
 rw [aC (by simp at hl;omega)];exact .nil
theorem js {t:TypeId} {fs:List (TypeId × Nat)} {off c:Nat} {A B:Type} {g:A→List TV} {g':B→List TV} (hc:P.cellsOf t=c) (h:nq P n t A g) (hr:np P n fs (off+c) B g'):np P n ((t,off) :: fs) off (A × B) fun p=>g p.1++g' p.2:=by
 subst hc
 intro H enc w base spare held cs hx hl
 obtain ⟨x,h1⟩:=hx (t,off) (List.mem_cons_self ..)
 obtain ⟨a,ha⟩:=h H enc w base spare held _ x h1
 obtain ⟨b,hb⟩:=hr H enc w base spare held cs (fun f' Mp=>hx f' (List.mem_cons_of_mem _ Mp)) (by simp only [aX,List.sum_cons] at hl;omega)
 refine ⟨(a,b),?_⟩
 have e:cs.drop off=(cs.drop off).take (P.cellsOf t)++cs.drop (off+P.cellsOf t):=by
  rw [←List.drop_drop];exact (List.take_append_drop _ _).symm
 rw [e];exact ha.append hb
theorem ql {fs:Array Field} {l:List (TypeId × Nat)} {A B:Type} {g:A→List TV} {g':B→List TV} (ht:P.underlying t=some (.struct fs)) (hl:(fs.toList.map fun f=>(f.type,f.offset))=l) (hc:P.cellsOf t=(l.map fun f=>P.cellsOf f.1).sum) (hr:∀m,m<n→np P m l 0 A g) (f:A→B) (hf:∀a,g a=g' (f a)):nq P n t B g':=by
 intro H enc w base spare held cs x h
 obtain ⟨xs,m,rfl,_,h1,h2,h3⟩:=DataW.trod_struct ht h
 obtain ⟨a,ha⟩:=hr m (Nat.lt_succ_self m) H enc w base spare held cs (fun p hp=>by
  rw [←hl] at hp
  obtain ⟨f,hf,rfl⟩:=bg.1 hp
  obtain ⟨i,hi⟩:=List.getElem?_of_mem hf
  have gk:=(aH.1 hi).1
  have:=h3 i f (by simpa using hi)
  have Mg:i<xs.length:=by rw [h2];simpa using gk
  rw [ar Mg] at this
  exact ⟨_,this⟩) (by rw [h1,hc];simp)
 exact ⟨f a,by rw [←hf];simpa using ha⟩
def fieldsOf (P:Program) (t:TypeId):Option (List (TypeId × Nat)):=match P.underlying t with
 | some (.struct fs)=>some (fs.toList.map fun f=>(f.type,f.offset))
 | _=>none
theorem pF {l:List (TypeId × Nat)} (h:fieldsOf P t=some l):∃fs,P.underlying t=some (.struct fs)∧(fs.toList.map fun f=>(f.type,f.offset))=l:=by
 unfold fieldsOf at h
 split at h
 ·rename_i fs e;cases h;exact ⟨fs,e,rfl⟩
 ·cases h
structure ValTys (P:Program) (tv tf tk ti tu ts tb ty:TypeId):Prop where
 v:fieldsOf P tv=some [(ti,0),(tu,1),(tu,2),(tu,3),(ts,4),(ts,5),(ti,6),(tb,7),(tk,8)]
 f:fieldsOf P tf=some [(ts,0),(tv,1)]
 k:P.underlying tk=some (.slice tf)
 i:P.underlying ti=some (.int .i64)
 u:P.underlying tu=some (.int .u64)
 s:P.underlying ts=some .string
 b:P.underlying tb=some (.slice ty)
 y:P.underlying ty=some (.int .u8)
 cv:P.cellsOf tv=9
 cf:P.cellsOf tf=10
 ck:P.cellsOf tk=1
 ci:P.cellsOf ti=1
 cu:P.cellsOf tu=1
 cs:P.cellsOf ts=1
 cb:P.cellsOf tb=1
 cy:P.cellsOf ty=1
theorem y9 {y:TypeId} (ht:P.underlying t=some (.slice y)) (hy:P.underlying y=some (.int .u8)) (hc:P.cellsOf y=1):nq P n t bz fun l=>[.sl .bs l] :=
 sj (st := .bs) ht hc (by decide) fun _ _=>FO hy
theorem ValTys.val {tv tf tk ti tu ts tb ty:TypeId} (T:ValTys P tv tf tk ti tu ts tb ty):∀n,nq P n tv Val Val.cells∧nq P n tf bA bA.cells:=by
 intro n
 induction n using Nat.strongRecOn with
 | _ n ih =>
  have hv:∀m,m≤n→(∀k,k<m→nq P k tf bA bA.cells)→nq P m tv Val Val.cells:=fun m hm Vf=>by
   obtain ⟨fs,h1,h2⟩:=pF T.v
   have R:=fun (k:Nat) (hk:k<m)=>(js (off:=0) T.ci (vR T.i) (js T.cu (rm T.u) (js T.cu (rm T.u) (js T.cu (rm T.u) (js T.cs (rp T.s) (js T.cs (rp T.s) (js T.ci (vR T.i) (js T.cb (y9 T.b T.y T.cy)
     (js T.ck (sj (st := .fl) T.k T.cf (by decide) fun j hj=>Vf j (by omega)) Cf)))))))):np P k _ 0 _ _)
   exact ql h1 h2 (by simp [T.cv,T.ci,T.cu,T.cs,T.cb,T.ck]) R (fun a=>(⟨a.1,a.2.1,a.2.2.1,a.2.2.2.1,a.2.2.2.2.1,a.2.2.2.2.2.1,a.2.2.2.2.2.2.1,a.2.2.2.2.2.2.2.1,a.2.2.2.2.2.2.2.2.1⟩:Val)) (fun a=>rfl)
  refine ⟨hv n (Nat.le_refl n) fun k hk=>(ih k hk).2,?_⟩
  obtain ⟨fs,h1,h2⟩:=pF T.f
  have R:=fun (k:Nat) (hk:k<n)=>(js (off:=0) T.cs (rp T.s) (js T.cv (hv k (by omega) fun j hj=>(ih j (by omega)).2) Cf):np P k _ 0 _ _)
  exact ql h1 h2 (by simp [T.cf,T.cv,T.cs]) R (fun a=>bA.of a.1 a.2.1) (fun a=>by simp [bA.of,bA.cells,Val.cells,bA.name,bA.kind,bA.bits,bA.high,bA.low,bA.text,bA.more,bA.sub,bA.bytes,bA.kids])
theorem ValTys.rep {tv tf tk ti tu ts tb ty:TypeId} (T:ValTys P tv tf tk ti tu ts tb ty) {H:Type} {enc:TypeId × Value→H} {w:World} {base:Nat} {spare:Nat→Bool} {held:Bool} {cs:Array Value} {d:DataW H} {p:List MemPlace} (h:DataW.Trod enc P w base spare held tv (.agg cs) d p) :
  ∃v:Val,Rep (Old w) w (.ag (Val.cells v)) (.agg cs):=by
 obtain ⟨n,h⟩:=h
 obtain ⟨v,hv⟩:=(T.val n).1 H enc w base spare held _ _ h
 exact ⟨v,.ag (by simpa [Value.cells] using hv)⟩
end
end Go.Eng
namespace Go.Eng
open Ieee
namespace Fl
def Val (m:Nat) (p:Int) (N:Nat):Prop:=m * 2 ^ p.toNat=N * 2 ^ (-p).toNat
def W (b:Nat) (n:Int):Prop:=∃s m p,double.read b = .number s m p∧Val m p n.natAbs∧(n<0→s=true)∧(0<n→s=false)
theorem wL (s:Bool) (k d:Nat) (h:d≤(k * 2 ^ d).log2+2):Toward.even.cut s (k * 2 ^ d) d=k:=by
 unfold Toward.cut
 rw [Nat.min_eq_left h,Nat.one_shiftLeft]
 have hp:0<2 ^ d:=Nat.two_pow_pos d
 have h1:k * 2 ^ d / 2 ^ d=k:=Nat.mul_div_cancel k hp
 have h2:k * 2 ^ d % 2 ^ d=0:=Nat.mul_mod_left k (2 ^ d)
 simp only [h1,h2]
 have h3:¬(2 ^ d<2 * 0):=by omega
 have h4:(2 ^ d == 2 * 0)=false:=by rw [beq_eq_false_iff_ne];omega
 simp [h3,h4]
theorem Sy (s:Bool) (n:Nat):Toward.even.cut s n 0=n:=by
 have:=wL s n 0 (Nat.zero_le _)
 rwa [Nat.pow_zero,Nat.mul_one] at this
theorem nK (N k:Nat) (h:N≠0):(N * 2 ^ k).log2=N.log2+k:=by
 have hp:0<2 ^ k:=Nat.two_pow_pos k
 have hn:N * 2 ^ k≠0:=Nat.mul_ne_zero h (by omega)
 refine (Nat.log2_eq_iff hn).2 ⟨?_,?_⟩
 ·rw [Nat.pow_add];exact av _ (Nat.log2_self_le h)
 ·rw [show N.log2+k+1=N.log2+1+k by omega,Nat.pow_add]
  exact Nat.mul_lt_mul_of_pos_right Nat.lt_log2_self hp
set_option maxRecDepth 10000 in
theorem yv (s:Bool) (m:Nat) (p:Int) (N:Nat) (hN:N≤9007199254740992) (hv:Val m p N):∃K q,double.read (double.write (.number s m p)) = .number s K q∧Val K q N:=by
 have hw:double.signWeight=2 ^ 63:=rfl
 have hB:double.binade=4503599627370496:=rfl
 have hI:double.infRung=2047 * 4503599627370496:=rfl
 have TA:double.leastPlace=-1074:=by decide
 have Kx:∀ot,ot<2 ^ 63→double.read (double.word s ot)=(if ot<4503599627370496 then .number s ot (-1074) else if ot<2047 * 4503599627370496 then .number s (4503599627370496+ot % 4503599627370496) (-1074+(ot / 4503599627370496 - 1:Nat)) else if ot=2047 * 4503599627370496 then .infinity s else .nan s (ot - 2047 * 4503599627370496)):=by
  intro ot hr
  unfold Format.read Format.word
  simp only [hw,hB,hI,TA]
  have e1:(if s=true then 2 ^ 63+ot else ot) % 2 ^ 63=ot:=by cases s <;> simp <;> omega
  have e2:((if s=true then 2 ^ 63+ot else ot) / 2 ^ 63 % 2 == 1)=s:=by
   cases s
   ·have:ot / 2 ^ 63=0:=Nat.div_eq_of_lt hr
    simp only [bp,if_false];rw [this];rfl
   ·have:(2 ^ 63+ot) / 2 ^ 63=1:=by rw [Nat.add_div_left _ (by decide),Nat.div_eq_of_lt hr]
    simp only [if_true];rw [this];rfl
  rw [e1,e2]
 by_cases hm:m=0
 ·subst hm
  refine ⟨0,-1074,?_,?_⟩
  ·unfold Format.write Format.nearest
   simp only [if_true]
   rw [Kx 0 (by decide),au (by decide)]
  ·unfold Val at hv ⊢
   have KF:N=0:=by
    rw [Nat.zero_mul] at hv
    rcases Nat.mul_eq_zero.1 hv.symm with h | h
    ·exact h
    ·exact absurd h (Nat.pos_iff_ne_zero.1 (Nat.two_pow_pos _))
   rw [KF,Nat.zero_mul,Nat.zero_mul]
 ·have KF:N≠0:=fun h=>by
   unfold Val at hv
   rw [h,Nat.zero_mul] at hv
   rcases Nat.mul_eq_zero.1 hv with h | h
   ·exact hm h
   ·exact absurd h (Nat.pos_iff_ne_zero.1 (Nat.two_pow_pos _))
  -- where the digits Yg
  have VM:p+m.log2=N.log2:=by
   unfold Val at hv
   have h1:=nK m p.toNat hm
   have h2:=nK N (-p).toNat KF
   rw [hv] at h1
   omega
  have hl:N.log2≤53:=by
   have:=Nat.log2_self_le KF
   have h3:2 ^ N.log2<2 ^ 54:=by omega
   have:=(Nat.pow_lt_pow_iff_right (show 1<2 by decide)).1 h3
   omega
  have OG:=Nat.log2_self_le KF
  have Ii:N<2 ^ (N.log2+1):=Nat.lt_log2_self
  obtain ⟨L,hL⟩:∃L:Int,L=(N.log2:Int) - 52:=⟨_,rfl⟩
  obtain ⟨K,k1,k2,k3,k4,k5⟩:∃K:Nat,Val K L N∧4503599627370496≤K∧K<9007199254740992∧(L≤p→m * 2 ^ (p - L).toNat=K)∧(p<L→m=K * 2 ^ (L - p).toNat):=by
   unfold Val at hv
   by_cases hc:N.log2≤52
   ·have eL:L.toNat=0:=by omega
    have Wu:(-L).toNat=52 - N.log2:=by omega
    refine ⟨N * 2 ^ (52 - N.log2),?_,?_,?_,fun h=>?_,fun h=>?_⟩
    ·unfold Val;rw [eL,Wu,Nat.pow_zero,Nat.mul_one]
    ·have:=av (2 ^ (52 - N.log2)) OG
     rw [←Nat.pow_add,show N.log2+(52 - N.log2)=52 by omega] at this
     exact this
    ·have:=Nat.mul_lt_mul_of_pos_right Ii (Nat.two_pow_pos (52 - N.log2))
     rw [←Nat.pow_add,show N.log2+1+(52 - N.log2)=53 by omega] at this
     exact this
    ·by_cases h0:0≤p
     ·rw [show (-p).toNat=0 by omega,Nat.pow_zero,Nat.mul_one] at hv
      rw [show (p - L).toNat=p.toNat+(52 - N.log2) by omega,Nat.pow_add,←Nat.mul_assoc,hv]
     ·rw [show p.toNat=0 by omega,Nat.pow_zero,Nat.mul_one] at hv
      rw [hv,Nat.mul_assoc,←Nat.pow_add,show (-p).toNat+(p - L).toNat=52 - N.log2 by omega]
    ·rw [show p.toNat=0 by omega,Nat.pow_zero,Nat.mul_one] at hv
     rw [hv,Nat.mul_assoc,←Nat.pow_add,show 52 - N.log2+(L - p).toNat=(-p).toNat by omega]
   ·have Wv:N.log2=53:=by omega
    have eN:N=9007199254740992:=by
     rw [Wv] at OG
     omega
    have eL:L=1:=by omega
    subst eL
    refine ⟨4503599627370496,?_,by decide,by decide,fun h=>?_,fun h=>?_⟩
    ·unfold Val;rw [eN];rfl
    ·rw [show (-p).toNat=0 by omega,Nat.pow_zero,Nat.mul_one,show p.toNat=(p - 1).toNat+1 by omega,Nat.pow_succ,eN,←Nat.mul_assoc] at hv
     omega
    ·rw [show p.toNat=0 by omega,Nat.pow_zero,Nat.mul_one,eN] at hv
     rw [hv,show (1 - p).toNat=(-p).toNat+1 by omega,Nat.pow_succ]
     omega
  have OP:Toward.even.cut s (m <<< (p - L).toNat) (L - p).toNat=K:=by
   rw [Nat.shiftLeft_eq]
   by_cases h:L≤p
   ·rw [k4 h,show (L - p).toNat=0 by omega];exact Sy s K
   ·have e:=k5 (by omega)
    rw [show (p - L).toNat=0 by omega,Nat.pow_zero,Nat.mul_one,e]
    refine wL s K _ ?_
    rw [←e];omega
  have Yo:(L+1074).toNat * 4503599627370496+K<2047 * 4503599627370496:=by omega
  refine ⟨K,L,?_,k1⟩
  unfold Format.write Format.nearest
  simp only [ao hm,hB,hI,TA,show double.fractionBits=52 from rfl]
  rw [show max (p+(m.log2:Int) - ((52:Nat):Int)) (-1074)=L by omega,OP,show L - -1074=L+1074 by omega,Nat.min_eq_left (by omega),Kx _ (by omega),ao (by omega),au (by omega)]
  have r1:((L+1074).toNat * 4503599627370496+K) % 4503599627370496=K - 4503599627370496:=by omega
  have r2:((L+1074).toNat * 4503599627370496+K) / 4503599627370496=(L+1074).toNat+1:=by omega
  have r3:4503599627370496+(K - 4503599627370496)=K:=by omega
  have r4 : -1074+(((L+1074).toNat+1 - 1:Nat):Int)=L:=by omega
  rw [r1,r2,r3,r4]
def WD (d:Datum) (n:Int):Prop:=∃s m p,d = .number s m p∧Val m p n.natAbs∧(n<0→s=true)∧(0<n→s=false)
theorem WD.write {d:Datum} {n:Int} (h:WD d n) (hn:n.natAbs≤9007199254740992):W (double.write d) n:=by
 obtain ⟨s,m,p,rfl,hv,h1,h2⟩:=h
 obtain ⟨K,q,hr,hk⟩:=yv s m p n.natAbs hn hv
 exact ⟨s,K,q,hr,hk,h1,h2⟩
theorem W.map {d:Datum} {n:Int} {o:Option Datum} (ho:o=some d) (h:WD d n) (hn:n.natAbs≤9007199254740992):∃r,o.map double.write=some r∧W r n:=⟨_,by rw [ho];rfl,h.write hn⟩
theorem WD.product {d e:Datum} {x y:Int} (hx:WD d x) (hy:WD e y):∃r,d.product e=some r∧WD r (x * y):=by
 obtain ⟨s,m,i,rfl,hv,h1,h2⟩:=hx
 obtain ⟨t,n,j,rfl,hw,g1,g2⟩:=hy
 refine ⟨_,rfl,_,_,_,rfl,?_,?_,?_⟩
 ·unfold Val at *
  rw [Int.natAbs_mul]
  obtain ⟨c,Il,Ik⟩:∃c:Nat,i.toNat+j.toNat=(i+j).toNat+c∧(-i).toNat+(-j).toNat=(-(i+j)).toNat+c:=by
   refine ⟨i.toNat+j.toNat - (i+j).toNat,?_,?_⟩ <;> omega
  have h:m * n * 2 ^ (i.toNat+j.toNat)=x.natAbs * y.natAbs * 2 ^ ((-i).toNat+(-j).toNat):=by
   rw [Nat.pow_add,Nat.pow_add]
   calc m * n * (2 ^ i.toNat * 2 ^ j.toNat)=(m * 2 ^ i.toNat) * (n * 2 ^ j.toNat):=by ac_rfl
    _=(x.natAbs * 2 ^ (-i).toNat) * (y.natAbs * 2 ^ (-j).toNat):=by rw [hv,hw]
    _=x.natAbs * y.natAbs * (2 ^ (-i).toNat * 2 ^ (-j).toNat):=by ac_rfl
  rw [Il,Ik,Nat.pow_add,Nat.pow_add,←Nat.mul_assoc,←Nat.mul_assoc] at h
  exact Nat.eq_of_mul_eq_mul_right (Nat.two_pow_pos c) h
 ·intro h
  rcases Int.lt_or_lt_of_ne (show x≠0 from fun e=>by rw [e,Int.zero_mul] at h;omega) with a | a
  ·have:0<y:=by
    rcases Int.lt_or_lt_of_ne (show y≠0 from fun e=>by rw [e,Int.mul_zero] at h;omega) with b | b
    ·have:=Int.mul_pos_of_neg_of_neg a b;omega
    ·exact b
   rw [h1 a,g2 this];rfl
  ·have:y<0:=by
    rcases Int.lt_or_lt_of_ne (show y≠0 from fun e=>by rw [e,Int.mul_zero] at h;omega) with b | b
    ·exact b
    ·have:=Int.mul_pos a b;omega
   rw [h2 a,g1 this];rfl
 ·intro h
  rcases Int.lt_or_lt_of_ne (show x≠0 from fun e=>by rw [e,Int.zero_mul] at h;omega) with a | a
  ·have:y<0:=by
    rcases Int.lt_or_lt_of_ne (show y≠0 from fun e=>by rw [e,Int.mul_zero] at h;omega) with b | b
    ·exact b
    ·have:=Int.mul_neg_of_neg_of_pos a b;omega
   rw [h1 a,g1 this];rfl
  ·have:0<y:=by
    rcases Int.lt_or_lt_of_ne (show y≠0 from fun e=>by rw [e,Int.mul_zero] at h;omega) with b | b
    ·have:=Int.mul_neg_of_pos_of_neg a b;omega
    ·exact b
   rw [h2 a,g2 this];rfl
theorem lN {s:Bool} {m:Nat} {i base:Int} {x:Int} (hv:Val m i x.natAbs) (h1:x<0→s=true) (h2:0<x→s=false) (hb:base≤i):Ieee.signed s m (i - base).toNat * (2:Int) ^ base.toNat=x * (2:Int) ^ (-base).toNat:=by
 unfold Val at hv
 have hN:m * 2 ^ (i - base).toNat * 2 ^ base.toNat=x.natAbs * 2 ^ (-base).toNat:=by
  obtain ⟨c,Il,Ik⟩:∃c:Nat,(i - base).toNat+base.toNat+c=i.toNat+((i - base).toNat+base.toNat+c - i.toNat)∧c=(-i).toNat:=⟨_,by omega,rfl⟩
  have e1:(i - base).toNat+base.toNat+(-i).toNat=i.toNat+(-base).toNat:=by omega
  have h:m * 2 ^ (i - base).toNat * 2 ^ base.toNat * 2 ^ (-i).toNat=x.natAbs * 2 ^ (-base).toNat * 2 ^ (-i).toNat:=by
   calc m * 2 ^ (i - base).toNat * 2 ^ base.toNat * 2 ^ (-i).toNat=m * 2 ^ ((i - base).toNat+base.toNat+(-i).toNat):=by rw [Nat.pow_add,Nat.pow_add];ac_rfl
    _=m * 2 ^ i.toNat * 2 ^ (-base).toNat:=by rw [e1,Nat.pow_add];ac_rfl
    _=x.natAbs * 2 ^ (-base).toNat * 2 ^ (-i).toNat:=by rw [hv];ac_rfl
  exact Nat.eq_of_mul_eq_mul_right (Nat.two_pow_pos _) h
 have hZ:((m * 2 ^ (i - base).toNat:Nat):Int) * (2:Int) ^ base.toNat=(x.natAbs:Int) * (2:Int) ^ (-base).toNat:=by
  have:=congrArg (Nat.cast (R:=Int)) hN
  simpa using this
 unfold Ieee.signed
 rw [Nat.shiftLeft_eq]
 rcases Int.lt_trichotomy x 0 with a | a | a
 ·rw [h1 a,au rfl,Int.neg_mul,hZ,show (x.natAbs:Int)=-x by omega,Int.neg_mul,Int.neg_neg]
 ·subst a
  have h0:((m * 2 ^ (i - base).toNat:Nat):Int) * (2:Int) ^ base.toNat=0:=by rw [hZ];simp
  cases s
  ·rw [ao (by decide),h0];simp
  ·rw [au rfl,Int.neg_mul,h0];simp
 ·rw [h2 a,ao (by decide),hZ,show (x.natAbs:Int)=x by omega]
theorem WD.sum {d e:Datum} {x y:Int} (hx:WD d x) (hy:WD e y):∃r,d.sum e=some r∧WD r (x+y):=by
 obtain ⟨s,m,i,rfl,hv,h1,h2⟩:=hx
 obtain ⟨t,n,j,rfl,hw,g1,g2⟩:=hy
 have e1:=lN hv h1 h2 (show min i j≤i by omega)
 have e2:=lN hw g1 g2 (show min i j≤j by omega)
 refine ⟨_,rfl,_,_,_,rfl,?_,?_,?_⟩
 all_goals generalize min i j=base at e1 e2 ⊢
 all_goals
  have e3:(Ieee.signed s m (i - base).toNat+Ieee.signed t n (j - base).toNat) * (2:Int) ^ base.toNat=(x+y) * (2:Int) ^ (-base).toNat:=by rw [Int.add_mul,Int.add_mul,e1,e2]
  generalize Ieee.signed s m (i - base).toNat+Ieee.signed t n (j - base).toNat=T at e3 ⊢
  have p1:(0:Int)<(2:Int) ^ base.toNat:=by exact_mod_cast Nat.two_pow_pos base.toNat
  have p2:(0:Int)<(2:Int) ^ (-base).toNat:=by exact_mod_cast Nat.two_pow_pos (-base).toNat
 ·unfold Val
  have:=congrArg Int.natAbs e3
  rw [Int.natAbs_mul,Int.natAbs_mul,Int.natAbs_pow,Int.natAbs_pow] at this
  exact this
 ·intro h
  have hT:T<0:=by
   have h3:=Int.mul_neg_of_neg_of_pos h p2
   rw [←e3] at h3
   exact Int.not_le.1 fun GJ=>by have:=Int.mul_nonneg GJ (Int.le_of_lt p1);omega
  rw [ao (by omega)];exact aa hT
 ·intro h
  have hT:0<T:=by
   have h3:=Int.mul_pos h p2
   rw [←e3] at h3
   exact Int.not_le.1 fun GJ=>by have:=Int.mul_nonneg (show 0≤-T by omega) (Int.le_of_lt p1);rw [Int.neg_mul] at this;omega
  rw [ao (by omega)];exact ab (by omega)
theorem WD.opposite {d:Datum} {x:Int} (hx:WD d x):WD d.opposite (-x):=by
 obtain ⟨s,m,i,rfl,hv,h1,h2⟩:=hx
 exact ⟨!s,m,i,rfl,by rw [Int.natAbs_neg];exact hv,fun h=>by rw [h2 (by omega)];rfl,fun h=>by rw [h1 (by omega)];rfl⟩
theorem EL {a b:Nat} {x y:Int} (ha:W a x) (hb:W b y) (h:(x+y).natAbs≤9007199254740992):∃r,double.add a b=some r∧W r (x+y):=by
 obtain ⟨d,e,hd⟩:=WD.sum ha hb
 exact W.map e hd h
theorem Ds {a b:Nat} {x y:Int} (ha:W a x) (hb:W b y) (h:(x - y).natAbs≤9007199254740992):∃r,double.sub a b=some r∧W r (x - y):=by
 obtain ⟨d,e,hd⟩:=WD.sum ha (WD.opposite hb)
 exact W.map e hd h
theorem DV {a b:Nat} {x y:Int} (ha:W a x) (hb:W b y) (h:(x * y).natAbs≤9007199254740992):∃r,double.mul a b=some r∧W r (x * y):=by
 obtain ⟨d,e,hd⟩:=WD.product ha hb
 exact W.map e hd h
theorem za (n:Int) (h:n.natAbs≤9007199254740992):W (double.write (.number (n<0) n.natAbs 0)) n :=
 WD.write ⟨_,_,_,rfl,by unfold Val;simp,fun h=>aa h,fun h=>ab (by omega)⟩ h
theorem ki {a b:Nat} {x y:Int} (ha:W a x) (hb:W b y):double.order a b=some (compare x y):=by
 obtain ⟨s,m,i,hr,hv,h1,h2⟩:=ha
 obtain ⟨t,n,j,hq,hw,g1,g2⟩:=hb
 have e1:=lN hv h1 h2 (show min i j≤i by omega)
 have e2:=lN hw g1 g2 (show min i j≤j by omega)
 unfold Format.order
 rw [hr,hq]
 show some (compare (Ieee.signed s m (i - min i j).toNat) (Ieee.signed t n (j - min i j).toNat))=_
 generalize min i j=base at e1 e2 ⊢
 have p1:(0:Int)<(2:Int) ^ base.toNat:=by exact_mod_cast Nat.two_pow_pos base.toNat
 have p2:(0:Int)<(2:Int) ^ (-base).toNat:=by exact_mod_cast Nat.two_pow_pos (-base).toNat
 generalize Ieee.signed s m (i - base).toNat=A at e1 ⊢
 generalize Ieee.signed t n (j - base).toNat=B at e2 ⊢
 congr 1
 rcases Int.lt_trichotomy x y with c | c | c
 ·have h3:=Int.mul_lt_mul_of_pos_right c p2
  rw [←e1,←e2] at h3
  have h4:A<B:=Int.lt_of_mul_lt_mul_right h3 (Int.le_of_lt p1)
  rw [Int.compare_eq_lt.2 h4,Int.compare_eq_lt.2 c]
 ·subst c
  rw [←e2] at e1
  have h4:A=B:=Int.eq_of_mul_eq_mul_right (by omega) e1
  rw [h4];simp
 ·have h3:=Int.mul_lt_mul_of_pos_right c p2
  rw [←e1,←e2] at h3
  have h4:B<A:=Int.lt_of_mul_lt_mul_right h3 (Int.le_of_lt p1)
  rw [Int.compare_eq_gt.2 h4,Int.compare_eq_gt.2 c]
end Fl
end Go.Eng
namespace Go.Eng
open Go.IntWalk
theorem bx {R:Type} {p:Bool} {x:Option R} (h:p=true):ck p x=x:=by rw [h];rfl
theorem ck4 (a b:Bool):(!a || (a&&(b || (a&&!b))))=true:=by cases a <;> cases b <;> rfl
theorem ck5 (a b:Bool):(!a || (a&&(!b || (a&&b))))=true:=by cases a <;> cases b <;> rfl
theorem jA:maxLen=9223372036854775807:=by decide
theorem Db {n:Nat} (h:n≤1099511627776):so n=true:=D3.2 (by rw [jA];omega)
theorem dP {n b:Nat} (h:n * b≤140737488355328) (h2:n≤140737488355328):fi n b=true:=HY.2 ⟨by rw [jA];omega,h⟩
theorem bN {n:Int} {l:Nat} (h0:0≤n) (h1:n<l):bD n l=true:=D8.2 ⟨h0,h1⟩
theorem j9 {a b:Int} {l:Nat} (h0:0≤a) (h1:a≤b) (h2:b≤l):gY a b l=true:=EE.2 ⟨h0,h1,h2⟩
theorem mB (n:Nat):(BitVec.ofInt 64 (n:Int))=BitVec.ofNat 64 n:=by
 apply BitVec.eq_of_toNat_eq;rw [BitVec.toNat_ofInt,BitVec.toNat_ofNat];omega
theorem JZ (a b:Nat) (ha:a<9223372036854775808) (hb:b<9223372036854775808):cU .and .i64 a b=((a &&& b:Nat):Int):=by
 have h1:a &&& b≤a:=Nat.and_le_left
 have e:cU .and .i64 a b=IntKind.i64.wrap (((BitVec.ofInt 64 (a:Int) &&& BitVec.ofInt 64 (b:Int)).toNat:Nat):Int):=rfl
 rw [e,mB,mB,BitVec.toNat_and,BitVec.toNat_ofNat,BitVec.toNat_ofNat,Nat.mod_eq_of_lt (by omega),Nat.mod_eq_of_lt (by omega)]
 exact i64_in _ (by omega)
theorem Of {a b k:Nat} (ha:a<2 ^ k) (hb:b<2 ^ k):a ||| b<2 ^ k:=Nat.or_lt_two_pow ha hb
theorem Lw (a b:Nat) (ha:a<9223372036854775808) (hb:b<9223372036854775808):cU .or .i64 a b=((a ||| b:Nat):Int):=by
 have h1:a ||| b<9223372036854775808:=Of (k:=63) (by simpa using ha) (by simpa using hb)
 have e:cU .or .i64 a b=IntKind.i64.wrap (((BitVec.ofInt 64 (a:Int) ||| BitVec.ofInt 64 (b:Int)).toNat:Nat):Int):=rfl
 rw [e,mB,mB,BitVec.toNat_or,BitVec.toNat_ofNat,BitVec.toNat_ofNat,Nat.mod_eq_of_lt (by omega),Nat.mod_eq_of_lt (by omega)]
 exact i64_in _ (by omega)
theorem nE {a b k:Nat} (hb:b<2 ^ k):(a * 2 ^ k) ||| b=a * 2 ^ k+b:=by
 rw [←Nat.shiftLeft_eq,Nat.shiftLeft_add_eq_or_of_lt hb]
theorem drop_cons {α:Type} {l:List α} {i:Nat} (hi:i<l.length) (d:α):l.drop i=l.getD i d :: l.drop (i+1):=by
 rw [List.drop_eq_getElem_cons hi,ai,ar hi];rfl
theorem B4 (n:Nat):(UInt64.ofInt (n:Int)).toNat=n % 18446744073709551616:=by
 have h:=mS (n:Int)
 rw [jj] at h;omega
theorem E7 (n:Nat):(UInt8.ofInt (n:Int)).toNat=n % 256:=by
 have h:=tI (n:Int)
 rw [wrap_u8'] at h;omega
end Go.Eng
namespace Go.Eng
namespace Nt
def val:List UInt16→Nat
 | []=>0
 | d :: r=>d.toNat+65536 * val r
def fix:Nat→Nat→List UInt16
 | 0,_=>[]
 | k+1,n=>UInt16.ofNat n :: fix k (n / 65536)
def of (n:Nat):List UInt16:=if n=0 then [] else UInt16.ofNat n :: of (n / 65536)
termination_by n
decreasing_by exact Nat.div_lt_self (by omega) (by omega)
def norm (a:List UInt16):Bool:=decide (a.getLast?≠some 0)
def is (a:List UInt16):Bool:=decide (a.length≤256)&&norm a
def bits (n:Nat):Nat:=if n=0 then 0 else n.log2+1
def cmp (a b:Nat):Int:=if a<b then -1 else if a=b then 0 else 1
end Nt
namespace Gz
def N6:List Cx:=[(4607182418800017408,0),(0,4607182418800017408),(13830554455654793216,0),(0,13830554455654793216)]
def mul (z w:Cx):Cx:=(Fl.rT z.1 z.2 w.1 w.2,Fl.rU z.1 z.2 w.1 w.2)
def add (z w:Cx):Cx:=(Fl.add z.1 w.1,Fl.add z.2 w.2)
def unit (k:Int):Cx:=N6.getD (k % 4).toNat (0,0)
def ie (z:Cx) (k:Int):Cx:=mul z (unit k)
def part (l:Qd) (way:Int) (k:Nat):Nat→Cx
 | 0=>(0,0)
 | j+1=>add (part l way k j) (ie (l.get j) (j * k * way))
def nx (l:Qd) (way:Int):Qd:=⟨part l way 0 4,part l way 1 4,part l way 2 4,part l way 3 4⟩
def quarter (z:Cx):Cx:=(Fl.ofInt ((Fl.toInt z.1).tdiv 4),Fl.ofInt ((Fl.toInt z.2).tdiv 4))
def back (l:Qd):Qd:=⟨quarter (part l (-1) 0 4),quarter (part l (-1) 1 4),quarter (part l (-1) 2 4),quarter (part l (-1) 3 4)⟩
def yc (n:Int):Cx:=(Fl.ofInt n,Fl.ofInt 0)
def iE:List Int→List Qd
 | []=>[]
 | [a]=>[nx ⟨yc a,(0,0),(0,0),(0,0)⟩ 1]
 | a :: b :: r=>nx ⟨yc a,yc b,(0,0),(0,0)⟩ 1 :: iE r
def Is (z:Cx) (x y:Int):Prop:=Fl.W z.1 x∧Fl.W z.2 y
def In (z:Cx) (M:Nat):Prop:=∃x y:Int,Is z x y∧x.natAbs≤M∧y.natAbs≤M
def KY (l:Qd) (M:Nat):Prop:=In l.c0 M∧In l.c1 M∧In l.c2 M∧In l.c3 M
def UJ (z:Cx):Prop:=∃x y:Int,Is z (4 * x) (4 * y)∧x.natAbs≤562949953421312∧y.natAbs≤562949953421312
open Classical in
noncomputable def vt (z:Cx) (M:Nat):Bool:=decide (In z M)
open Classical in
noncomputable def ye (l:Qd) (M:Nat):Bool:=decide (KY l M)
open Classical in
noncomputable def LU (l:Qd):Bool:=decide (∀k,k<4→UJ (part l (-1) k 4))
open Classical in
noncomputable def LS (z:Cx) (b:Nat):Bool:=decide (∃x y m:Int,Is z x y∧Fl.W b m∧(x.natAbs:Int)≤m∧(y.natAbs:Int)≤m∧m≤9007199254740992)
open Classical in
noncomputable def Kp (b:Nat):Bool:=decide (∃n:Int,Fl.W b n∧n.natAbs≤1125899906842624)
def EH (a b:List Int) (m:Nat):Int:=(List.range (m+1)).foldl (fun s i=>s+a.getD i 0 * b.getD (m - i) 0) 0
def conv (a b:List Int):List Int:=if a=[]∨b=[] then [] else (List.range (a.length+b.length - 1)).map (EH a b)
def iT (a:List Int):Bool:=a.all fun x=>decide (0≤x∧x≤65535)
end Gz
namespace Nr
def eU (c:UInt8):Bool:=decide (48≤c∧c≤57)
def num (d:bz):Nat:=d.foldl (fun n c=>10 * n+(c.toNat - 48)) 0
def dec (n:Nat):bz:=if n<10 then [UInt8.ofNat (48+n)] else dec (n / 10)++[UInt8.ofNat (48+n % 10)]
termination_by n
decreasing_by exact Nat.div_lt_self (by omega) (by omega)
noncomputable def Ko:{f:Int→bz // ∀v,f v=if v<0 then 45 :: dec v.natAbs else dec v.natAbs}:=Classical.choice ⟨⟨fun v=>if v<0 then 45 :: dec v.natAbs else dec v.natAbs,fun _=>rfl⟩⟩
noncomputable def itoa (v:Int):bz:=Ko.1 v
theorem lC (v:Int):itoa v=if v<0 then 45 :: dec v.natAbs else dec v.natAbs:=Ko.2 v
def gw (d:bz):bz:=(d.reverse.dropWhile (· == 48)).reverse
def uz (d:bz):bz:=d.dropWhile (· == 48)
def nI (p:Nat):Nat:=if p<4503599627370496 then p else p % 4503599627370496+4503599627370496
def sh (p:Nat):Nat:=p / 4503599627370496 - 1
def pr (p:Nat):Nat:=(2 * nI p+1) * 2 ^ sh p
def jP:Nat:=2 * 2 ^ 1074
def gZ (a b p:Nat):Prop:=pr p * b<a * jP∨(pr p * b=a * jP∧p % 2=1)
def top:Nat:=9218868437227405311
open Classical in
noncomputable def je (a b:Nat):Option Nat:=if h:∃p,p≤top∧¬gZ a b p∧∀q,q<p→gZ a b q then some h.choose else none
def valid (d:bz):Bool:=decide (1≤d.length∧d.length≤300)&&d.all eU
noncomputable def rd (n:Nat) (k:Int):Option Nat:=je (n * 10 ^ k.toNat) (10 ^ (-k).toNat)
noncomputable def read (d:bz) (x:Int):Option Nat:=if valid d then rd (num d) (x - d.length) else none
noncomputable def pat (r:Option Nat):UInt64:=UInt64.ofNat (r.getD 0)
def split (b:UInt64):Int × Bool × UInt64 × Int :=
 let x:=b.toNat / 4503599627370496 % 2048
 let f:=b.toNat % 4503599627370496
 let neg:=decide (9223372036854775808≤b.toNat)
 if x=2047 then (if f=0 then (3,neg,0,0) else (4,neg,0,0))
 else if x=0 then (if f=0 then (1,neg,0,0) else (2,neg,UInt64.ofNat f,-1074))
 else (2,neg,UInt64.ofNat (4503599627370496+f),x - 1075)
def MJ (m:Nat) (e:Int):Nat:=m * 2 ^ e.toNat * 5 ^ (-e).toNat
def Wo (m:Nat) (e:Int):bz:=gw (dec (MJ m e))
def TT (m:Nat) (e:Int):Int:=(dec (MJ m e)).length+min e 0
def times:List UInt64→UInt64→UInt64→List UInt64
 | [],_,c=>if c > 0 then [c] else []
 | a :: r,b,c=>(c+a * b) % 100000000 :: times r b ((c+a * b) / 100000000)
def vh (a b:Nat):Nat:=if b<2 * (a % b)∨(b=2 * (a % b)∧a / b % 2=1) then a / b+1 else a / b
def mz (a b:Nat):Bool:=decide (vh a b=a / b+1∧vh a b=9007199254740992)
def jK (a:Nat) (e:Int):Nat:=a * 2 ^ (-e).toNat
def jE (b:Nat) (e:Int):Nat:=b * 2 ^ e.toNat
def run (s:bz):Nat:=(s.takeWhile eU).length
def pQ (s:bz) (k:Int):Int :=
 match s with
 | []=>k
 | c :: r=>if c=101∨c=69 then
   let r:=match r with | d :: q=>if d=43∨d=45 then q else r | []=>r
   if run r=0∨run r<r.length then 0 else 2
  else 0
def mC (s:bz):Int :=
 match s with
 | 46 :: r=>if run r=0 then 0 else pQ (r.drop (run r)) 2
 | s=>pQ s 1
def jf (s:bz):Int :=
 let t:=match s with | 45 :: r=>r | s=>s
 if run t=0∨(t.getD 0 0=48∧1<run t) then 0 else mC (t.drop (run t))
open Classical in
noncomputable def i64 (v:Int):Bool:=decide (-9223372036854775808≤v∧v≤9223372036854775807)
theorem BB {v:Int} (h:i64 v=true):decide (-9223372036854775808≤v∧v≤9223372036854775807)=true:=aa (aq h)
def signed (s:bz):bz:=match s with | c :: r=>if c=43∨c=45 then r else s | []=>[]
def Ab (s:bz):Int :=
 let n:Nat:=num (signed s)
 if s.getD 0 0=45 then -(n:Int) else n
def body (s:bz):bz:=match s with | 45 :: r=>r | s=>s
def SU (c:UInt8):Bool:=decide (c=101∨c=69)
def Z1 (s:bz):bz:=(body s).takeWhile fun c=>!SU c
def tail (s:bz):bz:=((body s).dropWhile fun c=>!SU c).drop 1
def ahead (s:bz):bz:=(Z1 s).takeWhile (· != 46)
def behind (s:bz):bz:=((Z1 s).dropWhile (· != 46)).drop 1
noncomputable def Zo (s:bz):UInt64 × Int :=
 if jf s=0 then (0,3)
 else if 300<s.length then (0,10)
 else match read (ahead s++behind s) ((ahead s).length+Ab (tail s)) with
  | none=>(0,10)
  | some p=>(UInt64.ofNat (p+if s.getD 0 0=45 then 9223372036854775808 else 0),0)
noncomputable def Z6:{f:bz→UInt64 × Int // ∀s,f s=Zo s}:=Classical.choice ⟨⟨Zo,fun _=>rfl⟩⟩
noncomputable def parse (s:bz):UInt64 × Int:=Z6.1 s
theorem Zr (s:bz):parse s=Zo s:=Z6.2 s
open Classical in
noncomputable def join (neg:Bool) (m:Nat) (e:Int):Option Nat :=
 if h:∃p,p≤top∧nI p * 2 ^ sh p * 2 ^ (-(e+1074)).toNat=m * 2 ^ (e+1074).toNat then some (h.choose+if neg then 9223372036854775808 else 0) else none
end Nr
end Go.Eng
namespace Go.Eng
namespace Sh
def tA (a:Nat) (k:Int):Nat:=a * 10 ^ k.toNat
def tB (b:Nat) (k:Int):Nat:=b * 10 ^ (-k).toNat
open Classical in
noncomputable def reads (p N:Nat) (k:Int):Option (bz × Int):=if Nr.rd N k=some p then some (Nr.gw (Nr.dec N),(Nr.dec N).length+k) else none
noncomputable def some_ (p a b:Nat) (x n:Int):Option (bz × Int) :=
 let P:=tA a (n - x)
 let Q:=tB b (n - x)
 let u:=reads p (P / Q) (x - n)
 let o:=reads p (P / Q+1) (x - n)
 if u.isSome=true∧(o.isSome=false∨2 * (P % Q)<Q∨(2 * (P % Q)=Q∧P / Q % 2=0)) then u else o
def jO (p:Nat):Nat:=Nr.nI p * 2 ^ ((Nr.sh p:Int) - 1074).toNat
def iG (p:Nat):Nat:=2 ^ (-((Nr.sh p:Int) - 1074)).toNat
def dx (p:Nat):Int:=Nr.TT (Nr.nI p) ((Nr.sh p:Int) - 1074)
noncomputable def go (p:Nat):Nat→Nat→bz × Int
 | 0,_=>([],0)
 | f+1,i=>(some_ p (jO p) (iG p) (dx p) i).getD (go p f (i+1))
theorem go_succ (p f i:Nat):go p (f+1) i=(some_ p (jO p) (iG p) (dx p) i).getD (go p f (i+1)):=rfl
noncomputable def digits (p:Nat):bz × Int:=go p 17 1
def kx (b:UInt64):Nat:=b.toNat % 9223372036854775808
noncomputable def Qz (b:UInt64):bz × Int × Bool:=if (Nr.split b).1=2 then ((digits (kx b)).1,(digits (kx b)).2,true) else ([],0,false)
noncomputable def TY:{f:UInt64→bz × Int × Bool // ∀b,f b=Qz b}:=Classical.choice ⟨⟨Qz,fun _=>rfl⟩⟩
noncomputable def dg (b:UInt64):bz × Int × Bool:=TY.1 b
theorem KL (b:UInt64):dg b=Qz b:=TY.2 b
def eK (n:Int):bz:=List.replicate n.toNat 48
noncomputable def laid (d:bz) (x:Int):bz :=
 if 1≤x∧x≤21∧(d.length:Int)≤x then d++eK (x - d.length)
 else if 1≤x∧x≤21 then d.take x.toNat++([46]++d.drop x.toNat)
 else if -5≤x∧x≤0 then [48,46]++(eK (-x)++d)
 else (d.take 1++(if 1<d.length then 46 :: d.drop 1 else []))++(if x<1 then [101,45]++Nr.itoa (1 - x) else [101,43]++Nr.itoa (x - 1))
noncomputable def B8:{f:Nat→bz // ∀n,f n=Nr.dec n}:=Classical.choice ⟨⟨Nr.dec,fun _=>rfl⟩⟩
noncomputable def qY (n:Nat):bz:=B8.1 n
theorem vE (n:Nat):qY n=Nr.dec n:=B8.2 n
noncomputable def Ci:{f:Nat→Nat→Int→Option (bz × Int) // ∀p N k,f p N k=reads p N k}:=Classical.choice ⟨⟨reads,fun _ _ _=>rfl⟩⟩
noncomputable def kJ (p N:Nat) (k:Int):Option (bz × Int):=Ci.1 p N k
theorem vJ (p N:Nat) (k:Int):kJ p N k=reads p N k:=Ci.2 p N k
noncomputable def Fo:{f:Nat→Nat→Nat→Int→Int→Option (bz × Int) // ∀p a b x n,f p a b x n=some_ p a b x n}:=Classical.choice ⟨⟨some_,fun _ _ _ _ _=>rfl⟩⟩
noncomputable def pA (p a b:Nat) (x n:Int):Option (bz × Int):=Fo.1 p a b x n
theorem tU (p a b:Nat) (x n:Int):pA p a b x n=some_ p a b x n:=Fo.2 p a b x n
open Classical in
noncomputable def oY (a b:Nat) (x n:Int):Bool:=decide (1≤n∧n≤17∧-380≤x∧x≤380∧0<a∧a<2 ^ 1100∧0<b∧b<2 ^ 1100∧tB b (n - x)≤tA a (n - x)∧tA a (n - x)<10 ^ 17 * tB b (n - x))
noncomputable def Gf:{f:bz→Int→bz // ∀d x,f d x=laid d x}:=Classical.choice ⟨⟨laid,fun _ _=>rfl⟩⟩
noncomputable def CG (d:bz) (x:Int):bz:=Gf.1 d x
theorem zB (d:bz) (x:Int):CG d x=laid d x:=Gf.2 d x
def sign (b:UInt64):bz:=if (Nr.split b).2.1 then [45] else []
noncomputable def tP (b:UInt64):bz :=
 if (Nr.split b).1=4 then [78,97,78]
 else if (Nr.split b).1=3 then sign b++[73,110,102,105,110,105,116,121]
 else if (Nr.split b).1=1 then sign b++[48]
 else sign b++laid (dg b).1 (dg b).2.1
noncomputable def Fi:{f:UInt64→bz // ∀b,f b=tP b}:=Classical.choice ⟨⟨tP,fun _=>rfl⟩⟩
noncomputable def text (b:UInt64):bz:=Fi.1 b
theorem sL (b:UInt64):text b=tP b:=Fi.2 b
end Sh
end Go.Eng
set_option maxRecDepth 20000
namespace Go.Eng
namespace fR
def nM (r:Int):Bool:=decide (0≤r∧r≤1114111∧(r<55296∨57343<r))
def cont:Nat→Nat→bz→Option Nat
 | r,0,_=>some r
 | _,_+1,[]=>none
 | r,k+1,c :: l=>if 128≤c.toNat∧c.toNat<192 then cont (r * 64+(c.toNat - 128)) k l else none
def oG (r more least:Nat) (l:bz):Int × Int :=
 match cont r more l with
 | some r=>if r<least∨nM r=false then (0,0) else ((r:Int),(more+1:Int))
 | none=>(0,0)
def rune:bz→Int × Int
 | []=>(0,0)
 | c :: l =>
  if c.toNat<128 then ((c.toNat:Int),1)
  else if 192≤c.toNat∧c.toNat<224 then oG (c.toNat - 192) 1 128 l
  else if 224≤c.toNat∧c.toNat<240 then oG (c.toNat - 224) 2 2048 l
  else if 240≤c.toNat∧c.toNat<248 then oG (c.toNat - 240) 3 65536 l
  else (0,0)
def ny (b:bz) (i:Int):Int × Int:=if i<0∨(b.length:Int)≤i then (0,0) else rune (b.drop i.toNat)
def qt:Nat→bz→Nat × Nat
 | 0,_=>(0,0)
 | n+1,l=>if (rune l).2=0 then (0,0) else let q:=qt n (l.drop (rune l).2.toNat);(q.1+(rune l).2.toNat,q.2+1)
def look (l:bz):Nat × Nat:=qt l.length l
def whole (l:bz):Bool:=decide ((look l).1=l.length)
def zero (l:bz):Bool:=l.contains 0
end fR
end Go.Eng
set_option maxRecDepth 20000
namespace Go.Eng
mutual
def bA.bJ:bA→Nat
 | .mk n _ _ _ _ t m _ y ks=>1+n.length+t.length+m.length+y.length+bA.cm ks
def bA.cm:List bA→Nat
 | []=>0
 | f :: r=>bA.bJ f+bA.cm r
end
namespace Tree
def DU:List bz:=[[],[100,111,117,98,108,101],[115,116,114,105,110,103],[100,111,99,117,109,101,110,116],[97,114,114,97,121],[98,105,110,97,114,121],[117,110,100,101,102,105,110,101,100],[111,98,106,101,99,116,105,100],[98,111,111,108],[100,97,116,101],[110,117,108,108],[114,101,103,101,120],[112,111,105,110,116,101,114],[99,111,100,101],[115,121,109,98,111,108],[115,99,111,112,101,100],[105,110,116,51,50],[116,105,109,101,115,116,97,109,112],[105,110,116,54,52],[100,101,99,105,109,97,108]]
def name (k:Int):bz :=
 if k=127 then [109,97,120,107,101,121]
 else if k=255 then [109,105,110,107,101,121]
 else if k<0∨20≤k then []
 else DU.getD k.toNat []
def kinds:List Int:=[1,2,3,4,5,6,7,8,9,10,11,12,13,14,15,16,17,18,19,127,255]
def nO (i:Nat) (k:Int):Bool :=
 match i with
 | 0=>decide (k∈[1,9,17,18,16,8])
 | 1=>decide (k=19)
 | 2=>decide (k∈[2,13,14,11,12,15])
 | 3=>decide (k=11)
 | 4=>decide (k=5)
 | 5=>decide (k∈[5,7,12])
 | _=>decide (k∈[3,4,15])
def gW (v:Val):Bool :=
 (nO 0 v.kind || decide (v.bits=0))&&(nO 1 v.kind || (decide (v.high=0)&&decide (v.low=0)))&&(nO 2 v.kind || decide (v.text=[]))&&(nO 3 v.kind || decide (v.more=[])) &&
 (nO 4 v.kind || decide (v.sub=0))&&(nO 5 v.kind || decide (v.bytes=[]))&&(nO 6 v.kind || decide (v.kids=[])) &&
 (!decide (v.kind=16) || decide (v.bits<4294967296))&&(!decide (v.kind=8) || decide (v.bits<2))&&(decide (0≤v.sub)&&decide (v.sub≤255))&&(!(decide (v.kind=7) || decide (v.kind=12)) || decide (v.bytes.length=12))
def fZ (s:bz) (plain:Bool):Bool:=fR.whole s&&!(plain&&fR.zero s)
def own (v:Val):Int :=
 if name v.kind=[] then 5
 else if gW v=false then 1
 else if fZ v.text (decide (v.kind=11))=false∨fZ v.more (decide (v.kind=11))=false then 4
 else 0
def oC (v:Val) (n:bz):Int:=if own v≠0 then own v else if fZ n true=false then 4 else 0
mutual
def gQ:bA→List Int→List Int × Int
 | .mk n k b h l t m s y ks,p=>if oC ⟨k,b,h,l,t,m,s,y,ks⟩ n≠0 then (p,oC ⟨k,b,h,l,t,m,s,y,ks⟩ n) else ka ks 0 p
def ka:List bA→Nat→List Int→List Int × Int
 | [],_,_=>([],0)
 | f :: r,i,p=>if (gQ f (p++[(i:Int)])).2≠0 then gQ f (p++[(i:Int)]) else ka r (i+1) p
end
noncomputable def same (a b:Val):Bool:=@decide (a=b) (Classical.propDecidable _)
def nD (a b:Val):Bool:=decide (a.kind=b.kind)&&decide (a.bits=b.bits)&&decide (a.high=b.high)&&decide (a.low=b.low)&&decide (a.text=b.text)&&decide (a.more=b.more)&&decide (a.sub=b.sub)&&decide (a.bytes=b.bytes)
end Tree
namespace fu
def room (left:Int):List Int→Int
 | []=>left
 | s :: r=>if left<0∨left<s then -1 else room (left - s) r
mutual
def value (left:Int):bA→Int
 | .mk _ _ _ _ _ t m _ y ks=>values (room left [2,t.length,m.length,y.length]) ks
def values (left:Int):List bA→Int
 | []=>left
 | f :: r=>if left<0 then left else values (value (room left [(f.name.length:Int)]) f) r
end
end fu
end Go.Eng
set_option maxRecDepth 20000
namespace Go.Eng
namespace Tree
def ju:Nat→List bA→Bool
 | _,[]=>true
 | i,f :: r=>decide (f.name=iT i)&&ju (i+1) r
def regular (l:List bA):Bool:=ju 0 l
end Tree
end Go.Eng
set_option maxRecDepth 20000
namespace Go.Eng.mN
def sign (n:Nat):UInt8:=List.getD [48,49,50,51,52,53,54,55,56,57,97,98,99,100,101,102] n 0
def two (x:UInt8):bz:=[sign (x.toNat / 16),sign (x.toNat % 16)]
def text:bz→bz
 | []=>[]
 | x :: r=>two x++text r
end Go.Eng.mN
set_option maxRecDepth 20000
namespace Go.Eng
noncomputable def dH.N5:{f:dH→Nat // ∀a,f a=a.high.toNat * 18446744073709551616+a.low.toNat}:=Classical.choice ⟨⟨fun a=>a.high.toNat * 18446744073709551616+a.low.toNat,fun _=>rfl⟩⟩
noncomputable def dH.val (a:dH):Nat:=dH.N5.1 a
theorem dH.kG (a:dH):a.val=a.high.toNat * 18446744073709551616+a.low.toNat:=dH.N5.2 a
def dH.of (n:Nat):dH:=⟨UInt64.ofNat (n / 18446744073709551616),UInt64.ofNat n⟩
namespace Cn
def Fq:bz:=[65,66,67,68,69,70,71,72,73,74,75,76,77,78,79,80,81,82,83,84,85,86,87,88,89,90,97,98,99,100,101,102,103,104,105,106,107,108,109,110,111,112,113,114,115,116,117,118,119,120,121,122,48,49,50,51,52,53,54,55,56,57,43,47]
def sign (c:UInt8):UInt8:=List.getD Fq ((c.toNat:Int)).toNat 0
def base:bz→bz
 | a :: b :: c :: r=>sign (lO a 2) :: sign (mj (a &&& 3) 4 ||| lO b 4) :: sign (mj (b &&& 15) 2 ||| lO c 6) :: sign (c &&& 63) :: base r
 | [a,b]=>[sign (lO a 2),sign (mj (a &&& 3) 4 ||| lO b 4),sign (mj (b &&& 15) 2),61]
 | [a]=>[sign (lO a 2),sign (mj (a &&& 3) 4),61,61]
 | []=>[]
noncomputable def q7 (h l:UInt64):Int × Bool × dH × Int :=
 let neg:=decide (dQ h 63=1)
 let MF:=dQ h 58 &&& 31
 if MF=31 then (3,neg,⟨0,0⟩,0)
 else if MF=30 then (2,neg,⟨0,0⟩,0)
 else if dQ MF 3=3 then (1,neg,⟨0,0⟩,((dQ h 47 &&& 16383).toNat:Int) - 6176)
 else (1,neg,if dH.val ⟨h &&& 562949953421311,l⟩<10000000000000000000000000000000000 then ⟨h &&& 562949953421311,l⟩ else ⟨0,0⟩,((dQ h 49 &&& 16383).toNat:Int) - 6176)
noncomputable def Fm:{f:UInt64→UInt64→Int × Bool × dH × Int // ∀h l,f h l=q7 h l}:=Classical.choice ⟨⟨q7,fun _ _=>rfl⟩⟩
noncomputable def split (h l:UInt64):Int × Bool × dH × Int:=Fm.1 h l
theorem tS (h l:UInt64):split h l=q7 h l:=Fm.2 h l
def ux:dH:=⟨542101086242752,4003012203950112768⟩
noncomputable def CI (neg:Bool) (c:dH) (x:Int):UInt64 × UInt64 × Bool :=
 if 10000000000000000000000000000000000≤c.val∨x < -6176∨6111<x then (0,0,false)
 else (cond neg ((jr (UInt64.ofInt (x+6176)) 49 ||| c.high) ||| 9223372036854775808) (jr (UInt64.ofInt (x+6176)) 49 ||| c.high),c.low,true)
noncomputable def Km:{f:Bool→dH→Int→UInt64 × UInt64 × Bool // ∀n c x,f n c x=CI n c x}:=Classical.choice ⟨⟨CI,fun _ _ _=>rfl⟩⟩
noncomputable def join (n:Bool) (c:dH) (x:Int):UInt64 × UInt64 × Bool:=Km.1 n c x
theorem join_eq (n:Bool) (c:dH) (x:Int):join n c x=CI n c x:=Km.2 n c x
noncomputable def ri (h l:UInt64):Bool :=
 let s:=split h l
 if s.1=3 then decide (h=8935141660703064064)&&decide (l=0)
 else if s.1=2 then decide (h &&& ~~~9223372036854775808=8646911284551352320)&&decide (l=0)
 else (join s.2.1 s.2.2.1 s.2.2.2).2.2&&decide ((join s.2.1 s.2.2.1 s.2.2.2).1=h)&&decide ((join s.2.1 s.2.2.1 s.2.2.2).2.1=l)
noncomputable def laid (d:bz) (x:Int):bz :=
 let n:Int:=d.length
 if x=0 then d
 else if x<0∧-6≤x+n - 1 then
  let e:=if n≤-x then List.replicate (1 - x - n).toNat 48++d else d
  e.take (e.length+x).toNat++46 :: e.drop (e.length+x).toNat
 else
  let t:=if 1<n then d.take 1++46 :: d.drop 1 else d.take 1
  if x+n - 1<0 then t++[69,45]++Nr.itoa (-(x+n - 1)) else t++[69,43]++Nr.itoa (x+n - 1)
noncomputable def uS (h l:UInt64):bz :=
 let s:=split h l
 if s.1=3 then [78,97,78]
 else
  let t:=if s.1=2 then [73,110,102,105,110,105,116,121] else laid (Nr.dec s.2.2.1.val) s.2.2.2
  cond s.2.1 (45 :: t) t
def str (s:bz):bP:=⟨5,s,[]⟩
noncomputable def num (v:Int):bP:=⟨4,Nr.itoa v,[]⟩
def one (n:bz) (j:bP):bP:=⟨7,[],[Mem.of n j]⟩
def two (n:bz) (j:bP) (m:bz) (k:bP):bP:=⟨7,[],[Mem.of n j,Mem.of m k]⟩
def b8 (v:UInt64):bz:=[56,48,40,32,24,16,8,0].map fun n=>UInt8.ofInt ((dQ v n).toNat:Int)
def high (v:UInt64):bz:=mN.text (b8 v)
noncomputable def i64 (b:UInt64):Int:=IntKind.wrap .i64 b.toNat
noncomputable def i32 (b:UInt64):Int:=IntKind.wrap .i64 (IntKind.wrap .i32 b.toNat)
noncomputable def oD (v:Val):bP × Bool :=
 if v.kind=1 then
  if decide (Sh.text v.bits=[78,97,78])&&!decide (v.bits=9221120237041090560) then (one [36,100,111,117,98,108,101,66,105,116,115] (str (high v.bits)),true)
  else (one [36,110,117,109,98,101,114,68,111,117,98,108,101] (str (Sh.text v.bits)),true)
 else if v.kind=9 then (one [36,100,97,116,101] (one [36,110,117,109,98,101,114,76,111,110,103] (str (Nr.itoa (i64 v.bits)))),true)
 else if v.kind=16 then (one [36,110,117,109,98,101,114,73,110,116] (str (Nr.itoa (i32 v.bits))),true)
 else if v.kind=18 then (one [36,110,117,109,98,101,114,76,111,110,103] (str (Nr.itoa (i64 v.bits))),true)
 else if v.kind=17 then (one [36,116,105,109,101,115,116,97,109,112] (two [116] (num (i64 (dQ v.bits 32))) [105] (num (i64 (v.bits &&& 4294967295)))),true)
 else if v.kind=19 then
  if ri v.high v.low then (one [36,110,117,109,98,101,114,68,101,99,105,109,97,108] (str (uS v.high v.low)),true)
  else (one [36,100,101,99,105,109,97,108,66,105,116,115] (str (high v.high++high v.low)),true)
 else (⟨0,[],[]⟩,false)
def pz (v:Val):bP :=
 if v.kind=5 then one [36,98,105,110,97,114,121] (two [98,97,115,101,54,52] (str (base v.bytes)) [115,117,98,84,121,112,101] (str (mN.text [UInt8.ofInt v.sub])))
 else if v.kind=7 then one [36,111,105,100] (str (mN.text v.bytes))
 else if v.kind=11 then one [36,114,101,103,117,108,97,114,69,120,112,114,101,115,115,105,111,110] (two [112,97,116,116,101,114,110] (str v.text) [111,112,116,105,111,110,115] (str v.more))
 else if v.kind=12 then one [36,100,98,80,111,105,110,116,101,114] (two [36,114,101,102] (str v.text) [36,105,100] (one [36,111,105,100] (str (mN.text v.bytes))))
 else if v.kind=13 then one [36,99,111,100,101] (str v.text)
 else if v.kind=14 then one [36,115,121,109,98,111,108] (str v.text)
 else str v.text
noncomputable def qu (v:Val):bP :=
 if v.kind=6 then one [36,117,110,100,101,102,105,110,101,100] ⟨3,[],[]⟩
 else if v.kind=8 then ⟨IntKind.wrap .i64 (2+i64 v.bits),[],[]⟩
 else if v.kind=10 then ⟨1,[],[]⟩
 else if v.kind=255 then one [36,109,105,110,75,101,121] (num 1)
 else if v.kind=127 then one [36,109,97,120,75,101,121] (num 1)
 else if (oD v).2 then (oD v).1
 else pz v
def kM:List bA→Bool
 | f :: _=>decide (f.name.take 1=[36])
 | []=>false
def oF (m:Mem):Mem:=Mem.of [] m.val
mutual
noncomputable def xK:bA→bP
 | .mk _ k b h l t m s y ks =>
  if k=3 then cond (kM ks) (one [36,100,111,99,117,109,101,110,116] ⟨7,[],kD ks⟩) ⟨7,[],kD ks⟩
  else if k=4 then cond (Tree.regular ks) ⟨6,[],(kD ks).map oF⟩ (one [36,97,114,114,97,121] ⟨7,[],kD ks⟩)
  else if k=15 then two [36,99,111,100,101] (str t) [36,115,99,111,112,101] ⟨7,[],kD ks⟩
  else qu ⟨k,b,h,l,t,m,s,y,ks⟩
noncomputable def kD:List bA→List Mem
 | []=>[]
 | f :: r=>Mem.of f.name (xK f) :: kD r
end
noncomputable def yy (v:Val):bP:=xK (bA.of [] v)
noncomputable def rP (l:List bA):bP:=⟨7,[],kD l⟩
def iO (v:Val):List Int × Int:=if (Tree.gQ (bA.of [] v) []).2≠0 then Tree.gQ (bA.of [] v) [] else if v.kind=3 then ([],0) else ([],5)
noncomputable def zF (v:Val):bP:=if (iO v).2=0 then rP v.kids else ⟨0,[],[]⟩
def Sp:bz:=[34,92,98,102,110,114,116]
def Ip (c:UInt8):bz :=
 if 0≤Lib.indexByte [34,92,8,12,10,13,9] c then [92,List.getD Sp (Lib.indexByte [34,92,8,12,10,13,9] c).toNat 0]
 else if c<32 then [92,117,48,48]++mN.text [c]
 else [c]
def quote (s:bz):bz:=34 :: (s.flatMap Ip++[34])
def ku (s:bz):bz:=cond (fR.whole s) (quote s) []
mutual
noncomputable def BO:Mem→Int
 | .mk _ k t ks =>
  if k<1∨7<k then 1
  else if ks≠[]∧k≠6∧k≠7 then 1
  else if t≠[]∧k≠4∧k≠5 then 1
  else if k=6∧(ks.any fun m=>!decide (m.name=[]))=true then 1
  else if k=4∧(Nr.jf t=0∨300<t.length) then 10
  else if k=5∧fR.whole t=false then 4
  else uV ks
noncomputable def uV:List Mem→Int
 | []=>0
 | m :: r=>if fR.whole m.name=false then 4 else if BO m≠0 then BO m else uV r
end
mutual
def vr:Mem→bz
 | .mk _ k t ks =>
  if k=1 then [110,117,108,108] else if k=2 then [102,97,108,115,101] else if k=3 then [116,114,117,101] else if k=4 then t else if k=5 then ku t
  else cond (decide (k=7)) 123 91 :: (oK (decide (k=7)) true ks++[cond (decide (k=7)) 125 93])
def oK (obj:Bool):Bool→List Mem→bz
 | _,[]=>[]
 | first,m :: r=>cond first [] [44]++(cond obj (ku m.name++[58]) []++(vr m++oK obj false r))
end
noncomputable def mq (j:bP):Int:=BO (Mem.of [] j)
def uF (j:bP):bz:=vr (Mem.of [] j)
noncomputable def pK (j:bP):bz:=cond (decide (mq j=0)) (uF j) []
end Cn
mutual
def Mem.bJ:Mem→Nat
 | .mk n _ t ks=>1+n.length+t.length+Mem.cm ks
def Mem.cm:List Mem→Nat
 | []=>0
 | m :: r=>Mem.bJ m+Mem.cm r
end
def bP.bJ (j:bP):Nat:=Mem.bJ (Mem.of [] j)
end Go.Eng
set_option maxRecDepth 20000
namespace Go.Eng
namespace Rl
open Classical in
noncomputable def iW (s:bz):Option Int:=if h:∃n,Nr.i64 n=true∧Nr.itoa n=s then some h.choose else none
noncomputable def nF (b:UInt64):bz × Bool :=
 if (Nr.split b).1=1 then ([48],!(Nr.split b).2.1)
 else if (Nr.split b).1≠2 then ([],false)
 else (Sh.text b,decide (Sh.kx b<4845873199050653696) || decide (Nr.jf (Sh.text b)=2))
noncomputable def Cv:{f:UInt64→bz × Bool // ∀b,f b=nF b}:=Classical.choice ⟨⟨nF,fun _=>rfl⟩⟩
noncomputable def number (b:UInt64):bz × Bool:=Cv.1 b
theorem o6 (b:UInt64):number b=nF b:=Cv.2 b
noncomputable def jD (k:Int) (b:UInt64):Option Int:=if k=18 then some (Cn.i64 b) else if k=1∧(number b).2=true then iW (number b).1 else none
noncomputable def tM (k:Int) (b:UInt64):Int × UInt64:=match jD k b with
 | none=>(k,b)
 | some n=>if IntKind.wrap .i64 (IntKind.wrap .i32 n)=n then (16,UInt64.ofInt (UInt32.ofInt n).toNat) else (18,UInt64.ofInt n)
noncomputable def J5:{f:Int→UInt64→Int × UInt64 // ∀k b,f k b=tM k b}:=Classical.choice ⟨⟨tM,fun _ _=>rfl⟩⟩
noncomputable def kt (k:Int) (b:UInt64):Int × UInt64:=J5.1 k b
theorem tL (k:Int) (b:UInt64):kt k b=tM k b:=J5.2 k b
mutual
noncomputable def mr:bA→bA
 | .mk n k b h l t m s y ks => .mk n (kt k b).1 (kt k b).2 h l t m s y (gg ks)
noncomputable def gg:List bA→List bA
 | []=>[]
 | f :: r=>mr f :: gg r
end
noncomputable def ie (v:Val):Val:=⟨(kt v.kind v.bits).1,(kt v.kind v.bits).2,v.high,v.low,v.text,v.more,v.sub,v.bytes,gg v.kids⟩
def order (b:UInt64):Int:=if (Nr.split b).2.1 then -(Sh.kx b:Int) else Sh.kx b
def Aj (a b:UInt64):Int × Bool:=if (Nr.split a).1=4∨(Nr.split b).1=4 then (0,false) else (if order a<order b then -1 else if order b<order a then 1 else 0,true)
mutual
def mG:bA→bA→List Int→Option (List (List Int))
 | .mk _ k b h l t m s y ks,.mk _ k' b' h' l' t' m' s' y' Ou,p =>
  if ks.length≠Ou.length then none
  else (mf ks Ou 0 p).map fun r=>(if Tree.nD ⟨k,b,h,l,t,m,s,y,ks⟩ ⟨k',b',h',l',t',m',s',y',Ou⟩ then [] else [p])++r
def mf:List bA→List bA→Nat→List Int→Option (List (List Int))
 | f :: r,g :: q,i,p=>if f.name≠g.name then none else (mG f g (p++[(i:Int)])).bind fun a=>(mf r q (i+1) p).map fun b=>a++b
 | [],[],_,_=>some []
 | _,_,_,_=>none
end
def diff (a b:Val):Option (List (List Int)):=mG (bA.of [] a) (bA.of [] b) []
def pV (o:List (List Int)) (a b:Val) (p:List Int):List (List Int) × Bool:=match mG (bA.of [] a) (bA.of [] b) p with
 | some l=>(o++l,true)
 | none=>([],false)
def D4 (y:Int):Bool:=decide (y % 4=0)&&(!decide (y % 100=0) || decide (y % 400=0))
def month (y m:Int):Int:=if m=4∨m=6∨m=9∨m=11 then 30 else if m=2 then (if D4 y then 29 else 28) else 31
def ahead (y:Int):Int:=(y - 1) * 365+(y - 1) / 4 - (y - 1) / 100+(y - 1) / 400 - 719162
noncomputable def pad (n l:Int):bz:=List.replicate (l.toNat - (Nr.itoa n).length) 48++Nr.itoa n
def jC (d:Int):Nat→Int→Int
 | 0,y=>y
 | n+1,y=>if ahead (y+1)≤d then jC d n (y+1) else y
def rR (y:Int):Nat→Int→Int→Int × Int
 | 0,d,m=>(d,m)
 | n+1,d,m=>if month y m≤d then rR y n (d - month y m) (m+1) else (d,m)
noncomputable def Ak (t:Int):bz × Bool :=
 if t<0∨253402300799999<t then ([],false)
 else
  let days:=t / 86400000
  let rest:=t % 86400000
  let y:=jC days 100000 (1970+days / 366)
  let q:=rR y 20 (days - ahead y) 1
  let s:=rest / 1000
  let x:=pad y 4++[45]++pad q.2 2++[45]++pad (q.1+1) 2++[84]++pad (s / 3600) 2++[58]++pad (s / 60 % 60) 2++[58]++pad (s % 60) 2
  (cond (decide (rest % 1000=0)) x (x++([46]++pad (rest % 1000) 3))++[90],true)
noncomputable def KN:{f:Int→bz × Bool // ∀t,f t=Ak t}:=Classical.choice ⟨⟨Ak,fun _=>rfl⟩⟩
noncomputable def date (t:Int):bz × Bool:=KN.1 t
theorem C5 (t:Int):date t=Ak t:=KN.2 t
mutual
noncomputable def lj (date:Int→bz × Bool):bA→bP
 | .mk _ k b h l t m s y ks =>
  if k=16 then ⟨4,Nr.itoa (Cn.i32 b),[]⟩
  else if k=18 then ⟨4,Nr.itoa (Cn.i64 b),[]⟩
  else if k=1∧(number b).2=true then ⟨4,(number b).1,[]⟩
  else if k=9∧(date (Cn.i64 b)).2=true then Cn.one [36,100,97,116,101] (Cn.str (date (Cn.i64 b)).1)
  else if k=3 then cond (Cn.kM ks) (Cn.one [36,100,111,99,117,109,101,110,116] ⟨7,[],iX date ks⟩) ⟨7,[],iX date ks⟩
  else if k=4 then cond (Tree.regular ks) ⟨6,[],(iX date ks).map Cn.oF⟩ (Cn.one [36,97,114,114,97,121] ⟨7,[],iX date ks⟩)
  else if k=15 then Cn.two [36,99,111,100,101] (Cn.str t) [36,115,99,111,112,101] ⟨7,[],iX date ks⟩
  else Cn.qu ⟨k,b,h,l,t,m,s,y,ks⟩
noncomputable def iX (date:Int→bz × Bool):List bA→List Mem
 | []=>[]
 | f :: r=>Mem.of f.name (lj date f) :: iX date r
end
noncomputable def ob (date:Int→bz × Bool) (l:List bA):bP:=⟨7,[],iX date l⟩
noncomputable def ko (date:Int→bz × Bool) (v:Val):bP:=if (Cn.iO v).2=0 then ob date v.kids else ⟨0,[],[]⟩
noncomputable def kW (date:Int→bz × Bool) (v:Val):List Int × Int:=if (Cn.iO v).2≠0 then Cn.iO v else ([],Cn.mq (ko date v))
noncomputable def mT (date:Int→bz × Bool) (v:Val):bz:=if (Cn.iO v).2≠0 then [] else Cn.pK (ko date v)
end Rl
end Go.Eng
set_option maxRecDepth 20000
namespace Go.Eng
namespace Rl
def ZR (b:UInt64):Nat:=if (Nr.split b).2.2.2<0 then (Nr.split b).2.2.1.toNat / 2 ^ (-(Nr.split b).2.2.2).toNat else (Nr.split b).2.2.1.toNat * 2 ^ (Nr.split b).2.2.2.toNat
def Zm (neg:Bool) (q:Nat):Option Int:=if neg=true∧q≤9223372036854775808 then some (-(q:Int)) else if neg=true∨9223372036854775808≤q then none else some q
def Zp (b:UInt64):Option Int :=
 if (Nr.split b).1=1 then some 0
 else if (Nr.split b).1≠2∨11<(Nr.split b).2.2.2 then none
 else if (Nr.split b).2.2.2<0∧(Nr.split b).2.2.1.toNat % 2 ^ (-(Nr.split b).2.2.2).toNat≠0 then none
 else Zm (Nr.split b).2.1 (ZR b)
noncomputable def Z4:{f:UInt64→Option Int // ∀b,f b=Zp b}:=Classical.choice ⟨⟨Zp,fun _=>rfl⟩⟩
noncomputable def Zl (b:UInt64):Option Int:=Z4.1 b
theorem ZF (b:UInt64):Zl b=Zp b:=Z4.2 b
noncomputable def Zj (k:Int) (b:UInt64):Option Int:=if k=16 then some (Cn.i32 b) else if k=18 then some (Cn.i64 b) else if k=1 then Zl b else none
def zeroV:Val:=⟨0,0,0,0,[],[],0,[],[]⟩
def get:Val→List Int→Option Val
 | v,[]=>some v
 | v,i :: r=>if i<0∨(v.kids.length:Int)≤i then none else get (v.kids.getD i.toNat (fx.gm .fl)).val r
end Rl
end Go.Eng
