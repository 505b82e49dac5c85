/- Texts of my own, one behind the other: EngQa, EngQb, EngQc, EngQd, EngQe, EngQf, EngQg, EngQh, EngQi, EngR, EngS, EngT, EngU, EngV, EngW, EngX, EvA, EvB, EvC, EvD. -/
import Derived.Test.YtoadlhkggdbfkaaGreatDoorT1
import Derived.Lib.SliceRun
import Derived.Laws.Externs
import Derived.Deep.LoopGhost
import Derived.ScopeJumps
import Derived.KernelRfl
import Derived.Laws.Strings
set_option linter.unusedVariables false
set_option linter.unusedSimpArgs false
namespace Go.Eng
open Go.RowKit
theorem wU {s:Nat}:∀{es:List AV} {i:Nat} {e:AV},(∀x∈es,x.cells.length=s)→es[i]?=some e→((es.flatMap AV.cells).drop (i * s)).take s=e.cells
 | x :: es,0,e,h,he=>by
  simp at he;subst he
  have:=h x (by simp)
  simp [←this]
 | x :: es,i+1,e,h,he=>by
  have hx:=h x (by simp)
  have ih:=wU (es:=es) (i:=i) (e:=e) (fun y hy=>h y (by simp [hy])) (by simpa using he)
  simp only [List.flatMap_cons]
  rw [show (i+1) * s=x.cells.length+i * s by rw [hx,Nat.succ_mul];omega,←List.drop_drop,List.drop_left]
  exact ih
 | [],_,_,_,he=>by simp at he
theorem zd {s:Nat}:∀{es:List AV},(∀x∈es,x.cells.length=s)→(es.flatMap AV.cells).length=es.length * s
 | [],_=>by simp
 | x :: es,h=>by
  have h1:=h x (by simp)
  have h2:=zd (es:=es) (fun y hy=>h y (List.mem_cons_of_mem _ hy))
  simp only [List.flatMap_cons,aw,aF,Nat.succ_mul,h1,h2]
  omega
theorem wS {s o:Nat}:∀{es:List AV} {i:Nat} {e e':AV} {xs:List AV},(∀x∈es,x.cells.length=s)→es[i]?=some e→e'.cells=gR e.cells o xs→o+xs.length≤s →
  (es.set i e').flatMap AV.cells=gR (es.flatMap AV.cells) (i * s+o) xs
 | x :: es,0,e,e',xs,h,he,h',hl=>by
  simp at he;subst he
  have hx:=h x (by simp)
  simp only [List.set_cons_zero,List.flatMap_cons,h',gR,Nat.zero_mul,Nat.zero_add]
  rw [List.take_append_of_le_length (by omega),List.drop_append_of_le_length (by omega)]
  simp
 | x :: es,i+1,e,e',xs,h,he,h',hl=>by
  have hx:=h x (by simp)
  have ih:=wS (es:=es) (i:=i) (e:=e) (fun y hy=>h y (by simp [hy])) (by simpa using he) h' hl
  simp only [List.set_cons_succ,List.flatMap_cons,ih,gR]
  have e1:(i+1) * s+o=x.cells.length+(i * s+o):=by rw [hx,Nat.succ_mul];omega
  rw [e1,show x.cells.length+(i * s+o)+xs.length=x.cells.length+(i * s+o+xs.length) by omega]
  simp [List.take_append,List.drop_append,List.take_of_length_le,aI]
 | [],_,_,_,_,_,he,_,_=>by simp at he
theorem uH {e x:AV} {o n:Nat} {agg:Bool} (h:pa e o n agg=some x):gS e.cells o n agg=some x:=by
 unfold pa at h
 split at h
 ·exact h
 ·rename_i jQ
  rw [az] at h
  obtain ⟨⟨rfl,rfl,rfl⟩,h⟩:=h
  cases h
  have:e.cells=[e]:=by cases e <;> first | rfl | exact (jQ _ rfl).elim
  simp [gS,this]
theorem vP {e e' x:AV} {o:Nat} (h:sf e o x=some e'):e'.cells=gR e.cells o x.cells∧o+x.cells.length≤e.cells.length:=by
 unfold sf at h
 split at h
 ·rw [az] at h
  obtain ⟨h1,h⟩:=h
  cases h
  exact ⟨rfl,h1⟩
 ·rename_i jQ
  rw [az] at h
  obtain ⟨⟨rfl,hx⟩,h⟩:=h
  obtain rfl:=Option.some.inj h
  have h1:e.cells=[e]:=by cases e <;> first | rfl | exact (jQ _ rfl).elim
  have h2:x.cells=[x]:=by cases x <;> first | rfl | cases hx
  rw [h1,h2]
  exact ⟨by simp [gR],by simp⟩
section
variable {C:Ctx} {D:kV} {σ:Sg} {γ:Ga} {a:Act} {w:World}
theorem dU.uC (h:dU C D σ γ a w) {key s:Nat} (hk:γ key = .pv s):gG D.R w (D.τ key) s∧hZ D.R w (D.τ key) s (σ key):=⟨(h.ps key s (by rw [hk];rfl)).1,(h.ps key s (by rw [hk];rfl)).2.1⟩
theorem dU.yH (h:dU C D σ γ a w) {key iz s g:Nat} (hk:γ key = .pv s) (h1:gC D γ key=some g) (h2:gC D γ iz=some g):iz=key:=by
 rcases h.sep key iz g h1 h2 with e | e | e
 ·exact e.symm
 ·rw [hk] at e;cases e
 ·cases hg:γ iz <;> rw [hg] at e <;> first | (cases e;done) | skip
  cases e
  have:=h.inv iz
  rw [hg] at this
  rcases this with e | ⟨s',e⟩ <;> rw [hk] at e <;> cases e
theorem dU.II (h:dU C D σ γ a w) {key s g:Nat} (hk:γ key = .pv s) (hg:(D.τ key).ownBlock=some g) {w':World} (os:w'.os=w.os) (tape:w'.tape=w.tape) (out:w'.output=w.output) (size:w'.heap.size=w.heap.size)
  (hh:∀b,b≠g→w'.heap[b]?=w.heap[b]?) {x:AV} (ht:gG D.R w' (D.τ key) s) (hp:hZ D.R w' (D.τ key) s x):dU C D (dJ σ key x) γ a w':=by
 have qz:gC D γ key=some g:=(iq (by rw [hk];rfl)).trans hg
 have pQ:∀o,¬D.R g o:=(h.uC hk).2.1 g hg
 have cd:gF D.R w D.R w':=fun b o hr=>⟨hr,World.cell?_of_block (w:=w) (hh b (fun e=>pQ o (e ▸ hr)))⟩
 have lF:1000000≤key:=h.lS key (by rw [hk];rfl)
 have jQ:∀iz g',iz≠key→gC D γ iz=some g'→g'≠g:=fun iz g' hn hb e=>hn (h.yH hk qz (e ▸ hb))
 refine ⟨h.size,h.defers,h.kj,h.nr,h.lS,fun t uZ=>?_,fun m ts hm=>?_,fun iz s' km=>?_,fun iz s' hs=>?_,h.sep,h.own,h.inv,?_,fun b o hr=>by rw [size];exact h.ns b o hr,fun n=>(h.gl n).mono cd,h.fix⟩
 ·have e:t≠key:=by have:=h.kj;omega
  rw [bO _ _ e]
  exact (h.slot t uZ).imp id fun ⟨r,g⟩=>⟨r.mono cd,g⟩
 ·have e:m≠key:=fun e=>by subst e;rw [hk] at hm;cases hm
  rw [bO _ _ e]
  obtain ⟨cs,hv,oD⟩:=h.mem m ts hm
  exact ⟨cs,hv.cd cd (hh _ (jQ m _ e (iI hm))) hv.BY,oD⟩
 ·have e:iz≠key:=fun e=>by subst e;rw [hk] at km;cases km
  exact (h.gb iz s' km).cd fun g' mN=>⟨hh g' (jQ iz g' e ((iH km).trans mN)),fun _ hr=>hr⟩
 ·have pP:sX (dJ σ key x) γ iz:=fun d s1 s2 e1 e2=>by
   by_cases e:iz=key
   ·subst e;rw [hk] at e1;cases e1
   ·have e':d≠key:=fun e'=>by subst e';rw [hk] at e2;cases e2
    rw [bO _ _ e,bO _ _ e'];exact (h.ps iz s' hs).2.2 d s1 s2 e1 e2
  by_cases e:iz=key
  ·subst e
   rw [hk] at hs
   cases hs
   rw [bI]
   exact ⟨ht,hp,pP⟩
  ·rw [bO _ _ e]
   obtain ⟨h1,h2,_⟩:=h.ps iz s' hs
   have hb:=fun g' mN=>jQ iz g' e ((iq (Gh.pI hs)).trans mN)
   exact ⟨h1.cd fun g' mN=>⟨hh g' (hb g' mN),fun _ hr=>hr⟩,h2.cd cd fun g' mN=>⟨hh g' (hb g' mN),fun _ hr=>hr⟩,pP⟩
 ·have oH:=h.own key g qz
  refine ⟨os.trans h.ext.os,tape.trans h.ext.tape,out.trans h.ext.output,by rw [size];exact h.ext.size,fun b hb hn=>?_,h.ext.cd.trans cd,h.ext.qn⟩
  refine (hh b fun e=>?_).trans (h.ext.heap b hb hn)
  subst e
  rcases oH with lE | lE
  ·exact hn lE
  ·omega
theorem dU.D6 (h:dU C D σ γ a w) {d k s:Nat} {v:Value} {x:AV} (hd:d<C.nt) (hk:γ (lk k) = .no) (ht:gG D.R w v s) (hp:hZ D.R w v s x) (hg:∀g,v.ownBlock=some g→C.lR g∧∀key,gC D γ key≠some g) :
  dU C { D with τ:=dJ D.τ (lk k) v } (cQ σ [d,lk k] [.pt,x]) (cQ γ [d,lk k] [.gb k s,.pv s]) (a.put (some d) v) w:=by
 have h1:=h.uK hk ht hg
 -- from a gb to a private slice
 have h2:dU C { D with τ:=dJ D.τ (lk k) v } (dJ σ (lk k) x) (dJ γ (lk k) (.pv s)) a w:=by
  have qU:∀j,j≠lk k→dJ γ (lk k) (.pv s) j=dJ γ (lk k) (.live s) j:=fun j hj=>by rw [bO _ _ hj,bO _ _ hj]
  have hb:∀key,gC { D with τ:=dJ D.τ (lk k) v } (dJ γ (lk k) (.pv s)) key=gC { D with τ:=dJ D.τ (lk k) v } (dJ γ (lk k) (.live s)) key:=fun key=>by
   unfold gC
   by_cases e:key=lk k
   ·subst e;rw [bI,bI]
   ·rw [qU _ e]
  have po:∀key,(dJ γ (lk k) (.pv s) key).par=(dJ γ (lk k) (.live s) key).par:=fun key=>by
   by_cases e:key=lk k
   ·subst e;rw [bI,bI];rfl
   ·rw [qU _ e]
  have jD:∀key,(dJ γ (lk k) (.pv s) key).gy=(dJ γ (lk k) (.live s) key).gy:=fun key=>by
   by_cases e:key=lk k
   ·subst e;rw [bI,bI];rfl
   ·rw [qU _ e]
  have lF:∀key,(dJ γ (lk k) (.pv s) key).fL=(dJ γ (lk k) (.live s) key).fL:=fun key=>by
   by_cases e:key=lk k
   ·subst e;rw [bI,bI];rfl
   ·rw [qU _ e]
  have hM:∀g,gn (dJ γ (lk k) (.live s)) g→gn (dJ γ (lk k) (.pv s)) g:=fun g hg=>by
   cases g <;> simp only [gn,jD,lF] at hg ⊢ <;> first | exact hg | skip
   rename_i q s'
   have e:q≠lk k:=fun e=>by subst e;rw [bI] at hg;rcases hg with e | ⟨_,e⟩ <;> cases e
   rw [qU _ e];exact hg
  have gM:lk k<C.nt→False:=fun hl=>by have:=hU k;have:=h.kj;omega
  refine ⟨h1.size,h1.defers,h1.kj,fun m hm=>h1.nr m (by rwa [jD] at hm),fun m hm=>h1.lS m (by rwa [lF] at hm),fun t uZ=>?_,fun m ts hm=>?_,fun key s' km=>?_,fun key s' hs=>?_,fun p q g jS hq=>(by rw [po,po];exact h1.sep p q g (by rwa [hb] at jS) (by rwa [hb] at hq)),fun p g jS=>h1.own p g (by rwa [hb] at jS),fun key=>?_,h1.ext,h1.ns,h1.gl,h1.fix.of rfl (fun jS=>by
   have e:lk 999999≠lk k:=fun e=>by rw [e,bI] at jS;cases jS
   rw [qU _ e];exact ⟨jS,rfl⟩)⟩
  ·have e:t≠lk k:=fun e=>gM (e ▸ uZ)
   rw [bO _ _ e,qU _ e];exact h1.slot t uZ
  ·have e:m≠lk k:=fun e=>by subst e;rw [bI] at hm;cases hm
   rw [qU _ e] at hm
   rw [bO _ _ e];exact h1.mem m ts hm
  ·have e:key≠lk k:=fun e=>by subst e;rw [bI] at km;cases km
   rw [qU _ e] at km;exact h1.gb key s' km
  ·have pP:sX (dJ σ (lk k) x) (dJ γ (lk k) (.pv s)) key:=fun d s1 s2 e1 e2=>by
    have e:key≠lk k:=fun e=>by subst e;rw [bI] at e1;cases e1
    have e':d≠lk k:=fun e'=>by subst e';rw [bI] at e2;cases e2
    rw [qU _ e] at e1;rw [qU _ e'] at e2
    rw [bO _ _ e,bO _ _ e'];exact (h1.ps key s1 (by rw [e1];rfl)).2.2 d s1 s2 e1 e2
   by_cases e:key=lk k
   ·subst e
    rw [bI] at hs
    cases hs
    simp only [bI]
    exact ⟨ht,hp,pP⟩
   ·rw [qU _ e] at hs
    rw [bO _ _ e];exact ⟨(h1.ps key s' hs).1,(h1.ps key s' hs).2.1,pP⟩
  ·by_cases e:key=lk k
   ·subst e;rw [bI];trivial
   ·rw [qU _ e];exact hM _ (h1.inv key)
 refine h2.put (g := .gb k s) hd (.inr ⟨.pt _,?_⟩) rfl rfl ?_
 ·intro _;show v=dJ D.τ (lk k) v (lk k)∧v.oneCell'=true
  rw [bI]
  exact ⟨rfl,by rcases ht with rfl | ⟨_,_,_,_,_,_,rfl,_⟩ <;> rfl⟩
 ·show (dJ γ (lk k) (.pv s) (lk k)).fL=true
  rw [bI];rfl
end
end Go.Eng
namespace Go.Eng
open Go.RowKit
theorem vF {cur:Array Value} {ys:List Value} (h:∀(j:Nat) (y:Value),ys[j]?=some y→cur[j]?=some y):cur.toList.take ys.length=ys:=by
 apply List.ext_getElem?
 intro j
 rw [aR]
 split
 ·rename_i hj
  have:=h j ys[j] (aE hj)
  rw [aE hj]
  simpa using this
 ·rename_i hj
  exact (List.getElem?_eq_none (by omega)).symm
section
variable {C:Ctx} {D:kV} {σ:Sg} {γ:Ga} {a:Act} {w:World} {o:Oper} {d:Nat} {K:Act→World→Prop} {Q:Exit→Act→World→Prop}
theorem dU.Mj (h:dU C D σ γ a w) {k s:Nat} {es:List AV} (h9:k≠999999) (hk:γ (lk k) = .pv s) (hx:σ (lk k) = .sl s es) :
  ∃R',dU C { D with R:=R' } (dJ σ (lk k) .dead) (dJ γ (lk k) (.live s)) a w∧Rep R' w (.sl s es) (D.τ (lk k))∧gF D.R w R' w:=by
 obtain ⟨ht,Aa,pq⟩:=h.uC hk
 rw [hx] at pq
 have pq:=pq.resolve_left (by simp)
 obtain ⟨K1,he,tX,hp⟩:=pq
 cases he
 have qz:gC D γ (lk k)=(D.τ (lk k)).ownBlock:=iq (by rw [hk];rfl)
 let R':Reach:=fun b o=>D.R b o∨((D.τ (lk k)).ownBlock=some b∧o<es.length * s)
 have cd:gF D.R w R' w:=fun b o hr=>⟨.inl hr,rfl⟩
 have jQ:∀iz g,iz≠lk k→gC D γ iz=some g→∀o,R' g o→D.R g o:=fun iz g hn hb o hr=>by
  rcases hr with hr | ⟨hr,_⟩
  ·exact hr
  ·exact (hn (h.yH hk (qz.trans hr) hb)).elim
 have qU:∀j,j≠lk k→dJ γ (lk k) (.live s) j=γ j:=fun j hj=>bO _ _ hj
 have hb:∀key,gC { D with R:=R' } (dJ γ (lk k) (.live s)) key=gC D γ key:=fun key=>by
  unfold gC
  by_cases e:key=lk k
  ·subst e;rw [bI,hk]
  ·rw [qU _ e]
 have po:∀key,(dJ γ (lk k) (.live s) key).par=(γ key).par:=fun key=>by
  by_cases e:key=lk k
  ·subst e;rw [bI,hk];rfl
  ·rw [qU _ e]
 have jD:∀key,(dJ γ (lk k) (.live s) key).gy=(γ key).gy:=fun key=>by
  by_cases e:key=lk k
  ·subst e;rw [bI,hk];rfl
  ·rw [qU _ e]
 have lF:∀key,(dJ γ (lk k) (.live s) key).fL=(γ key).fL:=fun key=>by
  by_cases e:key=lk k
  ·subst e;rw [bI,hk];rfl
  ·rw [qU _ e]
 have hM:∀g,gn γ g→gn (dJ γ (lk k) (.live s)) g:=fun g hg=>by
  cases g <;> simp only [gn,jD,lF] at hg ⊢ <;> first | exact hg | skip
  rename_i q s'
  have e:q≠lk k:=fun e=>by subst e;rcases hg with e | ⟨_,e⟩ <;> rw [hk] at e <;> cases e
  rw [qU _ e];exact hg
 have gM:lk k<C.nt→False:=fun hl=>by have:=hU k;have:=h.kj;omega
 refine ⟨R',⟨h.size,h.defers,h.kj,fun m hm=>h.nr m (by rwa [jD] at hm),fun m hm=>h.lS m (by rwa [lF] at hm),fun t uZ=>?_,fun m ts hm=>?_,fun key s' km=>?_,fun key s' hs=>?_,fun p q g jS hq=>(by rw [po,po];exact h.sep p q g (by rwa [hb] at jS) (by rwa [hb] at hq)),fun p g jS=>h.own p g (by rwa [hb] at jS),fun key=>?_,?_,fun b o hr=>?_,fun n=>(h.gl n).mono cd,h.fix.of rfl (fun hp=>by
  have e:lk 999999≠lk k:=fun e=>h9 (jZ e).symm
  rw [bO _ _ e];exact ⟨hp,rfl⟩)⟩,?_,cd⟩
 ·have e:t≠lk k:=fun e=>gM (e ▸ uZ)
  rw [bO _ _ e,qU _ e]
  exact (h.slot t uZ).imp id fun ⟨r,g⟩=>⟨r.mono cd,fun hs=>by have g:=g hs;cases hg:γ t <;> rw [hg] at g <;> exact g⟩
 ·have e:m≠lk k:=fun e=>by subst e;rw [bI] at hm;cases hm
  rw [qU _ e] at hm
  rw [bO _ _ e]
  obtain ⟨cs,hv,oD⟩:=h.mem m ts hm
  exact ⟨cs,hv.cd cd rfl (fun o hr=>hv.BY o (jQ m _ e (iI hm) o hr)),oD⟩
 ·by_cases e:key=lk k
  ·subst e
   rw [bI] at km
   cases km
   rcases hp with ⟨rfl,e0⟩ | ⟨g,cap,cur,e,fz,e0,hg,hL⟩
   ·exact .inl e0
   ·rcases ht with e1 | ⟨g',n,ym,mX,e',LW,e1,h1,h2,h3,h4,h5,h6⟩
    ·rw [e0] at e1;cases e1
    ·refine .inr ⟨g',n,ym,mX,e',LW,e1,h1,h2,h3,h4,h5,fun o ho hr=>?_⟩
     rcases hr with hr | ⟨_,hr⟩
     ·exact h6 o ho hr
     ·rw [e0] at e1;cases e1;omega
  ·rw [qU _ e] at km
   exact (h.gb key s' km).cd fun g hg=>⟨rfl,jQ key g e ((iH km).trans hg)⟩
 ·have e:key≠lk k:=fun e=>by subst e;rw [bI] at hs;cases hs
  rw [qU _ e] at hs
  rw [bO _ _ e]
  obtain ⟨h1,h2,h3⟩:=h.ps key s' hs
  have wM:=fun g hg=>jQ key g e ((iq (Gh.pI hs)).trans hg)
  refine ⟨h1.cd fun g hg=>⟨rfl,wM g hg⟩,h2.cd cd fun g hg=>⟨rfl,wM g hg⟩,fun d s1 s2 e1 e2=>?_⟩
  have e':d≠lk k:=fun e'=>by subst e';rw [bI] at e2;cases e2
  rw [qU _ e] at e1;rw [qU _ e'] at e2
  rw [bO _ _ e,bO _ _ e'];exact h3 d s1 s2 e1 e2
 ·by_cases e:key=lk k
  ·subst e;rw [bI];trivial
  ·rw [qU _ e];exact hM _ (h.inv key)
 ·refine ⟨h.ext.os,h.ext.tape,h.ext.output,h.ext.size,h.ext.heap,h.ext.cd.trans cd,fun b o hr=>?_⟩
  rcases hr with hr | ⟨hr,_⟩
  ·exact h.ext.qn b o hr
  ·rcases h.own (lk k) b (qz.trans hr) with e | e
   ·exact .inr (.inr e)
   ·exact .inr (.inl e)
 ·rcases hr with hr | ⟨hr,_⟩
  ·exact h.ns b o hr
  ·exact ht.lt hr
 ·rcases hp with ⟨rfl,e0⟩ | ⟨g,cap,cur,e,fz,e0,hg,hL⟩
  ·rw [e0];exact .nil s
  ·have tc:es.length≤cap∧cap≤maxLen∧cur.size=cap * s:=by
    rcases ht with e1 | ⟨g',n,ym,mX,e',LW,e1,h1,h2,h3,h4,h5,h6⟩
    ·rw [e0] at e1;cases e1
    ·rw [e0] at e1;cases e1
     rw [hg] at h1;cases h1
     exact ⟨h4,h5,h3⟩
   have hle:es.length * s≤cap * s:=bu _ tc.1
   rw [e0]
   refine .sl rfl tc.1 tc.2.1 (iU.write tX (hL.mono cd) (fun j hj => .inr ⟨by rw [e0];rfl,by omega⟩) fun j y hy=>?_)
   rw [aR] at hy
   split at hy
   ·simp only [World.cell?,hg,Nat.zero_add]
    simpa using hy
   ·cases hy
variable (h:dU C D σ γ a w) (hl:d<C.nt)
include h
theorem G4 (hd:o.dst=some d) (hl:d<C.nt) {x:Operand} {r:eB} {t u e:TypeId} {b:ByteArray} {k:Nat} (ho:o.op = .convert t u x) (ht:C.P.underlying t=some .string) (hu:C.P.underlying u=some (.slice e)) (he:C.P.underlying e=some (.int .u8))
  (hx:dh x r=true) (hY:small C.nt [x]=true) (hr:r.ev C.E σ = .v (.string b)) (hb:b.data.toList.length≤maxLen) (hk:γ (lk k) = .no)
  (hK:∀D' a' w',dU C D' (cQ σ [d,lk k] [.pt,.sl 1 (b.data.toList.map fQ)]) (cQ γ [d,lk k] [.gb k 1,.pv 1]) a' w'→K a' w'):o.wp C.P a w K Q:=by
 have e1:=(h.jr hx hY).rep (by rw [hr];simp)
 rw [hr] at e1
 have dX:=run_bytes_of_string (P:=C.P) w t u e b ht hu he
 have za:=grownCap_ge w b.size 0 e
 have hle:=grownCap_le_maxLen w b.size 0 e (by rwa [bsize] at hb)
 let cur:=bytesRow b (grownCap w b.size 0 e)
 let w1:World:=w.drew.alloc (.cells cur e (cur.size,cur.size+1))
 have jP:w1.heap[w.heap.size]?=some (.cells cur e (cur.size,cur.size+1)):=by
  show (w.heap.push _)[w.heap.size]?=_
  simp
 have hold:∀c,c<w.heap.size→w1.heap[c]?=w.heap[c]?:=fun c hc=>by
  show (w.heap.push _)[c]?=_
  rw [Array.getElem?_push,ah (by omega)]
 have hS:dU C { D with R:=D.R } σ γ a w1:=h.grow (w':=w1) (R':=D.R) rfl rfl rfl (by show _≤(w.heap.push _).size;simp) hold (fun _ _ h=>h) (fun _ _ h => .inl h) (fun c q hr=>by
  show c<(w.heap.push _).size
  have:=h.ns c q hr
  simp;omega)
 have pQ:∀q,¬D.R w.heap.size q:=fun q hr=>by have:=h.ns _ q hr;omega
 have rn:cur.size=grownCap w b.size 0 e * 1:=by
  have:b.data.size=b.size:=rfl
  simp only [cur,bytesRow,Array.size_append,Array.size_map,Array.size_replicate,this];omega
 have HP:cur.toList.take (b.data.toList.map fQ).length=b.data.toList.map fun x => .int .u8 x.toNat:=by
  have:=vF (cur:=cur) (ys:=b.data.toList.map fun x => .int .u8 x.toNat) (fun j y hj=>by
   have gM:=(aC.1 hj).1
   simp only [cur]
   unfold bytesRow
   rw [Array.getElem?_append_left (by simp at gM ⊢;exact gM)]
   simpa using hj)
  simpa using this
 unfold Oper.wp
 rw [show (execOp a.eval o).run C.P w = .ok (.value (.slice (some ⟨w.heap.size,0,none⟩) b.size (grownCap w b.size 0 e))) w1 by simp only [execOp,ho,e1.ib,Sem.run_bind,dX,Result.andThen_ok,Sem.run_pure];rfl,Oper.upon_value,hd]
 refine hK _ _ _ (dU.D6 hS hl hk (.inr ⟨_,_,_,_,_,_,rfl,jP,by simp only;intro q hq;omega,rn,za,hle,fun q _=>pQ q⟩) ⟨fun g hg q=>?_,.inr ⟨_,rfl,?_,.inr ⟨w.heap.size,grownCap w b.size 0 e,cur,e,(cur.size,cur.size+1),by rw [aN,bsize],jP,?_⟩⟩⟩ fun g hg=>?_)
 ·simp [Value.ownBlock] at hg;subst hg;exact pQ q
 ·intro x hx;obtain ⟨y,_,rfl⟩:=aT.1 hx;rfl
 ·rw [Nat.mul_one,HP,kM];exact mY _
 ·simp [Value.ownBlock] at hg
  subst hg
  exact ⟨.inr h.ext.size,fun key hk=>by have:=h.lt hk;omega⟩
omit hl in
theorem dU.GM {j:Nat} {s:AV} {g:Gh} (hj:j<C.nt) (hs:lB D w s g (a.tmps.getD j undef)) (g1:g.gy=false) (g2:g.fL=false) (gm:gn γ g):dU C D (dJ σ j s) (dJ γ j g) a w:=by
 have:=h.put hj hs g1 g2 gm
 have rn:j<a.tmps.size:=by rw [h.size];exact hj
 have e:a.put (some j) (a.tmps.getD j undef)=a:=by
  unfold Act.put
  simp only
  have:a.tmps.setIfInBounds j (a.tmps.getD j undef)=a.tmps:=by
   apply Array.ext
   ·simp
   ·intro i h1 h2
    rw [Array.getElem_setIfInBounds h2]
    split
    ·rename_i e;subst e;simp [Array.getD,rn]
    ·rfl
  rw [this]
 rwa [e] at this
theorem G9 {k:Nat} (h9:k≠999999) (hd:o.dst=some d) (hl:d<C.nt) {x:Operand} {j s s0:Nat} {es:List AV} (ho:o.op = .move x∨o.op = .assign x) (hx:dh x (.s j)=true) (hj:j<C.nt) (hr:σ j = .pt) (hg:γ j = .gb k s0)
  (hk:γ (lk k) = .pv s) (nh:σ (lk k) = .sl s es) (hK:∀D' a' w',dU C D' (cQ σ [d,j,lk k] [.sl s es,.sl s es,.dead]) (cQ γ [d,j,lk k] [.gb k s,.gb k s,.live s]) a' w'→K a' w'):o.wp C.P a w K Q:=by
 have Pe:x = .tmp j:=by cases x <;> simp [dh] at hx;rw [hx]
 have hY:small C.nt [x]=true:=by rw [Pe];simp [small,hj]
 have e0:=h.jr hx hY
 have hv:=e0.gh (by simp only [eB.ev];rw [hr];simp) (by simp only [eB.ev];rw [hr];simp)
 simp only [eB.gh] at hv
 rw [hg] at hv
 obtain ⟨hv1,hv2⟩:=hv
 have FW:a.eval x=a.tmps.getD j undef:=by rw [Pe];rfl
 have dX:(execOp a.eval o).run C.P w = .ok (.value (a.eval x)) w:=by rcases ho with e | e <;> simp [execOp,e]
 obtain ⟨R',hS,hR,_⟩:=h.Mj h9 hk nh
 have Kp:(dJ γ (lk k) (.live s) (lk k)).fL=true:=by rw [bI];rfl
 have EP:=hS.GM (g := .gb k s) hj (.inr ⟨by rw [←FW,hv1];exact hR,fun _=>⟨FW ▸ hv1,FW ▸ hv2⟩⟩) rfl rfl Kp
 have Q6:lk k≠j:=by have:=hU k;have:=h.kj;omega
 unfold Oper.wp
 rw [dX,Oper.upon_value,hd]
 refine hK _ _ _ (EP.put (g := .gb k s) hl (.inr ⟨by rw [hv1];exact hR,fun _=>⟨hv1,hv2⟩⟩) rfl rfl ?_)
 show (dJ (dJ γ (lk k) (.live s)) j (.gb k s) (lk k)).fL=true
 rw [bO _ _ Q6];exact Kp
theorem G6 (hd:o.dst=some d) (hl:d<C.nt) {x:Operand} {r:eB} {t e:TypeId} {k s s' s0:Nat} {es:List AV} (ho:o.op = .call { callee := .builtin .len,args:=#[x],argTypes:=#[t] }) (ht:C.P.underlying t=some (.slice e)) (hx:dh x r=true) (hY:small C.nt [x]=true)
  (hr:r.ev C.E σ = .pt) (hg:r.gh γ = .gb k s0) (hk:γ (lk k) = .pv s) (nh:σ (lk k) = .sl s' es) (hK:∀D' a' w',dU C D' (dJ σ d (.v (.int .i64 es.length))) (dJ γ d .no) a' w'→K a' w'):o.wp C.P a w K Q:=by
 have e0:=h.jr hx hY
 have hv:=e0.gh (by rw [hr];simp) (by rw [hr];simp)
 rw [hg] at hv
 obtain ⟨_,_,pq⟩:=h.uC hk
 rw [nh] at pq
 obtain ⟨K1,he,_,hp⟩:=pq.resolve_left (by simp)
 cases he
 have hval:∃q cap,a.eval x = .slice q es.length cap:=by
  rw [hv.1]
  rcases hp with ⟨rfl,e0⟩ | ⟨g,cap,cur,e,fz,e0,_⟩
  ·exact ⟨_,_,e0⟩
  ·exact ⟨_,_,e0⟩
 obtain ⟨q,cap,hval⟩:=hval
 have dX:(execOp a.eval o).run C.P w = .ok (.value (.int .i64 es.length)) w:=by
  simp [execOp,ho,hval,resolve,invoke,builtin,Builtin.len_,run_underlying ht,goInt]
 exact h.gZ hd hl dX (.v _) hK
omit h hl in
theorem Rep.yg {R:Reach} {w:World} {i s o:Nat} {y:Value} (h:Rep R w (.el i s o) y):∃b,y = .pointer (some ⟨b,i * s+o,none⟩):=by
 cases h with
 | el _ _ _ b=>exact ⟨b,rfl⟩
theorem G8 (hd:o.dst=some d) (hl:d<C.nt) {x y:Operand} {r q:eB} {t e:TypeId} {inf:TypeInfo} {s s0:Nat} {es:List AV} {k:Nat} {ik:IntKind} {i:Int} (ho:o.op = .indexAddr t x y) (ht:C.P.underlying t=some (.slice e)) (hi:C.P.info? e=some inf) (hz:inf.size=s)
  (hx:dh x r=true) (hy:dh y q=true) (hY:small C.nt [x]=true) (pn:small C.nt [y]=true)
  (hr:r.ev C.E σ = .pt) (hg:r.gh γ = .gb k s0) (hk:γ (lk k) = .pv s) (nh:σ (lk k) = .sl s es) (hq:q.ev C.E σ = .v (.int ik i)) (h0:0≤i) (gM:i.toNat<es.length)
  (hK:∀D' a' w',dU C D' (dJ σ d (.el i.toNat s 0)) (dJ γ d (.pe k)) a' w'→K a' w'):o.wp C.P a w K Q:=by
 have e0:=h.jr hx hY
 have hv:=e0.gh (by rw [hr];simp) (by rw [hr];simp)
 rw [hg] at hv
 have e2:=(h.jr hy pn).rep (by rw [hq];simp)
 rw [hq] at e2
 obtain ⟨_,_,pq⟩:=h.uC hk
 rw [nh] at pq
 obtain ⟨K1,he,_,hp⟩:=pq.resolve_left (by simp)
 cases he
 rcases hp with ⟨rfl,_⟩ | ⟨g,cap,cur,e',fz,e1,_⟩
 ·simp at gM
 ·have hval:a.eval x = .slice (some ⟨g,0,none⟩) es.length cap:=hv.1.trans e1
  have dX:(execOp a.eval o).run C.P w = .ok (.value (.pointer (some ⟨g,i.toNat * s,none⟩))) w:=by
   simp [execOp,ho,hval,e2.ib,Instr.indexAt,asIntOf,run_underlying ht,run_sizeOf hi,hz,h0,gB]
   omega
  refine h.val (g := .pe k) hd hl dX (.inr ⟨.el _ _ 0 _,fun _=>⟨g,_,_,_,e1,rfl⟩⟩) rfl rfl ?_ hK
  show (γ (lk k)).fL=true
  rw [hk];rfl
theorem Ha (hd:o.dst=some d) (hl:d<C.nt) {x:Operand} {r:eB} {t:TypeId} {f k i s o' dd:Nat} {fs:Array Field} {fl:Field} {inf:TypeInfo} (ho:o.op = .fieldAddr t x f) (ht:C.P.underlying t=some (.struct fs)) (hf:fs[f]?=some fl) (wx:fl.offset=dd) (hi:C.P.info? fl.type=some inf) (hn:0<inf.size)
  (hx:dh x r=true) (hY:small C.nt [x]=true) (hr:r.ev C.E σ = .el i s o') (hg:r.gh γ = .pe k) (hK:∀D' a' w',dU C D' (dJ σ d (.el i s (o'+dd))) (dJ γ d (.pe k)) a' w'→K a' w'):o.wp C.P a w K Q:=by
 have e0:=h.jr hx hY
 have e1:=e0.rep (by rw [hr];simp)
 have hv:=e0.gh (by rw [hr];simp) (by rw [hr];simp)
 rw [hr] at e1
 rw [hg] at hv
 obtain ⟨b,hb⟩:=Rep.yg e1
 obtain ⟨g,n,cap,q,pO,mN⟩:=hv
 rw [hb] at mN
 cases mN
 have jQ:inf.size≠0:=by omega
 have dX:(execOp a.eval o).run C.P w = .ok (.value (.pointer (some ⟨b,i * s+(o'+dd),none⟩))) w:=by
  simp [execOp,ho,hb,Instr.fieldAt,Instr.sureAddr,run_underlying ht,hf,fieldPlace,run_sizeOf hi,jQ,gB,wx,Nat.add_assoc]
 have hm:=h.mB r
 rw [hg] at hm
 exact h.val (g := .pe k) hd hl dX (.inr ⟨.el _ _ _ _,fun _=>⟨_,_,_,_,pO,rfl⟩⟩) rfl rfl hm hK
omit hl in
theorem dU.K2 {x:Operand} {r:eB} {k i s o':Nat} {es:List AV} {e:AV} (hx:dh x r=true) (hY:small C.nt [x]=true) (hr:r.ev C.E σ = .el i s o') (hg:r.gh γ = .pe k) (hk:γ (lk k) = .pv s) (nh:σ (lk k) = .sl s es) (he:es[i]?=some e) :
  ∃g cap cur ce fz,D.τ (lk k) = .slice (some ⟨g,0,none⟩) es.length cap∧a.eval x = .pointer (some ⟨g,i * s+o',none⟩)∧w.heap[g]?=some (.cells cur ce fz)∧(∀o,o<cur.size→¬(fz.1≤o∧o<fz.2))∧cur.size=cap * s∧es.length≤cap ∧
   (∀e∈es,e.cells.length=s)∧eL D.R w (es.flatMap AV.cells) (cur.toList.take (es.length * s))∧cap≤maxLen∧(∀o,¬D.R g o):=by
 have e0:=h.jr hx hY
 have e1:=e0.rep (by rw [hr];simp)
 have hv:=e0.gh (by rw [hr];simp) (by rw [hr];simp)
 rw [hr] at e1
 rw [hg] at hv
 obtain ⟨b,hb⟩:=Rep.yg e1
 obtain ⟨g,n,cap,q,pO,mN⟩:=hv
 rw [hb] at mN
 cases mN
 obtain ⟨ht,Aa,pq⟩:=h.uC hk
 rw [nh] at pq
 obtain ⟨K1,Rg,tX,hp⟩:=pq.resolve_left (by simp)
 cases Rg
 rcases hp with ⟨rfl,_⟩ | ⟨g',ym,cur,ce,fz,e2,hh,hL⟩
 ·simp at he
 ·rw [pO] at e2
  cases e2
  rcases ht with e3 | ⟨g',n',ym,mX,Tr,LW,e3,h1,h2,h3,h4,h5,h6⟩
  ·rw [pO] at e3;cases e3
  ·rw [pO] at e3
   cases e3
   rw [hh] at h1
   cases h1
   exact ⟨b,cap,cur,ce,fz,pO,hb,hh,h2,h3,h4,tX,hL,h5,Aa b (by rw [pO];rfl)⟩
theorem G7 (hd:o.dst=some d) (hl:d<C.nt) {x:Operand} {r:eB} {t:TypeId} {inf:TypeInfo} {k i s o' n:Nat} {agg:Bool} {es:List AV} {e y:AV} (ho:o.op = .load t x) (hi:C.P.info? t=some inf) (hz:inf.size=n) (ha:kO C.P t=some agg) (h1:agg=true∨n=1)
  (hx:dh x r=true) (hY:small C.nt [x]=true) (hr:r.ev C.E σ = .el i s o') (hg:r.gh γ = .pe k) (hk:γ (lk k) = .pv s) (nh:σ (lk k) = .sl s es) (he:es[i]?=some e) (hp:pa e o' n agg=some y)
  (hK:∀D' a' w',dU C D' (dJ σ d y) (dJ γ d .no) a' w'→K a' w'):o.wp C.P a w K Q:=by
 obtain ⟨g,cap,cur,ce,fz,_,hv,hh,_,rn,hle,tX,hL,_⟩:=h.K2 hx hY hr hg hk nh he
 have gM:=(aC.1 he).1
 have Ru:eL D.R w e.cells (((cur.toList.take (es.length * s)).drop (i * s)).take s):=by
  have:=(hL.drop (i * s)).take s
  rwa [wU tX he] at this
 obtain ⟨hlen,kk⟩:=mw Ru (uH hp) h1
 have hc:∀j y,(((((cur.toList.take (es.length * s)).drop (i * s)).take s).drop o').take n)[j]?=some y→w.cell? ⟨g,i * s+o'+j,none⟩=some y:=by
  intro j y hj
  simp only [World.cell?,hh]
  rw [aR] at hj
  split at hj
  ·rw [List.getElem?_drop,aR] at hj
   split at hj
   ·rw [List.getElem?_drop,aR] at hj
    split at hj
    ·rw [show i * s+o'+j=i * s+(o'+j) by omega];simpa using hj
    ·cases hj
   ·cases hj
  ·cases hj
 have dX:=kG (P:=C.P) hi ha (hz ▸ h1) (hlen.trans hz.symm) hc
 refine h.gZ hd hl (?_:(execOp a.eval o).run C.P w = .ok (.value _) w) kk hK
 simp only [execOp,ho,hv,Instr.loadAt,Instr.sureAddr,Sem.run_bind,Sem.run_pure,Result.andThen_ok,dX]
omit hl in
theorem G3 {x v:Operand} {r q:eB} {t:TypeId} {inf:TypeInfo} {k i s o' n:Nat} {es:List AV} {e e':AV} (hd:o.dst=none) (ho:o.op = .store t x v) (hi:C.P.info? t=some inf) (hz:inf.size=n)
  (hx:dh x r=true) (hY:small C.nt [x]=true) (hv:dh v q=true) (pn:small C.nt [v]=true) (hr:r.ev C.E σ = .el i s o') (hg:r.gh γ = .pe k) (hk:γ (lk k) = .pv s) (nh:σ (lk k) = .sl s es) (he:es[i]?=some e)
  (hp:(q.ev C.E σ).plain=true) (hn:(q.ev C.E σ).cells.length=n) (Lz:sf e o' (q.ev C.E σ)=some e')
  (hK:∀D' a' w',dU C D' (dJ σ (lk k) (.sl s (es.set i e'))) (dJ γ (lk k) (.pv s)) a' w'→K a' w'):o.wp C.P a w K Q:=by
 obtain ⟨g,cap,cur,ce,fz,pO,Qz,hh,hfz,rn,hle,tX,hL,zb,pQ⟩:=h.K2 hx hY hr hg hk nh he
 have gM:=(aC.1 he).1
 have q0:=h.jr hv pn
 have Ly:q.ev C.E σ ≠ .dead:=by intro e;rw [e] at hp;cases hp
 have OC:=mm (q0.rep Ly) hp
 have hlen:=OC.length
 obtain ⟨CP,Ow⟩:=vP Lz
 have Ag:=tX e (bc he)
 have Ew:(a.eval v).cells.toList.length=n:=hlen.symm.trans hn
 have LD:(a.eval v).cells.size=n:=by simpa using Ew
 have EN:(i+1) * s≤es.length * s:=bu _ gM
 have Pv:es.length * s≤cap * s:=bu _ hle
 rw [Nat.succ_mul] at EN
 have vu:=jq (P:=C.P) g (i * s+o') ce fz (a.eval v).cells.toList 0 cur w hh (by rw [Ew];omega) hfz OC.one
 simp only [Nat.add_zero] at vu
 let new:Array Value:=(cur.toList.take (i * s+o')++(a.eval v).cells.toList++cur.toList.drop (i * s+o'+(a.eval v).cells.toList.length)).toArray
 have dX:(execOp a.eval o).run C.P w = .ok .skip (w.setRow g new):=by
  have:¬((a.eval v).cells.size≠n):=by omega
  simp only [execOp,ho,Qz,Instr.storeAt,Instr.sureAddr,Sem.run_bind,Sem.run_pure,Result.andThen_ok,storeVar,run_sizeOf hi,hz,Sem.run_ite,this,if_false,vu]
  rfl
 have y9:=setRow_heap w g cur new ce fz hh
 have N8:new.size=cur.size:=by simp [new];omega
 have cd:gF D.R w D.R (w.setRow g new):=fun b o hr=>⟨hr,cell_setRow_other w g _ ⟨b,o,none⟩ (fun e=>pQ o (by have:b=g:=e;rw [←this];exact hr))⟩
 have EC:(D.τ (lk k)).ownBlock=some g:=by rw [pO];rfl
 have Ot:∀y∈es.set i e',y.cells.length=s:=fun y hy=>by
  rcases List.mem_or_eq_of_mem_set hy with hy | rfl
  ·exact tX y hy
  ·rw [CP];simp [gR];omega
 have hS:=h.II hk EC (w':=w.setRow g new) rfl rfl rfl (by simp) (fun b hb=>setRow_other w g b _ hb) (x := .sl s (es.set i e'))
  (.inr ⟨g,es.length,cap,new,ce,fz,pO,y9,fun o ho=>hfz o (by omega),N8.trans rn,hle,zb,fun o _=>pQ o⟩)
  ⟨fun g' mN o=>by rw [EC] at mN;cases mN;exact pQ o,.inr ⟨_,rfl,Ot,.inr ⟨g,cap,new,ce,fz,by rw [List.length_set];exact pO,y9,by
   rw [List.length_set,wS tX he CP (by omega)]
   have EE:new.toList.take (es.length * s)=(cur.toList.take (es.length * s)).take (i * s+o')++(a.eval v).cells.toList++(cur.toList.take (es.length * s)).drop (i * s+o'+(a.eval v).cells.toList.length):=by
    have jD:cur.toList.length=cap * s:=by simpa using rn
    apply List.ext_getElem?
    intro j
    simp only [new,aR,List.getElem?_append,aw,bo,List.getElem?_drop,Ew,jD]
    have e1:min (i * s+o') (cap * s)=i * s+o':=by omega
    have e2:min (i * s+o') (min (es.length * s) (cap * s))=i * s+o':=by omega
    simp only [e1,e2]
    by_cases c1:j<es.length * s
    ·by_cases c2:j<i * s+o'
     ·simp [c1,c2,show j<i * s+o'+n by omega]
     ·by_cases c3:j<i * s+o'+n
      ·simp [c1,c2,c3]
      ·simp [c1,c2,c3,show i * s+o'+n+(j - (i * s+o'+n))<es.length * s by omega]
    ·have c2:¬j<i * s+o':=by omega
     have c3:¬j<i * s+o'+n:=by omega
     simp [c1,c3,show ¬i * s+o'+n+(j - (i * s+o'+n))<es.length * s by omega]
   rw [EE]
   simp only [gR,hlen]
   exact (((hL.take _).append OC).append (hL.drop _)).mono cd⟩⟩⟩
 have HY:dJ γ (lk k) (.pv s)=γ:=by
  funext j
  by_cases e:j=lk k
  ·subst e;rw [bI,hk]
  ·rw [bO _ _ e]
 unfold Oper.wp
 rw [dX,Oper.upon_skip,hd]
 rw [HY] at hK
 exact hK _ _ _ (by simpa [Act.put] using hS)
end
end Go.Eng
namespace Go.Eng
open Go.RowKit
section
variable {C:Ctx} {sg:Nat→dq}
theorem JD {k:Nat}:dY C sg (.Fw k):=by
 intro D σ γ a w dst op ty pos after guard rs ds gd ws gs K' Q h ho hk fg hs hg hK
 simp only [dM,ae] at hk
 obtain ⟨⟨lY,gK⟩,js⟩:=hk
 obtain ⟨d,rfl,hl,rfl⟩:=gE js
 simp only [gq] at ho
 split at ho
 ·rename_i s u x r rest _ _
  simp only [ae] at ho
  obtain ⟨⟨ht,hu⟩,ho⟩:=ho
  obtain ⟨e,J7,J6⟩:=kF hu
  simp at lY
  obtain ⟨q,rfl⟩:=len1 lY
  cases q <;> simp at gK
  subst gK
  simp only [ak,au,gf] at hs
  simp only [ak,au,fu] at hg
  split at hs
  ·rename_i b y heq
   simp only [ar,and_true] at heq
   obtain ⟨hb,rfl⟩:=hs
   split at hg
   ·rename_i g fC
    simp only [ar,and_true,eB.gh] at fC
    cases hg
    exact G4 h rfl hl rfl (gX ht) J7 J6 ho (bQ fg (by simp [Op.operands])) heq.1 hb fC.2 hK
   ·cases hg
  ·cases hs
 ·cases ho
theorem JJ {k s:Nat}:dY C sg (.FB k s):=by
 intro D σ γ a w dst op ty pos after guard rs ds gd ws gs K' Q h ho hk fg hs hg hK
 simp only [dM,ae] at hk
 obtain ⟨⟨h9,lY,gK⟩,js⟩:=hk
 simp only [aB] at h9
 have main:∀{x:Operand} {r q:eB},(op = .move x∨op = .assign x)→rs=[r,q]→dh x r=true→(⟨dst,op,ty,pos,after,guard⟩:Oper).wp C.P a w K' Q:=by
  intro x r q N6 sC hx
  subst sC
  cases q <;> simp at gK
  subst gK
  cases r with
  | s j =>
   simp only [ae,aB] at js
   obtain ⟨hj,js⟩:=js
   obtain ⟨d,rfl,hl,rfl⟩:=gE js
   simp only [ak,au,gf] at hs
   simp only [ak,au,fu] at hg
   split at hs
   ·rename_i s' es heq
    simp only [ar,and_true,eB.ev] at heq
    obtain ⟨rfl,rfl⟩:=hs
    split at hg
    ·rename_i k' s0 s1 fC
     simp only [ar,and_true,eB.gh] at fC
     split at hg
     ·rename_i hc
      obtain ⟨rfl,rfl⟩:=hc
      cases hg
      exact G9 h h9 rfl hl N6 hx hj heq.1 fC.1 fC.2 heq.2 hK
     ·cases hg
    ·cases hg
   ·cases hs
  | c x=>simp at js
  | g n=>simp at js
 simp only [gq] at ho
 split at ho
 ·exact main (.inl rfl) rfl ho
 ·exact main (.inr rfl) rfl ho
 ·cases ho
theorem JG {k:Nat}:dY C sg (.Fy k):=by
 intro D σ γ a w dst op ty pos after guard rs ds gd ws gs K' Q h ho hk fg hs hg hK
 simp only [dM,ae] at hk
 obtain ⟨⟨lY,gK⟩,js⟩:=hk
 obtain ⟨d,rfl,hl,rfl⟩:=gE (l:=[]) js
 simp only [gq] at ho
 split at ho
 ·rename_i args rN r rest
  simp only [ae,beq_iff_eq] at ho
  obtain ⟨⟨h1,h2⟩,ho⟩:=ho
  simp at lY
  obtain ⟨q,rfl⟩:=len1 lY
  cases q <;> simp at gK
  subst gK
  obtain ⟨t,ht⟩:=len1 h1
  rw [ht] at h2
  simp only [List.all_cons,List.all_nil,Bool.and_true] at h2
  obtain ⟨x,pk⟩:=len1 (iM ho)
  rw [pk] at ho
  obtain ⟨r',e,hx⟩:=mz ho
  cases e
  have ea:=AF pk
  have et:=AF ht
  subst ea;subst et
  obtain ⟨e,he⟩:=Option.isSome_iff_exists.1 h2
  simp only [ak,au,gf] at hs
  simp only [ak,au,fu] at hg
  split at hs
  ·rename_i s' es heq
   simp only [ar,and_true,eB.ev] at heq
   subst hs
   split at hg
   ·rename_i k' s0 s1 fC
    simp only [ar,and_true,eB.gh] at fC
    split at hg
    ·rename_i hc
     subst hc
     cases hg
     exact G6 h rfl hl rfl (iA he) hx (bQ fg (by simp [Op.operands,Call.operands])) heq.1 fC.1 fC.2 heq.2 hK
    ·cases hg
   ·cases hg
  ·cases hs
 ·cases ho
theorem JI {k s:Nat}:dY C sg (.FA k s):=by
 intro D σ γ a w dst op ty pos after guard rs ds gd ws gs K' Q h ho hk fg hs hg hK
 simp only [dM,ae] at hk
 obtain ⟨⟨lY,gK⟩,js⟩:=hk
 obtain ⟨d,rfl,hl,rfl⟩:=gE (l:=[]) js
 simp only [gq] at ho
 split at ho
 ·rename_i t x y r q z
  simp only [ae] at ho
  obtain ⟨ht,ho⟩:=ho
  obtain ⟨e,inf,h1,h2,h3,h4⟩:=lM ht
  obtain ⟨r',q',e',hx,hy⟩:=jY ho
  cases e'
  cases z <;> simp at gK
  subst gK
  simp only [ak,au,gf] at hs
  simp only [ak,au,fu] at hg
  split at hs
  ·rename_i ik i s' es heq
   simp only [ar,and_true,eB.ev] at heq
   obtain ⟨rfl,h0,gM,rfl⟩:=hs
   split at hg
   ·rename_i k' s0 g0 s1 fC
    simp only [ar,and_true,eB.gh] at fC
    split at hg
    ·rename_i hc
     obtain ⟨rfl,rfl⟩:=hc
     cases hg
     exact G8 h rfl hl rfl h1 h2 h3 hx hy (bQ fg (by simp [Op.operands])) (bQ fg (by simp [Op.operands])) heq.1 fC.1 fC.2.2 heq.2.2 heq.2.1 h0 gM hK
    ·cases hg
   ·cases hg
  ·cases hs
 ·cases ho
theorem JK {k dd:Nat}:dY C sg (.GQ k dd):=by
 intro D σ γ a w dst op ty pos after guard rs ds gd ws gs K' Q h ho hk fg hs hg hK
 obtain ⟨d,rfl,hl,rfl⟩:=gE (l:=[]) hk
 simp only [gq] at ho
 split at ho
 ·rename_i t x f r
  simp only [ae] at ho
  obtain ⟨ht,hx⟩:=ho
  cases hf:lX C.P t f with
  | none=>simp [hf] at ht
  | some fl =>
   simp only [hf,Option.any_some,ae,beq_iff_eq] at ht
   obtain ⟨h0,ht⟩:=ht
   cases hz:iW C.P fl.type with
   | none=>simp [hz] at ht
   | some n =>
    simp [hz] at ht
    obtain ⟨inf,h1,h2⟩:=iv hz
    obtain ⟨fs,hu,qY⟩:=lI hf
    simp only [ak,au,gf] at hs
    split at hs
    ·rename_i i s o' heq
     simp only [ar,and_true] at heq
     subst hs
     simp only [ak,au,fu] at hg
     split at hg
     ·rename_i k' fC
      simp only [ar,and_true] at fC
      split at hg
      ·rename_i hc
       subst hc
       cases hg
       exact Ha h rfl hl rfl hu qY h0 h1 (by omega) hx (bQ fg (by simp [Op.operands])) heq fC hK
      ·cases hg
     ·cases hg
    ·cases hs
 ·cases ho
theorem JH {k s n:Nat} {agg:Bool}:dY C sg (.Fz k s n agg):=by
 intro D σ γ a w dst op ty pos after guard rs ds gd ws gs K' Q h ho hk fg hs hg hK
 simp only [dM,ae] at hk
 obtain ⟨⟨lY,gK⟩,js⟩:=hk
 obtain ⟨d,rfl,hl,rfl⟩:=gE (l:=[]) js
 simp only [gq] at ho
 split at ho
 ·rename_i t x r rest
  simp at lY
  obtain ⟨q,rfl⟩:=len1 lY
  cases q <;> simp at gK
  subst gK
  simp only [ae] at ho
  obtain ⟨ht,ho⟩:=ho
  obtain ⟨inf,h1,h2,h3,h4⟩:=iK ht
  simp only [ak,au,gf] at hs
  split at hs
  ·rename_i i s' o' o0 es heq
   simp only [ar,and_true,eB.ev] at heq
   obtain ⟨e,y,rfl,rfl,he,hp,rfl⟩:=hs
   simp only [ak,au,fu] at hg
   split at hg
   ·rename_i k' s1 fC
    simp only [ar,and_true,eB.gh] at fC
    split at hg
    ·rename_i hc
     obtain ⟨rfl,rfl⟩:=hc
     cases hg
     exact G7 h rfl hl rfl h1 h2 h3 h4 ho (bQ fg (by simp [Op.operands])) heq.1 fC.1 fC.2 heq.2 he hp hK
    ·cases hg
   ·cases hg
  ·cases hs
 ·cases ho
theorem JC {k s n:Nat}:dY C sg (.Fv k s n):=by
 intro D σ γ a w dst op ty pos after guard rs ds gd ws gs K' Q h ho hk fg hs hg hK
 simp only [dM,ae,beq_iff_eq,Option.isNone_iff_eq_none] at hk
 obtain ⟨⟨rfl,rfl⟩,gK⟩:=hk
 simp only [gq] at ho
 split at ho
 ·rename_i t x v p q r
  simp only [ae,beq_iff_eq] at ho
  obtain ⟨⟨ht,hx⟩,hv⟩:=ho
  obtain ⟨inf,h1,h2⟩:=iv ht
  cases q with
  | s j =>
   simp at gK
   subst gK
   simp only [ak,au,gf] at hs
   split at hs
   ·rename_i i s' o' o0 es y heq
    simp only [ar,and_true,eB.ev] at heq
    obtain ⟨e1,e2,e3⟩:=heq
    obtain ⟨e,e',rfl,rfl,he,p1,p2,p3,rfl⟩:=hs
    subst e3
    simp only [ak,au,fu] at hg
    split at hg
    ·rename_i k' s1 g fC
     simp only [ar,and_true,eB.gh] at fC
     split at hg
     ·rename_i hc
      obtain ⟨rfl,rfl⟩:=hc
      cases hg
      exact G3 h rfl rfl h1 h2 hx (bQ fg (by simp [Op.operands])) hv (bQ fg (by simp [Op.operands])) e1 fC.1 fC.2.1 e2 he p1 p2 p3 hK
     ·cases hg
    ·cases hg
   ·cases hs
  | c x=>simp at gK
  | g n=>simp at gK
 ·cases ho
end
end Go.Eng
namespace Go.Eng
open Go.RowKit
section
variable {C:Ctx} {D:kV} {σ:Sg} {γ:Ga} {a:Act} {w:World}
theorem dU.K8 (h : dU C D σ γ a w) {k s : Nat} {es : List AV} (hk : γ (lk k) = .pv s ∨ γ (lk k) = .pc s) (nh : σ (lk k) = .sl s es) {R' : Reach} {w' : World} (he : Ext w D.R (fun c => (D.τ (lk k)).ownBlock = some c) w' R')
    (gM : ∀ b o, R' b o → b < w'.heap.size) (ht : gG R' w' (D.τ (lk k)) s) (hp : hZ R' w' (D.τ (lk k)) s (.sl s es)) : dU C { D with R := R' } σ γ a w' := by
  have Kw : (γ (lk k)).sB = true := by rcases hk with e | e <;> rw [e] <;> rfl
  have Ks : (γ (lk k)).par = none := by rcases hk with e | e <;> rw [e] <;> rfl
  have Kq : (γ (lk k)).By = some s := by rcases hk with e | e <;> rw [e] <;> rfl
  have qz : gC D γ (lk k) = (D.τ (lk k)).ownBlock := iq Kw
  -- Fj Lp block is Fj one, but a IZ
  have qx : ∀ key g, key ≠ lk k → (γ key).par ≠ some (lk k) → gC D γ key = some g → (D.τ (lk k)).ownBlock ≠ some g := by
    intro key g h1 h2 h3 h4
    rcases h.sep key (lk k) g h3 (qz.trans h4) with e | e | e
    · exact h1 e
    · exact h2 e
    · rw [Ks] at e; cases e
  have CL : ∀ key g, key ≠ lk k → (γ key).par ≠ some (lk k) → gC D γ key = some g → w'.heap[g]? = w.heap[g]? ∧ ∀ o, R' g o → D.R g o := by
    intro key g h1 h2 h3
    have jQ := qx key g h1 h2 h3
    refine ⟨he.heap g (h.lt h3) jQ, fun o hr => ?_⟩
    rcases he.qn g o hr with e | e | e
    · exact e
    · have := h.lt h3; omega
    · exact (jQ e).elim
  refine ⟨h.size, h.defers, h.kj, h.nr, h.lS, fun t uZ => ?_, fun m ts hm => ?_, fun key s' km => ?_, fun key s' hs => ?_, h.sep, h.own, h.inv, ?_, gM, fun n => (h.gl n).mono he.cd, h.fix⟩
  · exact (h.slot t uZ).imp id fun ⟨r, g⟩ => ⟨r.mono he.cd, fun hs => by have g := g hs; cases hg : γ t <;> rw [hg] at g <;> exact g⟩
  · obtain ⟨cs, hv, oD⟩ := h.mem m ts hm
    have h1 : m ≠ lk k := fun e => by subst e; rw [hm] at Kw; cases Kw
    obtain ⟨q1, q2⟩ := CL m (D.β m) h1 (by rw [hm]; simp [Gh.par]) (iI hm)
    exact ⟨cs, hv.cd he.cd q1 (fun o hr => hv.BY o (q2 o hr)), oD⟩
  · have h1 : key ≠ lk k := fun e => by subst e; rw [km] at Kw; cases Kw
    exact (h.gb key s' km).cd fun g hg => CL key g h1 (by rw [km]; simp [Gh.par]) ((iH km).trans hg)
  · by_cases e : key = lk k
    · subst e
      rw [Kq] at hs
      cases hs
      rw [nh]
      exact ⟨ht, hp, (h.ps _ _ Kq).2.2⟩
    · obtain ⟨h1, h2, h3⟩ := h.ps key s' hs
      refine ⟨?_, ?_, h3⟩
      all_goals
        by_cases Hw : ∃ g, (D.τ key).ownBlock = some g ∧ (D.τ (lk k)).ownBlock = some g
        all_goals try exact (h1.cd fun g hg => ⟨he.heap g (h1.lt hg) (fun e' => Hw ⟨g, hg, e'⟩), fun o hr => (he.qn g o hr).elim id fun e' => e'.elim (fun e' => absurd (h1.lt hg) (by omega)) fun e' => (Hw ⟨g, hg, e'⟩).elim⟩)
        all_goals try exact (h2.cd he.cd fun g hg => ⟨he.heap g (h1.lt hg) (fun e' => Hw ⟨g, hg, e'⟩), fun o hr => (he.qn g o hr).elim id fun e' => e'.elim (fun e' => absurd (h1.lt hg) (by omega)) fun e' => (Hw ⟨g, hg, e'⟩).elim⟩)
        obtain ⟨g, hg1, hg2⟩ := Hw
        have po : (γ key).par = some (lk k) := by
          by_cases po : (γ key).par = some (lk k)
          · exact po
          · exact (qx key g e po ((iq (Gh.pI hs)).trans hg1) hg2).elim
        have J9 : γ key = .nC (lk k) s' := by
          cases hg : γ key <;> rw [hg] at po hs <;> simp [Gh.par, Gh.By] at po hs
          rw [po, hs]
        have QU : γ (lk k) = .pc s := by
          have := h.inv key
          rw [J9] at this
          rcases hk with e' | e'
          · rcases this with OR | ⟨_, OR⟩ <;> rw [e'] at OR <;> cases OR
          · exact e'
        -- the child, ahead and behind
        obtain ⟨ct, cp, _⟩ := h.ps _ _ Kq
        rcases ct with e1 | ⟨gc, nc, RP, RI, ec, Th, e1, c1, c2, c3, c4, c5, c6⟩
        · rw [e1] at hg2; cases hg2
        have RE : gc = g := by rw [e1] at hg2; simpa [Value.ownBlock] using hg2
        subst RE
        rcases ht with e2 | ⟨Tf, SV, PJ, Ge, PE, KY, e2, d1, d2, d3, d4, d5, d6⟩
        · rw [e1] at e2; cases e2
        rw [e1] at e2
        cases e2
        rcases h1 with e3 | ⟨gp, np, K7, RH, ep, Tg, e3, p1, p2, p3, p4, p5, p6⟩
        · rw [e3] at hg1; cases hg1
        have RD : gp = gc := by rw [e3] at hg1; simpa [Value.ownBlock] using hg1
        subst RD
        rw [c1] at p1
        cases p1
        first
        | exact .inr ⟨gp, np, K7, Ge, PE, KY, e3, d1, d2, (d3.trans c3.symm).trans p3, p4, p5, fun o _ => hp.1 gp hg2 o⟩
        | refine ⟨fun g' mN o => by rw [hg1] at mN; cases mN; exact hp.1 gp hg2 o, ?_⟩
          rcases h3 _ _ _ J9 QU with e4 | e4 | ⟨ON, more, e4, e5⟩
          · exact .inl e4
          · rw [nh] at e4; cases e4
          · right
            rw [nh] at e5
            cases e5
            rcases h2.2 with e6 | ⟨Tm, e6, h7, h8⟩
            · rw [e4] at e6; cases e6
            rw [e4] at e6
            cases e6
            refine ⟨ON, e4, h7, ?_⟩
            rcases h8 with ⟨_, e8⟩ | ⟨g8, RR, RK, To, Tj, e8, _, _⟩
            · rw [e3] at e8; cases e8
            rw [e3] at e8
            cases e8
            refine .inr ⟨gp, K7, Ge, PE, KY, by rw [e3], d1, ?_⟩
            obtain ⟨Tl, e9, _, h9⟩ := hp.2.resolve_left (by simp)
            cases e9
            rcases h9 with ⟨_, th⟩ | ⟨g9, RQ, RJ, Tn, Ti, th, q1, q2⟩
            · rw [e1] at th; cases th
            rw [e1] at th
            cases th
            rw [d1] at q1
            cases q1
            have Po := zd (s := s) (es := ON) h7
            have := q2.take (ON.length * s)
            rw [List.flatMap_append, List.take_append_of_le_length (by omega), List.take_of_length_le (by omega), List.take_take, aw, Nat.add_mul] at this
            rwa [Nat.min_eq_left (by omega)] at this
  · exact h.ext.trans he fun b hb => h.own (lk k) b (qz.trans hb)
theorem BH {l:List Operand} {rs:List eB} {i:Nat} (h:dU C D σ γ a w) (hx:dk l rs=true) (hs:small C.nt l=true) {x:AV} (he:(rs.map (eB.ev C.E σ))[i]?=some x) (hd:x ≠ .dead) (hk:x ≠ .sk) :
  ∃v,(l.map a.eval)[i]?=some v∧Rep D.R w x v∧∀g,(rs.map (eB.gh γ))[i]?=some g→jR D g v:=by
 induction l generalizing rs i with
 | nil=>cases rs with
  | nil=>simp at he
  | cons=>simp [dk] at hx
 | cons y l ih =>
  cases rs with
  | nil=>simp [dk] at hx
  | cons q qs =>
   simp [dk] at hx
   have s1:small C.nt [y]=true:=by simp [small] at hs ⊢;exact hs.1
   have s2:small C.nt l=true:=by simp only [small,List.all_cons,ae] at hs;exact hs.2
   cases i with
   | zero =>
    simp at he
    have h0:=h.jr hx.1 s1
    refine ⟨a.eval y,rfl,he ▸ h0.rep (by rw [he];exact hd),fun g hg=>?_⟩
    simp at hg
    exact hg ▸ h0.gh (by rw [he];exact hd) (by rw [he];exact hk)
   | succ i=>simpa using ih hx.2 s2 (by simpa using he)
variable {o:Oper} {d:Nat} {K:Act→World→Prop} {Q:Exit→Act→World→Prop} (h:dU C D σ γ a w)
include h
omit h in
theorem dU.xF {D':kV} {w':World} (hS:dU C D' σ γ a w') (hl:d<C.nt) {n:Nat} {ki:List Value} {outs:List AV} {x:Value} (h1:ki.length=n) (h2:x=(if n=1 then ki.headD undef else .tuple ⟨ki⟩)) (h3:gP D'.R w' outs ki) (tW:outs.length=n) :
  dU C D' (dJ σ d (if n=1 then outs.headD .dead else .tu outs)) (dJ γ d .no) (a.put (some d) x) w':=by
 refine hS.put hl (.plain ?_) rfl rfl trivial
 by_cases e:n=1
 ·rw [ao e] at h2 ⊢
  subst h2
  rw [e] at h1
  match ki,h1 with
  | [y],_=>cases h3 with
   | cons h1 _=>exact h1
 ·rw [ah e] at h2 ⊢
  subst h2
  exact .tu h3
theorem BL (hd:o.dst=some d) (hl:d<C.nt) {f n i k s:Nat} {args:Array Operand} {ts:Array TypeId} {rs:List eB} {es:List AV} {outs:List AV} (ho:o.op = .call { callee := .value (.func f),args,argTypes:=ts }) (hp:jB C.P f=true)
  {S:FS} (hS:fH C.P C.E.gl f S) (lD:S.sg.ps=some (i,s)) (hn:S.sg.cS=n) (hx:dk args.toList rs=true) (fg:small C.nt args.toList=true)
  (AS:(rs.map (eB.ev C.E σ))[i]?=some .pt) (HK:(rs.map (eB.gh γ))[i]?=some (.gb k s)) (hk:γ (lk k) = .pv s∨γ (lk k) = .pc s) (nh:σ (lk k) = .sl s es)
  (hG:S.G ((rs.map (eB.ev C.E σ)).set i (.sl s es)) outs) (tW:outs.length=n)
  (hK:∀D' a' w',dU C D' (dJ σ d (if n=1 then outs.headD .dead else .tu outs)) (dJ γ d .no) a' w'→K a' w'):o.wp C.P a w K Q:=by
 have Kq:(γ (lk k)).By=some s:=by rcases hk with e | e <;> rw [e] <;> rfl
 obtain ⟨ht,DE,_⟩:=h.ps _ _ Kq
 obtain ⟨v,hv1,_,hv2⟩:=BH h hx fg AS (by simp) (by simp)
 have z7:=(hv2 _ HK).1
 subst z7
 have hT:=h.vS hx fg
 have HJ:=(aC.1 AS).1
 have Ex:((rs.map (eB.ev C.E σ)).set i (.sl s es)).set i .pt=rs.map (eB.ev C.E σ):=by rw [List.set_set,yC AS]
 unfold Oper.wp
 rw [pZ ho hp,Oper.upon_enter]
 have:=hS.2 i s lD w D.R _ outs (args.toList.map a.eval) _ es hG h.ns h.gl hv1 (List.getElem?_set_self HJ) ht (nh ▸ DE) (by rw [Ex];exact hT)
 have e:(⟨args.toList.map a.eval⟩:Array Value)=args.map a.eval:=by apply Array.ext';simp
 rw [e] at this
 refine this.mono ?_
 rintro e w' ⟨x,R',ki,rfl,h1,h2,h3,h4,h5,h6,h7⟩
 simp only
 rw [hd]
 exact hK _ _ _ (dU.xF (h.K8 hk nh h1 h2 h6 h7) hl (h3.trans hn) (by rw [←hn];exact h4) h5 tW)
theorem BK (hd:o.dst=some d) (hl:d<C.nt) {f n i s:Nat} {args:Array Operand} {ts:Array TypeId} {rs:List eB} {outs:List AV} (ho:o.op = .call { callee := .value (.func f),args,argTypes:=ts }) (hp:jB C.P f=true)
  {S:FS} (hS:fH C.P C.E.gl f S) (lD:S.sg.ps=some (i,s)) (hn:S.sg.cS=n) (hx:dk args.toList rs=true) (fg:small C.nt args.toList=true)
  (hi:args.toList[i]?=some (.const (.slice none 0 0))) (hv:(rs.map (eB.ev C.E σ))[i]?=some (.sl s [])) (hG:S.G (rs.map (eB.ev C.E σ)) outs) (tW:outs.length=n)
  (hK:∀D' a' w',dU C D' (dJ σ d (if n=1 then outs.headD .dead else .tu outs)) (dJ γ d .no) a' w'→K a' w'):o.wp C.P a w K Q:=by
 have hT:=h.vS hx fg
 have hv1:(args.toList.map a.eval)[i]?=some (.slice none 0 0):=by rw [aL,hi];rfl
 have KN:gP D.R w ((rs.map (eB.ev C.E σ)).set i .pt) (args.toList.map a.eval):=by
  have:∀{l:List AV} {ys:List Value} {i:Nat},gP D.R w l ys→gP D.R w (l.set i .pt) ys:=by
   intro l ys i hr
   induction i generalizing l ys with
   | zero=>cases hr with
    | nil=>exact .nil
    | cons a b=>exact .cons (.pt _) b
   | succ i ih=>cases hr with
    | nil=>exact .nil
    | cons a b=>exact .cons a (ih b)
  exact this hT
 unfold Oper.wp
 rw [pZ ho hp,Oper.upon_enter]
 have:=hS.2 i s lD w D.R _ outs (args.toList.map a.eval) _ [] hG h.ns h.gl hv1 hv (.inl rfl) ⟨by simp [Value.ownBlock],.inr ⟨[],rfl,by simp,.inl ⟨rfl,rfl⟩⟩⟩ KN
 have e:(⟨args.toList.map a.eval⟩:Array Value)=args.map a.eval:=by apply Array.ext';simp
 rw [e] at this
 refine this.mono ?_
 rintro e w' ⟨x,R',ki,rfl,h1,h2,h3,h4,h5,h6,h7⟩
 simp only
 rw [hd]
 have Kc:=h.xn (w':=w') (R':=R') (by
  have:(fun c=>(Value.slice none 0 0).ownBlock=some c)=fun _=>False:=by funext c;simp [Value.ownBlock]
  rwa [this] at h1) h2
 exact hK _ _ _ (dU.xF Kc hl (h3.trans hn) (by rw [←hn];exact h4) h5 tW)
theorem BJ (hd:o.dst=some d) (hl:d<C.nt) {x:Operand} {r:eB} {t e y:TypeId} {k s s0:Nat} {es:List AV} (ho:o.op = .binOp .eql t x (.const (.slice none 0 0)) y) (ht:C.P.underlying t=some (.slice e)) (hx:dh x r=true) (hY:small C.nt [x]=true)
  (hr:r.ev C.E σ = .pt) (hg:r.gh γ = .gb k s0) {s1:Nat} (hk:γ (lk k) = .pv s) (nh:σ (lk k) = .sl s1 es) (hK:∀D' a' w',dU C D' (dJ σ d (match es with | [] => .ab | _ :: _ => .v (.bool false))) (dJ γ d .no) a' w'→K a' w'):o.wp C.P a w K Q:=by
 have e0:=h.jr hx hY
 have hv:=e0.gh (by rw [hr];simp) (by rw [hr];simp)
 rw [hg] at hv
 obtain ⟨_,_,pq⟩:=h.uC hk
 rw [nh] at pq
 obtain ⟨K1,he,_,hp⟩:=pq.resolve_left (by simp)
 cases he
 have hc:a.eval (.const (.slice none 0 0)) = .slice none 0 0:=rfl
 rcases hp with ⟨rfl,e1⟩ | ⟨g,cap,cur,ce,fz,e1,_⟩
 ·have hval:a.eval x = .slice none 0 0:=hv.1.trans e1
  have dX:(execOp a.eval o).run C.P w = .ok (.value (.bool true)) w:=by
   simp only [execOp,ho,hval,hc,eqGuard,Sem.run_bind,Sem.run_pure,Sem.run_ite,Result.andThen_ok]
   simp only [aV,bk,if_false,Sem.run_pure,Result.andThen_ok]
   rw [Lib.run_eql_slice_nil w t e _ _ _ _ _ ht]
   rfl
  exact h.gZ hd hl dX (.ab _) hK
 ·have hval:a.eval x = .slice (some ⟨g,0,none⟩) es.length cap:=hv.1.trans e1
  have dX:(execOp a.eval o).run C.P w = .ok (.value (.bool false)) w:=by
   simp only [execOp,ho,hval,hc,eqGuard,Sem.run_bind,Sem.run_pure,Sem.run_ite,Result.andThen_ok]
   simp only [aV,bk,if_false,Sem.run_pure,Result.andThen_ok]
   rw [Lib.run_eql_slice_nil w t e _ _ _ _ _ ht]
   rfl
  cases es with
  | nil=>exact h.gZ hd hl dX (.ab _) hK
  | cons _ _=>exact h.gZ hd hl dX (.v _) hK
theorem Je (hd:o.dst=some d) (hl:d<C.nt) {x y:Operand} {r q:eB} {t e:TypeId} {inf:TypeInfo} {m n s:Nat} {ts:List (Nat × (Nat × Nat))} {ik:IntKind} {i:Int} (ho:o.op = .indexAddr t x y) (ht:C.P.underlying t=some (.array n e)) (hi:C.P.info? e=some inf) (hz:inf.size=s)
  (hx:dh x r=true) (hy:dh y q=true) (hY:small C.nt [x]=true) (pn:small C.nt [y]=true)
  (hr:r.ev C.E σ = .pt) (hg:r.gh γ = .ptr m 0) (hm:γ m = .cl ts) (hq:q.ev C.E σ = .v (.int ik i)) (h0:0≤i) (gM:i<n)
  (hK:∀D' a' w',dU C D' (dJ σ d (.el i.toNat s 0)) (dJ γ d (.pm m)) a' w'→K a' w'):o.wp C.P a w K Q:=by
 have e0:=h.jr hx hY
 have hv:=e0.gh (by rw [hr];simp) (by rw [hr];simp)
 rw [hg] at hv
 simp only [jR] at hv
 have e2:=(h.jr hy pn).rep (by rw [hq];simp)
 rw [hq] at e2
 have dX:(execOp a.eval o).run C.P w = .ok (.value (.pointer (some ⟨D.β m,i.toNat * s,none⟩))) w:=by
  simp [execOp,ho,hv,e2.ib,Instr.indexAt,Instr.sureAddr,asIntOf,run_underlying ht,run_sizeOf hi,hz,h0,gM,gB]
 refine h.val (g := .pm m) hd hl dX (.inr ⟨.el _ _ 0 _,fun _=>⟨_,rfl⟩⟩) rfl rfl ?_ hK
 show (γ m).gy=true
 rw [hm];rfl
theorem Jc (hd:o.dst=some d) (hl:d<C.nt) {x:Operand} {r:eB} {t:TypeId} {inf:TypeInfo} {m i s o':Nat} {cs:List AV} {ts:List (Nat × (Nat × Nat))} {y:AV} (ho:o.op = .load t x) (hi:C.P.info? t=some inf) (hz:inf.size=1) (ha:kO C.P t=some false)
  (hx:dh x r=true) (hY:small C.nt [x]=true) (hr:r.ev C.E σ = .el i s o') (hg:r.gh γ = .pm m) (hm:γ m = .cl ts) (nh:σ m = .ag cs) (hp:gS cs (i * s+o') 1 false=some y)
  (hK:∀D' a' w',dU C D' (dJ σ d y) (dJ γ d .no) a' w'→K a' w'):o.wp C.P a w K Q:=by
 have e0:=h.jr hx hY
 have e1:=e0.rep (by rw [hr];simp)
 have hv:=e0.gh (by rw [hr];simp) (by rw [hr];simp)
 rw [hr] at e1
 rw [hg] at hv
 obtain ⟨b,hb⟩:=Rep.yg e1
 obtain ⟨q,hq⟩:=hv
 rw [hb] at hq
 cases hq
 obtain ⟨ws,td,_⟩:=h.mem m ts hm
 rw [nh] at td
 obtain ⟨elem,hh,hL⟩:=td.ag
 obtain ⟨hlen,kk⟩:=mw hL hp (.inr rfl)
 have hc:∀j y,(((ws.take cs.length).drop (i * s+o')).take 1)[j]?=some y→w.cell? ⟨D.β m,i * s+o'+j,none⟩=some y:=by
  intro j y hj
  simp only [World.cell?,hh]
  rw [aR] at hj
  split at hj
  ·rw [List.getElem?_drop,aR] at hj
   split at hj
   ·simpa using hj
   ·cases hj
  ·cases hj
 have dX:=kG (P:=C.P) hi ha (.inr hz) (hlen.trans hz.symm) hc
 refine h.gZ hd hl (?_:(execOp a.eval o).run C.P w = .ok (.value _) w) kk hK
 simp only [execOp,ho,hb,Instr.loadAt,Instr.sureAddr,Sem.run_bind,Sem.run_pure,Result.andThen_ok,dX]
end
end Go.Eng
namespace Go.Eng
open Go.RowKit
section
variable {P:Program} {w:World}
theorem ri {R:Reach} {t u ty e:TypeId} {i:TypeInfo} {z:Value} {du:TypeDesc} (ht:P.underlying t=some (.slice e)) (hi:P.info? e=some i) (hz:i.zero=some z) (Cu:z.cells.size=i.size) (hu:P.underlying u=some du) (wJ:∀k,du ≠ .int k)
  {x0 x:Value} {es fs:List AV} {news:List Value} (hT:gG R w x0 i.size) (hP:hZ R w x0 i.size (.sl i.size es)) (gM:∀b o,R b o→b<w.heap.size)
  (hx:Source P w i.size x fs.length news) (hL:eL R w (fs.flatMap AV.cells) news) (qY:∀e∈fs,e.cells.length=i.size) (xz:es.length+fs.length≤maxLen) (hb:(es.length+fs.length) * i.bytes≤140737488355328) :
  ∃v w',(Builtin.append_ #[t,u] ty #[x0,x]).run P w = .ok v w'∧w'.os=w.os∧w'.tape=w.tape∧w'.output=w.output∧w.heap.size≤w'.heap.size ∧
   (∀b,b<w.heap.size→x0.ownBlock≠some b→w'.heap[b]?=w.heap[b]?)∧gG R w' x0 i.size∧hZ R w' x0 i.size (.sl i.size es) ∧
   gG R w' v i.size∧hZ R w' v i.size (.sl i.size (es++fs))∧(∀g,v.ownBlock=some g→x0.ownBlock=some g∨w.heap.size≤g):=by
 have wy:=hx.2.2.1
 obtain ⟨F0,Ix⟩:=hP
 obtain ⟨K1,Ri,tX,Rr⟩:=Ix.resolve_left (by simp)
 cases Ri
 have FX:∀e∈es++fs,e.cells.length=i.size:=fun e he=>by
  rcases List.mem_append.1 he with he | he
  ·exact tX e he
  ·exact qY e he
 -- the row KV
 have grow:∀(q:Option Addr) (cap:Nat) (lQ:List Value),x0 = .slice q es.length cap→cap<es.length+fs.length→(∀w':World,w'.heap=w.heap→(Builtin.firstCells i.size es.length (.slice q es.length cap)).run P w' = .ok ⟨lQ⟩ w') →
   eL R w (es.flatMap AV.cells) lQ→lQ.length=es.length * i.size →
   ∃v w',(Builtin.append_ #[t,u] ty #[x0,x]).run P w = .ok v w'∧w'.os=w.os∧w'.tape=w.tape∧w'.output=w.output∧w.heap.size≤w'.heap.size ∧
   (∀b,b<w.heap.size→x0.ownBlock≠some b→w'.heap[b]?=w.heap[b]?)∧gG R w' x0 i.size∧hZ R w' x0 i.size (.sl i.size es) ∧
   gG R w' v i.size∧hZ R w' v i.size (.sl i.size (es++fs))∧(∀g,v.ownBlock=some g→x0.ownBlock=some g∨w.heap.size≤g):=by
  intro q cap lQ pk Oi ho ER sE
  have dX:=mh (ty:=ty) ht hi hz hu wJ ho hx Oi xz hb
  have za:=grownCap_ge w (es.length+fs.length) cap e
  have hle:=grownCap_le_maxLen w (es.length+fs.length) cap e xz
  let row:Array Value:=(⟨lQ⟩:Array Value)++⟨news⟩++Builtin.zeroCells z.cells (grownCap w (es.length+fs.length) cap e - (es.length+fs.length))
  let w1:World:=w.drew.alloc (.cells row e)
  have jP:w1.heap[w.heap.size]?=some (.cells row e (0,0)):=by
   show (w.heap.push _)[w.heap.size]?=_
   simp
  have hold:∀c,c<w.heap.size→w1.heap[c]?=w.heap[c]?:=fun c hc=>by
   show (w.heap.push _)[c]?=_
   rw [Array.getElem?_push,ah (by omega)]
  have sC:row.size=grownCap w (es.length+fs.length) cap e * i.size:=by
   simp only [row,Array.size_append,List.size_toArray,size_zeroCells,Cu,sE,wy,←Nat.add_mul]
   congr 1;omega
  have pQ:∀q,¬R w.heap.size q:=fun q hr=>by have:=gM _ q hr;omega
  have cd:gF R w R w1:=fun b o hr=>⟨hr,World.cell?_of_block (w:=w) (hold b (gM b o hr))⟩
  have QK:row.toList.take ((es++fs).length * i.size)=lQ++news:=by
   have:(es++fs).length * i.size=(lQ++news).length:=by rw [aw,aw,Nat.add_mul,sE,wy]
   rw [this]
   have NW:row.toList=(lQ++news)++(Builtin.zeroCells z.cells (grownCap w (es.length+fs.length) cap e - (es.length+fs.length))).toList:=by simp [row]
   rw [NW,List.take_left]
  refine ⟨_,w1,by rw [pk];exact dX,rfl,rfl,rfl,by show _≤(w.heap.push _).size;simp,fun b wM _=>hold b wM,hT.cd fun g hg=>⟨hold g (hT.lt hg),fun _ hr=>hr⟩,
   hZ.cd ⟨F0,Ix⟩ cd fun g hg=>⟨hold g (hT.lt hg),fun _ hr=>hr⟩,.inr ⟨_,_,_,_,_,_,rfl,jP,by simp,sC,za,hle,fun q _=>pQ q⟩,
   ⟨fun g hg q=>?_,.inr ⟨_,rfl,FX,.inr ⟨w.heap.size,grownCap w (es.length+fs.length) cap e,row,e,(0,0),by rw [aw],jP,?_⟩⟩⟩,fun g hg=>?_⟩
  ·simp [Value.ownBlock] at hg;subst hg;exact pQ q
  ·rw [QK,List.flatMap_append]
   exact (ER.append hL).mono cd
  ·simp [Value.ownBlock] at hg
   exact .inr (by omega)
 rcases Rr with ⟨rfl,e0⟩ | ⟨g,cap,cur,ce,fz,e0,hg,ER⟩
 ·by_cases hm:fs.length=0
  ·have HL:fs=[]:=bm hm
   subst HL
   refine ⟨.slice none 0 0,w,?_,rfl,rfl,rfl,Nat.le_refl _,fun _ _ _=>rfl,hT,⟨F0,Ix⟩,.inl rfl,⟨by simp [Value.ownBlock],.inr ⟨[],rfl,by simp,.inl ⟨rfl,rfl⟩⟩⟩,by simp [Value.ownBlock]⟩
   obtain ⟨h1,h2,h3,h4⟩:=hx
   have KA:(match du with | .int _=>true | _=>false)=false:=by cases du <;> first | rfl | exact (wJ _ rfl).elim
   have te:=h2 w rfl
   simp only [aA] at h1 te
   rw [e0]
   simp [Builtin.append_,run_underlying ht,run_underlying hu,KA,sizeOf,typeInfo,hi,h1,te]
  ·exact grow none 0 [] e0 (by simp;omega) (fun _ _=>rfl) .nil (by simp)
 ·rcases hT with e1 | ⟨g1,n1,cap1,RL,Tq,Tk,e1,hg1,hfz,hcs,Ob,zb,pQ⟩
  ·rw [e0] at e1;cases e1
  rw [e0] at e1
  cases e1
  rw [hg] at hg1
  cases hg1
  have EC:x0.ownBlock=some g:=by rw [e0];rfl
  have jD:es.length * i.size≤cap * i.size:=bu _ Ob
  have sE:(cur.toList.take (es.length * i.size)).length=es.length * i.size:=by simp;omega
  by_cases nO:es.length+fs.length≤cap
  ·have dX:=mg (ty:=ty) ht hi hu wJ hg hfz hx nO hcs
   have hle:(es.length+fs.length) * i.size≤cap * i.size:=bu _ nO
   rw [Nat.add_mul] at hle
   let new:Array Value:=(cur.toList.take (es.length * i.size)++news++cur.toList.drop (es.length * i.size+news.length)).toArray
   let w1:World:=w.setRow g new
   have y9:w1.heap[g]?=some (.cells new ce fz):=setRow_heap w g cur new ce fz hg
   have hold:∀b,b≠g→w1.heap[b]?=w.heap[b]?:=fun b hb=>setRow_other w g b _ hb
   have Pg:new.size=cur.size:=by simp [new];omega
   have cd:gF R w R w1:=fun b o hr=>⟨hr,World.cell?_of_block (w:=w) (hold b (fun e=>F0 g EC o (e ▸ hr)))⟩
   have ht1:new.toList.take (es.length * i.size)=cur.toList.take (es.length * i.size):=by
    show (cur.toList.take (es.length * i.size)++news++_).take (es.length * i.size)=_
    rw [aU,List.take_append_of_le_length (by omega),List.take_take,Nat.min_self]
   have ht2:new.toList.take ((es++fs).length * i.size)=cur.toList.take (es.length * i.size)++news:=by
    have:(es++fs).length * i.size=(cur.toList.take (es.length * i.size)++news).length:=by rw [aw,aw,Nat.add_mul,sE,wy]
    show (cur.toList.take (es.length * i.size)++news++_).take _=_
    rw [this,List.take_left]
   refine ⟨_,w1,by rw [e0];exact dX,rfl,rfl,rfl,by simp [w1],fun b wM jQ=>hold b (fun e=>jQ (by rw [EC,e])),.inr ⟨g,_,_,new,ce,fz,e0,y9,fun o ho=>hfz o (by omega),Pg.trans hcs,Ob,zb,fun o _=>F0 g EC o⟩,
    ⟨F0,.inr ⟨es,rfl,tX,.inr ⟨g,cap,new,ce,fz,e0,y9,by rw [ht1];exact ER.mono cd⟩⟩⟩,.inr ⟨g,_,_,new,ce,fz,rfl,y9,fun o ho=>hfz o (by omega),Pg.trans hcs,nO,zb,fun o _=>F0 g EC o⟩,
    ⟨fun g' mN o=>by simp [Value.ownBlock] at mN;subst mN;exact F0 _ EC o,.inr ⟨_,rfl,FX,.inr ⟨g,cap,new,ce,fz,by rw [aw],y9,?_⟩⟩⟩,fun g' mN=>?_⟩
   ·rw [ht2,List.flatMap_append]
    exact (ER.append hL).mono cd
   ·simp [Value.ownBlock] at mN
    subst mN
    exact .inl EC
  ·exact grow (some ⟨g,0,none⟩) cap (cur.toList.take (es.length * i.size)) e0 (by omega) (fun w' hw=>run_firstCells_some (P:=P) w' i.size es.length ⟨g,0,none⟩ es.length cap _ sE (fun j v hj=>by
    rw [gB,World.cell?_of_block (w:=w) (by rw [hw])]
    rw [aR] at hj
    split at hj
    ·simp only [World.cell?,hg,Nat.zero_add];simpa using hj
    ·cases hj)) ER sE
end
section
variable {C:Ctx} {D:kV} {σ:Sg} {γ:Ga} {a:Act} {w:World}
theorem dU.KW (h:dU C D σ γ a w) {k j s:Nat} (hk:γ (lk k) = .pv s) (hj:γ (lk j) = .no) {w':World} (os:w'.os=w.os) (tape:w'.tape=w.tape) (out:w'.output=w.output) (size:w.heap.size≤w'.heap.size)
  (hh:∀b,b<w.heap.size→(D.τ (lk k)).ownBlock≠some b→w'.heap[b]?=w.heap[b]?) {v:Value} {es more:List AV} (nh:σ (lk k) = .sl s es)
  (pt:gG D.R w' (D.τ (lk k)) s) (pp:hZ D.R w' (D.τ (lk k)) s (.sl s es)) (ct:gG D.R w' v s) (cp:hZ D.R w' v s (.sl s (es++more))) (hv:∀g,v.ownBlock=some g→(D.τ (lk k)).ownBlock=some g∨w.heap.size≤g) :
  dU C { D with τ:=dJ D.τ (lk j) v } (cQ σ [lk k,lk j] [.sl s es,.sl s (es++more)]) (cQ γ [lk k,lk j] [.nC (lk j) s,.pc s]) a w':=by
 have jQ:lk k≠lk j:=fun e=>by rw [e,hj] at hk;cases hk
 have qz:gC D γ (lk k)=(D.τ (lk k)).ownBlock:=iq (by rw [hk];rfl)
 have DE:=(h.uC hk).2.1
 have cd:gF D.R w D.R w':=fun b o hr=>⟨hr,World.cell?_of_block (w:=w) (hh b (h.ns b o hr) (fun e=>DE b e o hr))⟩
 have KZ:cQ σ [lk k,lk j] [.sl s es,.sl s (es++more)]=dJ (dJ σ (lk j) (.sl s (es++more))) (lk k) (.sl s es):=rfl
 have HY:cQ γ [lk k,lk j] [Gh.nC (lk j) s,.pc s]=dJ (dJ γ (lk j) (.pc s)) (lk k) (.nC (lk j) s):=rfl
 rw [KZ,HY]
 generalize Ht:dJ (dJ γ (lk j) (.pc s)) (lk k) (.nC (lk j) s)=nu
 generalize Hs:dJ (dJ σ (lk j) (.sl s (es++more))) (lk k) (.sl s es)=eO
 have g1:nu (lk k) = .nC (lk j) s:=by rw [←Ht,bI]
 have g2:nu (lk j) = .pc s:=by rw [←Ht,bO _ _ jQ.symm,bI]
 have g3:∀x,x≠lk k→x≠lk j→nu x=γ x:=fun x h1 h2=>by rw [←Ht,bO _ _ h1,bO _ _ h2]
 have s1:eO (lk k) = .sl s es:=by rw [←Hs,bI]
 have s2:eO (lk j) = .sl s (es++more):=by rw [←Hs,bO _ _ jQ.symm,bI]
 have s3:∀x,x≠lk k→x≠lk j→eO x=σ x:=fun x h1 h2=>by rw [←Hs,bO _ _ h1,bO _ _ h2]
 have jD:∀m,(nu m).gy=(γ m).gy:=fun m=>by
  by_cases e1:m=lk k
  ·subst e1;rw [g1,hk];rfl
  ·by_cases e2:m=lk j
   ·subst e2;rw [g2,hj];rfl
   ·rw [g3 m e1 e2]
 have lF:∀m,(γ m).fL=true→(nu m).fL=true:=fun m hm=>by
  by_cases e1:m=lk k
  ·subst e1;rw [g1];rfl
  ·by_cases e2:m=lk j
   ·subst e2;rw [g2];rfl
   ·rw [g3 m e1 e2];exact hm
 have Q2:∀m,(γ m).fL=true→m≠lk j:=fun m hm e=>by subst e;rw [hj] at hm;cases hm
 have pO:∀m,(γ m).fL=true→dJ D.τ (lk j) v m=D.τ m:=fun m hm=>bO _ _ (Q2 m hm)
 have hM:∀g,gn γ g→gn nu g:=fun g hg=>by
  cases g with
  | ptr m o=>simp only [gn,jD] at hg ⊢;exact hg
  | pm m=>simp only [gn,jD] at hg ⊢;exact hg
  | gb q s'=>exact lF _ hg
  | pe q=>exact lF _ hg
  | cl ts=>exact fun t ht=>lF _ (hg t ht)
  | yy ts p=>exact ⟨fun t ht=>lF _ (hg.1 t ht),fun q hq=>by rw [jD];exact hg.2 q hq⟩
  | nC q s' =>
   have h1:q≠lk k:=fun e=>by subst e;rcases hg with e | ⟨_,e⟩ <;> rw [hk] at e <;> cases e
   have h2:q≠lk j:=fun e=>by subst e;rcases hg with e | ⟨_,e⟩ <;> rw [hj] at e <;> cases e
   simp only [gn,g3 q h1 h2];exact hg
  | _=>trivial
 have EE:∀t q,t<C.nt→t≠lk q:=fun t q ht e=>by have:=hU q;have:=h.kj;omega
 -- other Lo blocks
 have HC:∀key g,key≠lk k→gC D γ key=some g→w'.heap[g]?=w.heap[g]?:=fun key g hn hb=>hh g (h.lt hb) (fun e=>hn (h.yH hk (qz.trans e) hb))
 have wM:∀key,gC { D with τ:=dJ D.τ (lk j) v } nu key=if key=lk j then v.ownBlock else gC D γ key:=fun key=>by
  by_cases e2:key=lk j
  ·subst e2;rw [ao rfl,iq (by rw [g2];rfl)];simp only [bI]
  ·rw [ah e2]
   by_cases e1:key=lk k
   ·subst e1;rw [iq (by rw [g1];rfl),iq (by rw [hk];rfl)];simp only [bO _ _ e2]
   ·unfold gC
    rw [g3 key e1 e2]
    simp only [bO _ _ e2]
 have HS:∀key g,key≠lk j→gC D γ key=some g→v.ownBlock=some g→key=lk k:=fun key g _ hb hg=>by
  rcases hv g hg with e | e
  ·exact h.yH hk (qz.trans e) hb
  ·have:=h.lt hb;omega
 have po:∀key,key≠lk k→key≠lk j→(nu key).par=(γ key).par:=fun key h1 h2=>by rw [g3 key h1 h2]
 refine ⟨h.size,h.defers,h.kj,fun m hm=>h.nr m (by rwa [jD] at hm),fun m hm=>?_,fun t ht=>?_,fun m ts hm=>?_,fun key s' hs=>?_,fun key s' hs=>?_,fun p q g hp hq=>?_,fun p g hp=>?_,fun key=>?_,?_,fun b o hr=>Nat.lt_of_lt_of_le (h.ns b o hr) size,fun n=>(h.gl n).mono cd,h.fix.of rfl (fun hp=>?_)⟩
 ·by_cases e1:m=lk k
  ·subst e1;exact hU _
  ·by_cases e2:m=lk j
   ·subst e2;exact hU _
   ·rw [g3 m e1 e2] at hm;exact h.lS m hm
 ·rw [s3 t (EE t k ht) (EE t j ht),g3 t (EE t k ht) (EE t j ht)]
  exact (h.slot t ht).imp id fun ⟨r,g⟩=>⟨r.mono cd,fun hs=>jR.congr (D:=D) (h.inv t) (fun _ _=>rfl) (fun q hq=>pO _ hq) (g hs)⟩
 ·have e1:m≠lk k:=fun e=>by subst e;rw [g1] at hm;cases hm
  have e2:m≠lk j:=fun e=>by subst e;rw [g2] at hm;cases hm
  rw [g3 m e1 e2] at hm
  rw [s3 m e1 e2]
  obtain ⟨cs,hV,oD⟩:=h.mem m ts hm
  have hi:=h.inv m
  rw [hm] at hi
  exact ⟨cs,hV.cd cd (HC m _ e1 (iI hm)) hV.BY,fun t ht=>by show cs[t.1]?=some (dJ D.τ (lk j) v (lk t.2.1));rw [pO _ (hi t ht)];exact oD t ht⟩
 ·have e1:key≠lk k:=fun e=>by subst e;rw [g1] at hs;cases hs
  have e2:key≠lk j:=fun e=>by subst e;rw [g2] at hs;cases hs
  rw [g3 key e1 e2] at hs
  simp only [bO _ _ e2]
  exact (h.gb key s' hs).cd fun g hg=>⟨HC key g e1 ((iH hs).trans hg),fun _ hr=>hr⟩
 ·have pP:key≠lk k→sX eO nu key:=fun e1 d Mx s4 f1 f2=>by
   have e2:key≠lk j:=fun e=>by subst e;rw [g2] at f1;cases f1
   rw [g3 key e1 e2] at f1
   have hi:=h.inv key
   rw [f1] at hi
   have d1:d≠lk k:=fun e=>by subst e;rw [g1] at f2;cases f2
   have d2:d≠lk j:=fun e=>by subst e;rcases hi with e | ⟨_,e⟩ <;> rw [hj] at e <;> cases e
   rw [g3 d d1 d2] at f2
   rw [s3 key e1 e2,s3 d d1 d2]
   exact (h.ps key Mx (by rw [f1];rfl)).2.2 d Mx s4 f1 f2
  by_cases e1:key=lk k
  ·subst e1
   rw [g1] at hs
   cases hs
   rw [s1]
   simp only [bO _ _ jQ]
   exact ⟨pt,pp,fun d Mx s4 f1 f2=>by rw [g1] at f1;cases f1;exact .inr (.inr ⟨es,more,s1,s2⟩)⟩
  ·by_cases e2:key=lk j
   ·subst e2
    rw [g2] at hs
    cases hs
    rw [s2]
    simp only [bI]
    exact ⟨ct,cp,pP e1⟩
   ·have Ez:=hs
    rw [g3 key e1 e2] at Ez
    rw [s3 key e1 e2]
    simp only [bO _ _ e2]
    obtain ⟨q1,q2,_⟩:=h.ps key s' Ez
    have hb:=fun g hg=>HC key g e1 ((iq (Gh.pI Ez)).trans hg)
    exact ⟨q1.cd fun g hg=>⟨hb g hg,fun _ hr=>hr⟩,q2.cd cd fun g hg=>⟨hb g hg,fun _ hr=>hr⟩,pP e1⟩
 ·rw [wM] at hp hq
  by_cases p2:p=lk j
  ·by_cases q2:q=lk j
   ·exact .inl (p2.trans q2.symm)
   ·rw [ao p2] at hp
    rw [ah q2] at hq
    have:=HS q g q2 hq hp
    subst this
    right;right
    rw [g1,p2];rfl
  ·rw [ah p2] at hp
   by_cases q2:q=lk j
   ·rw [ao q2] at hq
    have:=HS p g p2 hp hq
    subst this
    right;left
    rw [g1,q2];rfl
   ·rw [ah q2] at hq
    rcases h.sep p q g hp hq with e | e | e
    ·exact .inl e
    ·have p1:p≠lk k:=fun e'=>by subst e';rw [hk] at e;cases e
     right;left;rw [po p p1 p2];exact e
    ·have q1:q≠lk k:=fun e'=>by subst e';rw [hk] at e;cases e
     right;right;rw [po q q1 q2];exact e
 ·rw [wM] at hp
  by_cases p2:p=lk j
  ·rw [ao p2] at hp
   rcases hv g hp with e | e
   ·exact h.own (lk k) g (qz.trans e)
   ·exact .inr (Nat.le_trans h.ext.size e)
  ·rw [ah p2] at hp;exact h.own p g hp
 ·by_cases e1:key=lk k
  ·subst e1;rw [g1];exact .inr ⟨s,g2⟩
  ·by_cases e2:key=lk j
   ·subst e2;rw [g2];trivial
   ·rw [g3 key e1 e2];exact hM _ (h.inv key)
 ·refine ⟨os.trans h.ext.os,tape.trans h.ext.tape,out.trans h.ext.output,Nat.le_trans h.ext.size size,fun b hb hn=>?_,h.ext.cd.trans cd,h.ext.qn⟩
  refine (hh b (Nat.lt_of_lt_of_le hb h.ext.size) fun e=>?_).trans (h.ext.heap b hb hn)
  rcases h.own (lk k) b (qz.trans e) with e | e
  ·exact hn e
  ·omega
 ·have e2:lk 999999≠lk j:=fun e=>by rw [e,hj] at hp;cases hp
  refine ⟨?_,bO _ _ e2⟩
  by_cases e1:lk 999999=lk k
  ·rw [e1,g1];rfl
  ·rw [g3 _ e1 e2];exact hp
variable {o:Oper} {d:Nat} {K:Act→World→Prop} {Q:Exit→Act→World→Prop} (h:dU C D σ γ a w)
include h
theorem G5 (hd:o.dst=some d) (hl:d<C.nt) {x y:Operand} {r q:eB} {t u e:TypeId} {i:TypeInfo} {z:Value} {du:TypeDesc} {k j s:Nat} {es fs:List AV} (ho:o.op = .call { callee := .builtin .append,args:=#[x,y],argTypes:=#[t,u] })
  (ht:C.P.underlying t=some (.slice e)) (hi:C.P.info? e=some i) (hz:i.zero=some z) (Cu:z.cells.size=i.size) (hu:C.P.underlying u=some du) (wJ:∀k,du ≠ .int k) (hs:i.size=s)
  (hx:dh x r=true) (hY:small C.nt [x]=true) (hy:dh y q=true) (pn:small C.nt [y]=true) (hr:r.ev C.E σ = .pt) (hg:r.gh γ = .gb k s) (hk:γ (lk k) = .pv s) (nh:σ (lk k) = .sl s es) (hj:γ (lk j) = .no)
  (hq:q.ev C.E σ = .sl s fs) (xz:es.length+fs.length≤maxLen) (hb:(es.length+fs.length) * i.bytes≤140737488355328)
  (hK:∀D' a' w',dU C D' (cQ σ [d,lk k,lk j] [.pt,.sl s es,.sl s (es++fs)]) (cQ γ [d,lk k,lk j] [.gb j s,.nC (lk j) s,.pc s]) a' w'→K a' w'):o.wp C.P a w K Q:=by
 subst hs
 have e0:=h.jr hx hY
 have hv:=e0.gh (by rw [hr];simp) (by rw [hr];simp)
 rw [hg] at hv
 have e2:=(h.jr hy pn).rep (by rw [hq];simp)
 rw [hq] at e2
 obtain ⟨hT,hP⟩:=h.uC hk
 rw [nh] at hP
 obtain ⟨news,u0,hL,qY⟩:=Source.BR (P:=C.P) e2
 obtain ⟨v,w',dX,os,tape,out,size,hh,pt,pp,ct,cp,NR⟩:=ri (ty:=o.type) ht hi hz Cu hu wJ hT hP h.ns u0 hL qY xz hb
 have hS:=h.KW hk hj os tape out size hh nh pt pp ct cp NR
 unfold Oper.wp
 rw [show (execOp a.eval o).run C.P w = .ok (.value v) w' by simp [execOp,ho,resolve,invoke,builtin,hv.1,dX],Oper.upon_value,hd]
 have Q7:(cQ γ [lk k,lk j] [Gh.nC (lk j) i.size,.pc i.size]) (lk j) = .pc i.size:=by
  have jQ:lk k≠lk j:=fun e=>by rw [e,hj] at hk;cases hk
  simp only [cQ]
  rw [bO _ _ jQ.symm,bI]
 refine hK _ _ _ (hS.put (g := .gb j i.size) hl (.inr ⟨.pt _,fun _=>?_⟩) rfl rfl ?_)
 ·show v=dJ D.τ (lk j) v (lk j)∧v.oneCell'=true
  rw [bI]
  exact ⟨rfl,by rcases ct with rfl | ⟨_,_,_,_,_,_,rfl,_⟩ <;> rfl⟩
 ·show ((cQ γ [lk k,lk j] [Gh.nC (lk j) i.size,.pc i.size]) (lk j)).fL=true
  rw [Q7];rfl
theorem dU.xG {x:Operand} {r:eB} {k s s0:Nat} {fs:List AV} (hx:dh x r=true) (hY:small C.nt [x]=true) (hr:r.ev C.E σ = .pt) (hg:r.gh γ = .gb k s0) (hk:γ (lk k) = .pv s) (nh:σ (lk k) = .sl s fs) :
  ∃news,Source C.P w s (a.eval x) fs.length news∧eL D.R w (fs.flatMap AV.cells) news∧∀e∈fs,e.cells.length=s:=by
 have e0:=h.jr hx hY
 have hv:=e0.gh (by rw [hr];simp) (by rw [hr];simp)
 rw [hg] at hv
 obtain ⟨hT,F0,Ix⟩:=h.uC hk
 rw [nh] at Ix
 obtain ⟨es,he,tX,hP⟩:=Ix.resolve_left (by simp)
 cases he
 rcases hP with ⟨rfl,e1⟩ | ⟨g,cap,cur,ce,fz,e1,hg1,hL⟩
 ·refine ⟨[],⟨fun _=>?_,fun _ _=>?_,by simp,by simp⟩,.nil,by simp⟩
  ·rw [hv.1,e1];rfl
  ·rw [hv.1,e1];rfl
 ·have tc:fs.length≤cap∧cur.size=cap * s:=by
   rcases hT with e2 | ⟨g',n,ym,mX,e',LW,e2,h1,h2,h3,h4,h5,h6⟩
   ·rw [e1] at e2;cases e2
   ·rw [e1] at e2;cases e2
    rw [hg1] at h1;cases h1
    exact ⟨h4,h3⟩
  have hle:fs.length * s≤cap * s:=bu _ tc.1
  have sE:(cur.toList.take (fs.length * s)).length=fs.length * s:=by simp;omega
  refine ⟨_,⟨fun _=>?_,fun w' hw=>?_,sE,hL.one⟩,hL,tX⟩
  ·rw [hv.1,e1];rfl
  ·rw [hv.1,e1]
   exact run_firstCells_some (P:=C.P) w' s fs.length ⟨g,0,none⟩ fs.length cap _ sE (fun j v hj=>by
    rw [gB,World.cell?_of_block (w:=w) (by rw [hw])]
    rw [aR] at hj
    split at hj
    ·simp only [World.cell?,hg1,Nat.zero_add];simpa using hj
    ·cases hj)
end
end Go.Eng
namespace Go.Eng
open Go.RowKit
section
variable {C:Ctx} {sg:Nat→dq}
theorem JE {k d' s b:Nat}:dY C sg (.AO k d' s b):=by
 intro D σ γ a w dst op ty pos after guard rs ds gd ws gs K' Q h ho hk fg hs hg hK
 simp only [dM,ae,beq_iff_eq,ak,au] at hk
 obtain ⟨⟨lY,gK⟩,js⟩:=hk
 obtain ⟨d,rfl,hl,rfl⟩:=gE js
 simp only [gq] at ho
 split at ho
 ·rename_i args rN r q r3 r4
  simp only [ae,beq_iff_eq] at ho
  obtain ⟨⟨ho,h1⟩,h2⟩:=ho
  obtain ⟨t,u,e,i,z,du,rfl,q1,q2,q3,q4,q5,q6,q7,q8⟩:=rO h1 h2
  have ht:=A7 gK
  simp only [List.drop_succ_cons,bg,ar,and_true] at ht
  obtain ⟨rfl,rfl⟩:=ht
  obtain ⟨x,y,pk⟩:=wa (l:=args.toList) (by rw [iM ho];rfl)
  rw [pk] at ho
  obtain ⟨r',q',y6,hx,hy⟩:=jY ho
  simp only [ar,and_true] at y6
  obtain ⟨rfl,rfl⟩:=y6
  have ea:=sW pk
  subst ea
  simp only [ak,au,gf] at hs
  split at hs
  ·rename_i o0 fs s' es v2 heq
   simp only [ar,and_true,eB.ev] at heq
   obtain ⟨e1,e2,e3,_⟩:=heq
   obtain ⟨rfl,rfl,p2,p3,rfl⟩:=hs
   simp only [ak,au,fu] at hg
   split at hg
   ·rename_i k1 s1 g s2 fC
    simp only [ar,and_true,eB.gh] at fC
    obtain ⟨g1,g2,g3,g4⟩:=fC
    split at hg
    ·rename_i hc
     obtain ⟨rfl,rfl,rfl,jQ⟩:=hc
     cases hg
     exact G5 h rfl hl rfl q1 q2 q5 q6 q7 q8 q3 hx (bQ fg (by simp [Op.operands,Call.operands])) hy (bQ fg (by simp [Op.operands,Call.operands])) e1 g1 g3 e3 g4 e2 p2 (by rw [q4];exact p3) hK
    ·cases hg
   ·cases hg
  ·cases hs
 ·cases ho
theorem IJ {rs:List eB} {n a b c:Nat} (h:(rs.drop n).map (fun r=>match r with | eB.s t=>some t | _=>none)=[some a,some b,some c]):rs.drop n=[.s a,.s b,.s c] :=
 lg (ks:=[a,b,c]) h
theorem JT {k d' q0 s b:Nat}:dY C sg (.Fi k d' q0 s b):=by
 intro D σ γ a w dst op ty pos after guard rs ds gd ws gs K' Q h ho hk fg hs hg hK
 simp only [dM,ae,beq_iff_eq,ak,au] at hk
 obtain ⟨⟨lY,gK⟩,js⟩:=hk
 obtain ⟨d,rfl,hl,rfl⟩:=gE js
 simp only [gq] at ho
 split at ho
 ·rename_i args rN r q r3 r4 r5
  simp only [ae,beq_iff_eq] at ho
  obtain ⟨⟨ho,h1⟩,h2⟩:=ho
  obtain ⟨t,u,e,i,z,du,rfl,q1,q2,q3,q4,q5,q6,q7,q8⟩:=rO h1 h2
  have ht:=IJ gK
  simp only [List.drop_succ_cons,bg,ar,and_true] at ht
  obtain ⟨rfl,rfl,rfl⟩:=ht
  obtain ⟨x,y,pk⟩:=wa (l:=args.toList) (by rw [iM ho];rfl)
  rw [pk] at ho
  obtain ⟨r',q',y6,hx,hy⟩:=jY ho
  simp only [ar,and_true] at y6
  obtain ⟨rfl,rfl⟩:=y6
  have ea:=sW pk
  subst ea
  simp only [ak,au,gf] at hs
  split at hs
  ·rename_i s' es v1 v2 o0 fs heq
   simp only [ar,and_true,eB.ev] at heq
   obtain ⟨e1,e2,_,_,e5⟩:=heq
   obtain ⟨rfl,rfl,p2,p3,rfl⟩:=hs
   simp only [ak,au,fu] at hg
   split at hg
   ·rename_i k1 s1 k2 s2 s3 s4 fC
    simp only [ar,and_true,eB.gh] at fC
    obtain ⟨g1,g2,g3,g4,g5⟩:=fC
    split at hg
    ·rename_i hc
     obtain ⟨rfl,rfl,rfl,jQ,rfl,rfl,rfl⟩:=hc
     cases hg
     obtain ⟨news,n1,n2,n3⟩:=h.xG hy (bQ fg (by simp [Op.operands,Call.operands])) e2 g2 g5 e5
     exact BP (q:=q) h rfl hl rfl q1 q2 q5 q6 q7 q8 q3 hx (bQ fg (by simp [Op.operands,Call.operands])) e1 g1 g3 g4 jQ n1 n2 n3 p2 (by rw [q4];exact p3) hK
    ·cases hg
   ·cases hg
  ·cases hs
 ·cases ho
theorem JF {k:Nat}:dY C sg (.Fx k):=by
 intro D σ γ a w dst op ty pos after guard rs ds gd ws gs K' Q h ho hk fg hs hg hK
 simp only [dM,ae] at hk
 obtain ⟨⟨lY,gK⟩,js⟩:=hk
 obtain ⟨d,rfl,hl,rfl⟩:=gE (l:=[]) js
 simp only [gq] at ho
 split at ho
 ·rename_i t x y r q
  simp only [ae] at ho
  obtain ⟨hx,he⟩:=ho
  obtain ⟨e,he⟩:=Option.isSome_iff_exists.1 he
  cases q <;> simp at gK
  subst gK
  simp only [ak,au,gf] at hs
  simp only [ak,au,fu] at hg
  split at hg
  ·rename_i k' s0 s1 fC
   simp only [ar,and_true,eB.gh] at fC
   split at hg
   ·rename_i hc
    subst hc
    cases hg
    split at hs
    ·rename_i s' heq
     simp only [ar,and_true,eB.ev] at heq
     subst hs
     exact BJ h rfl hl rfl (iA he) hx (bQ fg (by simp [Op.operands])) heq.1 fC.1 fC.2 heq.2 hK
    ·rename_i s' e1 e2 heq
     simp only [ar,and_true,eB.ev] at heq
     subst hs
     exact BJ h rfl hl rfl (iA he) hx (bQ fg (by simp [Op.operands])) heq.1 fC.1 fC.2 heq.2 hK
    ·cases hs
   ·cases hg
  ·cases hg
 ·cases ho
theorem MT {m n s:Nat}:dY C sg (.la m n s):=by
 intro D σ γ a w dst op ty pos after guard rs ds gd ws gs K' Q h ho hk fg hs hg hK
 simp only [dM,ae] at hk
 obtain ⟨⟨_,lY,gK⟩,js⟩:=hk
 obtain ⟨d,rfl,hl,rfl⟩:=gE (l:=[]) js
 simp only [gq] at ho
 split at ho
 ·rename_i t x y r q z
  simp only [ae] at ho
  obtain ⟨ht,ho⟩:=ho
  split at ht
  ·rename_i n' e he
   simp only [ae,beq_iff_eq] at ht
   obtain ⟨rfl,ht⟩:=ht
   obtain ⟨inf,h1,h2⟩:=iv ht
   obtain ⟨r',q',e',hx,hy⟩:=jY ho
   cases e'
   cases z <;> simp at gK
   subst gK
   simp only [ak,au,gf] at hs
   simp only [ak,au,fu] at hg
   split at hs
   ·rename_i ik i cs heq
    simp only [ar,and_true,eB.ev] at heq
    obtain ⟨h0,gM,rfl⟩:=hs
    split at hg
    ·rename_i m' o' g0 ts fC
     simp only [ar,and_true,eB.gh] at fC
     split at hg
     ·rename_i hc
      obtain ⟨rfl,rfl,_⟩:=hc
      cases hg
      exact Je h rfl hl rfl he h1 h2 hx hy (bQ fg (by simp [Op.operands])) (bQ fg (by simp [Op.operands])) heq.1 fC.1 fC.2.2 heq.2.1 h0 gM hK
     ·cases hg
    ·cases hg
   ·cases hs
  ·cases ht
 ·cases ho
theorem MS {m s:Nat}:dY C sg (.ll m s):=by
 intro D σ γ a w dst op ty pos after guard rs ds gd ws gs K' Q h ho hk fg hs hg hK
 simp only [dM,ae] at hk
 obtain ⟨⟨_,lY,gK⟩,js⟩:=hk
 obtain ⟨d,rfl,hl,rfl⟩:=gE (l:=[]) js
 simp only [gq] at ho
 split at ho
 ·rename_i t x r rest
  simp at lY
  obtain ⟨q,rfl⟩:=len1 lY
  cases q <;> simp at gK
  subst gK
  simp only [ae] at ho
  obtain ⟨ht,ho⟩:=ho
  obtain ⟨inf,h1,h2,h3,h4⟩:=iK ht
  simp only [ak,au,gf] at hs
  split at hs
  ·rename_i i s' o' cs heq
   simp only [ar,and_true,eB.ev] at heq
   obtain ⟨y,rfl,hp,rfl⟩:=hs
   simp only [ak,au,fu] at hg
   split at hg
   ·rename_i m' ts fC
    simp only [ar,and_true,eB.gh] at fC
    split at hg
    ·rename_i hc
     obtain ⟨rfl,rfl⟩:=hc
     cases hg
     exact Jc h rfl hl rfl h1 h2 h3 ho (bQ fg (by simp [Op.operands])) heq.1 fC.1 fC.2 heq.2 hp hK
    ·cases hg
   ·cases hg
  ·cases hs
 ·cases ho
theorem Ei (hE:∀f,fH C.P C.E.gl f (C.E.fs f)∧(C.E.fs f).sg=sg f) {f n cS i k s:Nat}:dY C sg (.jK f n cS i k s):=by
 intro D σ γ a w dst op ty pos after guard rs ds gd ws gs K' Q h ho hk fg hs hg hK
 simp only [dM,ae,beq_iff_eq,ak,au] at hk
 obtain ⟨⟨lY,gK⟩,js⟩:=hk
 obtain ⟨d,rfl,hl,rfl⟩:=gE (l:=[]) js
 simp only [gq] at ho
 split at ho
 ·rename_i g args rN
  simp only [ae,beq_iff_eq,aB] at ho
  obtain ⟨⟨⟨⟨⟨rfl,FQ⟩,lD,hn⟩,hx⟩,rn⟩,Ae⟩:=ho
  rw [←(hE f).2] at lD hn
  have FO:(rs.take n).length=n:=by rw [←iM hx];simpa using rn
  have wq:small C.nt args.toList=true:=kq fg (fun x hx=>by
   have:x∈args:=by simpa using hx
   simp only [Op.operands,Call.operands,Array.toList_append,List.mem_append]
   exact .inr hx)
  have ni:rs.drop n=[.s (lk k)]:=by
   simp only [aF,aA] at lY
   obtain ⟨q,hq⟩:=len1 (l:=rs.drop n) (by rw [aW];omega)
   rw [hq] at gK ⊢
   cases q <;> simp at gK
   rw [gK]
  have sC:rs=rs.take n++[.s (lk k)]:=by rw [←ni,List.take_append_drop]
  simp only [gf] at hs
  obtain ⟨es,outs,v1,v2,hG,tW,rfl⟩:=hs
  simp only [fu] at hg
  rw [az] at hg
  obtain ⟨⟨g1,g2⟩,hg⟩:=hg
  cases hg
  have CH:∀{X:Type} (F:eB→X),(rs.map F)[n]?=some (F (.s (lk k))):=fun F=>by
   have h1:rs[n]?=some (.s (lk k)):=by rw [sC,aS (by omega),FO];simp
   rw [aL,h1];rfl
  rw [CH] at v1 g2
  simp only [eB.ev,eB.gh,ax] at v1 g2
  have hi:∀{X:Type} (F:eB→X),((rs.take n).map F)[i]?=(rs.map F)[i]?:=fun F=>by
   rw [List.map_take,aR,ao Ae]
  rw [←hi] at v2 g1
  rw [←List.map_take] at hG
  exact BL h rfl hl rfl FQ (hE f).1 lD hn hx wq v2 g1 g2 v1 hG tW hK
 ·cases ho
theorem Eh (hE:∀f,fH C.P C.E.gl f (C.E.fs f)∧(C.E.fs f).sg=sg f) {f n cS i s:Nat}:dY C sg (.mq f n cS i s):=by
 intro D σ γ a w dst op ty pos after guard rs ds gd ws gs K' Q h ho hk fg hs hg hK
 simp only [dM,ae] at hk
 obtain ⟨lY,js⟩:=hk
 obtain ⟨d,rfl,hl,rfl⟩:=gE (l:=[]) js
 simp only [gq] at ho
 split at ho
 ·rename_i g args rN
  simp only [ae,beq_iff_eq,aB] at ho
  obtain ⟨⟨⟨⟨⟨rfl,FQ⟩,lD,hn⟩,hx⟩,rn⟩,xU⟩:=ho
  rw [←(hE f).2] at lD hn
  have wq:small C.nt args.toList=true:=kq fg (fun x hx=>by
   have:x∈args:=by simpa using hx
   simp only [Op.operands,Call.operands,Array.toList_append,List.mem_append]
   exact .inr hx)
  simp only [gf] at hs
  obtain ⟨outs,v1,hG,tW,rfl⟩:=hs
  simp only [fu,ax] at hg
  subst hg
  split at xU
  ·rename_i hi
   exact BK h rfl hl rfl FQ (hE f).1 lD hn hx wq hi v1 hG tW hK
  ·cases xU
 ·cases ho
end
end Go.Eng
namespace Go.Eng
open Go.RowKit
theorem wZ {fn:Func} (h:fn.name=mS):Extern.find fn=some Extern.BytealgIndexByte.indexByte:=by
 have e1:(Extern.allGenericRows.lookup mS)=none:=by kernel_rfl
 have e2:(Extern.allTypedRows.lookup mS)=none:=by kernel_rfl
 have e3:(Extern.allRows.lookup mS)=some Extern.BytealgIndexByte.indexByte:=by kernel_rfl
 unfold Extern.find
 simp only [h,e1,e2,e3]
 rfl
theorem wY {fn:Func} (h:fn.name=mS) (h2:fn.origin = "" ∨ fn.origin=mS):Extern.findNext fn=none:=by
 have e1:(Extern.allNextRows.lookup mS)=none:=by kernel_rfl
 have e2:(Extern.allNextRows.lookup "")=none:=by kernel_rfl
 unfold Extern.findNext
 rcases h2 with h2 | h2 <;> simp only [h,h2,e1,e2] <;> rfl
section
variable {C:Ctx} {D:kV} {σ:Sg} {γ:Ga} {a:Act} {w:World}
variable {o:Oper} {d:Nat} {K:Act→World→Prop} {Q:Exit→Act→World→Prop} (h:dU C D σ γ a w)
include h
theorem BM (hd:o.dst=some d) (hl:d<C.nt) {x:Operand} {r:eB} {t e y:TypeId} {s:Nat} {es:List AV} (ho:o.op = .binOp .eql t x (.const (.slice none 0 0)) y) (ht:C.P.underlying t=some (.slice e)) (hx:dh x r=true) (hY:small C.nt [x]=true)
  (hr:r.ev C.E σ = .sl s es) (hK:∀D' a' w',dU C D' (dJ σ d (match es with | [] => .ab | _ :: _ => .v (.bool false))) (dJ γ d .no) a' w'→K a' w'):o.wp C.P a w K Q:=by
 have e0:=(h.jr hx hY).rep (by rw [hr];simp)
 rw [hr] at e0
 have hc:a.eval (.const (.slice none 0 0)) = .slice none 0 0:=rfl
 have dX:∀{q:Option Addr} {n c:Nat},a.eval x = .slice q n c→(execOp a.eval o).run C.P w = .ok (.value (.bool q.isNone)) w:=fun {q n c} hval=>by
  simp only [execOp,ho,hval,hc,eqGuard,Sem.run_bind,Sem.run_pure,Sem.run_ite,Result.andThen_ok]
  simp only [aV,bk,if_false,Sem.run_pure,Result.andThen_ok]
  rw [Lib.run_eql_slice_nil w t e _ _ _ _ _ ht]
  rfl
 cases es with
 | nil =>
  obtain ⟨q,cap,hq⟩:=e0.Bc
  exact h.gZ hd hl (dX hq) (.ab _) hK
 | cons z zs =>
  generalize hv:a.eval x=v at e0
  cases e0 with
  | sl a b c d=>exact h.gZ hd hl (dX hv) (.v _) hK
theorem GY (hd:o.dst=some d) (hl:d<C.nt) {x y:Operand} {r q:eB} {f:Nat} {ts:Array TypeId} {b:ByteArray} {c:Int} (ho:o.op = .call { callee := .value (.func f),args:=#[x,y],argTypes:=ts }) (hf:sM C.P f mS=true)
  (hx:dh x r=true) (hY:small C.nt [x]=true) (hy:dh y q=true) (pn:small C.nt [y]=true) (hr:r.ev C.E σ = .v (.string b)) (hq:q.ev C.E σ = .v (.int .u8 c))
  (hK:∀D' a' w',dU C D' (dJ σ d (.v (.int .i64 (Lib.indexByte b.data.toList c.toNat.toUInt8)))) (dJ γ d .no) a' w'→K a' w'):o.wp C.P a w K Q:=by
 have e1:=(h.jr hx hY).rep (by rw [hr];simp)
 rw [hr] at e1
 have e2:=(h.jr hy pn).rep (by rw [hq];simp)
 rw [hq] at e2
 unfold sM at hf
 cases hfn:C.P.funcs[f]? with
 | none=>simp [hfn] at hf
 | some fn =>
  simp only [hfn,Option.any_some,ae,beq_iff_eq,Bool.or_eq_true] at hf
  obtain ⟨⟨hn,hb⟩,Ke⟩:=hf
  have FY:=run_callFunc_extern (P:=C.P) hfn (by rw [hn];decide +kernel) hb (wY hn Ke) (wZ hn) #[.string b,.int .u8 c] w
  rw [Lib.run_indexByteString] at FY
  have dX:(execOp a.eval o).run C.P w = .ok (.value (.int .i64 (Lib.indexByte b.data.toList c.toNat.toUInt8))) w:=by
   have he:a.eval (.func f) = .func (.func f) #[] #[]:=rfl
   simp only [execOp,ho,resolve,Deferred.ofValue,he,invoke]
   simpa [e1.ib,e2.ib,resolve,Deferred.ofValue,invoke] using FY
  exact h.gZ hd hl dX (.v _) hK
end
section
variable {C:Ctx} {sg:Nat→dq}
theorem JL:dY C sg .Ju:=by
 intro D σ γ a w dst op ty pos after guard rs ds gd ws gs K' Q h ho hk fg hs hg hK
 simp only [fu,ax] at hg
 subst hg
 obtain ⟨d,rfl,hl,rfl⟩:=gE (l:=[]) hk
 simp only [gq] at ho
 split at ho
 ·rename_i t x y r
  simp only [ae] at ho
  obtain ⟨hx,he⟩:=ho
  obtain ⟨e,he⟩:=Option.isSome_iff_exists.1 he
  simp only [ak,au,gf] at hs
  split at hs
  ·rename_i s' heq
   simp only [ar,and_true,eB.ev] at heq
   subst hs
   exact BM h rfl hl rfl (iA he) hx (bQ fg (by simp [Op.operands])) heq hK
  ·rename_i s' e1 e2 heq
   simp only [ar,and_true,eB.ev] at heq
   subst hs
   exact BM h rfl hl rfl (iA he) hx (bQ fg (by simp [Op.operands])) heq hK
  ·cases hs
 ·cases ho
theorem Jz:dY C sg .Ir:=by
 intro D σ γ a w dst op ty pos after guard rs ds gd ws gs K' Q h ho hk fg hs hg hK
 simp only [fu,ax] at hg
 subst hg
 obtain ⟨d,rfl,hl,rfl⟩:=gE (l:=[]) hk
 simp only [gq] at ho
 split at ho
 ·rename_i g args rN
  simp only [ae,beq_iff_eq] at ho
  obtain ⟨⟨hf,hx⟩,rn⟩:=ho
  obtain ⟨x,y,pk⟩:=wa (l:=args.toList) (by simpa using rn)
  rw [pk] at hx
  obtain ⟨r,q,rfl,hx,hy⟩:=jY hx
  have ea:=sW pk
  subst ea
  simp only [ak,au,gf] at hs
  split at hs
  ·rename_i b c heq
   simp only [ar,and_true,eB.ev] at heq
   subst hs
   exact GY h rfl hl rfl hf hx (bQ fg (by simp [Op.operands,Call.operands])) hy (bQ fg (by simp [Op.operands,Call.operands])) heq.1 heq.2 hK
  ·cases hs
 ·cases ho
end
end Go.Eng
namespace Go.Eng
open Go.RowKit
theorem eL.set {R:Reach} {w:World} {x:AV} {y:Value} (hx:Rep R w x y):∀{xs:List AV} {ys:List Value} {i:Nat},eL R w xs ys→ys[i]?=some y→eL R w (xs.set i x) ys
 | _,_,0,.cons a _ t,e=>by simp at e;subst e;exact .cons a hx t
 | _,_,i+1,.cons a h t,e => .cons a h (eL.set hx t (by simpa using e))
 | _,_,i,.nil,e=>by simp at e
theorem tG (cs:List AV):∀ts:List (Nat × (Nat × Nat)),(kQ cs ts).length=cs.length
 | []=>rfl
 | t :: ts=>by simp [kQ,tG cs ts]
theorem eL.kQ {R:Reach} {w:World} {xs:List AV} {ys:List Value} (h:eL R w xs ys):∀{ts:List (Nat × (Nat × Nat))},(∀t∈ts,ys[t.1]?=some (.slice none 0 0))→eL R w (Eng.kQ xs ts) ys
 | [],_=>h
 | t :: ts,hn=>eL.set (.nil _) (eL.kQ h fun u hu=>hn u (List.mem_cons_of_mem _ hu)) (hn t (List.mem_cons_self ..))
section
variable {C:Ctx} {D:kV} {σ:Sg} {γ:Ga} {a:Act} {w:World}
theorem dU.Fu (h:dU C D σ γ a w) {m:Nat} {us us' ts:List (Nat × (Nat × Nat))} {cs:List AV} (hm:γ m = .cl us) (nh:σ m = .ag cs) (Cw:∀t∈us',t∈us) (oD:∀t∈ts,cs[t.1]?=some .nil)
  (oF:∀t∈ts,γ (lk t.2.1) = .no) (hnd:(ts.map (·.2.1)).Nodup) :
  ∃D',dU C D' (dJ (cQ σ (ts.map fun t=>lk t.2.1) (ts.map fun _ => .dead)) m (.ag (Eng.kQ cs ts))) (dJ (cQ γ (ts.map fun t=>lk t.2.1) (ts.map fun t => .live t.2.2)) m (.cl (us'++ts))) a w:=by
 obtain ⟨vs,td,hc⟩:=h.mem m us hm
 rw [nh] at td
 have pQ:=td.BY
 obtain ⟨elem,hh,hL⟩:=td.ag
 obtain ⟨D1,h1,hR,_,_,ht1,gK,Ep,Er⟩:=h.yP ts oF hnd
 have Od:m<1000000:=(h.nr m (by rw [hm];rfl)).2
 have CE:∀t∈ts,m≠lk t.2.1:=fun t _=>by have:=hU t.2.1;omega
 have pr:cQ γ (ts.map fun t=>lk t.2.1) (ts.map fun t => .live t.2.2) m = .cl us:=by rw [gK m CE];exact hm
 have xU:∀t∈ts,vs[t.1]?=some (.slice none 0 0):=fun t ht=>by
  obtain ⟨y,tV,_,DD⟩:=hL.get t.1 _ (oD t ht)
  rw [aR] at tV
  split at tV
  ·rw [tV,DD.ib]
  ·cases tV
 have Rx:eL D.R w (Eng.kQ cs ts) (vs.take (Eng.kQ cs ts).length):=by
  rw [tG]
  refine eL.kQ hL fun t ht=>?_
  have:=(aC.1 (oD t ht)).1
  rw [aR,ao this]
  exact xU t ht
 have wB:=h.inv m
 rw [hm] at wB
 refine ⟨D1,h1.store (us:=us'++ts) (cs:=vs) pr (w':=w) rfl rfl rfl rfl (fun _ _=>rfl) ?_ fun t ht=>?_⟩
 ·rw [hR,Er];exact ⟨elem,hh,.inr ⟨_,rfl,Rx⟩,pQ⟩
 ·rcases List.mem_append.1 ht with ht | ht
  ·have ht:=Cw t ht
   have lF:=wB t ht
   by_cases hx:∃u∈ts,lk t.2.1=lk u.2.1
   ·obtain ⟨u,hu,e⟩:=hx
    rw [e,oF u hu] at lF;cases lF
   ·have hx:∀u∈ts,lk t.2.1≠lk u.2.1:=fun u hu e=>hx ⟨u,hu,e⟩
    rw [gK _ hx,Ep _ hx];exact ⟨lF,hc t ht⟩
  ·exact ⟨(ht1 t ht).2,by rw [(ht1 t ht).1];exact xU t ht⟩
variable {o:Oper} {d:Nat} {K:Act→World→Prop} {Q:Exit→Act→World→Prop} (h:dU C D σ γ a w)
include h
theorem Hc {x:Operand} {r:eB} {t:TypeId} {m:Nat} {ts:List (Nat × (Nat × Nat))} (hd:o.dst=some d) (hl:d<C.nt) (ho:o.op = .box t x) (hx:dh x r=true) (hY:small C.nt [x]=true) (hp:(r.ev C.E σ).plain=true) (hm:γ m = .no) (h1:C.nt≤m) (h2:m<999999)
  (oD:∀t∈ts,(r.ev C.E σ).cells[t.1]?=some .nil) (oF:∀t∈ts,γ (lk t.2.1) = .no) (hnd:(ts.map (·.2.1)).Nodup)
  (hK:∀D' a' w',dU C D' (cQ σ (d :: m :: ts.map fun t=>lk t.2.1) (.pt :: .ag (Eng.kQ (r.ev C.E σ).cells ts) :: ts.map fun _ => .dead)) (cQ γ (d :: m :: ts.map fun t=>lk t.2.1) (.ptr m 0 :: .cl ts :: ts.map fun t => .live t.2.2)) a' w'→K a' w'):o.wp C.P a w K Q:=by
 have KB:m≠d:=by omega
 have EE:=h.kj
 refine FH h hd hl ho hx hY hp hm h1 h2 fun D' a' w' hS=>?_
 simp only [cQ] at hS
 have Kv:∀k∈ts.map fun t=>lk t.2.1,d≠k:=fun k hk=>by obtain ⟨t,_,rfl⟩:=aT.1 hk;have:=hU t.2.1;omega
 have Pk:d ∉ ts.map fun t=>lk t.2.1:=fun hk=>Kv _ hk rfl
 have CJ:∀k∈ts.map fun t=>lk t.2.1,m≠k:=fun k hk=>by obtain ⟨t,_,rfl⟩:=aT.1 hk;have:=hU t.2.1;omega
 have Ku:m ∉ ts.map fun t=>lk t.2.1:=fun hk=>CJ _ hk rfl
 obtain ⟨D2,h2⟩:=hS.Fu (m:=m) (us:=[]) (us':=[]) (ts:=ts) (by rw [bO _ _ KB,bI]) (by rw [bO _ _ KB,bI]) (by simp) oD (fun t ht=>by
  have e1:=Kv _ (aT.2 ⟨t,ht,rfl⟩)
  have e2:=CJ _ (aT.2 ⟨t,ht,rfl⟩)
  rw [bO _ _ e1.symm,bO _ _ e2.symm];exact oF t ht) hnd
 refine hK D2 a' w' ?_
 rw [iQ Pk,iQ Ku,iQ Pk,iQ Ku,ma _ _ _ KB,ma _ _ _ KB,oa,oa] at h2
 simp only [cQ]
 have c1:∀{X:Type} (f:Nat→X) (p q:X),dJ (dJ f m p) d q=dJ (dJ f d q) m p:=fun f p q=>ma _ _ _ KB
 rw [c1,c1]
 exact h2
theorem GZ {x v:Operand} {r q:eB} {t:TypeId} {inf:TypeInfo} {m o' n:Nat} {cs:List AV} {us ts:List (Nat × (Nat × Nat))} (hd:o.dst=none) (ho:o.op = .store t x v) (hi:C.P.info? t=some inf) (hz:inf.size=n)
  (hx:dh x r=true) (hY:small C.nt [x]=true) (hv:dh v q=true) (pn:small C.nt [v]=true) (hr:r.ev C.E σ = .pt) (hg:r.gh γ = .ptr m o') (hm:γ m = .cl us) (nh:σ m = .ag cs)
  (hp:(q.ev C.E σ).plain=true) (hn:(q.ev C.E σ).cells.length=n) (qy:o'+n≤cs.length)
  (oD:∀t∈ts,(gR cs o' (q.ev C.E σ).cells)[t.1]?=some .nil) (oF:∀t∈ts,γ (lk t.2.1) = .no) (hnd:(ts.map (·.2.1)).Nodup)
  (hK:∀D' a' w',dU C D' (cQ σ (m :: ts.map fun t=>lk t.2.1) (.ag (Eng.kQ (gR cs o' (q.ev C.E σ).cells) ts) :: ts.map fun _ => .dead)) (cQ γ (m :: ts.map fun t=>lk t.2.1) (.cl (us.filter (fun t=>t.1<o' || o'+n≤t.1)++ts) :: ts.map fun t => .live t.2.2)) a' w'→K a' w'):o.wp C.P a w K Q:=by
 have Od:m<1000000:=(h.nr m (by rw [hm];rfl)).2
 have CJ:∀k∈ts.map fun t=>lk t.2.1,m≠k:=fun k hk=>by obtain ⟨t,_,rfl⟩:=aT.1 hk;have:=hU t.2.1;omega
 have Ku:m ∉ ts.map fun t=>lk t.2.1:=fun hk=>CJ _ hk rfl
 refine FE h hd ho hi hz hx hY hv pn hr hg hm nh hp hn qy fun D' a' w' hS=>?_
 obtain ⟨D2,h2⟩:=hS.Fu (m:=m) (us':=us.filter (fun t=>t.1<o' || o'+n≤t.1)) (ts:=ts) (by rw [bI]) (by rw [bI]) (fun t ht=>List.mem_append.2 (.inl ht)) oD (fun t ht=>by
  have e2:=CJ _ (aT.2 ⟨t,ht,rfl⟩)
  rw [bO _ _ e2.symm];exact oF t ht) hnd
 refine hK D2 a' w' ?_
 rw [iQ Ku,iQ Ku,oa,oa] at h2
 exact h2
end
section
variable {C:Ctx} {sg:Nat→dq}
theorem JP {m:Nat} {ts:List (Nat × (Nat × Nat))}:dY C sg (.yn m ts):=by
 intro D σ γ a w dst op ty pos after guard rs ds gd ws gs K' Q h ho hk fg hs hg hK
 simp only [dM,ae,aB,beq_iff_eq] at hk
 obtain ⟨⟨⟨pr,qW⟩,lY,gK⟩,js⟩:=hk
 obtain ⟨d,rfl,hl,rfl⟩:=gE js
 simp only [gq] at ho
 split at ho
 ·rename_i t x r rest
  simp only [List.drop_succ_cons,bg] at gK
  have sC:=lg gK
  subst sC
  simp only [ak,gf] at hs
  obtain ⟨p1,p2,rfl⟩:=hs
  simp only [ak,fu] at hg
  rw [az] at hg
  obtain ⟨⟨c1,c2,c3⟩,hg⟩:=hg
  cases hg
  simp only [List.all_cons,ae,aB,bh,bj,aT] at c2
  refine Hc h rfl hl rfl ho (bQ fg (by simp [Op.operands])) p1 c2.1 pr qW p2 (fun t ht=>c2.2 _ ⟨t,ht,rfl⟩) c3 hK
 ·cases ho
theorem JA {m o' n:Nat} {ts:List (Nat × (Nat × Nat))}:dY C sg (.pF m o' n ts):=by
 intro D σ γ a w dst op ty pos after guard rs ds gd ws gs K' Q h ho hk fg hs hg hK
 simp only [dM,ae,aB,beq_iff_eq,Option.isNone_iff_eq_none] at hk
 obtain ⟨⟨⟨⟨pr,rfl⟩,rfl⟩,lY,gK⟩,y8⟩:=hk
 simp only [gq] at ho
 split at ho
 ·rename_i t x v p q r rest
  simp only [ae,beq_iff_eq] at ho
  obtain ⟨⟨⟨ht,hx⟩,hv⟩,_⟩:=ho
  obtain ⟨inf,h1,h2⟩:=iv ht
  cases q with
  | s j =>
   simp at y8
   subst y8
   simp only [List.drop_succ_cons,bg] at gK
   have sC:=lg gK
   subst sC
   simp only [ak,gf] at hs
   split at hs
   ·rename_i cs y Bt heq
    simp only [ar,eB.ev] at heq
    obtain ⟨e1,e2,e3,e4⟩:=heq
    obtain ⟨p1,p2,p3,p4,rfl⟩:=hs
    subst e3
    simp only [ak,fu] at hg
    split at hg
    ·rename_i m' Lr us g My fC
     simp only [ar,eB.gh] at fC
     obtain ⟨f1,f2,f3,f4⟩:=fC
     subst f4
     rw [az] at hg
     obtain ⟨⟨rfl,rfl,_,c2,c3⟩,hg⟩:=hg
     cases hg
     simp only [bh,bj,aT,aB] at c2
     exact GZ h rfl rfl h1 h2 hx (bQ fg (by simp [Op.operands])) hv (bQ fg (by simp [Op.operands])) e1 f1 f2 e2 p1 p2 p3 p4 (fun t ht=>c2 _ ⟨t,ht,rfl⟩) c3 hK
    ·cases hg
   ·cases hs
  | c=>simp at y8
  | g=>simp at y8
 ·cases ho
end
end Go.Eng
namespace Go.Eng
open Go.RowKit
theorem dq.xH {g:dq} (h:g.plain=true):g.ref=none∧g.fA=[]∧g.own=[]∧g.new=none∧g.fx=[]∧g.ps=none:=by
 simp only [dq.plain,ae,Option.isNone_iff_eq_none,List.isEmpty_iff] at h
 obtain ⟨⟨⟨⟨⟨h1,h2⟩,h3⟩,h4⟩,h5⟩,h6⟩:=h
 exact ⟨h1,h2,h3,h4,h5,h6⟩
theorem gP.set {R:Reach} {w:World} {x:AV} {y:Value} (hx:Rep R w x y):∀{xs:List AV} {ys:List Value} {i:Nat},gP R w xs ys→ys[i]?=some y→gP R w (xs.set i x) ys
 | _,_,0,.cons _ t,e=>by simp at e;subst e;exact .cons hx t
 | _,_,i+1,.cons h t,e => .cons h (gP.set hx t (by simpa using e))
 | _,_,i,.nil,e=>by simp at e
theorem gP.vn {R R':Reach} {w w':World}:∀{xs:List AV} {ys:List Value},gP R w xs ys→(∀x∈xs,∃y,x = .v y)→gP R' w' xs ys
 | _,_,.nil,_ => .nil
 | _,_,.cons h t,hv=>by
  obtain ⟨y,rfl⟩:=hv _ (List.mem_cons_self ..)
  cases h
  exact .cons (.v _) (t.vn fun x hx=>hv x (List.mem_cons_of_mem _ hx))
section
variable {C:Ctx} {D:kV} {σ:Sg} {γ:Ga} {a:Act} {w:World}
variable {o:Oper} {d:Nat} {K:Act→World→Prop} {Q:Exit→Act→World→Prop} (h:dU C D σ γ a w)
include h
theorem BI (hd:o.dst=some d) (hl:d<C.nt) {f n i m:Nat} {args:Array Operand} {ts:Array TypeId} {rs:List eB} {cs outs:List AV} {us:List (Nat × (Nat × Nat))} (ho:o.op = .call { callee := .value (.func f),args,argTypes:=ts }) (hp:jB C.P f=true)
  {S:FS} (hS:fH C.P C.E.gl f S) (HB:S.sg.plain=true) (hn:S.sg.cS=n) (hx:dk args.toList rs=true) (fg:small C.nt args.toList=true)
  (AS:(rs.map (eB.ev C.E σ))[i]?=some .pt) (HK:(rs.map (eB.gh γ))[i]?=some (.ptr m 0)) (hm:γ m = .cl us) (nh:σ m = .ag cs)
  (hG:S.G ((rs.map (eB.ev C.E σ)).set i (.ro (.ag cs))) outs) (tW:outs.length=n) (N5:∀x∈outs,∃y,x = .v y)
  (hK:∀D' a' w',dU C D' (dJ σ d (if n=1 then outs.headD .dead else .tu outs)) (dJ γ d .no) a' w'→K a' w'):o.wp C.P a w K Q:=by
 obtain ⟨p1,p2,p3,p4,p5,p6⟩:=dq.xH HB
 obtain ⟨vs,td,_⟩:=h.mem m us hm
 rw [nh] at td
 have pQ:=td.BY
 have gM:=td.lt
 obtain ⟨elem,hh,hL⟩:=td.ag
 obtain ⟨v,hv1,_,hv2⟩:=BH h hx fg AS (by simp) (by simp)
 have z7:v = .pointer (some ⟨D.β m,0,none⟩):=hv2 _ HK
 subst z7
 have hT:=h.vS hx fg
 let R1:Reach:=fun b o=>D.R b o∨(b=D.β m∧o<cs.length)
 have k1:gF D.R w R1 w:=fun b o hr=>⟨.inl hr,rfl⟩
 have hle:cs.length≤vs.length:=by have:=hL.length;simp at this;omega
 have QQ:Rep R1 w (.ro (.ag cs)) (.pointer (some ⟨D.β m,0,none⟩)):=by
  refine .ro (.ag rfl (kn.write (hL.mono k1) (fun j hj => .inr ⟨rfl,by simp at hj;omega⟩) (fun j y hy=>?_)))
  rw [aR] at hy
  split at hy
  ·simp only [World.cell?,hh];simpa using hy
  ·cases hy
 have hA:jG S.sg R1 w ((rs.map (eB.ev C.E σ)).set i (.ro (.ag cs))) (args.toList.map a.eval):=by
  unfold jG
  rw [p1]
  exact gP.set QQ (hT.mono k1) hv1
 unfold Oper.wp
 rw [pZ ho hp,Oper.upon_enter]
 have:=hS.1 p6 w R1 _ outs (args.toList.map a.eval) hG (fun b o hr=>by
  rcases hr with hr | ⟨rfl,_⟩
  ·exact h.ns b o hr
  ·exact gM) (fun n=>(h.gl n).mono k1) hA
 have e:(⟨args.toList.map a.eval⟩:Array Value)=args.map a.eval:=by apply Array.ext';simp
 rw [e] at this
 refine this.mono ?_
 rintro e w' ⟨x,R',rfl,h1,h2,h3⟩
 simp only
 rw [hd]
 obtain ⟨ki,tr,gW,tn,bn,br,cn,cr,q1,q2,q3,q4,_⟩:=h3
 have wD:∀b,¬ot S.sg w (args.toList.map a.eval) b:=fun b hb=>by unfold ot at hb;rw [p1] at hb;exact hb
 have hg:=h.grow (w':=w') (R':=D.R) h1.os h1.tape h1.output h1.size (fun b hb=>h1.heap b hb (wD b)) (fun _ _ h=>h) (fun _ _ h => .inl h) (fun b o hr=>Nat.lt_of_lt_of_le (h.ns b o hr) h1.size)
 have e1:(outs.take S.sg.cS).mapIdx (fun i y=>if S.sg.new=some i then AV.pt else y)=outs:=by
  rw [p4,List.take_of_length_le (by omega)]
  apply List.ext_getElem?
  intro j
  simp
 rw [e1] at q4
 exact hK _ _ _ (dU.xF hg hl (q1.trans hn) (by rw [←hn];exact q2) (q4.vn N5) tW)
end
section
variable {C:Ctx} {sg:Nat→dq}
theorem Eg (hE:∀f,fH C.P C.E.gl f (C.E.fs f)∧(C.E.fs f).sg=sg f) {f n cS i m:Nat}:dY C sg (.lj f n cS i m):=by
 intro D σ γ a w dst op ty pos after guard rs ds gd ws gs K' Q h ho hk fg hs hg hK
 simp only [dM,ae,aB,beq_iff_eq,ak,au] at hk
 obtain ⟨⟨_,lY,gK⟩,js⟩:=hk
 obtain ⟨d,rfl,hl,rfl⟩:=gE (l:=[]) js
 simp only [gq] at ho
 split at ho
 ·rename_i g args rN
  simp only [ae,beq_iff_eq,aB] at ho
  obtain ⟨⟨⟨⟨⟨rfl,FQ⟩,lD,hn⟩,hx⟩,rn⟩,Ae⟩:=ho
  rw [←(hE f).2] at lD hn
  have FO:(rs.take n).length=n:=by rw [←iM hx];simpa using rn
  have wq:small C.nt args.toList=true:=kq fg (fun x hx=>by
   have:x∈args:=by simpa using hx
   simp only [Op.operands,Call.operands,Array.toList_append,List.mem_append]
   exact .inr hx)
  have ni:rs.drop n=[.s m]:=by
   simp only [aF,aA] at lY
   obtain ⟨q,hq⟩:=len1 (l:=rs.drop n) (by rw [aW];omega)
   rw [hq] at gK ⊢
   cases q <;> simp at gK
   rw [gK]
  have sC:rs=rs.take n++[.s m]:=by rw [←ni,List.take_append_drop]
  simp only [gf] at hs
  obtain ⟨cs,outs,v1,v2,hG,tW,N5,rfl⟩:=hs
  have CH:∀{X:Type} (F:eB→X),(rs.map F)[n]?=some (F (.s m)):=fun F=>by
   have h1:rs[n]?=some (.s m):=by rw [sC,aS (by omega),FO];simp
   rw [aL,h1];rfl
  have hi:∀{X:Type} (F:eB→X),((rs.take n).map F)[i]?=(rs.map F)[i]?:=fun F=>by
   rw [List.map_take,aR,ao Ae]
  simp only [fu] at hg
  split at hg
  ·rename_i us g2
   rw [az] at hg
   obtain ⟨g1,hg⟩:=hg
   cases hg
   rw [CH] at v1 g2
   simp only [eB.ev,eB.gh,ax] at v1 g2
   rw [←hi] at v2 g1
   rw [←List.map_take] at hG
   exact BI h rfl hl rfl FQ (hE f).1 lD hn hx wq v2 g1 g2 v1 hG tW N5 hK
  ·cases hg
 ·cases ho
end
end Go.Eng
namespace Go.Eng
open Go.RowKit
section
variable {C:Ctx} {sg:Nat→dq}
theorem rF {α β:Type} {f g:α→β}:∀{l:List α},l.map f=l.map g→∀x∈l,f x=g x
 | [],_,_,hx=>by cases hx
 | a :: l,h,x,hx=>by
  simp only [ak,ar] at h
  rcases bq.1 hx with rfl | hx
  ·exact h.1
  ·exact rF h.2 x hx
theorem Hn (hE:∀f,fH C.P C.E.gl f (C.E.fs f)∧(C.E.fs f).sg=sg f) {f:Nat} {c:CS}:dY C sg (.call f c):=by
 intro D σ γ a w dst op ty pos after guard rs ds gd ws gs K' Q h ho hk fg hs hg hK
 simp only [dM,ae,beq_iff_eq,aB] at hk
 obtain ⟨⟨⟨QX,lY,gK⟩,js⟩,hnd⟩:=hk
 obtain ⟨d,rfl,hl,rfl⟩:=gE js
 simp only [gq] at ho
 split at ho
 ·rename_i g args rN
  simp only [ae,beq_iff_eq] at ho
  obtain ⟨⟨⟨⟨rfl,FQ⟩,qy⟩,hx⟩,rn⟩:=ho
  rw [←(hE f).2] at qy
  obtain ⟨f1,f2,f3,f4,f5,f6,f7,f8,f9,f10,f11,f12,f13⟩:=qC qy
  have ni:rs.drop c.n=(c.jE++c.lT).map eB.s:=lg gK
  have sC:rs=rs.take c.n++(c.jE++c.lT).map eB.s:=by rw [←ni,List.take_append_drop]
  have FO:(rs.take c.n).length=c.n:=by rw [←iM hx];simpa using rn
  have wq:small C.nt args.toList=true:=kq fg (fun x hx=>by
   have:x∈args:=by simpa using hx
   simp only [Op.operands,Call.operands,Array.toList_append,List.mem_append]
   exact .inr hx)
  simp only [gf] at hs
  obtain ⟨Ez,outs,hG,tW,rfl⟩:=hs
  have nP:∀m∈c.jE,C.nt≤m∧m<1000000:=fun m hm=>by
   have:=bj.1 QX m hm
   simpa using this
  -- the OL
  simp only [fu] at hg
  rw [az] at hg
  obtain ⟨hc,hg⟩:=hg
  ·cases hg
   obtain ⟨c1,c2,c3⟩:=hc
   rw [←List.map_drop,ni,bh] at c1 c2 c3
   have HK:(eB.gh γ ∘ eB.s)=γ:=rfl
   rw [HK] at c1 c2 c3
   cases jb:c.ref with
   | none =>
    have wm:=f9 jb
    have hm:c.jE=(c.new.map (·.2)).toList:=by simp [CS.jE,jb]
    rw [hm] at c1 c2 c3
    simp only [jb,Option.map_none,Option.toList_none,aA,List.take_zero,Nat.add_zero,List.map_append] at c1 c2 c3
    have e1:((List.map γ (c.new.map (·.2)).toList++List.map γ c.lT).take (c.new.map (·.2)).toList.length)=List.map γ (c.new.map (·.2)).toList:=List.take_left' (by simp)
    rw [e1] at c1 c3
    have e2:((List.map γ (c.new.map (·.2)).toList++List.map γ c.lT).drop (List.map γ (c.new.map (·.2)).toList).length)=List.map γ c.lT:=List.drop_left' rfl
    rw [e2,wm] at c3
    simp only [CS.lT,wm,bA,au,bh,List.map_append] at c3
    have HD:∀t∈c.iu++c.own++c.fx,γ (lk t.2.1) = .no:=rF (by simpa [Function.comp_def] using c3)
    have HI:c.ins (rs.map (eB.ev C.E σ))=(rs.take c.n).map (eB.ev C.E σ):=by simp [CS.ins,jb,List.map_take]
    rw [HI] at hG
    exact BO h rfl hl rfl FQ (hE f).1 qy jb hx wq hG tW (fun q hq=>by
      have QS:q.2∈c.jE:=by rw [hm,hq];simp
      refine ⟨?_,nP _ QS⟩
      simp only [hq,Option.map_some,Option.toList_some,ak,au,List.all_cons,List.all_nil,Bool.and_true,aB] at c1
      exact c1) (fun t ht=>HD t (by
       rcases List.mem_append.1 ht with ht | ht
       ·simp [ht]
       ·simp [ht])) hK
   | some im =>
    obtain ⟨i,m⟩:=im
    have jP:c.new=none:=by
     rcases f11 with e | e
     ·rw [jb] at e;cases e
     ·exact e
    have qV:=f10 jP
    have hm:c.jE=[m]:=by simp [CS.jE,jb,jP]
    rw [hm] at c1 c2 c3
    simp only [jb,jP,qV,Option.map_none,Option.map_some,Option.toList_none,Option.toList_some,aA,List.take_zero,aF,Nat.zero_add,bg,List.map_append,ak,au,List.cons_append,bA,List.take_succ_cons,List.drop_succ_cons,aO] at c2 c3
    split at c2
    ·rename_i i' m' ts e1 e2
     cases e1
     simp only [ar,and_true] at e2
     simp only [aB] at c2
     obtain ⟨d1,d2,d3⟩:=c2
     simp only [CS.lT,qV,aO,List.map_append,bh,aU] at c3
     rw [←List.map_append,←List.map_append (f:=fun _=>Gh.no)] at c3
     obtain ⟨p1,p2⟩:=List.append_inj c3 (by simp)
     have kR:∀t∈c.kD,γ (lk t.2.1) = .live t.2.2:=rF (by simpa [Function.comp_def] using p1)
     have oF:∀t∈c.iu++c.own,γ (lk t.2.1) = .no:=rF (by simpa [Function.comp_def] using p2)
     rw [jb] at Ez
     simp only at Ez
     have AS:((rs.take c.n).map (eB.ev C.E σ))[i]?=some .pt:=by
      rw [List.map_take,aR,ao d2];exact Ez
     have Rd:((rs.take c.n).map (eB.gh γ))[i]?=some (.ptr m 0):=by
      rw [List.map_take,aR,ao d2];exact d1
     have HI:c.ins (rs.map (eB.ev C.E σ))=((rs.take c.n).map (eB.ev C.E σ)).set i (σ m):=by
      simp only [CS.ins,jb,jP,Option.map_none,Option.toList_none,aA,Nat.add_zero,List.map_take]
      congr 1
      have:rs[c.n]?=some (.s m):=by
       rw [sC,aS (by omega),FO,hm];simp
      simp [List.getD,this,eB.ev]
     rw [HI] at hG
     exact BN h rfl hl rfl FQ (hE f).1 qy jb hx wq AS Rd e2 d3 kR hG tW oF hK
    ·rename_i e _;cases e
    ·cases c2
 ·cases ho
theorem yT (hE:∀f,fH C.P C.E.gl f (C.E.fs f)∧(C.E.fs f).sg=sg f) (k:K):dY C sg k:=by
 cases k with
 | mv=>exact MO
 | pick=>exact Hm
 | bin b=>exact JR
 | be n=>exact M6
 | un b=>exact MF
 | ci k=>exact M1
 | cs=>exact M0
 | sb=>exact MK
 | DV k=>exact JB
 | bs=>exact M4
 | len=>exact JO
 | uO=>exact JN
 | mn=>exact MP
 | mx=>exact MN
 | ix s=>exact MU
 | si=>exact MI
 | ai n s a=>exact Nb
 | fe o n a=>exact MW
 | sc s l h=>exact MJ
 | ss l h=>exact MH
 | bl s n=>exact M5
 | blt s n k=>exact JQ
 | bd z p=>exact M7
 | al m z t=>exact Na
 | bx m=>exact M3
 | ld m o n a=>exact k_ld
 | st m o n=>exact MG
 | lr n a=>exact MR
 | fa m o d=>exact MY
 | fr o n a=>exact MV
 | nc m o=>exact MM
 | FK=>exact JM
 | ex i=>exact MZ
 | ap k d s b=>exact M8
 | zp k d b=>exact JS
 | an d s b=>exact M9
 | Gn d b=>exact JU
 | mk d s b z=>exact MQ
 | nl d s=>exact ML
 | Fw k=>exact JD
 | Fy k=>exact JG
 | FA k s=>exact JI
 | GQ k o=>exact JK
 | Fz k s n a=>exact JH
 | Fv k s n=>exact JC
 | FB k s=>exact JJ
 | jK f n r i k s=>exact Ei hE
 | mq f n r i s=>exact Eh hE
 | AO k d s b=>exact JE
 | Fx k=>exact JF
 | Fi k d q s b=>exact JT
 | la m n s=>exact MT
 | ll m s=>exact MS
 | Ju=>exact JL
 | Ir=>exact Jz
 | lj f n r i m=>exact Eg hE
 | FJ b =>
  intro D σ γ a w dst op ty pos after guard rs ds gd ws gs K' Q h ho hk fg hs
  exact hs.elim
 | yn m ts=>exact JP
 | pF m o n ts=>exact JA
 | call f c=>exact Hn hE
end
end Go.Eng
namespace Go.Eng
open Go.RowKit
section
variable {X:Type}
def agree (l:List Nat) (σ τ:Nat→X):Prop:=∀k∈l,σ k=τ k
def qd (R:(Nat→X)→List X→Prop) (ds:List Nat) (σ eO:Nat→X):Prop:=∃ws,R σ ws∧ws.length=ds.length∧eO=cQ σ ds ws
def Local (rs:List Nat) (R:(Nat→X)→List X→Prop):Prop:=∀σ τ ws,agree rs σ τ→R σ ws→R τ ws
theorem qd.swap {R S:(Nat→X)→List X→Prop} {d e r s:List Nat} (lr:Local r R) (ls:Local s S) (h1:∀k∈d,k ∉ s) (h2:∀k∈d,k ∉ e) (h3:∀k∈e,k ∉ r) {σ xx DB:Nat→X}
  (a:qd R d σ xx) (b:qd S e xx DB):∃ID,qd S e σ ID∧qd R d ID DB:=by
 obtain ⟨ws,hR,hl,rfl⟩:=a
 obtain ⟨vs,hS,hm,rfl⟩:=b
 exact ⟨cQ σ e vs,⟨vs,ls _ _ _ (fun k hk=>jf fun hd=>h1 k hd hk) hS,hm,rfl⟩,ws,lr _ _ _ (fun k hk=>(jf fun he=>h3 k he hk).symm) hR,hl,qh h2⟩
end
def RS (E:Env) (m:ov) (σ:Sg) (ws:List AV):Prop :=
 match lU σ m.gd with
 | some true=>gf E m.k (m.rs.map (eB.ev E σ)) ws
 | some false=>ws=m.ds.map fun _ => .sk
 | none=>False
def RG (m:ov) (γ:Ga) (gs:List Gh):Prop:=fu m.k (m.rs.map (eB.gh γ))=some gs
theorem mem_reads {m:ov} {t:Nat} (h:eB.s t∈m.rs):t∈m.reads :=
 List.mem_append_left _ (List.mem_filterMap.2 ⟨_,h,rfl⟩)
theorem xu (E:Env) (m:ov):Local m.reads (RS E m):=by
 intro σ τ ws h
 have h1:lU σ m.gd=lU τ m.gd:=by
  cases hg:m.gd with
  | none=>rfl
  | some q =>
   obtain ⟨t,b⟩:=q
   have:σ t=τ t:=h t (by simp [ov.reads,hg])
   simp only [lU,this]
 have h2:m.rs.map (eB.ev E σ)=m.rs.map (eB.ev E τ):=List.map_congr_left fun r hr=>by
  cases r with
  | s t=>exact h t (mem_reads hr)
  | c x=>rfl
  | g n=>rfl
 unfold RS
 rw [h1,h2]
 exact id
theorem xv (m:ov):Local m.reads (RG m):=by
 intro σ τ ws h
 have h2:m.rs.map (eB.gh σ)=m.rs.map (eB.gh τ):=List.map_congr_left fun r hr=>by
  cases r with
  | s t=>exact h t (mem_reads hr)
  | c x=>rfl
  | g n=>rfl
 unfold RG
 rw [h2]
 exact id
def zE (E:Env):List ov→Sg→Ga→Sg→Ga→Prop
 | [],σ,γ,eO,nu=>eO=σ∧nu=γ
 | m :: ms,σ,γ,eO,nu=>∃xx Fo,qd (RS E m) m.ds σ xx∧qd (RG m) m.ds γ Fo∧zE E ms xx Fo eO nu
theorem yl {n m:ov} (h:zj n m=false):(∀k∈n.ds,k ∉ m.reads)∧(∀k∈n.ds,k ∉ m.ds)∧(∀k∈m.ds,k ∉ n.reads):=by
 simp only [zj,Bool.or_eq_false_iff,List.any_eq_false,Bool.not_eq_true,List.contains_eq_mem,decide_eq_false_iff_not] at h
 exact ⟨fun k hk=>(h.1 k hk).1,fun k hk=>(h.1 k hk).2,fun k hk=>h.2 k hk⟩
theorem r9 {E:Env} {m:ov} {B:List ov}:∀{A:List ov} {σ eO:Sg} {γ nu:Ga},zE E (A++m :: B) σ γ eO nu→(∀n∈A,zj n m=false)→zE E (m :: (A++B)) σ γ eO nu
 | [],_,_,_,_,h,_=>h
 | n :: A,σ,eO,γ,nu,h,hc=>by
  obtain ⟨xx,Fo,s,g,h⟩:=h
  obtain ⟨DB,Qb,s2,g2,h⟩:=r9 h fun x hx=>hc x (List.mem_cons_of_mem _ hx)
  obtain ⟨c1,c2,c3⟩:=yl (hc n (List.mem_cons_self ..))
  obtain ⟨P8,s3,s4⟩:=s.swap (xu E n) (xu E m) c1 c2 c3 s2
  obtain ⟨Qa,g3,g4⟩:=g.swap (xv n) (xv m) c1 c2 c3 g2
  exact ⟨P8,Qa,s3,g3,DB,Qb,s4,g4,h⟩
theorem GL.pS:∀{G:GL} {ts:List Nat} {xs:List Gh},(GL.cQ G ts xs).get=Eng.cQ G.get ts xs
 | G,t :: ts,x :: xs=>by
  funext k
  simp only [GL.cQ,GL.get,Eng.cQ,dJ,GL.pS (G:=G) (ts:=ts) (xs:=xs)]
 | G,[],_=>by simp [GL.cQ,Eng.cQ]
 | G,_ :: _,[]=>by simp [GL.cQ,Eng.cQ]
theorem yF {E:Env}:∀{ms:List ov} {σ eO:Sg} {G G':GL},Bq E ms σ eO→Am ms G=some G'→zE E ms σ G.get eO G'.get
 | [],_,_,_,_,h,g=>by
  simp only [Am,ax] at g
  subst g
  exact ⟨h,rfl⟩
 | m :: ms,σ,eO,G,G',⟨xx,s,h⟩,g=>by
  simp only [Am,F9,bt] at g
  obtain ⟨G1,⟨gs,g1,g2⟩,g3⟩:=g
  rw [az] at g2
  obtain ⟨hl,e⟩:=g2
  cases e
  exact ⟨xx,_,s,⟨gs,g1,hl,GL.pS⟩,yF h g3⟩
section
variable {C:Ctx} {D:kV} {σ:Sg} {γ:Ga} {a:Act} {w:World}
theorem dU.vX (h:dU C D σ γ a w) (r:eB):gn γ (r.gh γ):=by
 cases r with
 | s t=>exact h.inv t
 | c x=>trivial
 | g n=>trivial
theorem Ba {γ:Ga} {g:Gh} (h:gn γ g):g.strip.gy=false∧g.strip.fL=false∧gn γ g.strip:=by
 cases g <;> first | exact ⟨rfl,rfl,trivial⟩ | exact ⟨rfl,rfl,h⟩
theorem E3 {γ:Ga} {g:Gh} (h:gn γ g) (i:Nat):(g.comp i).gy=false∧(g.comp i).fL=false∧gn γ (g.comp i):=by
 cases g with
 | yy ts p =>
  simp only [Gh.comp]
  split
  ·rename_i q k s e
   exact ⟨rfl,rfl,h.1 _ (List.mem_of_find?_eq_some e)⟩
  ·split
   ·rename_i j m
    split
    ·exact ⟨rfl,rfl,h.2 _ rfl⟩
    ·exact ⟨rfl,rfl,trivial⟩
   ·exact ⟨rfl,rfl,trivial⟩
 | _=>exact ⟨rfl,rfl,trivial⟩
theorem px {nt:Nat} {dst:Option Nat} {x:Nat} {l ds:List Nat} (h:(match dst with | some d=>decide (d<nt)&&ds == d :: x :: l | none=>false)=true) (hl:ds.length=1):False:=by
 obtain ⟨d,_,_,rfl⟩:=gE h
 simp at hl
theorem OS {nt:Nat} {dst:Option Nat} {l ds:List Nat} (hl:ds.length=1) (h:(match dst with | some d=>decide (d<nt)&&ds == d :: l | none=>false)=true):∃d,dst=some d∧d<nt∧ds=[d]∧l=[]:=by
 obtain ⟨d,h1,h2,rfl⟩:=gE h
 have:l=[]:=by simpa using hl
 subst this
 exact ⟨d,h1,h2,rfl,rfl⟩
theorem BQ (h:dU C D σ γ a w) {k:K} {rs:List eB} {ds:List Nat} {gd:Option (Nat × Bool)} {dst:Option Nat} {gs:List Gh} (hk:dM C.nt dst ⟨k,rs,ds,gd⟩=true)
  (hl:ds.length=1) (hd:dst.isSome=true) (hg:fu k (rs.map (eB.gh γ))=some gs) :
  ∃d g,dst=some d∧d<C.nt∧ds=[d]∧(gs.length=1→gs=[g])∧g.gy=false∧g.fL=false∧gn γ g:=by
 have base:=fun (l:List Nat)=>OS (nt:=C.nt) (dst:=dst) (l:=l) hl
 cases k
 case mv =>
  obtain ⟨d,h1,h2,h3,-⟩:=base [] hk
  simp only [fu] at hg
  split at hg
  ·rename_i g e
   cases hg
   cases rs with
   | nil=>simp at e
   | cons r rs =>
    simp only [ak,ar] at e
    obtain ⟨q1,q2,q3⟩:=Ba (e.1 ▸ h.vX r)
    exact ⟨d,_,h1,h2,h3,fun _=>rfl,q1,q2,q3⟩
  ·cases hg
 case ex i =>
  obtain ⟨d,h1,h2,h3,-⟩:=base [] hk
  simp only [fu] at hg
  split at hg
  ·rename_i g e
   cases hg
   cases rs with
   | nil=>simp at e
   | cons r rs =>
    simp only [ak,ar] at e
    obtain ⟨q1,q2,q3⟩:=E3 (e.1 ▸ h.vX r) i
    exact ⟨d,_,h1,h2,h3,fun _=>rfl,q1,q2,q3⟩
  ·cases hg
 case fa m o x =>
  obtain ⟨d,h1,h2,h3,-⟩:=base [] hk
  simp only [fu] at hg
  split at hg
  ·rename_i m' o' e
   rw [az] at hg
   obtain ⟨⟨rfl,rfl⟩,hg⟩:=hg
   cases hg
   cases rs with
   | nil=>simp at e
   | cons r rs =>
    simp only [ak,ar] at e
    have:=e.1 ▸ h.vX r
    exact ⟨d,_,h1,h2,h3,fun _=>rfl,rfl,rfl,this⟩
  ·cases hg
 case nc m o =>
  obtain ⟨d,h1,h2,h3,-⟩:=base [] hk
  simp only [fu] at hg
  split at hg
  ·rename_i m' o' e
   rw [az] at hg
   obtain ⟨⟨rfl,rfl⟩,hg⟩:=hg
   cases hg
   cases rs with
   | nil=>simp at e
   | cons r rs =>
    simp only [ak,ar] at e
    have:=e.1 ▸ h.vX r
    exact ⟨d,_,h1,h2,h3,fun _=>rfl,rfl,rfl,this⟩
  ·cases hg
 case ld m o n agg =>
  simp only [dM,ae] at hk
  obtain ⟨d,h1,h2,h3,-⟩:=base [] hk.2
  simp only [fu] at hg
  split at hg
  ·rename_i m' o' ts e
   rw [az] at hg
   obtain ⟨⟨rfl,rfl⟩,hg⟩:=hg
   cases hg
   have hm:gn γ (.cl ts):=by
    match rs,e with
    | [r,q],e =>
     simp only [ak,au,ar] at e
     exact e.2.1 ▸ h.vX q
   refine ⟨d,_,h1,h2,h3,fun _=>rfl,?_⟩
   split
   ·exact ⟨rfl,rfl,trivial⟩
   ·split
    ·rename_i q k s e
     exact ⟨rfl,rfl,hm _ (List.mem_of_find?_eq_some e)⟩
    ·exact ⟨rfl,rfl,trivial⟩
  ·cases hg
 case call f c =>
  simp only [dM,ae] at hk
  obtain ⟨d,h1,h2,h3,h4⟩:=base _ hk.1.2
  simp only [fu] at hg
  rw [az] at hg
  obtain ⟨_,hg⟩:=hg
  cases hg
  rw [List.append_eq_nil_iff] at h4
  obtain ⟨h4,h5⟩:=h4
  simp only [CS.jE,List.append_eq_nil_iff] at h4
  simp only [CS.lT,List.map_eq_nil_iff,List.append_eq_nil_iff] at h5
  have hn:c.new=none:=by cases hc:c.new <;> simp_all
  refine ⟨d,c.dg,h1,h2,h3,fun hl=>?_,?_⟩
  ·simp only [aF,Nat.add_eq_right,List.length_eq_zero_iff] at hl
   rw [hl]
  ·simp only [CS.dg,hn,h5.1.2]
   split
   ·exact ⟨rfl,rfl,trivial⟩
   ·refine ⟨rfl,rfl,?_⟩
    simp [gn]
 case st m o n =>
  simp only [dM,ae,Option.isNone_iff_eq_none] at hk
  rw [hk.1.1.2] at hd
  cases hd
 case al m z ts=>simp only [dM,ae] at hk;exact (px hk.2 hl).elim
 case bx m=>simp only [dM,ae] at hk;exact (px hk.2 hl).elim
 case DV k=>simp only [dM,ae] at hk;exact (px hk.2 hl).elim
 case blt s n k=>simp only [dM,ae] at hk;exact (px hk.2 hl).elim
 case ap=>simp only [dM,ae] at hk;exact (px hk.2 hl).elim
 case zp=>simp only [dM,ae] at hk;exact (px hk.2 hl).elim
 case an=>simp only [dM,ae] at hk;exact (px hk.2 hl).elim
 case Gn=>simp only [dM,ae] at hk;exact (px hk.2 hl).elim
 case mk=>simp only [dM,ae] at hk;exact (px hk.2 hl).elim
 case nl=>simp only [dM,ae] at hk;exact (px hk.2 hl).elim
 case AO=>simp only [dM,ae] at hk;exact (px hk.2 hl).elim
 case Fi=>simp only [dM,ae] at hk;exact (px hk.2 hl).elim
 case jK f n cS i k s =>
  simp only [dM,ae] at hk
  obtain ⟨d,h1,h2,h3,-⟩:=base [] hk.2
  simp only [fu] at hg
  rw [az] at hg
  obtain ⟨_,hg⟩:=hg
  cases hg
  exact ⟨d,.no,h1,h2,h3,fun _=>rfl,rfl,rfl,trivial⟩
 case mq f n cS i s =>
  simp only [dM,ae] at hk
  obtain ⟨d,h1,h2,h3,-⟩:=base [] hk.2
  simp only [fu,ax] at hg
  exact ⟨d,.no,h1,h2,h3,fun _=>hg.symm,rfl,rfl,trivial⟩
 case Fx k =>
  simp only [dM,ae] at hk
  obtain ⟨d,h1,h2,h3,-⟩:=base [] hk.2
  simp only [fu] at hg
  split at hg
  ·rw [az] at hg
   obtain ⟨_,hg⟩:=hg
   cases hg
   exact ⟨d,.no,h1,h2,h3,fun _=>rfl,rfl,rfl,trivial⟩
  ·cases hg
 case ll m s =>
  simp only [dM,ae] at hk
  obtain ⟨d,h1,h2,h3,-⟩:=base [] hk.2
  simp only [fu] at hg
  split at hg
  ·rw [az] at hg
   obtain ⟨_,hg⟩:=hg
   cases hg
   exact ⟨d,.no,h1,h2,h3,fun _=>rfl,rfl,rfl,trivial⟩
  ·cases hg
 case la m n s =>
  simp only [dM,ae] at hk
  obtain ⟨d,h1,h2,h3,-⟩:=base [] hk.2
  simp only [fu] at hg
  split at hg
  ·rename_i m' o' g0 ts e
   rw [az] at hg
   obtain ⟨⟨rfl,rfl,_⟩,hg⟩:=hg
   cases hg
   cases rs with
   | nil=>simp at e
   | cons r rs =>
    simp only [ak,ar] at e
    have:=e.1 ▸ h.vX r
    exact ⟨d,_,h1,h2,h3,fun _=>rfl,rfl,rfl,this⟩
  ·cases hg
 case Fw=>simp only [dM,ae] at hk;exact (px hk.2 hl).elim
 case FB k s =>
  simp only [dM,ae] at hk
  obtain ⟨_,hk⟩:=hk
  split at hk
  ·simp only [ae] at hk
   exact (px hk.2 hl).elim
  ·cases hk
 case Fv k s n =>
  simp only [dM,ae,Option.isNone_iff_eq_none] at hk
  rw [hk.1.1] at hd
  cases hd
 case lj f n cS i m =>
  simp only [dM,ae] at hk
  obtain ⟨d,h1,h2,h3,-⟩:=base [] hk.2
  simp only [fu] at hg
  split at hg
  ·rw [az] at hg
   obtain ⟨_,hg⟩:=hg
   cases hg
   exact ⟨d,.no,h1,h2,h3,fun _=>rfl,rfl,rfl,trivial⟩
  ·cases hg
 case FJ b =>
  cases b with
  | true =>
   obtain ⟨d,h1,h2,h3,-⟩:=base [] hk
   simp only [fu,if_true,ax] at hg
   exact ⟨d,.no,h1,h2,h3,fun _=>hg.symm,rfl,rfl,trivial⟩
  | false =>
   simp only [dM,ae,Option.isNone_iff_eq_none] at hk
   rw [hk.1] at hd
   cases hd
 case yn=>simp only [dM,ae] at hk;exact (px hk.2 hl).elim
 case pF m o n ts =>
  simp only [dM,ae,Option.isNone_iff_eq_none] at hk
  rw [hk.1.1.1.2] at hd
  cases hd
 case Fy k =>
  simp only [dM,ae] at hk
  obtain ⟨d,h1,h2,h3,-⟩:=base [] hk.2
  simp only [fu] at hg
  split at hg
  ·rw [az] at hg
   obtain ⟨_,hg⟩:=hg
   cases hg
   exact ⟨d,.no,h1,h2,h3,fun _=>rfl,rfl,rfl,trivial⟩
  ·cases hg
 case Fz k s n agg =>
  simp only [dM,ae] at hk
  obtain ⟨d,h1,h2,h3,-⟩:=base [] hk.2
  simp only [fu] at hg
  split at hg
  ·rw [az] at hg
   obtain ⟨_,hg⟩:=hg
   cases hg
   exact ⟨d,.no,h1,h2,h3,fun _=>rfl,rfl,rfl,trivial⟩
  ·cases hg
 case FA k s =>
  simp only [dM,ae] at hk
  obtain ⟨d,h1,h2,h3,-⟩:=base [] hk.2
  simp only [fu] at hg
  split at hg
  ·rename_i k' s0 g0 s1 e
   rw [az] at hg
   obtain ⟨⟨rfl,rfl⟩,hg⟩:=hg
   cases hg
   cases rs with
   | nil=>simp at e
   | cons r rs =>
    simp only [ak,ar] at e
    have:=e.1 ▸ h.vX r
    exact ⟨d,_,h1,h2,h3,fun _=>rfl,rfl,rfl,this⟩
  ·cases hg
 case GQ k o =>
  obtain ⟨d,h1,h2,h3,-⟩:=base [] hk
  simp only [fu] at hg
  split at hg
  ·rename_i k' e
   rw [az] at hg
   obtain ⟨rfl,hg⟩:=hg
   cases hg
   cases rs with
   | nil=>simp at e
   | cons r rs =>
    simp only [ak,ar] at e
    have:=e.1 ▸ h.vX r
    exact ⟨d,_,h1,h2,h3,fun _=>rfl,rfl,rfl,this⟩
  ·cases hg
 all_goals
  obtain ⟨d,h1,h2,h3,-⟩:=base [] hk
  simp only [fu,ax] at hg
  exact ⟨d,.no,h1,h2,h3,fun _=>hg.symm,rfl,rfl,trivial⟩
theorem AY (h:dU C D σ γ a w) {ops:Array Oper} {j d:Nat} {x:Bool} (hd:d<C.nt) (hj:(ops[j]?).bind (·.dst)=some d) (hx:σ d = .v (.bool x)):yielded ops a.tmps j=some x:=by
 have hs:d<a.tmps.size:=by rw [h.size];exact hd
 have h0:=h.slot d hd
 rw [hx] at h0
 rcases h0 with e | ⟨e,_⟩
 ·cases e
 ·have e2:a.tmps[d]?=some (.bool x):=by
   rw [Array.getElem?_eq_getElem hs]
   have e3:a.tmps.getD d undef=a.tmps[d]:=by simp [Array.getD,hs]
   rw [e3] at e
   generalize a.tmps[d]=y at e
   cases e
   rfl
  simp [yielded,hj,e2]
theorem AX (h:dU C D σ γ a w) {ops:Array Oper} {j d:Nat} (hd:d<C.nt) (hj:(ops[j]?).bind (·.dst)=some d) (hx:σ d = .sk):yielded ops a.tmps j=none:=by
 have hs:d<a.tmps.size:=by rw [h.size];exact hd
 have h0:=h.slot d hd
 rw [hx] at h0
 rcases h0 with e | ⟨e,_⟩
 ·cases e
 ·have e2:a.tmps[d]?=some (.tuple ⟨[]⟩):=by
   rw [Array.getElem?_eq_getElem hs]
   have e3:a.tmps.getD d undef=a.tmps[d]:=by simp [Array.getD,hs]
   rw [e3] at e
   generalize a.tmps[d]=y at e
   cases e with
   | tu e=>cases e;rfl
  simp [yielded,hj,e2]
variable {sg:Nat→dq} {K:Act→World→Prop} {Q:Exit→Act→World→Prop}
theorem yA (hE:∀f,fH C.P C.E.gl f (C.E.fs f)∧(C.E.fs f).sg=sg f) {ops:Array Oper} {o:Oper} {m:ov} {xx:Sg} {Fo:Ga} (h:dU C D σ γ a w)
  (ho:gq C.P sg o m=true) (hk:dM C.nt o.dst m=true) (hg:rJ C.nt ops o m=true) (fg:small C.nt o.op.operands.toList=true)
  (s1:qd (RS C.E m) m.ds σ xx) (s2:qd (RG m) m.ds γ Fo) (hK:∀D' a' w',dU C D' xx Fo a' w'→K a' w') :
  if Region.wanted o (yielded ops a.tmps) then o.wp C.P a w K Q∨(o.asks C.P a w∧LetsOut Q) else K (a.put o.dst undef) w:=by
 obtain ⟨k,rs,ds,gd⟩:=m
 obtain ⟨dst,op,ty,pos,after,guard⟩:=o
 obtain ⟨ws,r1,l1,rfl⟩:=s1
 obtain ⟨gs,r2,l2,rfl⟩:=s2
 unfold RG at r2
 simp only [RS] at r1
 simp only [rJ] at hg
 split at hg
 ·simp only [lU] at r1
  simp only [Region.wanted,if_true]
  exact .inl (yT hE k h ho hk fg r1 r2 hK)
 ·rename_i j b t b'
  simp only [ae,beq_iff_eq,aB] at hg
  obtain ⟨⟨⟨⟨rfl,ht⟩,hj⟩,hl⟩,hd⟩:=hg
  split at hj
  ·rename_i d Pp
   have hj:d=t:=by simpa using hj
   subst hj
   simp only [lU] at r1
   cases hx:σ d with
   | v z =>
    cases z with
    | bool x =>
     have hy:=AY h ht Pp hx
     simp only [hx] at r1
     cases hw:x == b with
     | true =>
      simp only [hw] at r1
      have J1:(some x == some b)=true:=by simpa using hw
      simp only [Region.wanted,hy,J1,if_true]
      exact .inl (yT hE k h ho hk fg r1 r2 hK)
     | false =>
      simp only [hw] at r1
      have J1:(some x == some b)=false:=by simpa using hw
      simp only [Region.wanted,hy,J1,bk,if_false]
      subst r1
      obtain ⟨d',g,e1,e2,e3,e4,e5,e6,e7⟩:=BQ h hk hl hd r2
      dsimp only at e1 hl l2 hK ⊢
      subst e1
      subst e3
      have:=e4 l2
      subst this
      exact hK _ _ _ (h.put e2 (.inr ⟨.tu .nil,fun h=>absurd rfl h⟩) e5 e6 e7)
    | _=>simp only [hx] at r1
   | tu l =>
    cases l with
    | cons y l=>simp only [hx] at r1
    | nil =>
     have hy:=AX h ht Pp hx
     simp only [hx] at r1
     have J1:((none:Option Bool) == some b)=false:=rfl
     simp only [Region.wanted,hy,J1,bk,if_false]
     subst r1
     obtain ⟨d',g,e1,e2,e3,e4,e5,e6,e7⟩:=BQ h hk hl hd r2
     dsimp only at e1 hl l2 hK ⊢
     subst e1
     subst e3
     have:=e4 l2
     subst this
     exact hK _ _ _ (h.put e2 (.inr ⟨.tu .nil,fun h=>absurd rfl h⟩) e5 e6 e7)
   | _=>simp only [hx] at r1
  ·cases hj
 ·cases hg
abbrev vT (P:Program) (sg:Nat→dq) (nt:Nat) (ops:Array Oper) (o:Oper) (m:ov):Bool :=
 gq P sg o m&&dM nt o.dst m&&rJ nt ops o m&&small nt o.op.operands.toList
theorem yR (hE:∀f,fH C.P C.E.gl f (C.E.fs f)∧(C.E.fs f).sg=sg f) {ops:Array Oper} {eO:Sg} {nu:Ga}:∀{os:List Oper} {ms:List ov} {D:kV} {σ:Sg} {γ:Ga} {a:Act} {w:World},dU C D σ γ a w →
  kC (vT C.P sg C.nt ops) os ms=true→zE C.E ms σ γ eO nu→(∀D' a' w',dU C D' eO nu a' w'→Q .normal a' w')→wpList C.P ops Q os a w
 | [],[],_,_,_,_,_,h,_,⟨e1,e2⟩,hQ=>by subst e1;subst e2;exact hQ _ _ _ h
 | o :: os,m :: ms,_,_,_,_,_,h,hc,⟨xx,Fo,s1,s2,hr⟩,hQ=>by
  simp only [kC,vT,ae] at hc
  obtain ⟨⟨⟨⟨c1,c2⟩,c3⟩,c4⟩,c5⟩:=hc
  unfold wpList
  exact yA hE h c1 c2 c3 c4 s1 s2 fun D' a' w' h'=>yR hE h' (by simpa only [kC,vT] using c5) hr hQ
 | [],_ :: _,_,_,_,_,_,_,hc,_,_=>by simp [kC] at hc
 | _ :: _,[],_,_,_,_,_,_,hc,_,_=>by simp [kC] at hc
end
end Go.Eng
namespace Go.Eng
open Go.RowKit
theorem nZ {A B:Type} {f:A→B→Bool}:∀{as:List A} {bs:List B} {i:Nat} {x:A},kC f as bs=true→as[i]?=some x→∃y,bs[i]?=some y∧f x y=true
 | a :: as,b :: bs,0,x,h,e=>by
  simp only [kC,ae] at h
  simp only [List.getElem?_cons_zero,ax] at e
  subst e
  exact ⟨b,rfl,h.1⟩
 | a :: as,b :: bs,i+1,x,h,e=>by
  simp only [kC,ae] at h
  simp only [List.getElem?_cons_succ] at e ⊢
  exact nZ h.2 e
 | [],_,_,_,_,e=>by simp at e
 | _ :: _,[],_,_,h,_=>by simp [kC] at h
theorem nY {A B:Type} {f:A→B→Bool}:∀{as:List A} {bs:List B},kC f as bs=true→as.length=bs.length
 | [],[],_=>rfl
 | _ :: _,_ :: _,h=>by simp only [kC,ae] at h;simp [nY h.2]
 | [],_ :: _,h=>by simp [kC] at h
 | _ :: _,[],h=>by simp [kC] at h
section
variable {L:Nat→Prop} {ops:List Oper}
theorem qb (jD:∀i o,ops[i]?=some o→L i→∀e∈rr o,L e):∀(rest pre:List Oper) (acc:List (List Nat)),ops=pre++rest→acc.length=pre.length →
  (∀i o,i<acc.length→ops[i]?=some o→(∀e∈rr o,L e)→∀j∈acc.getD i [],L j) →
  ∀i o,ops[i]?=some o→(∀e∈rr o,L e)→∀j∈(rest.foldl (fun acc o=>acc++[(rr o).flatMap fun e=>e :: (acc.getD e [])]) acc).getD i [],L j
 | [],pre,acc,e,hl,inv=>by
  intro i o hi hb j hj
  simp only [aO] at e
  subst e
  have:i<acc.length:=by
   rw [hl]
   exact (aC.1 hi).1
  exact inv i o this hi hb j hj
 | r :: rest,pre,acc,e,hl,inv=>by
  simp only [List.foldl_cons]
  refine qb jD rest (pre++[r]) _ (by simp [e]) (by simp [hl]) ?_
  intro i o hi ho hb j hj
  by_cases gM:i<acc.length
  ·rw [aG,List.getElem?_append_left gM,←aG] at hj
   exact inv i o gM ho hb j hj
  ·have ta:i=acc.length:=by simp at hi;omega
   subst ta
   rw [aG,aS (Nat.le_refl _)] at hj
   simp only [Nat.sub_self,List.getElem?_cons_zero,Option.getD_some,List.mem_flatMap,bq] at hj
   have hr:o=r:=by
    rw [e,hl,aS (Nat.le_refl _)] at ho
    simpa using ho.symm
   subst hr
   obtain ⟨x,hx,rfl | hj⟩:=hj
   ·exact hb _ hx
   ·by_cases Lv:x<acc.length
    ·have Pf:x<ops.length:=by rw [e];simp;omega
     exact inv x _ Lv (aE Pf) (jD x _ (aE Pf) (hb x hx)) j hj
    ·simp [List.getD,List.getElem?_eq_none (Nat.le_of_not_lt Lv)] at hj
theorem yp (jD:∀i o,ops[i]?=some o→L i→∀e∈rr o,L e) {i:Nat} {o:Oper} (hi:ops[i]?=some o) (hb:∀e∈rr o,L e):∀j∈(zm ops).getD i [],L j :=
 qb jD ops [] [] rfl rfl (fun _ _ h=>by simp at h) i o hi hb
end
theorem uh {A:Type} {l:List A} {p:A × Nat→Bool} (h:l.zipIdx.all p=true) {i:Nat} {x:A} (hi:l[i]?=some x):p (x,i)=true :=
 bj.1 h _ (List.mem_zipIdx_iff_getElem?.2 (by simpa using hi))
theorem wQ (l:Array Bool) (i x:Nat) (d:Bool):(l.setIfInBounds i true).getD x d=if i=x then (if i<l.size then true else d) else l.getD x d:=by
 simp only [Array.getD_eq_getD_getElem?,Array.getElem?_setIfInBounds]
 split
 ·split <;> rfl
 ·rfl
def gu (n:Nat) (listed:Array Bool):List Nat:=(List.range n).filter fun i=>!listed.getD i true
theorem vL {n i:Nat} {listed:Array Bool} (hs:listed.size=n) (hi:i<n):gu n (listed.setIfInBounds i true)=(gu n listed).filter (fun j=>decide (j≠i)):=by
 simp only [gu,List.filter_filter]
 apply List.filter_congr
 intro j hj
 have hj:j<n:=by simpa using hj
 by_cases h:j=i
 ·subst h
  simp [Array.getD,hs,hi]
 ·have:i≠j:=fun e=>h e.symm
  simp [Array.getD,hs,hj,Array.getElem_setIfInBounds,h,this]
section
variable {C:Ctx} {sg:Nat→dq} {Q:Exit→Act→World→Prop}
theorem sx {listed:Array Bool} {n i:Nat} (hs:listed.size=n) (hi:i<n):listed.getD i true=listed.getD i false:=by simp [Array.getD,hs,hi]
theorem Il (hE:∀f,fH C.P C.E.gl f (C.E.fs f)∧(C.E.fs f).sg=sg f) {ops:Array Oper} {ms:List ov} (hc:kC (vT C.P sg C.nt ops) ops.toList ms=true) (Kd:uI ops.toList ms=true)
  {eO:Sg} {nu:Ga} (hQ:∀D' a' w',dU C D' eO nu a' w'→Q .normal a' w') :
  ∀(fuel:Nat) {listed:Array Bool} {D:kV} {σ:Sg} {γ:Ga} {a:Act} {w:World},dU C D σ γ a w→listed.size=ops.size →
   (∀i o,ops.toList[i]?=some o→listed.getD i false=true→∀e∈rr o,listed.getD e false=true) →
   (gu ops.size listed).length≤fuel→zE C.E ((gu ops.size listed).filterMap (ms[·]?)) σ γ eO nu→wpAny C.P .any ops Q fuel listed a w:=by
 simp only [uI,ae] at Kd
 obtain ⟨Rh,jD⟩:=Kd
 -- where nothing is ready,nothing gu
 have xU:∀{listed:Array Bool},listed.size=ops.size→Region.ready .any ops listed=[]→gu ops.size listed=[]:=by
  intro listed hs hr
  cases Cx:gu ops.size listed with
  | nil=>rfl
  | cons i rest =>
   exfalso
   have pR:i∈gu ops.size listed:=by rw [Cx];exact List.mem_cons_self ..
   have FR:=pR
   simp only [gu,List.mem_filter,List.mem_range,Bool.not_eq_true'] at FR
   obtain ⟨hi,hl⟩:=FR
   have wo:(gu ops.size listed).Pairwise (· < ·):=List.Pairwise.filter _ List.pairwise_lt_range
   have wD:ops.toList[i]?=some ops[i]:=by simp [hi]
   have hb:=uh Rh wD
   have:i∈Region.ready .any ops listed:=by
    simp only [Region.ready,List.mem_filter,List.mem_range]
    refine ⟨hi,?_⟩
    simp only [hl,aX,Bool.true_and,Array.getElem?_eq_getElem hi,Option.map_some,Option.getD_some,Array.all_eq_true_iff_forall_mem,Bool.or_eq_true,Bool.not_eq_true']
    intro e he
    cases KJ:Region.binds .any e with
    | false=>exact .inl rfl
    | true =>
     right
     have gM:e.on<i:=by
      have:e.on∈rr ops[i]:=aT.2 ⟨e,List.mem_filter.2 ⟨by simpa using he,KJ⟩,rfl⟩
      have wM:=bj.1 hb _ this
      simpa using wM
     cases hle:listed.getD e.on false with
     | true=>rfl
     | false =>
      have Ae:e.on∈gu ops.size listed:=by
       simp only [gu,List.mem_filter,List.mem_range,Bool.not_eq_true']
       exact ⟨by omega,by rw [sx hs (by omega)];exact hle⟩
      rw [Cx] at Ae wo
      rcases bq.1 Ae with h | h
      ·omega
      ·have:=(List.pairwise_cons.1 wo).1 _ h
       omega
   rw [hr] at this
   cases this
 intro fuel
 induction fuel with
 | zero =>
  intro listed D σ γ a w h hs va hf hr
  have h0:gu ops.size listed=[]:=by simpa using hf
  rw [h0] at hr
  obtain ⟨e1,e2⟩:=hr
  subst e1;subst e2
  refine ⟨?_,hQ _ _ _ h⟩
  cases NZ:Region.ready .any ops listed with
  | nil=>rfl
  | cons i rest =>
   have:i∈Region.ready .any ops listed:=by rw [NZ];exact List.mem_cons_self ..
   simp only [Region.ready,List.mem_filter,List.mem_range,ae] at this
   have h1:i∈gu ops.size listed:=by
    simp only [gu,List.mem_filter,List.mem_range]
    exact ⟨this.1,this.2.1⟩
   rw [h0] at h1
   cases h1
 | succ fuel ih =>
  intro listed D σ γ a w h hs va hf hr
  refine ⟨fun NZ=>?_,fun i hi=>?_⟩
  ·rw [xU hs NZ] at hr
   obtain ⟨e1,e2⟩:=hr
   subst e1;subst e2
   exact hQ _ _ _ h
  ·simp only [Region.ready,List.mem_filter,List.mem_range,ae] at hi
   obtain ⟨Ae,Q9,Pm⟩:=hi
   have Kx:i∈gu ops.size listed:=by
    simp only [gu,List.mem_filter,List.mem_range]
    exact ⟨Ae,Q9⟩
   have wD:ops.toList[i]?=some ops[i]:=by simp [Ae]
   simp only [Array.getElem?_eq_getElem Ae,Option.map_some,Option.getD_some,Array.all_eq_true_iff_forall_mem,Bool.or_eq_true,Bool.not_eq_true'] at Pm
   have AT:∀e∈rr ops[i],listed.getD e false=true:=by
    intro e he
    simp only [rr,aT,List.mem_filter] at he
    obtain ⟨x,⟨hx,hb⟩,rfl⟩:=he
    rcases Pm x (by simpa using hx) with h | h
    ·rw [hb] at h;cases h
    ·exact h
   obtain ⟨A,B,KP⟩:=List.append_of_mem Kx
   have wo:(gu ops.size listed).Pairwise (· < ·):=List.Pairwise.filter _ List.pairwise_lt_range
   rw [KP,List.pairwise_append] at wo
   obtain ⟨-,hB,hA⟩:=wo
   have Py:∀j∈A,j<i:=fun j hj=>hA j hj i (List.mem_cons_self ..)
   have Rz:∀j∈B,i<j:=fun j hj=>(List.pairwise_cons.1 hB).1 j hj
   obtain ⟨m,hm,Ab⟩:=nZ hc wD
   rw [KP,List.filterMap_append,List.filterMap_cons,hm] at hr
   have HM:=r9 hr (fun n hn=>by
    obtain ⟨j,hj,Q5⟩:=List.mem_filterMap.1 hn
    have h1:=uh jD hm
    have LA:j<i:=Py j hj
    have h2:=uh h1 (i:=j) (x:=n) (by rw [aR,ao LA];exact Q5)
    simp only [Bool.or_eq_true,Bool.not_eq_true',List.contains_eq_mem,aB] at h2
    rcases h2 with h2 | h2
    ·exact h2
    ·exfalso
     have h3:=yp (L:=fun e=>listed.getD e false=true) va wD AT j h2
     have h4:j∈gu ops.size listed:=by rw [KP];exact List.mem_append_left _ hj
     simp only [gu,List.mem_filter,List.mem_range,Bool.not_eq_true'] at h4
     rw [sx hs h4.1,h3] at h4
     cases h4.2)
   obtain ⟨xx,Fo,s1,s2,s8⟩:=HM
   simp only [vT,ae] at Ab
   obtain ⟨⟨⟨c1,c2⟩,c3⟩,c4⟩:=Ab
   simp only [wpOp,Array.getElem?_eq_getElem Ae]
   refine yA hE h c1 c2 c3 c4 s1 s2 fun D' a' w' h'=>?_
   have sC:gu ops.size (listed.setIfInBounds i true)=A++B:=by
    rw [vL hs Ae,KP,List.filter_append,List.filter_cons]
    simp only [ne_eq,not_true_eq_false,decide_false,bk,if_false]
    rw [List.filter_eq_self.2 (fun j hj=>by have:=Py j hj;simp;omega),List.filter_eq_self.2 (fun j hj=>by have:=Rz j hj;simp;omega)]
   refine ih h' (by simp [hs]) ?_ ?_ ?_
   ·intro j o hj LA e he
    have Ex:∀x,listed.getD x false=true→(listed.setIfInBounds i true).getD x false=true:=by
     intro x hx
     rw [wQ]
     split
     ·rename_i Q8
      subst Q8
      rw [ao (by rw [hs];exact Ae)]
     ·exact hx
    by_cases Pl:j=i
    ·subst Pl
     rw [wD] at hj
     cases hj
     exact Ex _ (AT e he)
    ·refine Ex _ (va j o hj ?_ e he)
     have Ra:i≠j:=fun e=>Pl e.symm
     rw [wQ,ah Ra] at LA
     exact LA
   ·rw [sC]
    rw [KP] at hf
    simp at hf ⊢
    omega
   ·rw [sC,List.filterMap_append]
    exact s8
theorem nj {A:Type}:∀(ms:List A),(List.range ms.length).filterMap (ms[·]?)=ms
 | []=>rfl
 | m :: ms=>by
  rw [aF,List.range_succ_eq_map,List.filterMap_cons]
  simp only [List.getElem?_cons_zero,List.filterMap_map,Function.comp_def,List.getElem?_cons_succ]
  rw [nj ms]
theorem zF (hE:∀f,fH C.P C.E.gl f (C.E.fs f)∧(C.E.fs f).sg=sg f) {id:Nat} {ops:Array Oper} {draw:Bool} {ms:List ov} {G G':GL} {D:kV} {σ eO:Sg} {a:Act} {w:World}
  (hr:Bv C.P sg C.nt ops draw ms=true) (hg:Am ms G=some G') (h:dU C D σ G.get a w) (hs:Bq C.E ms σ eO) (hQ:∀D' a' w',dU C D' eO G'.get a' w'→Q .normal a' w'):(Code.region id ops draw).wp C.P Q a w:=by
 simp only [Bv,ae] at hr
 obtain ⟨hc,hd⟩:=hr
 have dX:=yF hs hg
 cases draw with
 | false=>exact wp_region_list (yR hE h hc dX hQ)
 | true =>
  simp only [aV,Bool.false_or,ae] at hd
  have hlen:ops.size=ms.length:=by have:=nY hc;simpa using this
  have Cx:gu ops.size (Array.replicate ops.size false)=List.range ops.size:=by
   simp only [gu]
   apply List.filter_eq_self.2
   intro i hi
   have hi:i<ops.size:=by simpa using hi
   simp [Array.getD,hi]
  refine wp_region_any hd.1 (Il hE hc hd.2 hQ ops.size h.drew (by simp) ?_ (by rw [Cx];simp) ?_)
  ·intro i o _ hl
   exfalso
   by_cases hi:i<ops.size <;> simp [Array.getD,hi] at hl
  ·rw [Cx,hlen,nj]
   exact dX
end
end Go.Eng
namespace Go.Eng
open Go.RowKit
theorem GL.xO {G:GL} {k:Nat}:∀{g:Gh},G.get k=g→g ≠ .no→(k,g)∈G:=by
 induction G with
 | nil=>intro g h hn;exact absurd h.symm hn
 | cons p r ih =>
  intro g h hn
  obtain ⟨j,x⟩:=p
  simp only [GL.get] at h
  split at h
  ·rename_i e;subst e;subst h;exact List.mem_cons_self ..
  ·exact List.mem_cons_of_mem _ (ih h hn)
def rename (ρ:List (Nat × Nat)) (τ:Nat→Value) (key:Nat):Value :=
 match ρ.find? (fun p=>lk p.1 == key) with
 | some p=>τ (lk p.2)
 | none=>τ key
theorem Hj (i j:Nat):(lk i == lk j)=(i == j):=by
 by_cases h:i=j
 ·subst h;simp
 ·have:lk i≠lk j:=fun e=>h (jZ e)
  rw [beq_eq_false_iff_ne.2 this,beq_eq_false_iff_ne.2 h]
section
variable {C:Ctx} {D:kV} {σ:Sg} {a:Act} {w:World} {G H:GL}
theorem dU.weaken (h:dU C D σ G.get a w) (hr:kX G H=true):∃D',dU C D' σ H.get a w:=by
 unfold kX at hr
 simp only [ae] at hr
 obtain ⟨⟨h9,Ky⟩,qB⟩:=hr
 generalize S1:yJ G H=ρ at Ky qB
 have FU:∀p∈ρ,∀q∈ρ,(p.1=q.1 ↔ p.2=q.2):=by
  intro p hp q hq
  have:=bj.1 (bj.1 Ky p hp) q hq
  by_cases e1:p.1=q.1 <;> by_cases e2:p.2=q.2 <;> simp [e1,e2] at this ⊢
 have xS:∀p∈ρ,rename ρ D.τ (lk p.1)=D.τ (lk p.2):=by
  intro p hp
  simp only [rename,Hj]
  cases hf:ρ.find? (fun q=>q.1 == p.1) with
  | none=>exact absurd (List.find?_eq_none.1 hf p hp) (by simp)
  | some q =>
   have h1:q.1=p.1:=by simpa using List.find?_some hf
   have h2:=(FU q (List.mem_of_find?_eq_some hf) p hp).1 h1
   simp only [h2]
 have EG:∀{i j:Nat},(ρ.find? (fun p=>p.1 == i)).map (·.2)=some j→rename ρ D.τ (lk i)=D.τ (lk j):=by
  intro i j hf
  simp only [bf] at hf
  obtain ⟨q,hf,rfl⟩:=hf
  have h1:q.1=i:=by simpa using List.find?_some hf
  rw [←h1]
  exact xS q (List.mem_of_find?_eq_some hf)
 have kK:∀k,H.get k ≠ .no→(match H.get k,G.get k with
  | .no,_=>true
  | .ptr m o,.ptr m' o'=>m == m'&&o == o'&&(match H.get m with | .cl _=>true | _=>false)
  | .gb i s,.gb j s'=>s == s'&&(ρ.find? (fun p=>p.1 == i)).map (·.2) == some j&&(H.get (lk i)).fL
  | .cl ts,.cl us=>ts.all fun t=>(match us.find? (fun u=>u.1 == t.1) with | some u=>(ρ.find? (fun p=>p.1 == t.2.1)).map (·.2) == some u.2.1&&t.2.2 == u.2.2 | none=>false)&&(H.get (lk t.2.1)).fL
  | .live s,_=>ρ.any fun p=>lk p.1 == k&&G.get (lk p.2) == .live s
  | .pv s,.pv s'=>s == s'&&ρ.any fun p=>lk p.1 == k&&p.1 == p.2
  | .pv s,.nC d s'=>s == s'&&!(H.get d).fL&&ρ.any fun p=>lk p.1 == k&&p.1 == p.2
  | .used,_=>decide (1000000≤k)
  | _,_=>false)=true:=fun k hk=>bj.1 qB (k,H.get k) (GL.xO rfl hk)
 have jD:∀m ts,H.get m = .cl ts→∃us,G.get m = .cl us∧∀t∈ts,(∃u∈us,u.1=t.1∧rename ρ D.τ (lk t.2.1)=D.τ (lk u.2.1))∧(H.get (lk t.2.1)).fL=true:=by
  intro m ts e
  have:=kK m (by rw [e];simp)
  rw [e] at this
  cases hg:G.get m with
  | cl us =>
   rw [hg] at this
   refine ⟨us,rfl,fun t ht=>?_⟩
   have h1:=bj.1 this t ht
   simp only [ae] at h1
   refine ⟨?_,h1.2⟩
   have h2:=h1.1
   split at h2
   ·rename_i u hu
    simp only [ae,beq_iff_eq] at h2
    exact ⟨u,List.mem_of_find?_eq_some hu,by simpa using List.find?_some hu,EG h2.1⟩
   ·cases h2
  | _=>rw [hg] at this;simp at this
 have kR:∀k s,H.get k = .live s→∃p∈ρ,lk p.1=k∧G.get (lk p.2) = .live s:=by
  intro k s e
  have:=kK k (by rw [e];simp)
  rw [e] at this
  simp only [List.any_eq_true,ae,beq_iff_eq] at this
  exact this
 have FP:∀k s,H.get k = .pv s→(∃p∈ρ,lk p.1=k∧p.1=p.2)∧(G.get k).By=some s∧∀d,(G.get k).par=some d→(H.get d).fL=false:=by
  intro k s e
  have:=kK k (by rw [e];simp)
  rw [e] at this
  cases hg:G.get k with
  | pv s' =>
   rw [hg] at this
   simp only [ae,beq_iff_eq,List.any_eq_true] at this
   exact ⟨this.2,by rw [this.1];rfl,fun d hd=>by cases hd⟩
  | nC d s' =>
   rw [hg] at this
   simp only [ae,beq_iff_eq,List.any_eq_true,Bool.not_eq_true'] at this
   exact ⟨this.2,by rw [this.1.1];rfl,fun d hd=>by cases hd;exact this.1.2⟩
  | _=>rw [hg] at this;simp at this
 have sG:∀key g,gC { D with τ:=rename ρ D.τ } H.get key=some g→(∃ts,H.get key = .cl ts∧gC D G.get key=some g)∨(∃p∈ρ,lk p.1=key∧gC D G.get (lk p.2)=some g ∧
   (∀d,(G.get (lk p.2)).par=some d→(H.get d).fL=false)∧(H.get key).fL=true∧((p.1=p.2)∨∃s,G.get (lk p.2) = .live s)):=by
  intro key g hb
  cases hk:H.get key with
  | cl ts =>
   left
   obtain ⟨us,hu,_⟩:=jD key ts hk
   refine ⟨ts,rfl,?_⟩
   rw [iI hk] at hb
   rw [iI hu]
   exact hb
  | live s =>
   right
   obtain ⟨p,hp,h1,h2⟩:=kR key s hk
   refine ⟨p,hp,h1,?_,fun d hd=>(by rw [h2] at hd;cases hd),rfl,.inr ⟨s,h2⟩⟩
   rw [iH hk,←h1] at hb
   rw [iH h2]
   dsimp only at hb
   rw [xS p hp] at hb
   exact hb
  | pv s =>
   right
   obtain ⟨⟨p,hp,h1,h2⟩,h3,h4⟩:=FP key s hk
   have e:lk p.2=key:=by rw [←h2];exact h1
   refine ⟨p,hp,h1,?_,by rw [e];exact h4,rfl,.inl h2⟩
   rw [iq (by rw [hk];rfl),←h1] at hb
   rw [e,iq (Gh.pI h3)]
   dsimp only at hb
   rw [xS p hp,e] at hb
   exact hb
  | nC d s =>
   have:=kK key (by rw [hk];simp)
   rw [hk] at this
   simp at this
  | pc s =>
   have:=kK key (by rw [hk];simp)
   rw [hk] at this
   simp at this
  | _=>simp [gC,hk] at hb
 have Hx:∀m,(H.get m).gy=true→C.nt≤m∧m<1000000:=by
  intro m hm
  cases hk:H.get m with
  | cl ts =>
   obtain ⟨us,hu,_⟩:=jD m ts hk
   exact h.nr m (by rw [hu];rfl)
  | _=>rw [hk] at hm;simp [Gh.gy] at hm
 refine ⟨{ D with τ:=rename ρ D.τ },{ size:=h.size,defers:=h.defers,kj:=h.kj,nr:=Hx,lS:=?_,slot:=?_,mem:=?_,gb:=?_,ps:=?_,sep:=?_,own:=?_,inv:=?_,ext:=h.ext,ns:=h.ns,gl:=h.gl,fix:=h.fix.of rfl fun hp=>?_ }⟩
 ·intro m hm
  cases hk:H.get m with
  | live s =>
   obtain ⟨p,_,rfl,_⟩:=kR m s hk
   exact hU _
  | pv s =>
   obtain ⟨⟨p,_,h1,_⟩,_⟩:=FP m s hk
   rw [←h1];exact hU _
  | nC d s =>
   have:=kK m (by rw [hk];simp)
   rw [hk] at this
   simp at this
  | pc s =>
   have:=kK m (by rw [hk];simp)
   rw [hk] at this
   simp at this
  | used =>
   have:=kK m (by rw [hk];simp)
   rw [hk] at this
   simpa using this
  | _=>rw [hk] at hm;simp [Gh.fL] at hm
 ·intro t ht
  rcases h.slot t ht with e | ⟨e1,e2⟩
  ·exact .inl e
  ·refine .inr ⟨e1,fun QL=>?_⟩
   replace e2:=e2 QL
   cases hk:H.get t with
   | ptr m o =>
    have:=kK t (by rw [hk];simp)
    rw [hk] at this
    cases hg:G.get t with
    | ptr m' o' =>
     rw [hg] at this e2
     simp only [ae,beq_iff_eq] at this
     obtain ⟨⟨rfl,rfl⟩,_⟩:=this
     exact e2
    | _=>rw [hg] at this;simp at this
   | gb i s =>
    have:=kK t (by rw [hk];simp)
    rw [hk] at this
    cases hg:G.get t with
    | gb j s' =>
     rw [hg] at this e2
     simp only [ae,beq_iff_eq] at this
     obtain ⟨⟨rfl,hj⟩,_⟩:=this
     simp only [jR] at e2 ⊢
     rw [EG hj]
     exact e2
    | _=>rw [hg] at this;simp at this
   | yy ts p =>
    have:=kK t (by rw [hk];simp)
    rw [hk] at this
    simp at this
   | pe k =>
    have:=kK t (by rw [hk];simp)
    rw [hk] at this
    simp at this
   | pm k =>
    have:=kK t (by rw [hk];simp)
    rw [hk] at this
    simp at this
   | _=>trivial
 ·intro m ts hk
  obtain ⟨us,hu,ht⟩:=jD m ts hk
  obtain ⟨cs,hv,hc⟩:=h.mem m us hu
  refine ⟨cs,hv,fun t NT=>?_⟩
  obtain ⟨⟨u,QE,h1,h2⟩,_⟩:=ht t NT
  dsimp only
  rw [h2,←h1]
  exact hc u QE
 ·intro key s hk
  obtain ⟨p,hp,rfl,hg⟩:=kR key s hk
  dsimp only
  rw [xS p hp]
  exact h.gb _ s hg
 ·intro key s hs
  have hk:H.get key = .pv s:=by
   cases hk:H.get key with
   | pv s'=>rw [hk] at hs;cases hs;rfl
   | nC d s' =>
    have:=kK key (by rw [hk];simp)
    rw [hk] at this
    simp at this
   | pc s' =>
    have:=kK key (by rw [hk];simp)
    rw [hk] at this
    simp at this
   | _=>rw [hk] at hs;cases hs
  obtain ⟨⟨p,hp,h1,h2⟩,h3,_⟩:=FP key s hk
  have:=h.ps key s h3
  dsimp only
  refine ⟨?_,?_,fun d s1 s2 e1 _=>by rw [hk] at e1;cases e1⟩
  ·rw [←h1,xS p hp,←h2,h1];exact this.1
  ·rw [←h1,xS p hp,←h2,h1];exact this.2.1
 ·intro key iz g h1 h2
  left
  have HQ:∀m ts,H.get m = .cl ts→(G.get m).sB=false:=fun m ts e=>by
   obtain ⟨us,hu,_⟩:=jD m ts e;rw [hu];rfl
  rcases sG key g h1 with ⟨ts,k1,b1⟩ | ⟨p,hp,k1,b1,c1,RW,OV⟩ <;> rcases sG iz g h2 with ⟨us,k2,b2⟩ | ⟨q,hq,k2,b2,c2,RT,OU⟩
  ·exact h.rh (HQ _ _ k1) b1 b2
  ·have:=h.rh (HQ _ _ k1) b1 b2
   have h3:=Hx key (by rw [k1];rfl)
   have h4:=hU q.2
   omega
  ·have:=h.rh (HQ _ _ k2) b2 b1
   have h3:=Hx iz (by rw [k2];rfl)
   have h4:=hU p.2
   omega
  ·have FC:∀(p q:Nat × Nat) (iz:Nat),lk q.1=iz→(H.get iz).fL=true→(q.1=q.2∨∃s,G.get (lk q.2) = .live s)→(∀d,(G.get (lk p.2)).par=some d→(H.get d).fL=false)→(G.get (lk p.2)).par≠some (lk q.2):=by
    intro p q iz e1 e2 e3 e4 e5
    have h6:=e4 _ e5
    rcases e3 with e3 | ⟨s,e3⟩
    ·rw [←e3,e1,e2] at h6;cases h6
    ·cases hg:G.get (lk p.2) with
     | nC d s' =>
      rw [hg] at e5
      cases e5
      have:=h.inv (lk p.2)
      rw [hg] at this
      rcases this with e | ⟨s',e⟩ <;> rw [e3] at e <;> cases e
     | _=>rw [hg] at e5;cases e5
   rcases h.sep _ _ g b1 b2 with e | e | e
   ·have:=jZ e
    rw [←k1,←k2,(FU p hp q hq).2 this]
   ·exact (FC p q iz k2 RT OU c1 e).elim
   ·exact (FC q p key k1 RW OV c2 e).elim
 ·intro key g hb
  rcases sG key g hb with ⟨_,_,b1⟩ | ⟨_,_,_,b1,_⟩
  ·exact h.own _ _ b1
  ·exact h.own _ _ b1
 ·intro key
  cases hk:H.get key with
  | ptr m o =>
   have:=kK key (by rw [hk];simp)
   rw [hk] at this
   cases hg:G.get key with
   | ptr m' o' =>
    rw [hg] at this
    simp only [ae] at this
    have h3:=this.2
    simp only [gn]
    split at h3
    ·rename_i e;rw [e];rfl
    ·cases h3
   | _=>rw [hg] at this;simp at this
  | gb i s =>
   have:=kK key (by rw [hk];simp)
   rw [hk] at this
   cases hg:G.get key with
   | gb j s' =>
    rw [hg] at this
    simp only [ae] at this
    exact this.2
   | _=>rw [hg] at this;simp at this
  | cl ts =>
   obtain ⟨us,hu,ht⟩:=jD key ts hk
   exact fun t NT=>(ht t NT).2
  | yy ts p =>
   have:=kK key (by rw [hk];simp)
   rw [hk] at this
   simp at this
  | pe k =>
   have:=kK key (by rw [hk];simp)
   rw [hk] at this
   simp at this
  | pm k =>
   have:=kK key (by rw [hk];simp)
   rw [hk] at this
   simp at this
  | nC d s =>
   have:=kK key (by rw [hk];simp)
   rw [hk] at this
   simp at this
  | _=>trivial
 ·have hH:(H.get (lk 999999)).sB=true:=by simpa [hp] using h9
  refine ⟨hH,?_⟩
  obtain ⟨s,hk⟩:∃s,H.get (lk 999999) = .pv s:=by
   cases hk:H.get (lk 999999) with
   | pv s=>exact ⟨s,rfl⟩
   | nC d s' =>
    have:=kK _ (by rw [hk];simp)
    rw [hk] at this
    simp at this
   | pc s' =>
    have:=kK _ (by rw [hk];simp)
    rw [hk] at this
    simp at this
   | _=>rw [hk] at hH;cases hH
  obtain ⟨⟨p,jS,h1,h2⟩,_⟩:=FP _ s hk
  show rename ρ D.τ (lk 999999)=D.τ (lk 999999)
  rw [←h1,xS p jS,←h2]
theorem dU.forget {γ:Ga} (h:dU C D σ γ a w) {eO:Sg} (h1:Le eO σ):dU C D eO γ a w :=
 { h with
  slot:=fun t ht=>by
   rcases h1 t with e | e
   ·rw [e];exact h.slot t ht
   ·exact .inl e
  mem:=fun m ts hm=>by
   obtain ⟨cs,hv,ht⟩:=h.mem m ts hm
   refine ⟨cs,?_,ht⟩
   rcases h1 m with e | e
   ·rw [e];exact hv
   ·rw [e]
    obtain ⟨elem,hh,_,hn⟩:=hv
    exact ⟨elem,hh,.inl rfl,hn⟩
  ps:=fun key s hs=>by
   obtain ⟨e1,e2,e3⟩:=h.ps key s hs
   have pP:sX eO γ key:=fun d s1 s2 f1 f2=>by
    rcases h1 key with e | e
    ·rcases h1 d with e' | e'
     ·rw [e,e'];exact e3 d s1 s2 f1 f2
     ·exact .inr (.inl e')
    ·exact .inl e
   rcases h1 key with e | e
   ·rw [e];exact ⟨e1,e2,pP⟩
   ·rw [e];exact ⟨e1,⟨e2.1,.inl rfl⟩,pP⟩ }
theorem head_eq {σ:Sg}:∀{cd:List Nat} {jT:List AV},Fm σ cd jT→∀k,head cd jT k=if k∈cd then σ k else .dead
 | [],[],_,k=>rfl
 | j :: ks,v :: vs,h,k=>by
  have ih:=head_eq h.2 k
  simp only [head] at ih
  simp only [head,Eng.cQ,dJ,bq]
  by_cases e:k=j
  ·subst e
   simp [h.1]
  ·simp only [e,if_false,false_or]
   exact ih
 | [],_ :: _,h,_=>h.elim
 | _ :: _,[],h,_=>h.elim
def um (i:Nat):Exit:=if i<1000000 then .exit i else .goto (i - 1000000)
theorem ry {i:Nat} (h:i<1000000):um i = .exit i:=ao h
theorem rV (l:Nat):um (gid l) = .goto l:=by
 have h:¬gid l<1000000:=by unfold gid;omega
 unfold um
 rw [ah h]
 have:gid l - 1000000=l:=by unfold gid;exact Nat.add_sub_cancel_left ..
 rw [this]
theorem qj {i:Nat} {n:Act→World→Prop} {Q:Exit→Act→World→Prop} {a:Act} {w:World} (h:Q (um i) a w):Exit.then n Q (um i) a w:=by
 unfold um at h ⊢
 split at h
 ·rename_i e;rw [ao e];exact h
 ·rename_i e;rw [ah e];exact h
theorem oR (i:Nat):(∃l,i=gid l∧um i = .goto l)∨(i<1000000∧um i = .exit i):=by
 by_cases h:i<1000000
 ·exact .inr ⟨h,ry h⟩
 ·refine .inl ⟨i - 1000000,?_,ah h⟩
  unfold gid;omega
section
variable {P:Program} {a:Act} {w:World} {Q:Exit→Act→World→Prop}
theorem s5 {c:Code} {ι:Type} (lb rk mu:ι→Nat) (Inv:ι→Act→World→Prop)
  (first:c.wp P (fun e a w=>match e with | .goto l=>∃i,lb i=l∧Inv i a w | e=>Q e a w) a w)
  (pass:∀i a w,Inv i a w→∃rest,findLabel c (lb i)=some rest∧rest.wp P (fun e a' w'=>match e with | .goto l=>∃j,lb j=l∧Inv j a' w'∧(rk j<rk i∨rk j=rk i∧mu j<mu i) | e=>Q e a' w') a w) :
  (Code.scope c).wp P Q a w:=by
 intro b k cs
 have key:∀m n i a w,rk i=m→mu i=n→Inv i a w→∀rest,findLabel c (lb i)=some rest→∃e a' w',Q e a' w'∧Arrives P (lone (b.at a (.code rest :: .inScope c :: k)) cs w) b k cs e a' w':=by
  intro m
  induction m using Nat.strongRecOn with
  | _ m Qr =>
   intro n
   induction n using Nat.strongRecOn with
   | _ n ih =>
    intro i a w hm hn hI rest hf
    obtain ⟨Bt,wG,hp⟩:=pass i a w hI
    rw [hf] at wG
    cases wG
    obtain ⟨e,nX,nw,hq,qA⟩:=hp b (.inScope c :: k) cs
    cases e with
    | normal=>exact ⟨.normal,nX,nw,hq,Steps.trans qA (.one step_inScope)⟩
    | exit id=>exact ⟨.exit id,nX,nw,hq,fun k' hk=>qA k' (by simp [exitTo,hk])⟩
    | goto l' =>
     obtain ⟨j,rfl,hJ,gM⟩:=hq
     obtain ⟨sa,Iw,_⟩:=pass j nX nw hJ
     have hg:gotoIn (lb j) (.inScope c :: k)=some (.code sa :: .inScope c :: k):=by simp [gotoIn,Iw]
     have:∃e a' w',Q e a' w'∧Arrives P (lone (b.at nX (.code sa :: .inScope c :: k)) cs nw) b k cs e a' w':=by
      rcases gM with gM | ⟨he,gM⟩
      ·exact Qr (rk j) (by omega) (mu j) j nX nw rfl rfl hJ sa Iw
      ·exact ih (mu j) (by omega) j nX nw (by omega) rfl hJ sa Iw
     obtain ⟨HX,Ii,Gq,Cy,vc⟩:=this
     exact ⟨HX,Ii,Gq,Cy,.of_steps (qA _ hg) vc⟩
    | ret=>exact ⟨_,nX,nw,hq,qA⟩
    | panic ch=>exact ⟨_,nX,nw,hq,qA⟩
    | outgrown=>exact ⟨_,nX,nw,hq,qA⟩
 obtain ⟨e,nX,nw,hq,qA⟩:=first b (.inScope c :: k) cs
 cases e with
 | normal=>exact ⟨.normal,nX,nw,hq,.head step_scope (Steps.trans qA (.one step_inScope))⟩
 | exit id=>exact ⟨.exit id,nX,nw,hq,fun k' hk => .head step_scope (qA k' (by simp [exitTo,hk]))⟩
 | goto l' =>
  obtain ⟨j,rfl,hJ⟩:=hq
  obtain ⟨sa,Iw,_⟩:=pass j nX nw hJ
  have hg:gotoIn (lb j) (.inScope c :: k)=some (.code sa :: .inScope c :: k):=by simp [gotoIn,Iw]
  obtain ⟨HX,Ii,Gq,Cy,vc⟩:=key _ _ j nX nw rfl rfl hJ sa Iw
  exact ⟨HX,Ii,Gq,Cy,.of_steps (.head step_scope (qA _ hg)) vc⟩
 | ret=>exact ⟨_,nX,nw,hq,.of_steps (.one step_scope) qA⟩
 | panic ch=>exact ⟨_,nX,nw,hq,.of_steps (.one step_scope) qA⟩
 | outgrown=>exact ⟨_,nX,nw,hq,.of_steps (.one step_scope) qA⟩
end
structure yv (C:Ctx) (rt:GL→Bool) (n:Option GL) (ex:List (Nat × GL)) (Qm:MX→Sg→Prop) (Q:Exit→Act→World→Prop):Prop where
 nrm:∀G' D' eO a' w',n=some G'→Qm .normal eO→dU C D' eO G'.get a' w'→Q .normal a' w'
 rK:∀i G' D' eO a' w',(i,G')∈ex→Qm (.exit i) eO→dU C D' eO G'.get a' w'→Q (um i) a' w'
 ret:∀G' D' eO a' w',rt G'=true→Qm .ret eO→dU C D' eO G'.get a' w'→Q .ret a' w'
def Fl (P:Program) (c:Code) (Q:Exit→Act→World→Prop) (a:Act) (w:World):Prop :=
 ∃(ι:Type) (lb rk mu:ι→Nat) (Inv:ι→Act→World→Prop),
  c.wp P (fun e a w=>match e with | .goto l=>(∃i,lb i=l∧Inv i a w)∨Q (.goto l) a w | e=>Q e a w) a w ∧
  ∀i a w,Inv i a w→∃rest,findLabel c (lb i)=some rest ∧
   rest.wp P (fun e a' w'=>match e with | .goto l=>(∃j,lb j=l∧Inv j a' w'∧(rk j<rk i∨rk j=rk i∧mu j<mu i))∨Q (.goto l) a' w' | e=>Q e a' w') a w
variable {sg:Nat→dq}
theorem E8 (hE : ∀ f, fH C.P C.E.gl f (C.E.fs f) ∧ (C.E.fs f).sg = sg f) {rt : GL → Bool} : ∀ (m : M),
    (∀ {c : Code} {G : GL} {r : Option GL × List (Nat × GL)} {D : kV} {σ : Sg} {a : Act} {w : World} {Qm : MX → Sg → Prop} {Q : Exit → Act → World → Prop},
      di C.P sg C.nt rt c m G = some r → dU C D σ G.get a w → oo C.E m Qm σ → yv C rt r.1 r.2 Qm Q → c.wp C.P Q a w) ∧
    (∀ {c : Code} {G : GL} {r : Option GL × List (Nat × GL)} {D : kV} {σ : Sg} {a : Act} {w : World} {Qm : MX → Sg → Prop} {Q : Exit → Act → World → Prop},
      pW C.P sg C.nt rt c m G = some r → dU C D σ G.get a w → oo C.E m Qm σ → yv C rt r.1 r.2 Qm Q → Fl C.P c Q a w) := by
  intro m
  induction m with
  | skip =>
    refine ⟨?_, fun hc => by simp only [pW, reduceCtorEq] at hc⟩
    intro c G r D σ a w Qm Q hc h hm hp
    cases c <;> simp only [di, reduceCtorEq, ax] at hc
    · subst hc
      exact wp_skip (hp.nrm _ _ _ _ _ rfl hm h)
    · subst hc
      exact wp_label (hp.nrm _ _ _ _ _ rfl hm h)
  | fK ms =>
    refine ⟨?_, fun hc => by simp only [pW, reduceCtorEq] at hc⟩
    intro c G r D σ a w Qm Q hc h hm hp
    cases c <;> simp only [di, reduceCtorEq] at hc
    rw [az] at hc
    obtain ⟨h1, h2⟩ := hc
    rw [bf] at h2
    obtain ⟨G', hg, rfl⟩ := h2
    obtain ⟨eO, hs, hq⟩ := hm
    exact zF hE h1 hg h hs fun D' a' w' h' => hp.nrm _ _ _ _ _ rfl hq h'
  | seq x y JX JW =>
    refine ⟨?_, fun hc => by simp only [pW, reduceCtorEq] at hc⟩
    intro c G r D σ a w Qm Q hc h hm hp
    cases c <;> simp only [di, reduceCtorEq] at hc
    rw [bt] at hc
    obtain ⟨⟨n1, e1⟩, h1, h2⟩ := hc
    refine wp_seq (JX.1 h1 h hm ?_)
    cases n1 with
    | none =>
      simp only [ax] at h2
      subst h2
      exact { nrm := fun _ _ _ _ _ e => (by cases e), rK := fun i G' D' eO a' w' hi hq h' => qj (hp.rK i G' D' eO a' w' hi hq h'), ret := fun G' D' eO a' w' hi hq h' => hp.ret G' D' eO a' w' hi hq h' }
    | some G1 =>
      simp only [bf] at h2
      obtain ⟨q, hq, rfl⟩ := h2
      refine { nrm := fun G' D' eO a' w' e lE h' => ?_, rK := fun i G' D' eO a' w' hi hq h' => qj (hp.rK i G' D' eO a' w' (List.mem_append_left _ hi) hq h'), ret := fun G' D' eO a' w' hi hq h' => hp.ret G' D' eO a' w' hi hq h' }
      cases e
      obtain ⟨DB, hle, lE⟩ := lE
      exact JW.1 hq (h'.forget hle) lE { nrm := hp.nrm, rK := fun i G' D' eO a' w' hi hq h' => hp.rK i G' D' eO a' w' (List.mem_append_right _ hi) hq h', ret := hp.ret }
  | cond x J y z JW Qq =>
    refine ⟨?_, fun hc => by simp only [pW, reduceCtorEq] at hc⟩
    intro c G r D σ a w Qm Q hc h hm hp
    cases c <;> simp only [di, reduceCtorEq] at hc
    rename_i cx ca cb
    rw [az] at hc
    obtain ⟨h1, h2⟩ := hc
    simp only [ae] at h1
    rw [bt] at h2
    obtain ⟨⟨n1, e1⟩, Hy, h2⟩ := h2
    rw [bt] at h2
    obtain ⟨⟨n2, e2⟩, N1, h2⟩ := h2
    obtain ⟨t, FW, m1, m2⟩ : ∃ t, a.eval cx = .bool t ∧ (t = true → oo C.E y Qm σ) ∧ (t = false → oo C.E z Qm σ) := by
      have h0 := h.jr h1.1 h1.2
      rcases hm with ⟨t, ht, m1, m2⟩ | ⟨ht, m1, m2⟩
      · refine ⟨t, ?_, m1, m2⟩
        rw [ht] at h0
        rcases h0 with e | ⟨e, _⟩
        · cases e
        · generalize a.eval cx = v at e ⊢
          cases e
          rfl
      · rw [ht] at h0
        rcases h0 with e | ⟨e, _⟩
        · cases e
        · generalize a.eval cx = v at e ⊢
          cases e
          exact ⟨_, rfl, fun _ => m1, fun _ => m2⟩
    have key : (∀ D' eO a' w' G', n1 = some G' → Qm .normal eO → dU C D' eO G'.get a' w' → Q .normal a' w') ∧ (∀ D' eO a' w' G', n2 = some G' → Qm .normal eO → dU C D' eO G'.get a' w' → Q .normal a' w') ∧ r.2 = e1 ++ e2 := by
      cases n1 with
      | none =>
        simp only [ax] at h2
        subst h2
        exact ⟨fun _ _ _ _ _ e => (by cases e), fun D' eO a' w' G' e hq h' => hp.nrm G' D' eO a' w' e hq h', rfl⟩
      | some A =>
        cases n2 with
        | none =>
          simp only [ax] at h2
          subst h2
          exact ⟨fun D' eO a' w' G' e hq h' => hp.nrm G' D' eO a' w' e hq h', fun _ _ _ _ _ e => (by cases e), rfl⟩
        | some B =>
          simp only at h2
          rw [az] at h2
          obtain ⟨h3, h4⟩ := h2
          simp only [ae] at h3
          simp only [ax] at h4
          subst h4
          refine ⟨fun D' eO a' w' G' e hq h' => ?_, fun D' eO a' w' G' e hq h' => ?_, rfl⟩
          · cases e
            obtain ⟨AM, Aj⟩ := h'.weaken h3.1
            exact hp.nrm _ _ _ _ _ rfl hq Aj
          · cases e
            obtain ⟨AM, Aj⟩ := h'.weaken h3.2
            exact hp.nrm _ _ _ _ _ rfl hq Aj
    obtain ⟨k1, k2, k3⟩ := key
    refine wp_cond_split FW (fun e => ?_) (fun e => ?_)
    · exact JW.1 Hy h (m1 e) { nrm := fun G' D' eO a' w' e => k1 D' eO a' w' G' e, rK := fun i G' D' eO a' w' hi hq h' => hp.rK i G' D' eO a' w' (by rw [k3]; exact List.mem_append_left _ hi) hq h', ret := hp.ret }
    · exact Qq.1 N1 h (m2 e) { nrm := fun G' D' eO a' w' e => k2 D' eO a' w' G' e, rK := fun i G' D' eO a' w' hi hq h' => hp.rK i G' D' eO a' w' (by rw [k3]; exact List.mem_append_right _ hi) hq h', ret := hp.ret }
  | block id J y ih =>
    refine ⟨?_, fun hc => by simp only [pW, reduceCtorEq] at hc⟩
    intro c G r D σ a w Qm Q hc h hm hp
    cases c <;> simp only [di, reduceCtorEq] at hc
    rename_i i b
    rw [az] at hc
    obtain ⟨⟨rfl, hid⟩, h2⟩ := hc
    rw [bt] at h2
    obtain ⟨⟨n1, e1⟩, Hy, h2⟩ := h2
    rw [az] at h2
    obtain ⟨qB, h2⟩ := h2
    simp only [ax] at h2
    subst h2
    have wH : ∀ G' D' eO a' w', G' ∈ n1.toList ++ (e1.filter (·.1 == i)).map (·.2) → Qm .normal eO → dU C D' eO G'.get a' w' → Q .normal a' w' := by
      intro G' D' eO a' w' hG hq h'
      obtain ⟨AM, Aj⟩ := h'.weaken (bj.1 qB _ hG)
      refine hp.nrm J AM eO a' w' ?_ hq Aj
      cases n1 with
      | some x => simp
      | none =>
        have : (e1.filter (·.1 == i)).isEmpty = false := by
          cases hf : e1.filter (·.1 == i) with
          | nil => rw [hf] at hG; simp at hG
          | cons _ _ => rfl
        simp only [this, Bool.and_false]
        rfl
    refine wp_block (ih.1 Hy h hm { nrm := fun G' D' eO a' w' e hq h' => ?_, rK := fun j G' D' eO a' w' hi hq h' => ?_, ret := fun G' D' eO a' w' hi hq h' => hp.ret G' D' eO a' w' hi hq h' })
    · exact wH G' D' eO a' w' (List.mem_append_left _ (by simp at e; simp [e])) hq h'
    · simp only at hq hi
      by_cases e : j = i
      · subst e
        rw [ao rfl] at hq
        rw [ry hid]
        simp only [Exit.inBlock, if_true]
        exact wH G' D' eO a' w' (List.mem_append_right _ (aT.2 ⟨_, List.mem_filter.2 ⟨hi, by simp⟩, rfl⟩)) hq h'
      · rw [ah e] at hq
        have := hp.rK j G' D' eO a' w' (List.mem_filter.2 ⟨hi, by simpa using e⟩) hq h'
        rcases oR j with ⟨l, _, e2⟩ | ⟨_, e2⟩
        · rw [e2] at this ⊢; exact this
        · rw [e2] at this ⊢
          simp only [Exit.inBlock]
          rw [ah e]; exact this
  | loop cd J y ih =>
    refine ⟨?_, fun hc => by simp only [pW, reduceCtorEq] at hc⟩
    intro c G r D σ a w Qm Q hc h hm hp
    cases c <;> simp only [di, reduceCtorEq] at hc
    rename_i b
    rw [az] at hc
    obtain ⟨h1, h2⟩ := hc
    simp only [ae] at h1
    obtain ⟨⟨QR, CL⟩, _⟩ := h1
    rw [bt] at h2
    obtain ⟨⟨n1, e1⟩, Hy, h2⟩ := h2
    rw [az] at h2
    obtain ⟨qB, h2⟩ := h2
    simp only [ax] at h2
    subst h2
    obtain ⟨ι, jT, μ, i0, Oy, tY⟩ := hm
    have wE : ∀ {G' : GL} {D' : kV} {eO : Sg} {a' : Act} {w' : World} {i : ι}, kX G' J = true → dU C D' eO G'.get a' w' → Fm eO cd (jT i) → ∃ AM, dU C AM (head cd (jT i)) (GL.get J) a' w' := by
      intro G' D' eO a' w' i NY h' CQ
      obtain ⟨AM, Aj⟩ := h'.weaken NY
      refine ⟨AM, Aj.forget (fun k => ?_)⟩
      rw [head_eq CQ k]
      split
      · exact .inl rfl
      · exact .inr rfl
    refine wp_loop_ghost (fun n a w => ∃ i D, μ i = n ∧ dU C D (head cd (jT i)) (GL.get J) a w) (μ i0) ?_ ?_
    · obtain ⟨AM, Aj⟩ := wE QR h Oy
      exact ⟨i0, AM, rfl, Aj⟩
    · rintro n a1 w1 ⟨i, D1, rfl, hs⟩
      refine ih.1 Hy hs (tY i) { nrm := fun G' D' eO a' w' e hq h' => ?_, rK := fun j G' D' eO a' w' hi hq h' => qj (hp.rK j G' D' eO a' w' hi hq h'), ret := fun G' D' eO a' w' hi hq h' => hp.ret G' D' eO a' w' hi hq h' }
      simp only at e
      subst e
      simp only [Option.all_some] at qB
      obtain ⟨j, gM, CQ⟩ := hq
      obtain ⟨AM, Aj⟩ := wE qB h' CQ
      exact ⟨μ j, gM, j, AM, rfl, Aj⟩
  | exit id =>
    refine ⟨?_, fun hc => by simp only [pW, reduceCtorEq] at hc⟩
    intro c G r D σ a w Qm Q hc h hm hp
    cases c <;> simp only [di, reduceCtorEq] at hc
    · rw [az] at hc
      obtain ⟨⟨rfl, hid⟩, h2⟩ := hc
      simp only [ax] at h2
      subst h2
      exact wp_exit (by have := hp.rK _ _ _ _ _ _ (List.mem_singleton.2 rfl) hm h; rwa [ry hid] at this)
    · rw [az] at hc
      obtain ⟨rfl, h2⟩ := hc
      simp only [ax] at h2
      subst h2
      exact wp_goto (by have := hp.rK _ _ _ _ _ _ (List.mem_singleton.2 rfl) hm h; rwa [rV] at this)
  | ret =>
    refine ⟨?_, fun hc => by simp only [pW, reduceCtorEq] at hc⟩
    intro c G r D σ a w Qm Q hc h hm hp
    cases c <;> simp only [di, reduceCtorEq] at hc
    rw [az] at hc
    obtain ⟨h1, h2⟩ := hc
    exact wp_ret (hp.ret _ _ _ _ _ h1 hm h)
  | Bp x ih =>
    refine ⟨?_, fun hc => by simp only [pW, reduceCtorEq] at hc⟩
    intro c G r D σ a w Qm Q hc h hm hp
    cases c <;> simp only [di, reduceCtorEq] at hc
    rename_i c
    rw [bt] at hc
    obtain ⟨r', h1, h2⟩ := hc
    rw [az] at h2
    obtain ⟨qB, h2⟩ := h2
    cases h2
    obtain ⟨ι, lb, rk, mu, Inv, h3, h4⟩ := ih.2 (Q := fun e a w => match e with | .goto _ => False | e => Q e a w) h1 h hm
      { nrm := fun G' D' eO a' w' e hq h' => hp.nrm G' D' eO a' w' e hq h', ret := fun G' D' eO a' w' e hq h' => hp.ret G' D' eO a' w' e hq h',
        rK := fun i G' D' eO a' w' hi hq h' => by
          have gM : i < 1000000 := by simpa using bj.1 qB _ hi
          have := hp.rK i G' D' eO a' w' hi hq h'
          rw [ry gM] at this ⊢
          exact this }
    refine s5 lb rk mu Inv (wp_mono h3 fun e a w q => ?_) fun i a w hI => ?_
    · cases e <;> first | exact q | exact q.resolve_right id
    · obtain ⟨rest, e1, e2⟩ := h4 i a w hI
      refine ⟨rest, e1, wp_mono e2 fun e a w q => ?_⟩
      cases e <;> first | exact q | exact q.resolve_right id
  | Bo x ih =>
    refine ⟨fun hc => by rename_i c _ _ _ _ _ _ _ _; cases c <;> simp only [di, reduceCtorEq] at hc, ?_⟩
    intro c G r D σ a w Qm Q hc h hm hp
    simp only [pW] at hc
    refine ⟨Empty, Empty.elim, Empty.elim, Empty.elim, fun i => i.elim, wp_mono (ih.1 hc h hm hp) fun e a w q => ?_, fun i => i.elim⟩
    cases e <;> first | exact q | exact .inr q
  | AP l cd J x y JX JW =>
    refine ⟨fun hc => by rename_i c _ _ _ _ _ _ _ _; cases c <;> simp only [di, reduceCtorEq] at hc, ?_⟩
    intro c G r D σ a w Qm Q hc h hm hp
    simp only [pW] at hc
    split at hc
    · rename_i rest Po
      rw [bt] at hc
      obtain ⟨⟨n1, e1⟩, Hy, hc⟩ := hc
      rw [bt] at hc
      obtain ⟨⟨n2, e2⟩, N1, hc⟩ := hc
      rw [az] at hc
      obtain ⟨wK, hc⟩ := hc
      simp only [ax] at hc
      subst hc
      simp only [ae] at wK
      obtain ⟨qB, Ph⟩ := wK
      obtain ⟨Mb, jT, μ, hb, hr⟩ := hm
      let Ip : Mb → Act → World → Prop := fun i a w => ∃ D', dU C D' (head cd (jT i)) (GL.get J) a w
      have wE : ∀ {G' : GL} {D' : kV} {eO : Sg} {a' : Act} {w' : World} {i : Mb}, (gid l, G') ∈ e1 ++ e2 → dU C D' eO G'.get a' w' → Fm eO cd (jT i) → Ip i a' w' := by
        intro G' D' eO a' w' i hi h' CQ
        obtain ⟨AM, Aj⟩ := h'.weaken (bj.1 qB _ (List.mem_filter.2 ⟨hi, by simp⟩))
        refine ⟨AM, Aj.forget (fun k => ?_)⟩
        rw [head_eq CQ k]
        split
        · exact .inl rfl
        · exact .inr rfl
      have wz : ∀ G', n1 = some G' → (if n1.isNone then n2 else n1) = some G' := by rintro G' rfl; rfl
      have CD : ∀ G', n2 = some G' → (if n1.isNone then n2 else n1) = some G' := by
        rintro G' rfl
        simp at Ph
        simp [Ph]
      obtain ⟨P9, lb, rk, mu, Inv, h3, h4⟩ := JW.2 (Q := fun e a w => match e with | .goto l' => if l' = l then ∃ i, Ip i a w else Q (.goto l') a w | e => Q e a w) N1 h hb
        { nrm := fun G' D' eO a' w' e hq h' => hp.nrm G' D' eO a' w' (CD G' e) hq h', ret := fun G' D' eO a' w' e hq h' => hp.ret G' D' eO a' w' e hq h',
          rK := fun i G' D' eO a' w' hi hq h' => by
            simp only at hq
            by_cases e : i = gid l
            · subst e
              rw [ao rfl] at hq
              obtain ⟨j, hj⟩ := hq
              rw [rV]
              simp only [if_true]
              exact ⟨j, wE (List.mem_append_right _ hi) h' hj⟩
            · rw [ah e] at hq
              have := hp.rK i G' D' eO a' w' (List.mem_filter.2 ⟨List.mem_append_right _ hi, by simpa using e⟩) hq h'
              rcases oR i with ⟨l', rfl, e2⟩ | ⟨_, e2⟩
              · rw [e2] at this ⊢
                have jQ : l' ≠ l := fun h => e (by rw [h])
                simp only [jQ, if_false]; exact this
              · rw [e2] at this ⊢; exact this }
      refine ⟨P9 ⊕ Mb, Sum.elim lb (fun _ => l), Sum.elim (fun i => rk i + 1) (fun _ => 0), Sum.elim mu μ, Sum.elim Inv Ip, wp_mono h3 fun e a w q => ?_, ?_⟩
      · cases e <;> first | exact q | skip
        rename_i l'
        rcases q with ⟨i, q1, q2⟩ | q
        · exact .inl ⟨.inl i, q1, q2⟩
        · simp only at q
          by_cases e : l' = l
          · rw [ao e] at q
            obtain ⟨i, q⟩ := q
            exact .inl ⟨.inr i, e.symm, q⟩
          · rw [ah e] at q
            exact .inr q
      · rintro (i | i) a w hI
        · obtain ⟨Bt, f1, f2⟩ := h4 i a w hI
          refine ⟨Bt, f1, wp_mono f2 fun e a w q => ?_⟩
          cases e <;> first | exact q | skip
          rename_i l'
          rcases q with ⟨j, q1, q2, q3⟩ | q
          · exact .inl ⟨.inl j, q1, q2, by simp only [Sum.elim_inl]; omega⟩
          · simp only at q
            by_cases e : l' = l
            · rw [ao e] at q
              obtain ⟨j, q⟩ := q
              exact .inl ⟨.inr j, e.symm, q, .inl (by simp only [Sum.elim_inl, Sum.elim_inr]; omega)⟩
            · rw [ah e] at q
              exact .inr q
        · obtain ⟨D', hs⟩ := hI
          refine ⟨rest, Po, JX.1 Hy hs (hr i) { nrm := fun G' D' eO a' w' e hq h' => hp.nrm G' D' eO a' w' (wz G' e) hq h', ret := fun G' D' eO a' w' e hq h' => hp.ret G' D' eO a' w' e hq h', rK := fun j G' D' eO a' w' hi hq h' => ?_ }⟩
          simp only at hq
          by_cases e : j = gid l
          · subst e
            rw [ao rfl] at hq
            obtain ⟨k, hk, Oy⟩ := hq
            rw [rV]
            exact .inl ⟨.inr k, rfl, wE (List.mem_append_left _ hi) h' Oy, .inr ⟨rfl, hk⟩⟩
          · rw [ah e] at hq
            have := hp.rK j G' D' eO a' w' (List.mem_filter.2 ⟨List.mem_append_left _ hi, by simpa using e⟩) hq h'
            rcases oR j with ⟨l', rfl, e2⟩ | ⟨_, e2⟩
            · rw [e2] at this ⊢; exact .inr this
            · rw [e2] at this ⊢; exact this
    · cases hc
theorem Df (hE:∀f,fH C.P C.E.gl f (C.E.fs f)∧(C.E.fs f).sg=sg f) {rt:GL→Bool} (m:M) {c:Code} {G:GL} {r:Option GL × List (Nat × GL)} {D:kV} {σ:Sg} {a:Act} {w:World} {Qm:MX→Sg→Prop} {Q:Exit→Act→World→Prop}
  (hc:di C.P sg C.nt rt c m G=some r) (h:dU C D σ G.get a w) (hm:oo C.E m Qm σ) (hp:yv C rt r.1 r.2 Qm Q):c.wp C.P Q a w:=(E8 hE m).1 hc h hm hp
end
end Go.Eng
namespace Go.Eng
open Go.RowKit
inductive RV where
 | t (t:Nat)
 | c (a m n:Nat) (agg:Bool)
def RV.get (σ:Sg):RV→Option AV
 | .t j=>some (σ j)
 | .c a m n agg=>match σ a,σ m with
  | .pt,.ag cs=>gS cs 0 n agg
  | _,_=>none
def xL (σ:Sg):List RV→Option (List AV)
 | []=>some []
 | r :: rs=>(r.get σ).bind fun x=>(xL σ rs).map (x :: ·)
structure FD where
 np:Nat
 m:M
 ref:Option (Nat × Nat):=none
 fA:List (Nat × (Nat × Nat)):=[]
 res:List RV
 own:List (Nat × Nat):=[]
 new:Option (Nat × Nat):=none
 fx:List (Nat × Nat):=[]
 ps:Option (Nat × (Nat × Nat)):=none
def FD.sg (d:FD):dq:={ ref:=d.ref.map (·.1),fA:=jk d.fA,cS:=d.res.length,own:=d.own,new:=d.new.map (·.1),fx:=d.fx,ps:=d.ps.map fun q=>(q.1,q.2.2) }
def FD.start (d:FD) (ins:List AV):Sg :=
 match d.ref with
 | none=>match d.ps with
  | none=>head (List.range d.np) ins
  | some (i,k,_)=>head (lk k :: List.range d.np) (ins.getD i .dead :: ins.set i .pt)
 | some (i,m)=>head (m :: List.range d.np) (ins.getD i .dead :: ins.set i .pt)
def FD.vp (d:FD) (σ:Sg) (outs:List AV):Prop :=
 ∃rs,xL σ d.res=some rs∧(∀q∈d.own,∃s es,rs[q.1]?=some (.sl s es))∧(∀q,d.new=some q→rs[q.1]?=some .pt) ∧
  outs=rs++d.new.toList.map (fun q=>σ q.2)++d.ref.toList.map (fun q=>σ q.2)++d.ps.toList.map (fun q=>σ (lk q.2.1))
def FD.runs (d:FD) (E:Env) (ins outs:List AV):Prop :=
 oo E d.m (fun e σ=>match e with | .exit _=>False | _=>d.vp σ outs) (d.start ins)
def pY (us:List (Nat × (Nat × Nat))) (q:Nat × Nat):Option Nat:=(us.find? (fun u=>u.1 == q.1&&u.2.2 == q.2)).map (·.2.1)
def yt {X:Type}:List (Option X)→Option (List X)
 | []=>some []
 | none :: _=>none
 | some x :: r=>(yt r).map (x :: ·)
def RV.key (G:GL) (s:Nat):RV→Option Nat
 | .t j=>match G.get j with
  | .gb k s'=>if s=s' then some k else none
  | _=>none
 | .c _ m n agg=>if n=1∧agg=false then (match G.get m with | .cl us=>pY us (0,s) | _=>none) else none
def ru (G:GL) (q:Option (Nat × Nat)) (ts:List (Nat × Nat)):Option (List Nat) :=
 match q with
 | none=>if ts.isEmpty then some [] else none
 | some (_,m)=>match G.get m with
  | .cl us=>yt (ts.map (pY us))
  | _=>none
def FD.Jy (d:FD) (G:GL):Option (List Nat):=yt (d.own.map fun q=>(d.res[q.1]?).bind (RV.key G q.2))
def j0 (G:GL) (ks:List Nat) (ts:List (Nat × Nat)):Bool:=kC (fun k q=>G.get (lk k) == .live q.2) ks ts
def RV.Lq (G:GL):RV→Bool
 | .t _=>true
 | .c a m _ _=>G.get a == .ptr m 0&&(G.get m).gy
def FD.rt (d : FD) (G : GL) : Bool :=
  d.res.all (RV.Lq G) && (match d.ref with | some (_, m) => (G.get m).gy | none => true) &&
  (match d.new with
   | some (j, m) => (G.get m).gy && (match d.res[j]? with | some (.t t) => G.get t == .ptr m 0 | _ => false)
   | none => true) &&
  (match ru G d.ref (jk d.fA), d.Jy G, ru G d.new d.fx with
   | some r, some o, some n => decide (r ++ o ++ n).Nodup && j0 G r (jk d.fA) && j0 G o d.own && j0 G n d.fx
   | _, _, _ => false) &&
  (match d.ps with | some (_, k, s) => (match G.get (lk k) with | .pv s' => s == s' | .nC _ s' => s == s' | _ => false) | none => true)
def lh (P:Program) (nt:Nat):ResultVar→RV→Bool
 | .tmp t,.t t'=>t == t'&&decide (t<nt)
 | .cell a ty,.c a' _ n agg=>a == a'&&decide (a<nt)&&jX P ty n agg
 | _,_=>false
def FD.lT (d:FD):List Nat:=d.fA.map fun t=>lk t.2.1
def FD.G0 (d:FD):GL :=
 match d.ref with
 | none=>match d.ps with
  | none=>[]
  | some (i,k,s)=>GL.cQ [] [i,lk k] [.gb k s,.pv s]
 | some (i,m)=>GL.cQ [] (i :: m :: d.lT) (.ptr m 0 :: .cl d.fA :: d.fA.map fun t => .live t.2.2)
def FD.nb (d:FD) (nt:Nat):Bool :=
 decide (d.np≤nt∧nt≤1000000∧(d.fA.map (·.2.1)).Nodup∧(d.ref=none→d.fA=[])∧(d.new=none→d.fx=[])∧(d.ref=none∨d.new=none)) &&
 (match d.ref with | none=>true | some (i,m)=>decide (i<d.np∧nt≤m∧m=999999)) &&
 (match d.ps with | none=>true | some (i,k,_)=>decide (i<d.np∧d.ref=none∧d.new=none∧d.own=[]∧k=999999))
def ga (P : Program) (sg : Nat → dq) (fn : Func) (d : FD) : Bool :=
  d.nb fn.ntmps && kC (lh P fn.ntmps) fn.results.toList d.res &&
  (match fn.body with
   | some c => (match di P sg fn.ntmps d.rt c d.m d.G0 with
     | some (n, ex) => ex.isEmpty && n.all d.rt
     | none => false)
   | none => false)
section
variable {X:Type}
theorem mb {σ:Nat→X}:∀{ks:List Nat} {xs:List X} {p k:Nat} {x:X},ks.Nodup→ks[p]?=some k→xs[p]?=some x→Eng.cQ σ ks xs k=x
 | j :: ks,y :: xs,0,k,x,_,h1,h2=>by
  simp only [List.getElem?_cons_zero,ax] at h1 h2
  subst h1;subst h2
  simp [Eng.cQ,dJ]
 | j :: ks,y :: xs,p+1,k,x,hn,h1,h2=>by
  simp only [List.getElem?_cons_succ] at h1 h2
  rw [List.nodup_cons] at hn
  have:k≠j:=fun e=>hn.1 (e ▸ bc h1)
  simp only [Eng.cQ,dJ,this,if_false]
  exact mb hn.2 h1 h2
 | [],_,_,_,_,_,h1,_=>by simp at h1
 | _ :: _,[],_,_,_,_,_,h2=>by simp at h2
theorem vz {σ:Nat→X} {key:Nat}:∀{ks:List Nat} {xs:List X},Eng.cQ σ ks xs key=σ key∨∃(p:Nat) (x:X),ks[p]?=some key∧xs[p]?=some x∧Eng.cQ σ ks xs key=x
 | j :: ks,y :: xs=>by
  by_cases e:key=j
  ·right
   exact ⟨0,y,by simp [e],rfl,by simp [Eng.cQ,dJ,e]⟩
  ·simp only [Eng.cQ,dJ,e,if_false]
   rcases vz (σ:=σ) (key:=key) (ks:=ks) (xs:=xs) with h | ⟨p,x,h1,h2,h3⟩
   ·exact .inl h
   ·exact .inr ⟨p+1,x,by simpa using h1,by simpa using h2,h3⟩
 | [],_ => .inl rfl
 | _ :: _,[] => .inl rfl
end
theorem nD {ins:List AV} {n t:Nat} (h:ins.length=n):head (List.range n) ins t=ins.getD t .dead:=by
 unfold head
 by_cases ht:t<n
 ·have h1:(List.range n)[t]?=some t:=by simp [ht]
  have hl:t<ins.length:=by omega
  have h2:ins[t]?=some ins[t]:=aE hl
  rw [mb List.nodup_range h1 h2]
  simp [List.getD,h2]
 ·rw [jf (by simpa using ht)]
  have:ins[t]?=none:=List.getElem?_eq_none (by omega)
  simp [List.getD,this]
section
variable {P:Program} {E:Env} {w:World} {R:Reach} {ins:List AV} {xs:List Value}
theorem rW {nt t:Nat} (ht:t<nt):((⟨xs⟩:Array Value)++Array.replicate (nt - xs.length) undef).getD t undef=xs.getD t undef:=by
 simp only [Array.getD_eq_getD_getElem?,aG]
 by_cases h:t<xs.length
 ·rw [Array.getElem?_append_left (by simpa using h)]
  simp
 ·rw [Array.getElem?_append_right (by simpa using h)]
  rw [List.getElem?_eq_none (by omega)]
  simp only [Array.getElem?_replicate]
  split <;> rfl
theorem uu (h:gP R w ins xs) (t:Nat):Rep R w (ins.getD t .dead) (xs.getD t undef):=by
 by_cases ht:t<ins.length
 ·obtain ⟨y,h1,h2⟩:=h.get t _ (aE ht)
  simp only [List.getD,aE ht,h1,Option.getD_some]
  exact h2
 ·simp only [List.getD,List.getElem?_eq_none (Nat.le_of_not_lt ht),Option.getD_none]
  exact .dead _
def sI (d:FD) (xs:List Value):Option Nat :=
 match d.sg.ref with
 | none=>none
 | some i=>match xs[i]? with
  | some (.pointer (some ⟨b,0,none⟩))=>some b
  | _=>none
theorem Du {d:FD} {nt:Nat} (lD:d.ps=none) (hb:d.nb nt=true) (hlen:ins.length=d.np) (hR:∀b o,R b o→b<w.heap.size) (xY:∀n,Rep R w (E.gl n) (.pointer (some ⟨n,0,none⟩))) (ha:jG d.sg R w ins xs) :
  ∃D,dU ⟨P,E,nt,w,R,ot d.sg w xs,sI d xs,none⟩ D (d.start ins) d.G0.get { tmps:=(⟨xs⟩:Array Value)++Array.replicate (nt - xs.length) undef,defers:=[] } w:=by
 simp only [FD.nb,ae,aB] at hb
 obtain ⟨⟨⟨b1,b2,b3,b4,b5,b6⟩,b7⟩,_⟩:=hb
 have y5:∀(hx:xs.length=d.np),((⟨xs⟩:Array Value)++Array.replicate (nt - xs.length) undef).size=nt:=by
  intro hx
  simp
  omega
 cases jb:d.ref with
 | none =>
  have hg:d.sg.ref=none:=by simp [FD.sg,jb]
  simp only [jG,hg] at ha
  have hx:xs.length=d.np:=by rw [←ha.length,hlen]
  have hG:d.G0=[]:=by simp [FD.G0,jb,lD]
  have vu:d.start ins=head (List.range d.np) ins:=by simp [FD.start,jb,lD]
  rw [hG,vu]
  refine ⟨⟨R,fun _=>0,fun _=>undef⟩,{ size:=y5 hx,defers:=rfl,kj:=b2,nr:=?_,lS:=?_,slot:=?_,mem:=?_,gb:=?_,ps:=fun _ _ h=>(by cases h),sep:=?_,own:=?_,inv:=?_,ext:=Ext.refl _ _ _,ns:=hR,gl:=xY,fix:=?_ }⟩
  ·intro m h;cases h
  ·intro m h;cases h
  ·intro t ht
   refine .inr ⟨?_,fun _=>trivial⟩
   rw [nD hlen]
   dsimp only
   rw [rW ht]
   exact uu ha t
  ·intro m ts h;cases h
  ·intro m ts h;cases h
  ·intro k k' g h;cases h
  ·intro k g h;cases h
  ·intro k;trivial
  ·exact ⟨fun b hb=>by simp [sI,hg] at hb,fun v hv=>by cases hv⟩
 | some im =>
  obtain ⟨i,m⟩:=im
  simp only [jb,aB] at b7
  obtain ⟨c1,c2,rfl⟩:=b7
  generalize S4:(999999:Nat)=m at jb c2 ⊢
  have c3:m<1000000:=by omega
  have hg:d.sg.ref=some i:=by simp [FD.sg,jb]
  simp only [jG,hg] at ha
  obtain ⟨b,cs,x,tv,a1,a2,a3,a4,a5,a6,a7⟩:=ha
  have hx:xs.length=d.np:=by rw [←a4.length,List.length_set,hlen]
  have FO:d.sg.fA.length=d.fA.length:=by simp [FD.sg,jk]
  have lF:d.lT.Nodup:=by
   have:d.lT=(d.fA.map (·.2.1)).map lk:=by simp [FD.lT]
   rw [this]
   exact List.Pairwise.map _ (fun a b h e=>h (jZ e)) b3
  have hG:d.G0.get=Eng.cQ (fun _=>Gh.no) (i :: m :: d.lT) (.ptr m 0 :: .cl d.fA :: d.fA.map fun t => .live t.2.2):=by
   simp only [FD.G0,jb,GL.pS]
   rfl
  have Af:∀k,k<1000000→k ∉ d.lT:=by
   intro k hk hm
   simp only [FD.lT,aT] at hm
   obtain ⟨t,_,rfl⟩:=hm
   have:=hU t.2.1
   omega
  have hnd:(i :: m :: d.lT).Nodup:=by
   rw [List.nodup_cons,List.nodup_cons]
   refine ⟨?_,Af m c3,lF⟩
   rw [bq]
   rintro (e | e)
   ·omega
   ·exact Af i (by omega) e
  have gi:d.G0.get i = .ptr m 0:=by rw [hG];exact mb hnd (p:=0) rfl rfl
  have gm:d.G0.get m = .cl d.fA:=by rw [hG];exact mb hnd (p:=1) rfl rfl
  have gt:∀(p:Nat) (t:Nat × (Nat × Nat)),d.fA[p]?=some t→d.G0.get (lk t.2.1) = .live t.2.2:=by
   intro p t hp
   rw [hG]
   exact mb hnd (p:=p+2) (by simp [FD.lT,hp]) (by simp [hp])
  have wP:∀key,d.G0.get key = .no∨(key=i∧d.G0.get key = .ptr m 0)∨(key=m∧d.G0.get key = .cl d.fA)∨∃(p:Nat) (t:Nat × (Nat × Nat)),d.fA[p]?=some t∧key=lk t.2.1∧d.G0.get key = .live t.2.2:=by
   intro key
   have h0:=vz (σ:=fun _=>Gh.no) (key:=key) (ks:=i :: m :: d.lT) (xs := .ptr m 0 :: .cl d.fA :: d.fA.map fun t => .live t.2.2)
   rw [←hG] at h0
   rcases h0 with h | ⟨p,g,h1,h2,h3⟩
   ·exact .inl h
   ·right
    match p,h1,h2 with
    | 0,h1,h2=>simp at h1 h2;subst h1;subst h2;exact .inl ⟨rfl,h3⟩
    | 1,h1,h2=>simp at h1 h2;subst h1;subst h2;exact .inr (.inl ⟨rfl,h3⟩)
    | p+2,h1,h2 =>
     simp only [List.getElem?_cons_succ,FD.lT,aL,bf] at h1 h2
     obtain ⟨t,ht,h1⟩:=h1
     obtain ⟨t',uZ,h2⟩:=h2
     rw [ht] at uZ;cases uZ
     exact .inr (.inr ⟨p,t,ht,h1.symm,h2 ▸ h3⟩)
  have pO:∀(p:Nat) (t:Nat × (Nat × Nat)) (v:Value),d.fA[p]?=some t→tv[p]?=some v→Eng.cQ (fun _=>undef) d.lT tv (lk t.2.1)=v:=by
   intro p t v hp hv
   exact mb lF (p:=p) (by simp [FD.lT,hp]) hv
  have Iv:∀(p:Nat) (t:Nat × (Nat × Nat)),d.fA[p]?=some t→∃v,tv[p]?=some v∧Eng.cQ (fun _=>undef) d.lT tv (lk t.2.1)=v∧cs[t.1]?=some v∧gG R w v t.2.2:=by
   intro p t hp
   have gM:=(aC.1 hp).1
   have hv:tv[p]?=some tv[p]:=aE (by omega)
   have hs:d.sg.fA[p]?=some (t.1,t.2.2):=by simp [FD.sg,jk,hp]
   obtain ⟨q1,q2⟩:=a6 p _ _ hs hv
   exact ⟨_,hv,pO p t _ hp hv,q1,q2⟩
  have vu:d.start ins=head (m :: List.range d.np) (ins.getD i .dead :: ins.set i .pt):=by simp [FD.start,jb]
  have sm:d.start ins m=x:=by
   rw [vu]
   simp [head,Eng.cQ,dJ,List.getD,a2]
  have ss:∀t,t≠m→d.start ins t=(ins.set i .pt).getD t .dead:=by
   intro t ht
   rw [vu]
   simp only [head,Eng.cQ,dJ,ht,if_false]
   exact nD (by simpa using hlen)
  have sG:∀key g,gC ⟨R,fun _=>b,Eng.cQ (fun _=>undef) d.lT tv⟩ d.G0.get key=some g →
    ∃p,(some b :: tv.map Value.ownBlock)[p]?=some (some g)∧(p=0→key=m)∧(∀q,p=q+1→∃t,d.fA[q]?=some t∧key=lk t.2.1):=by
   intro key g hk
   rcases wP key with e | ⟨_,e⟩ | ⟨k1,e⟩ | ⟨p,t,hp,k1,e⟩
   ·simp [gC,e] at hk
   ·simp [gC,e] at hk
   ·rw [iI e] at hk
    exact ⟨0,by simpa using hk,fun _=>k1,fun q hq=>by omega⟩
   ·rw [iH e] at hk
    obtain ⟨v,hv,h1,_,_⟩:=Iv p t hp
    rw [k1] at hk
    dsimp only at hk
    rw [h1] at hk
    refine ⟨p+1,by simp [hv,hk],fun h=>by omega,fun q hq=>⟨t,?_,k1⟩⟩
    have:q=p:=by omega
    subst this
    exact hp
  refine ⟨⟨R,fun _=>b,Eng.cQ (fun _=>undef) d.lT tv⟩,{ size:=y5 hx,defers:=rfl,kj:=b2,nr:=?_,lS:=?_,slot:=?_,mem:=?_,gb:=?_,ps:=fun k s hk=>(by
   rcases wP k with e | ⟨_,e⟩ | ⟨_,e⟩ | ⟨_,_,_,_,e⟩ <;> rw [e] at hk <;> cases hk),sep:=?_,own:=?_,inv:=?_,ext:=Ext.refl _ _ _,ns:=hR,gl:=xY,fix:=?_ }⟩
  ·intro k hk
   rcases wP k with e | ⟨_,e⟩ | ⟨k1,e⟩ | ⟨p,t,hp,k1,e⟩
   ·rw [e] at hk;cases hk
   ·rw [e] at hk;cases hk
   ·subst k1;exact ⟨c2,c3⟩
   ·rw [e] at hk;cases hk
  ·intro k hk
   rcases wP k with e | ⟨_,e⟩ | ⟨k1,e⟩ | ⟨p,t,hp,k1,e⟩
   ·rw [e] at hk;cases hk
   ·rw [e] at hk;cases hk
   ·rw [e] at hk;cases hk
   ·subst k1;exact hU _
  ·intro t ht
   dsimp only at ht ⊢
   rw [ss t (by omega),rW ht]
   refine .inr ⟨uu a4 t,fun _=>?_⟩
   rcases wP t with e | ⟨k1,e⟩ | ⟨k1,e⟩ | ⟨p,t',hp,k1,e⟩
   ·rw [e];trivial
   ·rw [e]
    simp only [jR]
    subst k1
    simp [List.getD,a1]
   ·omega
   ·have:=hU t'.2.1
    omega
  ·intro k ts hk
   rcases wP k with e | ⟨k1,e⟩ | ⟨k1,e⟩ | ⟨p,t',hp,k1,e⟩
   ·rw [e] at hk;cases hk
   ·rw [e] at hk;cases hk
   ·rw [e] at hk
    cases hk
    subst k1
    rw [sm]
    refine ⟨cs,a3,fun t ht=>?_⟩
    obtain ⟨p,hp⟩:=bz ht
    obtain ⟨v,_,h1,h2,_⟩:=Iv p t hp
    dsimp only
    rw [h1]
    exact h2
   ·rw [e] at hk;cases hk
  ·intro k s hk
   rcases wP k with e | ⟨k1,e⟩ | ⟨k1,e⟩ | ⟨p,t',hp,k1,e⟩
   ·rw [e] at hk;cases hk
   ·rw [e] at hk;cases hk
   ·rw [e] at hk;cases hk
   ·rw [e] at hk
    cases hk
    obtain ⟨v,_,h1,_,h3⟩:=Iv p t' hp
    subst k1
    dsimp only
    rw [h1]
    exact h3
  ·intro k k' g h1 h2
   obtain ⟨p,q1,q2,q3⟩:=sG k g h1
   obtain ⟨p',r1,r2,r3⟩:=sG k' g h2
   have:=a7 p p' g q1 r1
   subst this
   left
   cases p with
   | zero=>rw [q2 rfl,r2 rfl]
   | succ p =>
    obtain ⟨t,ht,e1⟩:=q3 p rfl
    obtain ⟨t',uZ,e2⟩:=r3 p rfl
    rw [ht] at uZ
    cases uZ
    rw [e1,e2]
  ·intro k g h1
   left
   simp only [ot,hg]
   obtain ⟨elem,hh,_,_⟩:=a3
   refine ⟨b,cs,elem,a1,hh,?_⟩
   obtain ⟨p,q1,q2,q3⟩:=sG k g h1
   cases p with
   | zero =>
    left
    simpa using q1.symm
   | succ p =>
    right
    obtain ⟨t,ht,e1⟩:=q3 p rfl
    obtain ⟨v,hv,_,h2,_⟩:=Iv p t ht
    refine ⟨(t.1,t.2.2),?_,v,h2,?_⟩
    ·simp only [FD.sg,jk,aT]
     exact ⟨t,bc ht,rfl⟩
    ·simpa [hv] using q1
  ·intro k
   rcases wP k with e | ⟨k1,e⟩ | ⟨k1,e⟩ | ⟨p,t',hp,k1,e⟩
   ·rw [e];trivial
   ·rw [e]
    simp only [gn,gm,Gh.gy]
   ·rw [e]
    intro t ht
    obtain ⟨p,hp⟩:=bz ht
    rw [gt p t hp]
    rfl
   ·rw [e];trivial
  ·refine ⟨fun b' wM=>?_,fun v hv=>by cases hv⟩
   simp only [sI,hg,a1,ax] at wM
   exact wM
theorem AE {d:FD} {nt i k s:Nat} (lD:d.ps=some (i,k,s)) (hb:d.nb nt=true) (hlen:ins.length=d.np) (hR:∀b o,R b o→b<w.heap.size) (xY:∀n,Rep R w (E.gl n) (.pointer (some ⟨n,0,none⟩)))
  {v:Value} {es:List AV} (a1:xs[i]?=some v) (a2:ins[i]?=some (.sl s es)) (a3:gG R w v s) (a4:hZ R w v s (.sl s es)) (a5:gP R w (ins.set i .pt) xs) :
  ∃D,dU ⟨P,E,nt,w,R,fun c=>v.ownBlock=some c,none,some v⟩ D (d.start ins) d.G0.get { tmps:=(⟨xs⟩:Array Value)++Array.replicate (nt - xs.length) undef,defers:=[] } w:=by
 simp only [FD.nb,ae,aB,lD] at hb
 obtain ⟨⟨⟨b1,b2,b3,b4,b5,b6⟩,b7⟩,b8,b9,PK,RX,OY⟩:=hb
 have hx:xs.length=d.np:=by rw [←a5.length,List.length_set,hlen]
 have y5:((⟨xs⟩:Array Value)++Array.replicate (nt - xs.length) undef).size=nt:=by simp;omega
 have Af:∀t,t<1000000→t≠lk k:=fun t ht e=>by have:=hU k;omega
 have hG:d.G0.get=Eng.cQ (fun _=>Gh.no) [i,lk k] [.gb k s,.pv s]:=by
  simp only [FD.G0,b9,lD,GL.pS]
  rfl
 have vu:d.start ins=head (lk k :: List.range d.np) (ins.getD i .dead :: ins.set i .pt):=by simp [FD.start,b9,lD]
 have Om:ins.getD i .dead = .sl s es:=by simp [List.getD,a2]
 rw [Om] at vu
 rw [hG,vu]
 have sk:head (lk k :: List.range d.np) (.sl s es :: ins.set i .pt) (lk k) = .sl s es:=by simp [head,Eng.cQ,dJ]
 have ss:∀t,t≠lk k→head (lk k :: List.range d.np) (.sl s es :: ins.set i .pt) t=(ins.set i .pt).getD t .dead:=fun t ht=>by
  have:head (lk k :: List.range d.np) (.sl s es :: ins.set i .pt) t=head (List.range d.np) (ins.set i .pt) t:=by simp [head,Eng.cQ,dJ,ht]
  rw [this,nD (by rw [List.length_set,hlen])]
 have gi:Eng.cQ (fun _=>Gh.no) [i,lk k] [.gb k s,.pv s] i = .gb k s:=by simp [Eng.cQ,dJ]
 have gk:Eng.cQ (fun _=>Gh.no) [i,lk k] [.gb k s,.pv s] (lk k) = .pv s:=by
  simp only [Eng.cQ]
  rw [bO _ _ (Af i (by omega)).symm,bI]
 have go:∀x,x≠i→x≠lk k→Eng.cQ (fun _=>Gh.no) [i,lk k] [.gb k s,.pv s] x = .no:=fun x h1 h2=>by
  simp only [Eng.cQ]
  rw [bO _ _ h1,bO _ _ h2]
 generalize Eng.cQ (fun _=>Gh.no) [i,lk k] [.gb k s,.pv s]=γ at gi gk go
 generalize head (lk k :: List.range d.np) (.sl s es :: ins.set i .pt)=σ at sk ss
 have inv:∀x,γ x = .no∨(x=i∧γ x = .gb k s)∨(x=lk k∧γ x = .pv s):=fun x=>by
  by_cases h1:x=i
  ·subst h1;exact .inr (.inl ⟨rfl,gi⟩)
  ·by_cases h2:x=lk k
   ·subst h2;exact .inr (.inr ⟨rfl,gk⟩)
   ·exact .inl (go x h1 h2)
 have sG:∀(D:kV) key g,gC D γ key=some g→key=lk k∧(D.τ (lk k)).ownBlock=some g:=fun D key g hb=>by
  unfold gC at hb
  rcases inv key with e | ⟨_,e⟩ | ⟨e1,e⟩ <;> rw [e] at hb
  ·cases hb
  ·cases hb
  ·subst e1;exact ⟨rfl,hb⟩
 refine ⟨⟨R,fun _=>0,dJ (fun _=>undef) (lk k) v⟩,{ size:=y5,defers:=rfl,kj:=b2,nr:=?_,lS:=?_,slot:=?_,mem:=?_,gb:=?_,ps:=?_,sep:=?_,own:=?_,inv:=?_,ext:=Ext.refl _ _ _,ns:=hR,gl:=xY,fix:=?_ }⟩
 ·intro m hm
  rcases inv m with e | ⟨_,e⟩ | ⟨_,e⟩ <;> rw [e] at hm <;> cases hm
 ·intro m hm
  rcases inv m with e | ⟨_,e⟩ | ⟨e1,e⟩
  ·rw [e] at hm;cases hm
  ·rw [e] at hm;cases hm
  ·subst e1;exact hU _
 ·intro t ht
  dsimp only at ht ⊢
  rw [ss t (Af t (by omega)),rW ht]
  refine .inr ⟨uu a5 t,fun _=>?_⟩
  rcases inv t with e | ⟨e1,e⟩ | ⟨e1,e⟩
  ·rw [e];trivial
  ·rw [e]
   subst e1
   have hv:xs.getD t undef=v:=by simp [List.getD,a1]
   rw [hv]
   refine ⟨by simp only [bI],by rcases a3 with rfl | ⟨_,_,_,_,_,_,rfl,_⟩ <;> rfl⟩
  ·exact (Af t (by omega) e1).elim
 ·intro m ts hm
  rcases inv m with e | ⟨_,e⟩ | ⟨_,e⟩ <;> rw [e] at hm <;> cases hm
 ·intro m ts hm
  rcases inv m with e | ⟨_,e⟩ | ⟨_,e⟩ <;> rw [e] at hm <;> cases hm
 ·intro key s' hs
  rcases inv key with e | ⟨_,e⟩ | ⟨e1,e⟩
  ·rw [e] at hs;cases hs
  ·rw [e] at hs;cases hs
  ·rw [e] at hs
   cases hs
   subst e1
   rw [sk]
   simp only [bI]
   exact ⟨a3,a4,fun d s1 s2 f1 _=>by rw [gk] at f1;cases f1⟩
 ·intro p q g hp hq
  exact .inl ((sG _ p g hp).1.trans (sG _ q g hq).1.symm)
 ·intro p g hp
  have:=(sG _ p g hp).2
  simp only [bI] at this
  exact .inl this
 ·intro key
  rcases inv key with e | ⟨_,e⟩ | ⟨_,e⟩
  ·rw [e];trivial
  ·rw [e]
   show (γ (lk k)).fL=true
   rw [gk];rfl
  ·rw [e];trivial
 ·refine ⟨fun b hb=>(by cases hb),fun v' AR=>?_⟩
  cases AR
  subst OY
  refine ⟨by rw [gk];rfl,?_⟩
  simp only [bI]
end
end Go.Eng
namespace Go.Eng
open Go.RowKit
theorem qG {X:Type}:∀{l:List (Option X)} {r:List X},yt l=some r→l=r.map some
 | [],_,h=>by simp only [yt,ax] at h;subst h;rfl
 | none :: _,_,h=>by simp [yt] at h
 | some x :: l,r,h=>by
  simp only [yt,bf] at h
  obtain ⟨r',h1,rfl⟩:=h
  rw [qG h1];rfl
theorem pX {us:List (Nat × (Nat × Nat))} {q:Nat × Nat} {k:Nat} (h:pY us q=some k):∃u∈us,u.1=q.1∧u.2.1=k:=by
 simp only [pY,bf] at h
 obtain ⟨u,h1,h2⟩:=h
 have:=List.find?_some h1
 simp only [ae,beq_iff_eq] at this
 exact ⟨u,List.mem_of_find?_eq_some h1,this.1,h2⟩
def Bu (tmps:Array Value):ResultVar→Sem Value
 | .tmp t=>pure (tmps.getD t undef)
 | .cell a t=>do loadVar t (←asAddr (tmps.getD a undef))
theorem qK {P:Program} {w:World} {fn:Func} {tmps:Array Value} {vs:List Value} (h:(fn.results.toList.mapM (Bu tmps)).run P w = .ok vs w) :
  (results fn tmps).run P w = .ok (if vs.length=1 then vs.headD undef else .tuple ⟨vs⟩) w:=by
 have e:results fn tmps=(do
   let vs ←fn.results.mapM (Bu tmps)
   pure (if h:vs.size=1 then vs[0] else .tuple vs)):=by
  unfold results
  congr 2
 rw [e,Array.mapM_eq_mapM_toList]
 simp only [Sem.run_bind,Sem.run_map,h,Result.andThen_ok,Sem.run_pure]
 match vs with
 | []=>simp
 | [x]=>simp
 | _ :: _ :: _=>simp
section
variable {C:Ctx} {D:kV} {σ:Sg} {a:Act} {w:World} {G:GL}
def yu (D:kV) (G:GL) (σ:Sg) (a:Act) (r:RV) (x:AV) (v:Value):Prop :=
 match r with
 | .t j=>x=σ j∧v=a.tmps.getD j undef
 | .c _ m n agg=>n=1→agg=false→∀us,G.get m = .cl us→∀u∈us,u.1=0→v=D.τ (lk u.2.1)
theorem DZ (h:dU C D σ G.get a w) {rv:ResultVar} {r:RV} {x:AV} (hr:lh C.P C.nt rv r=true) (hg:r.Lq G=true) (hx:r.get σ=some x) :
  ∃v,(Bu a.tmps rv).run C.P w = .ok v w∧Rep D.R w x v∧yu D G σ a r x v:=by
 cases rv with
 | tmp t =>
  cases r with
  | c=>simp [lh] at hr
  | t j =>
   simp only [lh,ae,beq_iff_eq,aB] at hr
   obtain ⟨rfl,ht⟩:=hr
   simp only [RV.get,ax] at hx
   subst hx
   refine ⟨_,rfl,?_,rfl,rfl⟩
   rcases h.slot t ht with e | ⟨e,_⟩
   ·rw [e];exact .dead _
   ·exact e
 | cell ad ty =>
  cases r with
  | t j=>simp [lh] at hr
  | c Ts m n agg =>
   simp only [lh,ae,beq_iff_eq,aB] at hr
   obtain ⟨⟨rfl,ht⟩,hs⟩:=hr
   simp only [RV.Lq,ae,beq_iff_eq] at hg
   obtain ⟨g1,g2⟩:=hg
   simp only [RV.get] at hx
   split at hx
   ·rename_i cs e1 e2
    have hv:=h.slot ad ht
    rw [e1,g1] at hv
    have hv:a.tmps.getD ad undef = .pointer (some ⟨D.β m,0,none⟩):=by
     rcases hv with e | ⟨_,e⟩
     ·cases e
     ·exact e (by simp)
    cases hm:G.get m with
    | cl us =>
     obtain ⟨ws,td,Hu⟩:=h.mem m us hm
     rw [e2] at td
     obtain ⟨elem,hh,hL⟩:=td.ag
     have J0:∀(j:Nat) (y:Value),(ws.take cs.length)[j]?=some y→ws[j]?=some y:=fun j y hj=>by
      rw [aR] at hj;split at hj
      ·exact hj
      ·cases hj
     have oD:agg=false→∀t∈us,t.1=0→(ws.take cs.length)[t.1]?=some (D.τ (lk t.2.1)):=fun ha t ht he=>by
      have gM:0<cs.length:=by
       subst ha
       simp only [gS,bk,if_false] at hx
       exact (aC.1 hx).1
      rw [aR,ao (by omega)]
      exact Hu t ht
     generalize QC:ws.take cs.length=vs at hL oD J0
     simp only [jX,ae,beq_iff_eq,Bool.or_eq_true] at hs
     obtain ⟨⟨s1,s2⟩,s3⟩:=hs
     have h1:agg=true∨n=1:=s3
     simp only [iW,bf] at s1
     obtain ⟨inf,hi,hz⟩:=s1
     obtain ⟨hlen,kk⟩:=mw hL hx h1
     have hc:∀j y,((vs.drop 0).take n)[j]?=some y→w.cell? ⟨D.β m,0+j,none⟩=some y:=by
      intro j y hj
      rw [aR] at hj
      split at hj
      ·rw [List.getElem?_drop] at hj
       have:=J0 _ _ hj
       simp only [World.cell?,hh]
       simpa using this
      ·cases hj
     refine ⟨_,?_,kk,?_⟩
     ·simp only [Bu,hv,asAddr,Sem.run_bind,Sem.run_pure,Result.andThen_ok]
      exact kG hi s2 (hz ▸ h1) (hlen.trans hz.symm) hc
     ·intro n1 a1 us' Cw u hu h0
      subst n1;subst a1
      rw [hm] at Cw
      cases Cw
      have:=oD rfl u hu h0
      rw [h0] at this
      simp only [bk,if_false,bg]
      cases vs with
      | nil=>simp at this
      | cons y ys=>simpa using this
    | _=>rw [hm] at g2;simp [Gh.gy] at g2
   ·cases hx
theorem uA (h:dU C D σ G.get a w):∀{ki:List ResultVar} {res:List RV} {xs:List AV},kC (lh C.P C.nt) ki res=true→res.all (RV.Lq G)=true→xL σ res=some xs →
  ∃vs,(ki.mapM (Bu a.tmps)).run C.P w = .ok vs w∧gP D.R w xs vs∧vs.length=res.length∧∀(i:Nat) (r:RV),res[i]?=some r→∃x v,xs[i]?=some x∧vs[i]?=some v∧yu D G σ a r x v
 | [],[],xs,_,_,h3=>by
  simp only [xL,ax] at h3
  subst h3
  exact ⟨[],by simp [List.mapM_nil],.nil,rfl,fun i r e=>by simp at e⟩
 | rv :: ki,r :: res,xs,h1,h2,h3=>by
  simp only [kC,ae] at h1
  simp only [List.all_cons,ae] at h2
  simp only [xL,bt,bf] at h3
  obtain ⟨x,hx,Mc,xR,rfl⟩:=h3
  obtain ⟨v,v1,v2,v3⟩:=DZ h h1.1 h2.1 hx
  obtain ⟨vs,q1,q2,q3,q4⟩:=uA h h1.2 h2.2 xR
  refine ⟨v :: vs,?_,.cons v2 q2,by simp [q3],?_⟩
  ·simp only [List.mapM_cons,Sem.run_bind,v1,q1,Result.andThen_ok,Sem.run_pure]
  ·intro i r' e
   cases i with
   | zero =>
    simp only [List.getElem?_cons_zero,ax] at e
    subst e
    exact ⟨x,v,rfl,rfl,v3⟩
   | succ i =>
    simp only [List.getElem?_cons_succ] at e ⊢
    exact q4 i r' e
 | [],_ :: _,_,h1,_,_=>by simp [kC] at h1
 | _ :: _,[],_,h1,_,_=>by simp [kC] at h1
theorem Ef (h:dU C D σ G.get a w) {rv:ResultVar} {r:RV} {s k s':Nat} {es:List AV} {v:Value} (hr:lh C.P C.nt rv r=true) (hk:r.key G s=some k) (hv:yu D G σ a r (.sl s' es) v):v=D.τ (lk k):=by
 cases r with
 | t j =>
  cases rv with
  | cell=>simp [lh] at hr
  | tmp t =>
  simp only [lh,ae,beq_iff_eq,aB] at hr
  obtain ⟨rfl,ht⟩:=hr
  obtain ⟨e1,e2⟩:=hv
  simp only [RV.key] at hk
  split at hk
  ·rename_i k' o0 hg
   split at hk
   ·cases hk
    have:=h.slot t ht
    rw [←e1,hg] at this
    rcases this with e | ⟨_,e⟩
    ·cases e
    ·rw [e2];exact (e (by simp)).1
   ·cases hk
  ·cases hk
 | c ad m n agg =>
  simp only [RV.key] at hk
  split at hk
  ·rename_i hc
   split at hk
   ·rename_i us Cw
    obtain ⟨u,hu,u1,u2⟩:=pX hk
    rw [←u2]
    exact hv hc.1 hc.2 us Cw u hu u1
   ·cases hk
  ·cases hk
theorem pB (h:dU C D σ G.get a w) {q:Option (Nat × Nat)} {ts:List (Nat × Nat)} {ks:List Nat} (hk:ru G q ts=some ks) {cs:List Value} {i m:Nat} (hq:q=some (i,m)) (hcs:∀us,G.get m = .cl us→∀t∈us,cs[t.1]?=some (D.τ (lk t.2.1))) :
  ∀(p:Nat) (t:Nat × Nat) (v:Value),ts[p]?=some t→(ks.map fun k=>D.τ (lk k))[p]?=some v→cs[t.1]?=some v:=by
 subst hq
 intro p t v hp hv
 simp only [ru] at hk
 split at hk
 ·rename_i us Cw
  have e:=qG hk
  rw [aL,bf] at hv
  obtain ⟨k,EK,rfl⟩:=hv
  have e1:(ts.map (pY us))[p]?=(ks.map some)[p]?:=by rw [e]
  rw [aL,aL,hp,EK] at e1
  simp only [Option.map_some,ax] at e1
  obtain ⟨u,hu,u1,u2⟩:=pX e1
  have:=hcs us Cw u hu
  rw [u1,u2] at this
  exact this
 ·cases hk
theorem mD (h:dU C D σ G.get a w) {ks:List Nat} {ts:List (Nat × Nat)} (hl:j0 G ks ts=true):ks.length=ts.length∧(∀(p k:Nat),ks[p]?=some k→∃t,ts[p]?=some t∧G.get (lk k) = .live t.2):=by
 refine ⟨nY hl,fun p k hk=>?_⟩
 obtain ⟨t,h1,h2⟩:=nZ hl hk
 exact ⟨t,h1,by simpa using h2⟩
theorem sw:∀{A B:List Nat} {X Y:List (Nat × Nat)},j0 G A X=true→j0 G B Y=true→j0 G (A++B) (X++Y)=true
 | [],_,[],_,_,h2=>h2
 | [],_,_ :: _,_,h1,_=>by simp [j0,kC] at h1
 | _ :: _,_,[],_,h1,_=>by simp [j0,kC] at h1
 | a :: A,B,x :: X,Y,h1,h2=>by
  simp only [j0,kC,ae,List.cons_append] at h1 ⊢
  exact ⟨h1.1,sw h1.2 h2⟩
theorem H0 {d:FD} {fn:Func} {outs:List AV} {xs:List Value} (lD:d.ps=none) (h:dU C D σ G.get a w) (hb:d.nb C.nt=true) (Kb:d.rt G=true) (s7:kC (lh C.P C.nt) fn.results.toList d.res=true) (ho:d.vp σ outs)
  (HN:∀i,d.sg.ref=some i→∃b,xs[i]?=some (.pointer (some ⟨b,0,none⟩))∧C.fix=some b) :
  ∃x,(results fn a.tmps).run C.P w = .ok x w∧zw d.sg D.R w C.lR xs outs x:=by
 obtain ⟨rs,o1,o2,o3,ho⟩:=ho
 rw [lD,Option.toList_none,au,aO] at ho
 subst ho
 simp only [FD.rt,ae] at Kb
 obtain ⟨⟨⟨⟨r1,r2⟩,r3⟩,r4⟩,_⟩:=Kb
 split at r4
 ·rename_i Kr Ko Kn k1 k2 k3
  simp only [ae,aB] at r4
  obtain ⟨⟨⟨n1,l1⟩,l2⟩,l3⟩:=r4
  obtain ⟨vs,q1,q2,q3,q4⟩:=uA h s7 r1 o1
  simp only [FD.nb,ae,aB] at hb
  obtain ⟨⟨⟨b1,b2,b3,b4,b5,b6⟩,b7⟩,_⟩:=hb
  obtain ⟨Qg,SW⟩:=mD h l1
  obtain ⟨Qh,SX⟩:=mD h l2
  obtain ⟨Qi,SY⟩:=mD h l3
  have z8:rs.length=d.res.length:=by rw [←q3,q2.length]
  have wu:d.sg.cS=d.res.length:=rfl
  have jb:d.sg.ref=d.ref.map (·.1):=rfl
  have jP:d.sg.new=d.new.map (·.1):=rfl
  -- the Is
  have jD:∀m,(G.get m).gy=true→∃us cs,G.get m = .cl us∧jy D.R w (σ m) (D.β m) cs∧∀t∈us,cs[t.1]?=some (D.τ (lk t.2.1)):=by
   intro m hm
   cases hg:G.get m with
   | cl us=>obtain ⟨cs,e1,e2⟩:=h.mem m us hg;exact ⟨us,cs,rfl,e1,e2⟩
   | _=>rw [hg] at hm;cases hm
  have wv:∃cr,∀i m,d.ref=some (i,m)→m=999999∧jy D.R w (σ m) (D.β m) cr∧∀us,G.get m = .cl us→∀t∈us,cr[t.1]?=some (D.τ (lk t.2.1)):=by
   cases hr:d.ref with
   | none=>exact ⟨[],fun i m e=>by cases e⟩
   | some im =>
    obtain ⟨i,m⟩:=im
    simp only [hr] at r2
    obtain ⟨us,cs,e1,e2,e3⟩:=jD m r2
    simp only [hr,aB] at b7
    exact ⟨cs,fun i' m' e=>by cases e;exact ⟨b7.2.2,e2,fun us' hu=>by rw [e1] at hu;cases hu;exact e3⟩⟩
  have sD:∃cn,∀j m,d.new=some (j,m)→(G.get m).gy=true∧vs[j]?=some (.pointer (some ⟨D.β m,0,none⟩))∧jy D.R w (σ m) (D.β m) cn∧∀us,G.get m = .cl us→∀t∈us,cn[t.1]?=some (D.τ (lk t.2.1)):=by
   cases hn:d.new with
   | none=>exact ⟨[],fun i m e=>by cases e⟩
   | some jm =>
    obtain ⟨j,m⟩:=jm
    simp only [hn,ae] at r3
    obtain ⟨us,cs,e1,e2,e3⟩:=jD m r3.1
    refine ⟨cs,fun j' m' e=>?_⟩
    cases e
    refine ⟨r3.1,?_,e2,fun us' hu=>by rw [e1] at hu;cases hu;exact e3⟩
    have r5:=r3.2
    split at r5
    ·rename_i t ht
     obtain ⟨x,v,p1,p2,p3,p4⟩:=q4 j _ ht
     rw [o3 (j,m) hn] at p1
     cases p1
     obtain ⟨rv,p5,p6⟩:∃rv,fn.results.toList[j]?=some rv∧lh C.P C.nt rv (.t t)=true:=by
      have gM:=(aC.1 ht).1
      have hl:=nY s7
      have e0:fn.results.toList[j]?=some fn.results.toList[j]:=aE (by omega)
      obtain ⟨y,y1,y2⟩:=nZ s7 e0
      rw [ht] at y1
      cases y1
      exact ⟨_,e0,y2⟩
     have FO:t<C.nt:=by
      cases rv with
      | cell=>simp [lh] at p6
      | tmp t' =>
       simp only [lh,ae,beq_iff_eq,aB] at p6
       obtain ⟨rfl,p6⟩:=p6
       exact p6
     have:=h.slot t FO
     rw [←p3] at this
     have Qd:G.get t = .ptr m 0:=by simpa using r5
     rw [Qd] at this
     rcases this with e | ⟨_,e⟩
     ·cases e
     ·rw [p2,p4];exact congrArg some (e (by simp))
    ·cases r5
  obtain ⟨cr,wv⟩:=wv
  obtain ⟨cn,sD⟩:=sD
  have CI:j0 G (Kr++Ko++Kn) (jk d.fA++d.own++d.fx)=true:=sw (sw l1 l2) l3
  have Kl:∀k∈Kr++Ko++Kn,∃s,G.get (lk k) = .live s:=by
   intro k hk
   obtain ⟨p,hp⟩:=bz hk
   obtain ⟨t,_,h2⟩:=(mD h CI).2 p k hp
   exact ⟨_,h2⟩
  have qw:lP d.sg (D.β ((d.new.map (·.2)).getD 0)) (D.β 999999) (Kr.map (fun k=>D.τ (lk k))++Ko.map (fun k=>D.τ (lk k))++Kn.map (fun k=>D.τ (lk k))) =
    (d.new.toList.map (·.2)++d.ref.toList.map (·.2)++(Kr++Ko++Kn).map lk).map (gC D G.get):=by
   have e1:(if d.sg.new.isSome then [some (D.β ((d.new.map (·.2)).getD 0))] else [])=(d.new.toList.map (·.2)).map (gC D G.get):=by
    rw [jP]
    cases hn:d.new with
    | none=>rfl
    | some jm =>
     obtain ⟨us,cs,e,_⟩:=jD _ (sD jm.1 jm.2 hn).1
     simp [iI e]
   have e2:(if d.sg.ref.isSome then [some (D.β 999999)] else [])=(d.ref.toList.map (·.2)).map (gC D G.get):=by
    rw [jb]
    cases hr:d.ref with
    | none=>rfl
    | some im =>
     obtain ⟨p0,_⟩:=wv im.1 im.2 hr
     simp only [hr] at r2
     obtain ⟨us,cs,e,_⟩:=jD _ r2
     simp only [Option.map_some,Option.isSome_some,if_true,Option.toList_some,ak,au,iI e]
     rw [p0]
   have e3:(Kr.map (fun k=>D.τ (lk k))++Ko.map (fun k=>D.τ (lk k))++Kn.map (fun k=>D.τ (lk k))).map Value.ownBlock=((Kr++Ko++Kn).map lk).map (gC D G.get):=by
    rw [←List.map_append,←List.map_append,bh,bh]
    apply List.map_congr_left
    intro k hk
    obtain ⟨s,hs⟩:=Kl k hk
    exact (iH hs).symm
   unfold lP
   rw [e1,e2,e3,←List.map_append,←List.map_append]
  have Ov:∀x∈d.new.toList.map (·.2)++d.ref.toList.map (·.2),(G.get x).gy=true:=by
   intro x hx
   rcases List.mem_append.1 hx with hx | hx
   ·cases hn:d.new with
    | none=>rw [hn] at hx;simp at hx
    | some jm =>
     rw [hn] at hx
     simp only [Option.toList_some,ak,au,List.mem_singleton] at hx
     rw [hx]
     exact (sD jm.1 jm.2 hn).1
   ·cases hr:d.ref with
    | none=>rw [hr] at hx;simp at hx
    | some im =>
     rw [hr] at hx
     simp only [Option.toList_some,ak,au,List.mem_singleton] at hx
     simp only [hr] at r2
     rw [hx]
     exact r2
  have QV:∀x∈d.new.toList.map (·.2)++d.ref.toList.map (·.2)++(Kr++Ko++Kn).map lk,(G.get x).sB=false:=by
   intro x hx
   rcases List.mem_append.1 hx with hx | hx
   ·have:=Ov x hx
    cases hg:G.get x <;> rw [hg] at this <;> first | rfl | cases this
   ·obtain ⟨k,hk,rfl⟩:=aT.1 hx
    obtain ⟨p,hp⟩:=bz hk
    obtain ⟨t,_,h2⟩:=(mD h CI).2 p k hp
    rw [h2];rfl
  have Kt:(d.new.toList.map (·.2)++d.ref.toList.map (·.2)++(Kr++Ko++Kn).map lk).Nodup:=by
   rw [List.nodup_append]
   refine ⟨?_,List.Pairwise.map _ (fun a b h e=>h (jZ e)) n1,?_⟩
   ·rcases b6 with e | e
    ·rw [e];cases d.new <;> simp
    ·rw [e];cases d.ref <;> simp
   ·intro x hx y hy e
    obtain ⟨k,_,rfl⟩:=aT.1 hy
    have h1:=hU k
    have NQ:(G.get x).gy=true:=by
     rcases List.mem_append.1 hx with hx | hx
     ·cases hn:d.new with
      | none=>rw [hn] at hx;simp at hx
      | some jm =>
       rw [hn] at hx
       simp only [Option.toList_some,ak,au,List.mem_singleton] at hx
       rw [hx]
       exact (sD jm.1 jm.2 hn).1
     ·cases hr:d.ref with
      | none=>rw [hr] at hx;simp at hx
      | some im =>
       rw [hr] at hx
       simp only [Option.toList_some,ak,au,List.mem_singleton] at hx
       simp only [hr] at r2
       rw [hx]
       exact r2
    have:=(h.nr x NQ).2
    omega
  refine ⟨_,qK q1,vs,Kr.map (fun k=>D.τ (lk k)),Ko.map (fun k=>D.τ (lk k)),Kn.map (fun k=>D.τ (lk k)),D.β ((d.new.map (·.2)).getD 0),D.β 999999,cn,cr,?_,?_,?_,?_,?_,?_,?_,?_,?_,?_,?_,?_,?_,?_,?_⟩
  ·rw [q3,wu]
  ·rw [wu,q3]
  ·simp only [aw,aN,wu,jb,jP,z8]
   cases d.ref <;> cases d.new <;> simp
  ·have e:(((rs++d.new.toList.map (fun q=>σ q.2)++d.ref.toList.map (fun q=>σ q.2)).take d.sg.cS).mapIdx fun i y=>if d.sg.new=some i then AV.pt else y)=rs:=by
    rw [aU,List.take_left' (by rw [z8,wu])]
    apply List.ext_getElem?
    intro i
    rw [List.getElem?_mapIdx]
    cases hi:rs[i]? with
    | none=>rfl
    | some y =>
     simp only [Option.map_some,ax]
     split
     ·rename_i e
      rw [jP,bf] at e
      obtain ⟨q,hq,e⟩:=e
      have:=o3 q hq
      rw [e,hi] at this
      cases this;rfl
     ·rfl
   rw [e]
   exact q2
  ·intro j hj
   rw [jP,bf] at hj
   obtain ⟨⟨j',m⟩,hn,e⟩:=hj
   simp only at e
   subst e
   obtain ⟨_,p1,p2,_⟩:=sD _ _ hn
   simp only [hn,Option.map_some,Option.getD_some]
   refine ⟨p1,?_⟩
   have:(rs++(some (j',m)).toList.map (fun q=>σ q.2)++d.ref.toList.map (fun q=>σ q.2)).getD d.sg.cS .dead=σ m:=by
    rw [aU,aG,aS (by rw [z8,wu];exact Nat.le_refl _)]
    simp [z8,wu]
   rw [this]
   exact p2
  ·intro i hi
   obtain ⟨b,x1,x2⟩:=HN i hi
   rw [jb,bf] at hi
   obtain ⟨⟨i',m⟩,hr,e⟩:=hi
   simp only at e
   subst e
   obtain ⟨p0,p1,_⟩:=wv _ _ hr
   subst p0
   refine ⟨by rw [x1,h.fix.1 b x2],?_⟩
   have hn:d.new=none:=by
    rcases b6 with e | e
    ·rw [hr] at e;cases e
    ·exact e
   have:(rs++d.new.toList.map (fun q=>σ q.2)++d.ref.toList.map (fun q=>σ q.2)).getD (d.sg.cS+if d.sg.new.isSome=true then 1 else 0) .dead=σ 999999:=by
    rw [hr,hn,jP,hn]
    simp only [Option.map_none,Option.toList_none,au,aO,Option.toList_some,ak]
    rw [aG,aS (by rw [z8,wu];exact Nat.le_add_right _ _)]
    simp [z8,wu]
   rw [this]
   exact p1
  ·rw [aN,Qg];rfl
  ·rw [aN,Qh];rfl
  ·rw [aN,Qi];rfl
  ·intro p t v hp hv
   cases hr:d.ref with
   | none =>
    have:=b4 hr
    simp [FD.sg,jk,this] at hp
   | some im =>
    exact pB h k1 hr (wv _ _ hr).2.2 p t v hp hv
  ·intro p t v hp hv
   rw [aL,bf] at hv
   obtain ⟨k,EK,rfl⟩:=hv
   have e:=qG k2
   have e1:(d.own.map fun q=>(d.res[q.1]?).bind (RV.key G q.2))[p]?=(Ko.map some)[p]?:=by rw [e]
   have jS:d.own[p]?=some t:=hp
   rw [aL,aL,jS,EK] at e1
   simp only [Option.map_some,ax,bt] at e1
   obtain ⟨r,hr,hk⟩:=e1
   obtain ⟨x,v,p1,p2,p3⟩:=q4 _ _ hr
   obtain ⟨s,es,hs⟩:=o2 t (bc jS)
   rw [hs] at p1
   cases p1
   have gM:=(aC.1 hr).1
   have hl:=nY s7
   have e0:fn.results.toList[t.1]?=some fn.results.toList[t.1]:=aE (by omega)
   obtain ⟨y,y1,y2⟩:=nZ s7 e0
   rw [hr] at y1
   cases y1
   rw [p2,Ef h y2 hk p3]
  ·intro p t v hp hv
   cases hn:d.new with
   | none =>
    have:=b5 hn
    simp [FD.sg,this] at hp
   | some jm =>
    exact pB h k3 hn (sD _ _ hn).2.2.2 p t v hp hv
  ·intro p t v hp hv
   have AR:((Kr++Ko++Kn).map fun k=>D.τ (lk k))[p]?=some v:=by simpa using hv
   rw [aL,bf] at AR
   obtain ⟨k,EK,rfl⟩:=AR
   obtain ⟨t',h1,h2⟩:=(mD h CI).2 p k EK
   have jS:(jk d.fA++d.own++d.fx)[p]?=some t:=hp
   rw [jS] at h1
   cases h1
   exact h.gb _ _ h2
  ·intro p q g hp hq
   rw [qw,aL,bf] at hp hq
   obtain ⟨x,x1,x2⟩:=hp
   obtain ⟨y,y1,y2⟩:=hq
   have:=h.rh (QV x (bc x1)) x2 y2
   subst this
   obtain ⟨hx,ex⟩:=aC.1 x1
   obtain ⟨hy,ey⟩:=aC.1 y1
   rcases Nat.lt_trichotomy p q with gM | he | gM
   ·exact absurd (ex.trans ey.symm) (List.pairwise_iff_getElem.1 Kt p q hx hy gM)
   ·exact he
   ·exact absurd (ey.trans ex.symm) (List.pairwise_iff_getElem.1 Kt q p hy hx gM)
  ·intro g hg
   rw [qw,aT] at hg
   obtain ⟨x,_,x2⟩:=hg
   exact h.own x g x2
 ·cases r4
theorem EX {d:FD} {fn:Func} {outs:List AV} {i k s:Nat} {es:List AV} (lD:d.ps=some (i,k,s)) (h:dU C D σ G.get a w) (hb:d.nb C.nt=true) (Kb:d.rt G=true) (s7:kC (lh C.P C.nt) fn.results.toList d.res=true) (ho:d.vp σ (outs++[.sl s es])) :
  ∃ki,(results fn a.tmps).run C.P w = .ok (if d.sg.cS=1 then ki.headD undef else .tuple ⟨ki⟩) w∧ki.length=d.sg.cS∧gP D.R w outs ki∧gG D.R w (D.τ (lk k)) s∧hZ D.R w (D.τ (lk k)) s (.sl s es)∧k=999999:=by
 simp only [FD.nb,ae,aB,lD] at hb
 obtain ⟨_,b8,b9,PK,RX,OY⟩:=hb
 obtain ⟨rs,o1,o2,o3,ho⟩:=ho
 rw [lD,b9,PK] at ho
 simp only [Option.toList_none,au,aO,Option.toList_some,ak] at ho
 obtain ⟨rfl,hk⟩:=List.append_inj' ho rfl
 simp only [ar,and_true] at hk
 simp only [FD.rt,ae,lD] at Kb
 obtain ⟨⟨⟨⟨r1,r2⟩,r3⟩,r4⟩,r5⟩:=Kb
 obtain ⟨vs,q1,q2,q3,q4⟩:=uA h s7 r1 o1
 have hz:(G.get (lk k)).By=some s:=by
  split at r5
  ·rename_i e;rw [e];simp at r5;rw [r5];rfl
  ·rename_i e;rw [e];simp at r5;rw [r5];rfl
  ·cases r5
 obtain ⟨t1,t2,_⟩:=h.ps _ _ hz
 rw [←hk] at t2
 refine ⟨vs,?_,q3,q2,t1,t2,OY⟩
 have:=qK q1
 rw [show d.sg.cS=vs.length from q3.symm]
 exact this
end
theorem ur {P:Program} {E:Env} {sg:Nat→dq} (hE:∀f,fH P E.gl f (E.fs f)∧(E.fs f).sg=sg f) {f:Nat} {fn:Func} {d:FD} (hf:P.funcs[f]?=some fn) (hc:ga P sg fn d=true)
  {S:FS} (hS:S.sg=d.sg) (hG:∀ins outs,S.G ins outs→ins.length=d.np∧d.runs E ins (outs++d.ps.toList.map fun q=>ins.getD q.1 .dead)):fH P E.gl f S:=by
 simp only [ga,ae] at hc
 obtain ⟨⟨hb,s7⟩,CO⟩:=hc
 cases tY:fn.body with
 | none=>simp [tY] at CO
 | some c =>
  simp only [tY] at CO
  cases hk:di P sg fn.ntmps d.rt c d.m d.G0 with
  | none=>simp [hk] at CO
  | some r =>
   obtain ⟨n,ex⟩:=r
   simp only [hk,ae,List.isEmpty_iff] at CO
   obtain ⟨rfl,hn⟩:=CO
   refine ⟨fun lD=>?_,fun i s lD=>?_⟩
   ·have xT:d.ps=none:=by
     rw [hS] at lD
     cases h:d.ps with
     | none=>rfl
     | some q=>simp [FD.sg,h] at lD
    intro w R ins outs xs hg hR xY ha
    obtain ⟨hlen,dX⟩:=hG ins outs hg
    rw [xT,Option.toList_none,au,aO] at dX
    rw [hS] at ha ⊢
    obtain ⟨D,Hv⟩:=Du (P:=P) (E:=E) xT hb hlen hR xY ha
    have xR:(⟨xs⟩:Array Value).size=xs.length:=rfl
    refine calls_of_wp hf tY ?_
    rw [xR]
    have HN:∀i,d.sg.ref=some i→∃b,xs[i]?=some (.pointer (some ⟨b,0,none⟩))∧sI d xs=some b:=by
     intro i hi
     simp only [jG,hi] at ha
     obtain ⟨b,cs,x,tv,a1,_⟩:=ha
     exact ⟨b,a1,by simp [sI,hi,a1]⟩
    have wH:∀(G':GL) D' eO a' w',d.rt G'=true→d.vp eO outs→dU ⟨P,E,fn.ntmps,w,R,ot d.sg w xs,sI d xs,none⟩ D' eO G'.get a' w' →
      a'.defers=[]∧∃v,(results fn a'.tmps).run P w' = .ok v w'∧(fun e w'=>∃x R',e=Ending.returned x∧Ext w R (ot d.sg w xs) w' R'∧(∀b o,R' b o→b<w'.heap.size) ∧
       zw d.sg R' w' (fun b=>ot d.sg w xs b∨w.heap.size≤b) xs outs x) (.returned v) w':=by
     intro G' D' eO a' w' h1 h2 h3
     obtain ⟨x,e1,e2⟩:=H0 xT h3 hb h1 s7 h2 HN
     exact ⟨h3.defers,x,e1,x,D'.R,rfl,h3.ext,h3.ns,e2⟩
    refine Df (C:=⟨P,E,fn.ntmps,w,R,ot d.sg w xs,sI d xs,none⟩) hE d.m hk Hv dX { nrm:=fun G' D' eO a' w' e hq h'=>?_,rK:=fun i G' D' eO a' w' hi=>(by cases hi),ret:=fun G' D' eO a' w' hr hq h'=>?_ }
    ·simp only at e
     subst e
     exact wH G' D' eO a' w' (by simpa using hn) hq h'
    ·exact wH G' D' eO a' w' hr hq h'
   ·obtain ⟨k,xT⟩:∃k,d.ps=some (i,k,s):=by
     rw [hS] at lD
     cases h:d.ps with
     | none=>simp [FD.sg,h] at lD
     | some q=>simp [FD.sg,h] at lD;obtain ⟨q1,k,q2⟩:=q;simp at lD;exact ⟨k,by rw [lD.1,lD.2]⟩
    intro w R ins outs xs v es hg hR xY a1 a2 a3 a4 a5
    obtain ⟨hlen,dX⟩:=hG ins outs hg
    have Om:ins.getD i .dead = .sl s es:=by simp [List.getD,a2]
    rw [xT,Option.toList_some,ak,au,Om] at dX
    obtain ⟨D,Hv⟩:=AE (P:=P) (E:=E) xT hb hlen hR xY a1 a2 a3 a4 a5
    have xR:(⟨xs⟩:Array Value).size=xs.length:=rfl
    refine calls_of_wp hf tY ?_
    rw [xR]
    have wH:∀(G':GL) D' eO a' w',d.rt G'=true→d.vp eO (outs++[.sl s es])→dU ⟨P,E,fn.ntmps,w,R,fun c=>v.ownBlock=some c,none,some v⟩ D' eO G'.get a' w' →
      a'.defers=[]∧∃y,(results fn a'.tmps).run P w' = .ok y w'∧(fun e w'=>∃x R' ki,e=Ending.returned x∧Ext w R (fun c=>v.ownBlock=some c) w' R'∧(∀b o,R' b o→b<w'.heap.size) ∧
       ki.length=S.sg.cS∧x=(if S.sg.cS=1 then ki.headD undef else .tuple ⟨ki⟩)∧gP R' w' outs ki∧gG R' w' v s∧hZ R' w' v s (.sl s es)) (.returned y) w':=by
     intro G' D' eO a' w' h1 h2 h3
     obtain ⟨ki,e1,e2,e3,e4,e5,e6⟩:=EX xT h3 hb h1 s7 h2
     have h4:=(h3.fix.2 v rfl).2
     rw [e6,h4] at e4 e5
     rw [hS]
     exact ⟨h3.defers,_,e1,_,D'.R,ki,rfl,h3.ext,h3.ns,e2,rfl,e3,e4,e5⟩
    refine Df (C:=⟨P,E,fn.ntmps,w,R,fun c=>v.ownBlock=some c,none,some v⟩) hE d.m hk Hv dX { nrm:=fun G' D' eO a' w' e hq h'=>?_,rK:=fun i G' D' eO a' w' hi=>(by cases hi),ret:=fun G' D' eO a' w' hr hq h'=>?_ }
    ·simp only at e
     subst e
     exact wH G' D' eO a' w' (by simpa using hn) hq h'
    ·exact wH G' D' eO a' w' hr hq h'
end Go.Eng
namespace Go.Eng
section
variable {E:Env} {Q:MX→Sg→Prop} {σ:Sg}
theorem kY {m:M} {Q':MX→Sg→Prop} (h:∀e σ,Q e σ→Q' e σ):∀{σ:Sg},oo E m Q σ→oo E m Q' σ:=by
 induction m generalizing Q Q' with
 | skip=>exact fun q=>h _ _ q
 | fK ms=>exact fun ⟨eO,h1,h2⟩=>⟨eO,h1,h _ _ h2⟩
 | seq a b wk rG=>exact fun q=>wk (fun e eO q=>by cases e <;> first | exact q.elim fun DB q=>⟨DB,q.1,rG h q.2⟩ | exact h _ _ q) q
 | cond x G a b wk rG=>exact fun q=>q.imp (fun ⟨t,h1,h2,h3⟩=>⟨t,h1,fun e=>wk h (h2 e),fun e=>rG h (h3 e)⟩) fun ⟨h1,h2,h3⟩=>⟨h1,wk h h2,rG h h3⟩
 | block id G b ih=>exact fun q=>ih (fun e eO q=>by
   cases e with
   | exit j =>
    simp only at q ⊢
    by_cases e:j=id
    ·rw [ao e] at q ⊢;exact h _ _ q
    ·rw [ah e] at q ⊢;exact h _ _ q
   | normal=>exact h _ _ q
   | ret=>exact h _ _ q) q
 | loop cd G b ih=>exact fun ⟨ι,jT,μ,i0,h1,h2⟩=>⟨ι,jT,μ,i0,h1,fun i=>ih (fun e eO q=>by cases e <;> first | exact q | exact h _ _ q) (h2 i)⟩
 | exit id=>exact fun q=>h _ _ q
 | ret=>exact fun q=>h _ _ q
 | Bp b ih=>exact fun q=>ih h q
 | Bo b ih=>exact fun q=>ih h q
 | AP l cd G r b Lt rG=>exact fun ⟨ι,jT,μ,h1,h2⟩=>⟨ι,jT,μ,rG (fun e eO q=>by
   cases e with
   | exit j =>
    simp only at q ⊢
    by_cases e:j=gid l
    ·rw [ao e] at q ⊢;exact q
    ·rw [ah e] at q ⊢;exact h _ _ q
   | normal=>exact h _ _ q
   | ret=>exact h _ _ q) h1,fun i=>Lt (fun e eO q=>by
   cases e with
   | exit j =>
    simp only at q ⊢
    by_cases e:j=gid l
    ·rw [ao e] at q ⊢;exact q
    ·rw [ah e] at q ⊢;exact h _ _ q
   | normal=>exact h _ _ q
   | ret=>exact h _ _ q) (h2 i)⟩
end
end Go.Eng
namespace Go.Eng
abbrev bS:=List UInt8
inductive bG where
 | mk (name:bS) (kind:Int) (bits high low:UInt64) (text more:bS) (sub:Int) (bytes:bS) (kids:List bG)
 deriving Inhabited
structure bE where
 kind:Int
 bits:UInt64
 high:UInt64
 low:UInt64
 text:bS
 more:bS
 sub:Int
 bytes:bS
 kids:List bG
 deriving Inhabited
namespace bG
def name:bG→bS | .mk x _ _ _ _ _ _ _ _ _=>x
def kind:bG→Int | .mk _ x _ _ _ _ _ _ _ _=>x
def bits:bG→UInt64 | .mk _ _ x _ _ _ _ _ _ _=>x
def high:bG→UInt64 | .mk _ _ _ x _ _ _ _ _ _=>x
def low:bG→UInt64 | .mk _ _ _ _ x _ _ _ _ _=>x
def text:bG→bS | .mk _ _ _ _ _ x _ _ _ _=>x
def more:bG→bS | .mk _ _ _ _ _ _ x _ _ _=>x
def sub:bG→Int | .mk _ _ _ _ _ _ _ x _ _=>x
def bytes:bG→bS | .mk _ _ _ _ _ _ _ _ x _=>x
def kids:bG→List bG | .mk _ _ _ _ _ _ _ _ _ x=>x
def val (f:bG):bE:=⟨f.kind,f.bits,f.high,f.low,f.text,f.more,f.sub,f.bytes,f.kids⟩
def of (n:bS) (v:bE):bG := .mk n v.kind v.bits v.high v.low v.text v.more v.sub v.bytes v.kids
end bG
inductive Mem where
 | mk (name:bS) (kind:Int) (text:bS) (kids:List Mem)
 deriving Inhabited
structure L5 where
 kind:Int
 text:bS
 kids:List Mem
 deriving Inhabited
namespace Mem
def name:Mem→bS | .mk x _ _ _=>x
def kind:Mem→Int | .mk _ x _ _=>x
def text:Mem→bS | .mk _ _ x _=>x
def kids:Mem→List Mem | .mk _ _ _ x=>x
def val (f:Mem):L5:=⟨f.kind,f.text,f.kids⟩
def of (n:bS) (v:L5):Mem := .mk n v.kind v.text v.kids
end Mem
inductive bD where
 | mk (kind:Int) (n:UInt64) (bytes text:bS) (kids:List bD)
 deriving Inhabited
namespace bD
def kind:bD→Int | .mk x _ _ _ _=>x
def n:bD→UInt64 | .mk _ x _ _ _=>x
def bytes:bD→bS | .mk _ _ x _ _=>x
def text:bD→bS | .mk _ _ _ x _=>x
def kids:bD→List bD | .mk _ _ _ _ x=>x
end bD
structure bM where
 kind:Int
 n:UInt64
 bytes:bS
 text:bS
 kids:List bD
 deriving Inhabited
namespace bD
def val (f:bD):bM:=⟨f.kind,f.n,f.bytes,f.text,f.kids⟩
def of (v:bM):bD := .mk v.kind v.n v.bytes v.text v.kids
theorem gr (f:bD):of (val f)=f:=by cases f;rfl
end bD
structure kP where
 at_:Int
 end_:Int
 deriving Inhabited
structure Out where
 at_:Int
 bytes:bS
 Jw:List (List Int)
 err:Int
 PC:Int
 path:List Int
 deriving Inhabited
structure dj where
 b:bS
 at_:Int
 deriving Inhabited
structure fh where
 b:bS
 deriving Inhabited
structure ez where
 err:Int
 at_:Int
 path:List Int
 deriving Inhabited
structure PM where
 depth:Int
 size:Int
 out:Int
 deriving Inhabited
inductive eJ where
 | bs | is | ws | ss | DC | fl | ml | il | sp | ou
 deriving DecidableEq,Inhabited
abbrev eJ.El:eJ→Type
 | .bs=>UInt8
 | .is=>Int
 | .ws=>UInt16
 | .ss=>bS
 | .DC=>List Int
 | .fl=>bG
 | .ml=>Mem
 | .il=>bD
 | .sp=>kP
 | .ou=>Out
def eJ.size:eJ→Nat
 | .fl=>10
 | .ml=>4
 | .il=>5
 | .sp=>2
 | .ou=>6
 | _=>1
def eJ.fc:(t:eJ)→t.El
 | .bs=>0
 | .is=>0
 | .ws=>0
 | .ss=>[]
 | .DC=>[]
 | .fl => .mk [] 0 0 0 0 [] [] 0 [] []
 | .ml => .mk [] 0 [] []
 | .il => .mk 0 0 [] [] []
 | .sp=>⟨0,0⟩
 | .ou=>⟨0,[],[],0,0,[]⟩
inductive TV where
 | u8 (n:UInt8)
 | u16 (n:UInt16)
 | u32 (n:UInt32)
 | u64 (n:UInt64)
 | i (k:IntKind) (n:Int)
 | b (x:Bool)
 | s (l:bS)
 | sl (t:eJ) (l:List t.El)
 | ag (l:List TV)
 | tu (l:List TV)
 | ro (x:TV)
 | gd (c:Bool) (x:TV)
 | c (x:Value)
 | pt
 | dead
 | el (p z q:Nat)
 | gv (zs:List Value)
 deriving Inhabited
def tU (n:Int):AV := .v (.int .i64 n)
def iE (l:bS):AV := .v (.string ⟨⟨l⟩⟩)
def jU (n:UInt64):AV := .v (.int .u64 n.toNat)
def kd (l:bS):AV := .sl 1 (l.map fQ)
def uY (l:List Int):AV := .sl 1 (l.map tU)
mutual
def pT:bG→AV
 | .mk n k b h l t m s y ks => .ag [iE n,tU k,jU b,jU h,jU l,iE t,iE m,tU s,kd y,.sl 10 (vf ks)]
def vf:List bG→List AV
 | []=>[]
 | f :: r=>pT f :: vf r
end
mutual
def vY:Mem→AV
 | .mk n k t ks => .ag [iE n,tU k,iE t,.sl 4 (uM ks)]
def uM:List Mem→List AV
 | []=>[]
 | f :: r=>vY f :: uM r
end
mutual
def nN:bD→AV
 | .mk k n b t ks => .ag [tU k,jU n,kd b,iE t,.sl 5 (uS ks)]
def uS:List bD→List AV
 | []=>[]
 | f :: r=>nN f :: uS r
end
theorem mT:∀l:List bG,vf l=l.map pT
 | []=>rfl
 | f :: r=>by rw [vf,mT r];rfl
theorem pf:∀l:List Mem,uM l=l.map vY
 | []=>rfl
 | f :: r=>by rw [uM,pf r];rfl
theorem lx:∀l:List bD,uS l=l.map nN
 | []=>rfl
 | f :: r=>by rw [uS,lx r];rfl
def eJ.av:(t:eJ)→t.El→AV
 | .bs,x=>fQ x
 | .is,x=>tU x
 | .ws,x => .v (.int .u16 (UInt16.toNat x))
 | .ss,x=>iE x
 | .DC,x=>uY x
 | .fl,x=>pT x
 | .ml,x=>vY x
 | .il,x=>nN x
 | .sp,x => .ag [tU (kP.at_ x),tU (kP.end_ x)]
 | .ou,x => .ag [tU (Out.at_ x),kd (Out.bytes x),.sl 1 ((Out.Jw x).map uY),tU (Out.err x),tU (Out.PC x),uY (Out.path x)]
mutual
def TV.av:TV→AV
 | .u8 n=>fQ n
 | .u16 n => .v (.int .u16 n.toNat)
 | .u32 n => .v (.int .u32 n.toNat)
 | .u64 n=>jU n
 | .i k n => .v (.int k n)
 | .b x => .v (.bool x)
 | .s l=>iE l
 | .sl t l => .sl t.size (l.map t.av)
 | .ag l => .ag (TV.yq l)
 | .tu l => .tu (TV.yq l)
 | .ro x => .ro x.av
 | .gd q x=>if q then x.av else .sk
 | .c x => .v x
 | .pt => .pt
 | .dead => .dead
 | .el p z q => .el p z q
 | .gv zs => .gv zs
def TV.yq:List TV→List AV
 | []=>[]
 | x :: r=>x.av :: TV.yq r
end
theorem TV.gj:∀l:List TV,TV.yq l=l.map TV.av
 | []=>rfl
 | f :: r=>by rw [TV.yq,TV.gj r];rfl
def bE.cells (v:bE):List TV:=[.i .i64 v.kind,.u64 v.bits,.u64 v.high,.u64 v.low,.s v.text,.s v.more,.i .i64 v.sub,.sl .bs v.bytes,.sl .fl v.kids]
def bG.cells (f:bG):List TV:=[.s f.name,.i .i64 f.kind,.u64 f.bits,.u64 f.high,.u64 f.low,.s f.text,.s f.more,.i .i64 f.sub,.sl .bs f.bytes,.sl .fl f.kids]
def L5.cells (v:L5):List TV:=[.i .i64 v.kind,.s v.text,.sl .ml v.kids]
def Mem.cells (f:Mem):List TV:=[.s f.name,.i .i64 f.kind,.s f.text,.sl .ml f.kids]
def bD.cells (f:bD):List TV:=[.i .i64 f.kind,.u64 f.n,.sl .bs f.bytes,.s f.text,.sl .il f.kids]
def bM.cells (f:bM):List TV:=[.i .i64 f.kind,.u64 f.n,.sl .bs f.bytes,.s f.text,.sl .il f.kids]
def kP.cells (f:kP):List TV:=[.i .i64 f.at_,.i .i64 f.end_]
def Out.cells (f:Out):List TV:=[.i .i64 f.at_,.sl .bs f.bytes,.sl .DC f.Jw,.i .i64 f.err,.i .i64 f.PC,.sl .is f.path]
def dj.cells (f:dj):List TV:=[.sl .bs f.b,.i .i64 f.at_]
def fh.cells (f:fh):List TV:=[.sl .bs f.b]
def ez.cells (f:ez):List TV:=[.i .i64 f.err,.i .i64 f.at_,.sl .is f.path]
def PM.cells (f:PM):List TV:=[.i .i64 f.depth,.i .i64 f.size,.i .i64 f.out]
def eJ.tv:(t:eJ)→t.El→TV
 | .bs,x => .u8 x
 | .is,x => .i .i64 x
 | .ws,x => .u16 x
 | .ss,x => .s x
 | .DC,x => .sl .is x
 | .fl,x => .ag (bG.cells x)
 | .ml,x => .ag (Mem.cells x)
 | .il,x => .ag (bD.cells x)
 | .sp,x => .ag (kP.cells x)
 | .ou,x => .ag (Out.cells x)
theorem eJ.A4 (t:eJ) (x:t.El):(t.tv x).av=t.av x:=by
 cases t with
 | fl=>cases x;simp [eJ.tv,eJ.av,TV.av,TV.yq,bG.cells,bG.name,bG.kind,bG.bits,bG.high,bG.low,bG.text,bG.more,bG.sub,bG.bytes,bG.kids,pT,mT,iE,tU,jU,kd,eJ.size]
 | ml=>cases x;simp [eJ.tv,eJ.av,TV.av,TV.yq,Mem.cells,Mem.name,Mem.kind,Mem.text,Mem.kids,vY,pf,iE,tU,eJ.size]
 | il=>cases x;simp [eJ.tv,eJ.av,TV.av,TV.yq,bD.cells,bD.kind,bD.n,bD.bytes,bD.text,bD.kids,nN,lx,iE,tU,jU,kd,eJ.size]
 | DC=>rfl
 | sp=>rfl
 | ou=>rfl
 | _=>rfl
def eJ.el:(t:eJ)→TV→Option t.El
 | .bs,.u8 x=>some x
 | .is,.i .i64 x=>some x
 | .ws,.u16 x=>some x
 | .ss,.s x=>some x
 | .DC,.sl .is x=>some x
 | .fl,.ag [.s n,.i .i64 k,.u64 b,.u64 h,.u64 l,.s t,.s m,.i .i64 s,.sl .bs y,.sl .fl ks]=>some (.mk n k b h l t m s y ks)
 | .ml,.ag [.s n,.i .i64 k,.s t,.sl .ml ks]=>some (.mk n k t ks)
 | .il,.ag [.i .i64 k,.u64 n,.sl .bs b,.s t,.sl .il ks]=>some (.mk k n b t ks)
 | .sp,.ag [.i .i64 a,.i .i64 e]=>some ⟨a,e⟩
 | .ou,.ag [.i .i64 a,.sl .bs b,.sl .DC l,.i .i64 e,.i .i64 f,.sl .is p]=>some ⟨a,b,l,e,f,p⟩
 | _,_=>none
theorem eJ.C3 {t:eJ} {x:TV} {y:t.El} (h:t.el x=some y):t.av y=x.av:=by
 unfold eJ.el at h
 split at h <;> cases h <;> first | rfl | (simp [eJ.av,TV.av,TV.yq,pT,vY,nN,mT,pf,lx,eJ.size,tU,kd,iE,uY,jU])
end Go.Eng
namespace Go.Eng
inductive kT where
 | ok (ws:List TV)
 | fJ (p:Bool) (ws:List TV)
 | err
def ck {R:Type} (p:Bool) (x:Option R):Option R:=cond p x none
theorem cV {R:Type} (x:Option R):ck true x=x:=rfl
theorem E5 {R:Type} {p:Bool} {x:Option R} {r:R}:ck p x=some r ↔ p=true∧x=some r:=by cases p <;> simp [ck]
def Cr (k:IntKind) (n:Int):TV :=
 match k with
 | .u8 => .u8 (UInt8.ofInt n)
 | .u16 => .u16 (UInt16.ofInt n)
 | .u32 => .u32 (UInt32.ofInt n)
 | .u64 => .u64 (UInt64.ofInt n)
 | k => .i k (k.wrap n)
def TV.int?:TV→Option (IntKind × Int)
 | .u8 n=>some (.u8,n.toNat)
 | .u16 n=>some (.u16,n.toNat)
 | .u32 n=>some (.u32,n.toNat)
 | .u64 n=>some (.u64,n.toNat)
 | .i k n=>some (k,n)
 | _=>none
theorem TV.iN {x:TV} {k:IntKind} {n:Int} (h:x.int?=some (k,n)):x.av = .v (.int k n):=by
 cases x <;> simp [TV.int?] at h <;> obtain ⟨rfl,rfl⟩:=h <;> rfl
theorem mW (n:Int) (m:Nat) (h:0<m):(((n % (m:Int)).toNat % m:Nat):Int)=n % m:=by
 have h1:0≤n % (m:Int):=Int.emod_nonneg _ (by omega)
 have h2:n % (m:Int)<m:=Int.emod_lt_of_pos _ (by omega)
 rw [Nat.mod_eq_of_lt (by omega)];omega
theorem rT (n:Int):((UInt8.ofInt n).toNat:Int)=IntKind.u8.wrap n:=by
 have:IntKind.u8.wrap n=n % (256:Nat):=by simp [IntKind.wrap,IntKind.bits,IntKind.signed]
 rw [this,UInt8.ofInt,UInt8.toNat_ofNat'];exact mW n 256 (by decide)
theorem zx (n:Int):((UInt16.ofInt n).toNat:Int)=IntKind.u16.wrap n:=by
 have:IntKind.u16.wrap n=n % (65536:Nat):=by simp [IntKind.wrap,IntKind.bits,IntKind.signed]
 rw [this,UInt16.ofInt,UInt16.toNat_ofNat'];exact mW n 65536 (by decide)
theorem qi (n:Int):((UInt32.ofInt n).toNat:Int)=IntKind.u32.wrap n:=by
 have:IntKind.u32.wrap n=n % (4294967296:Nat):=by simp [IntKind.wrap,IntKind.bits,IntKind.signed]
 rw [this,UInt32.ofInt,UInt32.toNat_ofNat'];exact mW n 4294967296 (by decide)
theorem kp (n:Int):((UInt64.ofInt n).toNat:Int)=IntKind.u64.wrap n:=by
 have:IntKind.u64.wrap n=n % (18446744073709551616:Nat):=by simp [IntKind.wrap,IntKind.bits,IntKind.signed]
 rw [this,UInt64.ofInt,UInt64.toNat_ofNat'];exact mW n 18446744073709551616 (by decide)
theorem Cq (k:IntKind) (n:Int):(Cr k n).av = .v (.int k (k.wrap n)):=by
 cases k <;> simp only [Cr,TV.av,fQ,jU,AV.v.injEq,Value.int.injEq,true_and]
 ·exact rT n
 ·exact zx n
 ·exact qi n
 ·exact kp n
def Ih (o:BinOp) (a b:UInt8):kT :=
 match o with
 | .add => .ok [.u8 (a+b)]
 | .sub => .ok [.u8 (a - b)]
 | .mul => .ok [.u8 (a * b)]
 | .quo => .fJ (!decide (b=0)) [.u8 (a / b)]
 | .rem => .fJ (!decide (b=0)) [.u8 (a % b)]
 | .and => .ok [.u8 (a &&& b)]
 | .or => .ok [.u8 (a ||| b)]
 | .xor => .ok [.u8 (a ^^^ b)]
 | .andNot => .ok [.u8 (a &&& ~~~b)]
 | .eql => .ok [.b (decide (a=b))]
 | .neq => .ok [.b (!decide (a=b))]
 | .lss => .ok [.b (decide (a<b))]
 | .leq => .ok [.b (decide (a≤b))]
 | .gtr => .ok [.b (decide (b<a))]
 | .geq => .ok [.b (decide (b≤a))]
 | _ => .err
def GH (a:UInt8) (n:Nat):UInt8:=UInt8.ofNat (a.toNat * 2 ^ n)
def GF (a:UInt8) (n:Nat):UInt8:=UInt8.ofNat (a.toNat / 2 ^ n)
theorem wrap_u8' (n:Int):IntKind.u8.wrap n=n % 256:=by simp [IntKind.wrap,IntKind.bits,IntKind.signed]
theorem ofInt_u8 (a:UInt8):BitVec.ofInt 8 (a.toNat:Int)=a.toBitVec:=by
 apply BitVec.eq_of_toNat_eq
 rw [BitVec.toNat_ofInt]
 have:=a.toNat_lt
 simp only [UInt8.toNat] at this ⊢
 omega
def Dt (o:BinOp) (a b:UInt16):kT :=
 match o with
 | .add => .ok [.u16 (a+b)]
 | .sub => .ok [.u16 (a - b)]
 | .mul => .ok [.u16 (a * b)]
 | .quo => .fJ (!decide (b=0)) [.u16 (a / b)]
 | .rem => .fJ (!decide (b=0)) [.u16 (a % b)]
 | .and => .ok [.u16 (a &&& b)]
 | .or => .ok [.u16 (a ||| b)]
 | .xor => .ok [.u16 (a ^^^ b)]
 | .andNot => .ok [.u16 (a &&& ~~~b)]
 | .eql => .ok [.b (decide (a=b))]
 | .neq => .ok [.b (!decide (a=b))]
 | .lss => .ok [.b (decide (a<b))]
 | .leq => .ok [.b (decide (a≤b))]
 | .gtr => .ok [.b (decide (b<a))]
 | .geq => .ok [.b (decide (b≤a))]
 | _ => .err
def Bn (a:UInt16) (n:Nat):UInt16:=UInt16.ofNat (a.toNat * 2 ^ n)
def Bi (a:UInt16) (n:Nat):UInt16:=UInt16.ofNat (a.toNat / 2 ^ n)
theorem ko (n:Int):IntKind.u16.wrap n=n % 65536:=by simp [IntKind.wrap,IntKind.bits,IntKind.signed]
theorem ofInt_u16 (a:UInt16):BitVec.ofInt 16 (a.toNat:Int)=a.toBitVec:=by
 apply BitVec.eq_of_toNat_eq
 rw [BitVec.toNat_ofInt]
 have:=a.toNat_lt
 simp only [UInt16.toNat] at this ⊢
 omega
def Dr (o:BinOp) (a b:UInt32):kT :=
 match o with
 | .add => .ok [.u32 (a+b)]
 | .sub => .ok [.u32 (a - b)]
 | .mul => .ok [.u32 (a * b)]
 | .quo => .fJ (!decide (b=0)) [.u32 (a / b)]
 | .rem => .fJ (!decide (b=0)) [.u32 (a % b)]
 | .and => .ok [.u32 (a &&& b)]
 | .or => .ok [.u32 (a ||| b)]
 | .xor => .ok [.u32 (a ^^^ b)]
 | .andNot => .ok [.u32 (a &&& ~~~b)]
 | .eql => .ok [.b (decide (a=b))]
 | .neq => .ok [.b (!decide (a=b))]
 | .lss => .ok [.b (decide (a<b))]
 | .leq => .ok [.b (decide (a≤b))]
 | .gtr => .ok [.b (decide (b<a))]
 | .geq => .ok [.b (decide (b≤a))]
 | _ => .err
def Bl (a:UInt32) (n:Nat):UInt32:=UInt32.ofNat (a.toNat * 2 ^ n)
def Bg (a:UInt32) (n:Nat):UInt32:=UInt32.ofNat (a.toNat / 2 ^ n)
theorem wrap_u32' (n:Int):IntKind.u32.wrap n=n % 4294967296:=by simp [IntKind.wrap,IntKind.bits,IntKind.signed]
theorem ofInt_u32 (a:UInt32):BitVec.ofInt 32 (a.toNat:Int)=a.toBitVec:=by
 apply BitVec.eq_of_toNat_eq
 rw [BitVec.toNat_ofInt]
 have:=a.toNat_lt
 simp only [UInt32.toNat] at this ⊢
 omega
def Dp (o:BinOp) (a b:UInt64):kT :=
 match o with
 | .add => .ok [.u64 (a+b)]
 | .sub => .ok [.u64 (a - b)]
 | .mul => .ok [.u64 (a * b)]
 | .quo => .fJ (!decide (b=0)) [.u64 (a / b)]
 | .rem => .fJ (!decide (b=0)) [.u64 (a % b)]
 | .and => .ok [.u64 (a &&& b)]
 | .or => .ok [.u64 (a ||| b)]
 | .xor => .ok [.u64 (a ^^^ b)]
 | .andNot => .ok [.u64 (a &&& ~~~b)]
 | .eql => .ok [.b (decide (a=b))]
 | .neq => .ok [.b (!decide (a=b))]
 | .lss => .ok [.b (decide (a<b))]
 | .leq => .ok [.b (decide (a≤b))]
 | .gtr => .ok [.b (decide (b<a))]
 | .geq => .ok [.b (decide (b≤a))]
 | _ => .err
def mf (a:UInt64) (n:Nat):UInt64:=UInt64.ofNat (a.toNat * 2 ^ n)
def me (a:UInt64) (n:Nat):UInt64:=UInt64.ofNat (a.toNat / 2 ^ n)
theorem iC (n:Int):IntKind.u64.wrap n=n % 18446744073709551616:=by simp [IntKind.wrap,IntKind.bits,IntKind.signed]
theorem ofInt_u64 (a:UInt64):BitVec.ofInt 64 (a.toNat:Int)=a.toBitVec:=by
 apply BitVec.eq_of_toNat_eq
 rw [BitVec.toNat_ofInt]
 have:=a.toNat_lt
 simp only [UInt64.toNat] at this ⊢
 omega
def kT.holds:kT→List TV→Prop
 | .ok ws,r=>r=ws
 | .fJ p ws,r=>p=true∧r=ws
 | .err,_=>False
theorem Fg {o : BinOp} {a b : UInt8} {ws : List TV} (h : (Ih o a b).holds ws) : ∃ x : TV, ws = [x] ∧ ∃ v, x.av = .v v ∧ kB o (.int .u8 a.toNat) (.int .u8 b.toNat) = some v := by
  have ha := a.toNat_lt
  have hb := b.toNat_lt
  cases o <;> simp only [Ih, kT.holds] at h <;> first | exact h.elim | skip
  all_goals first
    | (obtain ⟨hp, rfl⟩ := h; refine ⟨_, rfl, _, rfl, ?_⟩; simp only [Bool.not_eq_true', decide_eq_false_iff_not] at hp
       have Ah : (b.toNat : Int) ≠ 0 := fun e => hp (UInt8.toNat_inj.1 (by simpa using e))
       simp only [kB, if_true, Ah, if_false, ax, Value.int.injEq, true_and, UInt8.toNat_div, UInt8.toNat_mod, wrap_u8', Int.tdiv_eq_ediv_of_nonneg (Int.natCast_nonneg a.toNat), Int.tmod_eq_emod_of_nonneg (Int.natCast_nonneg a.toNat)]
       first | (rw [← Int.natCast_ediv]; have := Nat.div_le_self a.toNat b.toNat; generalize a.toNat / b.toNat = q at this ⊢; omega) | omega)
    | (subst h; refine ⟨_, rfl, _, rfl, ?_⟩
       simp only [kB, if_true, ax, Value.int.injEq, Value.bool.injEq, true_and, wrap_u8', eA, IntKind.bits, ofInt_u8, UInt8.toNat_add, UInt8.toNat_sub, UInt8.toNat_mul]
       first | omega | (rw [ba (by omega) (by have := (a &&& b).toNat_lt; simp only [UInt8.toNat] at this ⊢; simp only [UInt8.toBitVec_and] at this; omega)]; rfl)
             | (rw [ba (by omega) (by have := (a ||| b).toNat_lt; simp only [UInt8.toNat] at this ⊢; simp only [UInt8.toBitVec_or] at this; omega)]; rfl)
             | (rw [ba (by omega) (by have := (a ^^^ b).toNat_lt; simp only [UInt8.toNat] at this ⊢; simp only [UInt8.toBitVec_xor] at this; omega)]; rfl)
             | (rw [ba (by omega) (by have := (a &&& ~~~b).toNat_lt; simp only [UInt8.toNat] at this ⊢; simp only [UInt8.toBitVec_and, UInt8.toBitVec_not] at this; omega)]; rfl)
             | (rw [aY]; simp [UInt8.lt_iff_toNat_lt, UInt8.le_iff_toNat_le, ← UInt8.toNat_inj]; omega)
             | (rw [aY]; simp [UInt8.lt_iff_toNat_lt, UInt8.le_iff_toNat_le, ← UInt8.toNat_inj]))
theorem Ds {o : BinOp} {a b : UInt16} {ws : List TV} (h : (Dt o a b).holds ws) : ∃ x : TV, ws = [x] ∧ ∃ v, x.av = .v v ∧ kB o (.int .u16 a.toNat) (.int .u16 b.toNat) = some v := by
  have ha := a.toNat_lt
  have hb := b.toNat_lt
  cases o <;> simp only [Dt, kT.holds] at h <;> first | exact h.elim | skip
  all_goals first
    | (obtain ⟨hp, rfl⟩ := h; refine ⟨_, rfl, _, rfl, ?_⟩; simp only [Bool.not_eq_true', decide_eq_false_iff_not] at hp
       have Ah : (b.toNat : Int) ≠ 0 := fun e => hp (UInt16.toNat_inj.1 (by simpa using e))
       simp only [kB, if_true, Ah, if_false, ax, Value.int.injEq, true_and, UInt16.toNat_div, UInt16.toNat_mod, ko, Int.tdiv_eq_ediv_of_nonneg (Int.natCast_nonneg a.toNat), Int.tmod_eq_emod_of_nonneg (Int.natCast_nonneg a.toNat)]
       first | (rw [← Int.natCast_ediv]; have := Nat.div_le_self a.toNat b.toNat; generalize a.toNat / b.toNat = q at this ⊢; omega) | omega)
    | (subst h; refine ⟨_, rfl, _, rfl, ?_⟩
       simp only [kB, if_true, ax, Value.int.injEq, Value.bool.injEq, true_and, ko, eA, IntKind.bits, ofInt_u16, UInt16.toNat_add, UInt16.toNat_sub, UInt16.toNat_mul]
       first | omega | (rw [ba (by omega) (by have := (a &&& b).toNat_lt; simp only [UInt16.toNat] at this ⊢; simp only [UInt16.toBitVec_and] at this; omega)]; rfl)
             | (rw [ba (by omega) (by have := (a ||| b).toNat_lt; simp only [UInt16.toNat] at this ⊢; simp only [UInt16.toBitVec_or] at this; omega)]; rfl)
             | (rw [ba (by omega) (by have := (a ^^^ b).toNat_lt; simp only [UInt16.toNat] at this ⊢; simp only [UInt16.toBitVec_xor] at this; omega)]; rfl)
             | (rw [ba (by omega) (by have := (a &&& ~~~b).toNat_lt; simp only [UInt16.toNat] at this ⊢; simp only [UInt16.toBitVec_and, UInt16.toBitVec_not] at this; omega)]; rfl)
             | (rw [aY]; simp [UInt16.lt_iff_toNat_lt, UInt16.le_iff_toNat_le, ← UInt16.toNat_inj]; omega)
             | (rw [aY]; simp [UInt16.lt_iff_toNat_lt, UInt16.le_iff_toNat_le, ← UInt16.toNat_inj]))
theorem Dq {o : BinOp} {a b : UInt32} {ws : List TV} (h : (Dr o a b).holds ws) : ∃ x : TV, ws = [x] ∧ ∃ v, x.av = .v v ∧ kB o (.int .u32 a.toNat) (.int .u32 b.toNat) = some v := by
  have ha := a.toNat_lt
  have hb := b.toNat_lt
  cases o <;> simp only [Dr, kT.holds] at h <;> first | exact h.elim | skip
  all_goals first
    | (obtain ⟨hp, rfl⟩ := h; refine ⟨_, rfl, _, rfl, ?_⟩; simp only [Bool.not_eq_true', decide_eq_false_iff_not] at hp
       have Ah : (b.toNat : Int) ≠ 0 := fun e => hp (UInt32.toNat_inj.1 (by simpa using e))
       simp only [kB, if_true, Ah, if_false, ax, Value.int.injEq, true_and, UInt32.toNat_div, UInt32.toNat_mod, wrap_u32', Int.tdiv_eq_ediv_of_nonneg (Int.natCast_nonneg a.toNat), Int.tmod_eq_emod_of_nonneg (Int.natCast_nonneg a.toNat)]
       first | (rw [← Int.natCast_ediv]; have := Nat.div_le_self a.toNat b.toNat; generalize a.toNat / b.toNat = q at this ⊢; omega) | omega)
    | (subst h; refine ⟨_, rfl, _, rfl, ?_⟩
       simp only [kB, if_true, ax, Value.int.injEq, Value.bool.injEq, true_and, wrap_u32', eA, IntKind.bits, ofInt_u32, UInt32.toNat_add, UInt32.toNat_sub, UInt32.toNat_mul]
       first | omega | (rw [ba (by omega) (by have := (a &&& b).toNat_lt; simp only [UInt32.toNat] at this ⊢; simp only [UInt32.toBitVec_and] at this; omega)]; rfl)
             | (rw [ba (by omega) (by have := (a ||| b).toNat_lt; simp only [UInt32.toNat] at this ⊢; simp only [UInt32.toBitVec_or] at this; omega)]; rfl)
             | (rw [ba (by omega) (by have := (a ^^^ b).toNat_lt; simp only [UInt32.toNat] at this ⊢; simp only [UInt32.toBitVec_xor] at this; omega)]; rfl)
             | (rw [ba (by omega) (by have := (a &&& ~~~b).toNat_lt; simp only [UInt32.toNat] at this ⊢; simp only [UInt32.toBitVec_and, UInt32.toBitVec_not] at this; omega)]; rfl)
             | (rw [aY]; simp [UInt32.lt_iff_toNat_lt, UInt32.le_iff_toNat_le, ← UInt32.toNat_inj]; omega)
             | (rw [aY]; simp [UInt32.lt_iff_toNat_lt, UInt32.le_iff_toNat_le, ← UInt32.toNat_inj]))
theorem Dn {o : BinOp} {a b : UInt64} {ws : List TV} (h : (Dp o a b).holds ws) : ∃ x : TV, ws = [x] ∧ ∃ v, x.av = .v v ∧ kB o (.int .u64 a.toNat) (.int .u64 b.toNat) = some v := by
  have ha := a.toNat_lt
  have hb := b.toNat_lt
  cases o <;> simp only [Dp, kT.holds] at h <;> first | exact h.elim | skip
  all_goals first
    | (obtain ⟨hp, rfl⟩ := h; refine ⟨_, rfl, _, rfl, ?_⟩; simp only [Bool.not_eq_true', decide_eq_false_iff_not] at hp
       have Ah : (b.toNat : Int) ≠ 0 := fun e => hp (aZ.1 (by simpa using e))
       simp only [kB, if_true, Ah, if_false, ax, Value.int.injEq, true_and, UInt64.toNat_div, UInt64.toNat_mod, iC, Int.tdiv_eq_ediv_of_nonneg (Int.natCast_nonneg a.toNat), Int.tmod_eq_emod_of_nonneg (Int.natCast_nonneg a.toNat)]
       first | (rw [← Int.natCast_ediv]; have := Nat.div_le_self a.toNat b.toNat; generalize a.toNat / b.toNat = q at this ⊢; omega) | omega)
    | (subst h; refine ⟨_, rfl, _, rfl, ?_⟩
       simp only [kB, if_true, ax, Value.int.injEq, Value.bool.injEq, true_and, iC, eA, IntKind.bits, ofInt_u64, UInt64.toNat_add, UInt64.toNat_sub, UInt64.toNat_mul]
       first | omega | (rw [ba (by omega) (by have := (a &&& b).toNat_lt; simp only [UInt64.toNat] at this ⊢; simp only [UInt64.toBitVec_and] at this; omega)]; rfl)
             | (rw [ba (by omega) (by have := (a ||| b).toNat_lt; simp only [UInt64.toNat] at this ⊢; simp only [UInt64.toBitVec_or] at this; omega)]; rfl)
             | (rw [ba (by omega) (by have := (a ^^^ b).toNat_lt; simp only [UInt64.toNat] at this ⊢; simp only [UInt64.toBitVec_xor] at this; omega)]; rfl)
             | (rw [ba (by omega) (by have := (a &&& ~~~b).toNat_lt; simp only [UInt64.toNat] at this ⊢; simp only [UInt64.toBitVec_and, UInt64.toBitVec_not] at this; omega)]; rfl)
             | (rw [aY]; simp [aH, aJ, ← aZ]; omega)
             | (rw [aY]; simp [aH, aJ, ← aZ]))
end Go.Eng
namespace Go.Eng
def Ig (o:BinOp) (k:IntKind) (a b:Int):kT :=
 match o with
 | .add => .ok [.i k (k.wrap (a+b))]
 | .sub => .ok [.i k (k.wrap (a - b))]
 | .mul => .ok [.i k (k.wrap (a * b))]
 | .quo => .fJ (!decide (b=0)) [.i k (k.wrap (a.tdiv b))]
 | .rem => .fJ (!decide (b=0)) [.i k (a.tmod b)]
 | .and => .ok [.i k (eA .and k a b)]
 | .or => .ok [.i k (eA .or k a b)]
 | .xor => .ok [.i k (eA .xor k a b)]
 | .andNot => .ok [.i k (eA .andNot k a b)]
 | .eql => .ok [.b (decide (a=b))]
 | .neq => .ok [.b (!decide (a=b))]
 | .lss => .ok [.b (decide (a<b))]
 | .leq => .ok [.b (decide (a≤b))]
 | .gtr => .ok [.b (decide (b<a))]
 | .geq => .ok [.b (decide (b≤a))]
 | _ => .err
def Ie (o:BinOp) (a b:bS):kT :=
 match o with
 | .add => .fJ (decide (a.length+b.length≤9223372036854775807)) [.s (a++b)]
 | .eql => .ok [.b (decide (a=b))]
 | .neq => .ok [.b (!decide (a=b))]
 | _ => .err
def TV.count:TV→Option (Option Bool × Nat)
 | .u8 n=>some (none,n.toNat)
 | .u16 n=>some (none,n.toNat)
 | .u32 n=>some (none,n.toNat)
 | .u64 n=>some (none,n.toNat)
 | .i _ n=>some (some (decide (0≤n)),n.toNat)
 | _=>none
def kT.under (p:Option Bool) (ws:List TV):kT :=
 match p with
 | none => .ok ws
 | some p => .fJ p ws
def GG (x y:TV):kT :=
 match y.count with
 | some (p,n)=>match x with
  | .u8 a => .under p [.u8 (GH a n)]
  | .u16 a => .under p [.u16 (Bn a n)]
  | .u32 a => .under p [.u32 (Bl a n)]
  | .u64 a => .under p [.u64 (mf a n)]
  | .i k a => .under p [.i k (k.wrap (a * 2 ^ (min n k.bits)))]
  | _ => .err
 | none => .err
def GD (x y:TV):kT :=
 match y.count with
 | some (p,n)=>match x with
  | .u8 a => .under p [.u8 (GF a n)]
  | .u16 a => .under p [.u16 (Bi a n)]
  | .u32 a => .under p [.u32 (Bg a n)]
  | .u64 a => .under p [.u64 (me a n)]
  | .i k a => .under p [.i k (a.fdiv (2 ^ (min n k.bits)))]
  | _ => .err
 | none => .err
def uT:BinOp→Option Bool
 | .shl=>some true
 | .shr=>some false
 | _=>none
def Ic (o:BinOp) (x y:TV):kT :=
 match uT o with
 | some true=>GG x y
 | some false=>GD x y
 | none=>match x,y with
  | .u8 a,.u8 b=>Ih o a b
  | .u16 a,.u16 b=>Dt o a b
  | .u32 a,.u32 b=>Dr o a b
  | .u64 a,.u64 b=>Dp o a b
  | .i k a,.i k' b=>if k=k' then Ig o k a b else .err
  | .s a,.s b=>Ie o a b
  | _,_ => .err
def Mh (o:UnOp) (x:TV):kT :=
 match o,x with
 | .neg,.u8 a => .ok [.u8 (0 - a)]
 | .neg,.u16 a => .ok [.u16 (0 - a)]
 | .neg,.u32 a => .ok [.u32 (0 - a)]
 | .neg,.u64 a => .ok [.u64 (0 - a)]
 | .neg,.i k a => .ok [.i k (k.wrap (0 - a))]
 | .xor,.u8 a => .ok [.u8 (~~~a)]
 | .xor,.u16 a => .ok [.u16 (~~~a)]
 | .xor,.u32 a => .ok [.u32 (~~~a)]
 | .xor,.u64 a => .ok [.u64 (~~~a)]
 | .xor,.i k a => .ok [.i k (eA .xor k (if k.signed then -1 else k.max) a)]
 | .not,.b a => .ok [.b !a]
 | _,_ => .err
theorem rB {a n b m:Nat} (hm:m=2 ^ b):(a * 2 ^ (min n b)) % m=(a * 2 ^ n) % m:=by
 subst hm
 by_cases h:n≤b
 ·rw [Nat.min_eq_left h]
 ·rw [Nat.min_eq_right (by omega),show n=b+(n - b) by omega,Nat.pow_add,←Nat.mul_assoc,Nat.mul_mod_left,Nat.mul_right_comm,Nat.mul_mod_left]
theorem rz {a n b m:Nat} (hm:m=2 ^ b) (ha:a<m):a / 2 ^ (min n b)=(a / 2 ^ n) % m:=by
 subst hm
 rw [Nat.mod_eq_of_lt (Nat.lt_of_le_of_lt (Nat.div_le_self _ _) ha)]
 by_cases h:n≤b
 ·rw [Nat.min_eq_left h]
 ·rw [Nat.min_eq_right (by omega),Nat.div_eq_of_lt ha,Nat.div_eq_of_lt (Nat.lt_of_lt_of_le ha (Nat.pow_le_pow_right (by omega) (by omega)))]
theorem tp (l:bS):ByteArray.toList ⟨⟨l⟩⟩=l:=by rw [ByteArray.toList_eq]
def kT.wO (r:kT) (P:AV→Prop):Prop:=∀ws,r.holds ws→∃x:TV,ws=[x]∧P x.av
def DA (o:BinOp) (x y:TV) (z:AV):Prop:=∃a b v,x.av = .v a∧y.av = .v b∧kB o a b=some v∧z = .v v
theorem qI {p:Option Bool} {ws r:List TV} (h:(kT.under p ws).holds r):r=ws∧∀b,p=some b→b=true:=by
 cases p with
 | none=>exact ⟨h,fun _ e=>by cases e⟩
 | some p=>exact ⟨h.2,fun _ e=>by cases e;exact h.1⟩
theorem xf {y:TV} {p:Option Bool} {n:Nat} (h:y.count=some (p,n)) (hp:∀b,p=some b→b=true):∃k m,y.av = .v (.int k m)∧0≤m∧m.toNat=n:=by
 cases y <;> simp [TV.count] at h <;> obtain ⟨rfl,rfl⟩:=h
 ·exact ⟨_,_,rfl,by omega,by omega⟩
 ·exact ⟨_,_,rfl,by omega,by omega⟩
 ·exact ⟨_,_,rfl,by omega,by omega⟩
 ·exact ⟨_,_,rfl,by omega,by omega⟩
 ·rename_i k m
  have:=hp _ rfl
  exact ⟨_,_,rfl,by simpa using this,rfl⟩
theorem DT (a:UInt8) (n:Nat):IntKind.u8.wrap ((a.toNat:Int) * 2 ^ (min n 8))=((GH a n).toNat:Int):=by
 rw [wrap_u8',GH,UInt8.toNat_ofNat',show ((a.toNat:Int) * 2 ^ (min n 8))=((a.toNat * 2 ^ (min n 8):Nat):Int) by simp]
 have:=rB (a:=a.toNat) (n:=n) (b:=8) (m:=256) (by decide)
 rw [show (2 ^ 8:Nat)=256 by decide]
 omega
theorem DR (a:UInt8) (n:Nat):IntKind.u8.wrap ((a.toNat:Int).fdiv (2 ^ (min n 8)))=((GF a n).toNat:Int):=by
 rw [wrap_u8',GF,UInt8.toNat_ofNat',Int.fdiv_eq_ediv_of_nonneg _ (Int.le_of_lt (Int.pow_pos (by decide))),show ((a.toNat:Int) / 2 ^ (min n 8))=((a.toNat / 2 ^ (min n 8):Nat):Int) by simp]
 have:=rz (a:=a.toNat) (n:=n) (b:=8) (m:=256) (by decide) (by have:=a.toNat_lt;simpa using this)
 rw [show (2 ^ 8:Nat)=256 by decide]
 omega
theorem Bm (a:UInt16) (n:Nat):IntKind.u16.wrap ((a.toNat:Int) * 2 ^ (min n 16))=((Bn a n).toNat:Int):=by
 rw [ko,Bn,UInt16.toNat_ofNat',show ((a.toNat:Int) * 2 ^ (min n 16))=((a.toNat * 2 ^ (min n 16):Nat):Int) by simp]
 have:=rB (a:=a.toNat) (n:=n) (b:=16) (m:=65536) (by decide)
 rw [show (2 ^ 16:Nat)=65536 by decide]
 omega
theorem Bh (a:UInt16) (n:Nat):IntKind.u16.wrap ((a.toNat:Int).fdiv (2 ^ (min n 16)))=((Bi a n).toNat:Int):=by
 rw [ko,Bi,UInt16.toNat_ofNat',Int.fdiv_eq_ediv_of_nonneg _ (Int.le_of_lt (Int.pow_pos (by decide))),show ((a.toNat:Int) / 2 ^ (min n 16))=((a.toNat / 2 ^ (min n 16):Nat):Int) by simp]
 have:=rz (a:=a.toNat) (n:=n) (b:=16) (m:=65536) (by decide) (by have:=a.toNat_lt;simpa using this)
 rw [show (2 ^ 16:Nat)=65536 by decide]
 omega
theorem Bk (a:UInt32) (n:Nat):IntKind.u32.wrap ((a.toNat:Int) * 2 ^ (min n 32))=((Bl a n).toNat:Int):=by
 rw [wrap_u32',Bl,UInt32.toNat_ofNat',show ((a.toNat:Int) * 2 ^ (min n 32))=((a.toNat * 2 ^ (min n 32):Nat):Int) by simp]
 have:=rB (a:=a.toNat) (n:=n) (b:=32) (m:=4294967296) (by decide)
 rw [show (2 ^ 32:Nat)=4294967296 by decide]
 omega
theorem Bf (a:UInt32) (n:Nat):IntKind.u32.wrap ((a.toNat:Int).fdiv (2 ^ (min n 32)))=((Bg a n).toNat:Int):=by
 rw [wrap_u32',Bg,UInt32.toNat_ofNat',Int.fdiv_eq_ediv_of_nonneg _ (Int.le_of_lt (Int.pow_pos (by decide))),show ((a.toNat:Int) / 2 ^ (min n 32))=((a.toNat / 2 ^ (min n 32):Nat):Int) by simp]
 have:=rz (a:=a.toNat) (n:=n) (b:=32) (m:=4294967296) (by decide) (by have:=a.toNat_lt;simpa using this)
 rw [show (2 ^ 32:Nat)=4294967296 by decide]
 omega
theorem Bj (a:UInt64) (n:Nat):IntKind.u64.wrap ((a.toNat:Int) * 2 ^ (min n 64))=((mf a n).toNat:Int):=by
 rw [iC,mf,UInt64.toNat_ofNat',show ((a.toNat:Int) * 2 ^ (min n 64))=((a.toNat * 2 ^ (min n 64):Nat):Int) by simp]
 have:=rB (a:=a.toNat) (n:=n) (b:=64) (m:=18446744073709551616) (by decide)
 rw [show (2 ^ 64:Nat)=18446744073709551616 by decide]
 omega
theorem Be (a:UInt64) (n:Nat):IntKind.u64.wrap ((a.toNat:Int).fdiv (2 ^ (min n 64)))=((me a n).toNat:Int):=by
 rw [iC,me,UInt64.toNat_ofNat',Int.fdiv_eq_ediv_of_nonneg _ (Int.le_of_lt (Int.pow_pos (by decide))),show ((a.toNat:Int) / 2 ^ (min n 64))=((a.toNat / 2 ^ (min n 64):Nat):Int) by simp]
 have:=rz (a:=a.toNat) (n:=n) (b:=64) (m:=18446744073709551616) (by decide) (by have:=a.toNat_lt;simpa using this)
 rw [show (2 ^ 64:Nat)=18446744073709551616 by decide]
 omega
theorem rA {w:Nat} {m:Int} (a:Nat) (k:Nat) (h:(a:Int)<m):0≤(a:Int).fdiv (2 ^ k)∧(a:Int).fdiv (2 ^ k)<m:=by
 rw [Int.fdiv_eq_ediv_of_nonneg _ (Int.le_of_lt (Int.pow_pos (by decide)))]
 refine ⟨Int.ediv_nonneg (by omega) (Int.le_of_lt (Int.pow_pos (by decide))),?_⟩
 rw [show ((a:Int) / 2 ^ k)=((a / 2 ^ k:Nat):Int) by simp]
 have:=Nat.div_le_self a (2 ^ k)
 omega
theorem DS (x y:TV):(GG x y).wO (DA .shl x y):=by
 intro ws h
 unfold GG at h
 split at h
 ·rename_i p n hc
  have key:∀{r:TV} {u:IntKind} {a:Int},(kT.under p [r]).holds ws→x.av = .v (.int u a)→r.av = .v (.int u (u.wrap (a * 2 ^ (min n u.bits))))→∃z:TV,ws=[z]∧DA .shl x y z.av:=by
   intro r u a h hx hr
   obtain ⟨rfl,hp⟩:=qI h
   obtain ⟨k,m,h1,h2,rfl⟩:=xf hc hp
   refine ⟨_,rfl,_,_,_,hx,h1,?_,hr⟩
   simp only [kB,Int.not_lt.2 h2,if_false]
  split at h
  ·exact key h rfl (by rw [show IntKind.u8.bits=8 from rfl,DT];rfl)
  ·exact key h rfl (by rw [show IntKind.u16.bits=16 from rfl,Bm];rfl)
  ·exact key h rfl (by rw [show IntKind.u32.bits=32 from rfl,Bk];rfl)
  ·exact key h rfl (by rw [show IntKind.u64.bits=64 from rfl,Bj];rfl)
  ·exact key h rfl rfl
  ·exact h.elim
 ·exact h.elim
theorem DQ (x y:TV):(GD x y).wO (DA .shr x y):=by
 intro ws h
 unfold GD at h
 split at h
 ·rename_i p n hc
  have key:∀{r:TV} {u:IntKind} {a:Int},(kT.under p [r]).holds ws→x.av = .v (.int u a)→r.av = .v (.int u (a.fdiv (2 ^ (min n u.bits))))→∃z:TV,ws=[z]∧DA .shr x y z.av:=by
   intro r u a h hx hr
   obtain ⟨rfl,hp⟩:=qI h
   obtain ⟨k,m,h1,h2,rfl⟩:=xf hc hp
   refine ⟨_,rfl,_,_,_,hx,h1,?_,hr⟩
   simp only [kB,Int.not_lt.2 h2,if_false]
  split at h
  ·rename_i a
   have q:=rA (w:=0) a.toNat (min n 8) (m:=256) (by have:=a.toNat_lt;simp at this;omega)
   exact key h rfl (by rw [show IntKind.u8.bits=8 from rfl];simp only [TV.av,fQ];rw [←DR,wrap_u8',ba q.1 q.2])
  ·rename_i a
   have q:=rA (w:=0) a.toNat (min n 16) (m:=65536) (by have:=a.toNat_lt;simp at this;omega)
   exact key h rfl (by rw [show IntKind.u16.bits=16 from rfl];simp only [TV.av];rw [←Bh,ko,ba q.1 q.2])
  ·rename_i a
   have q:=rA (w:=0) a.toNat (min n 32) (m:=4294967296) (by have:=a.toNat_lt;simp at this;omega)
   exact key h rfl (by rw [show IntKind.u32.bits=32 from rfl];simp only [TV.av];rw [←Bf,wrap_u32',ba q.1 q.2])
  ·rename_i a
   have q:=rA (w:=0) a.toNat (min n 64) (m:=18446744073709551616) (by have:=a.toNat_lt;simp at this;omega)
   exact key h rfl (by rw [show IntKind.u64.bits=64 from rfl];simp only [TV.av,jU];rw [←Be,iC,ba q.1 q.2])
  ·exact key h rfl rfl
  ·exact h.elim
 ·exact h.elim
theorem Ff {o:BinOp} {k:IntKind} {a b:Int} {ws:List TV} (h:(Ig o k a b).holds ws):∃x:TV,ws=[x]∧∃v,x.av = .v v∧kB o (.int k a) (.int k b)=some v:=by
 cases o <;> simp only [Ig,kT.holds] at h <;> first | exact h.elim | skip
 all_goals first
  | (obtain ⟨hp,rfl⟩:=h;refine ⟨_,rfl,_,rfl,?_⟩;simp only [Bool.not_eq_true',decide_eq_false_iff_not] at hp;simp only [kB,if_true,hp,if_false])
  | (subst h;refine ⟨_,rfl,_,rfl,?_⟩;simp only [kB,if_true,ax,Value.bool.injEq];first | done | (rw [aY];simp))
theorem Fe {o:BinOp} {a b:bS} {ws:List TV} (h:(Ie o a b).holds ws):∃x:TV,ws=[x]∧∃v,x.av = .v v∧kB o (.string ⟨⟨a⟩⟩) (.string ⟨⟨b⟩⟩)=some v:=by
 cases o <;> simp only [Ie,kT.holds] at h <;> first | exact h.elim | skip
 ·obtain ⟨hp,rfl⟩:=h
  refine ⟨_,rfl,_,rfl,?_⟩
  simp only [kB]
  have hp:a.length+b.length≤9223372036854775807:=by simpa using hp
  rw [ah]
  ·simp only [ax,Value.string.injEq]
   apply ByteArray.ext
   apply Array.ext'
   simp
  ·have:IntKind.i64.max=9223372036854775807:=by decide
   rw [this]
   simp only [ByteArray.size,Array.size]
   omega
 ·subst h
  refine ⟨_,rfl,_,rfl,?_⟩
  simp only [kB,tp,ax,Value.bool.injEq]
  rw [aY];simp
 ·subst h
  refine ⟨_,rfl,_,rfl,?_⟩
  simp only [kB,tp,ax,Value.bool.injEq]
  rw [aY];simp
theorem Fc (o:BinOp) (x y:TV):(Ic o x y).wO (DA o x y):=by
 intro ws h
 unfold Ic at h
 split at h
 ·rename_i e
  have:o = .shl:=by cases o <;> simp [uT] at e ⊢
  subst this
  exact DS x y ws h
 ·rename_i e
  have:o = .shr:=by cases o <;> simp [uT] at e ⊢
  subst this
  exact DQ x y ws h
 ·split at h
  ·obtain ⟨x,h1,v,h2,h3⟩:=Fg h;exact ⟨x,h1,_,_,v,rfl,rfl,h3,h2⟩
  ·obtain ⟨x,h1,v,h2,h3⟩:=Ds h;exact ⟨x,h1,_,_,v,rfl,rfl,h3,h2⟩
  ·obtain ⟨x,h1,v,h2,h3⟩:=Dq h;exact ⟨x,h1,_,_,v,rfl,rfl,h3,h2⟩
  ·obtain ⟨x,h1,v,h2,h3⟩:=Dn h;exact ⟨x,h1,_,_,v,rfl,rfl,h3,h2⟩
  ·split at h
   ·rename_i e
    subst e
    obtain ⟨x,h1,v,h2,h3⟩:=Ff h;exact ⟨x,h1,_,_,v,rfl,rfl,h3,h2⟩
   ·exact h.elim
  ·obtain ⟨x,h1,v,h2,h3⟩:=Fe h;exact ⟨x,h1,_,_,v,rfl,rfl,h3,h2⟩
  ·exact h.elim
theorem Eb (a:UInt8):eA .xor .u8 (if IntKind.u8.signed then -1 else IntKind.u8.max) a.toNat=((~~~a).toNat:Int):=by
 have em:(if IntKind.u8.signed then (-1:Int) else IntKind.u8.max)=255:=by decide
 have e:BitVec.ofInt 8 255=BitVec.allOnes 8:=by decide
 rw [em]
 simp only [eA,IntKind.bits]
 rw [e,ofInt_u8,wrap_u8']
 show (((BitVec.allOnes 8 ^^^ a.toBitVec:BitVec 8).toNat:Int)) % 256=_
 rw [BitVec.allOnes_xor]
 have:=(~~~a).toNat_lt
 simp only [UInt8.toNat,UInt8.toBitVec_not] at this ⊢
 omega
theorem BX (a:UInt16):eA .xor .u16 (if IntKind.u16.signed then -1 else IntKind.u16.max) a.toNat=((~~~a).toNat:Int):=by
 have em:(if IntKind.u16.signed then (-1:Int) else IntKind.u16.max)=65535:=by decide
 have e:BitVec.ofInt 16 65535=BitVec.allOnes 16:=by decide
 rw [em]
 simp only [eA,IntKind.bits]
 rw [e,ofInt_u16,ko]
 show (((BitVec.allOnes 16 ^^^ a.toBitVec:BitVec 16).toNat:Int)) % 65536=_
 rw [BitVec.allOnes_xor]
 have:=(~~~a).toNat_lt
 simp only [UInt16.toNat,UInt16.toBitVec_not] at this ⊢
 omega
theorem BW (a:UInt32):eA .xor .u32 (if IntKind.u32.signed then -1 else IntKind.u32.max) a.toNat=((~~~a).toNat:Int):=by
 have em:(if IntKind.u32.signed then (-1:Int) else IntKind.u32.max)=4294967295:=by decide
 have e:BitVec.ofInt 32 4294967295=BitVec.allOnes 32:=by decide
 rw [em]
 simp only [eA,IntKind.bits]
 rw [e,ofInt_u32,wrap_u32']
 show (((BitVec.allOnes 32 ^^^ a.toBitVec:BitVec 32).toNat:Int)) % 4294967296=_
 rw [BitVec.allOnes_xor]
 have:=(~~~a).toNat_lt
 simp only [UInt32.toNat,UInt32.toBitVec_not] at this ⊢
 omega
theorem BV (a:UInt64):eA .xor .u64 (if IntKind.u64.signed then -1 else IntKind.u64.max) a.toNat=((~~~a).toNat:Int):=by
 have em:(if IntKind.u64.signed then (-1:Int) else IntKind.u64.max)=18446744073709551615:=by decide
 have e:BitVec.ofInt 64 18446744073709551615=BitVec.allOnes 64:=by decide
 rw [em]
 simp only [eA,IntKind.bits]
 rw [e,ofInt_u64,iC]
 show (((BitVec.allOnes 64 ^^^ a.toBitVec:BitVec 64).toNat:Int)) % 18446744073709551616=_
 rw [BitVec.allOnes_xor]
 have:=(~~~a).toNat_lt
 simp only [UInt64.toNat,UInt64.toBitVec_not] at this ⊢
 omega
theorem Gs (o : UnOp) (x : TV) : (Mh o x).wO (fun z => ∃ a v, x.av = .v a ∧ IH o a = some v ∧ z = .v v) := by
  intro ws h
  unfold Mh at h
  split at h <;> first
    | exact h.elim
    | (cases h; exact ⟨_, rfl, _, _, rfl, rfl, rfl⟩)
    | (cases h; refine ⟨_, rfl, _, _, rfl, rfl, ?_⟩
       rename_i a
       have := a.toNat_lt
       simp only [TV.av, fQ, jU, AV.v.injEq, Value.int.injEq, true_and]
       first
         | (rw [wrap_u8', UInt8.toNat_sub]; simp; omega)
         | (rw [ko, UInt16.toNat_sub]; simp; omega)
         | (rw [wrap_u32', UInt32.toNat_sub]; simp; omega)
         | (rw [iC, UInt64.toNat_sub]; simp; omega)
         | exact (Eb a).symm | exact (BX a).symm | exact (BW a).symm | exact (BV a).symm)
end Go.Eng
namespace Go.Eng
def TV.pj:TV→Bool
 | .ag _=>true
 | _=>false
def TV.cells:TV→List TV
 | .ag cs=>cs
 | x=>[x]
def TV.plain:TV→Bool
 | .u8 _=>true
 | .u16 _=>true
 | .u32 _=>true
 | .u64 _=>true
 | .i _ _=>true
 | .b _=>true
 | .s _=>true
 | .sl _ _=>true
 | .ag _=>true
 | .ro _=>true
 | .c x=>x.oneCell'
 | _=>false
def qN (cs:List TV) (o n:Nat) (agg:Bool):Option TV :=
 match agg with
 | true=>cond (Nat.ble (o+n) cs.length) (some (.ag ((cs.drop o).take n))) none
 | false=>cs[o]?
def mP (cs:List TV) (o:Nat) (xs:List TV):List TV:=cs.take o++xs++cs.drop (o+xs.length)
def zf (z:List TV):List (Nat × Nat)→List TV→Option (List TV)
 | [],[]=>some z
 | (o,n) :: pl,x :: xs=>cond (x.plain&&Nat.beq x.cells.length n&&Nat.ble (o+n) z.length) (zf (mP z o x.cells) pl xs) none
 | _,_=>none
theorem TV.kb (x:TV) (h:x.plain=true):x.av.cells=x.cells.map TV.av:=by
 cases x <;> first | rfl | cases h | skip
 ·simp [TV.av,AV.cells,TV.cells,TV.gj]
theorem TV.mo (x:TV) (h:x.plain=true):x.av.plain=true:=by
 cases x <;> first | rfl | cases h | exact h | skip
theorem TV.yV (x:TV) (h:x.plain=true):x.av.pj=x.pj:=by
 cases x <;> first | rfl | cases h
theorem nH {cs:List TV} {o n:Nat} {agg:Bool} {x:TV} (h:qN cs o n agg=some x):gS (cs.map TV.av) o n agg=some x.av:=by
 cases agg with
 | true =>
  simp only [qN] at h
  cases hb:Nat.ble (o+n) cs.length with
  | false=>rw [hb] at h;cases h
  | true =>
   rw [hb] at h
   cases h
   simp only [gS,if_true,aN,Nat.le_of_ble_eq_true hb,TV.av,TV.gj]
   simp [List.map_take,List.map_drop]
 | false =>
  simp only [qN] at h
  simp only [gS,bk,if_false,aL,h]
  rfl
theorem mO (cs xs:List TV) (o:Nat):(mP cs o xs).map TV.av=gR (cs.map TV.av) o (xs.map TV.av):=by
 simp [mP,gR,List.map_take,List.map_drop]
theorem wX:∀{pl:List (Nat × Nat)} {z xs cs:List TV},zf z pl xs=some cs→lV (z.map TV.av) pl (xs.map TV.av)=some (cs.map TV.av)
 | [],z,[],cs,h=>by cases h;rfl
 | (o,n) :: pl,z,x :: xs,cs,h=>by
  simp only [zf] at h
  cases hb:(x.plain&&Nat.beq x.cells.length n&&Nat.ble (o+n) z.length) with
  | false=>rw [hb] at h;cases h
  | true =>
   rw [hb] at h
   simp only [ae] at hb
   obtain ⟨⟨h1,h2⟩,h3⟩:=hb
   have h2:=ay h2
   have h3:=Nat.le_of_ble_eq_true h3
   simp only [ak,lV,TV.mo x h1,TV.kb x h1,aN,h2,h3,and_self,if_true]
   rw [←mO]
   exact wX h
 | [],z,_ :: _,cs,h=>by cases h
 | _ :: _,z,[],cs,h=>by cases h
def rD (e:TV) (o n:Nat) (agg:Bool):Option TV :=
 match e with
 | .ag cs=>qN cs o n agg
 | x=>cond (Nat.beq o 0&&Nat.beq n 1&&!agg) (some x) none
def uG (e:TV) (o:Nat) (x:TV):Option TV :=
 match e with
 | .ag cs=>cond (Nat.ble (o+x.cells.length) cs.length) (some (.ag (mP cs o x.cells))) none
 | _=>cond (Nat.beq o 0&&!x.pj) (some x) none
theorem xK {e x:TV} {o n:Nat} {agg:Bool} (he:e.plain=true) (h:rD e o n agg=some x):pa e.av o n agg=some x.av:=by
 cases e <;> first | cases he | skip
 case ag cs=>simp only [rD] at h;simp only [TV.av,TV.gj,pa];exact nH h
 all_goals
  simp only [rD] at h
  cases hb:(Nat.beq o 0&&Nat.beq n 1&&!agg) with
  | false=>rw [hb] at h;cases h
  | true =>
   rw [hb] at h
   cases h
   simp only [ae,Bool.not_eq_true'] at hb
   obtain ⟨⟨h1,h2⟩,h3⟩:=hb
   have h1:=ay h1
   have h2:=ay h2
   simp [pa,TV.av,fQ,jU,iE,h1,h2,h3]
theorem zK {e x y:TV} {o:Nat} (he:e.plain=true) (hx:x.plain=true) (h:uG e o x=some y):sf e.av o x.av=some y.av:=by
 cases e <;> first | cases he | skip
 case ag cs =>
  simp only [uG] at h
  cases hb:Nat.ble (o+x.cells.length) cs.length with
  | false=>rw [hb] at h;cases h
  | true =>
   rw [hb] at h
   cases h
   simp only [TV.av,TV.gj,sf,TV.kb x hx,aN,Nat.le_of_ble_eq_true hb,if_true,mO]
 all_goals
  simp only [uG] at h
  cases hb:(Nat.beq o 0&&!x.pj) with
  | false=>rw [hb] at h;cases h
  | true =>
   rw [hb] at h
   cases h
   simp only [ae,Bool.not_eq_true'] at hb
   have h1:=ay hb.1
   have h2:=TV.yV _ hx
   rw [hb.2] at h2
   simp [sf,TV.av,fQ,jU,iE,h1,h2]
theorem eJ.vD (t:eJ) (x:t.El):(t.tv x).plain=true:=by cases t <;> rfl
def eJ.app:(t:eJ)→List t.El→(t':eJ)→List t'.El→Option (List t.El)
 | .bs,l,.bs,m=>some (l++m)
 | .is,l,.is,m=>some (l++m)
 | .ws,l,.ws,m=>some (l++m)
 | .ss,l,.ss,m=>some (l++m)
 | .DC,l,.DC,m=>some (l++m)
 | .fl,l,.fl,m=>some (l++m)
 | .ml,l,.ml,m=>some (l++m)
 | .il,l,.il,m=>some (l++m)
 | .sp,l,.sp,m=>some (l++m)
 | .ou,l,.ou,m=>some (l++m)
 | _,_,_,_=>none
theorem eJ.yr {t t':eJ} {l n:List t.El} {m:List t'.El} (h:t.app l t' m=some n):t'=t∧n.map t.av=l.map t.av++m.map t'.av∧n.length=l.length+m.length:=by
 unfold eJ.app at h
 split at h <;> cases h <;> simp
def eJ.LX (t:eJ):List TV→Option (List t.El)
 | []=>some []
 | x :: r=>match t.el x with
  | some y=>match t.LX r with
   | some l=>some (y :: l)
   | none=>none
  | none=>none
theorem eJ.mJ (t:eJ) (x:t.El):(t.av x).plain=true∧(t.av x).cells.length=t.size:=by
 cases t with
 | fl=>cases x;exact ⟨rfl,rfl⟩
 | ml=>cases x;exact ⟨rfl,rfl⟩
 | il=>cases x;exact ⟨rfl,rfl⟩
 | _=>exact ⟨rfl,rfl⟩
theorem eJ.C2 {t:eJ}:∀{xs:List TV} {l:List t.El},t.LX xs=some l→l.map t.av=xs.map TV.av∧∀x∈xs.map TV.av,x.plain=true∧x.cells.length=t.size
 | [],l,h=>by cases h;exact ⟨rfl,by simp⟩
 | x :: r,l,h=>by
  simp only [eJ.LX] at h
  split at h
  ·rename_i y hy
   split at h
   ·rename_i m hm
    cases h
    obtain ⟨h1,h2⟩:=eJ.C2 hm
    refine ⟨by simp [eJ.C3 hy,h1],?_⟩
    intro z hz
    simp only [ak,bq] at hz
    rcases hz with rfl | hz
    ·rw [←eJ.C3 hy];exact t.mJ y
    ·exact h2 z hz
   ·cases h
  ·cases h
def allM {A:Type} (f:TV→Option A):List TV→Option (List A)
 | []=>some []
 | x :: r=>match f x with
  | some y=>match allM f r with
   | some l=>some (y :: l)
   | none=>none
  | none=>none
theorem lA {A:Type} {f:TV→Option A} {g:A→TV} (hf:∀x y,f x=some y→x=g y):∀{xs:List TV} {l:List A},allM f xs=some l→xs=l.map g
 | [],l,h=>by cases h;rfl
 | x :: r,l,h=>by
  simp only [allM] at h
  split at h
  ·rename_i y hy
   split at h
   ·rename_i m hm
    cases h
    rw [hf _ _ hy,lA hf hm];rfl
   ·cases h
  ·cases h
def TV.str?:TV→Option bS | .s l=>some l | _=>none
def TV.i64?:TV→Option Int | .i .i64 l=>some l | _=>none
def TV.u8?:TV→Option UInt8 | .u8 l=>some l | _=>none
def TV.u64?:TV→Option UInt64 | .u64 l=>some l | _=>none
def TV.bool?:TV→Option Bool | .b l=>some l | _=>none
def TV.sl? (t:eJ):TV→Option (List t.El)
 | .sl t' l=>if h:t'=t then some (h ▸ l) else none
 | _=>none
def Dx (cs:List TV) (n:Nat):Option TV :=
 match cs with
 | .s _ :: _=>match allM TV.str? cs with | some l=>some (.s (l.getD n [])) | none=>none
 | .i _ _ :: _=>match allM TV.i64? cs with | some l=>some (.i .i64 (l.getD n 0)) | none=>none
 | .u8 _ :: _=>match allM TV.u8? cs with | some l=>some (.u8 (l.getD n 0)) | none=>none
 | .u64 _ :: _=>match allM TV.u64? cs with | some l=>some (.u64 (l.getD n 0)) | none=>none
 | .b _ :: _=>match allM TV.bool? cs with | some l=>some (.b (l.getD n false)) | none=>none
 | .sl t _ :: _=>match allM (TV.sl? t) cs with | some l=>some (.sl t (l.getD n [])) | none=>none
 | _=>none
theorem vm {cs:List TV} {n:Nat} {x:TV} (h:Dx cs n=some x) (hn:n<cs.length):cs[n]?=some x:=by
 unfold Dx at h
 split at h
 ·split at h
  ·rename_i l hl
   have:=lA (g := .s) (fun x y h=>by cases x <;> simp [TV.str?] at h;rw [h]) hl
   cases h
   rw [this] at hn ⊢
   have Ac:n<l.length:=by simpa using hn
   simp [aG,aE Ac]
  ·cases h
 ·split at h
  ·rename_i l hl
   have:=lA (g := .i .i64) (fun x y h=>by
    cases x <;> simp [TV.i64?] at h
    rename_i k m
    cases k <;> simp at h
    rw [h]) hl
   cases h
   rw [this] at hn ⊢
   have Ac:n<l.length:=by simpa using hn
   simp [aG,aE Ac]
  ·cases h
 ·split at h
  ·rename_i l hl
   have:=lA (g := .u8) (fun x y h=>by cases x <;> simp [TV.u8?] at h;rw [h]) hl
   cases h
   rw [this] at hn ⊢
   have Ac:n<l.length:=by simpa using hn
   simp [aG,aE Ac]
  ·cases h
 ·split at h
  ·rename_i l hl
   have:=lA (g := .u64) (fun x y h=>by cases x <;> simp [TV.u64?] at h;rw [h]) hl
   cases h
   rw [this] at hn ⊢
   have Ac:n<l.length:=by simpa using hn
   simp [aG,aE Ac]
  ·cases h
 ·split at h
  ·rename_i l hl
   have:=lA (g := .b) (fun x y h=>by cases x <;> simp [TV.bool?] at h;rw [h]) hl
   cases h
   rw [this] at hn ⊢
   have Ac:n<l.length:=by simpa using hn
   simp [aG,aE Ac]
  ·cases h
 ·rename_i t _ _
  split at h
  ·rename_i l hl
   have:=lA (g := .sl t) (fun x y h=>by
    cases x <;> simp [TV.sl?] at h
    obtain ⟨rfl,h⟩:=h
    subst h;rfl) hl
   cases h
   rw [this] at hn ⊢
   have Ac:n<l.length:=by simpa using hn
   simp [aG,aE Ac]
  ·cases h
 ·cases h
def H9 (s m j:Nat) (cs:List TV):List TV:=(List.range m).map fun q=>cs.getD (q * s+j) .dead
def xi (s m n:Nat) (cs:List TV):Nat→Option (List TV)
 | 0=>some []
 | j+1=>match Dx (H9 s m (s - (j+1)) cs) n with
  | some x=>match xi s m n cs j with
   | some xs=>some (x :: xs)
   | none=>none
  | none=>none
theorem xh {s m n:Nat} {cs:List TV} (hl:m * s=cs.length) (hn:n<m):∀(j:Nat) {xs:List TV},j≤s→xi s m n cs j=some xs→xs=(cs.drop (n * s+(s - j))).take j
 | 0,xs,_,h=>by simp [xi] at h;simp [h]
 | j+1,xs,hj,h=>by
  simp only [xi] at h
  split at h
  ·rename_i x hx
   split at h
   ·rename_i ys hy
    cases h
    have h1:=xh hl hn j (by omega) hy
    have h2:=vm hx (by simpa [H9] using hn)
    have gM:n * s+(s - (j+1))<cs.length:=by
     have:(n+1) * s≤m * s:=bu _ hn
     rw [Nat.succ_mul] at this;omega
    have e:x=cs[n * s+(s - (j+1))]:=by
     simp only [H9,aL,List.getElem?_range hn,Option.map_some,ax] at h2
     rw [←h2,aG,aE gM];rfl
    rw [h1,List.drop_eq_getElem_cons gM,List.take_succ_cons,e,show n * s+(s - (j+1))+1=n * s+(s - j) by omega]
   ·cases h
  ·cases h
def kJ (n:Nat):Bool:=decide (n≤maxLen)
def eK (n:Int) (l:Nat):Bool:=decide (0≤n)&&decide (n<l)
def ja (a b:Int) (l:Nat):Bool:=decide (0≤a)&&decide (a≤b)&&decide (b≤l)
def fS (n mZ:Nat):Bool:=decide (n≤maxLen)&&decide (n * mZ≤140737488355328)
def Hh (l c:Int) (mZ:Nat):Bool:=decide (0≤l)&&decide (l≤c)&&decide (c * mZ≤140737488355328)&&decide (c≤maxLen)
def TV.bare:TV→TV
 | .gd _ x=>x
 | x=>x
def TV.Gf:TV→Option Bool
 | .gd q _=>some q
 | _=>none
theorem TV.zo {x:TV} (h:∀q,x.Gf=some q→q=true):x.bare.av=x.av:=by
 cases x <;> first | rfl | skip
 rename_i q x
 have:=h q rfl
 subst this
 rfl
def BA (t:Bool) (x y:TV):Option TV :=
 match x,y with
 | .b a,.b b=>some (.b (cond t a b))
 | .i k a,.i k' b=>if k=k' then some (.i k (cond t a b)) else none
 | .u8 a,.u8 b=>some (.u8 (cond t a b))
 | .u16 a,.u16 b=>some (.u16 (cond t a b))
 | .u32 a,.u32 b=>some (.u32 (cond t a b))
 | .u64 a,.u64 b=>some (.u64 (cond t a b))
 | .s a,.s b=>some (.s (cond t a b))
 | _,_=>none
theorem Bz {t:Bool} {x y z:TV} (h:BA t x y=some z):z.av=if t then x.av else y.av:=by
 unfold BA at h
 split at h <;> first | (cases h <;> cases t <;> rfl) | skip
 ·split at h
  ·rename_i e;subst e;cases h;cases t <;> rfl
  ·cases h
def BC (t:Bool) (x y:TV):kT :=
 match BA t x.bare y.bare with
 | some z=>match x.Gf,y.Gf with
  | none,none => .ok [z]
  | some p,none => .fJ (!t || p) [z]
  | none,some q => .fJ (t || q) [z]
  | some p,some q => .fJ (cond t p q) [z]
 | none => .err
theorem BB (t : Bool) (x y : TV) : (BC t x y).wO (fun z => z = if t then x.av else y.av) := by
  intro ws h
  unfold BC at h
  split at h
  · rename_i z hz
    have hz := Bz hz
    cases x <;> cases y <;> simp only [TV.Gf, TV.bare] at h hz <;> first
      | (cases h; exact ⟨_, rfl, hz⟩)
      | (obtain ⟨hp, rfl⟩ := h
         refine ⟨_, rfl, hz.trans ?_⟩
         cases t <;> simp at hp <;> simp [TV.av, hp])
  · exact h.elim
def D9 (x:Option TV):kT:=match x with | some x => .ok [x] | none => .err
def gI (p:Bool) (r:kT):kT:=cond p r .err
theorem db {p:Bool} {r:kT} {ws:List TV} (h:(gI p r).holds ws):p=true∧r.holds ws:=by
 cases p with
 | true=>exact ⟨rfl,h⟩
 | false=>exact h.elim
theorem pb {x:Option TV} {ws:List TV} (h:(D9 x).holds ws):∃y,x=some y∧ws=[y]:=by
 cases x with
 | none=>exact h.elim
 | some y=>exact ⟨y,rfl,h⟩
end Go.Eng
