/- Texts of my own, one behind the other: EngQa, EngQb, EngQc, EngQd, EngQe, EngQf, EngQg, EngQh, EngQi, EngR, EngS, EngT, EngU, EngV, EngW, EngX, EvA, EvB, EvC, EvD. -/
import Derived.Test.YtoadlhkggdbfkaaGreatDoorT1
import Derived.Lib.SliceRun
import Derived.Laws.Externs
import Derived.Deep.LoopGhost
import Derived.ScopeJumps
import Derived.KernelRfl
import Derived.Laws.Strings
set_option linter.unusedVariables false
set_option linter.unusedSimpArgs false
namespace Go.Eng
open Go.RowKit
theorem xj {s:Nat}:∀{es:List AV} {i:Nat} {e:AV},(∀x∈es,x.cells.length=s)→es[i]?=some e→((es.flatMap AV.cells).drop (i * s)).take s=e.cells
 | x :: es,0,e,h,he=>by
  simp at he;subst he
  have:=h x (by simp)
  simp [←this]
 | x :: es,i+1,e,h,he=>by
  have hx:=h x (by simp)
  have ih:=xj (es:=es) (i:=i) (e:=e) (fun y hy=>h y (by simp [hy])) (by simpa using he)
  simp only [List.flatMap_cons]
  rw [show (i+1) * s=x.cells.length+i * s by rw [hx,Nat.succ_mul];omega,←List.drop_drop,List.drop_left]
  exact ih
 | [],_,_,_,he=>by simp at he
theorem zP {s:Nat}:∀{es:List AV},(∀x∈es,x.cells.length=s)→(es.flatMap AV.cells).length=es.length * s
 | [],_=>by simp
 | x :: es,h=>by
  have h1:=h x (by simp)
  have h2:=zP (es:=es) (fun y hy=>h y (List.mem_cons_of_mem _ hy))
  simp only [List.flatMap_cons,aw,aL,Nat.succ_mul,h1,h2]
  omega
theorem xh {s o:Nat}:∀{es:List AV} {i:Nat} {e e':AV} {xs:List AV},(∀x∈es,x.cells.length=s)→es[i]?=some e→e'.cells=gV e.cells o xs→o+xs.length≤s →
  (es.set i e').flatMap AV.cells=gV (es.flatMap AV.cells) (i * s+o) xs
 | x :: es,0,e,e',xs,h,he,h',hl=>by
  simp at he;subst he
  have hx:=h x (by simp)
  simp only [List.set_cons_zero,List.flatMap_cons,h',gV,Nat.zero_mul,Nat.zero_add]
  rw [List.take_append_of_le_length (by omega),List.drop_append_of_le_length (by omega)]
  simp
 | x :: es,i+1,e,e',xs,h,he,h',hl=>by
  have hx:=h x (by simp)
  have ih:=xh (es:=es) (i:=i) (e:=e) (fun y hy=>h y (by simp [hy])) (by simpa using he) h' hl
  simp only [List.set_cons_succ,List.flatMap_cons,ih,gV]
  have e1:(i+1) * s+o=x.cells.length+(i * s+o):=by rw [hx,Nat.succ_mul];omega
  rw [e1,show x.cells.length+(i * s+o)+xs.length=x.cells.length+(i * s+o+xs.length) by omega]
  simp [List.take_append,List.drop_append,List.take_of_length_le,aJ]
 | [],_,_,_,_,_,he,_,_=>by simp at he
theorem uW {e x:AV} {o n:Nat} {agg:Bool} (h:px e o n agg=some x):gW e.cells o n agg=some x:=by
 unfold px at h
 split at h
 ·exact h
 ·rename_i jM
  rw [aB] at h
  obtain ⟨⟨rfl,rfl,rfl⟩,h⟩:=h
  cases h
  have:e.cells=[e]:=by cases e <;> first | rfl | exact (jM _ rfl).elim
  simp [gW,this]
theorem wi {e e' x:AV} {o:Nat} (h:sw e o x=some e'):e'.cells=gV e.cells o x.cells∧o+x.cells.length≤e.cells.length:=by
 unfold sw at h
 split at h
 ·rw [aB] at h
  obtain ⟨h1,h⟩:=h
  cases h
  exact ⟨rfl,h1⟩
 ·rename_i jM
  rw [aB] at h
  obtain ⟨⟨rfl,hx⟩,h⟩:=h
  obtain rfl:=Option.some.inj h
  have h1:e.cells=[e]:=by cases e <;> first | rfl | exact (jM _ rfl).elim
  have h2:x.cells=[x]:=by cases x <;> first | rfl | cases hx
  rw [h1,h2]
  exact ⟨by simp [gV],by simp⟩
section
variable {C:Ctx} {D:kZ} {σ:Sg} {γ:Ga} {a:Act} {w:World}
theorem dZ.uS (h:dZ C D σ γ a w) {key s:Nat} (hk:γ key = .pv s):gD D.R w (D.τ key) s∧iy D.R w (D.τ key) s (σ key):=⟨(h.ps key s (by rw [hk];rfl)).1,(h.ps key s (by rw [hk];rfl)).2.1⟩
theorem dZ.zg (h:dZ C D σ γ a w) {key iL s g:Nat} (hk:γ key = .pv s) (h1:gw D γ key=some g) (h2:gw D γ iL=some g):iL=key:=by
 rcases h.sep key iL g h1 h2 with e | e | e
 ·exact e.symm
 ·rw [hk] at e;cases e
 ·cases hg:γ iL <;> rw [hg] at e <;> first | (cases e;done) | skip
  cases e
  have:=h.inv iL
  rw [hg] at this
  rcases this with e | ⟨s',e⟩ <;> rw [hk] at e <;> cases e
theorem dZ.JD (h:dZ C D σ γ a w) {key s g:Nat} (hk:γ key = .pv s) (hg:(D.τ key).ownBlock=some g) {w':World} (os:w'.os=w.os) (tape:w'.tape=w.tape) (out:w'.output=w.output) (size:w'.heap.size=w.heap.size)
  (hh:∀b,b≠g→w'.heap[b]?=w.heap[b]?) {x:AV} (ht:gD D.R w' (D.τ key) s) (hp:iy D.R w' (D.τ key) s x):dZ C D (dP σ key x) γ a w':=by
 have vu:gw D γ key=some g:=(iG (by rw [hk];rfl)).trans hg
 have qd:∀o,¬D.R g o:=(h.uS hk).2.1 g hg
 have cq:gz D.R w D.R w':=fun b o hr=>⟨hr,World.cell?_of_block (w:=w) (hh b (fun e=>qd o (e ▸ hr)))⟩
 have lQ:1000000≤key:=h.mg key (by rw [hk];rfl)
 have jM:∀iL g',iL≠key→gw D γ iL=some g'→g'≠g:=fun iL g' hn hb e=>hn (h.zg hk vu (e ▸ hb))
 refine ⟨h.size,h.defers,h.km,h.kk,h.mg,fun t vl=>?_,fun m ts hm=>?_,fun iL s' ko=>?_,fun iL s' hs=>?_,h.sep,h.own,h.inv,?_,fun b o hr=>by rw [size];exact h.nF b o hr,fun n=>(h.gl n).mono cq,h.fix⟩
 ·have e:t≠key:=by have:=h.km;omega
  rw [bO _ _ e]
  exact (h.slot t vl).imp id fun ⟨r,g⟩=>⟨r.mono cq,g⟩
 ·have e:m≠key:=fun e=>by subst e;rw [hk] at hm;cases hm
  rw [bO _ _ e]
  obtain ⟨cs,hv,o0⟩:=h.mem m ts hm
  exact ⟨cs,hv.cq cq (hh _ (jM m _ e (iS hm))) hv.Cd,o0⟩
 ·have e:iL≠key:=fun e=>by subst e;rw [hk] at ko;cases ko
  exact (h.fV iL s' ko).cq fun g' mX=>⟨hh g' (jM iL g' e ((iR ko).trans mX)),fun _ hr=>hr⟩
 ·have qc:s8 (dP σ key x) γ iL:=fun d s1 s2 e1 e2=>by
   by_cases e:iL=key
   ·subst e;rw [hk] at e1;cases e1
   ·have e':d≠key:=fun e'=>by subst e';rw [hk] at e2;cases e2
    rw [bO _ _ e,bO _ _ e'];exact (h.ps iL s' hs).2.2 d s1 s2 e1 e2
  by_cases e:iL=key
  ·subst e
   rw [hk] at hs
   cases hs
   rw [bK]
   exact ⟨ht,hp,qc⟩
  ·rw [bO _ _ e]
   obtain ⟨h1,h2,_⟩:=h.ps iL s' hs
   have hb:=fun g' mX=>jM iL g' e ((iG (Gh.pV hs)).trans mX)
   exact ⟨h1.cq fun g' mX=>⟨hh g' (hb g' mX),fun _ hr=>hr⟩,h2.cq cq fun g' mX=>⟨hh g' (hb g' mX),fun _ hr=>hr⟩,qc⟩
 ·have pb:=h.own key g vu
  refine ⟨os.trans h.ext.os,tape.trans h.ext.tape,out.trans h.ext.output,by rw [size];exact h.ext.size,fun b hb hn=>?_,h.ext.cq.trans cq,h.ext.qG⟩
  refine (hh b fun e=>?_).trans (h.ext.heap b hb hn)
  subst e
  rcases pb with lP | lP
  ·exact hn lP
  ·omega
theorem dZ.Ej (h:dZ C D σ γ a w) {d k s:Nat} {v:Value} {x:AV} (hd:d<C.nt) (hk:γ (lk k) = .no) (ht:gD D.R w v s) (hp:iy D.R w v s x) (hg:∀g,v.ownBlock=some g→C.mf g∧∀key,gw D γ key≠some g) :
  dZ C { D with τ:=dP D.τ (lk k) v } (cY σ [d,lk k] [.pt,x]) (cY γ [d,lk k] [.fV k s,.pv s]) (a.put (some d) v) w:=by
 have h1:=h.u0 hk ht hg
 -- from a fV to a private slice
 have h2:dZ C { D with τ:=dP D.τ (lk k) v } (dP σ (lk k) x) (dP γ (lk k) (.pv s)) a w:=by
  have ri:∀j,j≠lk k→dP γ (lk k) (.pv s) j=dP γ (lk k) (.live s) j:=fun j hj=>by rw [bO _ _ hj,bO _ _ hj]
  have hb:∀key,gw { D with τ:=dP D.τ (lk k) v } (dP γ (lk k) (.pv s)) key=gw { D with τ:=dP D.τ (lk k) v } (dP γ (lk k) (.live s)) key:=fun key=>by
   unfold gw
   by_cases e:key=lk k
   ·subst e;rw [bK,bK]
   ·rw [ri _ e]
  have pF:∀key,(dP γ (lk k) (.pv s) key).par=(dP γ (lk k) (.live s) key).par:=fun key=>by
   by_cases e:key=lk k
   ·subst e;rw [bK,bK];rfl
   ·rw [ri _ e]
  have jK:∀key,(dP γ (lk k) (.pv s) key).gq=(dP γ (lk k) (.live s) key).gq:=fun key=>by
   by_cases e:key=lk k
   ·subst e;rw [bK,bK];rfl
   ·rw [ri _ e]
  have lQ:∀key,(dP γ (lk k) (.pv s) key).fL=(dP γ (lk k) (.live s) key).fL:=fun key=>by
   by_cases e:key=lk k
   ·subst e;rw [bK,bK];rfl
   ·rw [ri _ e]
  have hM:∀g,fZ (dP γ (lk k) (.live s)) g→fZ (dP γ (lk k) (.pv s)) g:=fun g hg=>by
   cases g <;> simp only [fZ,jK,lQ] at hg ⊢ <;> first | exact hg | skip
   rename_i q s'
   have e:q≠lk k:=fun e=>by subst e;rw [bK] at hg;rcases hg with e | ⟨_,e⟩ <;> cases e
   rw [ri _ e];exact hg
  have gS:lk k<C.nt→False:=fun hl=>by have:=iu k;have:=h.km;omega
  refine ⟨h1.size,h1.defers,h1.km,fun m hm=>h1.kk m (by rwa [jK] at hm),fun m hm=>h1.mg m (by rwa [lQ] at hm),fun t vl=>?_,fun m ts hm=>?_,fun key s' ko=>?_,fun key s' hs=>?_,fun p q g jV hq=>(by rw [pF,pF];exact h1.sep p q g (by rwa [hb] at jV) (by rwa [hb] at hq)),fun p g jV=>h1.own p g (by rwa [hb] at jV),fun key=>?_,h1.ext,h1.nF,h1.gl,h1.fix.of rfl (fun jV=>by
   have e:lk 999999≠lk k:=fun e=>by rw [e,bK] at jV;cases jV
   rw [ri _ e];exact ⟨jV,rfl⟩)⟩
  ·have e:t≠lk k:=fun e=>gS (e ▸ vl)
   rw [bO _ _ e,ri _ e];exact h1.slot t vl
  ·have e:m≠lk k:=fun e=>by subst e;rw [bK] at hm;cases hm
   rw [ri _ e] at hm
   rw [bO _ _ e];exact h1.mem m ts hm
  ·have e:key≠lk k:=fun e=>by subst e;rw [bK] at ko;cases ko
   rw [ri _ e] at ko;exact h1.fV key s' ko
  ·have qc:s8 (dP σ (lk k) x) (dP γ (lk k) (.pv s)) key:=fun d s1 s2 e1 e2=>by
    have e:key≠lk k:=fun e=>by subst e;rw [bK] at e1;cases e1
    have e':d≠lk k:=fun e'=>by subst e';rw [bK] at e2;cases e2
    rw [ri _ e] at e1;rw [ri _ e'] at e2
    rw [bO _ _ e,bO _ _ e'];exact (h1.ps key s1 (by rw [e1];rfl)).2.2 d s1 s2 e1 e2
   by_cases e:key=lk k
   ·subst e
    rw [bK] at hs
    cases hs
    simp only [bK]
    exact ⟨ht,hp,qc⟩
   ·rw [ri _ e] at hs
    rw [bO _ _ e];exact ⟨(h1.ps key s' hs).1,(h1.ps key s' hs).2.1,qc⟩
  ·by_cases e:key=lk k
   ·subst e;rw [bK];trivial
   ·rw [ri _ e];exact hM _ (h1.inv key)
 refine h2.put (g := .fV k s) hd (.inr ⟨.pt _,?_⟩) rfl rfl ?_
 ·intro _;show v=dP D.τ (lk k) v (lk k)∧v.oneCell'=true
  rw [bK]
  exact ⟨rfl,by rcases ht with rfl | ⟨_,_,_,_,_,_,rfl,_⟩ <;> rfl⟩
 ·show (dP γ (lk k) (.pv s) (lk k)).fL=true
  rw [bK];rfl
end
end Go.Eng
namespace Go.Eng
open Go.RowKit
theorem vV {cur:Array Value} {ys:List Value} (h:∀(j:Nat) (y:Value),ys[j]?=some y→cur[j]?=some y):cur.toList.take ys.length=ys:=by
 apply List.ext_getElem?
 intro j
 rw [aT]
 split
 ·rename_i hj
  have:=h j ys[j] (aD hj)
  rw [aD hj]
  simpa using this
 ·rename_i hj
  exact (List.getElem?_eq_none (by omega)).symm
section
variable {C:Ctx} {D:kZ} {σ:Sg} {γ:Ga} {a:Act} {w:World} {o:Oper} {d:Nat} {K:Act→World→Prop} {Q:Exit→Act→World→Prop}
theorem dZ.Na (h:dZ C D σ γ a w) {k s:Nat} {es:List AV} (h9:k≠999999) (hk:γ (lk k) = .pv s) (hx:σ (lk k) = .sl s es) :
  ∃R',dZ C { D with R:=R' } (dP σ (lk k) .dead) (dP γ (lk k) (.live s)) a w∧Rep R' w (.sl s es) (D.τ (lk k))∧gz D.R w R' w:=by
 obtain ⟨ht,AE,pG⟩:=h.uS hk
 rw [hx] at pG
 have pG:=pG.resolve_left (by simp)
 obtain ⟨LW,he,ub,hp⟩:=pG
 cases he
 have vu:gw D γ (lk k)=(D.τ (lk k)).ownBlock:=iG (by rw [hk];rfl)
 let R':Reach:=fun b o=>D.R b o∨((D.τ (lk k)).ownBlock=some b∧o<es.length * s)
 have cq:gz D.R w R' w:=fun b o hr=>⟨.inl hr,rfl⟩
 have jM:∀iL g,iL≠lk k→gw D γ iL=some g→∀o,R' g o→D.R g o:=fun iL g hn hb o hr=>by
  rcases hr with hr | ⟨hr,_⟩
  ·exact hr
  ·exact (hn (h.zg hk (vu.trans hr) hb)).elim
 have ri:∀j,j≠lk k→dP γ (lk k) (.live s) j=γ j:=fun j hj=>bO _ _ hj
 have hb:∀key,gw { D with R:=R' } (dP γ (lk k) (.live s)) key=gw D γ key:=fun key=>by
  unfold gw
  by_cases e:key=lk k
  ·subst e;rw [bK,hk]
  ·rw [ri _ e]
 have pF:∀key,(dP γ (lk k) (.live s) key).par=(γ key).par:=fun key=>by
  by_cases e:key=lk k
  ·subst e;rw [bK,hk];rfl
  ·rw [ri _ e]
 have jK:∀key,(dP γ (lk k) (.live s) key).gq=(γ key).gq:=fun key=>by
  by_cases e:key=lk k
  ·subst e;rw [bK,hk];rfl
  ·rw [ri _ e]
 have lQ:∀key,(dP γ (lk k) (.live s) key).fL=(γ key).fL:=fun key=>by
  by_cases e:key=lk k
  ·subst e;rw [bK,hk];rfl
  ·rw [ri _ e]
 have hM:∀g,fZ γ g→fZ (dP γ (lk k) (.live s)) g:=fun g hg=>by
  cases g <;> simp only [fZ,jK,lQ] at hg ⊢ <;> first | exact hg | skip
  rename_i q s'
  have e:q≠lk k:=fun e=>by subst e;rcases hg with e | ⟨_,e⟩ <;> rw [hk] at e <;> cases e
  rw [ri _ e];exact hg
 have gS:lk k<C.nt→False:=fun hl=>by have:=iu k;have:=h.km;omega
 refine ⟨R',⟨h.size,h.defers,h.km,fun m hm=>h.kk m (by rwa [jK] at hm),fun m hm=>h.mg m (by rwa [lQ] at hm),fun t vl=>?_,fun m ts hm=>?_,fun key s' ko=>?_,fun key s' hs=>?_,fun p q g jV hq=>(by rw [pF,pF];exact h.sep p q g (by rwa [hb] at jV) (by rwa [hb] at hq)),fun p g jV=>h.own p g (by rwa [hb] at jV),fun key=>?_,?_,fun b o hr=>?_,fun n=>(h.gl n).mono cq,h.fix.of rfl (fun hp=>by
  have e:lk 999999≠lk k:=fun e=>h9 (j7 e).symm
  rw [bO _ _ e];exact ⟨hp,rfl⟩)⟩,?_,cq⟩
 ·have e:t≠lk k:=fun e=>gS (e ▸ vl)
  rw [bO _ _ e,ri _ e]
  exact (h.slot t vl).imp id fun ⟨r,g⟩=>⟨r.mono cq,fun hs=>by have g:=g hs;cases hg:γ t <;> rw [hg] at g <;> exact g⟩
 ·have e:m≠lk k:=fun e=>by subst e;rw [bK] at hm;cases hm
  rw [ri _ e] at hm
  rw [bO _ _ e]
  obtain ⟨cs,hv,o0⟩:=h.mem m ts hm
  exact ⟨cs,hv.cq cq rfl (fun o hr=>hv.Cd o (jM m _ e (iS hm) o hr)),o0⟩
 ·by_cases e:key=lk k
  ·subst e
   rw [bK] at ko
   cases ko
   rcases hp with ⟨rfl,e0⟩ | ⟨g,cap,cur,e,fz,e0,hg,hL⟩
   ·exact .inl e0
   ·rcases ht with e1 | ⟨g',n,yG,nr,e',MN,e1,h1,h2,h3,h4,h5,h6⟩
    ·rw [e0] at e1;cases e1
    ·refine .inr ⟨g',n,yG,nr,e',MN,e1,h1,h2,h3,h4,h5,fun o ho hr=>?_⟩
     rcases hr with hr | ⟨_,hr⟩
     ·exact h6 o ho hr
     ·rw [e0] at e1;cases e1;omega
  ·rw [ri _ e] at ko
   exact (h.fV key s' ko).cq fun g hg=>⟨rfl,jM key g e ((iR ko).trans hg)⟩
 ·have e:key≠lk k:=fun e=>by subst e;rw [bK] at hs;cases hs
  rw [ri _ e] at hs
  rw [bO _ _ e]
  obtain ⟨h1,h2,h3⟩:=h.ps key s' hs
  have xa:=fun g hg=>jM key g e ((iG (Gh.pV hs)).trans hg)
  refine ⟨h1.cq fun g hg=>⟨rfl,xa g hg⟩,h2.cq cq fun g hg=>⟨rfl,xa g hg⟩,fun d s1 s2 e1 e2=>?_⟩
  have e':d≠lk k:=fun e'=>by subst e';rw [bK] at e2;cases e2
  rw [ri _ e] at e1;rw [ri _ e'] at e2
  rw [bO _ _ e,bO _ _ e'];exact h3 d s1 s2 e1 e2
 ·by_cases e:key=lk k
  ·subst e;rw [bK];trivial
  ·rw [ri _ e];exact hM _ (h.inv key)
 ·refine ⟨h.ext.os,h.ext.tape,h.ext.output,h.ext.size,h.ext.heap,h.ext.cq.trans cq,fun b o hr=>?_⟩
  rcases hr with hr | ⟨hr,_⟩
  ·exact h.ext.qG b o hr
  ·rcases h.own (lk k) b (vu.trans hr) with e | e
   ·exact .inr (.inr e)
   ·exact .inr (.inl e)
 ·rcases hr with hr | ⟨hr,_⟩
  ·exact h.nF b o hr
  ·exact ht.lt hr
 ·rcases hp with ⟨rfl,e0⟩ | ⟨g,cap,cur,e,fz,e0,hg,hL⟩
  ·rw [e0];exact .nil s
  ·have tm:es.length≤cap∧cap≤maxLen∧cur.size=cap * s:=by
    rcases ht with e1 | ⟨g',n,yG,nr,e',MN,e1,h1,h2,h3,h4,h5,h6⟩
    ·rw [e0] at e1;cases e1
    ·rw [e0] at e1;cases e1
     rw [hg] at h1;cases h1
     exact ⟨h4,h5,h3⟩
   have hle:es.length * s≤cap * s:=bu _ tm.1
   rw [e0]
   refine .sl rfl tm.1 tm.2.1 (jf.write ub (hL.mono cq) (fun j hj => .inr ⟨by rw [e0];rfl,by omega⟩) fun j y hy=>?_)
   rw [aT] at hy
   split at hy
   ·simp only [World.cell?,hg,Nat.zero_add]
    simpa using hy
   ·cases hy
variable (h:dZ C D σ γ a w) (hl:d<C.nt)
include h
theorem He (hd:o.dst=some d) (hl:d<C.nt) {x:Operand} {r:eI} {t u e:TypeId} {b:ByteArray} {k:Nat} (ho:o.op = .convert t u x) (ht:C.P.underlying t=some .string) (hu:C.P.underlying u=some (.slice e)) (he:C.P.underlying e=some (.int .u8))
  (hx:dv x r=true) (iw:small C.nt [x]=true) (hr:r.ev C.E σ = .v (.string b)) (hb:b.data.toList.length≤maxLen) (hk:γ (lk k) = .no)
  (hK:∀D' a' w',dZ C D' (cY σ [d,lk k] [.pt,.sl 1 (b.data.toList.map fT)]) (cY γ [d,lk k] [.fV k 1,.pv 1]) a' w'→K a' w'):o.wp C.P a w K Q:=by
 have e1:=(h.jz hx iw).rep (by rw [hr];simp)
 rw [hr] at e1
 have eh:=run_bytes_of_string (P:=C.P) w t u e b ht hu he
 have zF:=grownCap_ge w b.size 0 e
 have hle:=grownCap_le_maxLen w b.size 0 e (by rwa [bsize] at hb)
 let cur:=bytesRow b (grownCap w b.size 0 e)
 let w1:World:=w.drew.alloc (.cells cur e (cur.size,cur.size+1))
 have jT:w1.heap[w.heap.size]?=some (.cells cur e (cur.size,cur.size+1)):=by
  show (w.heap.push _)[w.heap.size]?=_
  simp
 have hold:∀c,c<w.heap.size→w1.heap[c]?=w.heap[c]?:=fun c hc=>by
  show (w.heap.push _)[c]?=_
  rw [Array.getElem?_push,aj (by omega)]
 have hS:dZ C { D with R:=D.R } σ γ a w1:=h.grow (w':=w1) (R':=D.R) rfl rfl rfl (by show _≤(w.heap.push _).size;simp) hold (fun _ _ h=>h) (fun _ _ h => .inl h) (fun c q hr=>by
  show c<(w.heap.push _).size
  have:=h.nF c q hr
  simp;omega)
 have qd:∀q,¬D.R w.heap.size q:=fun q hr=>by have:=h.nF _ q hr;omega
 have rE:cur.size=grownCap w b.size 0 e * 1:=by
  have:b.data.size=b.size:=rfl
  simp only [cur,bytesRow,Array.size_append,Array.size_map,Array.size_replicate,this];omega
 have IC:cur.toList.take (b.data.toList.map fT).length=b.data.toList.map fun x => .int .u8 x.toNat:=by
  have:=vV (cur:=cur) (ys:=b.data.toList.map fun x => .int .u8 x.toNat) (fun j y hj=>by
   have gS:=(aE.1 hj).1
   simp only [cur]
   unfold bytesRow
   rw [Array.getElem?_append_left (by simp at gS ⊢;exact gS)]
   simpa using hj)
  simpa using this
 unfold Oper.wp
 rw [show (execOp a.eval o).run C.P w = .ok (.value (.slice (some ⟨w.heap.size,0,none⟩) b.size (grownCap w b.size 0 e))) w1 by simp only [execOp,ho,e1.iB,Sem.run_bind,eh,Result.andThen_ok,Sem.run_pure];rfl,Oper.upon_value,hd]
 refine hK _ _ _ (dZ.Ej hS hl hk (.inr ⟨_,_,_,_,_,_,rfl,jT,by simp only;intro q hq;omega,rE,zF,hle,fun q _=>qd q⟩) ⟨fun g hg q=>?_,.inr ⟨_,rfl,?_,.inr ⟨w.heap.size,grownCap w b.size 0 e,cur,e,(cur.size,cur.size+1),by rw [aQ,bsize],jT,?_⟩⟩⟩ fun g hg=>?_)
 ·simp [Value.ownBlock] at hg;subst hg;exact qd q
 ·intro x hx;obtain ⟨y,_,rfl⟩:=aW.1 hx;rfl
 ·rw [Nat.mul_one,IC,kQ];exact ns _
 ·simp [Value.ownBlock] at hg
  subst hg
  exact ⟨.inr h.ext.size,fun key hk=>by have:=h.lt hk;omega⟩
omit hl in
theorem dZ.G4 {j:Nat} {s:AV} {g:Gh} (hj:j<C.nt) (hs:lM D w s g (a.tmps.getD j undef)) (g1:g.gq=false) (g2:g.fL=false) (gm:fZ γ g):dZ C D (dP σ j s) (dP γ j g) a w:=by
 have:=h.put hj hs g1 g2 gm
 have rE:j<a.tmps.size:=by rw [h.size];exact hj
 have e:a.put (some j) (a.tmps.getD j undef)=a:=by
  unfold Act.put
  simp only
  have:a.tmps.setIfInBounds j (a.tmps.getD j undef)=a.tmps:=by
   apply Array.ext
   ·simp
   ·intro i h1 h2
    rw [Array.getElem_setIfInBounds h2]
    split
    ·rename_i e;subst e;simp [Array.getD,rE]
    ·rfl
  rw [this]
 rwa [e] at this
theorem Hj {k:Nat} (h9:k≠999999) (hd:o.dst=some d) (hl:d<C.nt) {x:Operand} {j s s0:Nat} {es:List AV} (ho:o.op = .move x∨o.op = .assign x) (hx:dv x (.s j)=true) (hj:j<C.nt) (hr:σ j = .pt) (hg:γ j = .fV k s0)
  (hk:γ (lk k) = .pv s) (ny:σ (lk k) = .sl s es) (hK:∀D' a' w',dZ C D' (cY σ [d,j,lk k] [.sl s es,.sl s es,.dead]) (cY γ [d,j,lk k] [.fV k s,.fV k s,.live s]) a' w'→K a' w'):o.wp C.P a w K Q:=by
 have Px:x = .tmp j:=by cases x <;> simp [dv] at hx;rw [hx]
 have iw:small C.nt [x]=true:=by rw [Px];simp [small,hj]
 have e0:=h.jz hx iw
 have hv:=e0.gh (by simp only [eI.ev];rw [hr];simp) (by simp only [eI.ev];rw [hr];simp)
 simp only [eI.gh] at hv
 rw [hg] at hv
 obtain ⟨hv1,hv2⟩:=hv
 have Gn:a.eval x=a.tmps.getD j undef:=by rw [Px];rfl
 have eh:(execOp a.eval o).run C.P w = .ok (.value (a.eval x)) w:=by rcases ho with e | e <;> simp [execOp,e]
 obtain ⟨R',hS,hR,_⟩:=h.Na h9 hk ny
 have Lm:(dP γ (lk k) (.live s) (lk k)).fL=true:=by rw [bK];rfl
 have E4:=hS.G4 (g := .fV k s) hj (.inr ⟨by rw [←Gn,hv1];exact hR,fun _=>⟨Gn ▸ hv1,Gn ▸ hv2⟩⟩) rfl rfl Lm
 have Rp:lk k≠j:=by have:=iu k;have:=h.km;omega
 unfold Oper.wp
 rw [eh,Oper.upon_value,hd]
 refine hK _ _ _ (E4.put (g := .fV k s) hl (.inr ⟨by rw [hv1];exact hR,fun _=>⟨hv1,hv2⟩⟩) rfl rfl ?_)
 show (dP (dP γ (lk k) (.live s)) j (.fV k s) (lk k)).fL=true
 rw [bO _ _ Rp];exact Lm
theorem Hg (hd:o.dst=some d) (hl:d<C.nt) {x:Operand} {r:eI} {t e:TypeId} {k s s' s0:Nat} {es:List AV} (ho:o.op = .call { callee := .builtin .len,args:=#[x],argTypes:=#[t] }) (ht:C.P.underlying t=some (.slice e)) (hx:dv x r=true) (iw:small C.nt [x]=true)
  (hr:r.ev C.E σ = .pt) (hg:r.gh γ = .fV k s0) (hk:γ (lk k) = .pv s) (ny:σ (lk k) = .sl s' es) (hK:∀D' a' w',dZ C D' (dP σ d (.v (.int .i64 es.length))) (dP γ d .no) a' w'→K a' w'):o.wp C.P a w K Q:=by
 have e0:=h.jz hx iw
 have hv:=e0.gh (by rw [hr];simp) (by rw [hr];simp)
 rw [hg] at hv
 obtain ⟨_,_,pG⟩:=h.uS hk
 rw [ny] at pG
 obtain ⟨LW,he,_,hp⟩:=pG.resolve_left (by simp)
 cases he
 have hval:∃q cap,a.eval x = .slice q es.length cap:=by
  rw [hv.1]
  rcases hp with ⟨rfl,e0⟩ | ⟨g,cap,cur,e,fz,e0,_⟩
  ·exact ⟨_,_,e0⟩
  ·exact ⟨_,_,e0⟩
 obtain ⟨q,cap,hval⟩:=hval
 have eh:(execOp a.eval o).run C.P w = .ok (.value (.int .i64 es.length)) w:=by
  simp [execOp,ho,hval,resolve,invoke,builtin,Builtin.len_,run_underlying ht,goInt]
 exact h.ir hd hl eh (.v _) hK
omit h hl in
theorem Rep.yx {R:Reach} {w:World} {i s o:Nat} {y:Value} (h:Rep R w (.el i s o) y):∃b,y = .pointer (some ⟨b,i * s+o,none⟩):=by
 cases h with
 | el _ _ _ b=>exact ⟨b,rfl⟩
theorem Hi (hd:o.dst=some d) (hl:d<C.nt) {x y:Operand} {r q:eI} {t e:TypeId} {inf:TypeInfo} {s s0:Nat} {es:List AV} {k:Nat} {ik:IntKind} {i:Int} (ho:o.op = .indexAddr t x y) (ht:C.P.underlying t=some (.slice e)) (hi:C.P.info? e=some inf) (hz:inf.size=s)
  (hx:dv x r=true) (hy:dv y q=true) (iw:small C.nt [x]=true) (pE:small C.nt [y]=true)
  (hr:r.ev C.E σ = .pt) (hg:r.gh γ = .fV k s0) (hk:γ (lk k) = .pv s) (ny:σ (lk k) = .sl s es) (hq:q.ev C.E σ = .v (.int ik i)) (h0:0≤i) (gS:i.toNat<es.length)
  (hK:∀D' a' w',dZ C D' (dP σ d (.el i.toNat s 0)) (dP γ d (.pe k)) a' w'→K a' w'):o.wp C.P a w K Q:=by
 have e0:=h.jz hx iw
 have hv:=e0.gh (by rw [hr];simp) (by rw [hr];simp)
 rw [hg] at hv
 have e2:=(h.jz hy pE).rep (by rw [hq];simp)
 rw [hq] at e2
 obtain ⟨_,_,pG⟩:=h.uS hk
 rw [ny] at pG
 obtain ⟨LW,he,_,hp⟩:=pG.resolve_left (by simp)
 cases he
 rcases hp with ⟨rfl,_⟩ | ⟨g,cap,cur,e',fz,e1,_⟩
 ·simp at gS
 ·have hval:a.eval x = .slice (some ⟨g,0,none⟩) es.length cap:=hv.1.trans e1
  have eh:(execOp a.eval o).run C.P w = .ok (.value (.pointer (some ⟨g,i.toNat * s,none⟩))) w:=by
   simp [execOp,ho,hval,e2.iB,Instr.indexAt,asIntOf,run_underlying ht,run_sizeOf hi,hz,h0,gC]
   omega
  refine h.val (g := .pe k) hd hl eh (.inr ⟨.el _ _ 0 _,fun _=>⟨g,_,_,_,e1,rfl⟩⟩) rfl rfl ?_ hK
  show (γ (lk k)).fL=true
  rw [hk];rfl
theorem Hk (hd:o.dst=some d) (hl:d<C.nt) {x:Operand} {r:eI} {t:TypeId} {f k i s o' dd:Nat} {fs:Array Field} {fl:Field} {inf:TypeInfo} (ho:o.op = .fieldAddr t x f) (ht:C.P.underlying t=some (.struct fs)) (hf:fs[f]?=some fl) (wN:fl.offset=dd) (hi:C.P.info? fl.type=some inf) (hn:0<inf.size)
  (hx:dv x r=true) (iw:small C.nt [x]=true) (hr:r.ev C.E σ = .el i s o') (hg:r.gh γ = .pe k) (hK:∀D' a' w',dZ C D' (dP σ d (.el i s (o'+dd))) (dP γ d (.pe k)) a' w'→K a' w'):o.wp C.P a w K Q:=by
 have e0:=h.jz hx iw
 have e1:=e0.rep (by rw [hr];simp)
 have hv:=e0.gh (by rw [hr];simp) (by rw [hr];simp)
 rw [hr] at e1
 rw [hg] at hv
 obtain ⟨b,hb⟩:=Rep.yx e1
 obtain ⟨g,n,cap,q,qb,mX⟩:=hv
 rw [hb] at mX
 cases mX
 have jM:inf.size≠0:=by omega
 have eh:(execOp a.eval o).run C.P w = .ok (.value (.pointer (some ⟨b,i * s+(o'+dd),none⟩))) w:=by
  simp [execOp,ho,hb,Instr.fieldAt,Instr.sureAddr,run_underlying ht,hf,fieldPlace,run_sizeOf hi,jM,gC,wN,Nat.add_assoc]
 have hm:=h.mM r
 rw [hg] at hm
 exact h.val (g := .pe k) hd hl eh (.inr ⟨.el _ _ _ _,fun _=>⟨_,_,_,_,qb,rfl⟩⟩) rfl rfl hm hK
omit hl in
theorem dZ.LX {x:Operand} {r:eI} {k i s o':Nat} {es:List AV} {e:AV} (hx:dv x r=true) (iw:small C.nt [x]=true) (hr:r.ev C.E σ = .el i s o') (hg:r.gh γ = .pe k) (hk:γ (lk k) = .pv s) (ny:σ (lk k) = .sl s es) (he:es[i]?=some e) :
  ∃g cap cur ce fz,D.τ (lk k) = .slice (some ⟨g,0,none⟩) es.length cap∧a.eval x = .pointer (some ⟨g,i * s+o',none⟩)∧w.heap[g]?=some (.cells cur ce fz)∧(∀o,o<cur.size→¬(fz.1≤o∧o<fz.2))∧cur.size=cap * s∧es.length≤cap ∧
   (∀e∈es,e.cells.length=s)∧eS D.R w (es.flatMap AV.cells) (cur.toList.take (es.length * s))∧cap≤maxLen∧(∀o,¬D.R g o):=by
 have e0:=h.jz hx iw
 have e1:=e0.rep (by rw [hr];simp)
 have hv:=e0.gh (by rw [hr];simp) (by rw [hr];simp)
 rw [hr] at e1
 rw [hg] at hv
 obtain ⟨b,hb⟩:=Rep.yx e1
 obtain ⟨g,n,cap,q,qb,mX⟩:=hv
 rw [hb] at mX
 cases mX
 obtain ⟨ht,AE,pG⟩:=h.uS hk
 rw [ny] at pG
 obtain ⟨LW,Rx,ub,hp⟩:=pG.resolve_left (by simp)
 cases Rx
 rcases hp with ⟨rfl,_⟩ | ⟨g',yG,cur,ce,fz,e2,hh,hL⟩
 ·simp at he
 ·rw [qb] at e2
  cases e2
  rcases ht with e3 | ⟨g',n',yG,nr,TN,MN,e3,h1,h2,h3,h4,h5,h6⟩
  ·rw [qb] at e3;cases e3
  ·rw [qb] at e3
   cases e3
   rw [hh] at h1
   cases h1
   exact ⟨b,cap,cur,ce,fz,qb,hb,hh,h2,h3,h4,ub,hL,h5,AE b (by rw [qb];rfl)⟩
theorem Hh (hd:o.dst=some d) (hl:d<C.nt) {x:Operand} {r:eI} {t:TypeId} {inf:TypeInfo} {k i s o' n:Nat} {agg:Bool} {es:List AV} {e y:AV} (ho:o.op = .load t x) (hi:C.P.info? t=some inf) (hz:inf.size=n) (ha:kS C.P t=some agg) (h1:agg=true∨n=1)
  (hx:dv x r=true) (iw:small C.nt [x]=true) (hr:r.ev C.E σ = .el i s o') (hg:r.gh γ = .pe k) (hk:γ (lk k) = .pv s) (ny:σ (lk k) = .sl s es) (he:es[i]?=some e) (hp:px e o' n agg=some y)
  (hK:∀D' a' w',dZ C D' (dP σ d y) (dP γ d .no) a' w'→K a' w'):o.wp C.P a w K Q:=by
 obtain ⟨g,cap,cur,ce,fz,_,hv,hh,_,rE,hle,ub,hL,_⟩:=h.LX hx iw hr hg hk ny he
 have gS:=(aE.1 he).1
 have RL:eS D.R w e.cells (((cur.toList.take (es.length * s)).drop (i * s)).take s):=by
  have:=(hL.drop (i * s)).take s
  rwa [xj ub he] at this
 obtain ⟨hlen,kn⟩:=mJ RL (uW hp) h1
 have hc:∀j y,(((((cur.toList.take (es.length * s)).drop (i * s)).take s).drop o').take n)[j]?=some y→w.cell? ⟨g,i * s+o'+j,none⟩=some y:=by
  intro j y hj
  simp only [World.cell?,hh]
  rw [aT] at hj
  split at hj
  ·rw [List.getElem?_drop,aT] at hj
   split at hj
   ·rw [List.getElem?_drop,aT] at hj
    split at hj
    ·rw [show i * s+o'+j=i * s+(o'+j) by omega];simpa using hj
    ·cases hj
   ·cases hj
  ·cases hj
 have eh:=kJ (P:=C.P) hi ha (hz ▸ h1) (hlen.trans hz.symm) hc
 refine h.ir hd hl (?_:(execOp a.eval o).run C.P w = .ok (.value _) w) kn hK
 simp only [execOp,ho,hv,Instr.loadAt,Instr.sureAddr,Sem.run_bind,Sem.run_pure,Result.andThen_ok,eh]
omit hl in
theorem Hd {x v:Operand} {r q:eI} {t:TypeId} {inf:TypeInfo} {k i s o' n:Nat} {es:List AV} {e e':AV} (hd:o.dst=none) (ho:o.op = .store t x v) (hi:C.P.info? t=some inf) (hz:inf.size=n)
  (hx:dv x r=true) (iw:small C.nt [x]=true) (hv:dv v q=true) (pE:small C.nt [v]=true) (hr:r.ev C.E σ = .el i s o') (hg:r.gh γ = .pe k) (hk:γ (lk k) = .pv s) (ny:σ (lk k) = .sl s es) (he:es[i]?=some e)
  (hp:(q.ev C.E σ).plain=true) (hn:(q.ev C.E σ).cells.length=n) (Mv:sw e o' (q.ev C.E σ)=some e')
  (hK:∀D' a' w',dZ C D' (dP σ (lk k) (.sl s (es.set i e'))) (dP γ (lk k) (.pv s)) a' w'→K a' w'):o.wp C.P a w K Q:=by
 obtain ⟨g,cap,cur,ce,fz,qb,QR,hh,hfz,rE,hle,ub,hL,zH,qd⟩:=h.LX hx iw hr hg hk ny he
 have gS:=(aE.1 he).1
 have q0:=h.jz hv pE
 have Mu:q.ev C.E σ ≠ .dead:=by intro e;rw [e] at hp;cases hp
 have OU:=mG (q0.rep Mu) hp
 have hlen:=OU.length
 obtain ⟨yt,Gr⟩:=wi Mv
 have AJ:=ub e (bf he)
 have EJ:(a.eval v).cells.toList.length=n:=hlen.symm.trans hn
 have MA:(a.eval v).cells.size=n:=by simpa using EJ
 have E3:(i+1) * s≤es.length * s:=bu _ gS
 have PM:es.length * s≤cap * s:=bu _ hle
 rw [Nat.succ_mul] at E3
 have vL:=jy (P:=C.P) g (i * s+o') ce fz (a.eval v).cells.toList 0 cur w hh (by rw [EJ];omega) hfz OU.one
 simp only [Nat.add_zero] at vL
 let new:Array Value:=(cur.toList.take (i * s+o')++(a.eval v).cells.toList++cur.toList.drop (i * s+o'+(a.eval v).cells.toList.length)).toArray
 have eh:(execOp a.eval o).run C.P w = .ok .skip (w.setRow g new):=by
  have:¬((a.eval v).cells.size≠n):=by omega
  simp only [execOp,ho,QR,Instr.storeAt,Instr.sureAddr,Sem.run_bind,Sem.run_pure,Result.andThen_ok,storeVar,run_sizeOf hi,hz,Sem.run_ite,this,if_false,vL]
  rfl
 have E1:=setRow_heap w g cur new ce fz hh
 have Ou:new.size=cur.size:=by simp [new];omega
 have cq:gz D.R w D.R (w.setRow g new):=fun b o hr=>⟨hr,cell_setRow_other w g _ ⟨b,o,none⟩ (fun e=>qd o (by have:b=g:=e;rw [←this];exact hr))⟩
 have EP:(D.τ (lk k)).ownBlock=some g:=by rw [qb];rfl
 have OL:∀y∈es.set i e',y.cells.length=s:=fun y hy=>by
  rcases List.mem_or_eq_of_mem_set hy with hy | rfl
  ·exact ub y hy
  ·rw [yt];simp [gV];omega
 have hS:=h.JD hk EP (w':=w.setRow g new) rfl rfl rfl (by simp) (fun b hb=>setRow_other w g b _ hb) (x := .sl s (es.set i e'))
  (.inr ⟨g,es.length,cap,new,ce,fz,qb,E1,fun o ho=>hfz o (by omega),Ou.trans rE,hle,zH,fun o _=>qd o⟩)
  ⟨fun g' mX o=>by rw [EP] at mX;cases mX;exact qd o,.inr ⟨_,rfl,OL,.inr ⟨g,cap,new,ce,fz,by rw [List.length_set];exact qb,E1,by
   rw [List.length_set,xh ub he yt (by omega)]
   have ES:new.toList.take (es.length * s)=(cur.toList.take (es.length * s)).take (i * s+o')++(a.eval v).cells.toList++(cur.toList.take (es.length * s)).drop (i * s+o'+(a.eval v).cells.toList.length):=by
    have jK:cur.toList.length=cap * s:=by simpa using rE
    apply List.ext_getElem?
    intro j
    simp only [new,aT,List.getElem?_append,aw,bh,List.getElem?_drop,EJ,jK]
    have e1:min (i * s+o') (cap * s)=i * s+o':=by omega
    have e2:min (i * s+o') (min (es.length * s) (cap * s))=i * s+o':=by omega
    simp only [e1,e2]
    by_cases c1:j<es.length * s
    ·by_cases c2:j<i * s+o'
     ·simp [c1,c2,show j<i * s+o'+n by omega]
     ·by_cases c3:j<i * s+o'+n
      ·simp [c1,c2,c3]
      ·simp [c1,c2,c3,show i * s+o'+n+(j - (i * s+o'+n))<es.length * s by omega]
    ·have c2:¬j<i * s+o':=by omega
     have c3:¬j<i * s+o'+n:=by omega
     simp [c1,c3,show ¬i * s+o'+n+(j - (i * s+o'+n))<es.length * s by omega]
   rw [ES]
   simp only [gV,hlen]
   exact (((hL.take _).append OU).append (hL.drop _)).mono cq⟩⟩⟩
 have IQ:dP γ (lk k) (.pv s)=γ:=by
  funext j
  by_cases e:j=lk k
  ·subst e;rw [bK,hk]
  ·rw [bO _ _ e]
 unfold Oper.wp
 rw [eh,Oper.upon_skip,hd]
 rw [IQ] at hK
 exact hK _ _ _ (by simpa [Act.put] using hS)
end
end Go.Eng
namespace Go.Eng
open Go.RowKit
section
variable {C:Ctx} {sg:Nat→dw}
theorem KD {k:Nat}:ei C sg (.FJ k):=by
 intro D σ γ a w dst op ty pos after guard rs ds gd ws gs K' Q h ho hk fc hs hg hK
 simp only [dS,af] at hk
 obtain ⟨⟨mi,gG⟩,jx⟩:=hk
 obtain ⟨d,rfl,hl,rfl⟩:=gx jx
 simp only [ga] at ho
 split at ho
 ·rename_i s u x r rest _ _
  simp only [af] at ho
  obtain ⟨⟨ht,hu⟩,ho⟩:=ho
  obtain ⟨e,K6,K5⟩:=kH hu
  simp at mi
  obtain ⟨q,rfl⟩:=oO mi
  cases q <;> simp at gG
  subst gG
  simp only [ao,au,fW] at hs
  simp only [ao,au,ft] at hg
  split at hs
  ·rename_i b y heq
   simp only [ar,and_true] at heq
   obtain ⟨hb,rfl⟩:=hs
   split at hg
   ·rename_i g fC
    simp only [ar,and_true,eI.gh] at fC
    cases hg
    exact He h rfl hl rfl (ic ht) K6 K5 ho (bQ fc (by simp [Op.operands])) heq.1 hb fC.2 hK
   ·cases hg
  ·cases hs
 ·cases ho
theorem KJ {k s:Nat}:ei C sg (.FO k s):=by
 intro D σ γ a w dst op ty pos after guard rs ds gd ws gs K' Q h ho hk fc hs hg hK
 simp only [dS,af] at hk
 obtain ⟨⟨h9,mi,gG⟩,jx⟩:=hk
 simp only [az] at h9
 have main:∀{x:Operand} {r q:eI},(op = .move x∨op = .assign x)→rs=[r,q]→dv x r=true→(⟨dst,op,ty,pos,after,guard⟩:Oper).wp C.P a w K' Q:=by
  intro x r q Oq sJ hx
  subst sJ
  cases q <;> simp at gG
  subst gG
  cases r with
  | s j =>
   simp only [af,az] at jx
   obtain ⟨hj,jx⟩:=jx
   obtain ⟨d,rfl,hl,rfl⟩:=gx jx
   simp only [ao,au,fW] at hs
   simp only [ao,au,ft] at hg
   split at hs
   ·rename_i s' es heq
    simp only [ar,and_true,eI.ev] at heq
    obtain ⟨rfl,rfl⟩:=hs
    split at hg
    ·rename_i k' s0 s1 fC
     simp only [ar,and_true,eI.gh] at fC
     split at hg
     ·rename_i hc
      obtain ⟨rfl,rfl⟩:=hc
      cases hg
      exact Hj h h9 rfl hl Oq hx hj heq.1 fC.1 fC.2 heq.2 hK
     ·cases hg
    ·cases hg
   ·cases hs
  | c x=>simp at jx
  | g n=>simp at jx
 simp only [ga] at ho
 split at ho
 ·exact main (.inl rfl) rfl ho
 ·exact main (.inr rfl) rfl ho
 ·cases ho
theorem KG {k:Nat}:ei C sg (.FL k):=by
 intro D σ γ a w dst op ty pos after guard rs ds gd ws gs K' Q h ho hk fc hs hg hK
 simp only [dS,af] at hk
 obtain ⟨⟨mi,gG⟩,jx⟩:=hk
 obtain ⟨d,rfl,hl,rfl⟩:=gx (l:=[]) jx
 simp only [ga] at ho
 split at ho
 ·rename_i args rV r rest
  simp only [af,beq_iff_eq] at ho
  obtain ⟨⟨h1,h2⟩,ho⟩:=ho
  simp at mi
  obtain ⟨q,rfl⟩:=oO mi
  cases q <;> simp at gG
  subst gG
  obtain ⟨t,ht⟩:=oO h1
  rw [ht] at h2
  simp only [List.all_cons,List.all_nil,Bool.and_true] at h2
  obtain ⟨x,pD⟩:=oO (iW ho)
  rw [pD] at ho
  obtain ⟨r',e,hx⟩:=mK ho
  cases e
  have ea:=A3 pD
  have et:=A3 ht
  subst ea;subst et
  obtain ⟨e,he⟩:=Option.isSome_iff_exists.1 h2
  simp only [ao,au,fW] at hs
  simp only [ao,au,ft] at hg
  split at hs
  ·rename_i s' es heq
   simp only [ar,and_true,eI.ev] at heq
   subst hs
   split at hg
   ·rename_i k' s0 s1 fC
    simp only [ar,and_true,eI.gh] at fC
    split at hg
    ·rename_i hc
     subst hc
     cases hg
     exact Hg h rfl hl rfl (iM he) hx (bQ fc (by simp [Op.operands,Call.operands])) heq.1 fC.1 fC.2 heq.2 hK
    ·cases hg
   ·cases hg
  ·cases hs
 ·cases ho
theorem KI {k s:Nat}:ei C sg (.FN k s):=by
 intro D σ γ a w dst op ty pos after guard rs ds gd ws gs K' Q h ho hk fc hs hg hK
 simp only [dS,af] at hk
 obtain ⟨⟨mi,gG⟩,jx⟩:=hk
 obtain ⟨d,rfl,hl,rfl⟩:=gx (l:=[]) jx
 simp only [ga] at ho
 split at ho
 ·rename_i t x y r q z
  simp only [af] at ho
  obtain ⟨ht,ho⟩:=ho
  obtain ⟨e,inf,h1,h2,h3,h4⟩:=lZ ht
  obtain ⟨r',q',e',hx,hy⟩:=j0 ho
  cases e'
  cases z <;> simp at gG
  subst gG
  simp only [ao,au,fW] at hs
  simp only [ao,au,ft] at hg
  split at hs
  ·rename_i ik i s' es heq
   simp only [ar,and_true,eI.ev] at heq
   obtain ⟨rfl,h0,gS,rfl⟩:=hs
   split at hg
   ·rename_i k' s0 g0 s1 fC
    simp only [ar,and_true,eI.gh] at fC
    split at hg
    ·rename_i hc
     obtain ⟨rfl,rfl⟩:=hc
     cases hg
     exact Hi h rfl hl rfl h1 h2 h3 hx hy (bQ fc (by simp [Op.operands])) (bQ fc (by simp [Op.operands])) heq.1 fC.1 fC.2.2 heq.2.2 heq.2.1 h0 gS hK
    ·cases hg
   ·cases hg
  ·cases hs
 ·cases ho
theorem KK {k dd:Nat}:ei C sg (.G5 k dd):=by
 intro D σ γ a w dst op ty pos after guard rs ds gd ws gs K' Q h ho hk fc hs hg hK
 obtain ⟨d,rfl,hl,rfl⟩:=gx (l:=[]) hk
 simp only [ga] at ho
 split at ho
 ·rename_i t x f r
  simp only [af] at ho
  obtain ⟨ht,hx⟩:=ho
  cases hf:mw C.P t f with
  | none=>simp [hf] at ht
  | some fl =>
   simp only [hf,Option.any_some,af,beq_iff_eq] at ht
   obtain ⟨h0,ht⟩:=ht
   cases hz:jg C.P fl.type with
   | none=>simp [hz] at ht
   | some n =>
    simp [hz] at ht
    obtain ⟨inf,h1,h2⟩:=iJ hz
    obtain ⟨fs,hu,rn⟩:=lU hf
    simp only [ao,au,fW] at hs
    split at hs
    ·rename_i i s o' heq
     simp only [ar,and_true] at heq
     subst hs
     simp only [ao,au,ft] at hg
     split at hg
     ·rename_i k' fC
      simp only [ar,and_true] at fC
      split at hg
      ·rename_i hc
       subst hc
       cases hg
       exact Hk h rfl hl rfl hu rn h0 h1 (by omega) hx (bQ fc (by simp [Op.operands])) heq fC hK
      ·cases hg
     ·cases hg
    ·cases hs
 ·cases ho
theorem KH {k s n:Nat} {agg:Bool}:ei C sg (.FM k s n agg):=by
 intro D σ γ a w dst op ty pos after guard rs ds gd ws gs K' Q h ho hk fc hs hg hK
 simp only [dS,af] at hk
 obtain ⟨⟨mi,gG⟩,jx⟩:=hk
 obtain ⟨d,rfl,hl,rfl⟩:=gx (l:=[]) jx
 simp only [ga] at ho
 split at ho
 ·rename_i t x r rest
  simp at mi
  obtain ⟨q,rfl⟩:=oO mi
  cases q <;> simp at gG
  subst gG
  simp only [af] at ho
  obtain ⟨ht,ho⟩:=ho
  obtain ⟨inf,h1,h2,h3,h4⟩:=iV ht
  simp only [ao,au,fW] at hs
  split at hs
  ·rename_i i s' o' pr es heq
   simp only [ar,and_true,eI.ev] at heq
   obtain ⟨e,y,rfl,rfl,he,hp,rfl⟩:=hs
   simp only [ao,au,ft] at hg
   split at hg
   ·rename_i k' s1 fC
    simp only [ar,and_true,eI.gh] at fC
    split at hg
    ·rename_i hc
     obtain ⟨rfl,rfl⟩:=hc
     cases hg
     exact Hh h rfl hl rfl h1 h2 h3 h4 ho (bQ fc (by simp [Op.operands])) heq.1 fC.1 fC.2 heq.2 he hp hK
    ·cases hg
   ·cases hg
  ·cases hs
 ·cases ho
theorem KC {k s n:Nat}:ei C sg (.FI k s n):=by
 intro D σ γ a w dst op ty pos after guard rs ds gd ws gs K' Q h ho hk fc hs hg hK
 simp only [dS,af,beq_iff_eq,Option.isNone_iff_eq_none] at hk
 obtain ⟨⟨rfl,rfl⟩,gG⟩:=hk
 simp only [ga] at ho
 split at ho
 ·rename_i t x v p q r
  simp only [af,beq_iff_eq] at ho
  obtain ⟨⟨ht,hx⟩,hv⟩:=ho
  obtain ⟨inf,h1,h2⟩:=iJ ht
  cases q with
  | s j =>
   simp at gG
   subst gG
   simp only [ao,au,fW] at hs
   split at hs
   ·rename_i i s' o' pr es y heq
    simp only [ar,and_true,eI.ev] at heq
    obtain ⟨e1,e2,e3⟩:=heq
    obtain ⟨e,e',rfl,rfl,he,p1,p2,p3,rfl⟩:=hs
    subst e3
    simp only [ao,au,ft] at hg
    split at hg
    ·rename_i k' s1 g fC
     simp only [ar,and_true,eI.gh] at fC
     split at hg
     ·rename_i hc
      obtain ⟨rfl,rfl⟩:=hc
      cases hg
      exact Hd h rfl rfl h1 h2 hx (bQ fc (by simp [Op.operands])) hv (bQ fc (by simp [Op.operands])) e1 fC.1 fC.2.1 e2 he p1 p2 p3 hK
     ·cases hg
    ·cases hg
   ·cases hs
  | c x=>simp at gG
  | g n=>simp at gG
 ·cases ho
end
end Go.Eng
namespace Go.Eng
open Go.RowKit
section
variable {C:Ctx} {D:kZ} {σ:Sg} {γ:Ga} {a:Act} {w:World}
theorem dZ.L4 (h : dZ C D σ γ a w) {k s : Nat} {es : List AV} (hk : γ (lk k) = .pv s ∨ γ (lk k) = .pc s) (ny : σ (lk k) = .sl s es) {R' : Reach} {w' : World} (he : Ext w D.R (fun c => (D.τ (lk k)).ownBlock = some c) w' R')
    (gS : ∀ b o, R' b o → b < w'.heap.size) (ht : gD R' w' (D.τ (lk k)) s) (hp : iy R' w' (D.τ (lk k)) s (.sl s es)) : dZ C { D with R := R' } σ γ a w' := by
  have Ls : (γ (lk k)).sH = true := by rcases hk with e | e <;> rw [e] <;> rfl
  have Lo : (γ (lk k)).par = none := by rcases hk with e | e <;> rw [e] <;> rfl
  have Ln : (γ (lk k)).BN = some s := by rcases hk with e | e <;> rw [e] <;> rfl
  have vu : gw D γ (lk k) = (D.τ (lk k)).ownBlock := iG Ls
  -- Ft Mj block is Ft one, but a JT
  have qN : ∀ key g, key ≠ lk k → (γ key).par ≠ some (lk k) → gw D γ key = some g → (D.τ (lk k)).ownBlock ≠ some g := by
    intro key g h1 h2 h3 h4
    rcases h.sep key (lk k) g h3 (vu.trans h4) with e | e | e
    · exact h1 e
    · exact h2 e
    · rw [Lo] at e; cases e
  have CV : ∀ key g, key ≠ lk k → (γ key).par ≠ some (lk k) → gw D γ key = some g → w'.heap[g]? = w.heap[g]? ∧ ∀ o, R' g o → D.R g o := by
    intro key g h1 h2 h3
    have jM := qN key g h1 h2 h3
    refine ⟨he.heap g (h.lt h3) jM, fun o hr => ?_⟩
    rcases he.qG g o hr with e | e | e
    · exact e
    · have := h.lt h3; omega
    · exact (jM e).elim
  refine ⟨h.size, h.defers, h.km, h.kk, h.mg, fun t vl => ?_, fun m ts hm => ?_, fun key s' ko => ?_, fun key s' hs => ?_, h.sep, h.own, h.inv, ?_, gS, fun n => (h.gl n).mono he.cq, h.fix⟩
  · exact (h.slot t vl).imp id fun ⟨r, g⟩ => ⟨r.mono he.cq, fun hs => by have g := g hs; cases hg : γ t <;> rw [hg] at g <;> exact g⟩
  · obtain ⟨cs, hv, o0⟩ := h.mem m ts hm
    have h1 : m ≠ lk k := fun e => by subst e; rw [hm] at Ls; cases Ls
    obtain ⟨q1, q2⟩ := CV m (D.β m) h1 (by rw [hm]; simp [Gh.par]) (iS hm)
    exact ⟨cs, hv.cq he.cq q1 (fun o hr => hv.Cd o (q2 o hr)), o0⟩
  · have h1 : key ≠ lk k := fun e => by subst e; rw [ko] at Ls; cases Ls
    exact (h.fV key s' ko).cq fun g hg => CV key g h1 (by rw [ko]; simp [Gh.par]) ((iR ko).trans hg)
  · by_cases e : key = lk k
    · subst e
      rw [Ln] at hs
      cases hs
      rw [ny]
      exact ⟨ht, hp, (h.ps _ _ Ln).2.2⟩
    · obtain ⟨h1, h2, h3⟩ := h.ps key s' hs
      refine ⟨?_, ?_, h3⟩
      all_goals
        by_cases Ij : ∃ g, (D.τ key).ownBlock = some g ∧ (D.τ (lk k)).ownBlock = some g
        all_goals try exact (h1.cq fun g hg => ⟨he.heap g (h1.lt hg) (fun e' => Ij ⟨g, hg, e'⟩), fun o hr => (he.qG g o hr).elim id fun e' => e'.elim (fun e' => absurd (h1.lt hg) (by omega)) fun e' => (Ij ⟨g, hg, e'⟩).elim⟩)
        all_goals try exact (h2.cq he.cq fun g hg => ⟨he.heap g (h1.lt hg) (fun e' => Ij ⟨g, hg, e'⟩), fun o hr => (he.qG g o hr).elim id fun e' => e'.elim (fun e' => absurd (h1.lt hg) (by omega)) fun e' => (Ij ⟨g, hg, e'⟩).elim⟩)
        obtain ⟨g, hg1, hg2⟩ := Ij
        have pF : (γ key).par = some (lk k) := by
          by_cases pF : (γ key).par = some (lk k)
          · exact pF
          · exact (qN key g e pF ((iG (Gh.pV hs)).trans hg1) hg2).elim
        have K8 : γ key = .nO (lk k) s' := by
          cases hg : γ key <;> rw [hg] at pF hs <;> simp [Gh.par, Gh.BN] at pF hs
          rw [pF, hs]
        have Rd : γ (lk k) = .pc s := by
          have := h.inv key
          rw [K8] at this
          rcases hk with e' | e'
          · rcases this with O6 | ⟨_, O6⟩ <;> rw [e'] at O6 <;> cases O6
          · exact e'
        -- the child, ahead and behind
        obtain ⟨ct, cp, _⟩ := h.ps _ _ Ln
        rcases ct with e1 | ⟨gc, nc, Sc, R5, ec, TC, e1, c1, c2, c3, c4, c5, c6⟩
        · rw [e1] at hg2; cases hg2
        have RY : gc = g := by rw [e1] at hg2; simpa [Value.ownBlock] using hg2
        subst RY
        rcases ht with e2 | ⟨TA, Tb, PZ, Gz, PV, LS, e2, d1, d2, d3, d4, d5, d6⟩
        · rw [e1] at e2; cases e2
        rw [e1] at e2
        cases e2
        rcases h1 with e3 | ⟨gp, np, L3, R4, ep, TB, e3, p1, p2, p3, p4, p5, p6⟩
        · rw [e3] at hg1; cases hg1
        have RX : gp = gc := by rw [e3] at hg1; simpa [Value.ownBlock] using hg1
        subst RX
        rw [c1] at p1
        cases p1
        first
        | exact .inr ⟨gp, np, L3, Gz, PV, LS, e3, d1, d2, (d3.trans c3.symm).trans p3, p4, p5, fun o _ => hp.1 gp hg2 o⟩
        | refine ⟨fun g' mX o => by rw [hg1] at mX; cases mX; exact hp.1 gp hg2 o, ?_⟩
          rcases h3 _ _ _ K8 Rd with e4 | e4 | ⟨O3, more, e4, e5⟩
          · exact .inl e4
          · rw [ny] at e4; cases e4
          · right
            rw [ny] at e5
            cases e5
            rcases h2.2 with e6 | ⟨TH, e6, h7, h8⟩
            · rw [e4] at e6; cases e6
            rw [e4] at e6
            cases e6
            refine ⟨O3, e4, h7, ?_⟩
            rcases h8 with ⟨_, e8⟩ | ⟨g8, Se, R7, TJ, TE, e8, _, _⟩
            · rw [e3] at e8; cases e8
            rw [e3] at e8
            cases e8
            refine .inr ⟨gp, L3, Gz, PV, LS, by rw [e3], d1, ?_⟩
            obtain ⟨TG, e9, _, h9⟩ := hp.2.resolve_left (by simp)
            cases e9
            rcases h9 with ⟨_, tc⟩ | ⟨g9, Sd, R6, TI, TD, tc, q1, q2⟩
            · rw [e1] at tc; cases tc
            rw [e1] at tc
            cases tc
            rw [d1] at q1
            cases q1
            have PG := zP (s := s) (es := O3) h7
            have := q2.take (O3.length * s)
            rw [List.flatMap_append, List.take_append_of_le_length (by omega), List.take_of_length_le (by omega), List.take_take, aw, Nat.add_mul] at this
            rwa [Nat.min_eq_left (by omega)] at this
  · exact h.ext.trans he fun b hb => h.own (lk k) b (vu.trans hb)
theorem BW {l:List Operand} {rs:List eI} {i:Nat} (h:dZ C D σ γ a w) (hx:dy l rs=true) (hs:small C.nt l=true) {x:AV} (he:(rs.map (eI.ev C.E σ))[i]?=some x) (hd:x ≠ .dead) (hk:x ≠ .sk) :
  ∃v,(l.map a.eval)[i]?=some v∧Rep D.R w x v∧∀g,(rs.map (eI.gh γ))[i]?=some g→jU D g v:=by
 induction l generalizing rs i with
 | nil=>cases rs with
  | nil=>simp at he
  | cons=>simp [dy] at hx
 | cons y l ih =>
  cases rs with
  | nil=>simp [dy] at hx
  | cons q qs =>
   simp [dy] at hx
   have s1:small C.nt [y]=true:=by simp [small] at hs ⊢;exact hs.1
   have s2:small C.nt l=true:=by simp only [small,List.all_cons,af] at hs;exact hs.2
   cases i with
   | zero =>
    simp at he
    have h0:=h.jz hx.1 s1
    refine ⟨a.eval y,rfl,he ▸ h0.rep (by rw [he];exact hd),fun g hg=>?_⟩
    simp at hg
    exact hg ▸ h0.gh (by rw [he];exact hd) (by rw [he];exact hk)
   | succ i=>simpa using ih hx.2 s2 (by simpa using he)
variable {o:Oper} {d:Nat} {K:Act→World→Prop} {Q:Exit→Act→World→Prop} (h:dZ C D σ γ a w)
include h
omit h in
theorem dZ.xX {D':kZ} {w':World} (hS:dZ C D' σ γ a w') (hl:d<C.nt) {n:Nat} {ju:List Value} {outs:List AV} {x:Value} (h1:ju.length=n) (h2:x=(if n=1 then ju.headD undef else .tuple ⟨ju⟩)) (h3:gT D'.R w' outs ju) (ua:outs.length=n) :
  dZ C D' (dP σ d (if n=1 then outs.headD .dead else .tu outs)) (dP γ d .no) (a.put (some d) x) w':=by
 refine hS.put hl (.plain ?_) rfl rfl trivial
 by_cases e:n=1
 ·rw [aq e] at h2 ⊢
  subst h2
  rw [e] at h1
  match ju,h1 with
  | [y],_=>cases h3 with
   | cons h1 _=>exact h1
 ·rw [aj e] at h2 ⊢
  subst h2
  exact .tu h3
theorem B0 (hd:o.dst=some d) (hl:d<C.nt) {f n i k s:Nat} {args:Array Operand} {ts:Array TypeId} {rs:List eI} {es:List AV} {outs:List AV} (ho:o.op = .call { callee := .value (.func f),args,argTypes:=ts }) (hp:jI C.P f=true)
  {S:FS} (hS:fF C.P C.E.gl f S) (lO:S.sg.ps=some (i,s)) (hn:S.sg.cZ=n) (hx:dy args.toList rs=true) (fc:small C.nt args.toList=true)
  (A9:(rs.map (eI.ev C.E σ))[i]?=some .pt) (Ix:(rs.map (eI.gh γ))[i]?=some (.fV k s)) (hk:γ (lk k) = .pv s∨γ (lk k) = .pc s) (ny:σ (lk k) = .sl s es)
  (hG:S.G ((rs.map (eI.ev C.E σ)).set i (.sl s es)) outs) (ua:outs.length=n)
  (hK:∀D' a' w',dZ C D' (dP σ d (if n=1 then outs.headD .dead else .tu outs)) (dP γ d .no) a' w'→K a' w'):o.wp C.P a w K Q:=by
 have Ln:(γ (lk k)).BN=some s:=by rcases hk with e | e <;> rw [e] <;> rfl
 obtain ⟨ht,DR,_⟩:=h.ps _ _ Ln
 obtain ⟨v,hv1,_,hv2⟩:=BW h hx fc A9 (by simp) (by simp)
 have AA:=(hv2 _ Ix).1
 subst AA
 have hT:=h.wm hx fc
 have Iw:=(aE.1 A9).1
 have EK:((rs.map (eI.ev C.E σ)).set i (.sl s es)).set i .pt=rs.map (eI.ev C.E σ):=by rw [List.set_set,y8 A9]
 unfold Oper.wp
 rw [qn ho hp,Oper.upon_enter]
 have:=hS.2 i s lO w D.R _ outs (args.toList.map a.eval) _ es hG h.nF h.gl hv1 (List.getElem?_set_self Iw) ht (ny ▸ DR) (by rw [EK];exact hT)
 have e:(⟨args.toList.map a.eval⟩:Array Value)=args.map a.eval:=by apply Array.ext';simp
 rw [e] at this
 refine this.mono ?_
 rintro e w' ⟨x,R',ju,rfl,h1,h2,h3,h4,h5,h6,h7⟩
 simp only
 rw [hd]
 exact hK _ _ _ (dZ.xX (h.L4 hk ny h1 h2 h6 h7) hl (h3.trans hn) (by rw [←hn];exact h4) h5 ua)
theorem BZ (hd:o.dst=some d) (hl:d<C.nt) {f n i s:Nat} {args:Array Operand} {ts:Array TypeId} {rs:List eI} {outs:List AV} (ho:o.op = .call { callee := .value (.func f),args,argTypes:=ts }) (hp:jI C.P f=true)
  {S:FS} (hS:fF C.P C.E.gl f S) (lO:S.sg.ps=some (i,s)) (hn:S.sg.cZ=n) (hx:dy args.toList rs=true) (fc:small C.nt args.toList=true)
  (hi:args.toList[i]?=some (.const (.slice none 0 0))) (hv:(rs.map (eI.ev C.E σ))[i]?=some (.sl s [])) (hG:S.G (rs.map (eI.ev C.E σ)) outs) (ua:outs.length=n)
  (hK:∀D' a' w',dZ C D' (dP σ d (if n=1 then outs.headD .dead else .tu outs)) (dP γ d .no) a' w'→K a' w'):o.wp C.P a w K Q:=by
 have hT:=h.wm hx fc
 have hv1:(args.toList.map a.eval)[i]?=some (.slice none 0 0):=by rw [aP,hi];rfl
 have LI:gT D.R w ((rs.map (eI.ev C.E σ)).set i .pt) (args.toList.map a.eval):=by
  have:∀{l:List AV} {ys:List Value} {i:Nat},gT D.R w l ys→gT D.R w (l.set i .pt) ys:=by
   intro l ys i hr
   induction i generalizing l ys with
   | zero=>cases hr with
    | nil=>exact .nil
    | cons a b=>exact .cons (.pt _) b
   | succ i ih=>cases hr with
    | nil=>exact .nil
    | cons a b=>exact .cons a (ih b)
  exact this hT
 unfold Oper.wp
 rw [qn ho hp,Oper.upon_enter]
 have:=hS.2 i s lO w D.R _ outs (args.toList.map a.eval) _ [] hG h.nF h.gl hv1 hv (.inl rfl) ⟨by simp [Value.ownBlock],.inr ⟨[],rfl,by simp,.inl ⟨rfl,rfl⟩⟩⟩ LI
 have e:(⟨args.toList.map a.eval⟩:Array Value)=args.map a.eval:=by apply Array.ext';simp
 rw [e] at this
 refine this.mono ?_
 rintro e w' ⟨x,R',ju,rfl,h1,h2,h3,h4,h5,h6,h7⟩
 simp only
 rw [hd]
 have La:=h.xB (w':=w') (R':=R') (by
  have:(fun c=>(Value.slice none 0 0).ownBlock=some c)=fun _=>False:=by funext c;simp [Value.ownBlock]
  rwa [this] at h1) h2
 exact hK _ _ _ (dZ.xX La hl (h3.trans hn) (by rw [←hn];exact h4) h5 ua)
theorem BY (hd:o.dst=some d) (hl:d<C.nt) {x:Operand} {r:eI} {t e y:TypeId} {k s s0:Nat} {es:List AV} (ho:o.op = .binOp .eql t x (.const (.slice none 0 0)) y) (ht:C.P.underlying t=some (.slice e)) (hx:dv x r=true) (iw:small C.nt [x]=true)
  (hr:r.ev C.E σ = .pt) (hg:r.gh γ = .fV k s0) {s1:Nat} (hk:γ (lk k) = .pv s) (ny:σ (lk k) = .sl s1 es) (hK:∀D' a' w',dZ C D' (dP σ d (match es with | [] => .ab | _ :: _ => .v (.bool false))) (dP γ d .no) a' w'→K a' w'):o.wp C.P a w K Q:=by
 have e0:=h.jz hx iw
 have hv:=e0.gh (by rw [hr];simp) (by rw [hr];simp)
 rw [hg] at hv
 obtain ⟨_,_,pG⟩:=h.uS hk
 rw [ny] at pG
 obtain ⟨LW,he,_,hp⟩:=pG.resolve_left (by simp)
 cases he
 have hc:a.eval (.const (.slice none 0 0)) = .slice none 0 0:=rfl
 rcases hp with ⟨rfl,e1⟩ | ⟨g,cap,cur,ce,fz,e1,_⟩
 ·have hval:a.eval x = .slice none 0 0:=hv.1.trans e1
  have eh:(execOp a.eval o).run C.P w = .ok (.value (.bool true)) w:=by
   simp only [execOp,ho,hval,hc,eqGuard,Sem.run_bind,Sem.run_pure,Sem.run_ite,Result.andThen_ok]
   simp only [aR,bo,if_false,Sem.run_pure,Result.andThen_ok]
   rw [Lib.run_eql_slice_nil w t e _ _ _ _ _ ht]
   rfl
  exact h.ir hd hl eh (.ab _) hK
 ·have hval:a.eval x = .slice (some ⟨g,0,none⟩) es.length cap:=hv.1.trans e1
  have eh:(execOp a.eval o).run C.P w = .ok (.value (.bool false)) w:=by
   simp only [execOp,ho,hval,hc,eqGuard,Sem.run_bind,Sem.run_pure,Sem.run_ite,Result.andThen_ok]
   simp only [aR,bo,if_false,Sem.run_pure,Result.andThen_ok]
   rw [Lib.run_eql_slice_nil w t e _ _ _ _ _ ht]
   rfl
  cases es with
  | nil=>exact h.ir hd hl eh (.ab _) hK
  | cons _ _=>exact h.ir hd hl eh (.v _) hK
theorem Ka (hd:o.dst=some d) (hl:d<C.nt) {x y:Operand} {r q:eI} {t e:TypeId} {inf:TypeInfo} {m n s:Nat} {ts:List (Nat × (Nat × Nat))} {ik:IntKind} {i:Int} (ho:o.op = .indexAddr t x y) (ht:C.P.underlying t=some (.array n e)) (hi:C.P.info? e=some inf) (hz:inf.size=s)
  (hx:dv x r=true) (hy:dv y q=true) (iw:small C.nt [x]=true) (pE:small C.nt [y]=true)
  (hr:r.ev C.E σ = .pt) (hg:r.gh γ = .ptr m 0) (hm:γ m = .cl ts) (hq:q.ev C.E σ = .v (.int ik i)) (h0:0≤i) (gS:i<n)
  (hK:∀D' a' w',dZ C D' (dP σ d (.el i.toNat s 0)) (dP γ d (.pm m)) a' w'→K a' w'):o.wp C.P a w K Q:=by
 have e0:=h.jz hx iw
 have hv:=e0.gh (by rw [hr];simp) (by rw [hr];simp)
 rw [hg] at hv
 simp only [jU] at hv
 have e2:=(h.jz hy pE).rep (by rw [hq];simp)
 rw [hq] at e2
 have eh:(execOp a.eval o).run C.P w = .ok (.value (.pointer (some ⟨D.β m,i.toNat * s,none⟩))) w:=by
  simp [execOp,ho,hv,e2.iB,Instr.indexAt,Instr.sureAddr,asIntOf,run_underlying ht,run_sizeOf hi,hz,h0,gS,gC]
 refine h.val (g := .pm m) hd hl eh (.inr ⟨.el _ _ 0 _,fun _=>⟨_,rfl⟩⟩) rfl rfl ?_ hK
 show (γ m).gq=true
 rw [hm];rfl
theorem J8 (hd:o.dst=some d) (hl:d<C.nt) {x:Operand} {r:eI} {t:TypeId} {inf:TypeInfo} {m i s o':Nat} {cs:List AV} {ts:List (Nat × (Nat × Nat))} {y:AV} (ho:o.op = .load t x) (hi:C.P.info? t=some inf) (hz:inf.size=1) (ha:kS C.P t=some false)
  (hx:dv x r=true) (iw:small C.nt [x]=true) (hr:r.ev C.E σ = .el i s o') (hg:r.gh γ = .pm m) (hm:γ m = .cl ts) (ny:σ m = .ag cs) (hp:gW cs (i * s+o') 1 false=some y)
  (hK:∀D' a' w',dZ C D' (dP σ d y) (dP γ d .no) a' w'→K a' w'):o.wp C.P a w K Q:=by
 have e0:=h.jz hx iw
 have e1:=e0.rep (by rw [hr];simp)
 have hv:=e0.gh (by rw [hr];simp) (by rw [hr];simp)
 rw [hr] at e1
 rw [hg] at hv
 obtain ⟨b,hb⟩:=Rep.yx e1
 obtain ⟨q,hq⟩:=hv
 rw [hb] at hq
 cases hq
 obtain ⟨ws,tp,_⟩:=h.mem m ts hm
 rw [ny] at tp
 obtain ⟨elem,hh,hL⟩:=tp.ag
 obtain ⟨hlen,kn⟩:=mJ hL hp (.inr rfl)
 have hc:∀j y,(((ws.take cs.length).drop (i * s+o')).take 1)[j]?=some y→w.cell? ⟨D.β m,i * s+o'+j,none⟩=some y:=by
  intro j y hj
  simp only [World.cell?,hh]
  rw [aT] at hj
  split at hj
  ·rw [List.getElem?_drop,aT] at hj
   split at hj
   ·simpa using hj
   ·cases hj
  ·cases hj
 have eh:=kJ (P:=C.P) hi ha (.inr hz) (hlen.trans hz.symm) hc
 refine h.ir hd hl (?_:(execOp a.eval o).run C.P w = .ok (.value _) w) kn hK
 simp only [execOp,ho,hb,Instr.loadAt,Instr.sureAddr,Sem.run_bind,Sem.run_pure,Result.andThen_ok,eh]
end
end Go.Eng
namespace Go.Eng
open Go.RowKit
section
variable {P:Program} {w:World}
theorem rA {R:Reach} {t u ty e:TypeId} {i:TypeInfo} {z:Value} {du:TypeDesc} (ht:P.underlying t=some (.slice e)) (hi:P.info? e=some i) (hz:i.zero=some z) (CA:z.cells.size=i.size) (hu:P.underlying u=some du) (wZ:∀k,du ≠ .int k)
  {x0 x:Value} {es fs:List AV} {news:List Value} (hT:gD R w x0 i.size) (hP:iy R w x0 i.size (.sl i.size es)) (gS:∀b o,R b o→b<w.heap.size)
  (hx:Source P w i.size x fs.length news) (hL:eS R w (fs.flatMap AV.cells) news) (rn:∀e∈fs,e.cells.length=i.size) (xM:es.length+fs.length≤maxLen) (hb:(es.length+fs.length) * i.bytes≤140737488355328) :
  ∃v w',(Builtin.append_ #[t,u] ty #[x0,x]).run P w = .ok v w'∧w'.os=w.os∧w'.tape=w.tape∧w'.output=w.output∧w.heap.size≤w'.heap.size ∧
   (∀b,b<w.heap.size→x0.ownBlock≠some b→w'.heap[b]?=w.heap[b]?)∧gD R w' x0 i.size∧iy R w' x0 i.size (.sl i.size es) ∧
   gD R w' v i.size∧iy R w' v i.size (.sl i.size (es++fs))∧(∀g,v.ownBlock=some g→x0.ownBlock=some g∨w.heap.size≤g):=by
 have wO:=hx.2.2.1
 obtain ⟨Gt,Jq⟩:=hP
 obtain ⟨LW,Rz,ub,RI⟩:=Jq.resolve_left (by simp)
 cases Rz
 have Gp:∀e∈es++fs,e.cells.length=i.size:=fun e he=>by
  rcases List.mem_append.1 he with he | he
  ·exact ub e he
  ·exact rn e he
 -- the row LP
 have grow:∀(q:Option Addr) (cap:Nat) (me:List Value),x0 = .slice q es.length cap→cap<es.length+fs.length→(∀w':World,w'.heap=w.heap→(Builtin.firstCells i.size es.length (.slice q es.length cap)).run P w' = .ok ⟨me⟩ w') →
   eS R w (es.flatMap AV.cells) me→me.length=es.length * i.size →
   ∃v w',(Builtin.append_ #[t,u] ty #[x0,x]).run P w = .ok v w'∧w'.os=w.os∧w'.tape=w.tape∧w'.output=w.output∧w.heap.size≤w'.heap.size ∧
   (∀b,b<w.heap.size→x0.ownBlock≠some b→w'.heap[b]?=w.heap[b]?)∧gD R w' x0 i.size∧iy R w' x0 i.size (.sl i.size es) ∧
   gD R w' v i.size∧iy R w' v i.size (.sl i.size (es++fs))∧(∀g,v.ownBlock=some g→x0.ownBlock=some g∨w.heap.size≤g):=by
  intro q cap me pD OD ho E5 sL
  have eh:=mF (ty:=ty) ht hi hz hu wZ ho hx OD xM hb
  have zF:=grownCap_ge w (es.length+fs.length) cap e
  have hle:=grownCap_le_maxLen w (es.length+fs.length) cap e xM
  let row:Array Value:=(⟨me⟩:Array Value)++⟨news⟩++Builtin.zeroCells z.cells (grownCap w (es.length+fs.length) cap e - (es.length+fs.length))
  let w1:World:=w.drew.alloc (.cells row e)
  have jT:w1.heap[w.heap.size]?=some (.cells row e (0,0)):=by
   show (w.heap.push _)[w.heap.size]?=_
   simp
  have hold:∀c,c<w.heap.size→w1.heap[c]?=w.heap[c]?:=fun c hc=>by
   show (w.heap.push _)[c]?=_
   rw [Array.getElem?_push,aj (by omega)]
  have sJ:row.size=grownCap w (es.length+fs.length) cap e * i.size:=by
   simp only [row,Array.size_append,List.size_toArray,size_zeroCells,CA,sL,wO,←Nat.add_mul]
   congr 1;omega
  have qd:∀q,¬R w.heap.size q:=fun q hr=>by have:=gS _ q hr;omega
  have cq:gz R w R w1:=fun b o hr=>⟨hr,World.cell?_of_block (w:=w) (hold b (gS b o hr))⟩
  have Q2:row.toList.take ((es++fs).length * i.size)=me++news:=by
   have:(es++fs).length * i.size=(me++news).length:=by rw [aw,aw,Nat.add_mul,sL,wO]
   rw [this]
   have Oh:row.toList=(me++news)++(Builtin.zeroCells z.cells (grownCap w (es.length+fs.length) cap e - (es.length+fs.length))).toList:=by simp [row]
   rw [Oh,List.take_left]
  refine ⟨_,w1,by rw [pD];exact eh,rfl,rfl,rfl,by show _≤(w.heap.push _).size;simp,fun b xa _=>hold b xa,hT.cq fun g hg=>⟨hold g (hT.lt hg),fun _ hr=>hr⟩,
   iy.cq ⟨Gt,Jq⟩ cq fun g hg=>⟨hold g (hT.lt hg),fun _ hr=>hr⟩,.inr ⟨_,_,_,_,_,_,rfl,jT,by simp,sJ,zF,hle,fun q _=>qd q⟩,
   ⟨fun g hg q=>?_,.inr ⟨_,rfl,Gp,.inr ⟨w.heap.size,grownCap w (es.length+fs.length) cap e,row,e,(0,0),by rw [aw],jT,?_⟩⟩⟩,fun g hg=>?_⟩
  ·simp [Value.ownBlock] at hg;subst hg;exact qd q
  ·rw [Q2,List.flatMap_append]
   exact (E5.append hL).mono cq
  ·simp [Value.ownBlock] at hg
   exact .inr (by omega)
 rcases RI with ⟨rfl,e0⟩ | ⟨g,cap,cur,ce,fz,e0,hg,E5⟩
 ·by_cases hm:fs.length=0
  ·have Iy:fs=[]:=bA hm
   subst Iy
   refine ⟨.slice none 0 0,w,?_,rfl,rfl,rfl,Nat.le_refl _,fun _ _ _=>rfl,hT,⟨Gt,Jq⟩,.inl rfl,⟨by simp [Value.ownBlock],.inr ⟨[],rfl,by simp,.inl ⟨rfl,rfl⟩⟩⟩,by simp [Value.ownBlock]⟩
   obtain ⟨h1,h2,h3,h4⟩:=hx
   have Lw:(match du with | .int _=>true | _=>false)=false:=by cases du <;> first | rfl | exact (wZ _ rfl).elim
   have vx:=h2 w rfl
   simp only [aA] at h1 vx
   rw [e0]
   simp [Builtin.append_,run_underlying ht,run_underlying hu,Lw,sizeOf,typeInfo,hi,h1,vx]
  ·exact grow none 0 [] e0 (by simp;omega) (fun _ _=>rfl) .nil (by simp)
 ·rcases hT with e1 | ⟨g1,n1,Sf,R8,TL,TF,e1,hg1,hfz,zG,Ox,zH,qd⟩
  ·rw [e0] at e1;cases e1
  rw [e0] at e1
  cases e1
  rw [hg] at hg1
  cases hg1
  have EP:x0.ownBlock=some g:=by rw [e0];rfl
  have jK:es.length * i.size≤cap * i.size:=bu _ Ox
  have sL:(cur.toList.take (es.length * i.size)).length=es.length * i.size:=by simp;omega
  by_cases n7:es.length+fs.length≤cap
  ·have eh:=mE (ty:=ty) ht hi hu wZ hg hfz hx n7 zG
   have hle:(es.length+fs.length) * i.size≤cap * i.size:=bu _ n7
   rw [Nat.add_mul] at hle
   let new:Array Value:=(cur.toList.take (es.length * i.size)++news++cur.toList.drop (es.length * i.size+news.length)).toArray
   let w1:World:=w.setRow g new
   have E1:w1.heap[g]?=some (.cells new ce fz):=setRow_heap w g cur new ce fz hg
   have hold:∀b,b≠g→w1.heap[b]?=w.heap[b]?:=fun b hb=>setRow_other w g b _ hb
   have Pz:new.size=cur.size:=by simp [new];omega
   have cq:gz R w R w1:=fun b o hr=>⟨hr,World.cell?_of_block (w:=w) (hold b (fun e=>Gt g EP o (e ▸ hr)))⟩
   have ht1:new.toList.take (es.length * i.size)=cur.toList.take (es.length * i.size):=by
    show (cur.toList.take (es.length * i.size)++news++_).take (es.length * i.size)=_
    rw [aZ,List.take_append_of_le_length (by omega),List.take_take,Nat.min_self]
   have ht2:new.toList.take ((es++fs).length * i.size)=cur.toList.take (es.length * i.size)++news:=by
    have:(es++fs).length * i.size=(cur.toList.take (es.length * i.size)++news).length:=by rw [aw,aw,Nat.add_mul,sL,wO]
    show (cur.toList.take (es.length * i.size)++news++_).take _=_
    rw [this,List.take_left]
   refine ⟨_,w1,by rw [e0];exact eh,rfl,rfl,rfl,by simp [w1],fun b xa jM=>hold b (fun e=>jM (by rw [EP,e])),.inr ⟨g,_,_,new,ce,fz,e0,E1,fun o ho=>hfz o (by omega),Pz.trans zG,Ox,zH,fun o _=>Gt g EP o⟩,
    ⟨Gt,.inr ⟨es,rfl,ub,.inr ⟨g,cap,new,ce,fz,e0,E1,by rw [ht1];exact E5.mono cq⟩⟩⟩,.inr ⟨g,_,_,new,ce,fz,rfl,E1,fun o ho=>hfz o (by omega),Pz.trans zG,n7,zH,fun o _=>Gt g EP o⟩,
    ⟨fun g' mX o=>by simp [Value.ownBlock] at mX;subst mX;exact Gt _ EP o,.inr ⟨_,rfl,Gp,.inr ⟨g,cap,new,ce,fz,by rw [aw],E1,?_⟩⟩⟩,fun g' mX=>?_⟩
   ·rw [ht2,List.flatMap_append]
    exact (E5.append hL).mono cq
   ·simp [Value.ownBlock] at mX
    subst mX
    exact .inl EP
  ·exact grow (some ⟨g,0,none⟩) cap (cur.toList.take (es.length * i.size)) e0 (by omega) (fun w' hw=>run_firstCells_some (P:=P) w' i.size es.length ⟨g,0,none⟩ es.length cap _ sL (fun j v hj=>by
    rw [gC,World.cell?_of_block (w:=w) (by rw [hw])]
    rw [aT] at hj
    split at hj
    ·simp only [World.cell?,hg,Nat.zero_add];simpa using hj
    ·cases hj)) E5 sL
end
section
variable {C:Ctx} {D:kZ} {σ:Sg} {γ:Ga} {a:Act} {w:World}
theorem dZ.LQ (h:dZ C D σ γ a w) {k j s:Nat} (hk:γ (lk k) = .pv s) (hj:γ (lk j) = .no) {w':World} (os:w'.os=w.os) (tape:w'.tape=w.tape) (out:w'.output=w.output) (size:w.heap.size≤w'.heap.size)
  (hh:∀b,b<w.heap.size→(D.τ (lk k)).ownBlock≠some b→w'.heap[b]?=w.heap[b]?) {v:Value} {es more:List AV} (ny:σ (lk k) = .sl s es)
  (pt:gD D.R w' (D.τ (lk k)) s) (pp:iy D.R w' (D.τ (lk k)) s (.sl s es)) (ct:gD D.R w' v s) (cp:iy D.R w' v s (.sl s (es++more))) (hv:∀g,v.ownBlock=some g→(D.τ (lk k)).ownBlock=some g∨w.heap.size≤g) :
  dZ C { D with τ:=dP D.τ (lk j) v } (cY σ [lk k,lk j] [.sl s es,.sl s (es++more)]) (cY γ [lk k,lk j] [.nO (lk j) s,.pc s]) a w':=by
 have jM:lk k≠lk j:=fun e=>by rw [e,hj] at hk;cases hk
 have vu:gw D γ (lk k)=(D.τ (lk k)).ownBlock:=iG (by rw [hk];rfl)
 have DR:=(h.uS hk).2.1
 have cq:gz D.R w D.R w':=fun b o hr=>⟨hr,World.cell?_of_block (w:=w) (hh b (h.nF b o hr) (fun e=>DR b e o hr))⟩
 have LU:cY σ [lk k,lk j] [.sl s es,.sl s (es++more)]=dP (dP σ (lk j) (.sl s (es++more))) (lk k) (.sl s es):=rfl
 have IQ:cY γ [lk k,lk j] [Gh.nO (lk j) s,.pc s]=dP (dP γ (lk j) (.pc s)) (lk k) (.nO (lk j) s):=rfl
 rw [LU,IQ]
 generalize Ig:dP (dP γ (lk j) (.pc s)) (lk k) (.nO (lk j) s)=nH
 generalize Ie:dP (dP σ (lk j) (.sl s (es++more))) (lk k) (.sl s es)=eX
 have g1:nH (lk k) = .nO (lk j) s:=by rw [←Ig,bK]
 have g2:nH (lk j) = .pc s:=by rw [←Ig,bO _ _ jM.symm,bK]
 have g3:∀x,x≠lk k→x≠lk j→nH x=γ x:=fun x h1 h2=>by rw [←Ig,bO _ _ h1,bO _ _ h2]
 have s1:eX (lk k) = .sl s es:=by rw [←Ie,bK]
 have s2:eX (lk j) = .sl s (es++more):=by rw [←Ie,bO _ _ jM.symm,bK]
 have s3:∀x,x≠lk k→x≠lk j→eX x=σ x:=fun x h1 h2=>by rw [←Ie,bO _ _ h1,bO _ _ h2]
 have jK:∀m,(nH m).gq=(γ m).gq:=fun m=>by
  by_cases e1:m=lk k
  ·subst e1;rw [g1,hk];rfl
  ·by_cases e2:m=lk j
   ·subst e2;rw [g2,hj];rfl
   ·rw [g3 m e1 e2]
 have lQ:∀m,(γ m).fL=true→(nH m).fL=true:=fun m hm=>by
  by_cases e1:m=lk k
  ·subst e1;rw [g1];rfl
  ·by_cases e2:m=lk j
   ·subst e2;rw [g2];rfl
   ·rw [g3 m e1 e2];exact hm
 have Rk:∀m,(γ m).fL=true→m≠lk j:=fun m hm e=>by subst e;rw [hj] at hm;cases hm
 have qb:∀m,(γ m).fL=true→dP D.τ (lk j) v m=D.τ m:=fun m hm=>bO _ _ (Rk m hm)
 have hM:∀g,fZ γ g→fZ nH g:=fun g hg=>by
  cases g with
  | ptr m o=>simp only [fZ,jK] at hg ⊢;exact hg
  | pm m=>simp only [fZ,jK] at hg ⊢;exact hg
  | fV q s'=>exact lQ _ hg
  | pe q=>exact lQ _ hg
  | cl ts=>exact fun t ht=>lQ _ (hg t ht)
  | y4 ts p=>exact ⟨fun t ht=>lQ _ (hg.1 t ht),fun q hq=>by rw [jK];exact hg.2 q hq⟩
  | nO q s' =>
   have h1:q≠lk k:=fun e=>by subst e;rcases hg with e | ⟨_,e⟩ <;> rw [hk] at e <;> cases e
   have h2:q≠lk j:=fun e=>by subst e;rcases hg with e | ⟨_,e⟩ <;> rw [hj] at e <;> cases e
   simp only [fZ,g3 q h1 h2];exact hg
  | _=>trivial
 have ES:∀t q,t<C.nt→t≠lk q:=fun t q ht e=>by have:=iu q;have:=h.km;omega
 -- other Mi blocks
 have Ip:∀key g,key≠lk k→gw D γ key=some g→w'.heap[g]?=w.heap[g]?:=fun key g hn hb=>hh g (h.lt hb) (fun e=>hn (h.zg hk (vu.trans e) hb))
 have xa:∀key,gw { D with τ:=dP D.τ (lk j) v } nH key=if key=lk j then v.ownBlock else gw D γ key:=fun key=>by
  by_cases e2:key=lk j
  ·subst e2;rw [aq rfl,iG (by rw [g2];rfl)];simp only [bK]
  ·rw [aj e2]
   by_cases e1:key=lk k
   ·subst e1;rw [iG (by rw [g1];rfl),iG (by rw [hk];rfl)];simp only [bO _ _ e2]
   ·unfold gw
    rw [g3 key e1 e2]
    simp only [bO _ _ e2]
 have IE:∀key g,key≠lk j→gw D γ key=some g→v.ownBlock=some g→key=lk k:=fun key g _ hb hg=>by
  rcases hv g hg with e | e
  ·exact h.zg hk (vu.trans e) hb
  ·have:=h.lt hb;omega
 have pF:∀key,key≠lk k→key≠lk j→(nH key).par=(γ key).par:=fun key h1 h2=>by rw [g3 key h1 h2]
 refine ⟨h.size,h.defers,h.km,fun m hm=>h.kk m (by rwa [jK] at hm),fun m hm=>?_,fun t ht=>?_,fun m ts hm=>?_,fun key s' hs=>?_,fun key s' hs=>?_,fun p q g hp hq=>?_,fun p g hp=>?_,fun key=>?_,?_,fun b o hr=>Nat.lt_of_lt_of_le (h.nF b o hr) size,fun n=>(h.gl n).mono cq,h.fix.of rfl (fun hp=>?_)⟩
 ·by_cases e1:m=lk k
  ·subst e1;exact iu _
  ·by_cases e2:m=lk j
   ·subst e2;exact iu _
   ·rw [g3 m e1 e2] at hm;exact h.mg m hm
 ·rw [s3 t (ES t k ht) (ES t j ht),g3 t (ES t k ht) (ES t j ht)]
  exact (h.slot t ht).imp id fun ⟨r,g⟩=>⟨r.mono cq,fun hs=>jU.congr (D:=D) (h.inv t) (fun _ _=>rfl) (fun q hq=>qb _ hq) (g hs)⟩
 ·have e1:m≠lk k:=fun e=>by subst e;rw [g1] at hm;cases hm
  have e2:m≠lk j:=fun e=>by subst e;rw [g2] at hm;cases hm
  rw [g3 m e1 e2] at hm
  rw [s3 m e1 e2]
  obtain ⟨cs,hV,o0⟩:=h.mem m ts hm
  have hi:=h.inv m
  rw [hm] at hi
  exact ⟨cs,hV.cq cq (Ip m _ e1 (iS hm)) hV.Cd,fun t ht=>by show cs[t.1]?=some (dP D.τ (lk j) v (lk t.2.1));rw [qb _ (hi t ht)];exact o0 t ht⟩
 ·have e1:key≠lk k:=fun e=>by subst e;rw [g1] at hs;cases hs
  have e2:key≠lk j:=fun e=>by subst e;rw [g2] at hs;cases hs
  rw [g3 key e1 e2] at hs
  simp only [bO _ _ e2]
  exact (h.fV key s' hs).cq fun g hg=>⟨Ip key g e1 ((iR hs).trans hg),fun _ hr=>hr⟩
 ·have qc:key≠lk k→s8 eX nH key:=fun e1 d Np s4 f1 f2=>by
   have e2:key≠lk j:=fun e=>by subst e;rw [g2] at f1;cases f1
   rw [g3 key e1 e2] at f1
   have hi:=h.inv key
   rw [f1] at hi
   have d1:d≠lk k:=fun e=>by subst e;rw [g1] at f2;cases f2
   have d2:d≠lk j:=fun e=>by subst e;rcases hi with e | ⟨_,e⟩ <;> rw [hj] at e <;> cases e
   rw [g3 d d1 d2] at f2
   rw [s3 key e1 e2,s3 d d1 d2]
   exact (h.ps key Np (by rw [f1];rfl)).2.2 d Np s4 f1 f2
  by_cases e1:key=lk k
  ·subst e1
   rw [g1] at hs
   cases hs
   rw [s1]
   simp only [bO _ _ jM]
   exact ⟨pt,pp,fun d Np s4 f1 f2=>by rw [g1] at f1;cases f1;exact .inr (.inr ⟨es,more,s1,s2⟩)⟩
  ·by_cases e2:key=lk j
   ·subst e2
    rw [g2] at hs
    cases hs
    rw [s2]
    simp only [bK]
    exact ⟨ct,cp,qc e1⟩
   ·have EM:=hs
    rw [g3 key e1 e2] at EM
    rw [s3 key e1 e2]
    simp only [bO _ _ e2]
    obtain ⟨q1,q2,_⟩:=h.ps key s' EM
    have hb:=fun g hg=>Ip key g e1 ((iG (Gh.pV EM)).trans hg)
    exact ⟨q1.cq fun g hg=>⟨hb g hg,fun _ hr=>hr⟩,q2.cq cq fun g hg=>⟨hb g hg,fun _ hr=>hr⟩,qc e1⟩
 ·rw [xa] at hp hq
  by_cases p2:p=lk j
  ·by_cases q2:q=lk j
   ·exact .inl (p2.trans q2.symm)
   ·rw [aq p2] at hp
    rw [aj q2] at hq
    have:=IE q g q2 hq hp
    subst this
    right;right
    rw [g1,p2];rfl
  ·rw [aj p2] at hp
   by_cases q2:q=lk j
   ·rw [aq q2] at hq
    have:=IE p g p2 hp hq
    subst this
    right;left
    rw [g1,q2];rfl
   ·rw [aj q2] at hq
    rcases h.sep p q g hp hq with e | e | e
    ·exact .inl e
    ·have p1:p≠lk k:=fun e'=>by subst e';rw [hk] at e;cases e
     right;left;rw [pF p p1 p2];exact e
    ·have q1:q≠lk k:=fun e'=>by subst e';rw [hk] at e;cases e
     right;right;rw [pF q q1 q2];exact e
 ·rw [xa] at hp
  by_cases p2:p=lk j
  ·rw [aq p2] at hp
   rcases hv g hp with e | e
   ·exact h.own (lk k) g (vu.trans e)
   ·exact .inr (Nat.le_trans h.ext.size e)
  ·rw [aj p2] at hp;exact h.own p g hp
 ·by_cases e1:key=lk k
  ·subst e1;rw [g1];exact .inr ⟨s,g2⟩
  ·by_cases e2:key=lk j
   ·subst e2;rw [g2];trivial
   ·rw [g3 key e1 e2];exact hM _ (h.inv key)
 ·refine ⟨os.trans h.ext.os,tape.trans h.ext.tape,out.trans h.ext.output,Nat.le_trans h.ext.size size,fun b hb hn=>?_,h.ext.cq.trans cq,h.ext.qG⟩
  refine (hh b (Nat.lt_of_lt_of_le hb h.ext.size) fun e=>?_).trans (h.ext.heap b hb hn)
  rcases h.own (lk k) b (vu.trans e) with e | e
  ·exact hn e
  ·omega
 ·have e2:lk 999999≠lk j:=fun e=>by rw [e,hj] at hp;cases hp
  refine ⟨?_,bO _ _ e2⟩
  by_cases e1:lk 999999=lk k
  ·rw [e1,g1];rfl
  ·rw [g3 _ e1 e2];exact hp
variable {o:Oper} {d:Nat} {K:Act→World→Prop} {Q:Exit→Act→World→Prop} (h:dZ C D σ γ a w)
include h
theorem Hf (hd:o.dst=some d) (hl:d<C.nt) {x y:Operand} {r q:eI} {t u e:TypeId} {i:TypeInfo} {z:Value} {du:TypeDesc} {k j s:Nat} {es fs:List AV} (ho:o.op = .call { callee := .builtin .append,args:=#[x,y],argTypes:=#[t,u] })
  (ht:C.P.underlying t=some (.slice e)) (hi:C.P.info? e=some i) (hz:i.zero=some z) (CA:z.cells.size=i.size) (hu:C.P.underlying u=some du) (wZ:∀k,du ≠ .int k) (hs:i.size=s)
  (hx:dv x r=true) (iw:small C.nt [x]=true) (hy:dv y q=true) (pE:small C.nt [y]=true) (hr:r.ev C.E σ = .pt) (hg:r.gh γ = .fV k s) (hk:γ (lk k) = .pv s) (ny:σ (lk k) = .sl s es) (hj:γ (lk j) = .no)
  (hq:q.ev C.E σ = .sl s fs) (xM:es.length+fs.length≤maxLen) (hb:(es.length+fs.length) * i.bytes≤140737488355328)
  (hK:∀D' a' w',dZ C D' (cY σ [d,lk k,lk j] [.pt,.sl s es,.sl s (es++fs)]) (cY γ [d,lk k,lk j] [.fV j s,.nO (lk j) s,.pc s]) a' w'→K a' w'):o.wp C.P a w K Q:=by
 subst hs
 have e0:=h.jz hx iw
 have hv:=e0.gh (by rw [hr];simp) (by rw [hr];simp)
 rw [hg] at hv
 have e2:=(h.jz hy pE).rep (by rw [hq];simp)
 rw [hq] at e2
 obtain ⟨hT,hP⟩:=h.uS hk
 rw [ny] at hP
 obtain ⟨news,vm,hL,rn⟩:=Source.B6 (P:=C.P) e2
 obtain ⟨v,w',eh,os,tape,out,size,hh,pt,pp,ct,cp,Oa⟩:=rA (ty:=o.type) ht hi hz CA hu wZ hT hP h.nF vm hL rn xM hb
 have hS:=h.LQ hk hj os tape out size hh ny pt pp ct cp Oa
 unfold Oper.wp
 rw [show (execOp a.eval o).run C.P w = .ok (.value v) w' by simp [execOp,ho,resolve,invoke,builtin,hv.1,eh],Oper.upon_value,hd]
 have Rq:(cY γ [lk k,lk j] [Gh.nO (lk j) i.size,.pc i.size]) (lk j) = .pc i.size:=by
  have jM:lk k≠lk j:=fun e=>by rw [e,hj] at hk;cases hk
  simp only [cY]
  rw [bO _ _ jM.symm,bK]
 refine hK _ _ _ (hS.put (g := .fV j i.size) hl (.inr ⟨.pt _,fun _=>?_⟩) rfl rfl ?_)
 ·show v=dP D.τ (lk j) v (lk j)∧v.oneCell'=true
  rw [bK]
  exact ⟨rfl,by rcases ct with rfl | ⟨_,_,_,_,_,_,rfl,_⟩ <;> rfl⟩
 ·show ((cY γ [lk k,lk j] [Gh.nO (lk j) i.size,.pc i.size]) (lk j)).fL=true
  rw [Rq];rfl
theorem dZ.xY {x:Operand} {r:eI} {k s s0:Nat} {fs:List AV} (hx:dv x r=true) (iw:small C.nt [x]=true) (hr:r.ev C.E σ = .pt) (hg:r.gh γ = .fV k s0) (hk:γ (lk k) = .pv s) (ny:σ (lk k) = .sl s fs) :
  ∃news,Source C.P w s (a.eval x) fs.length news∧eS D.R w (fs.flatMap AV.cells) news∧∀e∈fs,e.cells.length=s:=by
 have e0:=h.jz hx iw
 have hv:=e0.gh (by rw [hr];simp) (by rw [hr];simp)
 rw [hg] at hv
 obtain ⟨hT,Gt,Jq⟩:=h.uS hk
 rw [ny] at Jq
 obtain ⟨es,he,ub,hP⟩:=Jq.resolve_left (by simp)
 cases he
 rcases hP with ⟨rfl,e1⟩ | ⟨g,cap,cur,ce,fz,e1,hg1,hL⟩
 ·refine ⟨[],⟨fun _=>?_,fun _ _=>?_,by simp,by simp⟩,.nil,by simp⟩
  ·rw [hv.1,e1];rfl
  ·rw [hv.1,e1];rfl
 ·have tm:fs.length≤cap∧cur.size=cap * s:=by
   rcases hT with e2 | ⟨g',n,yG,nr,e',MN,e2,h1,h2,h3,h4,h5,h6⟩
   ·rw [e1] at e2;cases e2
   ·rw [e1] at e2;cases e2
    rw [hg1] at h1;cases h1
    exact ⟨h4,h3⟩
  have hle:fs.length * s≤cap * s:=bu _ tm.1
  have sL:(cur.toList.take (fs.length * s)).length=fs.length * s:=by simp;omega
  refine ⟨_,⟨fun _=>?_,fun w' hw=>?_,sL,hL.one⟩,hL,ub⟩
  ·rw [hv.1,e1];rfl
  ·rw [hv.1,e1]
   exact run_firstCells_some (P:=C.P) w' s fs.length ⟨g,0,none⟩ fs.length cap _ sL (fun j v hj=>by
    rw [gC,World.cell?_of_block (w:=w) (by rw [hw])]
    rw [aT] at hj
    split at hj
    ·simp only [World.cell?,hg1,Nat.zero_add];simpa using hj
    ·cases hj)
end
end Go.Eng
namespace Go.Eng
open Go.RowKit
section
variable {C:Ctx} {sg:Nat→dw}
theorem KE {k d' s b:Nat}:ei C sg (.A6 k d' s b):=by
 intro D σ γ a w dst op ty pos after guard rs ds gd ws gs K' Q h ho hk fc hs hg hK
 simp only [dS,af,beq_iff_eq,ao,au] at hk
 obtain ⟨⟨mi,gG⟩,jx⟩:=hk
 obtain ⟨d,rfl,hl,rfl⟩:=gx jx
 simp only [ga] at ho
 split at ho
 ·rename_i args rV r q r3 r4
  simp only [af,beq_iff_eq] at ho
  obtain ⟨⟨ho,h1⟩,h2⟩:=ho
  obtain ⟨t,u,e,i,z,du,rfl,q1,q2,q3,q4,q5,q6,q7,q8⟩:=rY h1 h2
  have ht:=Bk gG
  simp only [List.drop_succ_cons,bc,ar,and_true] at ht
  obtain ⟨rfl,rfl⟩:=ht
  obtain ⟨x,y,pD⟩:=wz (l:=args.toList) (by rw [iW ho];rfl)
  rw [pD] at ho
  obtain ⟨r',q',zB,hx,hy⟩:=j0 ho
  simp only [ar,and_true] at zB
  obtain ⟨rfl,rfl⟩:=zB
  have ea:=s7 pD
  subst ea
  simp only [ao,au,fW] at hs
  split at hs
  ·rename_i pr fs s' es v2 heq
   simp only [ar,and_true,eI.ev] at heq
   obtain ⟨e1,e2,e3,_⟩:=heq
   obtain ⟨rfl,rfl,p2,p3,rfl⟩:=hs
   simp only [ao,au,ft] at hg
   split at hg
   ·rename_i k1 s1 g s2 fC
    simp only [ar,and_true,eI.gh] at fC
    obtain ⟨g1,g2,g3,g4⟩:=fC
    split at hg
    ·rename_i hc
     obtain ⟨rfl,rfl,rfl,jM⟩:=hc
     cases hg
     exact Hf h rfl hl rfl q1 q2 q5 q6 q7 q8 q3 hx (bQ fc (by simp [Op.operands,Call.operands])) hy (bQ fc (by simp [Op.operands,Call.operands])) e1 g1 g3 e3 g4 e2 p2 (by rw [q4];exact p3) hK
    ·cases hg
   ·cases hg
  ·cases hs
 ·cases ho
theorem JE {rs:List eI} {n a b c:Nat} (h:(rs.drop n).map (fun r=>match r with | eI.s t=>some t | _=>none)=[some a,some b,some c]):rs.drop n=[.s a,.s b,.s c] :=
 ly (ks:=[a,b,c]) h
theorem KU {k d' q0 s b:Nat}:ei C sg (.Fs k d' q0 s b):=by
 intro D σ γ a w dst op ty pos after guard rs ds gd ws gs K' Q h ho hk fc hs hg hK
 simp only [dS,af,beq_iff_eq,ao,au] at hk
 obtain ⟨⟨mi,gG⟩,jx⟩:=hk
 obtain ⟨d,rfl,hl,rfl⟩:=gx jx
 simp only [ga] at ho
 split at ho
 ·rename_i args rV r q r3 r4 r5
  simp only [af,beq_iff_eq] at ho
  obtain ⟨⟨ho,h1⟩,h2⟩:=ho
  obtain ⟨t,u,e,i,z,du,rfl,q1,q2,q3,q4,q5,q6,q7,q8⟩:=rY h1 h2
  have ht:=JE gG
  simp only [List.drop_succ_cons,bc,ar,and_true] at ht
  obtain ⟨rfl,rfl,rfl⟩:=ht
  obtain ⟨x,y,pD⟩:=wz (l:=args.toList) (by rw [iW ho];rfl)
  rw [pD] at ho
  obtain ⟨r',q',zB,hx,hy⟩:=j0 ho
  simp only [ar,and_true] at zB
  obtain ⟨rfl,rfl⟩:=zB
  have ea:=s7 pD
  subst ea
  simp only [ao,au,fW] at hs
  split at hs
  ·rename_i s' es v1 v2 pr fs heq
   simp only [ar,and_true,eI.ev] at heq
   obtain ⟨e1,e2,_,_,e5⟩:=heq
   obtain ⟨rfl,rfl,p2,p3,rfl⟩:=hs
   simp only [ao,au,ft] at hg
   split at hg
   ·rename_i k1 s1 k2 s2 s3 s4 fC
    simp only [ar,and_true,eI.gh] at fC
    obtain ⟨g1,g2,g3,g4,g5⟩:=fC
    split at hg
    ·rename_i hc
     obtain ⟨rfl,rfl,rfl,jM,rfl,rfl,rfl⟩:=hc
     cases hg
     obtain ⟨news,n1,n2,n3⟩:=h.xY hy (bQ fc (by simp [Op.operands,Call.operands])) e2 g2 g5 e5
     exact B4 (q:=q) h rfl hl rfl q1 q2 q5 q6 q7 q8 q3 hx (bQ fc (by simp [Op.operands,Call.operands])) e1 g1 g3 g4 jM n1 n2 n3 p2 (by rw [q4];exact p3) hK
    ·cases hg
   ·cases hg
  ·cases hs
 ·cases ho
theorem KF {k:Nat}:ei C sg (.FK k):=by
 intro D σ γ a w dst op ty pos after guard rs ds gd ws gs K' Q h ho hk fc hs hg hK
 simp only [dS,af] at hk
 obtain ⟨⟨mi,gG⟩,jx⟩:=hk
 obtain ⟨d,rfl,hl,rfl⟩:=gx (l:=[]) jx
 simp only [ga] at ho
 split at ho
 ·rename_i t x y r q
  simp only [af] at ho
  obtain ⟨hx,he⟩:=ho
  obtain ⟨e,he⟩:=Option.isSome_iff_exists.1 he
  cases q <;> simp at gG
  subst gG
  simp only [ao,au,fW] at hs
  simp only [ao,au,ft] at hg
  split at hg
  ·rename_i k' s0 s1 fC
   simp only [ar,and_true,eI.gh] at fC
   split at hg
   ·rename_i hc
    subst hc
    cases hg
    split at hs
    ·rename_i s' heq
     simp only [ar,and_true,eI.ev] at heq
     subst hs
     exact BY h rfl hl rfl (iM he) hx (bQ fc (by simp [Op.operands])) heq.1 fC.1 fC.2 heq.2 hK
    ·rename_i s' e1 e2 heq
     simp only [ar,and_true,eI.ev] at heq
     subst hs
     exact BY h rfl hl rfl (iM he) hx (bQ fc (by simp [Op.operands])) heq.1 fC.1 fC.2 heq.2 hK
    ·cases hs
   ·cases hg
  ·cases hg
 ·cases ho
theorem NN {m n s:Nat}:ei C sg (.la m n s):=by
 intro D σ γ a w dst op ty pos after guard rs ds gd ws gs K' Q h ho hk fc hs hg hK
 simp only [dS,af] at hk
 obtain ⟨⟨_,mi,gG⟩,jx⟩:=hk
 obtain ⟨d,rfl,hl,rfl⟩:=gx (l:=[]) jx
 simp only [ga] at ho
 split at ho
 ·rename_i t x y r q z
  simp only [af] at ho
  obtain ⟨ht,ho⟩:=ho
  split at ht
  ·rename_i n' e he
   simp only [af,beq_iff_eq] at ht
   obtain ⟨rfl,ht⟩:=ht
   obtain ⟨inf,h1,h2⟩:=iJ ht
   obtain ⟨r',q',e',hx,hy⟩:=j0 ho
   cases e'
   cases z <;> simp at gG
   subst gG
   simp only [ao,au,fW] at hs
   simp only [ao,au,ft] at hg
   split at hs
   ·rename_i ik i cs heq
    simp only [ar,and_true,eI.ev] at heq
    obtain ⟨h0,gS,rfl⟩:=hs
    split at hg
    ·rename_i m' o' g0 ts fC
     simp only [ar,and_true,eI.gh] at fC
     split at hg
     ·rename_i hc
      obtain ⟨rfl,rfl,_⟩:=hc
      cases hg
      exact Ka h rfl hl rfl he h1 h2 hx hy (bQ fc (by simp [Op.operands])) (bQ fc (by simp [Op.operands])) heq.1 fC.1 fC.2.2 heq.2.1 h0 gS hK
     ·cases hg
    ·cases hg
   ·cases hs
  ·cases ht
 ·cases ho
theorem NM {m s:Nat}:ei C sg (.ll m s):=by
 intro D σ γ a w dst op ty pos after guard rs ds gd ws gs K' Q h ho hk fc hs hg hK
 simp only [dS,af] at hk
 obtain ⟨⟨_,mi,gG⟩,jx⟩:=hk
 obtain ⟨d,rfl,hl,rfl⟩:=gx (l:=[]) jx
 simp only [ga] at ho
 split at ho
 ·rename_i t x r rest
  simp at mi
  obtain ⟨q,rfl⟩:=oO mi
  cases q <;> simp at gG
  subst gG
  simp only [af] at ho
  obtain ⟨ht,ho⟩:=ho
  obtain ⟨inf,h1,h2,h3,h4⟩:=iV ht
  simp only [ao,au,fW] at hs
  split at hs
  ·rename_i i s' o' cs heq
   simp only [ar,and_true,eI.ev] at heq
   obtain ⟨y,rfl,hp,rfl⟩:=hs
   simp only [ao,au,ft] at hg
   split at hg
   ·rename_i m' ts fC
    simp only [ar,and_true,eI.gh] at fC
    split at hg
    ·rename_i hc
     obtain ⟨rfl,rfl⟩:=hc
     cases hg
     exact J8 h rfl hl rfl h1 h2 h3 ho (bQ fc (by simp [Op.operands])) heq.1 fC.1 fC.2 heq.2 hp hK
    ·cases hg
   ·cases hg
  ·cases hs
 ·cases ho
theorem Ey (hE:∀f,fF C.P C.E.gl f (C.E.fs f)∧(C.E.fs f).sg=sg f) {f n cZ i k s:Nat}:ei C sg (.jQ f n cZ i k s):=by
 intro D σ γ a w dst op ty pos after guard rs ds gd ws gs K' Q h ho hk fc hs hg hK
 simp only [dS,af,beq_iff_eq,ao,au] at hk
 obtain ⟨⟨mi,gG⟩,jx⟩:=hk
 obtain ⟨d,rfl,hl,rfl⟩:=gx (l:=[]) jx
 simp only [ga] at ho
 split at ho
 ·rename_i g args rV
  simp only [af,beq_iff_eq,az] at ho
  obtain ⟨⟨⟨⟨⟨rfl,Gi⟩,lO,hn⟩,hx⟩,rE⟩,AH⟩:=ho
  rw [←(hE f).2] at lO hn
  have Ge:(rs.take n).length=n:=by rw [←iW hx];simpa using rE
  have wK:small C.nt args.toList=true:=ku fc (fun x hx=>by
   have:x∈args:=by simpa using hx
   simp only [Op.operands,Call.operands,Array.toList_append,List.mem_append]
   exact .inr hx)
  have nz:rs.drop n=[.s (lk k)]:=by
   simp only [aL,aA] at mi
   obtain ⟨q,hq⟩:=oO (l:=rs.drop n) (by rw [aS];omega)
   rw [hq] at gG ⊢
   cases q <;> simp at gG
   rw [gG]
  have sJ:rs=rs.take n++[.s (lk k)]:=by rw [←nz,List.take_append_drop]
  simp only [fW] at hs
  obtain ⟨es,outs,v1,v2,hG,ua,rfl⟩:=hs
  simp only [ft] at hg
  rw [aB] at hg
  obtain ⟨⟨g1,g2⟩,hg⟩:=hg
  cases hg
  have CR:∀{X:Type} (F:eI→X),(rs.map F)[n]?=some (F (.s (lk k))):=fun F=>by
   have h1:rs[n]?=some (.s (lk k)):=by rw [sJ,aU (by omega),Ge];simp
   rw [aP,h1];rfl
  rw [CR] at v1 g2
  simp only [eI.ev,eI.gh,ax] at v1 g2
  have hi:∀{X:Type} (F:eI→X),((rs.take n).map F)[i]?=(rs.map F)[i]?:=fun F=>by
   rw [List.map_take,aT,aq AH]
  rw [←hi] at v2 g1
  rw [←List.map_take] at hG
  exact B0 h rfl hl rfl Gi (hE f).1 lO hn hx wK v2 g1 g2 v1 hG ua hK
 ·cases ho
theorem Ex (hE:∀f,fF C.P C.E.gl f (C.E.fs f)∧(C.E.fs f).sg=sg f) {f n cZ i s:Nat}:ei C sg (.mI f n cZ i s):=by
 intro D σ γ a w dst op ty pos after guard rs ds gd ws gs K' Q h ho hk fc hs hg hK
 simp only [dS,af] at hk
 obtain ⟨mi,jx⟩:=hk
 obtain ⟨d,rfl,hl,rfl⟩:=gx (l:=[]) jx
 simp only [ga] at ho
 split at ho
 ·rename_i g args rV
  simp only [af,beq_iff_eq,az] at ho
  obtain ⟨⟨⟨⟨⟨rfl,Gi⟩,lO,hn⟩,hx⟩,rE⟩,yn⟩:=ho
  rw [←(hE f).2] at lO hn
  have wK:small C.nt args.toList=true:=ku fc (fun x hx=>by
   have:x∈args:=by simpa using hx
   simp only [Op.operands,Call.operands,Array.toList_append,List.mem_append]
   exact .inr hx)
  simp only [fW] at hs
  obtain ⟨outs,v1,hG,ua,rfl⟩:=hs
  simp only [ft,ax] at hg
  subst hg
  split at yn
  ·rename_i hi
   exact BZ h rfl hl rfl Gi (hE f).1 lO hn hx wK hi v1 hG ua hK
  ·cases yn
 ·cases ho
end
end Go.Eng
namespace Go.Eng
open Go.RowKit
theorem xo {fn:Func} (h:fn.name=nh):Extern.find fn=some Extern.BytealgIndexByte.indexByte:=by
 have e1:(Extern.allGenericRows.lookup nh)=none:=by kernel_rfl
 have e2:(Extern.allTypedRows.lookup nh)=none:=by kernel_rfl
 have e3:(Extern.allRows.lookup nh)=some Extern.BytealgIndexByte.indexByte:=by kernel_rfl
 unfold Extern.find
 simp only [h,e1,e2,e3]
 rfl
theorem xn {fn:Func} (h:fn.name=nh) (h2:fn.origin = "" ∨ fn.origin=nh):Extern.findNext fn=none:=by
 have e1:(Extern.allNextRows.lookup nh)=none:=by kernel_rfl
 have e2:(Extern.allNextRows.lookup "")=none:=by kernel_rfl
 unfold Extern.findNext
 rcases h2 with h2 | h2 <;> simp only [h,h2,e1,e2] <;> rfl
section
variable {C:Ctx} {D:kZ} {σ:Sg} {γ:Ga} {a:Act} {w:World}
variable {o:Oper} {d:Nat} {K:Act→World→Prop} {Q:Exit→Act→World→Prop} (h:dZ C D σ γ a w)
include h
theorem B1 (hd:o.dst=some d) (hl:d<C.nt) {x:Operand} {r:eI} {t e y:TypeId} {s:Nat} {es:List AV} (ho:o.op = .binOp .eql t x (.const (.slice none 0 0)) y) (ht:C.P.underlying t=some (.slice e)) (hx:dv x r=true) (iw:small C.nt [x]=true)
  (hr:r.ev C.E σ = .sl s es) (hK:∀D' a' w',dZ C D' (dP σ d (match es with | [] => .ab | _ :: _ => .v (.bool false))) (dP γ d .no) a' w'→K a' w'):o.wp C.P a w K Q:=by
 have e0:=(h.jz hx iw).rep (by rw [hr];simp)
 rw [hr] at e0
 have hc:a.eval (.const (.slice none 0 0)) = .slice none 0 0:=rfl
 have eh:∀{q:Option Addr} {n c:Nat},a.eval x = .slice q n c→(execOp a.eval o).run C.P w = .ok (.value (.bool q.isNone)) w:=fun {q n c} hval=>by
  simp only [execOp,ho,hval,hc,eqGuard,Sem.run_bind,Sem.run_pure,Sem.run_ite,Result.andThen_ok]
  simp only [aR,bo,if_false,Sem.run_pure,Result.andThen_ok]
  rw [Lib.run_eql_slice_nil w t e _ _ _ _ _ ht]
  rfl
 cases es with
 | nil =>
  obtain ⟨q,cap,hq⟩:=e0.Bp
  exact h.ir hd hl (eh hq) (.ab _) hK
 | cons z zs =>
  generalize hv:a.eval x=v at e0
  cases e0 with
  | sl a b c d=>exact h.ir hd hl (eh hv) (.v _) hK
theorem Ha (hd:o.dst=some d) (hl:d<C.nt) {x y:Operand} {r q:eI} {f:Nat} {ts:Array TypeId} {b:ByteArray} {c:Int} (ho:o.op = .call { callee := .value (.func f),args:=#[x,y],argTypes:=ts }) (hf:sS C.P f nh=true)
  (hx:dv x r=true) (iw:small C.nt [x]=true) (hy:dv y q=true) (pE:small C.nt [y]=true) (hr:r.ev C.E σ = .v (.string b)) (hq:q.ev C.E σ = .v (.int .u8 c))
  (hK:∀D' a' w',dZ C D' (dP σ d (.v (.int .i64 (Lib.indexByte b.data.toList c.toNat.toUInt8)))) (dP γ d .no) a' w'→K a' w'):o.wp C.P a w K Q:=by
 have e1:=(h.jz hx iw).rep (by rw [hr];simp)
 rw [hr] at e1
 have e2:=(h.jz hy pE).rep (by rw [hq];simp)
 rw [hq] at e2
 unfold sS at hf
 cases hfn:C.P.funcs[f]? with
 | none=>simp [hfn] at hf
 | some fn =>
  simp only [hfn,Option.any_some,af,beq_iff_eq,Bool.or_eq_true] at hf
  obtain ⟨⟨hn,hb⟩,Ld⟩:=hf
  have Gq:=run_callFunc_extern (P:=C.P) hfn (by rw [hn];decide +kernel) hb (xn hn Ld) (xo hn) #[.string b,.int .u8 c] w
  rw [Lib.run_indexByteString] at Gq
  have eh:(execOp a.eval o).run C.P w = .ok (.value (.int .i64 (Lib.indexByte b.data.toList c.toNat.toUInt8))) w:=by
   have he:a.eval (.func f) = .func (.func f) #[] #[]:=rfl
   simp only [execOp,ho,resolve,Deferred.ofValue,he,invoke]
   simpa [e1.iB,e2.iB,resolve,Deferred.ofValue,invoke] using Gq
  exact h.ir hd hl eh (.v _) hK
end
section
variable {C:Ctx} {sg:Nat→dw}
theorem KL:ei C sg .Kt:=by
 intro D σ γ a w dst op ty pos after guard rs ds gd ws gs K' Q h ho hk fc hs hg hK
 simp only [ft,ax] at hg
 subst hg
 obtain ⟨d,rfl,hl,rfl⟩:=gx (l:=[]) hk
 simp only [ga] at ho
 split at ho
 ·rename_i t x y r
  simp only [af] at ho
  obtain ⟨hx,he⟩:=ho
  obtain ⟨e,he⟩:=Option.isSome_iff_exists.1 he
  simp only [ao,au,fW] at hs
  split at hs
  ·rename_i s' heq
   simp only [ar,and_true,eI.ev] at heq
   subst hs
   exact B1 h rfl hl rfl (iM he) hx (bQ fc (by simp [Op.operands])) heq hK
  ·rename_i s' e1 e2 heq
   simp only [ar,and_true,eI.ev] at heq
   subst hs
   exact B1 h rfl hl rfl (iM he) hx (bQ fc (by simp [Op.operands])) heq hK
  ·cases hs
 ·cases ho
theorem Kz:ei C sg .Jj:=by
 intro D σ γ a w dst op ty pos after guard rs ds gd ws gs K' Q h ho hk fc hs hg hK
 simp only [ft,ax] at hg
 subst hg
 obtain ⟨d,rfl,hl,rfl⟩:=gx (l:=[]) hk
 simp only [ga] at ho
 split at ho
 ·rename_i g args rV
  simp only [af,beq_iff_eq] at ho
  obtain ⟨⟨hf,hx⟩,rE⟩:=ho
  obtain ⟨x,y,pD⟩:=wz (l:=args.toList) (by simpa using rE)
  rw [pD] at hx
  obtain ⟨r,q,rfl,hx,hy⟩:=j0 hx
  have ea:=s7 pD
  subst ea
  simp only [ao,au,fW] at hs
  split at hs
  ·rename_i b c heq
   simp only [ar,and_true,eI.ev] at heq
   subst hs
   exact Ha h rfl hl rfl hf hx (bQ fc (by simp [Op.operands,Call.operands])) hy (bQ fc (by simp [Op.operands,Call.operands])) heq.1 heq.2 hK
  ·cases hs
 ·cases ho
end
end Go.Eng
namespace Go.Eng
open Go.RowKit
theorem eS.set {R:Reach} {w:World} {x:AV} {y:Value} (hx:Rep R w x y):∀{xs:List AV} {ys:List Value} {i:Nat},eS R w xs ys→ys[i]?=some y→eS R w (xs.set i x) ys
 | _,_,0,.cons a _ t,e=>by simp at e;subst e;exact .cons a hx t
 | _,_,i+1,.cons a h t,e => .cons a h (eS.set hx t (by simpa using e))
 | _,_,i,.nil,e=>by simp at e
theorem tM (cs:List AV):∀ts:List (Nat × (Nat × Nat)),(kV cs ts).length=cs.length
 | []=>rfl
 | t :: ts=>by simp [kV,tM cs ts]
theorem eS.kV {R:Reach} {w:World} {xs:List AV} {ys:List Value} (h:eS R w xs ys):∀{ts:List (Nat × (Nat × Nat))},(∀t∈ts,ys[t.1]?=some (.slice none 0 0))→eS R w (Eng.kV xs ts) ys
 | [],_=>h
 | t :: ts,hn=>eS.set (.nil _) (eS.kV h fun u hu=>hn u (List.mem_cons_of_mem _ hu)) (hn t (List.mem_cons_self ..))
section
variable {C:Ctx} {D:kZ} {σ:Sg} {γ:Ga} {a:Act} {w:World}
theorem dZ.FH (h:dZ C D σ γ a w) {m:Nat} {us us' ts:List (Nat × (Nat × Nat))} {cs:List AV} (hm:γ m = .cl us) (ny:σ m = .ag cs) (CC:∀t∈us',t∈us) (o0:∀t∈ts,cs[t.1]?=some .nil)
  (pa:∀t∈ts,γ (lk t.2.1) = .no) (hnd:(ts.map (·.2.1)).Nodup) :
  ∃D',dZ C D' (dP (cY σ (ts.map fun t=>lk t.2.1) (ts.map fun _ => .dead)) m (.ag (Eng.kV cs ts))) (dP (cY γ (ts.map fun t=>lk t.2.1) (ts.map fun t => .live t.2.2)) m (.cl (us'++ts))) a w:=by
 obtain ⟨vs,tp,hc⟩:=h.mem m us hm
 rw [ny] at tp
 have qd:=tp.Cd
 obtain ⟨elem,hh,hL⟩:=tp.ag
 obtain ⟨D1,h1,hR,_,_,ht1,gG,ED,EE⟩:=h.zo ts pa hnd
 have Oz:m<1000000:=(h.kk m (by rw [hm];rfl)).2
 have CO:∀t∈ts,m≠lk t.2.1:=fun t _=>by have:=iu t.2.1;omega
 have oR:cY γ (ts.map fun t=>lk t.2.1) (ts.map fun t => .live t.2.2) m = .cl us:=by rw [gG m CO];exact hm
 have yn:∀t∈ts,vs[t.1]?=some (.slice none 0 0):=fun t ht=>by
  obtain ⟨y,tZ,_,DQ⟩:=hL.get t.1 _ (o0 t ht)
  rw [aT] at tZ
  split at tZ
  ·rw [tZ,DQ.iB]
  ·cases tZ
 have RO:eS D.R w (Eng.kV cs ts) (vs.take (Eng.kV cs ts).length):=by
  rw [tM]
  refine eS.kV hL fun t ht=>?_
  have:=(aE.1 (o0 t ht)).1
  rw [aT,aq this]
  exact yn t ht
 have wR:=h.inv m
 rw [hm] at wR
 refine ⟨D1,h1.store (us:=us'++ts) (cs:=vs) oR (w':=w) rfl rfl rfl rfl (fun _ _=>rfl) ?_ fun t ht=>?_⟩
 ·rw [hR,EE];exact ⟨elem,hh,.inr ⟨_,rfl,RO⟩,qd⟩
 ·rcases List.mem_append.1 ht with ht | ht
  ·have ht:=CC t ht
   have lQ:=wR t ht
   by_cases hx:∃u∈ts,lk t.2.1=lk u.2.1
   ·obtain ⟨u,hu,e⟩:=hx
    rw [e,pa u hu] at lQ;cases lQ
   ·have hx:∀u∈ts,lk t.2.1≠lk u.2.1:=fun u hu e=>hx ⟨u,hu,e⟩
    rw [gG _ hx,ED _ hx];exact ⟨lQ,hc t ht⟩
  ·exact ⟨(ht1 t ht).2,by rw [(ht1 t ht).1];exact yn t ht⟩
variable {o:Oper} {d:Nat} {K:Act→World→Prop} {Q:Exit→Act→World→Prop} (h:dZ C D σ γ a w)
include h
theorem Hm {x:Operand} {r:eI} {t:TypeId} {m:Nat} {ts:List (Nat × (Nat × Nat))} (hd:o.dst=some d) (hl:d<C.nt) (ho:o.op = .box t x) (hx:dv x r=true) (iw:small C.nt [x]=true) (hp:(r.ev C.E σ).plain=true) (hm:γ m = .no) (h1:C.nt≤m) (h2:m<999999)
  (o0:∀t∈ts,(r.ev C.E σ).cells[t.1]?=some .nil) (pa:∀t∈ts,γ (lk t.2.1) = .no) (hnd:(ts.map (·.2.1)).Nodup)
  (hK:∀D' a' w',dZ C D' (cY σ (d :: m :: ts.map fun t=>lk t.2.1) (.pt :: .ag (Eng.kV (r.ev C.E σ).cells ts) :: ts.map fun _ => .dead)) (cY γ (d :: m :: ts.map fun t=>lk t.2.1) (.ptr m 0 :: .cl ts :: ts.map fun t => .live t.2.2)) a' w'→K a' w'):o.wp C.P a w K Q:=by
 have Lx:m≠d:=by omega
 have ES:=h.km
 refine FV h hd hl ho hx iw hp hm h1 h2 fun D' a' w' hS=>?_
 simp only [cY] at hS
 have Lr:∀k∈ts.map fun t=>lk t.2.1,d≠k:=fun k hk=>by obtain ⟨t,_,rfl⟩:=aW.1 hk;have:=iu t.2.1;omega
 have PC:d ∉ ts.map fun t=>lk t.2.1:=fun hk=>Lr _ hk rfl
 have CU:∀k∈ts.map fun t=>lk t.2.1,m≠k:=fun k hk=>by obtain ⟨t,_,rfl⟩:=aW.1 hk;have:=iu t.2.1;omega
 have Lq:m ∉ ts.map fun t=>lk t.2.1:=fun hk=>CU _ hk rfl
 obtain ⟨D2,h2⟩:=hS.FH (m:=m) (us:=[]) (us':=[]) (ts:=ts) (by rw [bO _ _ Lx,bK]) (by rw [bO _ _ Lx,bK]) (by simp) o0 (fun t ht=>by
  have e1:=Lr _ (aW.2 ⟨t,ht,rfl⟩)
  have e2:=CU _ (aW.2 ⟨t,ht,rfl⟩)
  rw [bO _ _ e1.symm,bO _ _ e2.symm];exact pa t ht) hnd
 refine hK D2 a' w' ?_
 rw [iZ PC,iZ Lq,iZ PC,iZ Lq,mA _ _ _ Lx,mA _ _ _ Lx,oq,oq] at h2
 simp only [cY]
 have c1:∀{X:Type} (f:Nat→X) (p q:X),dP (dP f m p) d q=dP (dP f d q) m p:=fun f p q=>mA _ _ _ Lx
 rw [c1,c1]
 exact h2
theorem Hb {x v:Operand} {r q:eI} {t:TypeId} {inf:TypeInfo} {m o' n:Nat} {cs:List AV} {us ts:List (Nat × (Nat × Nat))} (hd:o.dst=none) (ho:o.op = .store t x v) (hi:C.P.info? t=some inf) (hz:inf.size=n)
  (hx:dv x r=true) (iw:small C.nt [x]=true) (hv:dv v q=true) (pE:small C.nt [v]=true) (hr:r.ev C.E σ = .pt) (hg:r.gh γ = .ptr m o') (hm:γ m = .cl us) (ny:σ m = .ag cs)
  (hp:(q.ev C.E σ).plain=true) (hn:(q.ev C.E σ).cells.length=n) (mQ:o'+n≤cs.length)
  (o0:∀t∈ts,(gV cs o' (q.ev C.E σ).cells)[t.1]?=some .nil) (pa:∀t∈ts,γ (lk t.2.1) = .no) (hnd:(ts.map (·.2.1)).Nodup)
  (hK:∀D' a' w',dZ C D' (cY σ (m :: ts.map fun t=>lk t.2.1) (.ag (Eng.kV (gV cs o' (q.ev C.E σ).cells) ts) :: ts.map fun _ => .dead)) (cY γ (m :: ts.map fun t=>lk t.2.1) (.cl (us.filter (fun t=>t.1<o' || o'+n≤t.1)++ts) :: ts.map fun t => .live t.2.2)) a' w'→K a' w'):o.wp C.P a w K Q:=by
 have Oz:m<1000000:=(h.kk m (by rw [hm];rfl)).2
 have CU:∀k∈ts.map fun t=>lk t.2.1,m≠k:=fun k hk=>by obtain ⟨t,_,rfl⟩:=aW.1 hk;have:=iu t.2.1;omega
 have Lq:m ∉ ts.map fun t=>lk t.2.1:=fun hk=>CU _ hk rfl
 refine FQ h hd ho hi hz hx iw hv pE hr hg hm ny hp hn mQ fun D' a' w' hS=>?_
 obtain ⟨D2,h2⟩:=hS.FH (m:=m) (us':=us.filter (fun t=>t.1<o' || o'+n≤t.1)) (ts:=ts) (by rw [bK]) (by rw [bK]) (fun t ht=>List.mem_append.2 (.inl ht)) o0 (fun t ht=>by
  have e2:=CU _ (aW.2 ⟨t,ht,rfl⟩)
  rw [bO _ _ e2.symm];exact pa t ht) hnd
 refine hK D2 a' w' ?_
 rw [iZ Lq,iZ Lq,oq,oq] at h2
 exact h2
end
section
variable {C:Ctx} {sg:Nat→dw}
theorem KQ {m:Nat} {ts:List (Nat × (Nat × Nat))}:ei C sg (.yH m ts):=by
 intro D σ γ a w dst op ty pos after guard rs ds gd ws gs K' Q h ho hk fc hs hg hK
 simp only [dS,af,az,beq_iff_eq] at hk
 obtain ⟨⟨⟨oR,qw⟩,mi,gG⟩,jx⟩:=hk
 obtain ⟨d,rfl,hl,rfl⟩:=gx jx
 simp only [ga] at ho
 split at ho
 ·rename_i t x r rest
  simp only [List.drop_succ_cons,bc] at gG
  have sJ:=ly gG
  subst sJ
  simp only [ao,fW] at hs
  obtain ⟨p1,p2,rfl⟩:=hs
  simp only [ao,ft] at hg
  rw [aB] at hg
  obtain ⟨⟨c1,c2,c3⟩,hg⟩:=hg
  cases hg
  simp only [List.all_cons,af,az,bk,bj,aW] at c2
  refine Hm h rfl hl rfl ho (bQ fc (by simp [Op.operands])) p1 c2.1 oR qw p2 (fun t ht=>c2.2 _ ⟨t,ht,rfl⟩) c3 hK
 ·cases ho
theorem KA {m o' n:Nat} {ts:List (Nat × (Nat × Nat))}:ei C sg (.qX m o' n ts):=by
 intro D σ γ a w dst op ty pos after guard rs ds gd ws gs K' Q h ho hk fc hs hg hK
 simp only [dS,af,az,beq_iff_eq,Option.isNone_iff_eq_none] at hk
 obtain ⟨⟨⟨⟨oR,rfl⟩,rfl⟩,mi,gG⟩,zE⟩:=hk
 simp only [ga] at ho
 split at ho
 ·rename_i t x v p q r rest
  simp only [af,beq_iff_eq] at ho
  obtain ⟨⟨⟨ht,hx⟩,hv⟩,_⟩:=ho
  obtain ⟨inf,h1,h2⟩:=iJ ht
  cases q with
  | s j =>
   simp at zE
   subst zE
   simp only [List.drop_succ_cons,bc] at gG
   have sJ:=ly gG
   subst sJ
   simp only [ao,fW] at hs
   split at hs
   ·rename_i cs y BG heq
    simp only [ar,eI.ev] at heq
    obtain ⟨e1,e2,e3,e4⟩:=heq
    obtain ⟨p1,p2,p3,p4,rfl⟩:=hs
    subst e3
    simp only [ao,ft] at hg
    split at hg
    ·rename_i m' Mm us g Nr fC
     simp only [ar,eI.gh] at fC
     obtain ⟨f1,f2,f3,f4⟩:=fC
     subst f4
     rw [aB] at hg
     obtain ⟨⟨rfl,rfl,_,c2,c3⟩,hg⟩:=hg
     cases hg
     simp only [bk,bj,aW,az] at c2
     exact Hb h rfl rfl h1 h2 hx (bQ fc (by simp [Op.operands])) hv (bQ fc (by simp [Op.operands])) e1 f1 f2 e2 p1 p2 p3 p4 (fun t ht=>c2 _ ⟨t,ht,rfl⟩) c3 hK
    ·cases hg
   ·cases hs
  | c=>simp at zE
  | g=>simp at zE
 ·cases ho
end
end Go.Eng
namespace Go.Eng
open Go.RowKit
theorem dw.xZ {g:dw} (h:g.plain=true):g.ref=none∧g.fy=[]∧g.own=[]∧g.new=none∧g.fx=[]∧g.ps=none:=by
 simp only [dw.plain,af,Option.isNone_iff_eq_none,List.isEmpty_iff] at h
 obtain ⟨⟨⟨⟨⟨h1,h2⟩,h3⟩,h4⟩,h5⟩,h6⟩:=h
 exact ⟨h1,h2,h3,h4,h5,h6⟩
theorem gT.set {R:Reach} {w:World} {x:AV} {y:Value} (hx:Rep R w x y):∀{xs:List AV} {ys:List Value} {i:Nat},gT R w xs ys→ys[i]?=some y→gT R w (xs.set i x) ys
 | _,_,0,.cons _ t,e=>by simp at e;subst e;exact .cons hx t
 | _,_,i+1,.cons h t,e => .cons h (gT.set hx t (by simpa using e))
 | _,_,i,.nil,e=>by simp at e
theorem gT.vH {R R':Reach} {w w':World}:∀{xs:List AV} {ys:List Value},gT R w xs ys→(∀x∈xs,∃y,x = .v y)→gT R' w' xs ys
 | _,_,.nil,_ => .nil
 | _,_,.cons h t,hv=>by
  obtain ⟨y,rfl⟩:=hv _ (List.mem_cons_self ..)
  cases h
  exact .cons (.v _) (t.vH fun x hx=>hv x (List.mem_cons_of_mem _ hx))
section
variable {C:Ctx} {D:kZ} {σ:Sg} {γ:Ga} {a:Act} {w:World}
variable {o:Oper} {d:Nat} {K:Act→World→Prop} {Q:Exit→Act→World→Prop} (h:dZ C D σ γ a w)
include h
theorem BX (hd:o.dst=some d) (hl:d<C.nt) {f n i m:Nat} {args:Array Operand} {ts:Array TypeId} {rs:List eI} {cs outs:List AV} {us:List (Nat × (Nat × Nat))} (ho:o.op = .call { callee := .value (.func f),args,argTypes:=ts }) (hp:jI C.P f=true)
  {S:FS} (hS:fF C.P C.E.gl f S) (Io:S.sg.plain=true) (hn:S.sg.cZ=n) (hx:dy args.toList rs=true) (fc:small C.nt args.toList=true)
  (A9:(rs.map (eI.ev C.E σ))[i]?=some .pt) (Ix:(rs.map (eI.gh γ))[i]?=some (.ptr m 0)) (hm:γ m = .cl us) (ny:σ m = .ag cs)
  (hG:S.G ((rs.map (eI.ev C.E σ)).set i (.ro (.ag cs))) outs) (ua:outs.length=n) (Oo:∀x∈outs,∃y,x = .v y)
  (hK:∀D' a' w',dZ C D' (dP σ d (if n=1 then outs.headD .dead else .tu outs)) (dP γ d .no) a' w'→K a' w'):o.wp C.P a w K Q:=by
 obtain ⟨p1,p2,p3,p4,p5,p6⟩:=dw.xZ Io
 obtain ⟨vs,tp,_⟩:=h.mem m us hm
 rw [ny] at tp
 have qd:=tp.Cd
 have gS:=tp.lt
 obtain ⟨elem,hh,hL⟩:=tp.ag
 obtain ⟨v,hv1,_,hv2⟩:=BW h hx fc A9 (by simp) (by simp)
 have AA:v = .pointer (some ⟨D.β m,0,none⟩):=hv2 _ Ix
 subst AA
 have hT:=h.wm hx fc
 let R1:Reach:=fun b o=>D.R b o∨(b=D.β m∧o<cs.length)
 have k1:gz D.R w R1 w:=fun b o hr=>⟨.inl hr,rfl⟩
 have hle:cs.length≤vs.length:=by have:=hL.length;simp at this;omega
 have Q8:Rep R1 w (.ro (.ag cs)) (.pointer (some ⟨D.β m,0,none⟩)):=by
  refine .ro (.ag rfl (kp.write (hL.mono k1) (fun j hj => .inr ⟨rfl,by simp at hj;omega⟩) (fun j y hy=>?_)))
  rw [aT] at hy
  split at hy
  ·simp only [World.cell?,hh];simpa using hy
  ·cases hy
 have hA:jN S.sg R1 w ((rs.map (eI.ev C.E σ)).set i (.ro (.ag cs))) (args.toList.map a.eval):=by
  unfold jN
  rw [p1]
  exact gT.set Q8 (hT.mono k1) hv1
 unfold Oper.wp
 rw [qn ho hp,Oper.upon_enter]
 have:=hS.1 p6 w R1 _ outs (args.toList.map a.eval) hG (fun b o hr=>by
  rcases hr with hr | ⟨rfl,_⟩
  ·exact h.nF b o hr
  ·exact gS) (fun n=>(h.gl n).mono k1) hA
 have e:(⟨args.toList.map a.eval⟩:Array Value)=args.map a.eval:=by apply Array.ext';simp
 rw [e] at this
 refine this.mono ?_
 rintro e w' ⟨x,R',rfl,h1,h2,h3⟩
 simp only
 rw [hd]
 obtain ⟨ju,tr,gZ,tn,bn,br,cn,cr,q1,q2,q3,q4,_⟩:=h3
 have wS:∀b,¬oQ S.sg w (args.toList.map a.eval) b:=fun b hb=>by unfold oQ at hb;rw [p1] at hb;exact hb
 have hg:=h.grow (w':=w') (R':=D.R) h1.os h1.tape h1.output h1.size (fun b hb=>h1.heap b hb (wS b)) (fun _ _ h=>h) (fun _ _ h => .inl h) (fun b o hr=>Nat.lt_of_lt_of_le (h.nF b o hr) h1.size)
 have e1:(outs.take S.sg.cZ).mapIdx (fun i y=>if S.sg.new=some i then AV.pt else y)=outs:=by
  rw [p4,List.take_of_length_le (by omega)]
  apply List.ext_getElem?
  intro j
  simp
 rw [e1] at q4
 exact hK _ _ _ (dZ.xX hg hl (q1.trans hn) (by rw [←hn];exact q2) (q4.vH Oo) ua)
end
section
variable {C:Ctx} {sg:Nat→dw}
theorem Ew (hE:∀f,fF C.P C.E.gl f (C.E.fs f)∧(C.E.fs f).sg=sg f) {f n cZ i m:Nat}:ei C sg (.lC f n cZ i m):=by
 intro D σ γ a w dst op ty pos after guard rs ds gd ws gs K' Q h ho hk fc hs hg hK
 simp only [dS,af,az,beq_iff_eq,ao,au] at hk
 obtain ⟨⟨_,mi,gG⟩,jx⟩:=hk
 obtain ⟨d,rfl,hl,rfl⟩:=gx (l:=[]) jx
 simp only [ga] at ho
 split at ho
 ·rename_i g args rV
  simp only [af,beq_iff_eq,az] at ho
  obtain ⟨⟨⟨⟨⟨rfl,Gi⟩,lO,hn⟩,hx⟩,rE⟩,AH⟩:=ho
  rw [←(hE f).2] at lO hn
  have Ge:(rs.take n).length=n:=by rw [←iW hx];simpa using rE
  have wK:small C.nt args.toList=true:=ku fc (fun x hx=>by
   have:x∈args:=by simpa using hx
   simp only [Op.operands,Call.operands,Array.toList_append,List.mem_append]
   exact .inr hx)
  have nz:rs.drop n=[.s m]:=by
   simp only [aL,aA] at mi
   obtain ⟨q,hq⟩:=oO (l:=rs.drop n) (by rw [aS];omega)
   rw [hq] at gG ⊢
   cases q <;> simp at gG
   rw [gG]
  have sJ:rs=rs.take n++[.s m]:=by rw [←nz,List.take_append_drop]
  simp only [fW] at hs
  obtain ⟨cs,outs,v1,v2,hG,ua,Oo,rfl⟩:=hs
  have CR:∀{X:Type} (F:eI→X),(rs.map F)[n]?=some (F (.s m)):=fun F=>by
   have h1:rs[n]?=some (.s m):=by rw [sJ,aU (by omega),Ge];simp
   rw [aP,h1];rfl
  have hi:∀{X:Type} (F:eI→X),((rs.take n).map F)[i]?=(rs.map F)[i]?:=fun F=>by
   rw [List.map_take,aT,aq AH]
  simp only [ft] at hg
  split at hg
  ·rename_i us g2
   rw [aB] at hg
   obtain ⟨g1,hg⟩:=hg
   cases hg
   rw [CR] at v1 g2
   simp only [eI.ev,eI.gh,ax] at v1 g2
   rw [←hi] at v2 g1
   rw [←List.map_take] at hG
   exact BX h rfl hl rfl Gi (hE f).1 lO hn hx wK v2 g1 g2 v1 hG ua Oo hK
  ·cases hg
 ·cases ho
end
end Go.Eng
namespace Go.Eng
open Go.RowKit
section
variable {C:Ctx} {sg:Nat→dw}
theorem rO {α β:Type} {f g:α→β}:∀{l:List α},l.map f=l.map g→∀x∈l,f x=g x
 | [],_,_,hx=>by cases hx
 | a :: l,h,x,hx=>by
  simp only [ao,ar] at h
  rcases bq.1 hx with rfl | hx
  ·exact h.1
  ·exact rO h.2 x hx
theorem Hz (hE:∀f,fF C.P C.E.gl f (C.E.fs f)∧(C.E.fs f).sg=sg f) {f:Nat} {c:CS}:ei C sg (.call f c):=by
 intro D σ γ a w dst op ty pos after guard rs ds gd ws gs K' Q h ho hk fc hs hg hK
 simp only [dS,af,beq_iff_eq,az] at hk
 obtain ⟨⟨⟨Rg,mi,gG⟩,jx⟩,hnd⟩:=hk
 obtain ⟨d,rfl,hl,rfl⟩:=gx jx
 simp only [ga] at ho
 split at ho
 ·rename_i g args rV
  simp only [af,beq_iff_eq] at ho
  obtain ⟨⟨⟨⟨rfl,Gi⟩,mQ⟩,hx⟩,rE⟩:=ho
  rw [←(hE f).2] at mQ
  obtain ⟨f1,f2,f3,f4,f5,f6,f7,f8,f9,f10,f11,f12,f13⟩:=qR mQ
  have nz:rs.drop c.n=(c.jL++c.mh).map eI.s:=ly gG
  have sJ:rs=rs.take c.n++(c.jL++c.mh).map eI.s:=by rw [←nz,List.take_append_drop]
  have Ge:(rs.take c.n).length=c.n:=by rw [←iW hx];simpa using rE
  have wK:small C.nt args.toList=true:=ku fc (fun x hx=>by
   have:x∈args:=by simpa using hx
   simp only [Op.operands,Call.operands,Array.toList_append,List.mem_append]
   exact .inr hx)
  simp only [fW] at hs
  obtain ⟨EM,outs,hG,ua,rfl⟩:=hs
  have n9:∀m∈c.jL,C.nt≤m∧m<1000000:=fun m hm=>by
   have:=bj.1 Rg m hm
   simpa using this
  -- the O1
  simp only [ft] at hg
  rw [aB] at hg
  obtain ⟨hc,hg⟩:=hg
  ·cases hg
   obtain ⟨c1,c2,c3⟩:=hc
   rw [←List.map_drop,nz,bk] at c1 c2 c3
   have Ix:(eI.gh γ ∘ eI.s)=γ:=rfl
   rw [Ix] at c1 c2 c3
   cases jj:c.ref with
   | none =>
    have wI:=f9 jj
    have hm:c.jL=(c.new.map (·.2)).toList:=by simp [CS.jL,jj]
    rw [hm] at c1 c2 c3
    simp only [jj,Option.map_none,Option.toList_none,aA,List.take_zero,Nat.add_zero,List.map_append] at c1 c2 c3
    have e1:((List.map γ (c.new.map (·.2)).toList++List.map γ c.mh).take (c.new.map (·.2)).toList.length)=List.map γ (c.new.map (·.2)).toList:=List.take_left' (by simp)
    rw [e1] at c1 c3
    have e2:((List.map γ (c.new.map (·.2)).toList++List.map γ c.mh).drop (List.map γ (c.new.map (·.2)).toList).length)=List.map γ c.mh:=List.drop_left' rfl
    rw [e2,wI] at c3
    simp only [CS.mh,wI,bz,au,bk,List.map_append] at c3
    have Iq:∀t∈c.iI++c.own++c.fx,γ (lk t.2.1) = .no:=rO (by simpa [Function.comp_def] using c3)
    have Iv:c.ins (rs.map (eI.ev C.E σ))=(rs.take c.n).map (eI.ev C.E σ):=by simp [CS.ins,jj,List.map_take]
    rw [Iv] at hG
    exact B3 h rfl hl rfl Gi (hE f).1 mQ jj hx wK hG ua (fun q hq=>by
      have Ra:q.2∈c.jL:=by rw [hm,hq];simp
      refine ⟨?_,n9 _ Ra⟩
      simp only [hq,Option.map_some,Option.toList_some,ao,au,List.all_cons,List.all_nil,Bool.and_true,az] at c1
      exact c1) (fun t ht=>Iq t (by
       rcases List.mem_append.1 ht with ht | ht
       ·simp [ht]
       ·simp [ht])) hK
   | some im =>
    obtain ⟨i,m⟩:=im
    have jT:c.new=none:=by
     rcases f11 with e | e
     ·rw [jj] at e;cases e
     ·exact e
    have rj:=f10 jT
    have hm:c.jL=[m]:=by simp [CS.jL,jj,jT]
    rw [hm] at c1 c2 c3
    simp only [jj,jT,rj,Option.map_none,Option.map_some,Option.toList_none,Option.toList_some,aA,List.take_zero,aL,Nat.zero_add,bc,List.map_append,ao,au,List.cons_append,bz,List.take_succ_cons,List.drop_succ_cons,aM] at c2 c3
    split at c2
    ·rename_i i' m' ts e1 e2
     cases e1
     simp only [ar,and_true] at e2
     simp only [az] at c2
     obtain ⟨d1,d2,d3⟩:=c2
     simp only [CS.mh,rj,aM,List.map_append,bk,aZ] at c3
     rw [←List.map_append,←List.map_append (f:=fun _=>Gh.no)] at c3
     obtain ⟨p1,p2⟩:=List.append_inj c3 (by simp)
     have kW:∀t∈c.kF,γ (lk t.2.1) = .live t.2.2:=rO (by simpa [Function.comp_def] using p1)
     have pa:∀t∈c.iI++c.own,γ (lk t.2.1) = .no:=rO (by simpa [Function.comp_def] using p2)
     rw [jj] at EM
     simp only at EM
     have A9:((rs.take c.n).map (eI.ev C.E σ))[i]?=some .pt:=by
      rw [List.map_take,aT,aq d2];exact EM
     have Ru:((rs.take c.n).map (eI.gh γ))[i]?=some (.ptr m 0):=by
      rw [List.map_take,aT,aq d2];exact d1
     have Iv:c.ins (rs.map (eI.ev C.E σ))=((rs.take c.n).map (eI.ev C.E σ)).set i (σ m):=by
      simp only [CS.ins,jj,jT,Option.map_none,Option.toList_none,aA,Nat.add_zero,List.map_take]
      congr 1
      have:rs[c.n]?=some (.s m):=by
       rw [sJ,aU (by omega),Ge,hm];simp
      simp [List.getD,this,eI.ev]
     rw [Iv] at hG
     exact B2 h rfl hl rfl Gi (hE f).1 mQ jj hx wK A9 Ru e2 d3 kW hG ua pa hK
    ·rename_i e _;cases e
    ·cases c2
 ·cases ho
theorem zr (hE:∀f,fF C.P C.E.gl f (C.E.fs f)∧(C.E.fs f).sg=sg f) (k:K):ei C sg k:=by
 cases k with
 | mv=>exact NI
 | pick=>exact Hy
 | bin b=>exact KS
 | be n=>exact NZ
 | un b=>exact Ny
 | ci k=>exact NU
 | cs=>exact NT
 | sb=>exact ND
 | FE k=>exact KB
 | bs=>exact NW
 | len=>exact KP
 | sC=>exact KN
 | mn=>exact NJ
 | mx=>exact NH
 | ix s=>exact NO
 | si=>exact NB
 | ai n s a=>exact N4
 | fe o n a=>exact NQ
 | sc s l h=>exact NC
 | ss l h=>exact NA
 | bl s n=>exact NY
 | blt s n k=>exact KR
 | bd z p=>exact N0
 | al m z t=>exact N3
 | bx m=>exact NV
 | ld m o n a=>exact k_ld
 | st m o n=>exact Nz
 | lr n a=>exact NL
 | fa m o d=>exact NR
 | fr o n a=>exact NP
 | nc m o=>exact NG
 | FY=>exact KM
 | ex i=>exact NS
 | ap k d s b=>exact N1
 | DV k d b=>exact KT
 | an d s b=>exact N2
 | GF d b=>exact KV
 | mk d s b z=>exact NK
 | nl d s=>exact NF
 | FJ k=>exact KD
 | FL k=>exact KG
 | FN k s=>exact KI
 | G5 k o=>exact KK
 | FM k s n a=>exact KH
 | FI k s n=>exact KC
 | FO k s=>exact KJ
 | jQ f n r i k s=>exact Ey hE
 | mI f n r i s=>exact Ex hE
 | A6 k d s b=>exact KE
 | FK k=>exact KF
 | Fs k d q s b=>exact KU
 | la m n s=>exact NN
 | ll m s=>exact NM
 | Kt=>exact KL
 | Jj=>exact Kz
 | lC f n r i m=>exact Ew hE
 | FX b =>
  intro D σ γ a w dst op ty pos after guard rs ds gd ws gs K' Q h ho hk fc hs
  exact hs.elim
 | yH m ts=>exact KQ
 | qX m o n ts=>exact KA
 | call f c=>exact Hz hE
end
end Go.Eng
namespace Go.Eng
open Go.RowKit
section
variable {X:Type}
def agree (l:List Nat) (σ τ:Nat→X):Prop:=∀k∈l,σ k=τ k
def qu (R:(Nat→X)→List X→Prop) (ds:List Nat) (σ eX:Nat→X):Prop:=∃ws,R σ ws∧ws.length=ds.length∧eX=cY σ ds ws
def Local (rs:List Nat) (R:(Nat→X)→List X→Prop):Prop:=∀σ τ ws,agree rs σ τ→R σ ws→R τ ws
theorem qu.swap {R S:(Nat→X)→List X→Prop} {d e r s:List Nat} (lr:Local r R) (ls:Local s S) (h1:∀k∈d,k ∉ s) (h2:∀k∈d,k ∉ e) (h3:∀k∈e,k ∉ r) {σ xI DN:Nat→X}
  (a:qu R d σ xI) (b:qu S e xI DN):∃Jz,qu S e σ Jz∧qu R d Jz DN:=by
 obtain ⟨ws,hR,hl,rfl⟩:=a
 obtain ⟨vs,hS,hm,rfl⟩:=b
 exact ⟨cY σ e vs,⟨vs,ls _ _ _ (fun k hk=>jk fun hd=>h1 k hd hk) hS,hm,rfl⟩,ws,lr _ _ _ (fun k hk=>(jk fun he=>h3 k he hk).symm) hR,hl,qA h2⟩
end
def RS (E:Env) (m:oU) (σ:Sg) (ws:List AV):Prop :=
 match mj σ m.gd with
 | some true=>fW E m.k (m.rs.map (eI.ev E σ)) ws
 | some false=>ws=m.ds.map fun _ => .sk
 | none=>False
def RG (m:oU) (γ:Ga) (gs:List Gh):Prop:=ft m.k (m.rs.map (eI.gh γ))=some gs
theorem mem_reads {m:oU} {t:Nat} (h:eI.s t∈m.rs):t∈m.reads :=
 List.mem_append_left _ (List.mem_filterMap.2 ⟨_,h,rfl⟩)
theorem xG (E:Env) (m:oU):Local m.reads (RS E m):=by
 intro σ τ ws h
 have h1:mj σ m.gd=mj τ m.gd:=by
  cases hg:m.gd with
  | none=>rfl
  | some q =>
   obtain ⟨t,b⟩:=q
   have:σ t=τ t:=h t (by simp [oU.reads,hg])
   simp only [mj,this]
 have h2:m.rs.map (eI.ev E σ)=m.rs.map (eI.ev E τ):=List.map_congr_left fun r hr=>by
  cases r with
  | s t=>exact h t (mem_reads hr)
  | c x=>rfl
  | g n=>rfl
 unfold RS
 rw [h1,h2]
 exact id
theorem xH (m:oU):Local m.reads (RG m):=by
 intro σ τ ws h
 have h2:m.rs.map (eI.gh σ)=m.rs.map (eI.gh τ):=List.map_congr_left fun r hr=>by
  cases r with
  | s t=>exact h t (mem_reads hr)
  | c x=>rfl
  | g n=>rfl
 unfold RG
 rw [h2]
 exact id
def Aj (E:Env):List oU→Sg→Ga→Sg→Ga→Prop
 | [],σ,γ,eX,nH=>eX=σ∧nH=γ
 | m :: ms,σ,γ,eX,nH=>∃xI Fy,qu (RS E m) m.ds σ xI∧qu (RG m) m.ds γ Fy∧Aj E ms xI Fy eX nH
theorem yE {n m:oU} (h:z6 n m=false):(∀k∈n.ds,k ∉ m.reads)∧(∀k∈n.ds,k ∉ m.ds)∧(∀k∈m.ds,k ∉ n.reads):=by
 simp only [z6,Bool.or_eq_false_iff,List.any_eq_false,Bool.not_eq_true,List.contains_eq_mem,decide_eq_false_iff_not] at h
 exact ⟨fun k hk=>(h.1 k hk).1,fun k hk=>(h.1 k hk).2,fun k hk=>h.2 k hk⟩
theorem sr {E:Env} {m:oU} {B:List oU}:∀{A:List oU} {σ eX:Sg} {γ nH:Ga},Aj E (A++m :: B) σ γ eX nH→(∀n∈A,z6 n m=false)→Aj E (m :: (A++B)) σ γ eX nH
 | [],_,_,_,_,h,_=>h
 | n :: A,σ,eX,γ,nH,h,hc=>by
  obtain ⟨xI,Fy,s,g,h⟩:=h
  obtain ⟨DN,Qt,s2,g2,h⟩:=sr h fun x hx=>hc x (List.mem_cons_of_mem _ hx)
  obtain ⟨c1,c2,c3⟩:=yE (hc n (List.mem_cons_self ..))
  obtain ⟨Qq,s3,s4⟩:=s.swap (xG E n) (xG E m) c1 c2 c3 s2
  obtain ⟨Qs,g3,g4⟩:=g.swap (xH n) (xH m) c1 c2 c3 g2
  exact ⟨Qq,Qs,s3,g3,DN,Qt,s4,g4,h⟩
theorem GL.qg:∀{G:GL} {ts:List Nat} {xs:List Gh},(GL.cY G ts xs).get=Eng.cY G.get ts xs
 | G,t :: ts,x :: xs=>by
  funext k
  simp only [GL.cY,GL.get,Eng.cY,dP,GL.qg (G:=G) (ts:=ts) (xs:=xs)]
 | G,[],_=>by simp [GL.cY,Eng.cY]
 | G,_ :: _,[]=>by simp [GL.cY,Eng.cY]
theorem zb {E:Env}:∀{ms:List oU} {σ eX:Sg} {G G':GL},BD E ms σ eX→AP ms G=some G'→Aj E ms σ G.get eX G'.get
 | [],_,_,_,_,h,g=>by
  simp only [AP,ax] at g
  subst g
  exact ⟨h,rfl⟩
 | m :: ms,σ,eX,G,G',⟨xI,s,h⟩,g=>by
  simp only [AP,Gv,bt] at g
  obtain ⟨G1,⟨gs,g1,g2⟩,g3⟩:=g
  rw [aB] at g2
  obtain ⟨hl,e⟩:=g2
  cases e
  exact ⟨xI,_,s,⟨gs,g1,hl,GL.qg⟩,zb h g3⟩
section
variable {C:Ctx} {D:kZ} {σ:Sg} {γ:Ga} {a:Act} {w:World}
theorem dZ.wv (h:dZ C D σ γ a w) (r:eI):fZ γ (r.gh γ):=by
 cases r with
 | s t=>exact h.inv t
 | c x=>trivial
 | g n=>trivial
theorem Bn {γ:Ga} {g:Gh} (h:fZ γ g):g.strip.gq=false∧g.strip.fL=false∧fZ γ g.strip:=by
 cases g <;> first | exact ⟨rfl,rfl,trivial⟩ | exact ⟨rfl,rfl,h⟩
theorem Fb {γ:Ga} {g:Gh} (h:fZ γ g) (i:Nat):(g.comp i).gq=false∧(g.comp i).fL=false∧fZ γ (g.comp i):=by
 cases g with
 | y4 ts p =>
  simp only [Gh.comp]
  split
  ·rename_i q k s e
   exact ⟨rfl,rfl,h.1 _ (List.mem_of_find?_eq_some e)⟩
  ·split
   ·rename_i j m
    split
    ·exact ⟨rfl,rfl,h.2 _ rfl⟩
    ·exact ⟨rfl,rfl,trivial⟩
   ·exact ⟨rfl,rfl,trivial⟩
 | _=>exact ⟨rfl,rfl,trivial⟩
theorem pI {nt:Nat} {dst:Option Nat} {x:Nat} {l ds:List Nat} (h:(match dst with | some d=>decide (d<nt)&&ds == d :: x :: l | none=>false)=true) (hl:ds.length=1):False:=by
 obtain ⟨d,_,_,rfl⟩:=gx h
 simp at hl
theorem O7 {nt:Nat} {dst:Option Nat} {l ds:List Nat} (hl:ds.length=1) (h:(match dst with | some d=>decide (d<nt)&&ds == d :: l | none=>false)=true):∃d,dst=some d∧d<nt∧ds=[d]∧l=[]:=by
 obtain ⟨d,h1,h2,rfl⟩:=gx h
 have:l=[]:=by simpa using hl
 subst this
 exact ⟨d,h1,h2,rfl,rfl⟩
theorem B5 (h:dZ C D σ γ a w) {k:K} {rs:List eI} {ds:List Nat} {gd:Option (Nat × Bool)} {dst:Option Nat} {gs:List Gh} (hk:dS C.nt dst ⟨k,rs,ds,gd⟩=true)
  (hl:ds.length=1) (hd:dst.isSome=true) (hg:ft k (rs.map (eI.gh γ))=some gs) :
  ∃d g,dst=some d∧d<C.nt∧ds=[d]∧(gs.length=1→gs=[g])∧g.gq=false∧g.fL=false∧fZ γ g:=by
 have base:=fun (l:List Nat)=>O7 (nt:=C.nt) (dst:=dst) (l:=l) hl
 cases k
 case mv =>
  obtain ⟨d,h1,h2,h3,-⟩:=base [] hk
  simp only [ft] at hg
  split at hg
  ·rename_i g e
   cases hg
   cases rs with
   | nil=>simp at e
   | cons r rs =>
    simp only [ao,ar] at e
    obtain ⟨q1,q2,q3⟩:=Bn (e.1 ▸ h.wv r)
    exact ⟨d,_,h1,h2,h3,fun _=>rfl,q1,q2,q3⟩
  ·cases hg
 case ex i =>
  obtain ⟨d,h1,h2,h3,-⟩:=base [] hk
  simp only [ft] at hg
  split at hg
  ·rename_i g e
   cases hg
   cases rs with
   | nil=>simp at e
   | cons r rs =>
    simp only [ao,ar] at e
    obtain ⟨q1,q2,q3⟩:=Fb (e.1 ▸ h.wv r) i
    exact ⟨d,_,h1,h2,h3,fun _=>rfl,q1,q2,q3⟩
  ·cases hg
 case fa m o x =>
  obtain ⟨d,h1,h2,h3,-⟩:=base [] hk
  simp only [ft] at hg
  split at hg
  ·rename_i m' o' e
   rw [aB] at hg
   obtain ⟨⟨rfl,rfl⟩,hg⟩:=hg
   cases hg
   cases rs with
   | nil=>simp at e
   | cons r rs =>
    simp only [ao,ar] at e
    have:=e.1 ▸ h.wv r
    exact ⟨d,_,h1,h2,h3,fun _=>rfl,rfl,rfl,this⟩
  ·cases hg
 case nc m o =>
  obtain ⟨d,h1,h2,h3,-⟩:=base [] hk
  simp only [ft] at hg
  split at hg
  ·rename_i m' o' e
   rw [aB] at hg
   obtain ⟨⟨rfl,rfl⟩,hg⟩:=hg
   cases hg
   cases rs with
   | nil=>simp at e
   | cons r rs =>
    simp only [ao,ar] at e
    have:=e.1 ▸ h.wv r
    exact ⟨d,_,h1,h2,h3,fun _=>rfl,rfl,rfl,this⟩
  ·cases hg
 case ld m o n agg =>
  simp only [dS,af] at hk
  obtain ⟨d,h1,h2,h3,-⟩:=base [] hk.2
  simp only [ft] at hg
  split at hg
  ·rename_i m' o' ts e
   rw [aB] at hg
   obtain ⟨⟨rfl,rfl⟩,hg⟩:=hg
   cases hg
   have hm:fZ γ (.cl ts):=by
    match rs,e with
    | [r,q],e =>
     simp only [ao,au,ar] at e
     exact e.2.1 ▸ h.wv q
   refine ⟨d,_,h1,h2,h3,fun _=>rfl,?_⟩
   split
   ·exact ⟨rfl,rfl,trivial⟩
   ·split
    ·rename_i q k s e
     exact ⟨rfl,rfl,hm _ (List.mem_of_find?_eq_some e)⟩
    ·exact ⟨rfl,rfl,trivial⟩
  ·cases hg
 case call f c =>
  simp only [dS,af] at hk
  obtain ⟨d,h1,h2,h3,h4⟩:=base _ hk.1.2
  simp only [ft] at hg
  rw [aB] at hg
  obtain ⟨_,hg⟩:=hg
  cases hg
  rw [List.append_eq_nil_iff] at h4
  obtain ⟨h4,h5⟩:=h4
  simp only [CS.jL,List.append_eq_nil_iff] at h4
  simp only [CS.mh,List.map_eq_nil_iff,List.append_eq_nil_iff] at h5
  have hn:c.new=none:=by cases hc:c.new <;> simp_all
  refine ⟨d,c.dg,h1,h2,h3,fun hl=>?_,?_⟩
  ·simp only [aL,Nat.add_eq_right,List.length_eq_zero_iff] at hl
   rw [hl]
  ·simp only [CS.dg,hn,h5.1.2]
   split
   ·exact ⟨rfl,rfl,trivial⟩
   ·refine ⟨rfl,rfl,?_⟩
    simp [fZ]
 case st m o n =>
  simp only [dS,af,Option.isNone_iff_eq_none] at hk
  rw [hk.1.1.2] at hd
  cases hd
 case al m z ts=>simp only [dS,af] at hk;exact (pI hk.2 hl).elim
 case bx m=>simp only [dS,af] at hk;exact (pI hk.2 hl).elim
 case FE k=>simp only [dS,af] at hk;exact (pI hk.2 hl).elim
 case blt s n k=>simp only [dS,af] at hk;exact (pI hk.2 hl).elim
 case ap=>simp only [dS,af] at hk;exact (pI hk.2 hl).elim
 case DV=>simp only [dS,af] at hk;exact (pI hk.2 hl).elim
 case an=>simp only [dS,af] at hk;exact (pI hk.2 hl).elim
 case GF=>simp only [dS,af] at hk;exact (pI hk.2 hl).elim
 case mk=>simp only [dS,af] at hk;exact (pI hk.2 hl).elim
 case nl=>simp only [dS,af] at hk;exact (pI hk.2 hl).elim
 case A6=>simp only [dS,af] at hk;exact (pI hk.2 hl).elim
 case Fs=>simp only [dS,af] at hk;exact (pI hk.2 hl).elim
 case jQ f n cZ i k s =>
  simp only [dS,af] at hk
  obtain ⟨d,h1,h2,h3,-⟩:=base [] hk.2
  simp only [ft] at hg
  rw [aB] at hg
  obtain ⟨_,hg⟩:=hg
  cases hg
  exact ⟨d,.no,h1,h2,h3,fun _=>rfl,rfl,rfl,trivial⟩
 case mI f n cZ i s =>
  simp only [dS,af] at hk
  obtain ⟨d,h1,h2,h3,-⟩:=base [] hk.2
  simp only [ft,ax] at hg
  exact ⟨d,.no,h1,h2,h3,fun _=>hg.symm,rfl,rfl,trivial⟩
 case FK k =>
  simp only [dS,af] at hk
  obtain ⟨d,h1,h2,h3,-⟩:=base [] hk.2
  simp only [ft] at hg
  split at hg
  ·rw [aB] at hg
   obtain ⟨_,hg⟩:=hg
   cases hg
   exact ⟨d,.no,h1,h2,h3,fun _=>rfl,rfl,rfl,trivial⟩
  ·cases hg
 case ll m s =>
  simp only [dS,af] at hk
  obtain ⟨d,h1,h2,h3,-⟩:=base [] hk.2
  simp only [ft] at hg
  split at hg
  ·rw [aB] at hg
   obtain ⟨_,hg⟩:=hg
   cases hg
   exact ⟨d,.no,h1,h2,h3,fun _=>rfl,rfl,rfl,trivial⟩
  ·cases hg
 case la m n s =>
  simp only [dS,af] at hk
  obtain ⟨d,h1,h2,h3,-⟩:=base [] hk.2
  simp only [ft] at hg
  split at hg
  ·rename_i m' o' g0 ts e
   rw [aB] at hg
   obtain ⟨⟨rfl,rfl,_⟩,hg⟩:=hg
   cases hg
   cases rs with
   | nil=>simp at e
   | cons r rs =>
    simp only [ao,ar] at e
    have:=e.1 ▸ h.wv r
    exact ⟨d,_,h1,h2,h3,fun _=>rfl,rfl,rfl,this⟩
  ·cases hg
 case FJ=>simp only [dS,af] at hk;exact (pI hk.2 hl).elim
 case FO k s =>
  simp only [dS,af] at hk
  obtain ⟨_,hk⟩:=hk
  split at hk
  ·simp only [af] at hk
   exact (pI hk.2 hl).elim
  ·cases hk
 case FI k s n =>
  simp only [dS,af,Option.isNone_iff_eq_none] at hk
  rw [hk.1.1] at hd
  cases hd
 case lC f n cZ i m =>
  simp only [dS,af] at hk
  obtain ⟨d,h1,h2,h3,-⟩:=base [] hk.2
  simp only [ft] at hg
  split at hg
  ·rw [aB] at hg
   obtain ⟨_,hg⟩:=hg
   cases hg
   exact ⟨d,.no,h1,h2,h3,fun _=>rfl,rfl,rfl,trivial⟩
  ·cases hg
 case FX b =>
  cases b with
  | true =>
   obtain ⟨d,h1,h2,h3,-⟩:=base [] hk
   simp only [ft,if_true,ax] at hg
   exact ⟨d,.no,h1,h2,h3,fun _=>hg.symm,rfl,rfl,trivial⟩
  | false =>
   simp only [dS,af,Option.isNone_iff_eq_none] at hk
   rw [hk.1] at hd
   cases hd
 case yH=>simp only [dS,af] at hk;exact (pI hk.2 hl).elim
 case qX m o n ts =>
  simp only [dS,af,Option.isNone_iff_eq_none] at hk
  rw [hk.1.1.1.2] at hd
  cases hd
 case FL k =>
  simp only [dS,af] at hk
  obtain ⟨d,h1,h2,h3,-⟩:=base [] hk.2
  simp only [ft] at hg
  split at hg
  ·rw [aB] at hg
   obtain ⟨_,hg⟩:=hg
   cases hg
   exact ⟨d,.no,h1,h2,h3,fun _=>rfl,rfl,rfl,trivial⟩
  ·cases hg
 case FM k s n agg =>
  simp only [dS,af] at hk
  obtain ⟨d,h1,h2,h3,-⟩:=base [] hk.2
  simp only [ft] at hg
  split at hg
  ·rw [aB] at hg
   obtain ⟨_,hg⟩:=hg
   cases hg
   exact ⟨d,.no,h1,h2,h3,fun _=>rfl,rfl,rfl,trivial⟩
  ·cases hg
 case FN k s =>
  simp only [dS,af] at hk
  obtain ⟨d,h1,h2,h3,-⟩:=base [] hk.2
  simp only [ft] at hg
  split at hg
  ·rename_i k' s0 g0 s1 e
   rw [aB] at hg
   obtain ⟨⟨rfl,rfl⟩,hg⟩:=hg
   cases hg
   cases rs with
   | nil=>simp at e
   | cons r rs =>
    simp only [ao,ar] at e
    have:=e.1 ▸ h.wv r
    exact ⟨d,_,h1,h2,h3,fun _=>rfl,rfl,rfl,this⟩
  ·cases hg
 case G5 k o =>
  obtain ⟨d,h1,h2,h3,-⟩:=base [] hk
  simp only [ft] at hg
  split at hg
  ·rename_i k' e
   rw [aB] at hg
   obtain ⟨rfl,hg⟩:=hg
   cases hg
   cases rs with
   | nil=>simp at e
   | cons r rs =>
    simp only [ao,ar] at e
    have:=e.1 ▸ h.wv r
    exact ⟨d,_,h1,h2,h3,fun _=>rfl,rfl,rfl,this⟩
  ·cases hg
 all_goals
  obtain ⟨d,h1,h2,h3,-⟩:=base [] hk
  simp only [ft,ax] at hg
  exact ⟨d,.no,h1,h2,h3,fun _=>hg.symm,rfl,rfl,trivial⟩
theorem Be (h:dZ C D σ γ a w) {ops:Array Oper} {j d:Nat} {x:Bool} (hd:d<C.nt) (hj:(ops[j]?).bind (·.dst)=some d) (hx:σ d = .v (.bool x)):yielded ops a.tmps j=some x:=by
 have hs:d<a.tmps.size:=by rw [h.size];exact hd
 have h0:=h.slot d hd
 rw [hx] at h0
 rcases h0 with e | ⟨e,_⟩
 ·cases e
 ·have e2:a.tmps[d]?=some (.bool x):=by
   rw [Array.getElem?_eq_getElem hs]
   have e3:a.tmps.getD d undef=a.tmps[d]:=by simp [Array.getD,hs]
   rw [e3] at e
   generalize a.tmps[d]=y at e
   cases e
   rfl
  simp [yielded,hj,e2]
theorem Bd (h:dZ C D σ γ a w) {ops:Array Oper} {j d:Nat} (hd:d<C.nt) (hj:(ops[j]?).bind (·.dst)=some d) (hx:σ d = .sk):yielded ops a.tmps j=none:=by
 have hs:d<a.tmps.size:=by rw [h.size];exact hd
 have h0:=h.slot d hd
 rw [hx] at h0
 rcases h0 with e | ⟨e,_⟩
 ·cases e
 ·have e2:a.tmps[d]?=some (.tuple ⟨[]⟩):=by
   rw [Array.getElem?_eq_getElem hs]
   have e3:a.tmps.getD d undef=a.tmps[d]:=by simp [Array.getD,hs]
   rw [e3] at e
   generalize a.tmps[d]=y at e
   cases e with
   | tu e=>cases e;rfl
  simp [yielded,hj,e2]
variable {sg:Nat→dw} {K:Act→World→Prop} {Q:Exit→Act→World→Prop}
theorem y6 (hE:∀f,fF C.P C.E.gl f (C.E.fs f)∧(C.E.fs f).sg=sg f) {ops:Array Oper} {o:Oper} {m:oU} {xI:Sg} {Fy:Ga} (h:dZ C D σ γ a w)
  (ho:ga C.P sg o m=true) (hk:dS C.nt o.dst m=true) (hg:rR C.nt ops o m=true) (fc:small C.nt o.op.operands.toList=true)
  (s1:qu (RS C.E m) m.ds σ xI) (s2:qu (RG m) m.ds γ Fy) (hK:∀D' a' w',dZ C D' xI Fy a' w'→K a' w') :
  if Region.wanted o (yielded ops a.tmps) then o.wp C.P a w K Q∨(o.asks C.P a w∧LetsOut Q) else K (a.put o.dst undef) w:=by
 obtain ⟨k,rs,ds,gd⟩:=m
 obtain ⟨dst,op,ty,pos,after,guard⟩:=o
 obtain ⟨ws,r1,l1,rfl⟩:=s1
 obtain ⟨gs,r2,l2,rfl⟩:=s2
 unfold RG at r2
 simp only [RS] at r1
 simp only [rR] at hg
 split at hg
 ·simp only [mj] at r1
  simp only [Region.wanted,if_true]
  exact .inl (zr hE k h ho hk fc r1 r2 hK)
 ·rename_i j b t b'
  simp only [af,beq_iff_eq,az] at hg
  obtain ⟨⟨⟨⟨rfl,ht⟩,hj⟩,hl⟩,hd⟩:=hg
  split at hj
  ·rename_i d PH
   have hj:d=t:=by simpa using hj
   subst hj
   simp only [mj] at r1
   cases hx:σ d with
   | v z =>
    cases z with
    | bool x =>
     have hy:=Be h ht PH hx
     simp only [hx] at r1
     cases hw:x == b with
     | true =>
      simp only [hw] at r1
      have K3:(some x == some b)=true:=by simpa using hw
      simp only [Region.wanted,hy,K3,if_true]
      exact .inl (zr hE k h ho hk fc r1 r2 hK)
     | false =>
      simp only [hw] at r1
      have K3:(some x == some b)=false:=by simpa using hw
      simp only [Region.wanted,hy,K3,bo,if_false]
      subst r1
      obtain ⟨d',g,e1,e2,e3,e4,e5,e6,e7⟩:=B5 h hk hl hd r2
      dsimp only at e1 hl l2 hK ⊢
      subst e1
      subst e3
      have:=e4 l2
      subst this
      exact hK _ _ _ (h.put e2 (.inr ⟨.tu .nil,fun h=>absurd rfl h⟩) e5 e6 e7)
    | _=>simp only [hx] at r1
   | tu l =>
    cases l with
    | cons y l=>simp only [hx] at r1
    | nil =>
     have hy:=Bd h ht PH hx
     simp only [hx] at r1
     have K3:((none:Option Bool) == some b)=false:=rfl
     simp only [Region.wanted,hy,K3,bo,if_false]
     subst r1
     obtain ⟨d',g,e1,e2,e3,e4,e5,e6,e7⟩:=B5 h hk hl hd r2
     dsimp only at e1 hl l2 hK ⊢
     subst e1
     subst e3
     have:=e4 l2
     subst this
     exact hK _ _ _ (h.put e2 (.inr ⟨.tu .nil,fun h=>absurd rfl h⟩) e5 e6 e7)
   | _=>simp only [hx] at r1
  ·cases hj
 ·cases hg
abbrev wo (P:Program) (sg:Nat→dw) (nt:Nat) (ops:Array Oper) (o:Oper) (m:oU):Bool :=
 ga P sg o m&&dS nt o.dst m&&rR nt ops o m&&small nt o.op.operands.toList
theorem zq (hE:∀f,fF C.P C.E.gl f (C.E.fs f)∧(C.E.fs f).sg=sg f) {ops:Array Oper} {eX:Sg} {nH:Ga}:∀{os:List Oper} {ms:List oU} {D:kZ} {σ:Sg} {γ:Ga} {a:Act} {w:World},dZ C D σ γ a w →
  kE (wo C.P sg C.nt ops) os ms=true→Aj C.E ms σ γ eX nH→(∀D' a' w',dZ C D' eX nH a' w'→Q .normal a' w')→wpList C.P ops Q os a w
 | [],[],_,_,_,_,_,h,_,⟨e1,e2⟩,hQ=>by subst e1;subst e2;exact hQ _ _ _ h
 | o :: os,m :: ms,_,_,_,_,_,h,hc,⟨xI,Fy,s1,s2,hr⟩,hQ=>by
  simp only [kE,wo,af] at hc
  obtain ⟨⟨⟨⟨c1,c2⟩,c3⟩,c4⟩,c5⟩:=hc
  unfold wpList
  exact y6 hE h c1 c2 c3 c4 s1 s2 fun D' a' w' h'=>zq hE h' (by simpa only [kE,wo] using c5) hr hQ
 | [],_ :: _,_,_,_,_,_,_,hc,_,_=>by simp [kE] at hc
 | _ :: _,[],_,_,_,_,_,_,hc,_,_=>by simp [kE] at hc
end
end Go.Eng
namespace Go.Eng
open Go.RowKit
theorem om {A B:Type} {f:A→B→Bool}:∀{as:List A} {bs:List B} {i:Nat} {x:A},kE f as bs=true→as[i]?=some x→∃y,bs[i]?=some y∧f x y=true
 | a :: as,b :: bs,0,x,h,e=>by
  simp only [kE,af] at h
  simp only [List.getElem?_cons_zero,ax] at e
  subst e
  exact ⟨b,rfl,h.1⟩
 | a :: as,b :: bs,i+1,x,h,e=>by
  simp only [kE,af] at h
  simp only [List.getElem?_cons_succ] at e ⊢
  exact om h.2 e
 | [],_,_,_,_,e=>by simp at e
 | _ :: _,[],_,_,h,_=>by simp [kE] at h
theorem oj {A B:Type} {f:A→B→Bool}:∀{as:List A} {bs:List B},kE f as bs=true→as.length=bs.length
 | [],[],_=>rfl
 | _ :: _,_ :: _,h=>by simp only [kE,af] at h;simp [oj h.2]
 | [],_ :: _,h=>by simp [kE] at h
 | _ :: _,[],h=>by simp [kE] at h
section
variable {L:Nat→Prop} {ops:List Oper}
theorem qq (jK:∀i o,ops[i]?=some o→L i→∀e∈rF o,L e):∀(rest pre:List Oper) (acc:List (List Nat)),ops=pre++rest→acc.length=pre.length →
  (∀i o,i<acc.length→ops[i]?=some o→(∀e∈rF o,L e)→∀j∈acc.getD i [],L j) →
  ∀i o,ops[i]?=some o→(∀e∈rF o,L e)→∀j∈(rest.foldl (fun acc o=>acc++[(rF o).flatMap fun e=>e :: (acc.getD e [])]) acc).getD i [],L j
 | [],pre,acc,e,hl,inv=>by
  intro i o hi hb j hj
  simp only [aM] at e
  subst e
  have:i<acc.length:=by
   rw [hl]
   exact (aE.1 hi).1
  exact inv i o this hi hb j hj
 | r :: rest,pre,acc,e,hl,inv=>by
  simp only [List.foldl_cons]
  refine qq jK rest (pre++[r]) _ (by simp [e]) (by simp [hl]) ?_
  intro i o hi ho hb j hj
  by_cases gS:i<acc.length
  ·rw [aH,List.getElem?_append_left gS,←aH] at hj
   exact inv i o gS ho hb j hj
  ·have vq:i=acc.length:=by simp at hi;omega
   subst vq
   rw [aH,aU (Nat.le_refl _)] at hj
   simp only [Nat.sub_self,List.getElem?_cons_zero,Option.getD_some,List.mem_flatMap,bq] at hj
   have hr:o=r:=by
    rw [e,hl,aU (Nat.le_refl _)] at ho
    simpa using ho.symm
   subst hr
   obtain ⟨x,hx,rfl | hj⟩:=hj
   ·exact hb _ hx
   ·by_cases Mr:x<acc.length
    ·have Py:x<ops.length:=by rw [e];simp;omega
     exact inv x _ Mr (aD Py) (jK x _ (aD Py) (hb x hx)) j hj
    ·simp [List.getD,List.getElem?_eq_none (Nat.le_of_not_lt Mr)] at hj
theorem yK (jK:∀i o,ops[i]?=some o→L i→∀e∈rF o,L e) {i:Nat} {o:Oper} (hi:ops[i]?=some o) (hb:∀e∈rF o,L e):∀j∈(Aa ops).getD i [],L j :=
 qq jK ops [] [] rfl rfl (fun _ _ h=>by simp at h) i o hi hb
end
theorem uz {A:Type} {l:List A} {p:A × Nat→Bool} (h:l.zipIdx.all p=true) {i:Nat} {x:A} (hi:l[i]?=some x):p (x,i)=true :=
 bj.1 h _ (List.mem_zipIdx_iff_getElem?.2 (by simpa using hi))
theorem xd (l:Array Bool) (i x:Nat) (d:Bool):(l.setIfInBounds i true).getD x d=if i=x then (if i<l.size then true else d) else l.getD x d:=by
 simp only [Array.getD_eq_getD_getElem?,Array.getElem?_setIfInBounds]
 split
 ·split <;> rfl
 ·rfl
def gj (n:Nat) (listed:Array Bool):List Nat:=(List.range n).filter fun i=>!listed.getD i true
theorem wc {n i:Nat} {listed:Array Bool} (hs:listed.size=n) (hi:i<n):gj n (listed.setIfInBounds i true)=(gj n listed).filter (fun j=>decide (j≠i)):=by
 simp only [gj,List.filter_filter]
 apply List.filter_congr
 intro j hj
 have hj:j<n:=by simpa using hj
 by_cases h:j=i
 ·subst h
  simp [Array.getD,hs,hi]
 ·have:i≠j:=fun e=>h e.symm
  simp [Array.getD,hs,hj,Array.getElem_setIfInBounds,h,this]
section
variable {C:Ctx} {sg:Nat→dw} {Q:Exit→Act→World→Prop}
theorem sE {listed:Array Bool} {n i:Nat} (hs:listed.size=n) (hi:i<n):listed.getD i true=listed.getD i false:=by simp [Array.getD,hs,hi]
theorem Jb (hE:∀f,fF C.P C.E.gl f (C.E.fs f)∧(C.E.fs f).sg=sg f) {ops:Array Oper} {ms:List oU} (hc:kE (wo C.P sg C.nt ops) ops.toList ms=true) (Lc:uX ops.toList ms=true)
  {eX:Sg} {nH:Ga} (hQ:∀D' a' w',dZ C D' eX nH a' w'→Q .normal a' w') :
  ∀(fuel:Nat) {listed:Array Bool} {D:kZ} {σ:Sg} {γ:Ga} {a:Act} {w:World},dZ C D σ γ a w→listed.size=ops.size →
   (∀i o,ops.toList[i]?=some o→listed.getD i false=true→∀e∈rF o,listed.getD e false=true) →
   (gj ops.size listed).length≤fuel→Aj C.E ((gj ops.size listed).filterMap (ms[·]?)) σ γ eX nH→wpAny C.P .any ops Q fuel listed a w:=by
 simp only [uX,af] at Lc
 obtain ⟨Ry,jK⟩:=Lc
 -- where nothing is ready,nothing gj
 have yn:∀{listed:Array Bool},listed.size=ops.size→Region.ready .any ops listed=[]→gj ops.size listed=[]:=by
  intro listed hs hr
  cases CG:gj ops.size listed with
  | nil=>rfl
  | cons i rest =>
   exfalso
   have qe:i∈gj ops.size listed:=by rw [CG];exact List.mem_cons_self ..
   have Gj:=qe
   simp only [gj,List.mem_filter,List.mem_range,Bool.not_eq_true'] at Gj
   obtain ⟨hi,hl⟩:=Gj
   have wJ:(gj ops.size listed).Pairwise (· < ·):=List.Pairwise.filter _ List.pairwise_lt_range
   have wS:ops.toList[i]?=some ops[i]:=by simp [hi]
   have hb:=uz Ry wS
   have:i∈Region.ready .any ops listed:=by
    simp only [Region.ready,List.mem_filter,List.mem_range]
    refine ⟨hi,?_⟩
    simp only [hl,aV,Bool.true_and,Array.getElem?_eq_getElem hi,Option.map_some,Option.getD_some,Array.all_eq_true_iff_forall_mem,Bool.or_eq_true,Bool.not_eq_true']
    intro e he
    cases LF:Region.binds .any e with
    | false=>exact .inl rfl
    | true =>
     right
     have gS:e.on<i:=by
      have:e.on∈rF ops[i]:=aW.2 ⟨e,List.mem_filter.2 ⟨by simpa using he,LF⟩,rfl⟩
      have xa:=bj.1 hb _ this
      simpa using xa
     cases hle:listed.getD e.on false with
     | true=>rfl
     | false =>
      have AH:e.on∈gj ops.size listed:=by
       simp only [gj,List.mem_filter,List.mem_range,Bool.not_eq_true']
       exact ⟨by omega,by rw [sE hs (by omega)];exact hle⟩
      rw [CG] at AH wJ
      rcases bq.1 AH with h | h
      ·omega
      ·have:=(List.pairwise_cons.1 wJ).1 _ h
       omega
   rw [hr] at this
   cases this
 intro fuel
 induction fuel with
 | zero =>
  intro listed D σ γ a w h hs vr hf hr
  have h0:gj ops.size listed=[]:=by simpa using hf
  rw [h0] at hr
  obtain ⟨e1,e2⟩:=hr
  subst e1;subst e2
  refine ⟨?_,hQ _ _ _ h⟩
  cases Oj:Region.ready .any ops listed with
  | nil=>rfl
  | cons i rest =>
   have:i∈Region.ready .any ops listed:=by rw [Oj];exact List.mem_cons_self ..
   simp only [Region.ready,List.mem_filter,List.mem_range,af] at this
   have h1:i∈gj ops.size listed:=by
    simp only [gj,List.mem_filter,List.mem_range]
    exact ⟨this.1,this.2.1⟩
   rw [h0] at h1
   cases h1
 | succ fuel ih =>
  intro listed D σ γ a w h hs vr hf hr
  refine ⟨fun Oj=>?_,fun i hi=>?_⟩
  ·rw [yn hs Oj] at hr
   obtain ⟨e1,e2⟩:=hr
   subst e1;subst e2
   exact hQ _ _ _ h
  ·simp only [Region.ready,List.mem_filter,List.mem_range,af] at hi
   obtain ⟨AH,OF,PE⟩:=hi
   have Lt:i∈gj ops.size listed:=by
    simp only [gj,List.mem_filter,List.mem_range]
    exact ⟨AH,OF⟩
   have wS:ops.toList[i]?=some ops[i]:=by simp [AH]
   simp only [Array.getElem?_eq_getElem AH,Option.map_some,Option.getD_some,Array.all_eq_true_iff_forall_mem,Bool.or_eq_true,Bool.not_eq_true'] at PE
   have yu:∀e∈rF ops[i],listed.getD e false=true:=by
    intro e he
    simp only [rF,aW,List.mem_filter] at he
    obtain ⟨x,⟨hx,hb⟩,rfl⟩:=he
    rcases PE x (by simpa using hx) with h | h
    ·rw [hb] at h;cases h
    ·exact h
   obtain ⟨A,B,LJ⟩:=List.append_of_mem Lt
   have wJ:(gj ops.size listed).Pairwise (· < ·):=List.Pairwise.filter _ List.pairwise_lt_range
   rw [LJ,List.pairwise_append] at wJ
   obtain ⟨-,hB,hA⟩:=wJ
   have PQ:∀j∈A,j<i:=fun j hj=>hA j hj i (List.mem_cons_self ..)
   have RQ:∀j∈B,i<j:=fun j hj=>(List.pairwise_cons.1 hB).1 j hj
   obtain ⟨m,hm,AF⟩:=om hc wS
   rw [LJ,List.filterMap_append,List.filterMap_cons,hm] at hr
   have Iz:=sr hr (fun n hn=>by
    obtain ⟨j,hj,Ro⟩:=List.mem_filterMap.1 hn
    have h1:=uz jK hm
    have Mx:j<i:=PQ j hj
    have h2:=uz h1 (i:=j) (x:=n) (by rw [aT,aq Mx];exact Ro)
    simp only [Bool.or_eq_true,Bool.not_eq_true',List.contains_eq_mem,az] at h2
    rcases h2 with h2 | h2
    ·exact h2
    ·exfalso
     have h3:=yK (L:=fun e=>listed.getD e false=true) vr wS yu j h2
     have h4:j∈gj ops.size listed:=by rw [LJ];exact List.mem_append_left _ hj
     simp only [gj,List.mem_filter,List.mem_range,Bool.not_eq_true'] at h4
     rw [sE hs h4.1,h3] at h4
     cases h4.2)
   obtain ⟨xI,Fy,s1,s2,tj⟩:=Iz
   simp only [wo,af] at AF
   obtain ⟨⟨⟨c1,c2⟩,c3⟩,c4⟩:=AF
   simp only [wpOp,Array.getElem?_eq_getElem AH]
   refine y6 hE h c1 c2 c3 c4 s1 s2 fun D' a' w' h'=>?_
   have sJ:gj ops.size (listed.setIfInBounds i true)=A++B:=by
    rw [wc hs AH,LJ,List.filter_append,List.filter_cons]
    simp only [ne_eq,not_true_eq_false,decide_false,bo,if_false]
    rw [List.filter_eq_self.2 (fun j hj=>by have:=PQ j hj;simp;omega),List.filter_eq_self.2 (fun j hj=>by have:=RQ j hj;simp;omega)]
   refine ih h' (by simp [hs]) ?_ ?_ ?_
   ·intro j o hj Mx e he
    have EK:∀x,listed.getD x false=true→(listed.setIfInBounds i true).getD x false=true:=by
     intro x hx
     rw [xd]
     split
     ·rename_i Rr
      subst Rr
      rw [aq (by rw [hs];exact AH)]
     ·exact hx
    by_cases PD:j=i
    ·subst PD
     rw [wS] at hj
     cases hj
     exact EK _ (yu e he)
    ·refine EK _ (vr j o hj ?_ e he)
     have Rs:i≠j:=fun e=>PD e.symm
     rw [xd,aj Rs] at Mx
     exact Mx
   ·rw [sJ]
    rw [LJ] at hf
    simp at hf ⊢
    omega
   ·rw [sJ,List.filterMap_append]
    exact tj
theorem nB {A:Type}:∀(ms:List A),(List.range ms.length).filterMap (ms[·]?)=ms
 | []=>rfl
 | m :: ms=>by
  rw [aL,List.range_succ_eq_map,List.filterMap_cons]
  simp only [List.getElem?_cons_zero,List.filterMap_map,Function.comp_def,List.getElem?_cons_succ]
  rw [nB ms]
theorem Ak (hE:∀f,fF C.P C.E.gl f (C.E.fs f)∧(C.E.fs f).sg=sg f) {id:Nat} {ops:Array Oper} {draw:Bool} {ms:List oU} {G G':GL} {D:kZ} {σ eX:Sg} {a:Act} {w:World}
  (hr:BI C.P sg C.nt ops draw ms=true) (hg:AP ms G=some G') (h:dZ C D σ G.get a w) (hs:BD C.E ms σ eX) (hQ:∀D' a' w',dZ C D' eX G'.get a' w'→Q .normal a' w'):(Code.region id ops draw).wp C.P Q a w:=by
 simp only [BI,af] at hr
 obtain ⟨hc,hd⟩:=hr
 have eh:=zb hs hg
 cases draw with
 | false=>exact wp_region_list (zq hE h hc eh hQ)
 | true =>
  simp only [aR,Bool.false_or,af] at hd
  have hlen:ops.size=ms.length:=by have:=oj hc;simpa using this
  have CG:gj ops.size (Array.replicate ops.size false)=List.range ops.size:=by
   simp only [gj]
   apply List.filter_eq_self.2
   intro i hi
   have hi:i<ops.size:=by simpa using hi
   simp [Array.getD,hi]
  refine wp_region_any hd.1 (Jb hE hc hd.2 hQ ops.size h.drew (by simp) ?_ (by rw [CG];simp) ?_)
  ·intro i o _ hl
   exfalso
   by_cases hi:i<ops.size <;> simp [Array.getD,hi] at hl
  ·rw [CG,hlen,nB]
   exact eh
end
end Go.Eng
namespace Go.Eng
open Go.RowKit
theorem GL.yg {G:GL} {k:Nat}:∀{g:Gh},G.get k=g→g ≠ .no→(k,g)∈G:=by
 induction G with
 | nil=>intro g h hn;exact absurd h.symm hn
 | cons p r ih =>
  intro g h hn
  obtain ⟨j,x⟩:=p
  simp only [GL.get] at h
  split at h
  ·rename_i e;subst e;subst h;exact List.mem_cons_self ..
  ·exact List.mem_cons_of_mem _ (ih h hn)
def rename (ρ:List (Nat × Nat)) (τ:Nat→Value) (key:Nat):Value :=
 match ρ.find? (fun p=>lk p.1 == key) with
 | some p=>τ (lk p.2)
 | none=>τ key
theorem Ht (i j:Nat):(lk i == lk j)=(i == j):=by
 by_cases h:i=j
 ·subst h;simp
 ·have:lk i≠lk j:=fun e=>h (j7 e)
  rw [beq_eq_false_iff_ne.2 this,beq_eq_false_iff_ne.2 h]
section
variable {C:Ctx} {D:kZ} {σ:Sg} {a:Act} {w:World} {G H:GL}
theorem dZ.weaken (h:dZ C D σ G.get a w) (hr:lh G H=true):∃D',dZ C D' σ H.get a w:=by
 unfold lh at hr
 simp only [af] at hr
 obtain ⟨⟨h9,Lu⟩,qP⟩:=hr
 generalize Ti:zi G H=ρ at Lu qP
 have Gl:∀p∈ρ,∀q∈ρ,(p.1=q.1 ↔ p.2=q.2):=by
  intro p hp q hq
  have:=bj.1 (bj.1 Lu p hp) q hq
  by_cases e1:p.1=q.1 <;> by_cases e2:p.2=q.2 <;> simp [e1,e2] at this ⊢
 have yl:∀p∈ρ,rename ρ D.τ (lk p.1)=D.τ (lk p.2):=by
  intro p hp
  simp only [rename,Ht]
  cases hf:ρ.find? (fun q=>q.1 == p.1) with
  | none=>exact absurd (List.find?_eq_none.1 hf p hp) (by simp)
  | some q =>
   have h1:q.1=p.1:=by simpa using List.find?_some hf
   have h2:=(Gl q (List.mem_of_find?_eq_some hf) p hp).1 h1
   simp only [h2]
 have EU:∀{i j:Nat},(ρ.find? (fun p=>p.1 == i)).map (·.2)=some j→rename ρ D.τ (lk i)=D.τ (lk j):=by
  intro i j hf
  simp only [bg] at hf
  obtain ⟨q,hf,rfl⟩:=hf
  have h1:q.1=i:=by simpa using List.find?_some hf
  rw [←h1]
  exact yl q (List.mem_of_find?_eq_some hf)
 have kN:∀k,H.get k ≠ .no→(match H.get k,G.get k with
  | .no,_=>true
  | .ptr m o,.ptr m' o'=>m == m'&&o == o'&&(match H.get m with | .cl _=>true | _=>false)
  | .fV i s,.fV j s'=>s == s'&&(ρ.find? (fun p=>p.1 == i)).map (·.2) == some j&&(H.get (lk i)).fL
  | .cl ts,.cl us=>ts.all fun t=>(match us.find? (fun u=>u.1 == t.1) with | some u=>(ρ.find? (fun p=>p.1 == t.2.1)).map (·.2) == some u.2.1&&t.2.2 == u.2.2 | none=>false)&&(H.get (lk t.2.1)).fL
  | .live s,_=>ρ.any fun p=>lk p.1 == k&&G.get (lk p.2) == .live s
  | .pv s,.pv s'=>s == s'&&ρ.any fun p=>lk p.1 == k&&p.1 == p.2
  | .pv s,.nO d s'=>s == s'&&!(H.get d).fL&&ρ.any fun p=>lk p.1 == k&&p.1 == p.2
  | .used,_=>decide (1000000≤k)
  | _,_=>false)=true:=fun k hk=>bj.1 qP (k,H.get k) (GL.yg rfl hk)
 have jK:∀m ts,H.get m = .cl ts→∃us,G.get m = .cl us∧∀t∈ts,(∃u∈us,u.1=t.1∧rename ρ D.τ (lk t.2.1)=D.τ (lk u.2.1))∧(H.get (lk t.2.1)).fL=true:=by
  intro m ts e
  have:=kN m (by rw [e];simp)
  rw [e] at this
  cases hg:G.get m with
  | cl us =>
   rw [hg] at this
   refine ⟨us,rfl,fun t ht=>?_⟩
   have h1:=bj.1 this t ht
   simp only [af] at h1
   refine ⟨?_,h1.2⟩
   have h2:=h1.1
   split at h2
   ·rename_i u hu
    simp only [af,beq_iff_eq] at h2
    exact ⟨u,List.mem_of_find?_eq_some hu,by simpa using List.find?_some hu,EU h2.1⟩
   ·cases h2
  | _=>rw [hg] at this;simp at this
 have kW:∀k s,H.get k = .live s→∃p∈ρ,lk p.1=k∧G.get (lk p.2) = .live s:=by
  intro k s e
  have:=kN k (by rw [e];simp)
  rw [e] at this
  simp only [List.any_eq_true,af,beq_iff_eq] at this
  exact this
 have Gg:∀k s,H.get k = .pv s→(∃p∈ρ,lk p.1=k∧p.1=p.2)∧(G.get k).BN=some s∧∀d,(G.get k).par=some d→(H.get d).fL=false:=by
  intro k s e
  have:=kN k (by rw [e];simp)
  rw [e] at this
  cases hg:G.get k with
  | pv s' =>
   rw [hg] at this
   simp only [af,beq_iff_eq,List.any_eq_true] at this
   exact ⟨this.2,by rw [this.1];rfl,fun d hd=>by cases hd⟩
  | nO d s' =>
   rw [hg] at this
   simp only [af,beq_iff_eq,List.any_eq_true,Bool.not_eq_true'] at this
   exact ⟨this.2,by rw [this.1.1];rfl,fun d hd=>by cases hd;exact this.1.2⟩
  | _=>rw [hg] at this;simp at this
 have sM:∀key g,gw { D with τ:=rename ρ D.τ } H.get key=some g→(∃ts,H.get key = .cl ts∧gw D G.get key=some g)∨(∃p∈ρ,lk p.1=key∧gw D G.get (lk p.2)=some g ∧
   (∀d,(G.get (lk p.2)).par=some d→(H.get d).fL=false)∧(H.get key).fL=true∧((p.1=p.2)∨∃s,G.get (lk p.2) = .live s)):=by
  intro key g hb
  cases hk:H.get key with
  | cl ts =>
   left
   obtain ⟨us,hu,_⟩:=jK key ts hk
   refine ⟨ts,rfl,?_⟩
   rw [iS hk] at hb
   rw [iS hu]
   exact hb
  | live s =>
   right
   obtain ⟨p,hp,h1,h2⟩:=kW key s hk
   refine ⟨p,hp,h1,?_,fun d hd=>(by rw [h2] at hd;cases hd),rfl,.inr ⟨s,h2⟩⟩
   rw [iR hk,←h1] at hb
   rw [iR h2]
   dsimp only at hb
   rw [yl p hp] at hb
   exact hb
  | pv s =>
   right
   obtain ⟨⟨p,hp,h1,h2⟩,h3,h4⟩:=Gg key s hk
   have e:lk p.2=key:=by rw [←h2];exact h1
   refine ⟨p,hp,h1,?_,by rw [e];exact h4,rfl,.inl h2⟩
   rw [iG (by rw [hk];rfl),←h1] at hb
   rw [e,iG (Gh.pV h3)]
   dsimp only at hb
   rw [yl p hp,e] at hb
   exact hb
  | nO d s =>
   have:=kN key (by rw [hk];simp)
   rw [hk] at this
   simp at this
  | pc s =>
   have:=kN key (by rw [hk];simp)
   rw [hk] at this
   simp at this
  | _=>simp [gw,hk] at hb
 have CF:∀m,(H.get m).gq=true→C.nt≤m∧m<1000000:=by
  intro m hm
  cases hk:H.get m with
  | cl ts =>
   obtain ⟨us,hu,_⟩:=jK m ts hk
   exact h.kk m (by rw [hu];rfl)
  | _=>rw [hk] at hm;simp [Gh.gq] at hm
 refine ⟨{ D with τ:=rename ρ D.τ },{ size:=h.size,defers:=h.defers,km:=h.km,kk:=CF,mg:=?_,slot:=?_,mem:=?_,fV:=?_,ps:=?_,sep:=?_,own:=?_,inv:=?_,ext:=h.ext,nF:=h.nF,gl:=h.gl,fix:=h.fix.of rfl fun hp=>?_ }⟩
 ·intro m hm
  cases hk:H.get m with
  | live s =>
   obtain ⟨p,_,rfl,_⟩:=kW m s hk
   exact iu _
  | pv s =>
   obtain ⟨⟨p,_,h1,_⟩,_⟩:=Gg m s hk
   rw [←h1];exact iu _
  | nO d s =>
   have:=kN m (by rw [hk];simp)
   rw [hk] at this
   simp at this
  | pc s =>
   have:=kN m (by rw [hk];simp)
   rw [hk] at this
   simp at this
  | used =>
   have:=kN m (by rw [hk];simp)
   rw [hk] at this
   simpa using this
  | _=>rw [hk] at hm;simp [Gh.fL] at hm
 ·intro t ht
  rcases h.slot t ht with e | ⟨e1,e2⟩
  ·exact .inl e
  ·refine .inr ⟨e1,fun Q3=>?_⟩
   replace e2:=e2 Q3
   cases hk:H.get t with
   | ptr m o =>
    have:=kN t (by rw [hk];simp)
    rw [hk] at this
    cases hg:G.get t with
    | ptr m' o' =>
     rw [hg] at this e2
     simp only [af,beq_iff_eq] at this
     obtain ⟨⟨rfl,rfl⟩,_⟩:=this
     exact e2
    | _=>rw [hg] at this;simp at this
   | fV i s =>
    have:=kN t (by rw [hk];simp)
    rw [hk] at this
    cases hg:G.get t with
    | fV j s' =>
     rw [hg] at this e2
     simp only [af,beq_iff_eq] at this
     obtain ⟨⟨rfl,hj⟩,_⟩:=this
     simp only [jU] at e2 ⊢
     rw [EU hj]
     exact e2
    | _=>rw [hg] at this;simp at this
   | y4 ts p =>
    have:=kN t (by rw [hk];simp)
    rw [hk] at this
    simp at this
   | pe k =>
    have:=kN t (by rw [hk];simp)
    rw [hk] at this
    simp at this
   | pm k =>
    have:=kN t (by rw [hk];simp)
    rw [hk] at this
    simp at this
   | _=>trivial
 ·intro m ts hk
  obtain ⟨us,hu,ht⟩:=jK m ts hk
  obtain ⟨cs,hv,hc⟩:=h.mem m us hu
  refine ⟨cs,hv,fun t Oe=>?_⟩
  obtain ⟨⟨u,QX,h1,h2⟩,_⟩:=ht t Oe
  dsimp only
  rw [h2,←h1]
  exact hc u QX
 ·intro key s hk
  obtain ⟨p,hp,rfl,hg⟩:=kW key s hk
  dsimp only
  rw [yl p hp]
  exact h.fV _ s hg
 ·intro key s hs
  have hk:H.get key = .pv s:=by
   cases hk:H.get key with
   | pv s'=>rw [hk] at hs;cases hs;rfl
   | nO d s' =>
    have:=kN key (by rw [hk];simp)
    rw [hk] at this
    simp at this
   | pc s' =>
    have:=kN key (by rw [hk];simp)
    rw [hk] at this
    simp at this
   | _=>rw [hk] at hs;cases hs
  obtain ⟨⟨p,hp,h1,h2⟩,h3,_⟩:=Gg key s hk
  have:=h.ps key s h3
  dsimp only
  refine ⟨?_,?_,fun d s1 s2 e1 _=>by rw [hk] at e1;cases e1⟩
  ·rw [←h1,yl p hp,←h2,h1];exact this.1
  ·rw [←h1,yl p hp,←h2,h1];exact this.2.1
 ·intro key iL g h1 h2
  left
  have ID:∀m ts,H.get m = .cl ts→(G.get m).sH=false:=fun m ts e=>by
   obtain ⟨us,hu,_⟩:=jK m ts e;rw [hu];rfl
  rcases sM key g h1 with ⟨ts,k1,b1⟩ | ⟨p,hp,k1,b1,c1,Sj,Pb⟩ <;> rcases sM iL g h2 with ⟨us,k2,b2⟩ | ⟨q,hq,k2,b2,c2,Sh,Pa⟩
  ·exact h.rz (ID _ _ k1) b1 b2
  ·have:=h.rz (ID _ _ k1) b1 b2
   have h3:=CF key (by rw [k1];rfl)
   have h4:=iu q.2
   omega
  ·have:=h.rz (ID _ _ k2) b2 b1
   have h3:=CF iL (by rw [k2];rfl)
   have h4:=iu p.2
   omega
  ·have FP:∀(p q:Nat × Nat) (iL:Nat),lk q.1=iL→(H.get iL).fL=true→(q.1=q.2∨∃s,G.get (lk q.2) = .live s)→(∀d,(G.get (lk p.2)).par=some d→(H.get d).fL=false)→(G.get (lk p.2)).par≠some (lk q.2):=by
    intro p q iL e1 e2 e3 e4 e5
    have h6:=e4 _ e5
    rcases e3 with e3 | ⟨s,e3⟩
    ·rw [←e3,e1,e2] at h6;cases h6
    ·cases hg:G.get (lk p.2) with
     | nO d s' =>
      rw [hg] at e5
      cases e5
      have:=h.inv (lk p.2)
      rw [hg] at this
      rcases this with e | ⟨s',e⟩ <;> rw [e3] at e <;> cases e
     | _=>rw [hg] at e5;cases e5
   rcases h.sep _ _ g b1 b2 with e | e | e
   ·have:=j7 e
    rw [←k1,←k2,(Gl p hp q hq).2 this]
   ·exact (FP p q iL k2 Sh Pa c1 e).elim
   ·exact (FP q p key k1 Sj Pb c2 e).elim
 ·intro key g hb
  rcases sM key g hb with ⟨_,_,b1⟩ | ⟨_,_,_,b1,_⟩
  ·exact h.own _ _ b1
  ·exact h.own _ _ b1
 ·intro key
  cases hk:H.get key with
  | ptr m o =>
   have:=kN key (by rw [hk];simp)
   rw [hk] at this
   cases hg:G.get key with
   | ptr m' o' =>
    rw [hg] at this
    simp only [af] at this
    have h3:=this.2
    simp only [fZ]
    split at h3
    ·rename_i e;rw [e];rfl
    ·cases h3
   | _=>rw [hg] at this;simp at this
  | fV i s =>
   have:=kN key (by rw [hk];simp)
   rw [hk] at this
   cases hg:G.get key with
   | fV j s' =>
    rw [hg] at this
    simp only [af] at this
    exact this.2
   | _=>rw [hg] at this;simp at this
  | cl ts =>
   obtain ⟨us,hu,ht⟩:=jK key ts hk
   exact fun t Oe=>(ht t Oe).2
  | y4 ts p =>
   have:=kN key (by rw [hk];simp)
   rw [hk] at this
   simp at this
  | pe k =>
   have:=kN key (by rw [hk];simp)
   rw [hk] at this
   simp at this
  | pm k =>
   have:=kN key (by rw [hk];simp)
   rw [hk] at this
   simp at this
  | nO d s =>
   have:=kN key (by rw [hk];simp)
   rw [hk] at this
   simp at this
  | _=>trivial
 ·have hH:(H.get (lk 999999)).sH=true:=by simpa [hp] using h9
  refine ⟨hH,?_⟩
  obtain ⟨s,hk⟩:∃s,H.get (lk 999999) = .pv s:=by
   cases hk:H.get (lk 999999) with
   | pv s=>exact ⟨s,rfl⟩
   | nO d s' =>
    have:=kN _ (by rw [hk];simp)
    rw [hk] at this
    simp at this
   | pc s' =>
    have:=kN _ (by rw [hk];simp)
    rw [hk] at this
    simp at this
   | _=>rw [hk] at hH;cases hH
  obtain ⟨⟨p,jV,h1,h2⟩,_⟩:=Gg _ s hk
  show rename ρ D.τ (lk 999999)=D.τ (lk 999999)
  rw [←h1,yl p jV,←h2]
theorem dZ.forget {γ:Ga} (h:dZ C D σ γ a w) {eX:Sg} (h1:Le eX σ):dZ C D eX γ a w :=
 { h with
  slot:=fun t ht=>by
   rcases h1 t with e | e
   ·rw [e];exact h.slot t ht
   ·exact .inl e
  mem:=fun m ts hm=>by
   obtain ⟨cs,hv,ht⟩:=h.mem m ts hm
   refine ⟨cs,?_,ht⟩
   rcases h1 m with e | e
   ·rw [e];exact hv
   ·rw [e]
    obtain ⟨elem,hh,_,hn⟩:=hv
    exact ⟨elem,hh,.inl rfl,hn⟩
  ps:=fun key s hs=>by
   obtain ⟨e1,e2,e3⟩:=h.ps key s hs
   have qc:s8 eX γ key:=fun d s1 s2 f1 f2=>by
    rcases h1 key with e | e
    ·rcases h1 d with e' | e'
     ·rw [e,e'];exact e3 d s1 s2 f1 f2
     ·exact .inr (.inl e')
    ·exact .inl e
   rcases h1 key with e | e
   ·rw [e];exact ⟨e1,e2,qc⟩
   ·rw [e];exact ⟨e1,⟨e2.1,.inl rfl⟩,qc⟩ }
theorem head_eq {σ:Sg}:∀{cq:List Nat} {jW:List AV},Fx σ cq jW→∀k,head cq jW k=if k∈cq then σ k else .dead
 | [],[],_,k=>rfl
 | j :: ks,v :: vs,h,k=>by
  have ih:=head_eq h.2 k
  simp only [head] at ih
  simp only [head,Eng.cY,dP,bq]
  by_cases e:k=j
  ·subst e
   simp [h.1]
  ·simp only [e,if_false,false_or]
   exact ih
 | [],_ :: _,h,_=>h.elim
 | _ :: _,[],h,_=>h.elim
def uE (i:Nat):Exit:=if i<1000000 then .exit i else .goto (i - 1000000)
theorem rH {i:Nat} (h:i<1000000):uE i = .exit i:=aq h
theorem sa (l:Nat):uE (gid l) = .goto l:=by
 have h:¬gid l<1000000:=by unfold gid;omega
 unfold uE
 rw [aj h]
 have:gid l - 1000000=l:=by unfold gid;exact Nat.add_sub_cancel_left ..
 rw [this]
theorem qC {i:Nat} {n:Act→World→Prop} {Q:Exit→Act→World→Prop} {a:Act} {w:World} (h:Q (uE i) a w):Exit.then n Q (uE i) a w:=by
 unfold uE at h ⊢
 split at h
 ·rename_i e;rw [aq e];exact h
 ·rename_i e;rw [aj e];exact h
theorem pk (i:Nat):(∃l,i=gid l∧uE i = .goto l)∨(i<1000000∧uE i = .exit i):=by
 by_cases h:i<1000000
 ·exact .inr ⟨h,rH h⟩
 ·refine .inl ⟨i - 1000000,?_,aj h⟩
  unfold gid;omega
section
variable {P:Program} {a:Act} {w:World} {Q:Exit→Act→World→Prop}
theorem te {c:Code} {ι:Type} (lb rk mu:ι→Nat) (Inv:ι→Act→World→Prop)
  (first:c.wp P (fun e a w=>match e with | .goto l=>∃i,lb i=l∧Inv i a w | e=>Q e a w) a w)
  (pass:∀i a w,Inv i a w→∃rest,findLabel c (lb i)=some rest∧rest.wp P (fun e a' w'=>match e with | .goto l=>∃j,lb j=l∧Inv j a' w'∧(rk j<rk i∨rk j=rk i∧mu j<mu i) | e=>Q e a' w') a w) :
  (Code.scope c).wp P Q a w:=by
 intro b k cs
 have key:∀m n i a w,rk i=m→mu i=n→Inv i a w→∀rest,findLabel c (lb i)=some rest→∃e a' w',Q e a' w'∧Arrives P (lone (b.at a (.code rest :: .inScope c :: k)) cs w) b k cs e a' w':=by
  intro m
  induction m using Nat.strongRecOn with
  | _ m QJ =>
   intro n
   induction n using Nat.strongRecOn with
   | _ n ih =>
    intro i a w hm hn hI rest hf
    obtain ⟨BG,wV,hp⟩:=pass i a w hI
    rw [hf] at wV
    cases wV
    obtain ⟨e,oi,nK,hq,qO⟩:=hp b (.inScope c :: k) cs
    cases e with
    | normal=>exact ⟨.normal,oi,nK,hq,Steps.trans qO (.one step_inScope)⟩
    | exit id=>exact ⟨.exit id,oi,nK,hq,fun k' hk=>qO k' (by simp [exitTo,hk])⟩
    | goto l' =>
     obtain ⟨j,rfl,hJ,gS⟩:=hq
     obtain ⟨su,Jp,_⟩:=pass j oi nK hJ
     have hg:gotoIn (lb j) (.inScope c :: k)=some (.code su :: .inScope c :: k):=by simp [gotoIn,Jp]
     have:∃e a' w',Q e a' w'∧Arrives P (lone (b.at oi (.code su :: .inScope c :: k)) cs nK) b k cs e a' w':=by
      rcases gS with gS | ⟨he,gS⟩
      ·exact QJ (rk j) (by omega) (mu j) j oi nK rfl rfl hJ su Jp
      ·exact ih (mu j) (by omega) j oi nK (by omega) rfl hJ su Jp
     obtain ⟨IP,I8,GG,CH,vw⟩:=this
     exact ⟨IP,I8,GG,CH,.of_steps (qO _ hg) vw⟩
    | ret=>exact ⟨_,oi,nK,hq,qO⟩
    | panic ch=>exact ⟨_,oi,nK,hq,qO⟩
    | outgrown=>exact ⟨_,oi,nK,hq,qO⟩
 obtain ⟨e,oi,nK,hq,qO⟩:=first b (.inScope c :: k) cs
 cases e with
 | normal=>exact ⟨.normal,oi,nK,hq,.head step_scope (Steps.trans qO (.one step_inScope))⟩
 | exit id=>exact ⟨.exit id,oi,nK,hq,fun k' hk => .head step_scope (qO k' (by simp [exitTo,hk]))⟩
 | goto l' =>
  obtain ⟨j,rfl,hJ⟩:=hq
  obtain ⟨su,Jp,_⟩:=pass j oi nK hJ
  have hg:gotoIn (lb j) (.inScope c :: k)=some (.code su :: .inScope c :: k):=by simp [gotoIn,Jp]
  obtain ⟨IP,I8,GG,CH,vw⟩:=key _ _ j oi nK rfl rfl hJ su Jp
  exact ⟨IP,I8,GG,CH,.of_steps (.head step_scope (qO _ hg)) vw⟩
 | ret=>exact ⟨_,oi,nK,hq,.of_steps (.one step_scope) qO⟩
 | panic ch=>exact ⟨_,oi,nK,hq,.of_steps (.one step_scope) qO⟩
 | outgrown=>exact ⟨_,oi,nK,hq,.of_steps (.one step_scope) qO⟩
end
structure yY (C:Ctx) (rt:GL→Bool) (n:Option GL) (ex:List (Nat × GL)) (Qm:MX→Sg→Prop) (Q:Exit→Act→World→Prop):Prop where
 nrm:∀G' D' eX a' w',n=some G'→Qm .normal eX→dZ C D' eX G'.get a' w'→Q .normal a' w'
 rS:∀i G' D' eX a' w',(i,G')∈ex→Qm (.exit i) eX→dZ C D' eX G'.get a' w'→Q (uE i) a' w'
 ret:∀G' D' eX a' w',rt G'=true→Qm .ret eX→dZ C D' eX G'.get a' w'→Q .ret a' w'
def Fw (P:Program) (c:Code) (Q:Exit→Act→World→Prop) (a:Act) (w:World):Prop :=
 ∃(ι:Type) (lb rk mu:ι→Nat) (Inv:ι→Act→World→Prop),
  c.wp P (fun e a w=>match e with | .goto l=>(∃i,lb i=l∧Inv i a w)∨Q (.goto l) a w | e=>Q e a w) a w ∧
  ∀i a w,Inv i a w→∃rest,findLabel c (lb i)=some rest ∧
   rest.wp P (fun e a' w'=>match e with | .goto l=>(∃j,lb j=l∧Inv j a' w'∧(rk j<rk i∨rk j=rk i∧mu j<mu i))∨Q (.goto l) a' w' | e=>Q e a' w') a w
variable {sg:Nat→dw}
theorem Fg (hE : ∀ f, fF C.P C.E.gl f (C.E.fs f) ∧ (C.E.fs f).sg = sg f) {rt : GL → Bool} : ∀ (m : M),
    (∀ {c : Code} {G : GL} {r : Option GL × List (Nat × GL)} {D : kZ} {σ : Sg} {a : Act} {w : World} {Qm : MX → Sg → Prop} {Q : Exit → Act → World → Prop},
      dp C.P sg C.nt rt c m G = some r → dZ C D σ G.get a w → oJ C.E m Qm σ → yY C rt r.1 r.2 Qm Q → c.wp C.P Q a w) ∧
    (∀ {c : Code} {G : GL} {r : Option GL × List (Nat × GL)} {D : kZ} {σ : Sg} {a : Act} {w : World} {Qm : MX → Sg → Prop} {Q : Exit → Act → World → Prop},
      qk C.P sg C.nt rt c m G = some r → dZ C D σ G.get a w → oJ C.E m Qm σ → yY C rt r.1 r.2 Qm Q → Fw C.P c Q a w) := by
  intro m
  induction m with
  | skip =>
    refine ⟨?_, fun hc => by simp only [qk, reduceCtorEq] at hc⟩
    intro c G r D σ a w Qm Q hc h hm hp
    cases c <;> simp only [dp, reduceCtorEq, ax] at hc
    · subst hc
      exact wp_skip (hp.nrm _ _ _ _ _ rfl hm h)
    · subst hc
      exact wp_label (hp.nrm _ _ _ _ _ rfl hm h)
  | fD ms =>
    refine ⟨?_, fun hc => by simp only [qk, reduceCtorEq] at hc⟩
    intro c G r D σ a w Qm Q hc h hm hp
    cases c <;> simp only [dp, reduceCtorEq] at hc
    rw [aB] at hc
    obtain ⟨h1, h2⟩ := hc
    rw [bg] at h2
    obtain ⟨G', hg, rfl⟩ := h2
    obtain ⟨eX, hs, hq⟩ := hm
    exact Ak hE h1 hg h hs fun D' a' w' h' => hp.nrm _ _ _ _ _ rfl hq h'
  | seq x y KZ KY =>
    refine ⟨?_, fun hc => by simp only [qk, reduceCtorEq] at hc⟩
    intro c G r D σ a w Qm Q hc h hm hp
    cases c <;> simp only [dp, reduceCtorEq] at hc
    rw [bt] at hc
    obtain ⟨⟨n1, e1⟩, h1, h2⟩ := hc
    refine wp_seq (KZ.1 h1 h hm ?_)
    cases n1 with
    | none =>
      simp only [ax] at h2
      subst h2
      exact { nrm := fun _ _ _ _ _ e => (by cases e), rS := fun i G' D' eX a' w' hi hq h' => qC (hp.rS i G' D' eX a' w' hi hq h'), ret := fun G' D' eX a' w' hi hq h' => hp.ret G' D' eX a' w' hi hq h' }
    | some G1 =>
      simp only [bg] at h2
      obtain ⟨q, hq, rfl⟩ := h2
      refine { nrm := fun G' D' eX a' w' e lP h' => ?_, rS := fun i G' D' eX a' w' hi hq h' => qC (hp.rS i G' D' eX a' w' (List.mem_append_left _ hi) hq h'), ret := fun G' D' eX a' w' hi hq h' => hp.ret G' D' eX a' w' hi hq h' }
      cases e
      obtain ⟨DN, hle, lP⟩ := lP
      exact KY.1 hq (h'.forget hle) lP { nrm := hp.nrm, rS := fun i G' D' eX a' w' hi hq h' => hp.rS i G' D' eX a' w' (List.mem_append_right _ hi) hq h', ret := hp.ret }
  | cond x J y z KY QI =>
    refine ⟨?_, fun hc => by simp only [qk, reduceCtorEq] at hc⟩
    intro c G r D σ a w Qm Q hc h hm hp
    cases c <;> simp only [dp, reduceCtorEq] at hc
    rename_i cx ca cb
    rw [aB] at hc
    obtain ⟨h1, h2⟩ := hc
    simp only [af] at h1
    rw [bt] at h2
    obtain ⟨⟨n1, e1⟩, Ik, h2⟩ := h2
    rw [bt] at h2
    obtain ⟨⟨n2, e2⟩, Ol, h2⟩ := h2
    obtain ⟨t, Gn, m1, m2⟩ : ∃ t, a.eval cx = .bool t ∧ (t = true → oJ C.E y Qm σ) ∧ (t = false → oJ C.E z Qm σ) := by
      have h0 := h.jz h1.1 h1.2
      rcases hm with ⟨t, ht, m1, m2⟩ | ⟨ht, m1, m2⟩
      · refine ⟨t, ?_, m1, m2⟩
        rw [ht] at h0
        rcases h0 with e | ⟨e, _⟩
        · cases e
        · generalize a.eval cx = v at e ⊢
          cases e
          rfl
      · rw [ht] at h0
        rcases h0 with e | ⟨e, _⟩
        · cases e
        · generalize a.eval cx = v at e ⊢
          cases e
          exact ⟨_, rfl, fun _ => m1, fun _ => m2⟩
    have key : (∀ D' eX a' w' G', n1 = some G' → Qm .normal eX → dZ C D' eX G'.get a' w' → Q .normal a' w') ∧ (∀ D' eX a' w' G', n2 = some G' → Qm .normal eX → dZ C D' eX G'.get a' w' → Q .normal a' w') ∧ r.2 = e1 ++ e2 := by
      cases n1 with
      | none =>
        simp only [ax] at h2
        subst h2
        exact ⟨fun _ _ _ _ _ e => (by cases e), fun D' eX a' w' G' e hq h' => hp.nrm G' D' eX a' w' e hq h', rfl⟩
      | some A =>
        cases n2 with
        | none =>
          simp only [ax] at h2
          subst h2
          exact ⟨fun D' eX a' w' G' e hq h' => hp.nrm G' D' eX a' w' e hq h', fun _ _ _ _ _ e => (by cases e), rfl⟩
        | some B =>
          simp only at h2
          rw [aB] at h2
          obtain ⟨h3, h4⟩ := h2
          simp only [af] at h3
          simp only [ax] at h4
          subst h4
          refine ⟨fun D' eX a' w' G' e hq h' => ?_, fun D' eX a' w' G' e hq h' => ?_, rfl⟩
          · cases e
            obtain ⟨A5, AM⟩ := h'.weaken h3.1
            exact hp.nrm _ _ _ _ _ rfl hq AM
          · cases e
            obtain ⟨A5, AM⟩ := h'.weaken h3.2
            exact hp.nrm _ _ _ _ _ rfl hq AM
    obtain ⟨k1, k2, k3⟩ := key
    refine wp_cond_split Gn (fun e => ?_) (fun e => ?_)
    · exact KY.1 Ik h (m1 e) { nrm := fun G' D' eX a' w' e => k1 D' eX a' w' G' e, rS := fun i G' D' eX a' w' hi hq h' => hp.rS i G' D' eX a' w' (by rw [k3]; exact List.mem_append_left _ hi) hq h', ret := hp.ret }
    · exact QI.1 Ol h (m2 e) { nrm := fun G' D' eX a' w' e => k2 D' eX a' w' G' e, rS := fun i G' D' eX a' w' hi hq h' => hp.rS i G' D' eX a' w' (by rw [k3]; exact List.mem_append_right _ hi) hq h', ret := hp.ret }
  | block id J y ih =>
    refine ⟨?_, fun hc => by simp only [qk, reduceCtorEq] at hc⟩
    intro c G r D σ a w Qm Q hc h hm hp
    cases c <;> simp only [dp, reduceCtorEq] at hc
    rename_i i b
    rw [aB] at hc
    obtain ⟨⟨rfl, hid⟩, h2⟩ := hc
    rw [bt] at h2
    obtain ⟨⟨n1, e1⟩, Ik, h2⟩ := h2
    rw [aB] at h2
    obtain ⟨qP, h2⟩ := h2
    simp only [ax] at h2
    subst h2
    have wW : ∀ G' D' eX a' w', G' ∈ n1.toList ++ (e1.filter (·.1 == i)).map (·.2) → Qm .normal eX → dZ C D' eX G'.get a' w' → Q .normal a' w' := by
      intro G' D' eX a' w' hG hq h'
      obtain ⟨A5, AM⟩ := h'.weaken (bj.1 qP _ hG)
      refine hp.nrm J A5 eX a' w' ?_ hq AM
      cases n1 with
      | some x => simp
      | none =>
        have : (e1.filter (·.1 == i)).isEmpty = false := by
          cases hf : e1.filter (·.1 == i) with
          | nil => rw [hf] at hG; simp at hG
          | cons _ _ => rfl
        simp only [this, Bool.and_false]
        rfl
    refine wp_block (ih.1 Ik h hm { nrm := fun G' D' eX a' w' e hq h' => ?_, rS := fun j G' D' eX a' w' hi hq h' => ?_, ret := fun G' D' eX a' w' hi hq h' => hp.ret G' D' eX a' w' hi hq h' })
    · exact wW G' D' eX a' w' (List.mem_append_left _ (by simp at e; simp [e])) hq h'
    · simp only at hq hi
      by_cases e : j = i
      · subst e
        rw [aq rfl] at hq
        rw [rH hid]
        simp only [Exit.inBlock, if_true]
        exact wW G' D' eX a' w' (List.mem_append_right _ (aW.2 ⟨_, List.mem_filter.2 ⟨hi, by simp⟩, rfl⟩)) hq h'
      · rw [aj e] at hq
        have := hp.rS j G' D' eX a' w' (List.mem_filter.2 ⟨hi, by simpa using e⟩) hq h'
        rcases pk j with ⟨l, _, e2⟩ | ⟨_, e2⟩
        · rw [e2] at this ⊢; exact this
        · rw [e2] at this ⊢
          simp only [Exit.inBlock]
          rw [aj e]; exact this
  | loop cq J y ih =>
    refine ⟨?_, fun hc => by simp only [qk, reduceCtorEq] at hc⟩
    intro c G r D σ a w Qm Q hc h hm hp
    cases c <;> simp only [dp, reduceCtorEq] at hc
    rename_i b
    rw [aB] at hc
    obtain ⟨h1, h2⟩ := hc
    simp only [af] at h1
    obtain ⟨⟨Q9, CV⟩, _⟩ := h1
    rw [bt] at h2
    obtain ⟨⟨n1, e1⟩, Ik, h2⟩ := h2
    rw [aB] at h2
    obtain ⟨qP, h2⟩ := h2
    simp only [ax] at h2
    subst h2
    obtain ⟨ι, jW, μ, i0, OP, uc⟩ := hm
    have wT : ∀ {G' : GL} {D' : kZ} {eX : Sg} {a' : Act} {w' : World} {i : ι}, lh G' J = true → dZ C D' eX G'.get a' w' → Fx eX cq (jW i) → ∃ A5, dZ C A5 (head cq (jW i)) (GL.get J) a' w' := by
      intro G' D' eX a' w' i Oi h' C1
      obtain ⟨A5, AM⟩ := h'.weaken Oi
      refine ⟨A5, AM.forget (fun k => ?_)⟩
      rw [head_eq C1 k]
      split
      · exact .inl rfl
      · exact .inr rfl
    refine wp_loop_ghost (fun n a w => ∃ i D, μ i = n ∧ dZ C D (head cq (jW i)) (GL.get J) a w) (μ i0) ?_ ?_
    · obtain ⟨A5, AM⟩ := wT Q9 h OP
      exact ⟨i0, A5, rfl, AM⟩
    · rintro n a1 w1 ⟨i, D1, rfl, hs⟩
      refine ih.1 Ik hs (uc i) { nrm := fun G' D' eX a' w' e hq h' => ?_, rS := fun j G' D' eX a' w' hi hq h' => qC (hp.rS j G' D' eX a' w' hi hq h'), ret := fun G' D' eX a' w' hi hq h' => hp.ret G' D' eX a' w' hi hq h' }
      simp only at e
      subst e
      simp only [Option.all_some] at qP
      obtain ⟨j, gS, C1⟩ := hq
      obtain ⟨A5, AM⟩ := wT qP h' C1
      exact ⟨μ j, gS, j, A5, rfl, AM⟩
  | exit id =>
    refine ⟨?_, fun hc => by simp only [qk, reduceCtorEq] at hc⟩
    intro c G r D σ a w Qm Q hc h hm hp
    cases c <;> simp only [dp, reduceCtorEq] at hc
    · rw [aB] at hc
      obtain ⟨⟨rfl, hid⟩, h2⟩ := hc
      simp only [ax] at h2
      subst h2
      exact wp_exit (by have := hp.rS _ _ _ _ _ _ (List.mem_singleton.2 rfl) hm h; rwa [rH hid] at this)
    · rw [aB] at hc
      obtain ⟨rfl, h2⟩ := hc
      simp only [ax] at h2
      subst h2
      exact wp_goto (by have := hp.rS _ _ _ _ _ _ (List.mem_singleton.2 rfl) hm h; rwa [sa] at this)
  | ret =>
    refine ⟨?_, fun hc => by simp only [qk, reduceCtorEq] at hc⟩
    intro c G r D σ a w Qm Q hc h hm hp
    cases c <;> simp only [dp, reduceCtorEq] at hc
    rw [aB] at hc
    obtain ⟨h1, h2⟩ := hc
    exact wp_ret (hp.ret _ _ _ _ _ h1 hm h)
  | BB x ih =>
    refine ⟨?_, fun hc => by simp only [qk, reduceCtorEq] at hc⟩
    intro c G r D σ a w Qm Q hc h hm hp
    cases c <;> simp only [dp, reduceCtorEq] at hc
    rename_i c
    rw [bt] at hc
    obtain ⟨r', h1, h2⟩ := hc
    rw [aB] at h2
    obtain ⟨qP, h2⟩ := h2
    cases h2
    obtain ⟨ι, lb, rk, mu, Inv, h3, h4⟩ := ih.2 (Q := fun e a w => match e with | .goto _ => False | e => Q e a w) h1 h hm
      { nrm := fun G' D' eX a' w' e hq h' => hp.nrm G' D' eX a' w' e hq h', ret := fun G' D' eX a' w' e hq h' => hp.ret G' D' eX a' w' e hq h',
        rS := fun i G' D' eX a' w' hi hq h' => by
          have gS : i < 1000000 := by simpa using bj.1 qP _ hi
          have := hp.rS i G' D' eX a' w' hi hq h'
          rw [rH gS] at this ⊢
          exact this }
    refine te lb rk mu Inv (wp_mono h3 fun e a w q => ?_) fun i a w hI => ?_
    · cases e <;> first | exact q | exact q.resolve_right id
    · obtain ⟨rest, e1, e2⟩ := h4 i a w hI
      refine ⟨rest, e1, wp_mono e2 fun e a w q => ?_⟩
      cases e <;> first | exact q | exact q.resolve_right id
  | BA x ih =>
    refine ⟨fun hc => by rename_i c _ _ _ _ _ _ _ _; cases c <;> simp only [dp, reduceCtorEq] at hc, ?_⟩
    intro c G r D σ a w Qm Q hc h hm hp
    simp only [qk] at hc
    refine ⟨Empty, Empty.elim, Empty.elim, Empty.elim, fun i => i.elim, wp_mono (ih.1 hc h hm hp) fun e a w q => ?_, fun i => i.elim⟩
    cases e <;> first | exact q | exact .inr q
  | A7 l cq J x y KZ KY =>
    refine ⟨fun hc => by rename_i c _ _ _ _ _ _ _ _; cases c <;> simp only [dp, reduceCtorEq] at hc, ?_⟩
    intro c G r D σ a w Qm Q hc h hm hp
    simp only [qk] at hc
    split at hc
    · rename_i rest PG
      rw [bt] at hc
      obtain ⟨⟨n1, e1⟩, Ik, hc⟩ := hc
      rw [bt] at hc
      obtain ⟨⟨n2, e2⟩, Ol, hc⟩ := hc
      rw [aB] at hc
      obtain ⟨w8, hc⟩ := hc
      simp only [ax] at hc
      subst hc
      simp only [af] at w8
      obtain ⟨qP, PA⟩ := w8
      obtain ⟨M1, jW, μ, hb, hr⟩ := hm
      let Jg : M1 → Act → World → Prop := fun i a w => ∃ D', dZ C D' (head cq (jW i)) (GL.get J) a w
      have wT : ∀ {G' : GL} {D' : kZ} {eX : Sg} {a' : Act} {w' : World} {i : M1}, (gid l, G') ∈ e1 ++ e2 → dZ C D' eX G'.get a' w' → Fx eX cq (jW i) → Jg i a' w' := by
        intro G' D' eX a' w' i hi h' C1
        obtain ⟨A5, AM⟩ := h'.weaken (bj.1 qP _ (List.mem_filter.2 ⟨hi, by simp⟩))
        refine ⟨A5, AM.forget (fun k => ?_)⟩
        rw [head_eq C1 k]
        split
        · exact .inl rfl
        · exact .inr rfl
      have wP : ∀ G', n1 = some G' → (if n1.isNone then n2 else n1) = some G' := by rintro G' rfl; rfl
      have CM : ∀ G', n2 = some G' → (if n1.isNone then n2 else n1) = some G' := by
        rintro G' rfl
        simp at PA
        simp [PA]
      obtain ⟨Qr, lb, rk, mu, Inv, h3, h4⟩ := KY.2 (Q := fun e a w => match e with | .goto l' => if l' = l then ∃ i, Jg i a w else Q (.goto l') a w | e => Q e a w) Ol h hb
        { nrm := fun G' D' eX a' w' e hq h' => hp.nrm G' D' eX a' w' (CM G' e) hq h', ret := fun G' D' eX a' w' e hq h' => hp.ret G' D' eX a' w' e hq h',
          rS := fun i G' D' eX a' w' hi hq h' => by
            simp only at hq
            by_cases e : i = gid l
            · subst e
              rw [aq rfl] at hq
              obtain ⟨j, hj⟩ := hq
              rw [sa]
              simp only [if_true]
              exact ⟨j, wT (List.mem_append_right _ hi) h' hj⟩
            · rw [aj e] at hq
              have := hp.rS i G' D' eX a' w' (List.mem_filter.2 ⟨List.mem_append_right _ hi, by simpa using e⟩) hq h'
              rcases pk i with ⟨l', rfl, e2⟩ | ⟨_, e2⟩
              · rw [e2] at this ⊢
                have jM : l' ≠ l := fun h => e (by rw [h])
                simp only [jM, if_false]; exact this
              · rw [e2] at this ⊢; exact this }
      refine ⟨Qr ⊕ M1, Sum.elim lb (fun _ => l), Sum.elim (fun i => rk i + 1) (fun _ => 0), Sum.elim mu μ, Sum.elim Inv Jg, wp_mono h3 fun e a w q => ?_, ?_⟩
      · cases e <;> first | exact q | skip
        rename_i l'
        rcases q with ⟨i, q1, q2⟩ | q
        · exact .inl ⟨.inl i, q1, q2⟩
        · simp only at q
          by_cases e : l' = l
          · rw [aq e] at q
            obtain ⟨i, q⟩ := q
            exact .inl ⟨.inr i, e.symm, q⟩
          · rw [aj e] at q
            exact .inr q
      · rintro (i | i) a w hI
        · obtain ⟨BG, f1, f2⟩ := h4 i a w hI
          refine ⟨BG, f1, wp_mono f2 fun e a w q => ?_⟩
          cases e <;> first | exact q | skip
          rename_i l'
          rcases q with ⟨j, q1, q2, q3⟩ | q
          · exact .inl ⟨.inl j, q1, q2, by simp only [Sum.elim_inl]; omega⟩
          · simp only at q
            by_cases e : l' = l
            · rw [aq e] at q
              obtain ⟨j, q⟩ := q
              exact .inl ⟨.inr j, e.symm, q, .inl (by simp only [Sum.elim_inl, Sum.elim_inr]; omega)⟩
            · rw [aj e] at q
              exact .inr q
        · obtain ⟨D', hs⟩ := hI
          refine ⟨rest, PG, KZ.1 Ik hs (hr i) { nrm := fun G' D' eX a' w' e hq h' => hp.nrm G' D' eX a' w' (wP G' e) hq h', ret := fun G' D' eX a' w' e hq h' => hp.ret G' D' eX a' w' e hq h', rS := fun j G' D' eX a' w' hi hq h' => ?_ }⟩
          simp only at hq
          by_cases e : j = gid l
          · subst e
            rw [aq rfl] at hq
            obtain ⟨k, hk, OP⟩ := hq
            rw [sa]
            exact .inl ⟨.inr k, rfl, wT (List.mem_append_left _ hi) h' OP, .inr ⟨rfl, hk⟩⟩
          · rw [aj e] at hq
            have := hp.rS j G' D' eX a' w' (List.mem_filter.2 ⟨List.mem_append_left _ hi, by simpa using e⟩) hq h'
            rcases pk j with ⟨l', rfl, e2⟩ | ⟨_, e2⟩
            · rw [e2] at this ⊢; exact .inr this
            · rw [e2] at this ⊢; exact this
    · cases hc
theorem Du (hE:∀f,fF C.P C.E.gl f (C.E.fs f)∧(C.E.fs f).sg=sg f) {rt:GL→Bool} (m:M) {c:Code} {G:GL} {r:Option GL × List (Nat × GL)} {D:kZ} {σ:Sg} {a:Act} {w:World} {Qm:MX→Sg→Prop} {Q:Exit→Act→World→Prop}
  (hc:dp C.P sg C.nt rt c m G=some r) (h:dZ C D σ G.get a w) (hm:oJ C.E m Qm σ) (hp:yY C rt r.1 r.2 Qm Q):c.wp C.P Q a w:=(Fg hE m).1 hc h hm hp
end
end Go.Eng
namespace Go.Eng
open Go.RowKit
inductive RV where
 | t (t:Nat)
 | c (a m n:Nat) (agg:Bool)
def RV.get (σ:Sg):RV→Option AV
 | .t j=>some (σ j)
 | .c a m n agg=>match σ a,σ m with
  | .pt,.ag cs=>gW cs 0 n agg
  | _,_=>none
def yd (σ:Sg):List RV→Option (List AV)
 | []=>some []
 | r :: rs=>(r.get σ).bind fun x=>(yd σ rs).map (x :: ·)
structure FD where
 np:Nat
 m:M
 ref:Option (Nat × Nat):=none
 fy:List (Nat × (Nat × Nat)):=[]
 res:List RV
 own:List (Nat × Nat):=[]
 new:Option (Nat × Nat):=none
 fx:List (Nat × Nat):=[]
 ps:Option (Nat × (Nat × Nat)):=none
def FD.sg (d:FD):dw:={ ref:=d.ref.map (·.1),fy:=jr d.fy,cZ:=d.res.length,own:=d.own,new:=d.new.map (·.1),fx:=d.fx,ps:=d.ps.map fun q=>(q.1,q.2.2) }
def FD.start (d:FD) (ins:List AV):Sg :=
 match d.ref with
 | none=>match d.ps with
  | none=>head (List.range d.np) ins
  | some (i,k,_)=>head (lk k :: List.range d.np) (ins.getD i .dead :: ins.set i .pt)
 | some (i,m)=>head (m :: List.range d.np) (ins.getD i .dead :: ins.set i .pt)
def FD.vJ (d:FD) (σ:Sg) (outs:List AV):Prop :=
 ∃rs,yd σ d.res=some rs∧(∀q∈d.own,∃s es,rs[q.1]?=some (.sl s es))∧(∀q,d.new=some q→rs[q.1]?=some .pt) ∧
  outs=rs++d.new.toList.map (fun q=>σ q.2)++d.ref.toList.map (fun q=>σ q.2)++d.ps.toList.map (fun q=>σ (lk q.2.1))
def FD.runs (d:FD) (E:Env) (ins outs:List AV):Prop :=
 oJ E d.m (fun e σ=>match e with | .exit _=>False | _=>d.vJ σ outs) (d.start ins)
def qm (us:List (Nat × (Nat × Nat))) (q:Nat × Nat):Option Nat:=(us.find? (fun u=>u.1 == q.1&&u.2.2 == q.2)).map (·.2.1)
def yW {X:Type}:List (Option X)→Option (List X)
 | []=>some []
 | none :: _=>none
 | some x :: r=>(yW r).map (x :: ·)
def RV.key (G:GL) (s:Nat):RV→Option Nat
 | .t j=>match G.get j with
  | .fV k s'=>if s=s' then some k else none
  | _=>none
 | .c _ m n agg=>if n=1∧agg=false then (match G.get m with | .cl us=>qm us (0,s) | _=>none) else none
def rG (G:GL) (q:Option (Nat × Nat)) (ts:List (Nat × Nat)):Option (List Nat) :=
 match q with
 | none=>if ts.isEmpty then some [] else none
 | some (_,m)=>match G.get m with
  | .cl us=>yW (ts.map (qm us))
  | _=>none
def FD.Ky (d:FD) (G:GL):Option (List Nat):=yW (d.own.map fun q=>(d.res[q.1]?).bind (RV.key G q.2))
def j8 (G:GL) (ks:List Nat) (ts:List (Nat × Nat)):Bool:=kE (fun k q=>G.get (lk k) == .live q.2) ks ts
def RV.Mk (G:GL):RV→Bool
 | .t _=>true
 | .c a m _ _=>G.get a == .ptr m 0&&(G.get m).gq
def FD.rt (d : FD) (G : GL) : Bool :=
  d.res.all (RV.Mk G) && (match d.ref with | some (_, m) => (G.get m).gq | none => true) &&
  (match d.new with
   | some (j, m) => (G.get m).gq && (match d.res[j]? with | some (.t t) => G.get t == .ptr m 0 | _ => false)
   | none => true) &&
  (match rG G d.ref (jr d.fy), d.Ky G, rG G d.new d.fx with
   | some r, some o, some n => decide (r ++ o ++ n).Nodup && j8 G r (jr d.fy) && j8 G o d.own && j8 G n d.fx
   | _, _, _ => false) &&
  (match d.ps with | some (_, k, s) => (match G.get (lk k) with | .pv s' => s == s' | .nO _ s' => s == s' | _ => false) | none => true)
def lA (P:Program) (nt:Nat):ResultVar→RV→Bool
 | .tmp t,.t t'=>t == t'&&decide (t<nt)
 | .cell a ty,.c a' _ n agg=>a == a'&&decide (a<nt)&&jZ P ty n agg
 | _,_=>false
def FD.mh (d:FD):List Nat:=d.fy.map fun t=>lk t.2.1
def FD.G0 (d:FD):GL :=
 match d.ref with
 | none=>match d.ps with
  | none=>[]
  | some (i,k,s)=>GL.cY [] [i,lk k] [.fV k s,.pv s]
 | some (i,m)=>GL.cY [] (i :: m :: d.mh) (.ptr m 0 :: .cl d.fy :: d.fy.map fun t => .live t.2.2)
def FD.nv (d:FD) (nt:Nat):Bool :=
 decide (d.np≤nt∧nt≤1000000∧(d.fy.map (·.2.1)).Nodup∧(d.ref=none→d.fy=[])∧(d.new=none→d.fx=[])∧(d.ref=none∨d.new=none)) &&
 (match d.ref with | none=>true | some (i,m)=>decide (i<d.np∧nt≤m∧m=999999)) &&
 (match d.ps with | none=>true | some (i,k,_)=>decide (i<d.np∧d.ref=none∧d.new=none∧d.own=[]∧k=999999))
def iN (P : Program) (sg : Nat → dw) (fn : Func) (d : FD) : Bool :=
  d.nv fn.ntmps && kE (lA P fn.ntmps) fn.results.toList d.res &&
  (match fn.body with
   | some c => (match dp P sg fn.ntmps d.rt c d.m d.G0 with
     | some (n, ex) => ex.isEmpty && n.all d.rt
     | none => false)
   | none => false)
section
variable {X:Type}
theorem mB {σ:Nat→X}:∀{ks:List Nat} {xs:List X} {p k:Nat} {x:X},ks.Nodup→ks[p]?=some k→xs[p]?=some x→Eng.cY σ ks xs k=x
 | j :: ks,y :: xs,0,k,x,_,h1,h2=>by
  simp only [List.getElem?_cons_zero,ax] at h1 h2
  subst h1;subst h2
  simp [Eng.cY,dP]
 | j :: ks,y :: xs,p+1,k,x,hn,h1,h2=>by
  simp only [List.getElem?_cons_succ] at h1 h2
  rw [List.nodup_cons] at hn
  have:k≠j:=fun e=>hn.1 (e ▸ bf h1)
  simp only [Eng.cY,dP,this,if_false]
  exact mB hn.2 h1 h2
 | [],_,_,_,_,_,h1,_=>by simp at h1
 | _ :: _,[],_,_,_,_,_,h2=>by simp at h2
theorem vQ {σ:Nat→X} {key:Nat}:∀{ks:List Nat} {xs:List X},Eng.cY σ ks xs key=σ key∨∃(p:Nat) (x:X),ks[p]?=some key∧xs[p]?=some x∧Eng.cY σ ks xs key=x
 | j :: ks,y :: xs=>by
  by_cases e:key=j
  ·right
   exact ⟨0,y,by simp [e],rfl,by simp [Eng.cY,dP,e]⟩
  ·simp only [Eng.cY,dP,e,if_false]
   rcases vQ (σ:=σ) (key:=key) (ks:=ks) (xs:=xs) with h | ⟨p,x,h1,h2,h3⟩
   ·exact .inl h
   ·exact .inr ⟨p+1,x,by simpa using h1,by simpa using h2,h3⟩
 | [],_ => .inl rfl
 | _ :: _,[] => .inl rfl
end
theorem nP {ins:List AV} {n t:Nat} (h:ins.length=n):head (List.range n) ins t=ins.getD t .dead:=by
 unfold head
 by_cases ht:t<n
 ·have h1:(List.range n)[t]?=some t:=by simp [ht]
  have hl:t<ins.length:=by omega
  have h2:ins[t]?=some ins[t]:=aD hl
  rw [mB List.nodup_range h1 h2]
  simp [List.getD,h2]
 ·rw [jk (by simpa using ht)]
  have:ins[t]?=none:=List.getElem?_eq_none (by omega)
  simp [List.getD,this]
section
variable {P:Program} {E:Env} {w:World} {R:Reach} {ins:List AV} {xs:List Value}
theorem sd {nt t:Nat} (ht:t<nt):((⟨xs⟩:Array Value)++Array.replicate (nt - xs.length) undef).getD t undef=xs.getD t undef:=by
 simp only [Array.getD_eq_getD_getElem?,aH]
 by_cases h:t<xs.length
 ·rw [Array.getElem?_append_left (by simpa using h)]
  simp
 ·rw [Array.getElem?_append_right (by simpa using h)]
  rw [List.getElem?_eq_none (by omega)]
  simp only [Array.getElem?_replicate]
  split <;> rfl
theorem uI (h:gT R w ins xs) (t:Nat):Rep R w (ins.getD t .dead) (xs.getD t undef):=by
 by_cases ht:t<ins.length
 ·obtain ⟨y,h1,h2⟩:=h.get t _ (aD ht)
  simp only [List.getD,aD ht,h1,Option.getD_some]
  exact h2
 ·simp only [List.getD,List.getElem?_eq_none (Nat.le_of_not_lt ht),Option.getD_none]
  exact .dead _
def sO (d:FD) (xs:List Value):Option Nat :=
 match d.sg.ref with
 | none=>none
 | some i=>match xs[i]? with
  | some (.pointer (some ⟨b,0,none⟩))=>some b
  | _=>none
theorem DG {d:FD} {nt:Nat} (lO:d.ps=none) (hb:d.nv nt=true) (hlen:ins.length=d.np) (hR:∀b o,R b o→b<w.heap.size) (yq:∀n,Rep R w (E.gl n) (.pointer (some ⟨n,0,none⟩))) (ha:jN d.sg R w ins xs) :
  ∃D,dZ ⟨P,E,nt,w,R,oQ d.sg w xs,sO d xs,none⟩ D (d.start ins) d.G0.get { tmps:=(⟨xs⟩:Array Value)++Array.replicate (nt - xs.length) undef,defers:=[] } w:=by
 simp only [FD.nv,af,az] at hb
 obtain ⟨⟨⟨b1,b2,b3,b4,b5,b6⟩,b7⟩,_⟩:=hb
 have zA:∀(hx:xs.length=d.np),((⟨xs⟩:Array Value)++Array.replicate (nt - xs.length) undef).size=nt:=by
  intro hx
  simp
  omega
 cases jj:d.ref with
 | none =>
  have hg:d.sg.ref=none:=by simp [FD.sg,jj]
  simp only [jN,hg] at ha
  have hx:xs.length=d.np:=by rw [←ha.length,hlen]
  have hG:d.G0=[]:=by simp [FD.G0,jj,lO]
  have vL:d.start ins=head (List.range d.np) ins:=by simp [FD.start,jj,lO]
  rw [hG,vL]
  refine ⟨⟨R,fun _=>0,fun _=>undef⟩,{ size:=zA hx,defers:=rfl,km:=b2,kk:=?_,mg:=?_,slot:=?_,mem:=?_,fV:=?_,ps:=fun _ _ h=>(by cases h),sep:=?_,own:=?_,inv:=?_,ext:=Ext.refl _ _ _,nF:=hR,gl:=yq,fix:=?_ }⟩
  ·intro m h;cases h
  ·intro m h;cases h
  ·intro t ht
   refine .inr ⟨?_,fun _=>trivial⟩
   rw [nP hlen]
   dsimp only
   rw [sd ht]
   exact uI ha t
  ·intro m ts h;cases h
  ·intro m ts h;cases h
  ·intro k k' g h;cases h
  ·intro k g h;cases h
  ·intro k;trivial
  ·exact ⟨fun b hb=>by simp [sO,hg] at hb,fun v hv=>by cases hv⟩
 | some im =>
  obtain ⟨i,m⟩:=im
  simp only [jj,az] at b7
  obtain ⟨c1,c2,rfl⟩:=b7
  generalize To:(999999:Nat)=m at jj c2 ⊢
  have c3:m<1000000:=by omega
  have hg:d.sg.ref=some i:=by simp [FD.sg,jj]
  simp only [jN,hg] at ha
  obtain ⟨b,cs,x,tv,a1,a2,a3,a4,a5,a6,a7⟩:=ha
  have hx:xs.length=d.np:=by rw [←a4.length,List.length_set,hlen]
  have Ge:d.sg.fy.length=d.fy.length:=by simp [FD.sg,jr]
  have lQ:d.mh.Nodup:=by
   have:d.mh=(d.fy.map (·.2.1)).map lk:=by simp [FD.mh]
   rw [this]
   exact List.Pairwise.map _ (fun a b h e=>h (j7 e)) b3
  have hG:d.G0.get=Eng.cY (fun _=>Gh.no) (i :: m :: d.mh) (.ptr m 0 :: .cl d.fy :: d.fy.map fun t => .live t.2.2):=by
   simp only [FD.G0,jj,GL.qg]
   rfl
  have AI:∀k,k<1000000→k ∉ d.mh:=by
   intro k hk hm
   simp only [FD.mh,aW] at hm
   obtain ⟨t,_,rfl⟩:=hm
   have:=iu t.2.1
   omega
  have hnd:(i :: m :: d.mh).Nodup:=by
   rw [List.nodup_cons,List.nodup_cons]
   refine ⟨?_,AI m c3,lQ⟩
   rw [bq]
   rintro (e | e)
   ·omega
   ·exact AI i (by omega) e
  have gi:d.G0.get i = .ptr m 0:=by rw [hG];exact mB hnd (p:=0) rfl rfl
  have gm:d.G0.get m = .cl d.fy:=by rw [hG];exact mB hnd (p:=1) rfl rfl
  have gt:∀(p:Nat) (t:Nat × (Nat × Nat)),d.fy[p]?=some t→d.G0.get (lk t.2.1) = .live t.2.2:=by
   intro p t hp
   rw [hG]
   exact mB hnd (p:=p+2) (by simp [FD.mh,hp]) (by simp [hp])
  have xc:∀key,d.G0.get key = .no∨(key=i∧d.G0.get key = .ptr m 0)∨(key=m∧d.G0.get key = .cl d.fy)∨∃(p:Nat) (t:Nat × (Nat × Nat)),d.fy[p]?=some t∧key=lk t.2.1∧d.G0.get key = .live t.2.2:=by
   intro key
   have h0:=vQ (σ:=fun _=>Gh.no) (key:=key) (ks:=i :: m :: d.mh) (xs := .ptr m 0 :: .cl d.fy :: d.fy.map fun t => .live t.2.2)
   rw [←hG] at h0
   rcases h0 with h | ⟨p,g,h1,h2,h3⟩
   ·exact .inl h
   ·right
    match p,h1,h2 with
    | 0,h1,h2=>simp at h1 h2;subst h1;subst h2;exact .inl ⟨rfl,h3⟩
    | 1,h1,h2=>simp at h1 h2;subst h1;subst h2;exact .inr (.inl ⟨rfl,h3⟩)
    | p+2,h1,h2 =>
     simp only [List.getElem?_cons_succ,FD.mh,aP,bg] at h1 h2
     obtain ⟨t,ht,h1⟩:=h1
     obtain ⟨t',vl,h2⟩:=h2
     rw [ht] at vl;cases vl
     exact .inr (.inr ⟨p,t,ht,h1.symm,h2 ▸ h3⟩)
  have qb:∀(p:Nat) (t:Nat × (Nat × Nat)) (v:Value),d.fy[p]?=some t→tv[p]?=some v→Eng.cY (fun _=>undef) d.mh tv (lk t.2.1)=v:=by
   intro p t v hp hv
   exact mB lQ (p:=p) (by simp [FD.mh,hp]) hv
  have Jn:∀(p:Nat) (t:Nat × (Nat × Nat)),d.fy[p]?=some t→∃v,tv[p]?=some v∧Eng.cY (fun _=>undef) d.mh tv (lk t.2.1)=v∧cs[t.1]?=some v∧gD R w v t.2.2:=by
   intro p t hp
   have gS:=(aE.1 hp).1
   have hv:tv[p]?=some tv[p]:=aD (by omega)
   have hs:d.sg.fy[p]?=some (t.1,t.2.2):=by simp [FD.sg,jr,hp]
   obtain ⟨q1,q2⟩:=a6 p _ _ hs hv
   exact ⟨_,hv,qb p t _ hp hv,q1,q2⟩
  have vL:d.start ins=head (m :: List.range d.np) (ins.getD i .dead :: ins.set i .pt):=by simp [FD.start,jj]
  have sm:d.start ins m=x:=by
   rw [vL]
   simp [head,Eng.cY,dP,List.getD,a2]
  have ss:∀t,t≠m→d.start ins t=(ins.set i .pt).getD t .dead:=by
   intro t ht
   rw [vL]
   simp only [head,Eng.cY,dP,ht,if_false]
   exact nP (by simpa using hlen)
  have sM:∀key g,gw ⟨R,fun _=>b,Eng.cY (fun _=>undef) d.mh tv⟩ d.G0.get key=some g →
    ∃p,(some b :: tv.map Value.ownBlock)[p]?=some (some g)∧(p=0→key=m)∧(∀q,p=q+1→∃t,d.fy[q]?=some t∧key=lk t.2.1):=by
   intro key g hk
   rcases xc key with e | ⟨_,e⟩ | ⟨k1,e⟩ | ⟨p,t,hp,k1,e⟩
   ·simp [gw,e] at hk
   ·simp [gw,e] at hk
   ·rw [iS e] at hk
    exact ⟨0,by simpa using hk,fun _=>k1,fun q hq=>by omega⟩
   ·rw [iR e] at hk
    obtain ⟨v,hv,h1,_,_⟩:=Jn p t hp
    rw [k1] at hk
    dsimp only at hk
    rw [h1] at hk
    refine ⟨p+1,by simp [hv,hk],fun h=>by omega,fun q hq=>⟨t,?_,k1⟩⟩
    have:q=p:=by omega
    subst this
    exact hp
  refine ⟨⟨R,fun _=>b,Eng.cY (fun _=>undef) d.mh tv⟩,{ size:=zA hx,defers:=rfl,km:=b2,kk:=?_,mg:=?_,slot:=?_,mem:=?_,fV:=?_,ps:=fun k s hk=>(by
   rcases xc k with e | ⟨_,e⟩ | ⟨_,e⟩ | ⟨_,_,_,_,e⟩ <;> rw [e] at hk <;> cases hk),sep:=?_,own:=?_,inv:=?_,ext:=Ext.refl _ _ _,nF:=hR,gl:=yq,fix:=?_ }⟩
  ·intro k hk
   rcases xc k with e | ⟨_,e⟩ | ⟨k1,e⟩ | ⟨p,t,hp,k1,e⟩
   ·rw [e] at hk;cases hk
   ·rw [e] at hk;cases hk
   ·subst k1;exact ⟨c2,c3⟩
   ·rw [e] at hk;cases hk
  ·intro k hk
   rcases xc k with e | ⟨_,e⟩ | ⟨k1,e⟩ | ⟨p,t,hp,k1,e⟩
   ·rw [e] at hk;cases hk
   ·rw [e] at hk;cases hk
   ·rw [e] at hk;cases hk
   ·subst k1;exact iu _
  ·intro t ht
   dsimp only at ht ⊢
   rw [ss t (by omega),sd ht]
   refine .inr ⟨uI a4 t,fun _=>?_⟩
   rcases xc t with e | ⟨k1,e⟩ | ⟨k1,e⟩ | ⟨p,t',hp,k1,e⟩
   ·rw [e];trivial
   ·rw [e]
    simp only [jU]
    subst k1
    simp [List.getD,a1]
   ·omega
   ·have:=iu t'.2.1
    omega
  ·intro k ts hk
   rcases xc k with e | ⟨k1,e⟩ | ⟨k1,e⟩ | ⟨p,t',hp,k1,e⟩
   ·rw [e] at hk;cases hk
   ·rw [e] at hk;cases hk
   ·rw [e] at hk
    cases hk
    subst k1
    rw [sm]
    refine ⟨cs,a3,fun t ht=>?_⟩
    obtain ⟨p,hp⟩:=bC ht
    obtain ⟨v,_,h1,h2,_⟩:=Jn p t hp
    dsimp only
    rw [h1]
    exact h2
   ·rw [e] at hk;cases hk
  ·intro k s hk
   rcases xc k with e | ⟨k1,e⟩ | ⟨k1,e⟩ | ⟨p,t',hp,k1,e⟩
   ·rw [e] at hk;cases hk
   ·rw [e] at hk;cases hk
   ·rw [e] at hk;cases hk
   ·rw [e] at hk
    cases hk
    obtain ⟨v,_,h1,_,h3⟩:=Jn p t' hp
    subst k1
    dsimp only
    rw [h1]
    exact h3
  ·intro k k' g h1 h2
   obtain ⟨p,q1,q2,q3⟩:=sM k g h1
   obtain ⟨p',r1,r2,r3⟩:=sM k' g h2
   have:=a7 p p' g q1 r1
   subst this
   left
   cases p with
   | zero=>rw [q2 rfl,r2 rfl]
   | succ p =>
    obtain ⟨t,ht,e1⟩:=q3 p rfl
    obtain ⟨t',vl,e2⟩:=r3 p rfl
    rw [ht] at vl
    cases vl
    rw [e1,e2]
  ·intro k g h1
   left
   simp only [oQ,hg]
   obtain ⟨elem,hh,_,_⟩:=a3
   refine ⟨b,cs,elem,a1,hh,?_⟩
   obtain ⟨p,q1,q2,q3⟩:=sM k g h1
   cases p with
   | zero =>
    left
    simpa using q1.symm
   | succ p =>
    right
    obtain ⟨t,ht,e1⟩:=q3 p rfl
    obtain ⟨v,hv,_,h2,_⟩:=Jn p t ht
    refine ⟨(t.1,t.2.2),?_,v,h2,?_⟩
    ·simp only [FD.sg,jr,aW]
     exact ⟨t,bf ht,rfl⟩
    ·simpa [hv] using q1
  ·intro k
   rcases xc k with e | ⟨k1,e⟩ | ⟨k1,e⟩ | ⟨p,t',hp,k1,e⟩
   ·rw [e];trivial
   ·rw [e]
    simp only [fZ,gm,Gh.gq]
   ·rw [e]
    intro t ht
    obtain ⟨p,hp⟩:=bC ht
    rw [gt p t hp]
    rfl
   ·rw [e];trivial
  ·refine ⟨fun b' xa=>?_,fun v hv=>by cases hv⟩
   simp only [sO,hg,a1,ax] at xa
   exact xa
theorem A2 {d:FD} {nt i k s:Nat} (lO:d.ps=some (i,k,s)) (hb:d.nv nt=true) (hlen:ins.length=d.np) (hR:∀b o,R b o→b<w.heap.size) (yq:∀n,Rep R w (E.gl n) (.pointer (some ⟨n,0,none⟩)))
  {v:Value} {es:List AV} (a1:xs[i]?=some v) (a2:ins[i]?=some (.sl s es)) (a3:gD R w v s) (a4:iy R w v s (.sl s es)) (a5:gT R w (ins.set i .pt) xs) :
  ∃D,dZ ⟨P,E,nt,w,R,fun c=>v.ownBlock=some c,none,some v⟩ D (d.start ins) d.G0.get { tmps:=(⟨xs⟩:Array Value)++Array.replicate (nt - xs.length) undef,defers:=[] } w:=by
 simp only [FD.nv,af,az,lO] at hb
 obtain ⟨⟨⟨b1,b2,b3,b4,b5,b6⟩,b7⟩,b8,b9,P0,Sk,Pe⟩:=hb
 have hx:xs.length=d.np:=by rw [←a5.length,List.length_set,hlen]
 have zA:((⟨xs⟩:Array Value)++Array.replicate (nt - xs.length) undef).size=nt:=by simp;omega
 have AI:∀t,t<1000000→t≠lk k:=fun t ht e=>by have:=iu k;omega
 have hG:d.G0.get=Eng.cY (fun _=>Gh.no) [i,lk k] [.fV k s,.pv s]:=by
  simp only [FD.G0,b9,lO,GL.qg]
  rfl
 have vL:d.start ins=head (lk k :: List.range d.np) (ins.getD i .dead :: ins.set i .pt):=by simp [FD.start,b9,lO]
 have OH:ins.getD i .dead = .sl s es:=by simp [List.getD,a2]
 rw [OH] at vL
 rw [hG,vL]
 have sk:head (lk k :: List.range d.np) (.sl s es :: ins.set i .pt) (lk k) = .sl s es:=by simp [head,Eng.cY,dP]
 have ss:∀t,t≠lk k→head (lk k :: List.range d.np) (.sl s es :: ins.set i .pt) t=(ins.set i .pt).getD t .dead:=fun t ht=>by
  have:head (lk k :: List.range d.np) (.sl s es :: ins.set i .pt) t=head (List.range d.np) (ins.set i .pt) t:=by simp [head,Eng.cY,dP,ht]
  rw [this,nP (by rw [List.length_set,hlen])]
 have gi:Eng.cY (fun _=>Gh.no) [i,lk k] [.fV k s,.pv s] i = .fV k s:=by simp [Eng.cY,dP]
 have gk:Eng.cY (fun _=>Gh.no) [i,lk k] [.fV k s,.pv s] (lk k) = .pv s:=by
  simp only [Eng.cY]
  rw [bO _ _ (AI i (by omega)).symm,bK]
 have go:∀x,x≠i→x≠lk k→Eng.cY (fun _=>Gh.no) [i,lk k] [.fV k s,.pv s] x = .no:=fun x h1 h2=>by
  simp only [Eng.cY]
  rw [bO _ _ h1,bO _ _ h2]
 generalize Eng.cY (fun _=>Gh.no) [i,lk k] [.fV k s,.pv s]=γ at gi gk go
 generalize head (lk k :: List.range d.np) (.sl s es :: ins.set i .pt)=σ at sk ss
 have inv:∀x,γ x = .no∨(x=i∧γ x = .fV k s)∨(x=lk k∧γ x = .pv s):=fun x=>by
  by_cases h1:x=i
  ·subst h1;exact .inr (.inl ⟨rfl,gi⟩)
  ·by_cases h2:x=lk k
   ·subst h2;exact .inr (.inr ⟨rfl,gk⟩)
   ·exact .inl (go x h1 h2)
 have sM:∀(D:kZ) key g,gw D γ key=some g→key=lk k∧(D.τ (lk k)).ownBlock=some g:=fun D key g hb=>by
  unfold gw at hb
  rcases inv key with e | ⟨_,e⟩ | ⟨e1,e⟩ <;> rw [e] at hb
  ·cases hb
  ·cases hb
  ·subst e1;exact ⟨rfl,hb⟩
 refine ⟨⟨R,fun _=>0,dP (fun _=>undef) (lk k) v⟩,{ size:=zA,defers:=rfl,km:=b2,kk:=?_,mg:=?_,slot:=?_,mem:=?_,fV:=?_,ps:=?_,sep:=?_,own:=?_,inv:=?_,ext:=Ext.refl _ _ _,nF:=hR,gl:=yq,fix:=?_ }⟩
 ·intro m hm
  rcases inv m with e | ⟨_,e⟩ | ⟨_,e⟩ <;> rw [e] at hm <;> cases hm
 ·intro m hm
  rcases inv m with e | ⟨_,e⟩ | ⟨e1,e⟩
  ·rw [e] at hm;cases hm
  ·rw [e] at hm;cases hm
  ·subst e1;exact iu _
 ·intro t ht
  dsimp only at ht ⊢
  rw [ss t (AI t (by omega)),sd ht]
  refine .inr ⟨uI a5 t,fun _=>?_⟩
  rcases inv t with e | ⟨e1,e⟩ | ⟨e1,e⟩
  ·rw [e];trivial
  ·rw [e]
   subst e1
   have hv:xs.getD t undef=v:=by simp [List.getD,a1]
   rw [hv]
   refine ⟨by simp only [bK],by rcases a3 with rfl | ⟨_,_,_,_,_,_,rfl,_⟩ <;> rfl⟩
  ·exact (AI t (by omega) e1).elim
 ·intro m ts hm
  rcases inv m with e | ⟨_,e⟩ | ⟨_,e⟩ <;> rw [e] at hm <;> cases hm
 ·intro m ts hm
  rcases inv m with e | ⟨_,e⟩ | ⟨_,e⟩ <;> rw [e] at hm <;> cases hm
 ·intro key s' hs
  rcases inv key with e | ⟨_,e⟩ | ⟨e1,e⟩
  ·rw [e] at hs;cases hs
  ·rw [e] at hs;cases hs
  ·rw [e] at hs
   cases hs
   subst e1
   rw [sk]
   simp only [bK]
   exact ⟨a3,a4,fun d s1 s2 f1 _=>by rw [gk] at f1;cases f1⟩
 ·intro p q g hp hq
  exact .inl ((sM _ p g hp).1.trans (sM _ q g hq).1.symm)
 ·intro p g hp
  have:=(sM _ p g hp).2
  simp only [bK] at this
  exact .inl this
 ·intro key
  rcases inv key with e | ⟨_,e⟩ | ⟨_,e⟩
  ·rw [e];trivial
  ·rw [e]
   show (γ (lk k)).fL=true
   rw [gk];rfl
  ·rw [e];trivial
 ·refine ⟨fun b hb=>(by cases hb),fun v' A8=>?_⟩
  cases A8
  subst Pe
  refine ⟨by rw [gk];rfl,?_⟩
  simp only [bK]
end
end Go.Eng
namespace Go.Eng
open Go.RowKit
theorem qU {X:Type}:∀{l:List (Option X)} {r:List X},yW l=some r→l=r.map some
 | [],_,h=>by simp only [yW,ax] at h;subst h;rfl
 | none :: _,_,h=>by simp [yW] at h
 | some x :: l,r,h=>by
  simp only [yW,bg] at h
  obtain ⟨r',h1,rfl⟩:=h
  rw [qU h1];rfl
theorem ql {us:List (Nat × (Nat × Nat))} {q:Nat × Nat} {k:Nat} (h:qm us q=some k):∃u∈us,u.1=q.1∧u.2.1=k:=by
 simp only [qm,bg] at h
 obtain ⟨u,h1,h2⟩:=h
 have:=List.find?_some h1
 simp only [af,beq_iff_eq] at this
 exact ⟨u,List.mem_of_find?_eq_some h1,this.1,h2⟩
def BH (tmps:Array Value):ResultVar→Sem Value
 | .tmp t=>pure (tmps.getD t undef)
 | .cell a t=>do loadVar t (←asAddr (tmps.getD a undef))
theorem qZ {P:Program} {w:World} {fn:Func} {tmps:Array Value} {vs:List Value} (h:(fn.results.toList.mapM (BH tmps)).run P w = .ok vs w) :
  (results fn tmps).run P w = .ok (if vs.length=1 then vs.headD undef else .tuple ⟨vs⟩) w:=by
 have e:results fn tmps=(do
   let vs ←fn.results.mapM (BH tmps)
   pure (if h:vs.size=1 then vs[0] else .tuple vs)):=by
  unfold results
  congr 2
 rw [e,Array.mapM_eq_mapM_toList]
 simp only [Sem.run_bind,Sem.run_map,h,Result.andThen_ok,Sem.run_pure]
 match vs with
 | []=>simp
 | [x]=>simp
 | _ :: _ :: _=>simp
section
variable {C:Ctx} {D:kZ} {σ:Sg} {a:Act} {w:World} {G:GL}
def yX (D:kZ) (G:GL) (σ:Sg) (a:Act) (r:RV) (x:AV) (v:Value):Prop :=
 match r with
 | .t j=>x=σ j∧v=a.tmps.getD j undef
 | .c _ m n agg=>n=1→agg=false→∀us,G.get m = .cl us→∀u∈us,u.1=0→v=D.τ (lk u.2.1)
theorem Ef (h:dZ C D σ G.get a w) {rv:ResultVar} {r:RV} {x:AV} (hr:lA C.P C.nt rv r=true) (hg:r.Mk G=true) (hx:r.get σ=some x) :
  ∃v,(BH a.tmps rv).run C.P w = .ok v w∧Rep D.R w x v∧yX D G σ a r x v:=by
 cases rv with
 | tmp t =>
  cases r with
  | c=>simp [lA] at hr
  | t j =>
   simp only [lA,af,beq_iff_eq,az] at hr
   obtain ⟨rfl,ht⟩:=hr
   simp only [RV.get,ax] at hx
   subst hx
   refine ⟨_,rfl,?_,rfl,rfl⟩
   rcases h.slot t ht with e | ⟨e,_⟩
   ·rw [e];exact .dead _
   ·exact e
 | cell ad ty =>
  cases r with
  | t j=>simp [lA] at hr
  | c TO m n agg =>
   simp only [lA,af,beq_iff_eq,az] at hr
   obtain ⟨⟨rfl,ht⟩,hs⟩:=hr
   simp only [RV.Mk,af,beq_iff_eq] at hg
   obtain ⟨g1,g2⟩:=hg
   simp only [RV.get] at hx
   split at hx
   ·rename_i cs e1 e2
    have hv:=h.slot ad ht
    rw [e1,g1] at hv
    have hv:a.tmps.getD ad undef = .pointer (some ⟨D.β m,0,none⟩):=by
     rcases hv with e | ⟨_,e⟩
     ·cases e
     ·exact e (by simp)
    cases hm:G.get m with
    | cl us =>
     obtain ⟨ws,tp,Ih⟩:=h.mem m us hm
     rw [e2] at tp
     obtain ⟨elem,hh,hL⟩:=tp.ag
     have K2:∀(j:Nat) (y:Value),(ws.take cs.length)[j]?=some y→ws[j]?=some y:=fun j y hj=>by
      rw [aT] at hj;split at hj
      ·exact hj
      ·cases hj
     have o0:agg=false→∀t∈us,t.1=0→(ws.take cs.length)[t.1]?=some (D.τ (lk t.2.1)):=fun ha t ht he=>by
      have gS:0<cs.length:=by
       subst ha
       simp only [gW,bo,if_false] at hx
       exact (aE.1 hx).1
      rw [aT,aq (by omega)]
      exact Ih t ht
     generalize QV:ws.take cs.length=vs at hL o0 K2
     simp only [jZ,af,beq_iff_eq,Bool.or_eq_true] at hs
     obtain ⟨⟨s1,s2⟩,s3⟩:=hs
     have h1:agg=true∨n=1:=s3
     simp only [jg,bg] at s1
     obtain ⟨inf,hi,hz⟩:=s1
     obtain ⟨hlen,kn⟩:=mJ hL hx h1
     have hc:∀j y,((vs.drop 0).take n)[j]?=some y→w.cell? ⟨D.β m,0+j,none⟩=some y:=by
      intro j y hj
      rw [aT] at hj
      split at hj
      ·rw [List.getElem?_drop] at hj
       have:=K2 _ _ hj
       simp only [World.cell?,hh]
       simpa using this
      ·cases hj
     refine ⟨_,?_,kn,?_⟩
     ·simp only [BH,hv,asAddr,Sem.run_bind,Sem.run_pure,Result.andThen_ok]
      exact kJ hi s2 (hz ▸ h1) (hlen.trans hz.symm) hc
     ·intro n1 a1 us' CC u hu h0
      subst n1;subst a1
      rw [hm] at CC
      cases CC
      have:=o0 rfl u hu h0
      rw [h0] at this
      simp only [bo,if_false,bc]
      cases vs with
      | nil=>simp at this
      | cons y ys=>simpa using this
    | _=>rw [hm] at g2;simp [Gh.gq] at g2
   ·cases hx
theorem uQ (h:dZ C D σ G.get a w):∀{ju:List ResultVar} {res:List RV} {xs:List AV},kE (lA C.P C.nt) ju res=true→res.all (RV.Mk G)=true→yd σ res=some xs →
  ∃vs,(ju.mapM (BH a.tmps)).run C.P w = .ok vs w∧gT D.R w xs vs∧vs.length=res.length∧∀(i:Nat) (r:RV),res[i]?=some r→∃x v,xs[i]?=some x∧vs[i]?=some v∧yX D G σ a r x v
 | [],[],xs,_,_,h3=>by
  simp only [yd,ax] at h3
  subst h3
  exact ⟨[],by simp [List.mapM_nil],.nil,rfl,fun i r e=>by simp at e⟩
 | rv :: ju,r :: res,xs,h1,h2,h3=>by
  simp only [kE,af] at h1
  simp only [List.all_cons,af] at h2
  simp only [yd,bt,bg] at h3
  obtain ⟨x,hx,M3,yk,rfl⟩:=h3
  obtain ⟨v,v1,v2,v3⟩:=Ef h h1.1 h2.1 hx
  obtain ⟨vs,q1,q2,q3,q4⟩:=uQ h h1.2 h2.2 yk
  refine ⟨v :: vs,?_,.cons v2 q2,by simp [q3],?_⟩
  ·simp only [List.mapM_cons,Sem.run_bind,v1,q1,Result.andThen_ok,Sem.run_pure]
  ·intro i r' e
   cases i with
   | zero =>
    simp only [List.getElem?_cons_zero,ax] at e
    subst e
    exact ⟨x,v,rfl,rfl,v3⟩
   | succ i =>
    simp only [List.getElem?_cons_succ] at e ⊢
    exact q4 i r' e
 | [],_ :: _,_,h1,_,_=>by simp [kE] at h1
 | _ :: _,[],_,h1,_,_=>by simp [kE] at h1
theorem Ev (h:dZ C D σ G.get a w) {rv:ResultVar} {r:RV} {s k s':Nat} {es:List AV} {v:Value} (hr:lA C.P C.nt rv r=true) (hk:r.key G s=some k) (hv:yX D G σ a r (.sl s' es) v):v=D.τ (lk k):=by
 cases r with
 | t j =>
  cases rv with
  | cell=>simp [lA] at hr
  | tmp t =>
  simp only [lA,af,beq_iff_eq,az] at hr
  obtain ⟨rfl,ht⟩:=hr
  obtain ⟨e1,e2⟩:=hv
  simp only [RV.key] at hk
  split at hk
  ·rename_i k' pr hg
   split at hk
   ·cases hk
    have:=h.slot t ht
    rw [←e1,hg] at this
    rcases this with e | ⟨_,e⟩
    ·cases e
    ·rw [e2];exact (e (by simp)).1
   ·cases hk
  ·cases hk
 | c ad m n agg =>
  simp only [RV.key] at hk
  split at hk
  ·rename_i hc
   split at hk
   ·rename_i us CC
    obtain ⟨u,hu,u1,u2⟩:=ql hk
    rw [←u2]
    exact hv hc.1 hc.2 us CC u hu u1
   ·cases hk
  ·cases hk
theorem pN (h:dZ C D σ G.get a w) {q:Option (Nat × Nat)} {ts:List (Nat × Nat)} {ks:List Nat} (hk:rG G q ts=some ks) {cs:List Value} {i m:Nat} (hq:q=some (i,m)) (zG:∀us,G.get m = .cl us→∀t∈us,cs[t.1]?=some (D.τ (lk t.2.1))) :
  ∀(p:Nat) (t:Nat × Nat) (v:Value),ts[p]?=some t→(ks.map fun k=>D.τ (lk k))[p]?=some v→cs[t.1]?=some v:=by
 subst hq
 intro p t v hp hv
 simp only [rG] at hk
 split at hk
 ·rename_i us CC
  have e:=qU hk
  rw [aP,bg] at hv
  obtain ⟨k,E0,rfl⟩:=hv
  have e1:(ts.map (qm us))[p]?=(ks.map some)[p]?:=by rw [e]
  rw [aP,aP,hp,E0] at e1
  simp only [Option.map_some,ax] at e1
  obtain ⟨u,hu,u1,u2⟩:=ql e1
  have:=zG us CC u hu
  rw [u1,u2] at this
  exact this
 ·cases hk
theorem mO (h:dZ C D σ G.get a w) {ks:List Nat} {ts:List (Nat × Nat)} (hl:j8 G ks ts=true):ks.length=ts.length∧(∀(p k:Nat),ks[p]?=some k→∃t,ts[p]?=some t∧G.get (lk k) = .live t.2):=by
 refine ⟨oj hl,fun p k hk=>?_⟩
 obtain ⟨t,h1,h2⟩:=om hl hk
 exact ⟨t,h1,by simpa using h2⟩
theorem sD:∀{A B:List Nat} {X Y:List (Nat × Nat)},j8 G A X=true→j8 G B Y=true→j8 G (A++B) (X++Y)=true
 | [],_,[],_,_,h2=>h2
 | [],_,_ :: _,_,h1,_=>by simp [j8,kE] at h1
 | _ :: _,_,[],_,h1,_=>by simp [j8,kE] at h1
 | a :: A,B,x :: X,Y,h1,h2=>by
  simp only [j8,kE,af,List.cons_append] at h1 ⊢
  exact ⟨h1.1,sD h1.2 h2⟩
theorem IT {d:FD} {fn:Func} {outs:List AV} {xs:List Value} (lO:d.ps=none) (h:dZ C D σ G.get a w) (hb:d.nv C.nt=true) (K9:d.rt G=true) (th:kE (lA C.P C.nt) fn.results.toList d.res=true) (ho:d.vJ σ outs)
  (IA:∀i,d.sg.ref=some i→∃b,xs[i]?=some (.pointer (some ⟨b,0,none⟩))∧C.fix=some b) :
  ∃x,(results fn a.tmps).run C.P w = .ok x w∧Ae d.sg D.R w C.mf xs outs x:=by
 obtain ⟨rs,o1,o2,o3,ho⟩:=ho
 rw [lO,Option.toList_none,au,aM] at ho
 subst ho
 simp only [FD.rt,af] at K9
 obtain ⟨⟨⟨⟨r1,r2⟩,r3⟩,r4⟩,_⟩:=K9
 split at r4
 ·rename_i Kr Ko Kn k1 k2 k3
  simp only [af,az] at r4
  obtain ⟨⟨⟨n1,l1⟩,l2⟩,l3⟩:=r4
  obtain ⟨vs,q1,q2,q3,q4⟩:=uQ h th r1 o1
  simp only [FD.nv,af,az] at hb
  obtain ⟨⟨⟨b1,b2,b3,b4,b5,b6⟩,b7⟩,_⟩:=hb
  obtain ⟨QA,Tc⟩:=mO h l1
  obtain ⟨QB,Td⟩:=mO h l2
  obtain ⟨QC,Te⟩:=mO h l3
  have AB:rs.length=d.res.length:=by rw [←q3,q2.length]
  have wL:d.sg.cZ=d.res.length:=rfl
  have jj:d.sg.ref=d.ref.map (·.1):=rfl
  have jT:d.sg.new=d.new.map (·.1):=rfl
  -- the Jk
  have jK:∀m,(G.get m).gq=true→∃us cs,G.get m = .cl us∧jG D.R w (σ m) (D.β m) cs∧∀t∈us,cs[t.1]?=some (D.τ (lk t.2.1)):=by
   intro m hm
   cases hg:G.get m with
   | cl us=>obtain ⟨cs,e1,e2⟩:=h.mem m us hg;exact ⟨us,cs,rfl,e1,e2⟩
   | _=>rw [hg] at hm;cases hm
  have wM:∃cr,∀i m,d.ref=some (i,m)→m=999999∧jG D.R w (σ m) (D.β m) cr∧∀us,G.get m = .cl us→∀t∈us,cr[t.1]?=some (D.τ (lk t.2.1)):=by
   cases hr:d.ref with
   | none=>exact ⟨[],fun i m e=>by cases e⟩
   | some im =>
    obtain ⟨i,m⟩:=im
    simp only [hr] at r2
    obtain ⟨us,cs,e1,e2,e3⟩:=jK m r2
    simp only [hr,az] at b7
    exact ⟨cs,fun i' m' e=>by cases e;exact ⟨b7.2.2,e2,fun us' hu=>by rw [e1] at hu;cases hu;exact e3⟩⟩
  have sK:∃cn,∀j m,d.new=some (j,m)→(G.get m).gq=true∧vs[j]?=some (.pointer (some ⟨D.β m,0,none⟩))∧jG D.R w (σ m) (D.β m) cn∧∀us,G.get m = .cl us→∀t∈us,cn[t.1]?=some (D.τ (lk t.2.1)):=by
   cases hn:d.new with
   | none=>exact ⟨[],fun i m e=>by cases e⟩
   | some jm =>
    obtain ⟨j,m⟩:=jm
    simp only [hn,af] at r3
    obtain ⟨us,cs,e1,e2,e3⟩:=jK m r3.1
    refine ⟨cs,fun j' m' e=>?_⟩
    cases e
    refine ⟨r3.1,?_,e2,fun us' hu=>by rw [e1] at hu;cases hu;exact e3⟩
    have r5:=r3.2
    split at r5
    ·rename_i t ht
     obtain ⟨x,v,p1,p2,p3,p4⟩:=q4 j _ ht
     rw [o3 (j,m) hn] at p1
     cases p1
     obtain ⟨rv,p5,p6⟩:∃rv,fn.results.toList[j]?=some rv∧lA C.P C.nt rv (.t t)=true:=by
      have gS:=(aE.1 ht).1
      have hl:=oj th
      have e0:fn.results.toList[j]?=some fn.results.toList[j]:=aD (by omega)
      obtain ⟨y,y1,y2⟩:=om th e0
      rw [ht] at y1
      cases y1
      exact ⟨_,e0,y2⟩
     have Ge:t<C.nt:=by
      cases rv with
      | cell=>simp [lA] at p6
      | tmp t' =>
       simp only [lA,af,beq_iff_eq,az] at p6
       obtain ⟨rfl,p6⟩:=p6
       exact p6
     have:=h.slot t Ge
     rw [←p3] at this
     have Qv:G.get t = .ptr m 0:=by simpa using r5
     rw [Qv] at this
     rcases this with e | ⟨_,e⟩
     ·cases e
     ·rw [p2,p4];exact congrArg some (e (by simp))
    ·cases r5
  obtain ⟨cr,wM⟩:=wM
  obtain ⟨cn,sK⟩:=sK
  have CT:j8 G (Kr++Ko++Kn) (jr d.fy++d.own++d.fx)=true:=sD (sD l1 l2) l3
  have Lk:∀k∈Kr++Ko++Kn,∃s,G.get (lk k) = .live s:=by
   intro k hk
   obtain ⟨p,hp⟩:=bC hk
   obtain ⟨t,_,h2⟩:=(mO h CT).2 p k hp
   exact ⟨_,h2⟩
  have qM:mc d.sg (D.β ((d.new.map (·.2)).getD 0)) (D.β 999999) (Kr.map (fun k=>D.τ (lk k))++Ko.map (fun k=>D.τ (lk k))++Kn.map (fun k=>D.τ (lk k))) =
    (d.new.toList.map (·.2)++d.ref.toList.map (·.2)++(Kr++Ko++Kn).map lk).map (gw D G.get):=by
   have e1:(if d.sg.new.isSome then [some (D.β ((d.new.map (·.2)).getD 0))] else [])=(d.new.toList.map (·.2)).map (gw D G.get):=by
    rw [jT]
    cases hn:d.new with
    | none=>rfl
    | some jm =>
     obtain ⟨us,cs,e,_⟩:=jK _ (sK jm.1 jm.2 hn).1
     simp [iS e]
   have e2:(if d.sg.ref.isSome then [some (D.β 999999)] else [])=(d.ref.toList.map (·.2)).map (gw D G.get):=by
    rw [jj]
    cases hr:d.ref with
    | none=>rfl
    | some im =>
     obtain ⟨p0,_⟩:=wM im.1 im.2 hr
     simp only [hr] at r2
     obtain ⟨us,cs,e,_⟩:=jK _ r2
     simp only [Option.map_some,Option.isSome_some,if_true,Option.toList_some,ao,au,iS e]
     rw [p0]
   have e3:(Kr.map (fun k=>D.τ (lk k))++Ko.map (fun k=>D.τ (lk k))++Kn.map (fun k=>D.τ (lk k))).map Value.ownBlock=((Kr++Ko++Kn).map lk).map (gw D G.get):=by
    rw [←List.map_append,←List.map_append,bk,bk]
    apply List.map_congr_left
    intro k hk
    obtain ⟨s,hs⟩:=Lk k hk
    exact (iR hs).symm
   unfold mc
   rw [e1,e2,e3,←List.map_append,←List.map_append]
  have ON:∀x∈d.new.toList.map (·.2)++d.ref.toList.map (·.2),(G.get x).gq=true:=by
   intro x hx
   rcases List.mem_append.1 hx with hx | hx
   ·cases hn:d.new with
    | none=>rw [hn] at hx;simp at hx
    | some jm =>
     rw [hn] at hx
     simp only [Option.toList_some,ao,au,List.mem_singleton] at hx
     rw [hx]
     exact (sK jm.1 jm.2 hn).1
   ·cases hr:d.ref with
    | none=>rw [hr] at hx;simp at hx
    | some im =>
     rw [hr] at hx
     simp only [Option.toList_some,ao,au,List.mem_singleton] at hx
     simp only [hr] at r2
     rw [hx]
     exact r2
  have Re:∀x∈d.new.toList.map (·.2)++d.ref.toList.map (·.2)++(Kr++Ko++Kn).map lk,(G.get x).sH=false:=by
   intro x hx
   rcases List.mem_append.1 hx with hx | hx
   ·have:=ON x hx
    cases hg:G.get x <;> rw [hg] at this <;> first | rfl | cases this
   ·obtain ⟨k,hk,rfl⟩:=aW.1 hx
    obtain ⟨p,hp⟩:=bC hk
    obtain ⟨t,_,h2⟩:=(mO h CT).2 p k hp
    rw [h2];rfl
  have Lp:(d.new.toList.map (·.2)++d.ref.toList.map (·.2)++(Kr++Ko++Kn).map lk).Nodup:=by
   rw [List.nodup_append]
   refine ⟨?_,List.Pairwise.map _ (fun a b h e=>h (j7 e)) n1,?_⟩
   ·rcases b6 with e | e
    ·rw [e];cases d.new <;> simp
    ·rw [e];cases d.ref <;> simp
   ·intro x hx y hy e
    obtain ⟨k,_,rfl⟩:=aW.1 hy
    have h1:=iu k
    have N9:(G.get x).gq=true:=by
     rcases List.mem_append.1 hx with hx | hx
     ·cases hn:d.new with
      | none=>rw [hn] at hx;simp at hx
      | some jm =>
       rw [hn] at hx
       simp only [Option.toList_some,ao,au,List.mem_singleton] at hx
       rw [hx]
       exact (sK jm.1 jm.2 hn).1
     ·cases hr:d.ref with
      | none=>rw [hr] at hx;simp at hx
      | some im =>
       rw [hr] at hx
       simp only [Option.toList_some,ao,au,List.mem_singleton] at hx
       simp only [hr] at r2
       rw [hx]
       exact r2
    have:=(h.kk x N9).2
    omega
  refine ⟨_,qZ q1,vs,Kr.map (fun k=>D.τ (lk k)),Ko.map (fun k=>D.τ (lk k)),Kn.map (fun k=>D.τ (lk k)),D.β ((d.new.map (·.2)).getD 0),D.β 999999,cn,cr,?_,?_,?_,?_,?_,?_,?_,?_,?_,?_,?_,?_,?_,?_,?_⟩
  ·rw [q3,wL]
  ·rw [wL,q3]
  ·simp only [aw,aQ,wL,jj,jT,AB]
   cases d.ref <;> cases d.new <;> simp
  ·have e:(((rs++d.new.toList.map (fun q=>σ q.2)++d.ref.toList.map (fun q=>σ q.2)).take d.sg.cZ).mapIdx fun i y=>if d.sg.new=some i then AV.pt else y)=rs:=by
    rw [aZ,List.take_left' (by rw [AB,wL])]
    apply List.ext_getElem?
    intro i
    rw [List.getElem?_mapIdx]
    cases hi:rs[i]? with
    | none=>rfl
    | some y =>
     simp only [Option.map_some,ax]
     split
     ·rename_i e
      rw [jT,bg] at e
      obtain ⟨q,hq,e⟩:=e
      have:=o3 q hq
      rw [e,hi] at this
      cases this;rfl
     ·rfl
   rw [e]
   exact q2
  ·intro j hj
   rw [jT,bg] at hj
   obtain ⟨⟨j',m⟩,hn,e⟩:=hj
   simp only at e
   subst e
   obtain ⟨_,p1,p2,_⟩:=sK _ _ hn
   simp only [hn,Option.map_some,Option.getD_some]
   refine ⟨p1,?_⟩
   have:(rs++(some (j',m)).toList.map (fun q=>σ q.2)++d.ref.toList.map (fun q=>σ q.2)).getD d.sg.cZ .dead=σ m:=by
    rw [aZ,aH,aU (by rw [AB,wL];exact Nat.le_refl _)]
    simp [AB,wL]
   rw [this]
   exact p2
  ·intro i hi
   obtain ⟨b,x1,x2⟩:=IA i hi
   rw [jj,bg] at hi
   obtain ⟨⟨i',m⟩,hr,e⟩:=hi
   simp only at e
   subst e
   obtain ⟨p0,p1,_⟩:=wM _ _ hr
   subst p0
   refine ⟨by rw [x1,h.fix.1 b x2],?_⟩
   have hn:d.new=none:=by
    rcases b6 with e | e
    ·rw [hr] at e;cases e
    ·exact e
   have:(rs++d.new.toList.map (fun q=>σ q.2)++d.ref.toList.map (fun q=>σ q.2)).getD (d.sg.cZ+if d.sg.new.isSome=true then 1 else 0) .dead=σ 999999:=by
    rw [hr,hn,jT,hn]
    simp only [Option.map_none,Option.toList_none,au,aM,Option.toList_some,ao]
    rw [aH,aU (by rw [AB,wL];exact Nat.le_add_right _ _)]
    simp [AB,wL]
   rw [this]
   exact p1
  ·rw [aQ,QA];rfl
  ·rw [aQ,QB];rfl
  ·rw [aQ,QC];rfl
  ·intro p t v hp hv
   cases hr:d.ref with
   | none =>
    have:=b4 hr
    simp [FD.sg,jr,this] at hp
   | some im =>
    exact pN h k1 hr (wM _ _ hr).2.2 p t v hp hv
  ·intro p t v hp hv
   rw [aP,bg] at hv
   obtain ⟨k,E0,rfl⟩:=hv
   have e:=qU k2
   have e1:(d.own.map fun q=>(d.res[q.1]?).bind (RV.key G q.2))[p]?=(Ko.map some)[p]?:=by rw [e]
   have jV:d.own[p]?=some t:=hp
   rw [aP,aP,jV,E0] at e1
   simp only [Option.map_some,ax,bt] at e1
   obtain ⟨r,hr,hk⟩:=e1
   obtain ⟨x,v,p1,p2,p3⟩:=q4 _ _ hr
   obtain ⟨s,es,hs⟩:=o2 t (bf jV)
   rw [hs] at p1
   cases p1
   have gS:=(aE.1 hr).1
   have hl:=oj th
   have e0:fn.results.toList[t.1]?=some fn.results.toList[t.1]:=aD (by omega)
   obtain ⟨y,y1,y2⟩:=om th e0
   rw [hr] at y1
   cases y1
   rw [p2,Ev h y2 hk p3]
  ·intro p t v hp hv
   cases hn:d.new with
   | none =>
    have:=b5 hn
    simp [FD.sg,this] at hp
   | some jm =>
    exact pN h k3 hn (sK _ _ hn).2.2.2 p t v hp hv
  ·intro p t v hp hv
   have A8:((Kr++Ko++Kn).map fun k=>D.τ (lk k))[p]?=some v:=by simpa using hv
   rw [aP,bg] at A8
   obtain ⟨k,E0,rfl⟩:=A8
   obtain ⟨t',h1,h2⟩:=(mO h CT).2 p k E0
   have jV:(jr d.fy++d.own++d.fx)[p]?=some t:=hp
   rw [jV] at h1
   cases h1
   exact h.fV _ _ h2
  ·intro p q g hp hq
   rw [qM,aP,bg] at hp hq
   obtain ⟨x,x1,x2⟩:=hp
   obtain ⟨y,y1,y2⟩:=hq
   have:=h.rz (Re x (bf x1)) x2 y2
   subst this
   obtain ⟨hx,ex⟩:=aE.1 x1
   obtain ⟨hy,ey⟩:=aE.1 y1
   rcases Nat.lt_trichotomy p q with gS | he | gS
   ·exact absurd (ex.trans ey.symm) (List.pairwise_iff_getElem.1 Lp p q hx hy gS)
   ·exact he
   ·exact absurd (ey.trans ex.symm) (List.pairwise_iff_getElem.1 Lp q p hy hx gS)
  ·intro g hg
   rw [qM,aW] at hg
   obtain ⟨x,_,x2⟩:=hg
   exact h.own x g x2
 ·cases r4
theorem E7 {d:FD} {fn:Func} {outs:List AV} {i k s:Nat} {es:List AV} (lO:d.ps=some (i,k,s)) (h:dZ C D σ G.get a w) (hb:d.nv C.nt=true) (K9:d.rt G=true) (th:kE (lA C.P C.nt) fn.results.toList d.res=true) (ho:d.vJ σ (outs++[.sl s es])) :
  ∃ju,(results fn a.tmps).run C.P w = .ok (if d.sg.cZ=1 then ju.headD undef else .tuple ⟨ju⟩) w∧ju.length=d.sg.cZ∧gT D.R w outs ju∧gD D.R w (D.τ (lk k)) s∧iy D.R w (D.τ (lk k)) s (.sl s es)∧k=999999:=by
 simp only [FD.nv,af,az,lO] at hb
 obtain ⟨_,b8,b9,P0,Sk,Pe⟩:=hb
 obtain ⟨rs,o1,o2,o3,ho⟩:=ho
 rw [lO,b9,P0] at ho
 simp only [Option.toList_none,au,aM,Option.toList_some,ao] at ho
 obtain ⟨rfl,hk⟩:=List.append_inj' ho rfl
 simp only [ar,and_true] at hk
 simp only [FD.rt,af,lO] at K9
 obtain ⟨⟨⟨⟨r1,r2⟩,r3⟩,r4⟩,r5⟩:=K9
 obtain ⟨vs,q1,q2,q3,q4⟩:=uQ h th r1 o1
 have hz:(G.get (lk k)).BN=some s:=by
  split at r5
  ·rename_i e;rw [e];simp at r5;rw [r5];rfl
  ·rename_i e;rw [e];simp at r5;rw [r5];rfl
  ·cases r5
 obtain ⟨t1,t2,_⟩:=h.ps _ _ hz
 rw [←hk] at t2
 refine ⟨vs,?_,q3,q2,t1,t2,Pe⟩
 have:=qZ q1
 rw [show d.sg.cZ=vs.length from q3.symm]
 exact this
end
theorem uH {P:Program} {E:Env} {sg:Nat→dw} (hE:∀f,fF P E.gl f (E.fs f)∧(E.fs f).sg=sg f) {f:Nat} {fn:Func} {d:FD} (hf:P.funcs[f]?=some fn) (hc:iN P sg fn d=true)
  {S:FS} (hS:S.sg=d.sg) (hG:∀ins outs,S.G ins outs→ins.length=d.np∧d.runs E ins (outs++d.ps.toList.map fun q=>ins.getD q.1 .dead)):fF P E.gl f S:=by
 simp only [iN,af] at hc
 obtain ⟨⟨hb,th⟩,CZ⟩:=hc
 cases uc:fn.body with
 | none=>simp [uc] at CZ
 | some c =>
  simp only [uc] at CZ
  cases hk:dp P sg fn.ntmps d.rt c d.m d.G0 with
  | none=>simp [hk] at CZ
  | some r =>
   obtain ⟨n,ex⟩:=r
   simp only [hk,af,List.isEmpty_iff] at CZ
   obtain ⟨rfl,hn⟩:=CZ
   refine ⟨fun lO=>?_,fun i s lO=>?_⟩
   ·have ym:d.ps=none:=by
     rw [hS] at lO
     cases h:d.ps with
     | none=>rfl
     | some q=>simp [FD.sg,h] at lO
    intro w R ins outs xs hg hR yq ha
    obtain ⟨hlen,eh⟩:=hG ins outs hg
    rw [ym,Option.toList_none,au,aM] at eh
    rw [hS] at ha ⊢
    obtain ⟨D,Ii⟩:=DG (P:=P) (E:=E) ym hb hlen hR yq ha
    have yk:(⟨xs⟩:Array Value).size=xs.length:=rfl
    refine calls_of_wp hf uc ?_
    rw [yk]
    have IA:∀i,d.sg.ref=some i→∃b,xs[i]?=some (.pointer (some ⟨b,0,none⟩))∧sO d xs=some b:=by
     intro i hi
     simp only [jN,hi] at ha
     obtain ⟨b,cs,x,tv,a1,_⟩:=ha
     exact ⟨b,a1,by simp [sO,hi,a1]⟩
    have wW:∀(G':GL) D' eX a' w',d.rt G'=true→d.vJ eX outs→dZ ⟨P,E,fn.ntmps,w,R,oQ d.sg w xs,sO d xs,none⟩ D' eX G'.get a' w' →
      a'.defers=[]∧∃v,(results fn a'.tmps).run P w' = .ok v w'∧(fun e w'=>∃x R',e=Ending.returned x∧Ext w R (oQ d.sg w xs) w' R'∧(∀b o,R' b o→b<w'.heap.size) ∧
       Ae d.sg R' w' (fun b=>oQ d.sg w xs b∨w.heap.size≤b) xs outs x) (.returned v) w':=by
     intro G' D' eX a' w' h1 h2 h3
     obtain ⟨x,e1,e2⟩:=IT ym h3 hb h1 th h2 IA
     exact ⟨h3.defers,x,e1,x,D'.R,rfl,h3.ext,h3.nF,e2⟩
    refine Du (C:=⟨P,E,fn.ntmps,w,R,oQ d.sg w xs,sO d xs,none⟩) hE d.m hk Ii eh { nrm:=fun G' D' eX a' w' e hq h'=>?_,rS:=fun i G' D' eX a' w' hi=>(by cases hi),ret:=fun G' D' eX a' w' hr hq h'=>?_ }
    ·simp only at e
     subst e
     exact wW G' D' eX a' w' (by simpa using hn) hq h'
    ·exact wW G' D' eX a' w' hr hq h'
   ·obtain ⟨k,ym⟩:∃k,d.ps=some (i,k,s):=by
     rw [hS] at lO
     cases h:d.ps with
     | none=>simp [FD.sg,h] at lO
     | some q=>simp [FD.sg,h] at lO;obtain ⟨q1,k,q2⟩:=q;simp at lO;exact ⟨k,by rw [lO.1,lO.2]⟩
    intro w R ins outs xs v es hg hR yq a1 a2 a3 a4 a5
    obtain ⟨hlen,eh⟩:=hG ins outs hg
    have OH:ins.getD i .dead = .sl s es:=by simp [List.getD,a2]
    rw [ym,Option.toList_some,ao,au,OH] at eh
    obtain ⟨D,Ii⟩:=A2 (P:=P) (E:=E) ym hb hlen hR yq a1 a2 a3 a4 a5
    have yk:(⟨xs⟩:Array Value).size=xs.length:=rfl
    refine calls_of_wp hf uc ?_
    rw [yk]
    have wW:∀(G':GL) D' eX a' w',d.rt G'=true→d.vJ eX (outs++[.sl s es])→dZ ⟨P,E,fn.ntmps,w,R,fun c=>v.ownBlock=some c,none,some v⟩ D' eX G'.get a' w' →
      a'.defers=[]∧∃y,(results fn a'.tmps).run P w' = .ok y w'∧(fun e w'=>∃x R' ju,e=Ending.returned x∧Ext w R (fun c=>v.ownBlock=some c) w' R'∧(∀b o,R' b o→b<w'.heap.size) ∧
       ju.length=S.sg.cZ∧x=(if S.sg.cZ=1 then ju.headD undef else .tuple ⟨ju⟩)∧gT R' w' outs ju∧gD R' w' v s∧iy R' w' v s (.sl s es)) (.returned y) w':=by
     intro G' D' eX a' w' h1 h2 h3
     obtain ⟨ju,e1,e2,e3,e4,e5,e6⟩:=E7 ym h3 hb h1 th h2
     have h4:=(h3.fix.2 v rfl).2
     rw [e6,h4] at e4 e5
     rw [hS]
     exact ⟨h3.defers,_,e1,_,D'.R,ju,rfl,h3.ext,h3.nF,e2,rfl,e3,e4,e5⟩
    refine Du (C:=⟨P,E,fn.ntmps,w,R,fun c=>v.ownBlock=some c,none,some v⟩) hE d.m hk Ii eh { nrm:=fun G' D' eX a' w' e hq h'=>?_,rS:=fun i G' D' eX a' w' hi=>(by cases hi),ret:=fun G' D' eX a' w' hr hq h'=>?_ }
    ·simp only at e
     subst e
     exact wW G' D' eX a' w' (by simpa using hn) hq h'
    ·exact wW G' D' eX a' w' hr hq h'
end Go.Eng
namespace Go.Eng
section
variable {E:Env} {Q:MX→Sg→Prop} {σ:Sg}
theorem lu {m:M} {Q':MX→Sg→Prop} (h:∀e σ,Q e σ→Q' e σ):∀{σ:Sg},oJ E m Q σ→oJ E m Q' σ:=by
 induction m generalizing Q Q' with
 | skip=>exact fun q=>h _ _ q
 | fD ms=>exact fun ⟨eX,h1,h2⟩=>⟨eX,h1,h _ _ h2⟩
 | seq a b wH rQ=>exact fun q=>wH (fun e eX q=>by cases e <;> first | exact q.elim fun DN q=>⟨DN,q.1,rQ h q.2⟩ | exact h _ _ q) q
 | cond x G a b wH rQ=>exact fun q=>q.imp (fun ⟨t,h1,h2,h3⟩=>⟨t,h1,fun e=>wH h (h2 e),fun e=>rQ h (h3 e)⟩) fun ⟨h1,h2,h3⟩=>⟨h1,wH h h2,rQ h h3⟩
 | block id G b ih=>exact fun q=>ih (fun e eX q=>by
   cases e with
   | exit j =>
    simp only at q ⊢
    by_cases e:j=id
    ·rw [aq e] at q ⊢;exact h _ _ q
    ·rw [aj e] at q ⊢;exact h _ _ q
   | normal=>exact h _ _ q
   | ret=>exact h _ _ q) q
 | loop cq G b ih=>exact fun ⟨ι,jW,μ,i0,h1,h2⟩=>⟨ι,jW,μ,i0,h1,fun i=>ih (fun e eX q=>by cases e <;> first | exact q | exact h _ _ q) (h2 i)⟩
 | exit id=>exact fun q=>h _ _ q
 | ret=>exact fun q=>h _ _ q
 | BB b ih=>exact fun q=>ih h q
 | BA b ih=>exact fun q=>ih h q
 | A7 l cq G r b Mq rQ=>exact fun ⟨ι,jW,μ,h1,h2⟩=>⟨ι,jW,μ,rQ (fun e eX q=>by
   cases e with
   | exit j =>
    simp only at q ⊢
    by_cases e:j=gid l
    ·rw [aq e] at q ⊢;exact q
    ·rw [aj e] at q ⊢;exact h _ _ q
   | normal=>exact h _ _ q
   | ret=>exact h _ _ q) h1,fun i=>Mq (fun e eX q=>by
   cases e with
   | exit j =>
    simp only at q ⊢
    by_cases e:j=gid l
    ·rw [aq e] at q ⊢;exact q
    ·rw [aj e] at q ⊢;exact h _ _ q
   | normal=>exact h _ _ q
   | ret=>exact h _ _ q) (h2 i)⟩
end
end Go.Eng
namespace Go.Eng
abbrev bY:=List UInt8
inductive bM where
 | mk (name:bY) (kind:Int) (bits high low:UInt64) (text more:bY) (sub:Int) (bytes:bY) (kids:List bM)
 deriving Inhabited
structure bI where
 kind:Int
 bits:UInt64
 high:UInt64
 low:UInt64
 text:bY
 more:bY
 sub:Int
 bytes:bY
 kids:List bM
 deriving Inhabited
namespace bM
def name:bM→bY | .mk x _ _ _ _ _ _ _ _ _=>x
def kind:bM→Int | .mk _ x _ _ _ _ _ _ _ _=>x
def bits:bM→UInt64 | .mk _ _ x _ _ _ _ _ _ _=>x
def high:bM→UInt64 | .mk _ _ _ x _ _ _ _ _ _=>x
def low:bM→UInt64 | .mk _ _ _ _ x _ _ _ _ _=>x
def text:bM→bY | .mk _ _ _ _ _ x _ _ _ _=>x
def more:bM→bY | .mk _ _ _ _ _ _ x _ _ _=>x
def sub:bM→Int | .mk _ _ _ _ _ _ _ x _ _=>x
def bytes:bM→bY | .mk _ _ _ _ _ _ _ _ x _=>x
def kids:bM→List bM | .mk _ _ _ _ _ _ _ _ _ x=>x
def val (f:bM):bI:=⟨f.kind,f.bits,f.high,f.low,f.text,f.more,f.sub,f.bytes,f.kids⟩
def of (n:bY) (v:bI):bM := .mk n v.kind v.bits v.high v.low v.text v.more v.sub v.bytes v.kids
end bM
inductive Mem where
 | mk (name:bY) (kind:Int) (text:bY) (kids:List Mem)
 deriving Inhabited
structure MW where
 kind:Int
 text:bY
 kids:List Mem
 deriving Inhabited
namespace Mem
def name:Mem→bY | .mk x _ _ _=>x
def kind:Mem→Int | .mk _ x _ _=>x
def text:Mem→bY | .mk _ _ x _=>x
def kids:Mem→List Mem | .mk _ _ _ x=>x
def val (f:Mem):MW:=⟨f.kind,f.text,f.kids⟩
def of (n:bY) (v:MW):Mem := .mk n v.kind v.text v.kids
end Mem
inductive bG where
 | mk (kind:Int) (n:UInt64) (bytes text:bY) (kids:List bG)
 deriving Inhabited
namespace bG
def kind:bG→Int | .mk x _ _ _ _=>x
def n:bG→UInt64 | .mk _ x _ _ _=>x
def bytes:bG→bY | .mk _ _ x _ _=>x
def text:bG→bY | .mk _ _ _ x _=>x
def kids:bG→List bG | .mk _ _ _ _ x=>x
end bG
structure Itv where
 kind:Int
 n:UInt64
 bytes:bY
 text:bY
 kids:List bG
 deriving Inhabited
namespace bG
def val (f:bG):Itv:=⟨f.kind,f.n,f.bytes,f.text,f.kids⟩
def of (v:Itv):bG := .mk v.kind v.n v.bytes v.text v.kids
theorem ib (f:bG):of (val f)=f:=by cases f;rfl
end bG
structure kU where
 at_:Int
 end_:Int
 deriving Inhabited
structure Out where
 at_:Int
 bytes:bY
 Kv:List (List Int)
 err:Int
 PT:Int
 path:List Int
 deriving Inhabited
structure dx where
 b:bY
 at_:Int
 deriving Inhabited
structure fg where
 b:bY
 deriving Inhabited
structure cX where
 err:Int
 at_:Int
 path:List Int
 deriving Inhabited
structure P4 where
 depth:Int
 size:Int
 out:Int
 deriving Inhabited
inductive eN where
 | bs | is | ws | ss | DP | fl | ml | il | sp | ou
 deriving DecidableEq,Inhabited
abbrev eN.El:eN→Type
 | .bs=>UInt8
 | .is=>Int
 | .ws=>UInt16
 | .ss=>bY
 | .DP=>List Int
 | .fl=>bM
 | .ml=>Mem
 | .il=>bG
 | .sp=>kU
 | .ou=>Out
def eN.size:eN→Nat
 | .fl=>10
 | .ml=>4
 | .il=>5
 | .sp=>2
 | .ou=>6
 | _=>1
def eN.eG:(t:eN)→t.El
 | .bs=>0
 | .is=>0
 | .ws=>0
 | .ss=>[]
 | .DP=>[]
 | .fl => .mk [] 0 0 0 0 [] [] 0 [] []
 | .ml => .mk [] 0 [] []
 | .il => .mk 0 0 [] [] []
 | .sp=>⟨0,0⟩
 | .ou=>⟨0,[],[],0,0,[]⟩
inductive TV where
 | u8 (n:UInt8)
 | u16 (n:UInt16)
 | u32 (n:UInt32)
 | u64 (n:UInt64)
 | i (k:IntKind) (n:Int)
 | b (x:Bool)
 | s (l:bY)
 | sl (t:eN) (l:List t.El)
 | ag (l:List TV)
 | tu (l:List TV)
 | ro (x:TV)
 | gd (c:Bool) (x:TV)
 | c (x:Value)
 | pt
 | dead
 | el (p z q:Nat)
 | gv (zs:List Value)
 deriving Inhabited
def tY (n:Int):AV := .v (.int .i64 n)
def iP (l:bY):AV := .v (.string ⟨⟨l⟩⟩)
def jX (n:UInt64):AV := .v (.int .u64 n.toNat)
def kg (l:bY):AV := .sl 1 (l.map fT)
def vi (l:List Int):AV := .sl 1 (l.map tY)
mutual
def qi:bM→AV
 | .mk n k b h l t m s y ks => .ag [iP n,tY k,jX b,jX h,jX l,iP t,iP m,tY s,kg y,.sl 10 (vz ks)]
def vz:List bM→List AV
 | []=>[]
 | f :: r=>qi f :: vz r
end
mutual
def wx:Mem→AV
 | .mk n k t ks => .ag [iP n,tY k,iP t,.sl 4 (u6 ks)]
def u6:List Mem→List AV
 | []=>[]
 | f :: r=>wx f :: u6 r
end
mutual
def n5:bG→AV
 | .mk k n b t ks => .ag [tY k,jX n,kg b,iP t,.sl 5 (vc ks)]
def vc:List bG→List AV
 | []=>[]
 | f :: r=>n5 f :: vc r
end
theorem ni:∀l:List bM,vz l=l.map qi
 | []=>rfl
 | f :: r=>by rw [vz,ni r];rfl
theorem pA:∀l:List Mem,u6 l=l.map wx
 | []=>rfl
 | f :: r=>by rw [u6,pA r];rfl
theorem lI:∀l:List bG,vc l=l.map n5
 | []=>rfl
 | f :: r=>by rw [vc,lI r];rfl
def eN.av:(t:eN)→t.El→AV
 | .bs,x=>fT x
 | .is,x=>tY x
 | .ws,x => .v (.int .u16 (UInt16.toNat x))
 | .ss,x=>iP x
 | .DP,x=>vi x
 | .fl,x=>qi x
 | .ml,x=>wx x
 | .il,x=>n5 x
 | .sp,x => .ag [tY (kU.at_ x),tY (kU.end_ x)]
 | .ou,x => .ag [tY (Out.at_ x),kg (Out.bytes x),.sl 1 ((Out.Kv x).map vi),tY (Out.err x),tY (Out.PT x),vi (Out.path x)]
mutual
def TV.av:TV→AV
 | .u8 n=>fT n
 | .u16 n => .v (.int .u16 n.toNat)
 | .u32 n => .v (.int .u32 n.toNat)
 | .u64 n=>jX n
 | .i k n => .v (.int k n)
 | .b x => .v (.bool x)
 | .s l=>iP l
 | .sl t l => .sl t.size (l.map t.av)
 | .ag l => .ag (TV.yU l)
 | .tu l => .tu (TV.yU l)
 | .ro x => .ro x.av
 | .gd q x=>if q then x.av else .sk
 | .c x => .v x
 | .pt => .pt
 | .dead => .dead
 | .el p z q => .el p z q
 | .gv zs => .gv zs
def TV.yU:List TV→List AV
 | []=>[]
 | x :: r=>x.av :: TV.yU r
end
theorem TV.fY:∀l:List TV,TV.yU l=l.map TV.av
 | []=>rfl
 | f :: r=>by rw [TV.yU,TV.fY r];rfl
def bI.cells (v:bI):List TV:=[.i .i64 v.kind,.u64 v.bits,.u64 v.high,.u64 v.low,.s v.text,.s v.more,.i .i64 v.sub,.sl .bs v.bytes,.sl .fl v.kids]
def bM.cells (f:bM):List TV:=[.s f.name,.i .i64 f.kind,.u64 f.bits,.u64 f.high,.u64 f.low,.s f.text,.s f.more,.i .i64 f.sub,.sl .bs f.bytes,.sl .fl f.kids]
def MW.cells (v:MW):List TV:=[.i .i64 v.kind,.s v.text,.sl .ml v.kids]
def Mem.cells (f:Mem):List TV:=[.s f.name,.i .i64 f.kind,.s f.text,.sl .ml f.kids]
def bG.cells (f:bG):List TV:=[.i .i64 f.kind,.u64 f.n,.sl .bs f.bytes,.s f.text,.sl .il f.kids]
def Itv.cells (f:Itv):List TV:=[.i .i64 f.kind,.u64 f.n,.sl .bs f.bytes,.s f.text,.sl .il f.kids]
def kU.cells (f:kU):List TV:=[.i .i64 f.at_,.i .i64 f.end_]
def Out.cells (f:Out):List TV:=[.i .i64 f.at_,.sl .bs f.bytes,.sl .DP f.Kv,.i .i64 f.err,.i .i64 f.PT,.sl .is f.path]
def dx.cells (f:dx):List TV:=[.sl .bs f.b,.i .i64 f.at_]
def fg.cells (f:fg):List TV:=[.sl .bs f.b]
def cX.cells (f:cX):List TV:=[.i .i64 f.err,.i .i64 f.at_,.sl .is f.path]
def P4.cells (f:P4):List TV:=[.i .i64 f.depth,.i .i64 f.size,.i .i64 f.out]
def eN.tv:(t:eN)→t.El→TV
 | .bs,x => .u8 x
 | .is,x => .i .i64 x
 | .ws,x => .u16 x
 | .ss,x => .s x
 | .DP,x => .sl .is x
 | .fl,x => .ag (bM.cells x)
 | .ml,x => .ag (Mem.cells x)
 | .il,x => .ag (bG.cells x)
 | .sp,x => .ag (kU.cells x)
 | .ou,x => .ag (Out.cells x)
theorem eN.Bi (t:eN) (x:t.El):(t.tv x).av=t.av x:=by
 cases t with
 | fl=>cases x;simp [eN.tv,eN.av,TV.av,TV.yU,bM.cells,bM.name,bM.kind,bM.bits,bM.high,bM.low,bM.text,bM.more,bM.sub,bM.bytes,bM.kids,qi,ni,iP,tY,jX,kg,eN.size]
 | ml=>cases x;simp [eN.tv,eN.av,TV.av,TV.yU,Mem.cells,Mem.name,Mem.kind,Mem.text,Mem.kids,wx,pA,iP,tY,eN.size]
 | il=>cases x;simp [eN.tv,eN.av,TV.av,TV.yU,bG.cells,bG.kind,bG.n,bG.bytes,bG.text,bG.kids,n5,lI,iP,tY,jX,kg,eN.size]
 | DP=>rfl
 | sp=>rfl
 | ou=>rfl
 | _=>rfl
def eN.el:(t:eN)→TV→Option t.El
 | .bs,.u8 x=>some x
 | .is,.i .i64 x=>some x
 | .ws,.u16 x=>some x
 | .ss,.s x=>some x
 | .DP,.sl .is x=>some x
 | .fl,.ag [.s n,.i .i64 k,.u64 b,.u64 h,.u64 l,.s t,.s m,.i .i64 s,.sl .bs y,.sl .fl ks]=>some (.mk n k b h l t m s y ks)
 | .ml,.ag [.s n,.i .i64 k,.s t,.sl .ml ks]=>some (.mk n k t ks)
 | .il,.ag [.i .i64 k,.u64 n,.sl .bs b,.s t,.sl .il ks]=>some (.mk k n b t ks)
 | .sp,.ag [.i .i64 a,.i .i64 e]=>some ⟨a,e⟩
 | .ou,.ag [.i .i64 a,.sl .bs b,.sl .DP l,.i .i64 e,.i .i64 f,.sl .is p]=>some ⟨a,b,l,e,f,p⟩
 | _,_=>none
theorem eN.Dc {t:eN} {x:TV} {y:t.El} (h:t.el x=some y):t.av y=x.av:=by
 unfold eN.el at h
 split at h <;> cases h <;> first | rfl | (simp [eN.av,TV.av,TV.yU,qi,wx,n5,ni,pA,lI,eN.size,tY,kg,iP,vi,jX])
end Go.Eng
namespace Go.Eng
inductive kX where
 | ok (ws:List TV)
 | fG (p:Bool) (ws:List TV)
 | err
def ck {R:Type} (p:Bool) (x:Option R):Option R:=cond p x none
theorem cI {R:Type} (x:Option R):ck true x=x:=rfl
theorem Fe {R:Type} {p:Bool} {x:Option R} {r:R}:ck p x=some r ↔ p=true∧x=some r:=by cases p <;> simp [ck]
def Cy (k:IntKind) (n:Int):TV :=
 match k with
 | .u8 => .u8 (UInt8.ofInt n)
 | .u16 => .u16 (UInt16.ofInt n)
 | .u32 => .u32 (UInt32.ofInt n)
 | .u64 => .u64 (UInt64.ofInt n)
 | k => .i k (k.wrap n)
def TV.int?:TV→Option (IntKind × Int)
 | .u8 n=>some (.u8,n.toNat)
 | .u16 n=>some (.u16,n.toNat)
 | .u32 n=>some (.u32,n.toNat)
 | .u64 n=>some (.u64,n.toNat)
 | .i k n=>some (k,n)
 | _=>none
theorem TV.iX {x:TV} {k:IntKind} {n:Int} (h:x.int?=some (k,n)):x.av = .v (.int k n):=by
 cases x <;> simp [TV.int?] at h <;> obtain ⟨rfl,rfl⟩:=h <;> rfl
theorem nk (n:Int) (m:Nat) (h:0<m):(((n % (m:Int)).toNat % m:Nat):Int)=n % m:=by
 have h1:0≤n % (m:Int):=Int.emod_nonneg _ (by omega)
 have h2:n % (m:Int)<m:=Int.emod_lt_of_pos _ (by omega)
 rw [Nat.mod_eq_of_lt (by omega)];omega
theorem r8 (n:Int):((UInt8.ofInt n).toNat:Int)=IntKind.u8.wrap n:=by
 have:IntKind.u8.wrap n=n % (256:Nat):=by simp [IntKind.wrap,IntKind.bits,IntKind.signed]
 rw [this,UInt8.ofInt,UInt8.toNat_ofNat'];exact nk n 256 (by decide)
theorem Af (n:Int):((UInt16.ofInt n).toNat:Int)=IntKind.u16.wrap n:=by
 have:IntKind.u16.wrap n=n % (65536:Nat):=by simp [IntKind.wrap,IntKind.bits,IntKind.signed]
 rw [this,UInt16.ofInt,UInt16.toNat_ofNat'];exact nk n 65536 (by decide)
theorem qB (n:Int):((UInt32.ofInt n).toNat:Int)=IntKind.u32.wrap n:=by
 have:IntKind.u32.wrap n=n % (4294967296:Nat):=by simp [IntKind.wrap,IntKind.bits,IntKind.signed]
 rw [this,UInt32.ofInt,UInt32.toNat_ofNat'];exact nk n 4294967296 (by decide)
theorem lp (n:Int):((UInt64.ofInt n).toNat:Int)=IntKind.u64.wrap n:=by
 have:IntKind.u64.wrap n=n % (18446744073709551616:Nat):=by simp [IntKind.wrap,IntKind.bits,IntKind.signed]
 rw [this,UInt64.ofInt,UInt64.toNat_ofNat'];exact nk n 18446744073709551616 (by decide)
theorem Cx (k:IntKind) (n:Int):(Cy k n).av = .v (.int k (k.wrap n)):=by
 cases k <;> simp only [Cy,TV.av,fT,jX,AV.v.injEq,Value.int.injEq,true_and]
 ·exact r8 n
 ·exact Af n
 ·exact qB n
 ·exact lp n
def I7 (o:BinOp) (a b:UInt8):kX :=
 match o with
 | .add => .ok [.u8 (a+b)]
 | .sub => .ok [.u8 (a - b)]
 | .mul => .ok [.u8 (a * b)]
 | .quo => .fG (!decide (b=0)) [.u8 (a / b)]
 | .rem => .fG (!decide (b=0)) [.u8 (a % b)]
 | .and => .ok [.u8 (a &&& b)]
 | .or => .ok [.u8 (a ||| b)]
 | .xor => .ok [.u8 (a ^^^ b)]
 | .andNot => .ok [.u8 (a &&& ~~~b)]
 | .eql => .ok [.b (decide (a=b))]
 | .neq => .ok [.b (!decide (a=b))]
 | .lss => .ok [.b (decide (a<b))]
 | .leq => .ok [.b (decide (a≤b))]
 | .gtr => .ok [.b (decide (b<a))]
 | .geq => .ok [.b (decide (b≤a))]
 | _ => .err
def GZ (a:UInt8) (n:Nat):UInt8:=UInt8.ofNat (a.toNat * 2 ^ n)
def GX (a:UInt8) (n:Nat):UInt8:=UInt8.ofNat (a.toNat / 2 ^ n)
theorem wrap_u8' (n:Int):IntKind.u8.wrap n=n % 256:=by simp [IntKind.wrap,IntKind.bits,IntKind.signed]
theorem ofInt_u8 (a:UInt8):BitVec.ofInt 8 (a.toNat:Int)=a.toBitVec:=by
 apply BitVec.eq_of_toNat_eq
 rw [BitVec.toNat_ofInt]
 have:=a.toNat_lt
 simp only [UInt8.toNat] at this ⊢
 omega
def DF (o:BinOp) (a b:UInt16):kX :=
 match o with
 | .add => .ok [.u16 (a+b)]
 | .sub => .ok [.u16 (a - b)]
 | .mul => .ok [.u16 (a * b)]
 | .quo => .fG (!decide (b=0)) [.u16 (a / b)]
 | .rem => .fG (!decide (b=0)) [.u16 (a % b)]
 | .and => .ok [.u16 (a &&& b)]
 | .or => .ok [.u16 (a ||| b)]
 | .xor => .ok [.u16 (a ^^^ b)]
 | .andNot => .ok [.u16 (a &&& ~~~b)]
 | .eql => .ok [.b (decide (a=b))]
 | .neq => .ok [.b (!decide (a=b))]
 | .lss => .ok [.b (decide (a<b))]
 | .leq => .ok [.b (decide (a≤b))]
 | .gtr => .ok [.b (decide (b<a))]
 | .geq => .ok [.b (decide (b≤a))]
 | _ => .err
def Bz (a:UInt16) (n:Nat):UInt16:=UInt16.ofNat (a.toNat * 2 ^ n)
def Bu (a:UInt16) (n:Nat):UInt16:=UInt16.ofNat (a.toNat / 2 ^ n)
theorem kt (n:Int):IntKind.u16.wrap n=n % 65536:=by simp [IntKind.wrap,IntKind.bits,IntKind.signed]
theorem ofInt_u16 (a:UInt16):BitVec.ofInt 16 (a.toNat:Int)=a.toBitVec:=by
 apply BitVec.eq_of_toNat_eq
 rw [BitVec.toNat_ofInt]
 have:=a.toNat_lt
 simp only [UInt16.toNat] at this ⊢
 omega
def DD (o:BinOp) (a b:UInt32):kX :=
 match o with
 | .add => .ok [.u32 (a+b)]
 | .sub => .ok [.u32 (a - b)]
 | .mul => .ok [.u32 (a * b)]
 | .quo => .fG (!decide (b=0)) [.u32 (a / b)]
 | .rem => .fG (!decide (b=0)) [.u32 (a % b)]
 | .and => .ok [.u32 (a &&& b)]
 | .or => .ok [.u32 (a ||| b)]
 | .xor => .ok [.u32 (a ^^^ b)]
 | .andNot => .ok [.u32 (a &&& ~~~b)]
 | .eql => .ok [.b (decide (a=b))]
 | .neq => .ok [.b (!decide (a=b))]
 | .lss => .ok [.b (decide (a<b))]
 | .leq => .ok [.b (decide (a≤b))]
 | .gtr => .ok [.b (decide (b<a))]
 | .geq => .ok [.b (decide (b≤a))]
 | _ => .err
def Bx (a:UInt32) (n:Nat):UInt32:=UInt32.ofNat (a.toNat * 2 ^ n)
def Bs (a:UInt32) (n:Nat):UInt32:=UInt32.ofNat (a.toNat / 2 ^ n)
theorem wrap_u32' (n:Int):IntKind.u32.wrap n=n % 4294967296:=by simp [IntKind.wrap,IntKind.bits,IntKind.signed]
theorem ofInt_u32 (a:UInt32):BitVec.ofInt 32 (a.toNat:Int)=a.toBitVec:=by
 apply BitVec.eq_of_toNat_eq
 rw [BitVec.toNat_ofInt]
 have:=a.toNat_lt
 simp only [UInt32.toNat] at this ⊢
 omega
def DB (o:BinOp) (a b:UInt64):kX :=
 match o with
 | .add => .ok [.u64 (a+b)]
 | .sub => .ok [.u64 (a - b)]
 | .mul => .ok [.u64 (a * b)]
 | .quo => .fG (!decide (b=0)) [.u64 (a / b)]
 | .rem => .fG (!decide (b=0)) [.u64 (a % b)]
 | .and => .ok [.u64 (a &&& b)]
 | .or => .ok [.u64 (a ||| b)]
 | .xor => .ok [.u64 (a ^^^ b)]
 | .andNot => .ok [.u64 (a &&& ~~~b)]
 | .eql => .ok [.b (decide (a=b))]
 | .neq => .ok [.b (!decide (a=b))]
 | .lss => .ok [.b (decide (a<b))]
 | .leq => .ok [.b (decide (a≤b))]
 | .gtr => .ok [.b (decide (b<a))]
 | .geq => .ok [.b (decide (b≤a))]
 | _ => .err
def lz (a:UInt64) (n:Nat):UInt64:=UInt64.ofNat (a.toNat * 2 ^ n)
def mD (a:UInt64) (n:Nat):UInt64:=UInt64.ofNat (a.toNat / 2 ^ n)
theorem je (n:Int):IntKind.u64.wrap n=n % 18446744073709551616:=by simp [IntKind.wrap,IntKind.bits,IntKind.signed]
theorem ofInt_u64 (a:UInt64):BitVec.ofInt 64 (a.toNat:Int)=a.toBitVec:=by
 apply BitVec.eq_of_toNat_eq
 rw [BitVec.toNat_ofInt]
 have:=a.toNat_lt
 simp only [UInt64.toNat] at this ⊢
 omega
def kX.holds:kX→List TV→Prop
 | .ok ws,r=>r=ws
 | .fG p ws,r=>p=true∧r=ws
 | .err,_=>False
theorem Fp {o : BinOp} {a b : UInt8} {ws : List TV} (h : (I7 o a b).holds ws) : ∃ x : TV, ws = [x] ∧ ∃ v, x.av = .v v ∧ kD o (.int .u8 a.toNat) (.int .u8 b.toNat) = some v := by
  have ha := a.toNat_lt
  have hb := b.toNat_lt
  cases o <;> simp only [I7, kX.holds] at h <;> first | exact h.elim | skip
  all_goals first
    | (obtain ⟨hp, rfl⟩ := h; refine ⟨_, rfl, _, rfl, ?_⟩; simp only [Bool.not_eq_true', decide_eq_false_iff_not] at hp
       have AK : (b.toNat : Int) ≠ 0 := fun e => hp (UInt8.toNat_inj.1 (by simpa using e))
       simp only [kD, if_true, AK, if_false, ax, Value.int.injEq, true_and, UInt8.toNat_div, UInt8.toNat_mod, wrap_u8', Int.tdiv_eq_ediv_of_nonneg (Int.natCast_nonneg a.toNat), Int.tmod_eq_emod_of_nonneg (Int.natCast_nonneg a.toNat)]
       first | (rw [← Int.natCast_ediv]; have := Nat.div_le_self a.toNat b.toNat; generalize a.toNat / b.toNat = q at this ⊢; omega) | omega)
    | (subst h; refine ⟨_, rfl, _, rfl, ?_⟩
       simp only [kD, if_true, ax, Value.int.injEq, Value.bool.injEq, true_and, wrap_u8', eF, IntKind.bits, ofInt_u8, UInt8.toNat_add, UInt8.toNat_sub, UInt8.toNat_mul]
       first | omega | (rw [ba (by omega) (by have := (a &&& b).toNat_lt; simp only [UInt8.toNat] at this ⊢; simp only [UInt8.toBitVec_and] at this; omega)]; rfl)
             | (rw [ba (by omega) (by have := (a ||| b).toNat_lt; simp only [UInt8.toNat] at this ⊢; simp only [UInt8.toBitVec_or] at this; omega)]; rfl)
             | (rw [ba (by omega) (by have := (a ^^^ b).toNat_lt; simp only [UInt8.toNat] at this ⊢; simp only [UInt8.toBitVec_xor] at this; omega)]; rfl)
             | (rw [ba (by omega) (by have := (a &&& ~~~b).toNat_lt; simp only [UInt8.toNat] at this ⊢; simp only [UInt8.toBitVec_and, UInt8.toBitVec_not] at this; omega)]; rfl)
             | (rw [bm]; simp [UInt8.lt_iff_toNat_lt, UInt8.le_iff_toNat_le, ← UInt8.toNat_inj]; omega)
             | (rw [bm]; simp [UInt8.lt_iff_toNat_lt, UInt8.le_iff_toNat_le, ← UInt8.toNat_inj]))
theorem DE {o : BinOp} {a b : UInt16} {ws : List TV} (h : (DF o a b).holds ws) : ∃ x : TV, ws = [x] ∧ ∃ v, x.av = .v v ∧ kD o (.int .u16 a.toNat) (.int .u16 b.toNat) = some v := by
  have ha := a.toNat_lt
  have hb := b.toNat_lt
  cases o <;> simp only [DF, kX.holds] at h <;> first | exact h.elim | skip
  all_goals first
    | (obtain ⟨hp, rfl⟩ := h; refine ⟨_, rfl, _, rfl, ?_⟩; simp only [Bool.not_eq_true', decide_eq_false_iff_not] at hp
       have AK : (b.toNat : Int) ≠ 0 := fun e => hp (UInt16.toNat_inj.1 (by simpa using e))
       simp only [kD, if_true, AK, if_false, ax, Value.int.injEq, true_and, UInt16.toNat_div, UInt16.toNat_mod, kt, Int.tdiv_eq_ediv_of_nonneg (Int.natCast_nonneg a.toNat), Int.tmod_eq_emod_of_nonneg (Int.natCast_nonneg a.toNat)]
       first | (rw [← Int.natCast_ediv]; have := Nat.div_le_self a.toNat b.toNat; generalize a.toNat / b.toNat = q at this ⊢; omega) | omega)
    | (subst h; refine ⟨_, rfl, _, rfl, ?_⟩
       simp only [kD, if_true, ax, Value.int.injEq, Value.bool.injEq, true_and, kt, eF, IntKind.bits, ofInt_u16, UInt16.toNat_add, UInt16.toNat_sub, UInt16.toNat_mul]
       first | omega | (rw [ba (by omega) (by have := (a &&& b).toNat_lt; simp only [UInt16.toNat] at this ⊢; simp only [UInt16.toBitVec_and] at this; omega)]; rfl)
             | (rw [ba (by omega) (by have := (a ||| b).toNat_lt; simp only [UInt16.toNat] at this ⊢; simp only [UInt16.toBitVec_or] at this; omega)]; rfl)
             | (rw [ba (by omega) (by have := (a ^^^ b).toNat_lt; simp only [UInt16.toNat] at this ⊢; simp only [UInt16.toBitVec_xor] at this; omega)]; rfl)
             | (rw [ba (by omega) (by have := (a &&& ~~~b).toNat_lt; simp only [UInt16.toNat] at this ⊢; simp only [UInt16.toBitVec_and, UInt16.toBitVec_not] at this; omega)]; rfl)
             | (rw [bm]; simp [UInt16.lt_iff_toNat_lt, UInt16.le_iff_toNat_le, ← UInt16.toNat_inj]; omega)
             | (rw [bm]; simp [UInt16.lt_iff_toNat_lt, UInt16.le_iff_toNat_le, ← UInt16.toNat_inj]))
theorem DC {o : BinOp} {a b : UInt32} {ws : List TV} (h : (DD o a b).holds ws) : ∃ x : TV, ws = [x] ∧ ∃ v, x.av = .v v ∧ kD o (.int .u32 a.toNat) (.int .u32 b.toNat) = some v := by
  have ha := a.toNat_lt
  have hb := b.toNat_lt
  cases o <;> simp only [DD, kX.holds] at h <;> first | exact h.elim | skip
  all_goals first
    | (obtain ⟨hp, rfl⟩ := h; refine ⟨_, rfl, _, rfl, ?_⟩; simp only [Bool.not_eq_true', decide_eq_false_iff_not] at hp
       have AK : (b.toNat : Int) ≠ 0 := fun e => hp (UInt32.toNat_inj.1 (by simpa using e))
       simp only [kD, if_true, AK, if_false, ax, Value.int.injEq, true_and, UInt32.toNat_div, UInt32.toNat_mod, wrap_u32', Int.tdiv_eq_ediv_of_nonneg (Int.natCast_nonneg a.toNat), Int.tmod_eq_emod_of_nonneg (Int.natCast_nonneg a.toNat)]
       first | (rw [← Int.natCast_ediv]; have := Nat.div_le_self a.toNat b.toNat; generalize a.toNat / b.toNat = q at this ⊢; omega) | omega)
    | (subst h; refine ⟨_, rfl, _, rfl, ?_⟩
       simp only [kD, if_true, ax, Value.int.injEq, Value.bool.injEq, true_and, wrap_u32', eF, IntKind.bits, ofInt_u32, UInt32.toNat_add, UInt32.toNat_sub, UInt32.toNat_mul]
       first | omega | (rw [ba (by omega) (by have := (a &&& b).toNat_lt; simp only [UInt32.toNat] at this ⊢; simp only [UInt32.toBitVec_and] at this; omega)]; rfl)
             | (rw [ba (by omega) (by have := (a ||| b).toNat_lt; simp only [UInt32.toNat] at this ⊢; simp only [UInt32.toBitVec_or] at this; omega)]; rfl)
             | (rw [ba (by omega) (by have := (a ^^^ b).toNat_lt; simp only [UInt32.toNat] at this ⊢; simp only [UInt32.toBitVec_xor] at this; omega)]; rfl)
             | (rw [ba (by omega) (by have := (a &&& ~~~b).toNat_lt; simp only [UInt32.toNat] at this ⊢; simp only [UInt32.toBitVec_and, UInt32.toBitVec_not] at this; omega)]; rfl)
             | (rw [bm]; simp [UInt32.lt_iff_toNat_lt, UInt32.le_iff_toNat_le, ← UInt32.toNat_inj]; omega)
             | (rw [bm]; simp [UInt32.lt_iff_toNat_lt, UInt32.le_iff_toNat_le, ← UInt32.toNat_inj]))
theorem DA {o : BinOp} {a b : UInt64} {ws : List TV} (h : (DB o a b).holds ws) : ∃ x : TV, ws = [x] ∧ ∃ v, x.av = .v v ∧ kD o (.int .u64 a.toNat) (.int .u64 b.toNat) = some v := by
  have ha := a.toNat_lt
  have hb := b.toNat_lt
  cases o <;> simp only [DB, kX.holds] at h <;> first | exact h.elim | skip
  all_goals first
    | (obtain ⟨hp, rfl⟩ := h; refine ⟨_, rfl, _, rfl, ?_⟩; simp only [Bool.not_eq_true', decide_eq_false_iff_not] at hp
       have AK : (b.toNat : Int) ≠ 0 := fun e => hp (aY.1 (by simpa using e))
       simp only [kD, if_true, AK, if_false, ax, Value.int.injEq, true_and, UInt64.toNat_div, UInt64.toNat_mod, je, Int.tdiv_eq_ediv_of_nonneg (Int.natCast_nonneg a.toNat), Int.tmod_eq_emod_of_nonneg (Int.natCast_nonneg a.toNat)]
       first | (rw [← Int.natCast_ediv]; have := Nat.div_le_self a.toNat b.toNat; generalize a.toNat / b.toNat = q at this ⊢; omega) | omega)
    | (subst h; refine ⟨_, rfl, _, rfl, ?_⟩
       simp only [kD, if_true, ax, Value.int.injEq, Value.bool.injEq, true_and, je, eF, IntKind.bits, ofInt_u64, UInt64.toNat_add, UInt64.toNat_sub, UInt64.toNat_mul]
       first | omega | (rw [ba (by omega) (by have := (a &&& b).toNat_lt; simp only [UInt64.toNat] at this ⊢; simp only [UInt64.toBitVec_and] at this; omega)]; rfl)
             | (rw [ba (by omega) (by have := (a ||| b).toNat_lt; simp only [UInt64.toNat] at this ⊢; simp only [UInt64.toBitVec_or] at this; omega)]; rfl)
             | (rw [ba (by omega) (by have := (a ^^^ b).toNat_lt; simp only [UInt64.toNat] at this ⊢; simp only [UInt64.toBitVec_xor] at this; omega)]; rfl)
             | (rw [ba (by omega) (by have := (a &&& ~~~b).toNat_lt; simp only [UInt64.toNat] at this ⊢; simp only [UInt64.toBitVec_and, UInt64.toBitVec_not] at this; omega)]; rfl)
             | (rw [bm]; simp [aC, aN, ← aY]; omega)
             | (rw [bm]; simp [aC, aN, ← aY]))
end Go.Eng
namespace Go.Eng
def I6 (o:BinOp) (k:IntKind) (a b:Int):kX :=
 match o with
 | .add => .ok [.i k (k.wrap (a+b))]
 | .sub => .ok [.i k (k.wrap (a - b))]
 | .mul => .ok [.i k (k.wrap (a * b))]
 | .quo => .fG (!decide (b=0)) [.i k (k.wrap (a.tdiv b))]
 | .rem => .fG (!decide (b=0)) [.i k (a.tmod b)]
 | .and => .ok [.i k (eF .and k a b)]
 | .or => .ok [.i k (eF .or k a b)]
 | .xor => .ok [.i k (eF .xor k a b)]
 | .andNot => .ok [.i k (eF .andNot k a b)]
 | .eql => .ok [.b (decide (a=b))]
 | .neq => .ok [.b (!decide (a=b))]
 | .lss => .ok [.b (decide (a<b))]
 | .leq => .ok [.b (decide (a≤b))]
 | .gtr => .ok [.b (decide (b<a))]
 | .geq => .ok [.b (decide (b≤a))]
 | _ => .err
def I5 (o:BinOp) (a b:bY):kX :=
 match o with
 | .add => .fG (decide (a.length+b.length≤9223372036854775807)) [.s (a++b)]
 | .eql => .ok [.b (decide (a=b))]
 | .neq => .ok [.b (!decide (a=b))]
 | _ => .err
def TV.count:TV→Option (Option Bool × Nat)
 | .u8 n=>some (none,n.toNat)
 | .u16 n=>some (none,n.toNat)
 | .u32 n=>some (none,n.toNat)
 | .u64 n=>some (none,n.toNat)
 | .i _ n=>some (some (decide (0≤n)),n.toNat)
 | _=>none
def kX.under (p:Option Bool) (ws:List TV):kX :=
 match p with
 | none => .ok ws
 | some p => .fG p ws
def GY (x y:TV):kX :=
 match y.count with
 | some (p,n)=>match x with
  | .u8 a => .under p [.u8 (GZ a n)]
  | .u16 a => .under p [.u16 (Bz a n)]
  | .u32 a => .under p [.u32 (Bx a n)]
  | .u64 a => .under p [.u64 (lz a n)]
  | .i k a => .under p [.i k (k.wrap (a * 2 ^ (min n k.bits)))]
  | _ => .err
 | none => .err
def GV (x y:TV):kX :=
 match y.count with
 | some (p,n)=>match x with
  | .u8 a => .under p [.u8 (GX a n)]
  | .u16 a => .under p [.u16 (Bu a n)]
  | .u32 a => .under p [.u32 (Bs a n)]
  | .u64 a => .under p [.u64 (mD a n)]
  | .i k a => .under p [.i k (a.fdiv (2 ^ (min n k.bits)))]
  | _ => .err
 | none => .err
def vd:BinOp→Option Bool
 | .shl=>some true
 | .shr=>some false
 | _=>none
def I4 (o:BinOp) (x y:TV):kX :=
 match vd o with
 | some true=>GY x y
 | some false=>GV x y
 | none=>match x,y with
  | .u8 a,.u8 b=>I7 o a b
  | .u16 a,.u16 b=>DF o a b
  | .u32 a,.u32 b=>DD o a b
  | .u64 a,.u64 b=>DB o a b
  | .i k a,.i k' b=>if k=k' then I6 o k a b else .err
  | .s a,.s b=>I5 o a b
  | _,_ => .err
def M7 (o:UnOp) (x:TV):kX :=
 match o,x with
 | .neg,.u8 a => .ok [.u8 (0 - a)]
 | .neg,.u16 a => .ok [.u16 (0 - a)]
 | .neg,.u32 a => .ok [.u32 (0 - a)]
 | .neg,.u64 a => .ok [.u64 (0 - a)]
 | .neg,.i k a => .ok [.i k (k.wrap (0 - a))]
 | .xor,.u8 a => .ok [.u8 (~~~a)]
 | .xor,.u16 a => .ok [.u16 (~~~a)]
 | .xor,.u32 a => .ok [.u32 (~~~a)]
 | .xor,.u64 a => .ok [.u64 (~~~a)]
 | .xor,.i k a => .ok [.i k (eF .xor k (if k.signed then -1 else k.max) a)]
 | .not,.b a => .ok [.b !a]
 | _,_ => .err
theorem rK {a n b m:Nat} (hm:m=2 ^ b):(a * 2 ^ (min n b)) % m=(a * 2 ^ n) % m:=by
 subst hm
 by_cases h:n≤b
 ·rw [Nat.min_eq_left h]
 ·rw [Nat.min_eq_right (by omega),show n=b+(n - b) by omega,Nat.pow_add,←Nat.mul_assoc,Nat.mul_mod_left,Nat.mul_right_comm,Nat.mul_mod_left]
theorem rI {a n b m:Nat} (hm:m=2 ^ b) (ha:a<m):a / 2 ^ (min n b)=(a / 2 ^ n) % m:=by
 subst hm
 rw [Nat.mod_eq_of_lt (Nat.lt_of_le_of_lt (Nat.div_le_self _ _) ha)]
 by_cases h:n≤b
 ·rw [Nat.min_eq_left h]
 ·rw [Nat.min_eq_right (by omega),Nat.div_eq_of_lt ha,Nat.div_eq_of_lt (Nat.lt_of_lt_of_le ha (Nat.pow_le_pow_right (by omega) (by omega)))]
theorem tB (l:bY):ByteArray.toList ⟨⟨l⟩⟩=l:=by rw [ByteArray.toList_eq]
def kX.xb (r:kX) (P:AV→Prop):Prop:=∀ws,r.holds ws→∃x:TV,ws=[x]∧P x.av
def DM (o:BinOp) (x y:TV) (z:AV):Prop:=∃a b v,x.av = .v a∧y.av = .v b∧kD o a b=some v∧z = .v v
theorem qW {p:Option Bool} {ws r:List TV} (h:(kX.under p ws).holds r):r=ws∧∀b,p=some b→b=true:=by
 cases p with
 | none=>exact ⟨h,fun _ e=>by cases e⟩
 | some p=>exact ⟨h.2,fun _ e=>by cases e;exact h.1⟩
theorem xt {y:TV} {p:Option Bool} {n:Nat} (h:y.count=some (p,n)) (hp:∀b,p=some b→b=true):∃k m,y.av = .v (.int k m)∧0≤m∧m.toNat=n:=by
 cases y <;> simp [TV.count] at h <;> obtain ⟨rfl,rfl⟩:=h
 ·exact ⟨_,_,rfl,by omega,by omega⟩
 ·exact ⟨_,_,rfl,by omega,by omega⟩
 ·exact ⟨_,_,rfl,by omega,by omega⟩
 ·exact ⟨_,_,rfl,by omega,by omega⟩
 ·rename_i k m
  have:=hp _ rfl
  exact ⟨_,_,rfl,by simpa using this,rfl⟩
theorem Ea (a:UInt8) (n:Nat):IntKind.u8.wrap ((a.toNat:Int) * 2 ^ (min n 8))=((GZ a n).toNat:Int):=by
 rw [wrap_u8',GZ,UInt8.toNat_ofNat',show ((a.toNat:Int) * 2 ^ (min n 8))=((a.toNat * 2 ^ (min n 8):Nat):Int) by simp]
 have:=rK (a:=a.toNat) (n:=n) (b:=8) (m:=256) (by decide)
 rw [show (2 ^ 8:Nat)=256 by decide]
 omega
theorem D8 (a:UInt8) (n:Nat):IntKind.u8.wrap ((a.toNat:Int).fdiv (2 ^ (min n 8)))=((GX a n).toNat:Int):=by
 rw [wrap_u8',GX,UInt8.toNat_ofNat',Int.fdiv_eq_ediv_of_nonneg _ (Int.le_of_lt (Int.pow_pos (by decide))),show ((a.toNat:Int) / 2 ^ (min n 8))=((a.toNat / 2 ^ (min n 8):Nat):Int) by simp]
 have:=rI (a:=a.toNat) (n:=n) (b:=8) (m:=256) (by decide) (by have:=a.toNat_lt;simpa using this)
 rw [show (2 ^ 8:Nat)=256 by decide]
 omega
theorem By (a:UInt16) (n:Nat):IntKind.u16.wrap ((a.toNat:Int) * 2 ^ (min n 16))=((Bz a n).toNat:Int):=by
 rw [kt,Bz,UInt16.toNat_ofNat',show ((a.toNat:Int) * 2 ^ (min n 16))=((a.toNat * 2 ^ (min n 16):Nat):Int) by simp]
 have:=rK (a:=a.toNat) (n:=n) (b:=16) (m:=65536) (by decide)
 rw [show (2 ^ 16:Nat)=65536 by decide]
 omega
theorem Bt (a:UInt16) (n:Nat):IntKind.u16.wrap ((a.toNat:Int).fdiv (2 ^ (min n 16)))=((Bu a n).toNat:Int):=by
 rw [kt,Bu,UInt16.toNat_ofNat',Int.fdiv_eq_ediv_of_nonneg _ (Int.le_of_lt (Int.pow_pos (by decide))),show ((a.toNat:Int) / 2 ^ (min n 16))=((a.toNat / 2 ^ (min n 16):Nat):Int) by simp]
 have:=rI (a:=a.toNat) (n:=n) (b:=16) (m:=65536) (by decide) (by have:=a.toNat_lt;simpa using this)
 rw [show (2 ^ 16:Nat)=65536 by decide]
 omega
theorem Bw (a:UInt32) (n:Nat):IntKind.u32.wrap ((a.toNat:Int) * 2 ^ (min n 32))=((Bx a n).toNat:Int):=by
 rw [wrap_u32',Bx,UInt32.toNat_ofNat',show ((a.toNat:Int) * 2 ^ (min n 32))=((a.toNat * 2 ^ (min n 32):Nat):Int) by simp]
 have:=rK (a:=a.toNat) (n:=n) (b:=32) (m:=4294967296) (by decide)
 rw [show (2 ^ 32:Nat)=4294967296 by decide]
 omega
theorem Br (a:UInt32) (n:Nat):IntKind.u32.wrap ((a.toNat:Int).fdiv (2 ^ (min n 32)))=((Bs a n).toNat:Int):=by
 rw [wrap_u32',Bs,UInt32.toNat_ofNat',Int.fdiv_eq_ediv_of_nonneg _ (Int.le_of_lt (Int.pow_pos (by decide))),show ((a.toNat:Int) / 2 ^ (min n 32))=((a.toNat / 2 ^ (min n 32):Nat):Int) by simp]
 have:=rI (a:=a.toNat) (n:=n) (b:=32) (m:=4294967296) (by decide) (by have:=a.toNat_lt;simpa using this)
 rw [show (2 ^ 32:Nat)=4294967296 by decide]
 omega
theorem Bv (a:UInt64) (n:Nat):IntKind.u64.wrap ((a.toNat:Int) * 2 ^ (min n 64))=((lz a n).toNat:Int):=by
 rw [je,lz,UInt64.toNat_ofNat',show ((a.toNat:Int) * 2 ^ (min n 64))=((a.toNat * 2 ^ (min n 64):Nat):Int) by simp]
 have:=rK (a:=a.toNat) (n:=n) (b:=64) (m:=18446744073709551616) (by decide)
 rw [show (2 ^ 64:Nat)=18446744073709551616 by decide]
 omega
theorem Bq (a:UInt64) (n:Nat):IntKind.u64.wrap ((a.toNat:Int).fdiv (2 ^ (min n 64)))=((mD a n).toNat:Int):=by
 rw [je,mD,UInt64.toNat_ofNat',Int.fdiv_eq_ediv_of_nonneg _ (Int.le_of_lt (Int.pow_pos (by decide))),show ((a.toNat:Int) / 2 ^ (min n 64))=((a.toNat / 2 ^ (min n 64):Nat):Int) by simp]
 have:=rI (a:=a.toNat) (n:=n) (b:=64) (m:=18446744073709551616) (by decide) (by have:=a.toNat_lt;simpa using this)
 rw [show (2 ^ 64:Nat)=18446744073709551616 by decide]
 omega
theorem rJ {w:Nat} {m:Int} (a:Nat) (k:Nat) (h:(a:Int)<m):0≤(a:Int).fdiv (2 ^ k)∧(a:Int).fdiv (2 ^ k)<m:=by
 rw [Int.fdiv_eq_ediv_of_nonneg _ (Int.le_of_lt (Int.pow_pos (by decide)))]
 refine ⟨Int.ediv_nonneg (by omega) (Int.le_of_lt (Int.pow_pos (by decide))),?_⟩
 rw [show ((a:Int) / 2 ^ k)=((a / 2 ^ k:Nat):Int) by simp]
 have:=Nat.div_le_self a (2 ^ k)
 omega
theorem D9 (x y:TV):(GY x y).xb (DM .shl x y):=by
 intro ws h
 unfold GY at h
 split at h
 ·rename_i p n hc
  have key:∀{r:TV} {u:IntKind} {a:Int},(kX.under p [r]).holds ws→x.av = .v (.int u a)→r.av = .v (.int u (u.wrap (a * 2 ^ (min n u.bits))))→∃z:TV,ws=[z]∧DM .shl x y z.av:=by
   intro r u a h hx hr
   obtain ⟨rfl,hp⟩:=qW h
   obtain ⟨k,m,h1,h2,rfl⟩:=xt hc hp
   refine ⟨_,rfl,_,_,_,hx,h1,?_,hr⟩
   simp only [kD,Int.not_lt.2 h2,if_false]
  split at h
  ·exact key h rfl (by rw [show IntKind.u8.bits=8 from rfl,Ea];rfl)
  ·exact key h rfl (by rw [show IntKind.u16.bits=16 from rfl,By];rfl)
  ·exact key h rfl (by rw [show IntKind.u32.bits=32 from rfl,Bw];rfl)
  ·exact key h rfl (by rw [show IntKind.u64.bits=64 from rfl,Bv];rfl)
  ·exact key h rfl rfl
  ·exact h.elim
 ·exact h.elim
theorem D7 (x y:TV):(GV x y).xb (DM .shr x y):=by
 intro ws h
 unfold GV at h
 split at h
 ·rename_i p n hc
  have key:∀{r:TV} {u:IntKind} {a:Int},(kX.under p [r]).holds ws→x.av = .v (.int u a)→r.av = .v (.int u (a.fdiv (2 ^ (min n u.bits))))→∃z:TV,ws=[z]∧DM .shr x y z.av:=by
   intro r u a h hx hr
   obtain ⟨rfl,hp⟩:=qW h
   obtain ⟨k,m,h1,h2,rfl⟩:=xt hc hp
   refine ⟨_,rfl,_,_,_,hx,h1,?_,hr⟩
   simp only [kD,Int.not_lt.2 h2,if_false]
  split at h
  ·rename_i a
   have q:=rJ (w:=0) a.toNat (min n 8) (m:=256) (by have:=a.toNat_lt;simp at this;omega)
   exact key h rfl (by rw [show IntKind.u8.bits=8 from rfl];simp only [TV.av,fT];rw [←D8,wrap_u8',ba q.1 q.2])
  ·rename_i a
   have q:=rJ (w:=0) a.toNat (min n 16) (m:=65536) (by have:=a.toNat_lt;simp at this;omega)
   exact key h rfl (by rw [show IntKind.u16.bits=16 from rfl];simp only [TV.av];rw [←Bt,kt,ba q.1 q.2])
  ·rename_i a
   have q:=rJ (w:=0) a.toNat (min n 32) (m:=4294967296) (by have:=a.toNat_lt;simp at this;omega)
   exact key h rfl (by rw [show IntKind.u32.bits=32 from rfl];simp only [TV.av];rw [←Br,wrap_u32',ba q.1 q.2])
  ·rename_i a
   have q:=rJ (w:=0) a.toNat (min n 64) (m:=18446744073709551616) (by have:=a.toNat_lt;simp at this;omega)
   exact key h rfl (by rw [show IntKind.u64.bits=64 from rfl];simp only [TV.av,jX];rw [←Bq,je,ba q.1 q.2])
  ·exact key h rfl rfl
  ·exact h.elim
 ·exact h.elim
theorem Fo {o:BinOp} {k:IntKind} {a b:Int} {ws:List TV} (h:(I6 o k a b).holds ws):∃x:TV,ws=[x]∧∃v,x.av = .v v∧kD o (.int k a) (.int k b)=some v:=by
 cases o <;> simp only [I6,kX.holds] at h <;> first | exact h.elim | skip
 all_goals first
  | (obtain ⟨hp,rfl⟩:=h;refine ⟨_,rfl,_,rfl,?_⟩;simp only [Bool.not_eq_true',decide_eq_false_iff_not] at hp;simp only [kD,if_true,hp,if_false])
  | (subst h;refine ⟨_,rfl,_,rfl,?_⟩;simp only [kD,if_true,ax,Value.bool.injEq];first | done | (rw [bm];simp))
theorem Fm {o:BinOp} {a b:bY} {ws:List TV} (h:(I5 o a b).holds ws):∃x:TV,ws=[x]∧∃v,x.av = .v v∧kD o (.string ⟨⟨a⟩⟩) (.string ⟨⟨b⟩⟩)=some v:=by
 cases o <;> simp only [I5,kX.holds] at h <;> first | exact h.elim | skip
 ·obtain ⟨hp,rfl⟩:=h
  refine ⟨_,rfl,_,rfl,?_⟩
  simp only [kD]
  have hp:a.length+b.length≤9223372036854775807:=by simpa using hp
  rw [aj]
  ·simp only [ax,Value.string.injEq]
   apply ByteArray.ext
   apply Array.ext'
   simp
  ·have:IntKind.i64.max=9223372036854775807:=by decide
   rw [this]
   simp only [ByteArray.size,Array.size]
   omega
 ·subst h
  refine ⟨_,rfl,_,rfl,?_⟩
  simp only [kD,tB,ax,Value.bool.injEq]
  rw [bm];simp
 ·subst h
  refine ⟨_,rfl,_,rfl,?_⟩
  simp only [kD,tB,ax,Value.bool.injEq]
  rw [bm];simp
theorem Fl (o:BinOp) (x y:TV):(I4 o x y).xb (DM o x y):=by
 intro ws h
 unfold I4 at h
 split at h
 ·rename_i e
  have:o = .shl:=by cases o <;> simp [vd] at e ⊢
  subst this
  exact D9 x y ws h
 ·rename_i e
  have:o = .shr:=by cases o <;> simp [vd] at e ⊢
  subst this
  exact D7 x y ws h
 ·split at h
  ·obtain ⟨x,h1,v,h2,h3⟩:=Fp h;exact ⟨x,h1,_,_,v,rfl,rfl,h3,h2⟩
  ·obtain ⟨x,h1,v,h2,h3⟩:=DE h;exact ⟨x,h1,_,_,v,rfl,rfl,h3,h2⟩
  ·obtain ⟨x,h1,v,h2,h3⟩:=DC h;exact ⟨x,h1,_,_,v,rfl,rfl,h3,h2⟩
  ·obtain ⟨x,h1,v,h2,h3⟩:=DA h;exact ⟨x,h1,_,_,v,rfl,rfl,h3,h2⟩
  ·split at h
   ·rename_i e
    subst e
    obtain ⟨x,h1,v,h2,h3⟩:=Fo h;exact ⟨x,h1,_,_,v,rfl,rfl,h3,h2⟩
   ·exact h.elim
  ·obtain ⟨x,h1,v,h2,h3⟩:=Fm h;exact ⟨x,h1,_,_,v,rfl,rfl,h3,h2⟩
  ·exact h.elim
theorem Ep (a:UInt8):eF .xor .u8 (if IntKind.u8.signed then -1 else IntKind.u8.max) a.toNat=((~~~a).toNat:Int):=by
 have em:(if IntKind.u8.signed then (-1:Int) else IntKind.u8.max)=255:=by decide
 have e:BitVec.ofInt 8 255=BitVec.allOnes 8:=by decide
 rw [em]
 simp only [eF,IntKind.bits]
 rw [e,ofInt_u8,wrap_u8']
 show (((BitVec.allOnes 8 ^^^ a.toBitVec:BitVec 8).toNat:Int)) % 256=_
 rw [BitVec.allOnes_xor]
 have:=(~~~a).toNat_lt
 simp only [UInt8.toNat,UInt8.toBitVec_not] at this ⊢
 omega
theorem Cc (a:UInt16):eF .xor .u16 (if IntKind.u16.signed then -1 else IntKind.u16.max) a.toNat=((~~~a).toNat:Int):=by
 have em:(if IntKind.u16.signed then (-1:Int) else IntKind.u16.max)=65535:=by decide
 have e:BitVec.ofInt 16 65535=BitVec.allOnes 16:=by decide
 rw [em]
 simp only [eF,IntKind.bits]
 rw [e,ofInt_u16,kt]
 show (((BitVec.allOnes 16 ^^^ a.toBitVec:BitVec 16).toNat:Int)) % 65536=_
 rw [BitVec.allOnes_xor]
 have:=(~~~a).toNat_lt
 simp only [UInt16.toNat,UInt16.toBitVec_not] at this ⊢
 omega
theorem Ca (a:UInt32):eF .xor .u32 (if IntKind.u32.signed then -1 else IntKind.u32.max) a.toNat=((~~~a).toNat:Int):=by
 have em:(if IntKind.u32.signed then (-1:Int) else IntKind.u32.max)=4294967295:=by decide
 have e:BitVec.ofInt 32 4294967295=BitVec.allOnes 32:=by decide
 rw [em]
 simp only [eF,IntKind.bits]
 rw [e,ofInt_u32,wrap_u32']
 show (((BitVec.allOnes 32 ^^^ a.toBitVec:BitVec 32).toNat:Int)) % 4294967296=_
 rw [BitVec.allOnes_xor]
 have:=(~~~a).toNat_lt
 simp only [UInt32.toNat,UInt32.toBitVec_not] at this ⊢
 omega
theorem B9 (a:UInt64):eF .xor .u64 (if IntKind.u64.signed then -1 else IntKind.u64.max) a.toNat=((~~~a).toNat:Int):=by
 have em:(if IntKind.u64.signed then (-1:Int) else IntKind.u64.max)=18446744073709551615:=by decide
 have e:BitVec.ofInt 64 18446744073709551615=BitVec.allOnes 64:=by decide
 rw [em]
 simp only [eF,IntKind.bits]
 rw [e,ofInt_u64,je]
 show (((BitVec.allOnes 64 ^^^ a.toBitVec:BitVec 64).toNat:Int)) % 18446744073709551616=_
 rw [BitVec.allOnes_xor]
 have:=(~~~a).toNat_lt
 simp only [UInt64.toNat,UInt64.toBitVec_not] at this ⊢
 omega
theorem GI (o : UnOp) (x : TV) : (M7 o x).xb (fun z => ∃ a v, x.av = .v a ∧ JB o a = some v ∧ z = .v v) := by
  intro ws h
  unfold M7 at h
  split at h <;> first
    | exact h.elim
    | (cases h; exact ⟨_, rfl, _, _, rfl, rfl, rfl⟩)
    | (cases h; refine ⟨_, rfl, _, _, rfl, rfl, ?_⟩
       rename_i a
       have := a.toNat_lt
       simp only [TV.av, fT, jX, AV.v.injEq, Value.int.injEq, true_and]
       first
         | (rw [wrap_u8', UInt8.toNat_sub]; simp; omega)
         | (rw [kt, UInt16.toNat_sub]; simp; omega)
         | (rw [wrap_u32', UInt32.toNat_sub]; simp; omega)
         | (rw [je, UInt64.toNat_sub]; simp; omega)
         | exact (Ep a).symm | exact (Cc a).symm | exact (Ca a).symm | exact (B9 a).symm)
end Go.Eng
namespace Go.Eng
def TV.pC:TV→Bool
 | .ag _=>true
 | _=>false
def TV.cells:TV→List TV
 | .ag cs=>cs
 | x=>[x]
def TV.plain:TV→Bool
 | .u8 _=>true
 | .u16 _=>true
 | .u32 _=>true
 | .u64 _=>true
 | .i _ _=>true
 | .b _=>true
 | .s _=>true
 | .sl _ _=>true
 | .ag _=>true
 | .ro _=>true
 | .c x=>x.oneCell'
 | _=>false
def ra (cs:List TV) (o n:Nat) (agg:Bool):Option TV :=
 match agg with
 | true=>cond (Nat.ble (o+n) cs.length) (some (.ag ((cs.drop o).take n))) none
 | false=>cs[o]?
def nb (cs:List TV) (o:Nat) (xs:List TV):List TV:=cs.take o++xs++cs.drop (o+xs.length)
def zR (z:List TV):List (Nat × Nat)→List TV→Option (List TV)
 | [],[]=>some z
 | (o,n) :: pl,x :: xs=>cond (x.plain&&Nat.beq x.cells.length n&&Nat.ble (o+n) z.length) (zR (nb z o x.cells) pl xs) none
 | _,_=>none
theorem TV.kf (x:TV) (h:x.plain=true):x.av.cells=x.cells.map TV.av:=by
 cases x <;> first | rfl | cases h | skip
 ·simp [TV.av,AV.cells,TV.cells,TV.fY]
theorem TV.mH (x:TV) (h:x.plain=true):x.av.plain=true:=by
 cases x <;> first | rfl | cases h | exact h | skip
theorem TV.zu (x:TV) (h:x.plain=true):x.av.pC=x.pC:=by
 cases x <;> first | rfl | cases h
theorem nT {cs:List TV} {o n:Nat} {agg:Bool} {x:TV} (h:ra cs o n agg=some x):gW (cs.map TV.av) o n agg=some x.av:=by
 cases agg with
 | true =>
  simp only [ra] at h
  cases hb:Nat.ble (o+n) cs.length with
  | false=>rw [hb] at h;cases h
  | true =>
   rw [hb] at h
   cases h
   simp only [gW,if_true,aQ,Nat.le_of_ble_eq_true hb,TV.av,TV.fY]
   simp [List.map_take,List.map_drop]
 | false =>
  simp only [ra] at h
  simp only [gW,bo,if_false,aP,h]
  rfl
theorem na (cs xs:List TV) (o:Nat):(nb cs o xs).map TV.av=gV (cs.map TV.av) o (xs.map TV.av):=by
 simp [nb,gV,List.map_take,List.map_drop]
theorem xm:∀{pl:List (Nat × Nat)} {z xs cs:List TV},zR z pl xs=some cs→mo (z.map TV.av) pl (xs.map TV.av)=some (cs.map TV.av)
 | [],z,[],cs,h=>by cases h;rfl
 | (o,n) :: pl,z,x :: xs,cs,h=>by
  simp only [zR] at h
  cases hb:(x.plain&&Nat.beq x.cells.length n&&Nat.ble (o+n) z.length) with
  | false=>rw [hb] at h;cases h
  | true =>
   rw [hb] at h
   simp only [af] at hb
   obtain ⟨⟨h1,h2⟩,h3⟩:=hb
   have h2:=ay h2
   have h3:=Nat.le_of_ble_eq_true h3
   simp only [ao,mo,TV.mH x h1,TV.kf x h1,aQ,h2,h3,and_self,if_true]
   rw [←na]
   exact xm h
 | [],z,_ :: _,cs,h=>by cases h
 | _ :: _,z,[],cs,h=>by cases h
def rM (e:TV) (o n:Nat) (agg:Bool):Option TV :=
 match e with
 | .ag cs=>ra cs o n agg
 | x=>cond (Nat.beq o 0&&Nat.beq n 1&&!agg) (some x) none
def uV (e:TV) (o:Nat) (x:TV):Option TV :=
 match e with
 | .ag cs=>cond (Nat.ble (o+x.cells.length) cs.length) (some (.ag (nb cs o x.cells))) none
 | _=>cond (Nat.beq o 0&&!x.pC) (some x) none
theorem yc {e x:TV} {o n:Nat} {agg:Bool} (he:e.plain=true) (h:rM e o n agg=some x):px e.av o n agg=some x.av:=by
 cases e <;> first | cases he | skip
 case ag cs=>simp only [rM] at h;simp only [TV.av,TV.fY,px];exact nT h
 all_goals
  simp only [rM] at h
  cases hb:(Nat.beq o 0&&Nat.beq n 1&&!agg) with
  | false=>rw [hb] at h;cases h
  | true =>
   rw [hb] at h
   cases h
   simp only [af,Bool.not_eq_true'] at hb
   obtain ⟨⟨h1,h2⟩,h3⟩:=hb
   have h1:=ay h1
   have h2:=ay h2
   simp [px,TV.av,fT,jX,iP,h1,h2,h3]
theorem An {e x y:TV} {o:Nat} (he:e.plain=true) (hx:x.plain=true) (h:uV e o x=some y):sw e.av o x.av=some y.av:=by
 cases e <;> first | cases he | skip
 case ag cs =>
  simp only [uV] at h
  cases hb:Nat.ble (o+x.cells.length) cs.length with
  | false=>rw [hb] at h;cases h
  | true =>
   rw [hb] at h
   cases h
   simp only [TV.av,TV.fY,sw,TV.kf x hx,aQ,Nat.le_of_ble_eq_true hb,if_true,na]
 all_goals
  simp only [uV] at h
  cases hb:(Nat.beq o 0&&!x.pC) with
  | false=>rw [hb] at h;cases h
  | true =>
   rw [hb] at h
   cases h
   simp only [af,Bool.not_eq_true'] at hb
   have h1:=ay hb.1
   have h2:=TV.zu _ hx
   rw [hb.2] at h2
   simp [sw,TV.av,fT,jX,iP,h1,h2]
theorem eN.vS (t:eN) (x:t.El):(t.tv x).plain=true:=by cases t <;> rfl
def eN.app:(t:eN)→List t.El→(t':eN)→List t'.El→Option (List t.El)
 | .bs,l,.bs,m=>some (l++m)
 | .is,l,.is,m=>some (l++m)
 | .ws,l,.ws,m=>some (l++m)
 | .ss,l,.ss,m=>some (l++m)
 | .DP,l,.DP,m=>some (l++m)
 | .fl,l,.fl,m=>some (l++m)
 | .ml,l,.ml,m=>some (l++m)
 | .il,l,.il,m=>some (l++m)
 | .sp,l,.sp,m=>some (l++m)
 | .ou,l,.ou,m=>some (l++m)
 | _,_,_,_=>none
theorem eN.yV {t t':eN} {l n:List t.El} {m:List t'.El} (h:t.app l t' m=some n):t'=t∧n.map t.av=l.map t.av++m.map t'.av∧n.length=l.length+m.length:=by
 unfold eN.app at h
 split at h <;> cases h <;> simp
def eN.MO (t:eN):List TV→Option (List t.El)
 | []=>some []
 | x :: r=>match t.el x with
  | some y=>match t.MO r with
   | some l=>some (y :: l)
   | none=>none
  | none=>none
theorem eN.mV (t:eN) (x:t.El):(t.av x).plain=true∧(t.av x).cells.length=t.size:=by
 cases t with
 | fl=>cases x;exact ⟨rfl,rfl⟩
 | ml=>cases x;exact ⟨rfl,rfl⟩
 | il=>cases x;exact ⟨rfl,rfl⟩
 | _=>exact ⟨rfl,rfl⟩
theorem eN.Da {t:eN}:∀{xs:List TV} {l:List t.El},t.MO xs=some l→l.map t.av=xs.map TV.av∧∀x∈xs.map TV.av,x.plain=true∧x.cells.length=t.size
 | [],l,h=>by cases h;exact ⟨rfl,by simp⟩
 | x :: r,l,h=>by
  simp only [eN.MO] at h
  split at h
  ·rename_i y hy
   split at h
   ·rename_i m hm
    cases h
    obtain ⟨h1,h2⟩:=eN.Da hm
    refine ⟨by simp [eN.Dc hy,h1],?_⟩
    intro z hz
    simp only [ao,bq] at hz
    rcases hz with rfl | hz
    ·rw [←eN.Dc hy];exact t.mV y
    ·exact h2 z hz
   ·cases h
  ·cases h
def allM {A:Type} (f:TV→Option A):List TV→Option (List A)
 | []=>some []
 | x :: r=>match f x with
  | some y=>match allM f r with
   | some l=>some (y :: l)
   | none=>none
  | none=>none
theorem lL {A:Type} {f:TV→Option A} {g:A→TV} (hf:∀x y,f x=some y→x=g y):∀{xs:List TV} {l:List A},allM f xs=some l→xs=l.map g
 | [],l,h=>by cases h;rfl
 | x :: r,l,h=>by
  simp only [allM] at h
  split at h
  ·rename_i y hy
   split at h
   ·rename_i m hm
    cases h
    rw [hf _ _ hy,lL hf hm];rfl
   ·cases h
  ·cases h
def TV.str?:TV→Option bY | .s l=>some l | _=>none
def TV.i64?:TV→Option Int | .i .i64 l=>some l | _=>none
def TV.u8?:TV→Option UInt8 | .u8 l=>some l | _=>none
def TV.u64?:TV→Option UInt64 | .u64 l=>some l | _=>none
def TV.bool?:TV→Option Bool | .b l=>some l | _=>none
def TV.sl? (t:eN):TV→Option (List t.El)
 | .sl t' l=>if h:t'=t then some (h ▸ l) else none
 | _=>none
def DJ (cs:List TV) (n:Nat):Option TV :=
 match cs with
 | .s _ :: _=>match allM TV.str? cs with | some l=>some (.s (l.getD n [])) | none=>none
 | .i _ _ :: _=>match allM TV.i64? cs with | some l=>some (.i .i64 (l.getD n 0)) | none=>none
 | .u8 _ :: _=>match allM TV.u8? cs with | some l=>some (.u8 (l.getD n 0)) | none=>none
 | .u64 _ :: _=>match allM TV.u64? cs with | some l=>some (.u64 (l.getD n 0)) | none=>none
 | .b _ :: _=>match allM TV.bool? cs with | some l=>some (.b (l.getD n false)) | none=>none
 | .sl t _ :: _=>match allM (TV.sl? t) cs with | some l=>some (.sl t (l.getD n [])) | none=>none
 | _=>none
theorem vG {cs:List TV} {n:Nat} {x:TV} (h:DJ cs n=some x) (hn:n<cs.length):cs[n]?=some x:=by
 unfold DJ at h
 split at h
 ·split at h
  ·rename_i l hl
   have:=lL (g := .s) (fun x y h=>by cases x <;> simp [TV.str?] at h;rw [h]) hl
   cases h
   rw [this] at hn ⊢
   have CN:n<l.length:=by simpa using hn
   simp [aH,aD CN]
  ·cases h
 ·split at h
  ·rename_i l hl
   have:=lL (g := .i .i64) (fun x y h=>by
    cases x <;> simp [TV.i64?] at h
    rename_i k m
    cases k <;> simp at h
    rw [h]) hl
   cases h
   rw [this] at hn ⊢
   have CN:n<l.length:=by simpa using hn
   simp [aH,aD CN]
  ·cases h
 ·split at h
  ·rename_i l hl
   have:=lL (g := .u8) (fun x y h=>by cases x <;> simp [TV.u8?] at h;rw [h]) hl
   cases h
   rw [this] at hn ⊢
   have CN:n<l.length:=by simpa using hn
   simp [aH,aD CN]
  ·cases h
 ·split at h
  ·rename_i l hl
   have:=lL (g := .u64) (fun x y h=>by cases x <;> simp [TV.u64?] at h;rw [h]) hl
   cases h
   rw [this] at hn ⊢
   have CN:n<l.length:=by simpa using hn
   simp [aH,aD CN]
  ·cases h
 ·split at h
  ·rename_i l hl
   have:=lL (g := .b) (fun x y h=>by cases x <;> simp [TV.bool?] at h;rw [h]) hl
   cases h
   rw [this] at hn ⊢
   have CN:n<l.length:=by simpa using hn
   simp [aH,aD CN]
  ·cases h
 ·rename_i t _ _
  split at h
  ·rename_i l hl
   have:=lL (g := .sl t) (fun x y h=>by
    cases x <;> simp [TV.sl?] at h
    obtain ⟨rfl,h⟩:=h
    subst h;rfl) hl
   cases h
   rw [this] at hn ⊢
   have CN:n<l.length:=by simpa using hn
   simp [aH,aD CN]
  ·cases h
 ·cases h
def I0 (s m j:Nat) (cs:List TV):List TV:=(List.range m).map fun q=>cs.getD (q * s+j) .dead
def xw (s m n:Nat) (cs:List TV):Nat→Option (List TV)
 | 0=>some []
 | j+1=>match DJ (I0 s m (s - (j+1)) cs) n with
  | some x=>match xw s m n cs j with
   | some xs=>some (x :: xs)
   | none=>none
  | none=>none
theorem xv {s m n:Nat} {cs:List TV} (hl:m * s=cs.length) (hn:n<m):∀(j:Nat) {xs:List TV},j≤s→xw s m n cs j=some xs→xs=(cs.drop (n * s+(s - j))).take j
 | 0,xs,_,h=>by simp [xw] at h;simp [h]
 | j+1,xs,hj,h=>by
  simp only [xw] at h
  split at h
  ·rename_i x hx
   split at h
   ·rename_i ys hy
    cases h
    have h1:=xv hl hn j (by omega) hy
    have h2:=vG hx (by simpa [I0] using hn)
    have gS:n * s+(s - (j+1))<cs.length:=by
     have:(n+1) * s≤m * s:=bu _ hn
     rw [Nat.succ_mul] at this;omega
    have e:x=cs[n * s+(s - (j+1))]:=by
     simp only [I0,aP,List.getElem?_range hn,Option.map_some,ax] at h2
     rw [←h2,aH,aD gS];rfl
    rw [h1,List.drop_eq_getElem_cons gS,List.take_succ_cons,e,show n * s+(s - (j+1))+1=n * s+(s - j) by omega]
   ·cases h
  ·cases h
def lH (n:Nat):Bool:=decide (n≤maxLen)
def eE (n:Int) (l:Nat):Bool:=decide (0≤n)&&decide (n<l)
def hZ (a b:Int) (l:Nat):Bool:=decide (0≤a)&&decide (a≤b)&&decide (b≤l)
def gg (n nu:Nat):Bool:=decide (n≤maxLen)&&decide (n * nu≤140737488355328)
def Hr (l c:Int) (nu:Nat):Bool:=decide (0≤l)&&decide (l≤c)&&decide (c * nu≤140737488355328)&&decide (c≤maxLen)
def TV.bare:TV→TV
 | .gd _ x=>x
 | x=>x
def TV.GC:TV→Option Bool
 | .gd q _=>some q
 | _=>none
theorem TV.Ac {x:TV} (h:∀q,x.GC=some q→q=true):x.bare.av=x.av:=by
 cases x <;> first | rfl | skip
 rename_i q x
 have:=h q rfl
 subst this
 rfl
def BP (t:Bool) (x y:TV):Option TV :=
 match x,y with
 | .b a,.b b=>some (.b (cond t a b))
 | .i k a,.i k' b=>if k=k' then some (.i k (cond t a b)) else none
 | .u8 a,.u8 b=>some (.u8 (cond t a b))
 | .u16 a,.u16 b=>some (.u16 (cond t a b))
 | .u32 a,.u32 b=>some (.u32 (cond t a b))
 | .u64 a,.u64 b=>some (.u64 (cond t a b))
 | .s a,.s b=>some (.s (cond t a b))
 | _,_=>none
theorem BO {t:Bool} {x y z:TV} (h:BP t x y=some z):z.av=if t then x.av else y.av:=by
 unfold BP at h
 split at h <;> first | (cases h <;> cases t <;> rfl) | skip
 ·split at h
  ·rename_i e;subst e;cases h;cases t <;> rfl
  ·cases h
def BR (t:Bool) (x y:TV):kX :=
 match BP t x.bare y.bare with
 | some z=>match x.GC,y.GC with
  | none,none => .ok [z]
  | some p,none => .fG (!t || p) [z]
  | none,some q => .fG (t || q) [z]
  | some p,some q => .fG (cond t p q) [z]
 | none => .err
theorem BQ (t : Bool) (x y : TV) : (BR t x y).xb (fun z => z = if t then x.av else y.av) := by
  intro ws h
  unfold BR at h
  split at h
  · rename_i z hz
    have hz := BO hz
    cases x <;> cases y <;> simp only [TV.GC, TV.bare] at h hz <;> first
      | (cases h; exact ⟨_, rfl, hz⟩)
      | (obtain ⟨hp, rfl⟩ := h
         refine ⟨_, rfl, hz.trans ?_⟩
         cases t <;> simp at hp <;> simp [TV.av, hp])
  · exact h.elim
def En (x:Option TV):kX:=match x with | some x => .ok [x] | none => .err
def gF (p:Bool) (r:kX):kX:=cond p r .err
theorem dm {p:Bool} {r:kX} {ws:List TV} (h:(gF p r).holds ws):p=true∧r.holds ws:=by
 cases p with
 | true=>exact ⟨rfl,h⟩
 | false=>exact h.elim
theorem py {x:Option TV} {ws:List TV} (h:(En x).holds ws):∃y,x=some y∧ws=[y]:=by
 cases x with
 | none=>exact h.elim
 | some y=>exact ⟨y,rfl,h⟩
end Go.Eng
