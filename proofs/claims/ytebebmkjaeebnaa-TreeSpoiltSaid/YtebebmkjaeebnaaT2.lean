/- Texts of my own, one behind the other: EngQa, EngQb, EngQc, EngQd, EngQe, EngQf, EngQg, EngQh, EngQi, EngQj, EngQk, EngR, EngS, EngT, EngU, EngV, EngW, EngX, EvA, EvB, EvC. -/
import Derived.Test.YtebebmkjaeebnaaT1
import Derived.Lib.SliceRun
import Derived.Laws.Externs
import Derived.Deep.LoopGhost
import Derived.ScopeJumps
import Derived.KernelRfl
import Derived.Laws.Strings
set_option linter.unusedVariables false
set_option linter.unusedSimpArgs false
namespace Go.Eng
open Go.RowKit
theorem flat_get {s:Nat}:∀{es:List AV} {i:Nat} {e:AV},(∀x∈es,x.cells.length=s)→es[i]?=some e→((es.flatMap AV.cells).drop (i * s)).take s=e.cells
 | x :: es,0,e,h,he=>by
  simp at he;subst he
  have:=h x (by simp)
  simp [←this]
 | x :: es,i+1,e,h,he=>by
  have hx:=h x (by simp)
  have ih:=flat_get (es:=es) (i:=i) (e:=e) (fun y hy=>h y (by simp [hy])) (by simpa using he)
  simp only [List.flatMap_cons]
  rw [show (i+1) * s=x.cells.length+i * s by rw [hx,Nat.succ_mul];omega,←List.drop_drop,List.drop_left]
  exact ih
 | [],_,_,_,he=>by simp at he
theorem flatLen {s:Nat}:∀{es:List AV},(∀x∈es,x.cells.length=s)→(es.flatMap AV.cells).length=es.length * s
 | [],_=>by simp
 | x :: es,h=>by
  have h1:=h x (by simp)
  have h2:=flatLen (es:=es) (fun y hy=>h y (List.mem_cons_of_mem _ hy))
  simp only [List.flatMap_cons,List.length_append,List.length_cons,Nat.succ_mul,h1,h2]
  omega
theorem flat_set {s o:Nat}:∀{es:List AV} {i:Nat} {e e':AV} {xs:List AV},(∀x∈es,x.cells.length=s)→es[i]?=some e→e'.cells=splice e.cells o xs→o+xs.length≤s →
  (es.set i e').flatMap AV.cells=splice (es.flatMap AV.cells) (i * s+o) xs
 | x :: es,0,e,e',xs,h,he,h',hl=>by
  simp at he;subst he
  have hx:=h x (by simp)
  simp only [List.set_cons_zero,List.flatMap_cons,h',splice,Nat.zero_mul,Nat.zero_add]
  rw [List.take_append_of_le_length (by omega),List.drop_append_of_le_length (by omega)]
  simp
 | x :: es,i+1,e,e',xs,h,he,h',hl=>by
  have hx:=h x (by simp)
  have ih:=flat_set (es:=es) (i:=i) (e:=e) (fun y hy=>h y (by simp [hy])) (by simpa using he) h' hl
  simp only [List.set_cons_succ,List.flatMap_cons,ih,splice]
  have e1:(i+1) * s+o=x.cells.length+(i * s+o):=by rw [hx,Nat.succ_mul];omega
  rw [e1,show x.cells.length+(i * s+o)+xs.length=x.cells.length+(i * s+o+xs.length) by omega]
  simp [List.take_append,List.drop_append,List.take_of_length_le,List.drop_of_length_le]
 | [],_,_,_,_,_,he,_,_=>by simp at he
theorem partEl_cells {e x:AV} {o n:Nat} {agg:Bool} (h:partEl e o n agg=some x):partAV e.cells o n agg=some x:=by
 unfold partEl at h
 split at h
 ·exact h
 ·rename_i hne
  rw [Option.ite_none_right_eq_some] at h
  obtain ⟨⟨rfl,rfl,rfl⟩,h⟩:=h
  cases h
  have:e.cells=[e]:=by cases e <;> first | rfl | exact (hne _ rfl).elim
  simp [partAV,this]
theorem putEl_cells {e e' x:AV} {o:Nat} (h:putEl e o x=some e'):e'.cells=splice e.cells o x.cells∧o+x.cells.length≤e.cells.length:=by
 unfold putEl at h
 split at h
 ·rw [Option.ite_none_right_eq_some] at h
  obtain ⟨h1,h⟩:=h
  cases h
  exact ⟨rfl,h1⟩
 ·rename_i hne
  rw [Option.ite_none_right_eq_some] at h
  obtain ⟨⟨rfl,hx⟩,h⟩:=h
  obtain rfl:=Option.some.inj h
  have h1:e.cells=[e]:=by cases e <;> first | rfl | exact (hne _ rfl).elim
  have h2:x.cells=[x]:=by cases x <;> first | rfl | cases hx
  rw [h1,h2]
  exact ⟨by simp [splice],by simp⟩
section
variable {C:Ctx} {D:Dyn} {σ:Sg} {γ:Ga} {a:Act} {w:World}
theorem Sim.pvAt (h:Sim C D σ γ a w) {key s:Nat} (hk:γ key = .pv s):TipOK D.R w (D.τ key) s∧PrivOK D.R w (D.τ key) s (σ key):=⟨(h.ps key s (by rw [hk];rfl)).1,(h.ps key s (by rw [hk];rfl)).2.1⟩
theorem Sim.pvSep (h:Sim C D σ γ a w) {key key' s g:Nat} (hk:γ key = .pv s) (h1:blk D γ key=some g) (h2:blk D γ key'=some g):key'=key:=by
 rcases h.sep key key' g h1 h2 with e | e | e
 ·exact e.symm
 ·rw [hk] at e;cases e
 ·cases hg:γ key' <;> rw [hg] at e <;> first | (cases e;done) | skip
  cases e
  have:=h.inv key'
  rw [hg] at this
  rcases this with e | ⟨s',e⟩ <;> rw [hk] at e <;> cases e
theorem Sim.turnP (h:Sim C D σ γ a w) {key s g:Nat} (hk:γ key = .pv s) (hg:(D.τ key).ownBlock=some g) {w':World} (os:w'.os=w.os) (tape:w'.tape=w.tape) (out:w'.output=w.output) (size:w'.heap.size=w.heap.size)
  (hh:∀b,b≠g→w'.heap[b]?=w.heap[b]?) {x:AV} (ht:TipOK D.R w' (D.τ key) s) (hp:PrivOK D.R w' (D.τ key) s x):Sim C D (upd σ key x) γ a w':=by
 have hbk:blk D γ key=some g:=(blk_isP (by rw [hk];rfl)).trans hg
 have hnR:∀o,¬D.R g o:=(h.pvAt hk).2.1 g hg
 have keep:Keeps D.R w D.R w':=fun b o hr=>⟨hr,World.cell?_of_block (w:=w) (hh b (fun e=>hnR o (e ▸ hr)))⟩
 have hlk:1000000≤key:=h.lrng key (by rw [hk];rfl)
 have hne:∀key' g',key'≠key→blk D γ key'=some g'→g'≠g:=fun key' g' hn hb e=>hn (h.pvSep hk hbk (e ▸ hb))
 refine ⟨h.size,h.defers,h.ntlt,h.rng,h.lrng,fun t ht'=>?_,fun m ts hm=>?_,fun key' s' hk'=>?_,fun key' s' hs=>?_,h.sep,h.own,h.inv,?_,fun b o hr=>by rw [size];exact h.rlt b o hr,fun n=>(h.gl n).mono keep,h.fix⟩
 ·have e:t≠key:=by have:=h.ntlt;omega
  rw [upd_ne _ _ e]
  exact (h.slot t ht').imp id fun ⟨r,g⟩=>⟨r.mono keep,g⟩
 ·have e:m≠key:=fun e=>by subst e;rw [hk] at hm;cases hm
  rw [upd_ne _ _ e]
  obtain ⟨cs,hv,hts⟩:=h.mem m ts hm
  exact ⟨cs,hv.keep keep (hh _ (hne m _ e (blk_cl hm))) hv.noR,hts⟩
 ·have e:key'≠key:=fun e=>by subst e;rw [hk] at hk';cases hk'
  exact (h.tip key' s' hk').keep fun g' hg'=>⟨hh g' (hne key' g' e ((blk_live hk').trans hg')),fun _ hr=>hr⟩
 ·have hpre:PreAt (upd σ key x) γ key':=fun d s1 s2 e1 e2=>by
   by_cases e:key'=key
   ·subst e;rw [hk] at e1;cases e1
   ·have e':d≠key:=fun e'=>by subst e';rw [hk] at e2;cases e2
    rw [upd_ne _ _ e,upd_ne _ _ e'];exact (h.ps key' s' hs).2.2 d s1 s2 e1 e2
  by_cases e:key'=key
  ·subst e
   rw [hk] at hs
   cases hs
   rw [upd_same]
   exact ⟨ht,hp,hpre⟩
  ·rw [upd_ne _ _ e]
   obtain ⟨h1,h2,_⟩:=h.ps key' s' hs
   have hb:=fun g' hg'=>hne key' g' e ((blk_isP (Gh.psz_isP hs)).trans hg')
   exact ⟨h1.keep fun g' hg'=>⟨hh g' (hb g' hg'),fun _ hr=>hr⟩,h2.keep keep fun g' hg'=>⟨hh g' (hb g' hg'),fun _ hr=>hr⟩,hpre⟩
 ·have hmine:=h.own key g hbk
  refine ⟨os.trans h.ext.os,tape.trans h.ext.tape,out.trans h.ext.output,by rw [size];exact h.ext.size,fun b hb hn=>?_,h.ext.keep.trans keep,h.ext.rnew⟩
  refine (hh b fun e=>?_).trans (h.ext.heap b hb hn)
  subst e
  rcases hmine with hm' | hm'
  ·exact hn hm'
  ·omega
theorem Sim.putPriv (h:Sim C D σ γ a w) {d k s:Nat} {v:Value} {x:AV} (hd:d<C.nt) (hk:γ (lk k) = .no) (ht:TipOK D.R w v s) (hp:PrivOK D.R w v s x) (hg:∀g,v.ownBlock=some g→C.mine g∧∀key,blk D γ key≠some g) :
  Sim C { D with τ:=upd D.τ (lk k) v } (updL σ [d,lk k] [.pt,x]) (updL γ [d,lk k] [.tip k s,.pv s]) (a.put (some d) v) w:=by
 have h1:=h.newTip hk ht hg
 -- from a tip to a private slice
 have h2:Sim C { D with τ:=upd D.τ (lk k) v } (upd σ (lk k) x) (upd γ (lk k) (.pv s)) a w:=by
  have hγ:∀j,j≠lk k→upd γ (lk k) (.pv s) j=upd γ (lk k) (.live s) j:=fun j hj=>by rw [upd_ne _ _ hj,upd_ne _ _ hj]
  have hb:∀key,blk { D with τ:=upd D.τ (lk k) v } (upd γ (lk k) (.pv s)) key=blk { D with τ:=upd D.τ (lk k) v } (upd γ (lk k) (.live s)) key:=fun key=>by
   unfold blk
   by_cases e:key=lk k
   ·subst e;rw [upd_same,upd_same]
   ·rw [hγ _ e]
  have hpar:∀key,(upd γ (lk k) (.pv s) key).par=(upd γ (lk k) (.live s) key).par:=fun key=>by
   by_cases e:key=lk k
   ·subst e;rw [upd_same,upd_same];rfl
   ·rw [hγ _ e]
  have hcl:∀key,(upd γ (lk k) (.pv s) key).isCl=(upd γ (lk k) (.live s) key).isCl:=fun key=>by
   by_cases e:key=lk k
   ·subst e;rw [upd_same,upd_same];rfl
   ·rw [hγ _ e]
  have hlk:∀key,(upd γ (lk k) (.pv s) key).isLk=(upd γ (lk k) (.live s) key).isLk:=fun key=>by
   by_cases e:key=lk k
   ·subst e;rw [upd_same,upd_same];rfl
   ·rw [hγ _ e]
  have hM:∀g,Ment (upd γ (lk k) (.live s)) g→Ment (upd γ (lk k) (.pv s)) g:=fun g hg=>by
   cases g <;> simp only [Ment,hcl,hlk] at hg ⊢ <;> first | exact hg | skip
   rename_i q s'
   have e:q≠lk k:=fun e=>by subst e;rw [upd_same] at hg;rcases hg with e | ⟨_,e⟩ <;> cases e
   rw [hγ _ e];exact hg
  have hlt:lk k<C.nt→False:=fun hl=>by have:=lk_ge k;have:=h.ntlt;omega
  refine ⟨h1.size,h1.defers,h1.ntlt,fun m hm=>h1.rng m (by rwa [hcl] at hm),fun m hm=>h1.lrng m (by rwa [hlk] at hm),fun t ht'=>?_,fun m ts hm=>?_,fun key s' hk'=>?_,fun key s' hs=>?_,fun p q g hp' hq=>(by rw [hpar,hpar];exact h1.sep p q g (by rwa [hb] at hp') (by rwa [hb] at hq)),fun p g hp'=>h1.own p g (by rwa [hb] at hp'),fun key=>?_,h1.ext,h1.rlt,h1.gl,h1.fix.of rfl (fun hp'=>by
   have e:lk 999999≠lk k:=fun e=>by rw [e,upd_same] at hp';cases hp'
   rw [hγ _ e];exact ⟨hp',rfl⟩)⟩
  ·have e:t≠lk k:=fun e=>hlt (e ▸ ht')
   rw [upd_ne _ _ e,hγ _ e];exact h1.slot t ht'
  ·have e:m≠lk k:=fun e=>by subst e;rw [upd_same] at hm;cases hm
   rw [hγ _ e] at hm
   rw [upd_ne _ _ e];exact h1.mem m ts hm
  ·have e:key≠lk k:=fun e=>by subst e;rw [upd_same] at hk';cases hk'
   rw [hγ _ e] at hk';exact h1.tip key s' hk'
  ·have hpre:PreAt (upd σ (lk k) x) (upd γ (lk k) (.pv s)) key:=fun d s1 s2 e1 e2=>by
    have e:key≠lk k:=fun e=>by subst e;rw [upd_same] at e1;cases e1
    have e':d≠lk k:=fun e'=>by subst e';rw [upd_same] at e2;cases e2
    rw [hγ _ e] at e1;rw [hγ _ e'] at e2
    rw [upd_ne _ _ e,upd_ne _ _ e'];exact (h1.ps key s1 (by rw [e1];rfl)).2.2 d s1 s2 e1 e2
   by_cases e:key=lk k
   ·subst e
    rw [upd_same] at hs
    cases hs
    simp only [upd_same]
    exact ⟨ht,hp,hpre⟩
   ·rw [hγ _ e] at hs
    rw [upd_ne _ _ e];exact ⟨(h1.ps key s' hs).1,(h1.ps key s' hs).2.1,hpre⟩
  ·by_cases e:key=lk k
   ·subst e;rw [upd_same];trivial
   ·rw [hγ _ e];exact hM _ (h1.inv key)
 refine h2.put (g := .tip k s) hd (.inr ⟨.pt _,?_⟩) rfl rfl ?_
 ·intro _;show v=upd D.τ (lk k) v (lk k)∧v.oneCell'=true
  rw [upd_same]
  exact ⟨rfl,by rcases ht with rfl | ⟨_,_,_,_,_,_,rfl,_⟩ <;> rfl⟩
 ·show (upd γ (lk k) (.pv s) (lk k)).isLk=true
  rw [upd_same];rfl
end
end Go.Eng
namespace Go.Eng
open Go.RowKit
theorem take_of_get {cur:Array Value} {ys:List Value} (h:∀(j:Nat) (y:Value),ys[j]?=some y→cur[j]?=some y):cur.toList.take ys.length=ys:=by
 apply List.ext_getElem?
 intro j
 rw [List.getElem?_take]
 split
 ·rename_i hj
  have:=h j ys[j] (List.getElem?_eq_getElem hj)
  rw [List.getElem?_eq_getElem hj]
  simpa using this
 ·rename_i hj
  exact (List.getElem?_eq_none (by omega)).symm
section
variable {C:Ctx} {D:Dyn} {σ:Sg} {γ:Ga} {a:Act} {w:World} {o:Oper} {d:Nat} {K:Act→World→Prop} {Q:Exit→Act→World→Prop}
theorem Sim.thaw (h:Sim C D σ γ a w) {k s:Nat} {es:List AV} (h9:k≠999999) (hk:γ (lk k) = .pv s) (hx:σ (lk k) = .sl s es) :
  ∃R',Sim C { D with R:=R' } (upd σ (lk k) .dead) (upd γ (lk k) (.live s)) a w∧Rep R' w (.sl s es) (D.τ (lk k))∧Keeps D.R w R' w:=by
 obtain ⟨ht,hp1,hp2⟩:=h.pvAt hk
 rw [hx] at hp2
 have hp2:=hp2.resolve_left (by simp)
 obtain ⟨es',he,hes,hp⟩:=hp2
 cases he
 have hbk:blk D γ (lk k)=(D.τ (lk k)).ownBlock:=blk_isP (by rw [hk];rfl)
 let R':Reach:=fun b o=>D.R b o∨((D.τ (lk k)).ownBlock=some b∧o<es.length * s)
 have keep:Keeps D.R w R' w:=fun b o hr=>⟨.inl hr,rfl⟩
 have hne:∀key' g,key'≠lk k→blk D γ key'=some g→∀o,R' g o→D.R g o:=fun key' g hn hb o hr=>by
  rcases hr with hr | ⟨hr,_⟩
  ·exact hr
  ·exact (hn (h.pvSep hk (hbk.trans hr) hb)).elim
 have hγ:∀j,j≠lk k→upd γ (lk k) (.live s) j=γ j:=fun j hj=>upd_ne _ _ hj
 have hb:∀key,blk { D with R:=R' } (upd γ (lk k) (.live s)) key=blk D γ key:=fun key=>by
  unfold blk
  by_cases e:key=lk k
  ·subst e;rw [upd_same,hk]
  ·rw [hγ _ e]
 have hpar:∀key,(upd γ (lk k) (.live s) key).par=(γ key).par:=fun key=>by
  by_cases e:key=lk k
  ·subst e;rw [upd_same,hk];rfl
  ·rw [hγ _ e]
 have hcl:∀key,(upd γ (lk k) (.live s) key).isCl=(γ key).isCl:=fun key=>by
  by_cases e:key=lk k
  ·subst e;rw [upd_same,hk];rfl
  ·rw [hγ _ e]
 have hlk:∀key,(upd γ (lk k) (.live s) key).isLk=(γ key).isLk:=fun key=>by
  by_cases e:key=lk k
  ·subst e;rw [upd_same,hk];rfl
  ·rw [hγ _ e]
 have hM:∀g,Ment γ g→Ment (upd γ (lk k) (.live s)) g:=fun g hg=>by
  cases g <;> simp only [Ment,hcl,hlk] at hg ⊢ <;> first | exact hg | skip
  rename_i q s'
  have e:q≠lk k:=fun e=>by subst e;rcases hg with e | ⟨_,e⟩ <;> rw [hk] at e <;> cases e
  rw [hγ _ e];exact hg
 have hlt:lk k<C.nt→False:=fun hl=>by have:=lk_ge k;have:=h.ntlt;omega
 refine ⟨R',⟨h.size,h.defers,h.ntlt,fun m hm=>h.rng m (by rwa [hcl] at hm),fun m hm=>h.lrng m (by rwa [hlk] at hm),fun t ht'=>?_,fun m ts hm=>?_,fun key s' hk'=>?_,fun key s' hs=>?_,fun p q g hp' hq=>(by rw [hpar,hpar];exact h.sep p q g (by rwa [hb] at hp') (by rwa [hb] at hq)),fun p g hp'=>h.own p g (by rwa [hb] at hp'),fun key=>?_,?_,fun b o hr=>?_,fun n=>(h.gl n).mono keep,h.fix.of rfl (fun hp=>by
  have e:lk 999999≠lk k:=fun e=>h9 (lk_inj e).symm
  rw [upd_ne _ _ e];exact ⟨hp,rfl⟩)⟩,?_,keep⟩
 ·have e:t≠lk k:=fun e=>hlt (e ▸ ht')
  rw [upd_ne _ _ e,hγ _ e]
  exact (h.slot t ht').imp id fun ⟨r,g⟩=>⟨r.mono keep,fun hs=>by have g:=g hs;cases hg:γ t <;> rw [hg] at g <;> exact g⟩
 ·have e:m≠lk k:=fun e=>by subst e;rw [upd_same] at hm;cases hm
  rw [hγ _ e] at hm
  rw [upd_ne _ _ e]
  obtain ⟨cs,hv,hts⟩:=h.mem m ts hm
  exact ⟨cs,hv.keep keep rfl (fun o hr=>hv.noR o (hne m _ e (blk_cl hm) o hr)),hts⟩
 ·by_cases e:key=lk k
  ·subst e
   rw [upd_same] at hk'
   cases hk'
   rcases hp with ⟨rfl,e0⟩ | ⟨g,cap,cur,e,fz,e0,hg,hL⟩
   ·exact .inl e0
   ·rcases ht with e1 | ⟨g',n,cap',cur',e',fz',e1,h1,h2,h3,h4,h5,h6⟩
    ·rw [e0] at e1;cases e1
    ·refine .inr ⟨g',n,cap',cur',e',fz',e1,h1,h2,h3,h4,h5,fun o ho hr=>?_⟩
     rcases hr with hr | ⟨_,hr⟩
     ·exact h6 o ho hr
     ·rw [e0] at e1;cases e1;omega
  ·rw [hγ _ e] at hk'
   exact (h.tip key s' hk').keep fun g hg=>⟨rfl,hne key g e ((blk_live hk').trans hg)⟩
 ·have e:key≠lk k:=fun e=>by subst e;rw [upd_same] at hs;cases hs
  rw [hγ _ e] at hs
  rw [upd_ne _ _ e]
  obtain ⟨h1,h2,h3⟩:=h.ps key s' hs
  have hb':=fun g hg=>hne key g e ((blk_isP (Gh.psz_isP hs)).trans hg)
  refine ⟨h1.keep fun g hg=>⟨rfl,hb' g hg⟩,h2.keep keep fun g hg=>⟨rfl,hb' g hg⟩,fun d s1 s2 e1 e2=>?_⟩
  have e':d≠lk k:=fun e'=>by subst e';rw [upd_same] at e2;cases e2
  rw [hγ _ e] at e1;rw [hγ _ e'] at e2
  rw [upd_ne _ _ e,upd_ne _ _ e'];exact h3 d s1 s2 e1 e2
 ·by_cases e:key=lk k
  ·subst e;rw [upd_same];trivial
  ·rw [hγ _ e];exact hM _ (h.inv key)
 ·refine ⟨h.ext.os,h.ext.tape,h.ext.output,h.ext.size,h.ext.heap,h.ext.keep.trans keep,fun b o hr=>?_⟩
  rcases hr with hr | ⟨hr,_⟩
  ·exact h.ext.rnew b o hr
  ·rcases h.own (lk k) b (hbk.trans hr) with e | e
   ·exact .inr (.inr e)
   ·exact .inr (.inl e)
 ·rcases hr with hr | ⟨hr,_⟩
  ·exact h.rlt b o hr
  ·exact ht.lt hr
 ·rcases hp with ⟨rfl,e0⟩ | ⟨g,cap,cur,e,fz,e0,hg,hL⟩
  ·rw [e0];exact .nil s
  ·have hcap:es.length≤cap∧cap≤maxLen∧cur.size=cap * s:=by
    rcases ht with e1 | ⟨g',n,cap',cur',e',fz',e1,h1,h2,h3,h4,h5,h6⟩
    ·rw [e0] at e1;cases e1
    ·rw [e0] at e1;cases e1
     rw [hg] at h1;cases h1
     exact ⟨h4,h5,h3⟩
   have hle:es.length * s≤cap * s:=Nat.mul_le_mul_right _ hcap.1
   rw [e0]
   refine .sl rfl hcap.1 hcap.2.1 (RepE.write hes (hL.mono keep) (fun j hj => .inr ⟨by rw [e0];rfl,by omega⟩) fun j y hy=>?_)
   rw [List.getElem?_take] at hy
   split at hy
   ·simp only [World.cell?,hg,Nat.zero_add]
    simpa using hy
   ·cases hy
variable (h:Sim C D σ γ a w) (hl:d<C.nt)
include h
theorem op_pss (hd:o.dst=some d) (hl:d<C.nt) {x:Operand} {r:Opd} {t u e:TypeId} {b:ByteArray} {k:Nat} (ho:o.op = .convert t u x) (ht:C.P.underlying t=some .string) (hu:C.P.underlying u=some (.slice e)) (he:C.P.underlying e=some (.int .u8))
  (hx:opdOK x r=true) (hs1:small C.nt [x]=true) (hr:r.ev C.E σ = .v (.string b)) (hb:b.data.toList.length≤maxLen) (hk:γ (lk k) = .no)
  (hK:∀D' a' w',Sim C D' (updL σ [d,lk k] [.pt,.sl 1 (b.data.toList.map byteAV)]) (updL γ [d,lk k] [.tip k 1,.pv 1]) a' w'→K a' w'):o.wp C.P a w K Q:=by
 have e1:=(h.opd hx hs1).rep (by rw [hr];simp)
 rw [hr] at e1
 have hrun:=run_bytes_of_string (P:=C.P) w t u e b ht hu he
 have hge:=grownCap_ge w b.size 0 e
 have hle:=grownCap_le_maxLen w b.size 0 e (by rwa [bsize] at hb)
 let cur:=bytesRow b (grownCap w b.size 0 e)
 let w1:World:=w.drew.alloc (.cells cur e (cur.size,cur.size+1))
 have hnew:w1.heap[w.heap.size]?=some (.cells cur e (cur.size,cur.size+1)):=by
  show (w.heap.push _)[w.heap.size]?=_
  simp
 have hold:∀c,c<w.heap.size→w1.heap[c]?=w.heap[c]?:=fun c hc=>by
  show (w.heap.push _)[c]?=_
  rw [Array.getElem?_push,if_neg (by omega)]
 have hS:Sim C { D with R:=D.R } σ γ a w1:=h.grow (w':=w1) (R':=D.R) rfl rfl rfl (by show _≤(w.heap.push _).size;simp) hold (fun _ _ h=>h) (fun _ _ h => .inl h) (fun c q hr=>by
  show c<(w.heap.push _).size
  have:=h.rlt c q hr
  simp;omega)
 have hnR:∀q,¬D.R w.heap.size q:=fun q hr=>by have:=h.rlt _ q hr;omega
 have hsz:cur.size=grownCap w b.size 0 e * 1:=by
  have:b.data.size=b.size:=rfl
  simp only [cur,bytesRow,Array.size_append,Array.size_map,Array.size_replicate,this];omega
 have hcur:cur.toList.take (b.data.toList.map byteAV).length=b.data.toList.map fun x => .int .u8 x.toNat:=by
  have:=take_of_get (cur:=cur) (ys:=b.data.toList.map fun x => .int .u8 x.toNat) (fun j y hj=>by
   have hlt:=(List.getElem?_eq_some_iff.1 hj).1
   simp only [cur]
   unfold bytesRow
   rw [Array.getElem?_append_left (by simp at hlt ⊢;exact hlt)]
   simpa using hj)
  simpa using this
 unfold Oper.wp
 rw [show (execOp a.eval o).run C.P w = .ok (.value (.slice (some ⟨w.heap.size,0,none⟩) b.size (grownCap w b.size 0 e))) w1 by simp only [execOp,ho,e1.v_inv,Sem.run_bind,hrun,Result.andThen_ok,Sem.run_pure];rfl,Oper.upon_value,hd]
 refine hK _ _ _ (Sim.putPriv hS hl hk (.inr ⟨_,_,_,_,_,_,rfl,hnew,by simp only;intro q hq;omega,hsz,hge,hle,fun q _=>hnR q⟩) ⟨fun g hg q=>?_,.inr ⟨_,rfl,?_,.inr ⟨w.heap.size,grownCap w b.size 0 e,cur,e,(cur.size,cur.size+1),by rw [List.length_map,bsize],hnew,?_⟩⟩⟩ fun g hg=>?_)
 ·simp [Value.ownBlock] at hg;subst hg;exact hnR q
 ·intro x hx;obtain ⟨y,_,rfl⟩:=List.mem_map.1 hx;rfl
 ·rw [Nat.mul_one,hcur,bytes_cells];exact bytes_repL _
 ·simp [Value.ownBlock] at hg
  subst hg
  exact ⟨.inr h.ext.size,fun key hk=>by have:=h.lt hk;omega⟩
omit hl in
theorem Sim.retype {j:Nat} {s:AV} {g:Gh} (hj:j<C.nt) (hs:SlotOK D w s g (a.tmps.getD j undef)) (g1:g.isCl=false) (g2:g.isLk=false) (gm:Ment γ g):Sim C D (upd σ j s) (upd γ j g) a w:=by
 have:=h.put hj hs g1 g2 gm
 have hsz:j<a.tmps.size:=by rw [h.size];exact hj
 have e:a.put (some j) (a.tmps.getD j undef)=a:=by
  unfold Act.put
  simp only
  have:a.tmps.setIfInBounds j (a.tmps.getD j undef)=a.tmps:=by
   apply Array.ext
   ·simp
   ·intro i h1 h2
    rw [Array.getElem_setIfInBounds h2]
    split
    ·rename_i e;subst e;simp [Array.getD,hsz]
    ·rfl
  rw [this]
 rwa [e] at this
theorem op_pfz {k:Nat} (h9:k≠999999) (hd:o.dst=some d) (hl:d<C.nt) {x:Operand} {j s s0:Nat} {es:List AV} (ho:o.op = .move x∨o.op = .assign x) (hx:opdOK x (.s j)=true) (hj:j<C.nt) (hr:σ j = .pt) (hg:γ j = .tip k s0)
  (hk:γ (lk k) = .pv s) (hσ:σ (lk k) = .sl s es) (hK:∀D' a' w',Sim C D' (updL σ [d,j,lk k] [.sl s es,.sl s es,.dead]) (updL γ [d,j,lk k] [.tip k s,.tip k s,.live s]) a' w'→K a' w'):o.wp C.P a w K Q:=by
 have hxt:x = .tmp j:=by cases x <;> simp [opdOK] at hx;rw [hx]
 have hs1:small C.nt [x]=true:=by rw [hxt];simp [small,hj]
 have e0:=h.opd hx hs1
 have hv:=e0.gh (by simp only [Opd.ev];rw [hr];simp) (by simp only [Opd.ev];rw [hr];simp)
 simp only [Opd.gh] at hv
 rw [hg] at hv
 obtain ⟨hv1,hv2⟩:=hv
 have hev:a.eval x=a.tmps.getD j undef:=by rw [hxt];rfl
 have hrun:(execOp a.eval o).run C.P w = .ok (.value (a.eval x)) w:=by rcases ho with e | e <;> simp [execOp,e]
 obtain ⟨R',hS,hR,_⟩:=h.thaw h9 hk hσ
 have hlk1:(upd γ (lk k) (.live s) (lk k)).isLk=true:=by rw [upd_same];rfl
 have hS2:=hS.retype (g := .tip k s) hj (.inr ⟨by rw [←hev,hv1];exact hR,fun _=>⟨hev ▸ hv1,hev ▸ hv2⟩⟩) rfl rfl hlk1
 have hjk:lk k≠j:=by have:=lk_ge k;have:=h.ntlt;omega
 unfold Oper.wp
 rw [hrun,Oper.upon_value,hd]
 refine hK _ _ _ (hS2.put (g := .tip k s) hl (.inr ⟨by rw [hv1];exact hR,fun _=>⟨hv1,hv2⟩⟩) rfl rfl ?_)
 show (upd (upd γ (lk k) (.live s)) j (.tip k s) (lk k)).isLk=true
 rw [upd_ne _ _ hjk];exact hlk1
theorem op_pln (hd:o.dst=some d) (hl:d<C.nt) {x:Operand} {r:Opd} {t e:TypeId} {k s s' s0:Nat} {es:List AV} (ho:o.op = .call { callee := .builtin .len,args:=#[x],argTypes:=#[t] }) (ht:C.P.underlying t=some (.slice e)) (hx:opdOK x r=true) (hs1:small C.nt [x]=true)
  (hr:r.ev C.E σ = .pt) (hg:r.gh γ = .tip k s0) (hk:γ (lk k) = .pv s) (hσ:σ (lk k) = .sl s' es) (hK:∀D' a' w',Sim C D' (upd σ d (.v (.int .i64 es.length))) (upd γ d .no) a' w'→K a' w'):o.wp C.P a w K Q:=by
 have e0:=h.opd hx hs1
 have hv:=e0.gh (by rw [hr];simp) (by rw [hr];simp)
 rw [hg] at hv
 obtain ⟨_,_,hp2⟩:=h.pvAt hk
 rw [hσ] at hp2
 obtain ⟨es',he,_,hp⟩:=hp2.resolve_left (by simp)
 cases he
 have hval:∃q cap,a.eval x = .slice q es.length cap:=by
  rw [hv.1]
  rcases hp with ⟨rfl,e0⟩ | ⟨g,cap,cur,e,fz,e0,_⟩
  ·exact ⟨_,_,e0⟩
  ·exact ⟨_,_,e0⟩
 obtain ⟨q,cap,hval⟩:=hval
 have hrun:(execOp a.eval o).run C.P w = .ok (.value (.int .i64 es.length)) w:=by
  simp [execOp,ho,hval,resolve,invoke,builtin,Builtin.len_,run_underlying ht,goInt]
 exact h.valNo hd hl hrun (.v _) hK
omit h hl in
theorem Rep.el_inv {R:Reach} {w:World} {i s o:Nat} {y:Value} (h:Rep R w (.el i s o) y):∃b,y = .pointer (some ⟨b,i * s+o,none⟩):=by
 cases h with
 | el _ _ _ b=>exact ⟨b,rfl⟩
theorem op_pix (hd:o.dst=some d) (hl:d<C.nt) {x y:Operand} {r q:Opd} {t e:TypeId} {inf:TypeInfo} {s s0:Nat} {es:List AV} {k:Nat} {ik:IntKind} {i:Int} (ho:o.op = .indexAddr t x y) (ht:C.P.underlying t=some (.slice e)) (hi:C.P.info? e=some inf) (hz:inf.size=s)
  (hx:opdOK x r=true) (hy:opdOK y q=true) (hs1:small C.nt [x]=true) (hs2:small C.nt [y]=true)
  (hr:r.ev C.E σ = .pt) (hg:r.gh γ = .tip k s0) (hk:γ (lk k) = .pv s) (hσ:σ (lk k) = .sl s es) (hq:q.ev C.E σ = .v (.int ik i)) (h0:0≤i) (hlt:i.toNat<es.length)
  (hK:∀D' a' w',Sim C D' (upd σ d (.el i.toNat s 0)) (upd γ d (.pe k)) a' w'→K a' w'):o.wp C.P a w K Q:=by
 have e0:=h.opd hx hs1
 have hv:=e0.gh (by rw [hr];simp) (by rw [hr];simp)
 rw [hg] at hv
 have e2:=(h.opd hy hs2).rep (by rw [hq];simp)
 rw [hq] at e2
 obtain ⟨_,_,hp2⟩:=h.pvAt hk
 rw [hσ] at hp2
 obtain ⟨es',he,_,hp⟩:=hp2.resolve_left (by simp)
 cases he
 rcases hp with ⟨rfl,_⟩ | ⟨g,cap,cur,e',fz,e1,_⟩
 ·simp at hlt
 ·have hval:a.eval x = .slice (some ⟨g,0,none⟩) es.length cap:=hv.1.trans e1
  have hrun:(execOp a.eval o).run C.P w = .ok (.value (.pointer (some ⟨g,i.toNat * s,none⟩))) w:=by
   simp [execOp,ho,hval,e2.v_inv,Instr.indexAt,asIntOf,run_underlying ht,run_sizeOf hi,hz,h0,addr_add]
   omega
  refine h.val (g := .pe k) hd hl hrun (.inr ⟨.el _ _ 0 _,fun _=>⟨g,_,_,_,e1,rfl⟩⟩) rfl rfl ?_ hK
  show (γ (lk k)).isLk=true
  rw [hk];rfl
theorem op_pfa (hd:o.dst=some d) (hl:d<C.nt) {x:Operand} {r:Opd} {t:TypeId} {f k i s o' dd:Nat} {fs:Array Field} {fl:Field} {inf:TypeInfo} (ho:o.op = .fieldAddr t x f) (ht:C.P.underlying t=some (.struct fs)) (hf:fs[f]?=some fl) (hoff:fl.offset=dd) (hi:C.P.info? fl.type=some inf) (hn:0<inf.size)
  (hx:opdOK x r=true) (hs1:small C.nt [x]=true) (hr:r.ev C.E σ = .el i s o') (hg:r.gh γ = .pe k) (hK:∀D' a' w',Sim C D' (upd σ d (.el i s (o'+dd))) (upd γ d (.pe k)) a' w'→K a' w'):o.wp C.P a w K Q:=by
 have e0:=h.opd hx hs1
 have e1:=e0.rep (by rw [hr];simp)
 have hv:=e0.gh (by rw [hr];simp) (by rw [hr];simp)
 rw [hr] at e1
 rw [hg] at hv
 obtain ⟨b,hb⟩:=Rep.el_inv e1
 obtain ⟨g,n,cap,q,hτ,hg'⟩:=hv
 rw [hb] at hg'
 cases hg'
 have hne:inf.size≠0:=by omega
 have hrun:(execOp a.eval o).run C.P w = .ok (.value (.pointer (some ⟨b,i * s+(o'+dd),none⟩))) w:=by
  simp [execOp,ho,hb,Instr.fieldAt,Instr.sureAddr,run_underlying ht,hf,fieldPlace,run_sizeOf hi,hne,addr_add,hoff,Nat.add_assoc]
 have hm:=h.ment_opd r
 rw [hg] at hm
 exact h.val (g := .pe k) hd hl hrun (.inr ⟨.el _ _ _ _,fun _=>⟨_,_,_,_,hτ,rfl⟩⟩) rfl rfl hm hK
omit hl in
theorem Sim.elAt {x:Operand} {r:Opd} {k i s o':Nat} {es:List AV} {e:AV} (hx:opdOK x r=true) (hs1:small C.nt [x]=true) (hr:r.ev C.E σ = .el i s o') (hg:r.gh γ = .pe k) (hk:γ (lk k) = .pv s) (hσ:σ (lk k) = .sl s es) (he:es[i]?=some e) :
  ∃g cap cur ce fz,D.τ (lk k) = .slice (some ⟨g,0,none⟩) es.length cap∧a.eval x = .pointer (some ⟨g,i * s+o',none⟩)∧w.heap[g]?=some (.cells cur ce fz)∧(∀o,o<cur.size→¬(fz.1≤o∧o<fz.2))∧cur.size=cap * s∧es.length≤cap ∧
   (∀e∈es,e.cells.length=s)∧RepL D.R w (es.flatMap AV.cells) (cur.toList.take (es.length * s))∧cap≤maxLen∧(∀o,¬D.R g o):=by
 have e0:=h.opd hx hs1
 have e1:=e0.rep (by rw [hr];simp)
 have hv:=e0.gh (by rw [hr];simp) (by rw [hr];simp)
 rw [hr] at e1
 rw [hg] at hv
 obtain ⟨b,hb⟩:=Rep.el_inv e1
 obtain ⟨g,n,cap,q,hτ,hg'⟩:=hv
 rw [hb] at hg'
 cases hg'
 obtain ⟨ht,hp1,hp2⟩:=h.pvAt hk
 rw [hσ] at hp2
 obtain ⟨es',hee,hes,hp⟩:=hp2.resolve_left (by simp)
 cases hee
 rcases hp with ⟨rfl,_⟩ | ⟨g',cap',cur,ce,fz,e2,hh,hL⟩
 ·simp at he
 ·rw [hτ] at e2
  cases e2
  rcases ht with e3 | ⟨g',n',cap',cur',ce',fz',e3,h1,h2,h3,h4,h5,h6⟩
  ·rw [hτ] at e3;cases e3
  ·rw [hτ] at e3
   cases e3
   rw [hh] at h1
   cases h1
   exact ⟨b,cap,cur,ce,fz,hτ,hb,hh,h2,h3,h4,hes,hL,h5,hp1 b (by rw [hτ];rfl)⟩
theorem op_pld (hd:o.dst=some d) (hl:d<C.nt) {x:Operand} {r:Opd} {t:TypeId} {inf:TypeInfo} {k i s o' n:Nat} {agg:Bool} {es:List AV} {e y:AV} (ho:o.op = .load t x) (hi:C.P.info? t=some inf) (hz:inf.size=n) (ha:isAggT C.P t=some agg) (h1:agg=true∨n=1)
  (hx:opdOK x r=true) (hs1:small C.nt [x]=true) (hr:r.ev C.E σ = .el i s o') (hg:r.gh γ = .pe k) (hk:γ (lk k) = .pv s) (hσ:σ (lk k) = .sl s es) (he:es[i]?=some e) (hp:partEl e o' n agg=some y)
  (hK:∀D' a' w',Sim C D' (upd σ d y) (upd γ d .no) a' w'→K a' w'):o.wp C.P a w K Q:=by
 obtain ⟨g,cap,cur,ce,fz,_,hv,hh,_,hsz,hle,hes,hL,_⟩:=h.elAt hx hs1 hr hg hk hσ he
 have hlt:=(List.getElem?_eq_some_iff.1 he).1
 have hLe:RepL D.R w e.cells (((cur.toList.take (es.length * s)).drop (i * s)).take s):=by
  have:=(hL.drop (i * s)).take s
  rwa [flat_get hes he] at this
 obtain ⟨hlen,hrep⟩:=part_rep hLe (partEl_cells hp) h1
 have hc:∀j y,(((((cur.toList.take (es.length * s)).drop (i * s)).take s).drop o').take n)[j]?=some y→w.cell? ⟨g,i * s+o'+j,none⟩=some y:=by
  intro j y hj
  simp only [World.cell?,hh]
  rw [List.getElem?_take] at hj
  split at hj
  ·rw [List.getElem?_drop,List.getElem?_take] at hj
   split at hj
   ·rw [List.getElem?_drop,List.getElem?_take] at hj
    split at hj
    ·rw [show i * s+o'+j=i * s+(o'+j) by omega];simpa using hj
    ·cases hj
   ·cases hj
  ·cases hj
 have hrun:=run_loadVar (P:=C.P) hi ha (hz ▸ h1) (hlen.trans hz.symm) hc
 refine h.valNo hd hl (?_:(execOp a.eval o).run C.P w = .ok (.value _) w) hrep hK
 simp only [execOp,ho,hv,Instr.loadAt,Instr.sureAddr,Sem.run_bind,Sem.run_pure,Result.andThen_ok,hrun]
omit hl in
theorem op_pst {x v:Operand} {r q:Opd} {t:TypeId} {inf:TypeInfo} {k i s o' n:Nat} {es:List AV} {e e':AV} (hd:o.dst=none) (ho:o.op = .store t x v) (hi:C.P.info? t=some inf) (hz:inf.size=n)
  (hx:opdOK x r=true) (hs1:small C.nt [x]=true) (hv:opdOK v q=true) (hs2:small C.nt [v]=true) (hr:r.ev C.E σ = .el i s o') (hg:r.gh γ = .pe k) (hk:γ (lk k) = .pv s) (hσ:σ (lk k) = .sl s es) (he:es[i]?=some e)
  (hp:(q.ev C.E σ).plain=true) (hn:(q.ev C.E σ).cells.length=n) (hpe:putEl e o' (q.ev C.E σ)=some e')
  (hK:∀D' a' w',Sim C D' (upd σ (lk k) (.sl s (es.set i e'))) (upd γ (lk k) (.pv s)) a' w'→K a' w'):o.wp C.P a w K Q:=by
 obtain ⟨g,cap,cur,ce,fz,hτ,hxv,hh,hfz,hsz,hle,hes,hL,hcm,hnR⟩:=h.elAt hx hs1 hr hg hk hσ he
 have hlt:=(List.getElem?_eq_some_iff.1 he).1
 have q0:=h.opd hv hs2
 have hqd:q.ev C.E σ ≠ .dead:=by intro e;rw [e] at hp;cases hp
 have hLv:=plain_rep (q0.rep hqd) hp
 have hlen:=hLv.length
 obtain ⟨hc1,hc2⟩:=putEl_cells hpe
 have hel:=hes e (List.mem_of_getElem? he)
 have hvn:(a.eval v).cells.toList.length=n:=hlen.symm.trans hn
 have hcn:(a.eval v).cells.size=n:=by simpa using hvn
 have hbig:(i+1) * s≤es.length * s:=Nat.mul_le_mul_right _ hlt
 have hbig2:es.length * s≤cap * s:=Nat.mul_le_mul_right _ hle
 rw [Nat.succ_mul] at hbig
 have hst:=run_storeCells_free (P:=C.P) g (i * s+o') ce fz (a.eval v).cells.toList 0 cur w hh (by rw [hvn];omega) hfz hLv.one
 simp only [Nat.add_zero] at hst
 let new:Array Value:=(cur.toList.take (i * s+o')++(a.eval v).cells.toList++cur.toList.drop (i * s+o'+(a.eval v).cells.toList.length)).toArray
 have hrun:(execOp a.eval o).run C.P w = .ok .skip (w.setRow g new):=by
  have:¬((a.eval v).cells.size≠n):=by omega
  simp only [execOp,ho,hxv,Instr.storeAt,Instr.sureAddr,Sem.run_bind,Sem.run_pure,Result.andThen_ok,storeVar,run_sizeOf hi,hz,Sem.run_ite,this,if_false,hst]
  rfl
 have hh':=setRow_heap w g cur new ce fz hh
 have hnsz:new.size=cur.size:=by simp [new];omega
 have keep:Keeps D.R w D.R (w.setRow g new):=fun b o hr=>⟨hr,cell_setRow_other w g _ ⟨b,o,none⟩ (fun e=>hnR o (by have:b=g:=e;rw [←this];exact hr))⟩
 have hob:(D.τ (lk k)).ownBlock=some g:=by rw [hτ];rfl
 have hes':∀y∈es.set i e',y.cells.length=s:=fun y hy=>by
  rcases List.mem_or_eq_of_mem_set hy with hy | rfl
  ·exact hes y hy
  ·rw [hc1];simp [splice];omega
 have hS:=h.turnP hk hob (w':=w.setRow g new) rfl rfl rfl (by simp) (fun b hb=>setRow_other w g b _ hb) (x := .sl s (es.set i e'))
  (.inr ⟨g,es.length,cap,new,ce,fz,hτ,hh',fun o ho=>hfz o (by omega),hnsz.trans hsz,hle,hcm,fun o _=>hnR o⟩)
  ⟨fun g' hg' o=>by rw [hob] at hg';cases hg';exact hnR o,.inr ⟨_,rfl,hes',.inr ⟨g,cap,new,ce,fz,by rw [List.length_set];exact hτ,hh',by
   rw [List.length_set,flat_set hes he hc1 (by omega)]
   have hnt:new.toList.take (es.length * s)=(cur.toList.take (es.length * s)).take (i * s+o')++(a.eval v).cells.toList++(cur.toList.take (es.length * s)).drop (i * s+o'+(a.eval v).cells.toList.length):=by
    have hcl:cur.toList.length=cap * s:=by simpa using hsz
    apply List.ext_getElem?
    intro j
    simp only [new,List.getElem?_take,List.getElem?_append,List.length_append,List.length_take,List.getElem?_drop,hvn,hcl]
    have e1:min (i * s+o') (cap * s)=i * s+o':=by omega
    have e2:min (i * s+o') (min (es.length * s) (cap * s))=i * s+o':=by omega
    simp only [e1,e2]
    by_cases c1:j<es.length * s
    ·by_cases c2:j<i * s+o'
     ·simp [c1,c2,show j<i * s+o'+n by omega]
     ·by_cases c3:j<i * s+o'+n
      ·simp [c1,c2,c3]
      ·simp [c1,c2,c3,show i * s+o'+n+(j - (i * s+o'+n))<es.length * s by omega]
    ·have c2:¬j<i * s+o':=by omega
     have c3:¬j<i * s+o'+n:=by omega
     simp [c1,c3,show ¬i * s+o'+n+(j - (i * s+o'+n))<es.length * s by omega]
   rw [hnt]
   simp only [splice,hlen]
   exact (((hL.take _).append hLv).append (hL.drop _)).mono keep⟩⟩⟩
 have eγ:upd γ (lk k) (.pv s)=γ:=by
  funext j
  by_cases e:j=lk k
  ·subst e;rw [upd_same,hk]
  ·rw [upd_ne _ _ e]
 unfold Oper.wp
 rw [hrun,Oper.upon_skip,hd]
 rw [eγ] at hK
 exact hK _ _ _ (by simpa [Act.put] using hS)
end
end Go.Eng
namespace Go.Eng
open Go.RowKit
section
variable {C:Ctx} {sg:Nat→FSig}
theorem k_pss {k:Nat}:KindOK C sg (.pss k):=by
 intro D σ γ a w dst op ty pos after guard rs ds gd ws gs K' Q h ho hk hsm hs hg hK
 simp only [keysOK,Bool.and_eq_true] at hk
 obtain ⟨⟨hk0,hk1⟩,hk2⟩:=hk
 obtain ⟨d,rfl,hl,rfl⟩:=dOK0 hk2
 simp only [opOK] at ho
 split at ho
 ·rename_i s u x r rest _ _
  simp only [Bool.and_eq_true] at ho
  obtain ⟨⟨ht,hu⟩,ho⟩:=ho
  obtain ⟨e,hu1,hu2⟩:=isByteSl_spec hu
  simp at hk0
  obtain ⟨q,rfl⟩:=len1 hk0
  cases q <;> simp at hk1
  subst hk1
  simp only [List.map_cons,List.map_nil,sem] at hs
  simp only [List.map_cons,List.map_nil,gsem] at hg
  split at hs
  ·rename_i b y heq
   simp only [List.cons.injEq,and_true] at heq
   obtain ⟨hb,rfl⟩:=hs
   split at hg
   ·rename_i g heq2
    simp only [List.cons.injEq,and_true,Opd.gh] at heq2
    cases hg
    exact op_pss h rfl hl rfl (isStrT_spec ht) hu1 hu2 ho (small_mem hsm (by simp [Op.operands])) heq.1 hb heq2.2 hK
   ·cases hg
  ·cases hs
 ·cases ho
theorem k_pfz {k s:Nat}:KindOK C sg (.pfz k s):=by
 intro D σ γ a w dst op ty pos after guard rs ds gd ws gs K' Q h ho hk hsm hs hg hK
 simp only [keysOK,Bool.and_eq_true] at hk
 obtain ⟨⟨h9,hk0,hk1⟩,hk2⟩:=hk
 simp only [decide_eq_true_eq] at h9
 have main:∀{x:Operand} {r q:Opd},(op = .move x∨op = .assign x)→rs=[r,q]→opdOK x r=true→(⟨dst,op,ty,pos,after,guard⟩:Oper).wp C.P a w K' Q:=by
  intro x r q hop hrs hx
  subst hrs
  cases q <;> simp at hk1
  subst hk1
  cases r with
  | s j =>
   simp only [Bool.and_eq_true,decide_eq_true_eq] at hk2
   obtain ⟨hj,hk2⟩:=hk2
   obtain ⟨d,rfl,hl,rfl⟩:=dOK0 hk2
   simp only [List.map_cons,List.map_nil,sem] at hs
   simp only [List.map_cons,List.map_nil,gsem] at hg
   split at hs
   ·rename_i s' es heq
    simp only [List.cons.injEq,and_true,Opd.ev] at heq
    obtain ⟨rfl,rfl⟩:=hs
    split at hg
    ·rename_i k' s0 s1 heq2
     simp only [List.cons.injEq,and_true,Opd.gh] at heq2
     split at hg
     ·rename_i hc
      obtain ⟨rfl,rfl⟩:=hc
      cases hg
      exact op_pfz h h9 rfl hl hop hx hj heq.1 heq2.1 heq2.2 heq.2 hK
     ·cases hg
    ·cases hg
   ·cases hs
  | c x=>simp at hk2
  | g n=>simp at hk2
 simp only [opOK] at ho
 split at ho
 ·exact main (.inl rfl) rfl ho
 ·exact main (.inr rfl) rfl ho
 ·cases ho
theorem k_pln {k:Nat}:KindOK C sg (.pln k):=by
 intro D σ γ a w dst op ty pos after guard rs ds gd ws gs K' Q h ho hk hsm hs hg hK
 simp only [keysOK,Bool.and_eq_true] at hk
 obtain ⟨⟨hk0,hk1⟩,hk2⟩:=hk
 obtain ⟨d,rfl,hl,rfl⟩:=dOK0 (l:=[]) hk2
 simp only [opOK] at ho
 split at ho
 ·rename_i args ats r rest
  simp only [Bool.and_eq_true,beq_iff_eq] at ho
  obtain ⟨⟨h1,h2⟩,ho⟩:=ho
  simp at hk0
  obtain ⟨q,rfl⟩:=len1 hk0
  cases q <;> simp at hk1
  subst hk1
  obtain ⟨t,ht⟩:=len1 h1
  rw [ht] at h2
  simp only [List.all_cons,List.all_nil,Bool.and_true] at h2
  obtain ⟨x,hx0⟩:=len1 (opdsOK_len ho)
  rw [hx0] at ho
  obtain ⟨r',e,hx⟩:=opds1 ho
  cases e
  have ea:=arr1 hx0
  have et:=arr1 ht
  subst ea;subst et
  obtain ⟨e,he⟩:=Option.isSome_iff_exists.1 h2
  simp only [List.map_cons,List.map_nil,sem] at hs
  simp only [List.map_cons,List.map_nil,gsem] at hg
  split at hs
  ·rename_i s' es heq
   simp only [List.cons.injEq,and_true,Opd.ev] at heq
   subst hs
   split at hg
   ·rename_i k' s0 s1 heq2
    simp only [List.cons.injEq,and_true,Opd.gh] at heq2
    split at hg
    ·rename_i hc
     subst hc
     cases hg
     exact op_pln h rfl hl rfl (elemT_spec he) hx (small_mem hsm (by simp [Op.operands,Call.operands])) heq.1 heq2.1 heq2.2 heq.2 hK
    ·cases hg
   ·cases hg
  ·cases hs
 ·cases ho
theorem k_pix {k s:Nat}:KindOK C sg (.pix k s):=by
 intro D σ γ a w dst op ty pos after guard rs ds gd ws gs K' Q h ho hk hsm hs hg hK
 simp only [keysOK,Bool.and_eq_true] at hk
 obtain ⟨⟨hk0,hk1⟩,hk2⟩:=hk
 obtain ⟨d,rfl,hl,rfl⟩:=dOK0 (l:=[]) hk2
 simp only [opOK] at ho
 split at ho
 ·rename_i t x y r q z
  simp only [Bool.and_eq_true] at ho
  obtain ⟨ht,ho⟩:=ho
  obtain ⟨e,inf,h1,h2,h3,h4⟩:=sliceOK'_spec ht
  obtain ⟨r',q',e',hx,hy⟩:=opds2 ho
  cases e'
  cases z <;> simp at hk1
  subst hk1
  simp only [List.map_cons,List.map_nil,sem] at hs
  simp only [List.map_cons,List.map_nil,gsem] at hg
  split at hs
  ·rename_i ik i s' es heq
   simp only [List.cons.injEq,and_true,Opd.ev] at heq
   obtain ⟨rfl,h0,hlt,rfl⟩:=hs
   split at hg
   ·rename_i k' s0 g0 s1 heq2
    simp only [List.cons.injEq,and_true,Opd.gh] at heq2
    split at hg
    ·rename_i hc
     obtain ⟨rfl,rfl⟩:=hc
     cases hg
     exact op_pix h rfl hl rfl h1 h2 h3 hx hy (small_mem hsm (by simp [Op.operands])) (small_mem hsm (by simp [Op.operands])) heq.1 heq2.1 heq2.2.2 heq.2.2 heq.2.1 h0 hlt hK
    ·cases hg
   ·cases hg
  ·cases hs
 ·cases ho
theorem k_pfa {k dd:Nat}:KindOK C sg (.pfa k dd):=by
 intro D σ γ a w dst op ty pos after guard rs ds gd ws gs K' Q h ho hk hsm hs hg hK
 obtain ⟨d,rfl,hl,rfl⟩:=dOK0 (l:=[]) hk
 simp only [opOK] at ho
 split at ho
 ·rename_i t x f r
  simp only [Bool.and_eq_true] at ho
  obtain ⟨ht,hx⟩:=ho
  cases hf:fieldT C.P t f with
  | none=>simp [hf] at ht
  | some fl =>
   simp only [hf,Option.any_some,Bool.and_eq_true,beq_iff_eq] at ht
   obtain ⟨h0,ht⟩:=ht
   cases hz:sizeT C.P fl.type with
   | none=>simp [hz] at ht
   | some n =>
    simp [hz] at ht
    obtain ⟨inf,h1,h2⟩:=sizeT_spec hz
    obtain ⟨fs,hu,hfs⟩:=fieldT_spec hf
    simp only [List.map_cons,List.map_nil,sem] at hs
    split at hs
    ·rename_i i s o' heq
     simp only [List.cons.injEq,and_true] at heq
     subst hs
     simp only [List.map_cons,List.map_nil,gsem] at hg
     split at hg
     ·rename_i k' heq2
      simp only [List.cons.injEq,and_true] at heq2
      split at hg
      ·rename_i hc
       subst hc
       cases hg
       exact op_pfa h rfl hl rfl hu hfs h0 h1 (by omega) hx (small_mem hsm (by simp [Op.operands])) heq heq2 hK
      ·cases hg
     ·cases hg
    ·cases hs
 ·cases ho
theorem k_pld {k s n:Nat} {agg:Bool}:KindOK C sg (.pld k s n agg):=by
 intro D σ γ a w dst op ty pos after guard rs ds gd ws gs K' Q h ho hk hsm hs hg hK
 simp only [keysOK,Bool.and_eq_true] at hk
 obtain ⟨⟨hk0,hk1⟩,hk2⟩:=hk
 obtain ⟨d,rfl,hl,rfl⟩:=dOK0 (l:=[]) hk2
 simp only [opOK] at ho
 split at ho
 ·rename_i t x r rest
  simp at hk0
  obtain ⟨q,rfl⟩:=len1 hk0
  cases q <;> simp at hk1
  subst hk1
  simp only [Bool.and_eq_true] at ho
  obtain ⟨ht,ho⟩:=ho
  obtain ⟨inf,h1,h2,h3,h4⟩:=shapeOK_spec ht
  simp only [List.map_cons,List.map_nil,sem] at hs
  split at hs
  ·rename_i i s' o' s'' es heq
   simp only [List.cons.injEq,and_true,Opd.ev] at heq
   obtain ⟨e,y,rfl,rfl,he,hp,rfl⟩:=hs
   simp only [List.map_cons,List.map_nil,gsem] at hg
   split at hg
   ·rename_i k' s1 heq2
    simp only [List.cons.injEq,and_true,Opd.gh] at heq2
    split at hg
    ·rename_i hc
     obtain ⟨rfl,rfl⟩:=hc
     cases hg
     exact op_pld h rfl hl rfl h1 h2 h3 h4 ho (small_mem hsm (by simp [Op.operands])) heq.1 heq2.1 heq2.2 heq.2 he hp hK
    ·cases hg
   ·cases hg
  ·cases hs
 ·cases ho
theorem k_pst {k s n:Nat}:KindOK C sg (.pst k s n):=by
 intro D σ γ a w dst op ty pos after guard rs ds gd ws gs K' Q h ho hk hsm hs hg hK
 simp only [keysOK,Bool.and_eq_true,beq_iff_eq,Option.isNone_iff_eq_none] at hk
 obtain ⟨⟨rfl,rfl⟩,hk1⟩:=hk
 simp only [opOK] at ho
 split at ho
 ·rename_i t x v p q r
  simp only [Bool.and_eq_true,beq_iff_eq] at ho
  obtain ⟨⟨ht,hx⟩,hv⟩:=ho
  obtain ⟨inf,h1,h2⟩:=sizeT_spec ht
  cases q with
  | s j =>
   simp at hk1
   subst hk1
   simp only [List.map_cons,List.map_nil,sem] at hs
   split at hs
   ·rename_i i s' o' s'' es y heq
    simp only [List.cons.injEq,and_true,Opd.ev] at heq
    obtain ⟨e1,e2,e3⟩:=heq
    obtain ⟨e,e',rfl,rfl,he,p1,p2,p3,rfl⟩:=hs
    subst e3
    simp only [List.map_cons,List.map_nil,gsem] at hg
    split at hg
    ·rename_i k' s1 g heq2
     simp only [List.cons.injEq,and_true,Opd.gh] at heq2
     split at hg
     ·rename_i hc
      obtain ⟨rfl,rfl⟩:=hc
      cases hg
      exact op_pst h rfl rfl h1 h2 hx (small_mem hsm (by simp [Op.operands])) hv (small_mem hsm (by simp [Op.operands])) e1 heq2.1 heq2.2.1 e2 he p1 p2 p3 hK
     ·cases hg
    ·cases hg
   ·cases hs
  | c x=>simp at hk1
  | g n=>simp at hk1
 ·cases ho
end
end Go.Eng
namespace Go.Eng
open Go.RowKit
section
variable {C:Ctx} {D:Dyn} {σ:Sg} {γ:Ga} {a:Act} {w:World}
theorem Sim.callP (h : Sim C D σ γ a w) {k s : Nat} {es : List AV} (hk : γ (lk k) = .pv s ∨ γ (lk k) = .pc s) (hσ : σ (lk k) = .sl s es) {R' : Reach} {w' : World} (he : Ext w D.R (fun c => (D.τ (lk k)).ownBlock = some c) w' R')
    (hlt : ∀ b o, R' b o → b < w'.heap.size) (ht : TipOK R' w' (D.τ (lk k)) s) (hp : PrivOK R' w' (D.τ (lk k)) s (.sl s es)) : Sim C { D with R := R' } σ γ a w' := by
  have hkP : (γ (lk k)).isP = true := by rcases hk with e | e <;> rw [e] <;> rfl
  have hkpar : (γ (lk k)).par = none := by rcases hk with e | e <;> rw [e] <;> rfl
  have hkz : (γ (lk k)).psz = some s := by rcases hk with e | e <;> rw [e] <;> rfl
  have hbk : blk D γ (lk k) = (D.τ (lk k)).ownBlock := blk_isP hkP
  -- another owner's block is another one, but a parent's
  have hother : ∀ key g, key ≠ lk k → (γ key).par ≠ some (lk k) → blk D γ key = some g → (D.τ (lk k)).ownBlock ≠ some g := by
    intro key g h1 h2 h3 h4
    rcases h.sep key (lk k) g h3 (hbk.trans h4) with e | e | e
    · exact h1 e
    · exact h2 e
    · rw [hkpar] at e; cases e
  have hkeep : ∀ key g, key ≠ lk k → (γ key).par ≠ some (lk k) → blk D γ key = some g → w'.heap[g]? = w.heap[g]? ∧ ∀ o, R' g o → D.R g o := by
    intro key g h1 h2 h3
    have hne := hother key g h1 h2 h3
    refine ⟨he.heap g (h.lt h3) hne, fun o hr => ?_⟩
    rcases he.rnew g o hr with e | e | e
    · exact e
    · have := h.lt h3; omega
    · exact (hne e).elim
  refine ⟨h.size, h.defers, h.ntlt, h.rng, h.lrng, fun t ht' => ?_, fun m ts hm => ?_, fun key s' hk' => ?_, fun key s' hs => ?_, h.sep, h.own, h.inv, ?_, hlt, fun n => (h.gl n).mono he.keep, h.fix⟩
  · exact (h.slot t ht').imp id fun ⟨r, g⟩ => ⟨r.mono he.keep, fun hs => by have g := g hs; cases hg : γ t <;> rw [hg] at g <;> exact g⟩
  · obtain ⟨cs, hv, hts⟩ := h.mem m ts hm
    have h1 : m ≠ lk k := fun e => by subst e; rw [hm] at hkP; cases hkP
    obtain ⟨q1, q2⟩ := hkeep m (D.β m) h1 (by rw [hm]; simp [Gh.par]) (blk_cl hm)
    exact ⟨cs, hv.keep he.keep q1 (fun o hr => hv.noR o (q2 o hr)), hts⟩
  · have h1 : key ≠ lk k := fun e => by subst e; rw [hk'] at hkP; cases hkP
    exact (h.tip key s' hk').keep fun g hg => hkeep key g h1 (by rw [hk']; simp [Gh.par]) ((blk_live hk').trans hg)
  · by_cases e : key = lk k
    · subst e
      rw [hkz] at hs
      cases hs
      rw [hσ]
      exact ⟨ht, hp, (h.ps _ _ hkz).2.2⟩
    · obtain ⟨h1, h2, h3⟩ := h.ps key s' hs
      refine ⟨?_, ?_, h3⟩
      all_goals
        by_cases hsh : ∃ g, (D.τ key).ownBlock = some g ∧ (D.τ (lk k)).ownBlock = some g
        all_goals try exact (h1.keep fun g hg => ⟨he.heap g (h1.lt hg) (fun e' => hsh ⟨g, hg, e'⟩), fun o hr => (he.rnew g o hr).elim id fun e' => e'.elim (fun e' => absurd (h1.lt hg) (by omega)) fun e' => (hsh ⟨g, hg, e'⟩).elim⟩)
        all_goals try exact (h2.keep he.keep fun g hg => ⟨he.heap g (h1.lt hg) (fun e' => hsh ⟨g, hg, e'⟩), fun o hr => (he.rnew g o hr).elim id fun e' => e'.elim (fun e' => absurd (h1.lt hg) (by omega)) fun e' => (hsh ⟨g, hg, e'⟩).elim⟩)
        obtain ⟨g, hg1, hg2⟩ := hsh
        have hpar : (γ key).par = some (lk k) := by
          by_cases hpar : (γ key).par = some (lk k)
          · exact hpar
          · exact (hother key g e hpar ((blk_isP (Gh.psz_isP hs)).trans hg1) hg2).elim
        have hsus : γ key = .sus (lk k) s' := by
          cases hg : γ key <;> rw [hg] at hpar hs <;> simp [Gh.par, Gh.psz] at hpar hs
          rw [hpar, hs]
        have hpc : γ (lk k) = .pc s := by
          have := h.inv key
          rw [hsus] at this
          rcases hk with e' | e'
          · rcases this with e'' | ⟨_, e''⟩ <;> rw [e'] at e'' <;> cases e''
          · exact e'
        -- the child, ahead and behind
        obtain ⟨ct, cp, _⟩ := h.ps _ _ hkz
        rcases ct with e1 | ⟨gc, nc, capc, curc, ec, fzc, e1, c1, c2, c3, c4, c5, c6⟩
        · rw [e1] at hg2; cases hg2
        have egc : gc = g := by rw [e1] at hg2; simpa [Value.ownBlock] using hg2
        subst egc
        rcases ht with e2 | ⟨gc', nc', capc', curc', ec', fzc', e2, d1, d2, d3, d4, d5, d6⟩
        · rw [e1] at e2; cases e2
        rw [e1] at e2
        cases e2
        rcases h1 with e3 | ⟨gp, np, capp, curp, ep, fzp, e3, p1, p2, p3, p4, p5, p6⟩
        · rw [e3] at hg1; cases hg1
        have egp : gp = gc := by rw [e3] at hg1; simpa [Value.ownBlock] using hg1
        subst egp
        rw [c1] at p1
        cases p1
        first
        | exact .inr ⟨gp, np, capp, curc', ec', fzc', e3, d1, d2, (d3.trans c3.symm).trans p3, p4, p5, fun o _ => hp.1 gp hg2 o⟩
        | refine ⟨fun g' hg' o => by rw [hg1] at hg'; cases hg'; exact hp.1 gp hg2 o, ?_⟩
          rcases h3 _ _ _ hsus hpc with e4 | e4 | ⟨esp, more, e4, e5⟩
          · exact .inl e4
          · rw [hσ] at e4; cases e4
          · right
            rw [hσ] at e5
            cases e5
            rcases h2.2 with e6 | ⟨es6, e6, h7, h8⟩
            · rw [e4] at e6; cases e6
            rw [e4] at e6
            cases e6
            refine ⟨esp, e4, h7, ?_⟩
            rcases h8 with ⟨_, e8⟩ | ⟨g8, cap8, cur8, el8, fz8, e8, _, _⟩
            · rw [e3] at e8; cases e8
            rw [e3] at e8
            cases e8
            refine .inr ⟨gp, capp, curc', ec', fzc', by rw [e3], d1, ?_⟩
            obtain ⟨es9, e9, _, h9⟩ := hp.2.resolve_left (by simp)
            cases e9
            rcases h9 with ⟨_, e10⟩ | ⟨g9, cap9, cur9, el9, fz9, e10, q1, q2⟩
            · rw [e1] at e10; cases e10
            rw [e1] at e10
            cases e10
            rw [d1] at q1
            cases q1
            have hfl := flatLen (s := s) (es := esp) h7
            have := q2.take (esp.length * s)
            rw [List.flatMap_append, List.take_append_of_le_length (by omega), List.take_of_length_le (by omega), List.take_take, List.length_append, Nat.add_mul] at this
            rwa [Nat.min_eq_left (by omega)] at this
  · exact h.ext.trans he fun b hb => h.own (lk k) b (hbk.trans hb)
theorem opd_at {l:List Operand} {rs:List Opd} {i:Nat} (h:Sim C D σ γ a w) (hx:opdsOK l rs=true) (hs:small C.nt l=true) {x:AV} (he:(rs.map (Opd.ev C.E σ))[i]?=some x) (hd:x ≠ .dead) (hk:x ≠ .sk) :
  ∃v,(l.map a.eval)[i]?=some v∧Rep D.R w x v∧∀g,(rs.map (Opd.gh γ))[i]?=some g→GhOK D g v:=by
 induction l generalizing rs i with
 | nil=>cases rs with
  | nil=>simp at he
  | cons=>simp [opdsOK] at hx
 | cons y l ih =>
  cases rs with
  | nil=>simp [opdsOK] at hx
  | cons q qs =>
   simp [opdsOK] at hx
   have s1:small C.nt [y]=true:=by simp [small] at hs ⊢;exact hs.1
   have s2:small C.nt l=true:=by simp only [small,List.all_cons,Bool.and_eq_true] at hs;exact hs.2
   cases i with
   | zero =>
    simp at he
    have h0:=h.opd hx.1 s1
    refine ⟨a.eval y,rfl,he ▸ h0.rep (by rw [he];exact hd),fun g hg=>?_⟩
    simp at hg
    exact hg ▸ h0.gh (by rw [he];exact hd) (by rw [he];exact hk)
   | succ i=>simpa using ih hx.2 s2 (by simpa using he)
variable {o:Oper} {d:Nat} {K:Act→World→Prop} {Q:Exit→Act→World→Prop} (h:Sim C D σ γ a w)
include h
omit h in
theorem Sim.putRes {D':Dyn} {w':World} (hS:Sim C D' σ γ a w') (hl:d<C.nt) {n:Nat} {rvs:List Value} {outs:List AV} {x:Value} (h1:rvs.length=n) (h2:x=(if n=1 then rvs.headD undef else .tuple ⟨rvs⟩)) (h3:RepT D'.R w' outs rvs) (hol:outs.length=n) :
  Sim C D' (upd σ d (if n=1 then outs.headD .dead else .tu outs)) (upd γ d .no) (a.put (some d) x) w':=by
 refine hS.put hl (.plain ?_) rfl rfl trivial
 by_cases e:n=1
 ·rw [if_pos e] at h2 ⊢
  subst h2
  rw [e] at h1
  match rvs,h1 with
  | [y],_=>cases h3 with
   | cons h1 _=>exact h1
 ·rw [if_neg e] at h2 ⊢
  subst h2
  exact .tu h3
theorem op_pcall (hd:o.dst=some d) (hl:d<C.nt) {f n i k s:Nat} {args:Array Operand} {ts:Array TypeId} {rs:List Opd} {es:List AV} {outs:List AV} (ho:o.op = .call { callee := .value (.func f),args,argTypes:=ts }) (hp:plainFn C.P f=true)
  {S:FS} (hS:SpecOK C.P C.E.gl f S) (hps:S.sg.ps=some (i,s)) (hn:S.sg.nres=n) (hx:opdsOK args.toList rs=true) (hsm:small C.nt args.toList=true)
  (hpt:(rs.map (Opd.ev C.E σ))[i]?=some .pt) (hgh:(rs.map (Opd.gh γ))[i]?=some (.tip k s)) (hk:γ (lk k) = .pv s∨γ (lk k) = .pc s) (hσ:σ (lk k) = .sl s es)
  (hG:S.G ((rs.map (Opd.ev C.E σ)).set i (.sl s es)) outs) (hol:outs.length=n)
  (hK:∀D' a' w',Sim C D' (upd σ d (if n=1 then outs.headD .dead else .tu outs)) (upd γ d .no) a' w'→K a' w'):o.wp C.P a w K Q:=by
 have hkz:(γ (lk k)).psz=some s:=by rcases hk with e | e <;> rw [e] <;> rfl
 obtain ⟨ht,hpr,_⟩:=h.ps _ _ hkz
 obtain ⟨v,hv1,_,hv2⟩:=opd_at h hx hsm hpt (by simp) (by simp)
 have hv3:=(hv2 _ hgh).1
 subst hv3
 have hT:=h.opds hx hsm
 have hilt:=(List.getElem?_eq_some_iff.1 hpt).1
 have hset:((rs.map (Opd.ev C.E σ)).set i (.sl s es)).set i .pt=rs.map (Opd.ev C.E σ):=by rw [List.set_set,set_get hpt]
 unfold Oper.wp
 rw [call_run ho hp,Oper.upon_enter]
 have:=hS.2 i s hps w D.R _ outs (args.toList.map a.eval) _ es hG h.rlt h.gl hv1 (List.getElem?_set_self hilt) ht (hσ ▸ hpr) (by rw [hset];exact hT)
 have e:(⟨args.toList.map a.eval⟩:Array Value)=args.map a.eval:=by apply Array.ext';simp
 rw [e] at this
 refine this.mono ?_
 rintro e w' ⟨x,R',rvs,rfl,h1,h2,h3,h4,h5,h6,h7⟩
 simp only
 rw [hd]
 exact hK _ _ _ (Sim.putRes (h.callP hk hσ h1 h2 h6 h7) hl (h3.trans hn) (by rw [←hn];exact h4) h5 hol)
theorem op_pcaln (hd:o.dst=some d) (hl:d<C.nt) {f n i s:Nat} {args:Array Operand} {ts:Array TypeId} {rs:List Opd} {outs:List AV} (ho:o.op = .call { callee := .value (.func f),args,argTypes:=ts }) (hp:plainFn C.P f=true)
  {S:FS} (hS:SpecOK C.P C.E.gl f S) (hps:S.sg.ps=some (i,s)) (hn:S.sg.nres=n) (hx:opdsOK args.toList rs=true) (hsm:small C.nt args.toList=true)
  (hi:args.toList[i]?=some (.const (.slice none 0 0))) (hv:(rs.map (Opd.ev C.E σ))[i]?=some (.sl s [])) (hG:S.G (rs.map (Opd.ev C.E σ)) outs) (hol:outs.length=n)
  (hK:∀D' a' w',Sim C D' (upd σ d (if n=1 then outs.headD .dead else .tu outs)) (upd γ d .no) a' w'→K a' w'):o.wp C.P a w K Q:=by
 have hT:=h.opds hx hsm
 have hv1:(args.toList.map a.eval)[i]?=some (.slice none 0 0):=by rw [List.getElem?_map,hi];rfl
 have hT':RepT D.R w ((rs.map (Opd.ev C.E σ)).set i .pt) (args.toList.map a.eval):=by
  have:∀{l:List AV} {ys:List Value} {i:Nat},RepT D.R w l ys→RepT D.R w (l.set i .pt) ys:=by
   intro l ys i hr
   induction i generalizing l ys with
   | zero=>cases hr with
    | nil=>exact .nil
    | cons a b=>exact .cons (.pt _) b
   | succ i ih=>cases hr with
    | nil=>exact .nil
    | cons a b=>exact .cons a (ih b)
  exact this hT
 unfold Oper.wp
 rw [call_run ho hp,Oper.upon_enter]
 have:=hS.2 i s hps w D.R _ outs (args.toList.map a.eval) _ [] hG h.rlt h.gl hv1 hv (.inl rfl) ⟨by simp [Value.ownBlock],.inr ⟨[],rfl,by simp,.inl ⟨rfl,rfl⟩⟩⟩ hT'
 have e:(⟨args.toList.map a.eval⟩:Array Value)=args.map a.eval:=by apply Array.ext';simp
 rw [e] at this
 refine this.mono ?_
 rintro e w' ⟨x,R',rvs,rfl,h1,h2,h3,h4,h5,h6,h7⟩
 simp only
 rw [hd]
 have hpure:=h.callPure (w':=w') (R':=R') (by
  have:(fun c=>(Value.slice none 0 0).ownBlock=some c)=fun _=>False:=by funext c;simp [Value.ownBlock]
  rwa [this] at h1) h2
 exact hK _ _ _ (Sim.putRes hpure hl (h3.trans hn) (by rw [←hn];exact h4) h5 hol)
theorem op_pnl (hd:o.dst=some d) (hl:d<C.nt) {x:Operand} {r:Opd} {t e y:TypeId} {k s s0:Nat} {es:List AV} (ho:o.op = .binOp .eql t x (.const (.slice none 0 0)) y) (ht:C.P.underlying t=some (.slice e)) (hx:opdOK x r=true) (hs1:small C.nt [x]=true)
  (hr:r.ev C.E σ = .pt) (hg:r.gh γ = .tip k s0) {s1:Nat} (hk:γ (lk k) = .pv s) (hσ:σ (lk k) = .sl s1 es) (hK:∀D' a' w',Sim C D' (upd σ d (match es with | [] => .ab | _ :: _ => .v (.bool false))) (upd γ d .no) a' w'→K a' w'):o.wp C.P a w K Q:=by
 have e0:=h.opd hx hs1
 have hv:=e0.gh (by rw [hr];simp) (by rw [hr];simp)
 rw [hg] at hv
 obtain ⟨_,_,hp2⟩:=h.pvAt hk
 rw [hσ] at hp2
 obtain ⟨es',he,_,hp⟩:=hp2.resolve_left (by simp)
 cases he
 have hc:a.eval (.const (.slice none 0 0)) = .slice none 0 0:=rfl
 rcases hp with ⟨rfl,e1⟩ | ⟨g,cap,cur,ce,fz,e1,_⟩
 ·have hval:a.eval x = .slice none 0 0:=hv.1.trans e1
  have hrun:(execOp a.eval o).run C.P w = .ok (.value (.bool true)) w:=by
   simp only [execOp,ho,hval,hc,eqGuard,Sem.run_bind,Sem.run_pure,Sem.run_ite,Result.andThen_ok]
   simp only [Bool.not_true,Bool.false_eq_true,if_false,Sem.run_pure,Result.andThen_ok]
   rw [Lib.run_eql_slice_nil w t e _ _ _ _ _ ht]
   rfl
  exact h.valNo hd hl hrun (.ab _) hK
 ·have hval:a.eval x = .slice (some ⟨g,0,none⟩) es.length cap:=hv.1.trans e1
  have hrun:(execOp a.eval o).run C.P w = .ok (.value (.bool false)) w:=by
   simp only [execOp,ho,hval,hc,eqGuard,Sem.run_bind,Sem.run_pure,Sem.run_ite,Result.andThen_ok]
   simp only [Bool.not_true,Bool.false_eq_true,if_false,Sem.run_pure,Result.andThen_ok]
   rw [Lib.run_eql_slice_nil w t e _ _ _ _ _ ht]
   rfl
  cases es with
  | nil=>exact h.valNo hd hl hrun (.ab _) hK
  | cons _ _=>exact h.valNo hd hl hrun (.v _) hK
theorem op_la (hd:o.dst=some d) (hl:d<C.nt) {x y:Operand} {r q:Opd} {t e:TypeId} {inf:TypeInfo} {m n s:Nat} {ts:List (Nat × (Nat × Nat))} {ik:IntKind} {i:Int} (ho:o.op = .indexAddr t x y) (ht:C.P.underlying t=some (.array n e)) (hi:C.P.info? e=some inf) (hz:inf.size=s)
  (hx:opdOK x r=true) (hy:opdOK y q=true) (hs1:small C.nt [x]=true) (hs2:small C.nt [y]=true)
  (hr:r.ev C.E σ = .pt) (hg:r.gh γ = .ptr m 0) (hm:γ m = .cl ts) (hq:q.ev C.E σ = .v (.int ik i)) (h0:0≤i) (hlt:i<n)
  (hK:∀D' a' w',Sim C D' (upd σ d (.el i.toNat s 0)) (upd γ d (.pm m)) a' w'→K a' w'):o.wp C.P a w K Q:=by
 have e0:=h.opd hx hs1
 have hv:=e0.gh (by rw [hr];simp) (by rw [hr];simp)
 rw [hg] at hv
 simp only [GhOK] at hv
 have e2:=(h.opd hy hs2).rep (by rw [hq];simp)
 rw [hq] at e2
 have hrun:(execOp a.eval o).run C.P w = .ok (.value (.pointer (some ⟨D.β m,i.toNat * s,none⟩))) w:=by
  simp [execOp,ho,hv,e2.v_inv,Instr.indexAt,Instr.sureAddr,asIntOf,run_underlying ht,run_sizeOf hi,hz,h0,hlt,addr_add]
 refine h.val (g := .pm m) hd hl hrun (.inr ⟨.el _ _ 0 _,fun _=>⟨_,rfl⟩⟩) rfl rfl ?_ hK
 show (γ m).isCl=true
 rw [hm];rfl
theorem op_ll (hd:o.dst=some d) (hl:d<C.nt) {x:Operand} {r:Opd} {t:TypeId} {inf:TypeInfo} {m i s o':Nat} {cs:List AV} {ts:List (Nat × (Nat × Nat))} {y:AV} (ho:o.op = .load t x) (hi:C.P.info? t=some inf) (hz:inf.size=1) (ha:isAggT C.P t=some false)
  (hx:opdOK x r=true) (hs1:small C.nt [x]=true) (hr:r.ev C.E σ = .el i s o') (hg:r.gh γ = .pm m) (hm:γ m = .cl ts) (hσ:σ m = .ag cs) (hp:partAV cs (i * s+o') 1 false=some y)
  (hK:∀D' a' w',Sim C D' (upd σ d y) (upd γ d .no) a' w'→K a' w'):o.wp C.P a w K Q:=by
 have e0:=h.opd hx hs1
 have e1:=e0.rep (by rw [hr];simp)
 have hv:=e0.gh (by rw [hr];simp) (by rw [hr];simp)
 rw [hr] at e1
 rw [hg] at hv
 obtain ⟨b,hb⟩:=Rep.el_inv e1
 obtain ⟨q,hq⟩:=hv
 rw [hb] at hq
 cases hq
 obtain ⟨ws,hVA,_⟩:=h.mem m ts hm
 rw [hσ] at hVA
 obtain ⟨elem,hh,hL⟩:=hVA.ag
 obtain ⟨hlen,hrep⟩:=part_rep hL hp (.inr rfl)
 have hc:∀j y,(((ws.take cs.length).drop (i * s+o')).take 1)[j]?=some y→w.cell? ⟨D.β m,i * s+o'+j,none⟩=some y:=by
  intro j y hj
  simp only [World.cell?,hh]
  rw [List.getElem?_take] at hj
  split at hj
  ·rw [List.getElem?_drop,List.getElem?_take] at hj
   split at hj
   ·simpa using hj
   ·cases hj
  ·cases hj
 have hrun:=run_loadVar (P:=C.P) hi ha (.inr hz) (hlen.trans hz.symm) hc
 refine h.valNo hd hl (?_:(execOp a.eval o).run C.P w = .ok (.value _) w) hrep hK
 simp only [execOp,ho,hb,Instr.loadAt,Instr.sureAddr,Sem.run_bind,Sem.run_pure,Result.andThen_ok,hrun]
end
end Go.Eng
namespace Go.Eng
open Go.RowKit
section
variable {P:Program} {w:World}
theorem run_append_priv {R:Reach} {t u ty e:TypeId} {i:TypeInfo} {z:Value} {du:TypeDesc} (ht:P.underlying t=some (.slice e)) (hi:P.info? e=some i) (hz:i.zero=some z) (hzs:z.cells.size=i.size) (hu:P.underlying u=some du) (hdu:∀k,du ≠ .int k)
  {x0 x:Value} {es fs:List AV} {news:List Value} (hT:TipOK R w x0 i.size) (hP:PrivOK R w x0 i.size (.sl i.size es)) (hlt:∀b o,R b o→b<w.heap.size)
  (hx:Source P w i.size x fs.length news) (hL:RepL R w (fs.flatMap AV.cells) news) (hfs:∀e∈fs,e.cells.length=i.size) (h63:es.length+fs.length≤maxLen) (hb:(es.length+fs.length) * i.bytes≤140737488355328) :
  ∃v w',(Builtin.append_ #[t,u] ty #[x0,x]).run P w = .ok v w'∧w'.os=w.os∧w'.tape=w.tape∧w'.output=w.output∧w.heap.size≤w'.heap.size ∧
   (∀b,b<w.heap.size→x0.ownBlock≠some b→w'.heap[b]?=w.heap[b]?)∧TipOK R w' x0 i.size∧PrivOK R w' x0 i.size (.sl i.size es) ∧
   TipOK R w' v i.size∧PrivOK R w' v i.size (.sl i.size (es++fs))∧(∀g,v.ownBlock=some g→x0.ownBlock=some g∨w.heap.size≤g):=by
 have hnews:=hx.2.2.1
 obtain ⟨hP1,hP2⟩:=hP
 obtain ⟨es',he',hes,hP3⟩:=hP2.resolve_left (by simp)
 cases he'
 have hesfs:∀e∈es++fs,e.cells.length=i.size:=fun e he=>by
  rcases List.mem_append.1 he with he | he
  ·exact hes e he
  ·exact hfs e he
 -- the row grows
 have grow:∀(q:Option Addr) (cap:Nat) (olds:List Value),x0 = .slice q es.length cap→cap<es.length+fs.length→(∀w':World,w'.heap=w.heap→(Builtin.firstCells i.size es.length (.slice q es.length cap)).run P w' = .ok ⟨olds⟩ w') →
   RepL R w (es.flatMap AV.cells) olds→olds.length=es.length * i.size →
   ∃v w',(Builtin.append_ #[t,u] ty #[x0,x]).run P w = .ok v w'∧w'.os=w.os∧w'.tape=w.tape∧w'.output=w.output∧w.heap.size≤w'.heap.size ∧
   (∀b,b<w.heap.size→x0.ownBlock≠some b→w'.heap[b]?=w.heap[b]?)∧TipOK R w' x0 i.size∧PrivOK R w' x0 i.size (.sl i.size es) ∧
   TipOK R w' v i.size∧PrivOK R w' v i.size (.sl i.size (es++fs))∧(∀g,v.ownBlock=some g→x0.ownBlock=some g∨w.heap.size≤g):=by
  intro q cap olds hx0 hltc ho hLo hlo
  have hrun:=run_append_grow' (ty:=ty) ht hi hz hu hdu ho hx hltc h63 hb
  have hge:=grownCap_ge w (es.length+fs.length) cap e
  have hle:=grownCap_le_maxLen w (es.length+fs.length) cap e h63
  let row:Array Value:=(⟨olds⟩:Array Value)++⟨news⟩++Builtin.zeroCells z.cells (grownCap w (es.length+fs.length) cap e - (es.length+fs.length))
  let w1:World:=w.drew.alloc (.cells row e)
  have hnew:w1.heap[w.heap.size]?=some (.cells row e (0,0)):=by
   show (w.heap.push _)[w.heap.size]?=_
   simp
  have hold:∀c,c<w.heap.size→w1.heap[c]?=w.heap[c]?:=fun c hc=>by
   show (w.heap.push _)[c]?=_
   rw [Array.getElem?_push,if_neg (by omega)]
  have hrs:row.size=grownCap w (es.length+fs.length) cap e * i.size:=by
   simp only [row,Array.size_append,List.size_toArray,size_zeroCells,hzs,hlo,hnews,←Nat.add_mul]
   congr 1;omega
  have hnR:∀q,¬R w.heap.size q:=fun q hr=>by have:=hlt _ q hr;omega
  have keep:Keeps R w R w1:=fun b o hr=>⟨hr,World.cell?_of_block (w:=w) (hold b (hlt b o hr))⟩
  have htk:row.toList.take ((es++fs).length * i.size)=olds++news:=by
   have:(es++fs).length * i.size=(olds++news).length:=by rw [List.length_append,List.length_append,Nat.add_mul,hlo,hnews]
   rw [this]
   have hrow:row.toList=(olds++news)++(Builtin.zeroCells z.cells (grownCap w (es.length+fs.length) cap e - (es.length+fs.length))).toList:=by simp [row]
   rw [hrow,List.take_left]
  refine ⟨_,w1,by rw [hx0];exact hrun,rfl,rfl,rfl,by show _≤(w.heap.push _).size;simp,fun b hb' _=>hold b hb',hT.keep fun g hg=>⟨hold g (hT.lt hg),fun _ hr=>hr⟩,
   PrivOK.keep ⟨hP1,hP2⟩ keep fun g hg=>⟨hold g (hT.lt hg),fun _ hr=>hr⟩,.inr ⟨_,_,_,_,_,_,rfl,hnew,by simp,hrs,hge,hle,fun q _=>hnR q⟩,
   ⟨fun g hg q=>?_,.inr ⟨_,rfl,hesfs,.inr ⟨w.heap.size,grownCap w (es.length+fs.length) cap e,row,e,(0,0),by rw [List.length_append],hnew,?_⟩⟩⟩,fun g hg=>?_⟩
  ·simp [Value.ownBlock] at hg;subst hg;exact hnR q
  ·rw [htk,List.flatMap_append]
   exact (hLo.append hL).mono keep
  ·simp [Value.ownBlock] at hg
   exact .inr (by omega)
 rcases hP3 with ⟨rfl,e0⟩ | ⟨g,cap,cur,ce,fz,e0,hg,hLo⟩
 ·by_cases hm:fs.length=0
  ·have hfs0:fs=[]:=List.eq_nil_of_length_eq_zero hm
   subst hfs0
   refine ⟨.slice none 0 0,w,?_,rfl,rfl,rfl,Nat.le_refl _,fun _ _ _=>rfl,hT,⟨hP1,hP2⟩,.inl rfl,⟨by simp [Value.ownBlock],.inr ⟨[],rfl,by simp,.inl ⟨rfl,rfl⟩⟩⟩,by simp [Value.ownBlock]⟩
   obtain ⟨h1,h2,h3,h4⟩:=hx
   have hdz:(match du with | .int _=>true | _=>false)=false:=by cases du <;> first | rfl | exact (hdu _ rfl).elim
   have h2':=h2 w rfl
   simp only [List.length_nil] at h1 h2'
   rw [e0]
   simp [Builtin.append_,run_underlying ht,run_underlying hu,hdz,sizeOf,typeInfo,hi,h1,h2']
  ·exact grow none 0 [] e0 (by simp;omega) (fun _ _=>rfl) .nil (by simp)
 ·rcases hT with e1 | ⟨g1,n1,cap1,cur1,ce1,fz1,e1,hg1,hfz,hcs,hnc,hcm,hnR⟩
  ·rw [e0] at e1;cases e1
  rw [e0] at e1
  cases e1
  rw [hg] at hg1
  cases hg1
  have hob:x0.ownBlock=some g:=by rw [e0];rfl
  have hcl:es.length * i.size≤cap * i.size:=Nat.mul_le_mul_right _ hnc
  have hlo:(cur.toList.take (es.length * i.size)).length=es.length * i.size:=by simp;omega
  by_cases hroom:es.length+fs.length≤cap
  ·have hrun:=run_append_room' (ty:=ty) ht hi hu hdu hg hfz hx hroom hcs
   have hle:(es.length+fs.length) * i.size≤cap * i.size:=Nat.mul_le_mul_right _ hroom
   rw [Nat.add_mul] at hle
   let new:Array Value:=(cur.toList.take (es.length * i.size)++news++cur.toList.drop (es.length * i.size+news.length)).toArray
   let w1:World:=w.setRow g new
   have hh':w1.heap[g]?=some (.cells new ce fz):=setRow_heap w g cur new ce fz hg
   have hold:∀b,b≠g→w1.heap[b]?=w.heap[b]?:=fun b hb=>setRow_other w g b _ hb
   have hns:new.size=cur.size:=by simp [new];omega
   have keep:Keeps R w R w1:=fun b o hr=>⟨hr,World.cell?_of_block (w:=w) (hold b (fun e=>hP1 g hob o (e ▸ hr)))⟩
   have ht1:new.toList.take (es.length * i.size)=cur.toList.take (es.length * i.size):=by
    show (cur.toList.take (es.length * i.size)++news++_).take (es.length * i.size)=_
    rw [List.append_assoc,List.take_append_of_le_length (by omega),List.take_take,Nat.min_self]
   have ht2:new.toList.take ((es++fs).length * i.size)=cur.toList.take (es.length * i.size)++news:=by
    have:(es++fs).length * i.size=(cur.toList.take (es.length * i.size)++news).length:=by rw [List.length_append,List.length_append,Nat.add_mul,hlo,hnews]
    show (cur.toList.take (es.length * i.size)++news++_).take _=_
    rw [this,List.take_left]
   refine ⟨_,w1,by rw [e0];exact hrun,rfl,rfl,rfl,by simp [w1],fun b hb' hne=>hold b (fun e=>hne (by rw [hob,e])),.inr ⟨g,_,_,new,ce,fz,e0,hh',fun o ho=>hfz o (by omega),hns.trans hcs,hnc,hcm,fun o _=>hP1 g hob o⟩,
    ⟨hP1,.inr ⟨es,rfl,hes,.inr ⟨g,cap,new,ce,fz,e0,hh',by rw [ht1];exact hLo.mono keep⟩⟩⟩,.inr ⟨g,_,_,new,ce,fz,rfl,hh',fun o ho=>hfz o (by omega),hns.trans hcs,hroom,hcm,fun o _=>hP1 g hob o⟩,
    ⟨fun g' hg' o=>by simp [Value.ownBlock] at hg';subst hg';exact hP1 _ hob o,.inr ⟨_,rfl,hesfs,.inr ⟨g,cap,new,ce,fz,by rw [List.length_append],hh',?_⟩⟩⟩,fun g' hg'=>?_⟩
   ·rw [ht2,List.flatMap_append]
    exact (hLo.append hL).mono keep
   ·simp [Value.ownBlock] at hg'
    subst hg'
    exact .inl hob
  ·exact grow (some ⟨g,0,none⟩) cap (cur.toList.take (es.length * i.size)) e0 (by omega) (fun w' hw=>run_firstCells_some (P:=P) w' i.size es.length ⟨g,0,none⟩ es.length cap _ hlo (fun j v hj=>by
    rw [addr_add,World.cell?_of_block (w:=w) (by rw [hw])]
    rw [List.getElem?_take] at hj
    split at hj
    ·simp only [World.cell?,hg,Nat.zero_add];simpa using hj
    ·cases hj)) hLo hlo
end
section
variable {C:Ctx} {D:Dyn} {σ:Sg} {γ:Ga} {a:Act} {w:World}
theorem Sim.growP (h:Sim C D σ γ a w) {k j s:Nat} (hk:γ (lk k) = .pv s) (hj:γ (lk j) = .no) {w':World} (os:w'.os=w.os) (tape:w'.tape=w.tape) (out:w'.output=w.output) (size:w.heap.size≤w'.heap.size)
  (hh:∀b,b<w.heap.size→(D.τ (lk k)).ownBlock≠some b→w'.heap[b]?=w.heap[b]?) {v:Value} {es more:List AV} (hσ:σ (lk k) = .sl s es)
  (pt:TipOK D.R w' (D.τ (lk k)) s) (pp:PrivOK D.R w' (D.τ (lk k)) s (.sl s es)) (ct:TipOK D.R w' v s) (cp:PrivOK D.R w' v s (.sl s (es++more))) (hv:∀g,v.ownBlock=some g→(D.τ (lk k)).ownBlock=some g∨w.heap.size≤g) :
  Sim C { D with τ:=upd D.τ (lk j) v } (updL σ [lk k,lk j] [.sl s es,.sl s (es++more)]) (updL γ [lk k,lk j] [.sus (lk j) s,.pc s]) a w':=by
 have hne:lk k≠lk j:=fun e=>by rw [e,hj] at hk;cases hk
 have hbk:blk D γ (lk k)=(D.τ (lk k)).ownBlock:=blk_isP (by rw [hk];rfl)
 have hpr:=(h.pvAt hk).2.1
 have keep:Keeps D.R w D.R w':=fun b o hr=>⟨hr,World.cell?_of_block (w:=w) (hh b (h.rlt b o hr) (fun e=>hpr b e o hr))⟩
 have eσ:updL σ [lk k,lk j] [.sl s es,.sl s (es++more)]=upd (upd σ (lk j) (.sl s (es++more))) (lk k) (.sl s es):=rfl
 have eγ:updL γ [lk k,lk j] [Gh.sus (lk j) s,.pc s]=upd (upd γ (lk j) (.pc s)) (lk k) (.sus (lk j) s):=rfl
 rw [eσ,eγ]
 generalize hγ':upd (upd γ (lk j) (.pc s)) (lk k) (.sus (lk j) s)=γ'
 generalize hσ':upd (upd σ (lk j) (.sl s (es++more))) (lk k) (.sl s es)=σ'
 have g1:γ' (lk k) = .sus (lk j) s:=by rw [←hγ',upd_same]
 have g2:γ' (lk j) = .pc s:=by rw [←hγ',upd_ne _ _ hne.symm,upd_same]
 have g3:∀x,x≠lk k→x≠lk j→γ' x=γ x:=fun x h1 h2=>by rw [←hγ',upd_ne _ _ h1,upd_ne _ _ h2]
 have s1:σ' (lk k) = .sl s es:=by rw [←hσ',upd_same]
 have s2:σ' (lk j) = .sl s (es++more):=by rw [←hσ',upd_ne _ _ hne.symm,upd_same]
 have s3:∀x,x≠lk k→x≠lk j→σ' x=σ x:=fun x h1 h2=>by rw [←hσ',upd_ne _ _ h1,upd_ne _ _ h2]
 have hcl:∀m,(γ' m).isCl=(γ m).isCl:=fun m=>by
  by_cases e1:m=lk k
  ·subst e1;rw [g1,hk];rfl
  ·by_cases e2:m=lk j
   ·subst e2;rw [g2,hj];rfl
   ·rw [g3 m e1 e2]
 have hlk:∀m,(γ m).isLk=true→(γ' m).isLk=true:=fun m hm=>by
  by_cases e1:m=lk k
  ·subst e1;rw [g1];rfl
  ·by_cases e2:m=lk j
   ·subst e2;rw [g2];rfl
   ·rw [g3 m e1 e2];exact hm
 have hlj:∀m,(γ m).isLk=true→m≠lk j:=fun m hm e=>by subst e;rw [hj] at hm;cases hm
 have hτ:∀m,(γ m).isLk=true→upd D.τ (lk j) v m=D.τ m:=fun m hm=>upd_ne _ _ (hlj m hm)
 have hM:∀g,Ment γ g→Ment γ' g:=fun g hg=>by
  cases g with
  | ptr m o=>simp only [Ment,hcl] at hg ⊢;exact hg
  | pm m=>simp only [Ment,hcl] at hg ⊢;exact hg
  | tip q s'=>exact hlk _ hg
  | pe q=>exact hlk _ hg
  | cl ts=>exact fun t ht=>hlk _ (hg t ht)
  | tup ts p=>exact ⟨fun t ht=>hlk _ (hg.1 t ht),fun q hq=>by rw [hcl];exact hg.2 q hq⟩
  | sus q s' =>
   have h1:q≠lk k:=fun e=>by subst e;rcases hg with e | ⟨_,e⟩ <;> rw [hk] at e <;> cases e
   have h2:q≠lk j:=fun e=>by subst e;rcases hg with e | ⟨_,e⟩ <;> rw [hj] at e <;> cases e
   simp only [Ment,g3 q h1 h2];exact hg
  | _=>trivial
 have hnt:∀t q,t<C.nt→t≠lk q:=fun t q ht e=>by have:=lk_ge q;have:=h.ntlt;omega
 -- other owners' blocks
 have hoth:∀key g,key≠lk k→blk D γ key=some g→w'.heap[g]?=w.heap[g]?:=fun key g hn hb=>hh g (h.lt hb) (fun e=>hn (h.pvSep hk (hbk.trans e) hb))
 have hb':∀key,blk { D with τ:=upd D.τ (lk j) v } γ' key=if key=lk j then v.ownBlock else blk D γ key:=fun key=>by
  by_cases e2:key=lk j
  ·subst e2;rw [if_pos rfl,blk_isP (by rw [g2];rfl)];simp only [upd_same]
  ·rw [if_neg e2]
   by_cases e1:key=lk k
   ·subst e1;rw [blk_isP (by rw [g1];rfl),blk_isP (by rw [hk];rfl)];simp only [upd_ne _ _ e2]
   ·unfold blk
    rw [g3 key e1 e2]
    simp only [upd_ne _ _ e2]
 have hblt:∀key g,key≠lk j→blk D γ key=some g→v.ownBlock=some g→key=lk k:=fun key g _ hb hg=>by
  rcases hv g hg with e | e
  ·exact h.pvSep hk (hbk.trans e) hb
  ·have:=h.lt hb;omega
 have hpar:∀key,key≠lk k→key≠lk j→(γ' key).par=(γ key).par:=fun key h1 h2=>by rw [g3 key h1 h2]
 refine ⟨h.size,h.defers,h.ntlt,fun m hm=>h.rng m (by rwa [hcl] at hm),fun m hm=>?_,fun t ht=>?_,fun m ts hm=>?_,fun key s' hs=>?_,fun key s' hs=>?_,fun p q g hp hq=>?_,fun p g hp=>?_,fun key=>?_,?_,fun b o hr=>Nat.lt_of_lt_of_le (h.rlt b o hr) size,fun n=>(h.gl n).mono keep,h.fix.of rfl (fun hp=>?_)⟩
 ·by_cases e1:m=lk k
  ·subst e1;exact lk_ge _
  ·by_cases e2:m=lk j
   ·subst e2;exact lk_ge _
   ·rw [g3 m e1 e2] at hm;exact h.lrng m hm
 ·rw [s3 t (hnt t k ht) (hnt t j ht),g3 t (hnt t k ht) (hnt t j ht)]
  exact (h.slot t ht).imp id fun ⟨r,g⟩=>⟨r.mono keep,fun hs=>GhOK.congr (D:=D) (h.inv t) (fun _ _=>rfl) (fun q hq=>hτ _ hq) (g hs)⟩
 ·have e1:m≠lk k:=fun e=>by subst e;rw [g1] at hm;cases hm
  have e2:m≠lk j:=fun e=>by subst e;rw [g2] at hm;cases hm
  rw [g3 m e1 e2] at hm
  rw [s3 m e1 e2]
  obtain ⟨cs,hV,hts⟩:=h.mem m ts hm
  have hi:=h.inv m
  rw [hm] at hi
  exact ⟨cs,hV.keep keep (hoth m _ e1 (blk_cl hm)) hV.noR,fun t ht=>by show cs[t.1]?=some (upd D.τ (lk j) v (lk t.2.1));rw [hτ _ (hi t ht)];exact hts t ht⟩
 ·have e1:key≠lk k:=fun e=>by subst e;rw [g1] at hs;cases hs
  have e2:key≠lk j:=fun e=>by subst e;rw [g2] at hs;cases hs
  rw [g3 key e1 e2] at hs
  simp only [upd_ne _ _ e2]
  exact (h.tip key s' hs).keep fun g hg=>⟨hoth key g e1 ((blk_live hs).trans hg),fun _ hr=>hr⟩
 ·have hpre:key≠lk k→PreAt σ' γ' key:=fun e1 d s3' s4 f1 f2=>by
   have e2:key≠lk j:=fun e=>by subst e;rw [g2] at f1;cases f1
   rw [g3 key e1 e2] at f1
   have hi:=h.inv key
   rw [f1] at hi
   have d1:d≠lk k:=fun e=>by subst e;rw [g1] at f2;cases f2
   have d2:d≠lk j:=fun e=>by subst e;rcases hi with e | ⟨_,e⟩ <;> rw [hj] at e <;> cases e
   rw [g3 d d1 d2] at f2
   rw [s3 key e1 e2,s3 d d1 d2]
   exact (h.ps key s3' (by rw [f1];rfl)).2.2 d s3' s4 f1 f2
  by_cases e1:key=lk k
  ·subst e1
   rw [g1] at hs
   cases hs
   rw [s1]
   simp only [upd_ne _ _ hne]
   exact ⟨pt,pp,fun d s3' s4 f1 f2=>by rw [g1] at f1;cases f1;exact .inr (.inr ⟨es,more,s1,s2⟩)⟩
  ·by_cases e2:key=lk j
   ·subst e2
    rw [g2] at hs
    cases hs
    rw [s2]
    simp only [upd_same]
    exact ⟨ct,cp,hpre e1⟩
   ·have hs0:=hs
    rw [g3 key e1 e2] at hs0
    rw [s3 key e1 e2]
    simp only [upd_ne _ _ e2]
    obtain ⟨q1,q2,_⟩:=h.ps key s' hs0
    have hb:=fun g hg=>hoth key g e1 ((blk_isP (Gh.psz_isP hs0)).trans hg)
    exact ⟨q1.keep fun g hg=>⟨hb g hg,fun _ hr=>hr⟩,q2.keep keep fun g hg=>⟨hb g hg,fun _ hr=>hr⟩,hpre e1⟩
 ·rw [hb'] at hp hq
  by_cases p2:p=lk j
  ·by_cases q2:q=lk j
   ·exact .inl (p2.trans q2.symm)
   ·rw [if_pos p2] at hp
    rw [if_neg q2] at hq
    have:=hblt q g q2 hq hp
    subst this
    right;right
    rw [g1,p2];rfl
  ·rw [if_neg p2] at hp
   by_cases q2:q=lk j
   ·rw [if_pos q2] at hq
    have:=hblt p g p2 hp hq
    subst this
    right;left
    rw [g1,q2];rfl
   ·rw [if_neg q2] at hq
    rcases h.sep p q g hp hq with e | e | e
    ·exact .inl e
    ·have p1:p≠lk k:=fun e'=>by subst e';rw [hk] at e;cases e
     right;left;rw [hpar p p1 p2];exact e
    ·have q1:q≠lk k:=fun e'=>by subst e';rw [hk] at e;cases e
     right;right;rw [hpar q q1 q2];exact e
 ·rw [hb'] at hp
  by_cases p2:p=lk j
  ·rw [if_pos p2] at hp
   rcases hv g hp with e | e
   ·exact h.own (lk k) g (hbk.trans e)
   ·exact .inr (Nat.le_trans h.ext.size e)
  ·rw [if_neg p2] at hp;exact h.own p g hp
 ·by_cases e1:key=lk k
  ·subst e1;rw [g1];exact .inr ⟨s,g2⟩
  ·by_cases e2:key=lk j
   ·subst e2;rw [g2];trivial
   ·rw [g3 key e1 e2];exact hM _ (h.inv key)
 ·refine ⟨os.trans h.ext.os,tape.trans h.ext.tape,out.trans h.ext.output,Nat.le_trans h.ext.size size,fun b hb hn=>?_,h.ext.keep.trans keep,h.ext.rnew⟩
  refine (hh b (Nat.lt_of_lt_of_le hb h.ext.size) fun e=>?_).trans (h.ext.heap b hb hn)
  rcases h.own (lk k) b (hbk.trans e) with e | e
  ·exact hn e
  ·omega
 ·have e2:lk 999999≠lk j:=fun e=>by rw [e,hj] at hp;cases hp
  refine ⟨?_,upd_ne _ _ e2⟩
  by_cases e1:lk 999999=lk k
  ·rw [e1,g1];rfl
  ·rw [g3 _ e1 e2];exact hp
variable {o:Oper} {d:Nat} {K:Act→World→Prop} {Q:Exit→Act→World→Prop} (h:Sim C D σ γ a w)
include h
theorem op_ppa (hd:o.dst=some d) (hl:d<C.nt) {x y:Operand} {r q:Opd} {t u e:TypeId} {i:TypeInfo} {z:Value} {du:TypeDesc} {k j s:Nat} {es fs:List AV} (ho:o.op = .call { callee := .builtin .append,args:=#[x,y],argTypes:=#[t,u] })
  (ht:C.P.underlying t=some (.slice e)) (hi:C.P.info? e=some i) (hz:i.zero=some z) (hzs:z.cells.size=i.size) (hu:C.P.underlying u=some du) (hdu:∀k,du ≠ .int k) (hs:i.size=s)
  (hx:opdOK x r=true) (hs1:small C.nt [x]=true) (hy:opdOK y q=true) (hs2:small C.nt [y]=true) (hr:r.ev C.E σ = .pt) (hg:r.gh γ = .tip k s) (hk:γ (lk k) = .pv s) (hσ:σ (lk k) = .sl s es) (hj:γ (lk j) = .no)
  (hq:q.ev C.E σ = .sl s fs) (h63:es.length+fs.length≤maxLen) (hb:(es.length+fs.length) * i.bytes≤140737488355328)
  (hK:∀D' a' w',Sim C D' (updL σ [d,lk k,lk j] [.pt,.sl s es,.sl s (es++fs)]) (updL γ [d,lk k,lk j] [.tip j s,.sus (lk j) s,.pc s]) a' w'→K a' w'):o.wp C.P a w K Q:=by
 subst hs
 have e0:=h.opd hx hs1
 have hv:=e0.gh (by rw [hr];simp) (by rw [hr];simp)
 rw [hg] at hv
 have e2:=(h.opd hy hs2).rep (by rw [hq];simp)
 rw [hq] at e2
 obtain ⟨hT,hP⟩:=h.pvAt hk
 rw [hσ] at hP
 obtain ⟨news,hsrc,hL,hfs⟩:=Source.of_sl (P:=C.P) e2
 obtain ⟨v,w',hrun,os,tape,out,size,hh,pt,pp,ct,cp,hvb⟩:=run_append_priv (ty:=o.type) ht hi hz hzs hu hdu hT hP h.rlt hsrc hL hfs h63 hb
 have hS:=h.growP hk hj os tape out size hh hσ pt pp ct cp hvb
 unfold Oper.wp
 rw [show (execOp a.eval o).run C.P w = .ok (.value v) w' by simp [execOp,ho,resolve,invoke,builtin,hv.1,hrun],Oper.upon_value,hd]
 have hj':(updL γ [lk k,lk j] [Gh.sus (lk j) i.size,.pc i.size]) (lk j) = .pc i.size:=by
  have hne:lk k≠lk j:=fun e=>by rw [e,hj] at hk;cases hk
  simp only [updL]
  rw [upd_ne _ _ hne.symm,upd_same]
 refine hK _ _ _ (hS.put (g := .tip j i.size) hl (.inr ⟨.pt _,fun _=>?_⟩) rfl rfl ?_)
 ·show v=upd D.τ (lk j) v (lk j)∧v.oneCell'=true
  rw [upd_same]
  exact ⟨rfl,by rcases ct with rfl | ⟨_,_,_,_,_,_,rfl,_⟩ <;> rfl⟩
 ·show ((updL γ [lk k,lk j] [Gh.sus (lk j) i.size,.pc i.size]) (lk j)).isLk=true
  rw [hj'];rfl
theorem Sim.privSource {x:Operand} {r:Opd} {k s s0:Nat} {fs:List AV} (hx:opdOK x r=true) (hs1:small C.nt [x]=true) (hr:r.ev C.E σ = .pt) (hg:r.gh γ = .tip k s0) (hk:γ (lk k) = .pv s) (hσ:σ (lk k) = .sl s fs) :
  ∃news,Source C.P w s (a.eval x) fs.length news∧RepL D.R w (fs.flatMap AV.cells) news∧∀e∈fs,e.cells.length=s:=by
 have e0:=h.opd hx hs1
 have hv:=e0.gh (by rw [hr];simp) (by rw [hr];simp)
 rw [hg] at hv
 obtain ⟨hT,hP1,hP2⟩:=h.pvAt hk
 rw [hσ] at hP2
 obtain ⟨es,he,hes,hP⟩:=hP2.resolve_left (by simp)
 cases he
 rcases hP with ⟨rfl,e1⟩ | ⟨g,cap,cur,ce,fz,e1,hg1,hL⟩
 ·refine ⟨[],⟨fun _=>?_,fun _ _=>?_,by simp,by simp⟩,.nil,by simp⟩
  ·rw [hv.1,e1];rfl
  ·rw [hv.1,e1];rfl
 ·have hcap:fs.length≤cap∧cur.size=cap * s:=by
   rcases hT with e2 | ⟨g',n,cap',cur',e',fz',e2,h1,h2,h3,h4,h5,h6⟩
   ·rw [e1] at e2;cases e2
   ·rw [e1] at e2;cases e2
    rw [hg1] at h1;cases h1
    exact ⟨h4,h3⟩
  have hle:fs.length * s≤cap * s:=Nat.mul_le_mul_right _ hcap.1
  have hlo:(cur.toList.take (fs.length * s)).length=fs.length * s:=by simp;omega
  refine ⟨_,⟨fun _=>?_,fun w' hw=>?_,hlo,hL.one⟩,hL,hes⟩
  ·rw [hv.1,e1];rfl
  ·rw [hv.1,e1]
   exact run_firstCells_some (P:=C.P) w' s fs.length ⟨g,0,none⟩ fs.length cap _ hlo (fun j v hj=>by
    rw [addr_add,World.cell?_of_block (w:=w) (by rw [hw])]
    rw [List.getElem?_take] at hj
    split at hj
    ·simp only [World.cell?,hg1,Nat.zero_add];simpa using hj
    ·cases hj)
end
end Go.Eng
namespace Go.Eng
open Go.RowKit
section
variable {C:Ctx} {sg:Nat→FSig}
theorem k_ppa {k d' s b:Nat}:KindOK C sg (.ppa k d' s b):=by
 intro D σ γ a w dst op ty pos after guard rs ds gd ws gs K' Q h ho hk hsm hs hg hK
 simp only [keysOK,Bool.and_eq_true,beq_iff_eq,List.map_cons,List.map_nil] at hk
 obtain ⟨⟨hk0,hk1⟩,hk2⟩:=hk
 obtain ⟨d,rfl,hl,rfl⟩:=dOK0 hk2
 simp only [opOK] at ho
 split at ho
 ·rename_i args ats r q r3 r4
  simp only [Bool.and_eq_true,beq_iff_eq] at ho
  obtain ⟨⟨ho,h1⟩,h2⟩:=ho
  obtain ⟨t,u,e,i,z,du,rfl,q1,q2,q3,q4,q5,q6,q7,q8⟩:=apTypes h1 h2
  have ht:=tail2 hk1
  simp only [List.drop_succ_cons,List.drop_zero,List.cons.injEq,and_true] at ht
  obtain ⟨rfl,rfl⟩:=ht
  obtain ⟨x,y,hx0⟩:=len2 (l:=args.toList) (by rw [opdsOK_len ho];rfl)
  rw [hx0] at ho
  obtain ⟨r',q',hrq,hx,hy⟩:=opds2 ho
  simp only [List.cons.injEq,and_true] at hrq
  obtain ⟨rfl,rfl⟩:=hrq
  have ea:=arr2 hx0
  subst ea
  simp only [List.map_cons,List.map_nil,sem] at hs
  split at hs
  ·rename_i s'' fs s' es v2 heq
   simp only [List.cons.injEq,and_true,Opd.ev] at heq
   obtain ⟨e1,e2,e3,_⟩:=heq
   obtain ⟨rfl,rfl,p2,p3,rfl⟩:=hs
   simp only [List.map_cons,List.map_nil,gsem] at hg
   split at hg
   ·rename_i k1 s1 g s2 heq2
    simp only [List.cons.injEq,and_true,Opd.gh] at heq2
    obtain ⟨g1,g2,g3,g4⟩:=heq2
    split at hg
    ·rename_i hc
     obtain ⟨rfl,rfl,rfl,hne⟩:=hc
     cases hg
     exact op_ppa h rfl hl rfl q1 q2 q5 q6 q7 q8 q3 hx (small_mem hsm (by simp [Op.operands,Call.operands])) hy (small_mem hsm (by simp [Op.operands,Call.operands])) e1 g1 g3 e3 g4 e2 p2 (by rw [q4];exact p3) hK
    ·cases hg
   ·cases hg
  ·cases hs
 ·cases ho
theorem tail3 {rs:List Opd} {n a b c:Nat} (h:(rs.drop n).map (fun r=>match r with | Opd.s t=>some t | _=>none)=[some a,some b,some c]):rs.drop n=[.s a,.s b,.s c] :=
 slots_eq (ks:=[a,b,c]) h
theorem k_apq {k d' q0 s b:Nat}:KindOK C sg (.apq k d' q0 s b):=by
 intro D σ γ a w dst op ty pos after guard rs ds gd ws gs K' Q h ho hk hsm hs hg hK
 simp only [keysOK,Bool.and_eq_true,beq_iff_eq,List.map_cons,List.map_nil] at hk
 obtain ⟨⟨hk0,hk1⟩,hk2⟩:=hk
 obtain ⟨d,rfl,hl,rfl⟩:=dOK0 hk2
 simp only [opOK] at ho
 split at ho
 ·rename_i args ats r q r3 r4 r5
  simp only [Bool.and_eq_true,beq_iff_eq] at ho
  obtain ⟨⟨ho,h1⟩,h2⟩:=ho
  obtain ⟨t,u,e,i,z,du,rfl,q1,q2,q3,q4,q5,q6,q7,q8⟩:=apTypes h1 h2
  have ht:=tail3 hk1
  simp only [List.drop_succ_cons,List.drop_zero,List.cons.injEq,and_true] at ht
  obtain ⟨rfl,rfl,rfl⟩:=ht
  obtain ⟨x,y,hx0⟩:=len2 (l:=args.toList) (by rw [opdsOK_len ho];rfl)
  rw [hx0] at ho
  obtain ⟨r',q',hrq,hx,hy⟩:=opds2 ho
  simp only [List.cons.injEq,and_true] at hrq
  obtain ⟨rfl,rfl⟩:=hrq
  have ea:=arr2 hx0
  subst ea
  simp only [List.map_cons,List.map_nil,sem] at hs
  split at hs
  ·rename_i s' es v1 v2 s'' fs heq
   simp only [List.cons.injEq,and_true,Opd.ev] at heq
   obtain ⟨e1,e2,_,_,e5⟩:=heq
   obtain ⟨rfl,rfl,p2,p3,rfl⟩:=hs
   simp only [List.map_cons,List.map_nil,gsem] at hg
   split at hg
   ·rename_i k1 s1 k2 s2 s3 s4 heq2
    simp only [List.cons.injEq,and_true,Opd.gh] at heq2
    obtain ⟨g1,g2,g3,g4,g5⟩:=heq2
    split at hg
    ·rename_i hc
     obtain ⟨rfl,rfl,rfl,hne,rfl,rfl,rfl⟩:=hc
     cases hg
     obtain ⟨news,n1,n2,n3⟩:=h.privSource hy (small_mem hsm (by simp [Op.operands,Call.operands])) e2 g2 g5 e5
     exact op_ap (q:=q) h rfl hl rfl q1 q2 q5 q6 q7 q8 q3 hx (small_mem hsm (by simp [Op.operands,Call.operands])) e1 g1 g3 g4 hne n1 n2 n3 p2 (by rw [q4];exact p3) hK
    ·cases hg
   ·cases hg
  ·cases hs
 ·cases ho
theorem k_pnl {k:Nat}:KindOK C sg (.pnl k):=by
 intro D σ γ a w dst op ty pos after guard rs ds gd ws gs K' Q h ho hk hsm hs hg hK
 simp only [keysOK,Bool.and_eq_true] at hk
 obtain ⟨⟨hk0,hk1⟩,hk2⟩:=hk
 obtain ⟨d,rfl,hl,rfl⟩:=dOK0 (l:=[]) hk2
 simp only [opOK] at ho
 split at ho
 ·rename_i t x y r q
  simp only [Bool.and_eq_true] at ho
  obtain ⟨hx,he⟩:=ho
  obtain ⟨e,he⟩:=Option.isSome_iff_exists.1 he
  cases q <;> simp at hk1
  subst hk1
  simp only [List.map_cons,List.map_nil,sem] at hs
  simp only [List.map_cons,List.map_nil,gsem] at hg
  split at hg
  ·rename_i k' s0 s1 heq2
   simp only [List.cons.injEq,and_true,Opd.gh] at heq2
   split at hg
   ·rename_i hc
    subst hc
    cases hg
    split at hs
    ·rename_i s' heq
     simp only [List.cons.injEq,and_true,Opd.ev] at heq
     subst hs
     exact op_pnl h rfl hl rfl (elemT_spec he) hx (small_mem hsm (by simp [Op.operands])) heq.1 heq2.1 heq2.2 heq.2 hK
    ·rename_i s' e1 e2 heq
     simp only [List.cons.injEq,and_true,Opd.ev] at heq
     subst hs
     exact op_pnl h rfl hl rfl (elemT_spec he) hx (small_mem hsm (by simp [Op.operands])) heq.1 heq2.1 heq2.2 heq.2 hK
    ·cases hs
   ·cases hg
  ·cases hg
 ·cases ho
theorem k_la {m n s:Nat}:KindOK C sg (.la m n s):=by
 intro D σ γ a w dst op ty pos after guard rs ds gd ws gs K' Q h ho hk hsm hs hg hK
 simp only [keysOK,Bool.and_eq_true] at hk
 obtain ⟨⟨_,hk0,hk1⟩,hk2⟩:=hk
 obtain ⟨d,rfl,hl,rfl⟩:=dOK0 (l:=[]) hk2
 simp only [opOK] at ho
 split at ho
 ·rename_i t x y r q z
  simp only [Bool.and_eq_true] at ho
  obtain ⟨ht,ho⟩:=ho
  split at ht
  ·rename_i n' e he
   simp only [Bool.and_eq_true,beq_iff_eq] at ht
   obtain ⟨rfl,ht⟩:=ht
   obtain ⟨inf,h1,h2⟩:=sizeT_spec ht
   obtain ⟨r',q',e',hx,hy⟩:=opds2 ho
   cases e'
   cases z <;> simp at hk1
   subst hk1
   simp only [List.map_cons,List.map_nil,sem] at hs
   simp only [List.map_cons,List.map_nil,gsem] at hg
   split at hs
   ·rename_i ik i cs heq
    simp only [List.cons.injEq,and_true,Opd.ev] at heq
    obtain ⟨h0,hlt,rfl⟩:=hs
    split at hg
    ·rename_i m' o' g0 ts heq2
     simp only [List.cons.injEq,and_true,Opd.gh] at heq2
     split at hg
     ·rename_i hc
      obtain ⟨rfl,rfl,_⟩:=hc
      cases hg
      exact op_la h rfl hl rfl he h1 h2 hx hy (small_mem hsm (by simp [Op.operands])) (small_mem hsm (by simp [Op.operands])) heq.1 heq2.1 heq2.2.2 heq.2.1 h0 hlt hK
     ·cases hg
    ·cases hg
   ·cases hs
  ·cases ht
 ·cases ho
theorem k_ll {m s:Nat}:KindOK C sg (.ll m s):=by
 intro D σ γ a w dst op ty pos after guard rs ds gd ws gs K' Q h ho hk hsm hs hg hK
 simp only [keysOK,Bool.and_eq_true] at hk
 obtain ⟨⟨_,hk0,hk1⟩,hk2⟩:=hk
 obtain ⟨d,rfl,hl,rfl⟩:=dOK0 (l:=[]) hk2
 simp only [opOK] at ho
 split at ho
 ·rename_i t x r rest
  simp at hk0
  obtain ⟨q,rfl⟩:=len1 hk0
  cases q <;> simp at hk1
  subst hk1
  simp only [Bool.and_eq_true] at ho
  obtain ⟨ht,ho⟩:=ho
  obtain ⟨inf,h1,h2,h3,h4⟩:=shapeOK_spec ht
  simp only [List.map_cons,List.map_nil,sem] at hs
  split at hs
  ·rename_i i s' o' cs heq
   simp only [List.cons.injEq,and_true,Opd.ev] at heq
   obtain ⟨y,rfl,hp,rfl⟩:=hs
   simp only [List.map_cons,List.map_nil,gsem] at hg
   split at hg
   ·rename_i m' ts heq2
    simp only [List.cons.injEq,and_true,Opd.gh] at heq2
    split at hg
    ·rename_i hc
     obtain ⟨rfl,rfl⟩:=hc
     cases hg
     exact op_ll h rfl hl rfl h1 h2 h3 ho (small_mem hsm (by simp [Op.operands])) heq.1 heq2.1 heq2.2 heq.2 hp hK
    ·cases hg
   ·cases hg
  ·cases hs
 ·cases ho
theorem k_pcall (hE:∀f,SpecOK C.P C.E.gl f (C.E.fs f)∧(C.E.fs f).sg=sg f) {f n nres i k s:Nat}:KindOK C sg (.pcall f n nres i k s):=by
 intro D σ γ a w dst op ty pos after guard rs ds gd ws gs K' Q h ho hk hsm hs hg hK
 simp only [keysOK,Bool.and_eq_true,beq_iff_eq,List.map_cons,List.map_nil] at hk
 obtain ⟨⟨hk0,hk1⟩,hk2⟩:=hk
 obtain ⟨d,rfl,hl,rfl⟩:=dOK0 (l:=[]) hk2
 simp only [opOK] at ho
 split at ho
 ·rename_i g args ats
  simp only [Bool.and_eq_true,beq_iff_eq,decide_eq_true_eq] at ho
  obtain ⟨⟨⟨⟨⟨rfl,hpf⟩,hps,hn⟩,hx⟩,hsz⟩,hin⟩:=ho
  rw [←(hE f).2] at hps hn
  have htl:(rs.take n).length=n:=by rw [←opdsOK_len hx];simpa using hsz
  have hsm':small C.nt args.toList=true:=small_sub hsm (fun x hx=>by
   have:x∈args:=by simpa using hx
   simp only [Op.operands,Call.operands,Array.toList_append,List.mem_append]
   exact .inr hx)
  have hdrop:rs.drop n=[.s (lk k)]:=by
   simp only [List.length_cons,List.length_nil] at hk0
   obtain ⟨q,hq⟩:=len1 (l:=rs.drop n) (by rw [List.length_drop];omega)
   rw [hq] at hk1 ⊢
   cases q <;> simp at hk1
   rw [hk1]
  have hrs:rs=rs.take n++[.s (lk k)]:=by rw [←hdrop,List.take_append_drop]
  simp only [sem] at hs
  obtain ⟨es,outs,v1,v2,hG,hol,rfl⟩:=hs
  simp only [gsem] at hg
  rw [Option.ite_none_right_eq_some] at hg
  obtain ⟨⟨g1,g2⟩,hg⟩:=hg
  cases hg
  have hlast:∀{X:Type} (F:Opd→X),(rs.map F)[n]?=some (F (.s (lk k))):=fun F=>by
   have h1:rs[n]?=some (.s (lk k)):=by rw [hrs,List.getElem?_append_right (by omega),htl];simp
   rw [List.getElem?_map,h1];rfl
  rw [hlast] at v1 g2
  simp only [Opd.ev,Opd.gh,Option.some.injEq] at v1 g2
  have hi:∀{X:Type} (F:Opd→X),((rs.take n).map F)[i]?=(rs.map F)[i]?:=fun F=>by
   rw [List.map_take,List.getElem?_take,if_pos hin]
  rw [←hi] at v2 g1
  rw [←List.map_take] at hG
  exact op_pcall h rfl hl rfl hpf (hE f).1 hps hn hx hsm' v2 g1 g2 v1 hG hol hK
 ·cases ho
theorem k_pcaln (hE:∀f,SpecOK C.P C.E.gl f (C.E.fs f)∧(C.E.fs f).sg=sg f) {f n nres i s:Nat}:KindOK C sg (.pcaln f n nres i s):=by
 intro D σ γ a w dst op ty pos after guard rs ds gd ws gs K' Q h ho hk hsm hs hg hK
 simp only [keysOK,Bool.and_eq_true] at hk
 obtain ⟨hk0,hk2⟩:=hk
 obtain ⟨d,rfl,hl,rfl⟩:=dOK0 (l:=[]) hk2
 simp only [opOK] at ho
 split at ho
 ·rename_i g args ats
  simp only [Bool.and_eq_true,beq_iff_eq,decide_eq_true_eq] at ho
  obtain ⟨⟨⟨⟨⟨rfl,hpf⟩,hps,hn⟩,hx⟩,hsz⟩,hnil⟩:=ho
  rw [←(hE f).2] at hps hn
  have hsm':small C.nt args.toList=true:=small_sub hsm (fun x hx=>by
   have:x∈args:=by simpa using hx
   simp only [Op.operands,Call.operands,Array.toList_append,List.mem_append]
   exact .inr hx)
  simp only [sem] at hs
  obtain ⟨outs,v1,hG,hol,rfl⟩:=hs
  simp only [gsem,Option.some.injEq] at hg
  subst hg
  split at hnil
  ·rename_i hi
   exact op_pcaln h rfl hl rfl hpf (hE f).1 hps hn hx hsm' hi v1 hG hol hK
  ·cases hnil
 ·cases ho
end
end Go.Eng
namespace Go.Eng
open Go.RowKit
theorem ext_ib_find {fn:Func} (h:fn.name=ibName):Extern.find fn=some Extern.BytealgIndexByte.indexByte:=by
 have e1:(Extern.allGenericRows.lookup ibName)=none:=by kernel_rfl
 have e2:(Extern.allTypedRows.lookup ibName)=none:=by kernel_rfl
 have e3:(Extern.allRows.lookup ibName)=some Extern.BytealgIndexByte.indexByte:=by kernel_rfl
 unfold Extern.find
 simp only [h,e1,e2,e3]
 rfl
theorem ext_ib_next {fn:Func} (h:fn.name=ibName) (h2:fn.origin = "" ∨ fn.origin=ibName):Extern.findNext fn=none:=by
 have e1:(Extern.allNextRows.lookup ibName)=none:=by kernel_rfl
 have e2:(Extern.allNextRows.lookup "")=none:=by kernel_rfl
 unfold Extern.findNext
 rcases h2 with h2 | h2 <;> simp only [h,h2,e1,e2] <;> rfl
section
variable {C:Ctx} {D:Dyn} {σ:Sg} {γ:Ga} {a:Act} {w:World}
variable {o:Oper} {d:Nat} {K:Act→World→Prop} {Q:Exit→Act→World→Prop} (h:Sim C D σ γ a w)
include h
theorem op_nls (hd:o.dst=some d) (hl:d<C.nt) {x:Operand} {r:Opd} {t e y:TypeId} {s:Nat} {es:List AV} (ho:o.op = .binOp .eql t x (.const (.slice none 0 0)) y) (ht:C.P.underlying t=some (.slice e)) (hx:opdOK x r=true) (hs1:small C.nt [x]=true)
  (hr:r.ev C.E σ = .sl s es) (hK:∀D' a' w',Sim C D' (upd σ d (match es with | [] => .ab | _ :: _ => .v (.bool false))) (upd γ d .no) a' w'→K a' w'):o.wp C.P a w K Q:=by
 have e0:=(h.opd hx hs1).rep (by rw [hr];simp)
 rw [hr] at e0
 have hc:a.eval (.const (.slice none 0 0)) = .slice none 0 0:=rfl
 have hrun:∀{q:Option Addr} {n c:Nat},a.eval x = .slice q n c→(execOp a.eval o).run C.P w = .ok (.value (.bool q.isNone)) w:=fun {q n c} hval=>by
  simp only [execOp,ho,hval,hc,eqGuard,Sem.run_bind,Sem.run_pure,Sem.run_ite,Result.andThen_ok]
  simp only [Bool.not_true,Bool.false_eq_true,if_false,Sem.run_pure,Result.andThen_ok]
  rw [Lib.run_eql_slice_nil w t e _ _ _ _ _ ht]
  rfl
 cases es with
 | nil =>
  obtain ⟨q,cap,hq⟩:=e0.sl_len
  exact h.valNo hd hl (hrun hq) (.ab _) hK
 | cons z zs =>
  generalize hv:a.eval x=v at e0
  cases e0 with
  | sl a b c d=>exact h.valNo hd hl (hrun hv) (.v _) hK
theorem op_xib (hd:o.dst=some d) (hl:d<C.nt) {x y:Operand} {r q:Opd} {f:Nat} {ts:Array TypeId} {b:ByteArray} {c:Int} (ho:o.op = .call { callee := .value (.func f),args:=#[x,y],argTypes:=ts }) (hf:externFn C.P f ibName=true)
  (hx:opdOK x r=true) (hs1:small C.nt [x]=true) (hy:opdOK y q=true) (hs2:small C.nt [y]=true) (hr:r.ev C.E σ = .v (.string b)) (hq:q.ev C.E σ = .v (.int .u8 c))
  (hK:∀D' a' w',Sim C D' (upd σ d (.v (.int .i64 (Lib.indexByte b.data.toList c.toNat.toUInt8)))) (upd γ d .no) a' w'→K a' w'):o.wp C.P a w K Q:=by
 have e1:=(h.opd hx hs1).rep (by rw [hr];simp)
 rw [hr] at e1
 have e2:=(h.opd hy hs2).rep (by rw [hq];simp)
 rw [hq] at e2
 unfold externFn at hf
 cases hfn:C.P.funcs[f]? with
 | none=>simp [hfn] at hf
 | some fn =>
  simp only [hfn,Option.any_some,Bool.and_eq_true,beq_iff_eq,Bool.or_eq_true] at hf
  obtain ⟨⟨hn,hb⟩,hor⟩:=hf
  have hcall:=run_callFunc_extern (P:=C.P) hfn (by rw [hn];decide +kernel) hb (ext_ib_next hn hor) (ext_ib_find hn) #[.string b,.int .u8 c] w
  rw [Lib.run_indexByteString] at hcall
  have hrun:(execOp a.eval o).run C.P w = .ok (.value (.int .i64 (Lib.indexByte b.data.toList c.toNat.toUInt8))) w:=by
   have he:a.eval (.func f) = .func (.func f) #[] #[]:=rfl
   simp only [execOp,ho,resolve,Deferred.ofValue,he,invoke]
   simpa [e1.v_inv,e2.v_inv,resolve,Deferred.ofValue,invoke] using hcall
  exact h.valNo hd hl hrun (.v _) hK
end
section
variable {C:Ctx} {sg:Nat→FSig}
theorem k_nls:KindOK C sg .nls:=by
 intro D σ γ a w dst op ty pos after guard rs ds gd ws gs K' Q h ho hk hsm hs hg hK
 simp only [gsem,Option.some.injEq] at hg
 subst hg
 obtain ⟨d,rfl,hl,rfl⟩:=dOK0 (l:=[]) hk
 simp only [opOK] at ho
 split at ho
 ·rename_i t x y r
  simp only [Bool.and_eq_true] at ho
  obtain ⟨hx,he⟩:=ho
  obtain ⟨e,he⟩:=Option.isSome_iff_exists.1 he
  simp only [List.map_cons,List.map_nil,sem] at hs
  split at hs
  ·rename_i s' heq
   simp only [List.cons.injEq,and_true,Opd.ev] at heq
   subst hs
   exact op_nls h rfl hl rfl (elemT_spec he) hx (small_mem hsm (by simp [Op.operands])) heq hK
  ·rename_i s' e1 e2 heq
   simp only [List.cons.injEq,and_true,Opd.ev] at heq
   subst hs
   exact op_nls h rfl hl rfl (elemT_spec he) hx (small_mem hsm (by simp [Op.operands])) heq hK
  ·cases hs
 ·cases ho
theorem k_xib:KindOK C sg .xib:=by
 intro D σ γ a w dst op ty pos after guard rs ds gd ws gs K' Q h ho hk hsm hs hg hK
 simp only [gsem,Option.some.injEq] at hg
 subst hg
 obtain ⟨d,rfl,hl,rfl⟩:=dOK0 (l:=[]) hk
 simp only [opOK] at ho
 split at ho
 ·rename_i g args ats
  simp only [Bool.and_eq_true,beq_iff_eq] at ho
  obtain ⟨⟨hf,hx⟩,hsz⟩:=ho
  obtain ⟨x,y,hx0⟩:=len2 (l:=args.toList) (by simpa using hsz)
  rw [hx0] at hx
  obtain ⟨r,q,rfl,hx,hy⟩:=opds2 hx
  have ea:=arr2 hx0
  subst ea
  simp only [List.map_cons,List.map_nil,sem] at hs
  split at hs
  ·rename_i b c heq
   simp only [List.cons.injEq,and_true,Opd.ev] at heq
   subst hs
   exact op_xib h rfl hl rfl hf hx (small_mem hsm (by simp [Op.operands,Call.operands])) hy (small_mem hsm (by simp [Op.operands,Call.operands])) heq.1 heq.2 hK
  ·cases hs
 ·cases ho
end
end Go.Eng
namespace Go.Eng
open Go.RowKit
theorem RepL.set {R:Reach} {w:World} {x:AV} {y:Value} (hx:Rep R w x y):∀{xs:List AV} {ys:List Value} {i:Nat},RepL R w xs ys→ys[i]?=some y→RepL R w (xs.set i x) ys
 | _,_,0,.cons a _ t,e=>by simp at e;subst e;exact .cons a hx t
 | _,_,i+1,.cons a h t,e => .cons a h (RepL.set hx t (by simpa using e))
 | _,_,i,.nil,e=>by simp at e
theorem nilAt_len (cs:List AV):∀ts:List (Nat × (Nat × Nat)),(nilAt cs ts).length=cs.length
 | []=>rfl
 | t :: ts=>by simp [nilAt,nilAt_len cs ts]
theorem RepL.nilAt {R:Reach} {w:World} {xs:List AV} {ys:List Value} (h:RepL R w xs ys):∀{ts:List (Nat × (Nat × Nat))},(∀t∈ts,ys[t.1]?=some (.slice none 0 0))→RepL R w (Eng.nilAt xs ts) ys
 | [],_=>h
 | t :: ts,hn=>RepL.set (.nil _) (RepL.nilAt h fun u hu=>hn u (List.mem_cons_of_mem _ hu)) (hn t (List.mem_cons_self ..))
section
variable {C:Ctx} {D:Dyn} {σ:Sg} {γ:Ga} {a:Act} {w:World}
theorem Sim.retip (h:Sim C D σ γ a w) {m:Nat} {us us' ts:List (Nat × (Nat × Nat))} {cs:List AV} (hm:γ m = .cl us) (hσ:σ m = .ag cs) (hus:∀t∈us',t∈us) (hts:∀t∈ts,cs[t.1]?=some .nil)
  (hno:∀t∈ts,γ (lk t.2.1) = .no) (hnd:(ts.map (·.2.1)).Nodup) :
  ∃D',Sim C D' (upd (updL σ (ts.map fun t=>lk t.2.1) (ts.map fun _ => .dead)) m (.ag (Eng.nilAt cs ts))) (upd (updL γ (ts.map fun t=>lk t.2.1) (ts.map fun t => .live t.2.2)) m (.cl (us'++ts))) a w:=by
 obtain ⟨vs,hVA,hc⟩:=h.mem m us hm
 rw [hσ] at hVA
 have hnR:=hVA.noR
 obtain ⟨elem,hh,hL⟩:=hVA.ag
 obtain ⟨D1,h1,hR,_,_,ht1,hk1,hτ1,hβ1⟩:=h.nilTips ts hno hnd
 have hmlt:m<1000000:=(h.rng m (by rw [hm];rfl)).2
 have hmne:∀t∈ts,m≠lk t.2.1:=fun t _=>by have:=lk_ge t.2.1;omega
 have hm1:updL γ (ts.map fun t=>lk t.2.1) (ts.map fun t => .live t.2.2) m = .cl us:=by rw [hk1 m hmne];exact hm
 have hnil:∀t∈ts,vs[t.1]?=some (.slice none 0 0):=fun t ht=>by
  obtain ⟨y,hy1,_,hy2⟩:=hL.get t.1 _ (hts t ht)
  rw [List.getElem?_take] at hy1
  split at hy1
  ·rw [hy1,hy2.v_inv]
  ·cases hy1
 have hL':RepL D.R w (Eng.nilAt cs ts) (vs.take (Eng.nilAt cs ts).length):=by
  rw [nilAt_len]
  refine RepL.nilAt hL fun t ht=>?_
  have:=(List.getElem?_eq_some_iff.1 (hts t ht)).1
  rw [List.getElem?_take,if_pos this]
  exact hnil t ht
 have hment:=h.inv m
 rw [hm] at hment
 refine ⟨D1,h1.store (us:=us'++ts) (cs:=vs) hm1 (w':=w) rfl rfl rfl rfl (fun _ _=>rfl) ?_ fun t ht=>?_⟩
 ·rw [hR,hβ1];exact ⟨elem,hh,.inr ⟨_,rfl,hL'⟩,hnR⟩
 ·rcases List.mem_append.1 ht with ht | ht
  ·have ht:=hus t ht
   have hlk:=hment t ht
   by_cases hx:∃u∈ts,lk t.2.1=lk u.2.1
   ·obtain ⟨u,hu,e⟩:=hx
    rw [e,hno u hu] at hlk;cases hlk
   ·have hx:∀u∈ts,lk t.2.1≠lk u.2.1:=fun u hu e=>hx ⟨u,hu,e⟩
    rw [hk1 _ hx,hτ1 _ hx];exact ⟨hlk,hc t ht⟩
  ·exact ⟨(ht1 t ht).2,by rw [(ht1 t ht).1];exact hnil t ht⟩
variable {o:Oper} {d:Nat} {K:Act→World→Prop} {Q:Exit→Act→World→Prop} (h:Sim C D σ γ a w)
include h
theorem op_bxt {x:Operand} {r:Opd} {t:TypeId} {m:Nat} {ts:List (Nat × (Nat × Nat))} (hd:o.dst=some d) (hl:d<C.nt) (ho:o.op = .box t x) (hx:opdOK x r=true) (hs1:small C.nt [x]=true) (hp:(r.ev C.E σ).plain=true) (hm:γ m = .no) (h1:C.nt≤m) (h2:m<999999)
  (hts:∀t∈ts,(r.ev C.E σ).cells[t.1]?=some .nil) (hno:∀t∈ts,γ (lk t.2.1) = .no) (hnd:(ts.map (·.2.1)).Nodup)
  (hK:∀D' a' w',Sim C D' (updL σ (d :: m :: ts.map fun t=>lk t.2.1) (.pt :: .ag (Eng.nilAt (r.ev C.E σ).cells ts) :: ts.map fun _ => .dead)) (updL γ (d :: m :: ts.map fun t=>lk t.2.1) (.ptr m 0 :: .cl ts :: ts.map fun t => .live t.2.2)) a' w'→K a' w'):o.wp C.P a w K Q:=by
 have hdm:m≠d:=by omega
 have hnt:=h.ntlt
 refine op_bx h hd hl ho hx hs1 hp hm h1 h2 fun D' a' w' hS=>?_
 simp only [updL] at hS
 have hkd':∀k∈ts.map fun t=>lk t.2.1,d≠k:=fun k hk=>by obtain ⟨t,_,rfl⟩:=List.mem_map.1 hk;have:=lk_ge t.2.1;omega
 have hkd:d ∉ ts.map fun t=>lk t.2.1:=fun hk=>hkd' _ hk rfl
 have hkm':∀k∈ts.map fun t=>lk t.2.1,m≠k:=fun k hk=>by obtain ⟨t,_,rfl⟩:=List.mem_map.1 hk;have:=lk_ge t.2.1;omega
 have hkm:m ∉ ts.map fun t=>lk t.2.1:=fun hk=>hkm' _ hk rfl
 obtain ⟨D2,h2⟩:=hS.retip (m:=m) (us:=[]) (us':=[]) (ts:=ts) (by rw [upd_ne _ _ hdm,upd_same]) (by rw [upd_ne _ _ hdm,upd_same]) (by simp) hts (fun t ht=>by
  have e1:=hkd' _ (List.mem_map.2 ⟨t,ht,rfl⟩)
  have e2:=hkm' _ (List.mem_map.2 ⟨t,ht,rfl⟩)
  rw [upd_ne _ _ e1.symm,upd_ne _ _ e2.symm];exact hno t ht) hnd
 refine hK D2 a' w' ?_
 rw [updL_upd hkd,updL_upd hkm,updL_upd hkd,updL_upd hkm,upd_comm _ _ _ hdm,upd_comm _ _ _ hdm,upd_upd,upd_upd] at h2
 simp only [updL]
 have c1:∀{X:Type} (f:Nat→X) (p q:X),upd (upd f m p) d q=upd (upd f d q) m p:=fun f p q=>upd_comm _ _ _ hdm
 rw [c1,c1]
 exact h2
theorem op_stt {x v:Operand} {r q:Opd} {t:TypeId} {inf:TypeInfo} {m o' n:Nat} {cs:List AV} {us ts:List (Nat × (Nat × Nat))} (hd:o.dst=none) (ho:o.op = .store t x v) (hi:C.P.info? t=some inf) (hz:inf.size=n)
  (hx:opdOK x r=true) (hs1:small C.nt [x]=true) (hv:opdOK v q=true) (hs2:small C.nt [v]=true) (hr:r.ev C.E σ = .pt) (hg:r.gh γ = .ptr m o') (hm:γ m = .cl us) (hσ:σ m = .ag cs)
  (hp:(q.ev C.E σ).plain=true) (hn:(q.ev C.E σ).cells.length=n) (hfit:o'+n≤cs.length)
  (hts:∀t∈ts,(splice cs o' (q.ev C.E σ).cells)[t.1]?=some .nil) (hno:∀t∈ts,γ (lk t.2.1) = .no) (hnd:(ts.map (·.2.1)).Nodup)
  (hK:∀D' a' w',Sim C D' (updL σ (m :: ts.map fun t=>lk t.2.1) (.ag (Eng.nilAt (splice cs o' (q.ev C.E σ).cells) ts) :: ts.map fun _ => .dead)) (updL γ (m :: ts.map fun t=>lk t.2.1) (.cl (us.filter (fun t=>t.1<o' || o'+n≤t.1)++ts) :: ts.map fun t => .live t.2.2)) a' w'→K a' w'):o.wp C.P a w K Q:=by
 have hmlt:m<1000000:=(h.rng m (by rw [hm];rfl)).2
 have hkm':∀k∈ts.map fun t=>lk t.2.1,m≠k:=fun k hk=>by obtain ⟨t,_,rfl⟩:=List.mem_map.1 hk;have:=lk_ge t.2.1;omega
 have hkm:m ∉ ts.map fun t=>lk t.2.1:=fun hk=>hkm' _ hk rfl
 refine op_st h hd ho hi hz hx hs1 hv hs2 hr hg hm hσ hp hn hfit fun D' a' w' hS=>?_
 obtain ⟨D2,h2⟩:=hS.retip (m:=m) (us':=us.filter (fun t=>t.1<o' || o'+n≤t.1)) (ts:=ts) (by rw [upd_same]) (by rw [upd_same]) (fun t ht=>List.mem_append.2 (.inl ht)) hts (fun t ht=>by
  have e2:=hkm' _ (List.mem_map.2 ⟨t,ht,rfl⟩)
  rw [upd_ne _ _ e2.symm];exact hno t ht) hnd
 refine hK D2 a' w' ?_
 rw [updL_upd hkm,updL_upd hkm,upd_upd,upd_upd] at h2
 exact h2
end
section
variable {C:Ctx} {sg:Nat→FSig}
theorem k_bxt {m:Nat} {ts:List (Nat × (Nat × Nat))}:KindOK C sg (.bxt m ts):=by
 intro D σ γ a w dst op ty pos after guard rs ds gd ws gs K' Q h ho hk hsm hs hg hK
 simp only [keysOK,Bool.and_eq_true,decide_eq_true_eq,beq_iff_eq] at hk
 obtain ⟨⟨⟨hm1,hm2⟩,hk0,hk1⟩,hk2⟩:=hk
 obtain ⟨d,rfl,hl,rfl⟩:=dOK0 hk2
 simp only [opOK] at ho
 split at ho
 ·rename_i t x r rest
  simp only [List.drop_succ_cons,List.drop_zero] at hk1
  have hrs:=slots_eq hk1
  subst hrs
  simp only [List.map_cons,sem] at hs
  obtain ⟨p1,p2,rfl⟩:=hs
  simp only [List.map_cons,gsem] at hg
  rw [Option.ite_none_right_eq_some] at hg
  obtain ⟨⟨c1,c2,c3⟩,hg⟩:=hg
  cases hg
  simp only [List.all_cons,Bool.and_eq_true,decide_eq_true_eq,List.map_map,List.all_eq_true,List.mem_map] at c2
  refine op_bxt h rfl hl rfl ho (small_mem hsm (by simp [Op.operands])) p1 c2.1 hm1 hm2 p2 (fun t ht=>c2.2 _ ⟨t,ht,rfl⟩) c3 hK
 ·cases ho
theorem k_stt {m o' n:Nat} {ts:List (Nat × (Nat × Nat))}:KindOK C sg (.stt m o' n ts):=by
 intro D σ γ a w dst op ty pos after guard rs ds gd ws gs K' Q h ho hk hsm hs hg hK
 simp only [keysOK,Bool.and_eq_true,decide_eq_true_eq,beq_iff_eq,Option.isNone_iff_eq_none] at hk
 obtain ⟨⟨⟨⟨hm1,rfl⟩,rfl⟩,hk0,hk1⟩,hk3⟩:=hk
 simp only [opOK] at ho
 split at ho
 ·rename_i t x v p q r rest
  simp only [Bool.and_eq_true,beq_iff_eq] at ho
  obtain ⟨⟨⟨ht,hx⟩,hv⟩,_⟩:=ho
  obtain ⟨inf,h1,h2⟩:=sizeT_spec ht
  cases q with
  | s j =>
   simp at hk3
   subst hk3
   simp only [List.drop_succ_cons,List.drop_zero] at hk1
   have hrs:=slots_eq hk1
   subst hrs
   simp only [List.map_cons,sem] at hs
   split at hs
   ·rename_i cs y rest' heq
    simp only [List.cons.injEq,Opd.ev] at heq
    obtain ⟨e1,e2,e3,e4⟩:=heq
    obtain ⟨p1,p2,p3,p4,rfl⟩:=hs
    subst e3
    simp only [List.map_cons,gsem] at hg
    split at hg
    ·rename_i m' o'' us g rest'' heq2
     simp only [List.cons.injEq,Opd.gh] at heq2
     obtain ⟨f1,f2,f3,f4⟩:=heq2
     subst f4
     rw [Option.ite_none_right_eq_some] at hg
     obtain ⟨⟨rfl,rfl,_,c2,c3⟩,hg⟩:=hg
     cases hg
     simp only [List.map_map,List.all_eq_true,List.mem_map,decide_eq_true_eq] at c2
     exact op_stt h rfl rfl h1 h2 hx (small_mem hsm (by simp [Op.operands])) hv (small_mem hsm (by simp [Op.operands])) e1 f1 f2 e2 p1 p2 p3 p4 (fun t ht=>c2 _ ⟨t,ht,rfl⟩) c3 hK
    ·cases hg
   ·cases hs
  | c=>simp at hk3
  | g=>simp at hk3
 ·cases ho
end
end Go.Eng
namespace Go.Eng
open Go.RowKit
theorem FSig.plain_spec {g:FSig} (h:g.plain=true):g.ref=none∧g.tips=[]∧g.own=[]∧g.new=none∧g.tnew=[]∧g.ps=none:=by
 simp only [FSig.plain,Bool.and_eq_true,Option.isNone_iff_eq_none,List.isEmpty_iff] at h
 obtain ⟨⟨⟨⟨⟨h1,h2⟩,h3⟩,h4⟩,h5⟩,h6⟩:=h
 exact ⟨h1,h2,h3,h4,h5,h6⟩
theorem RepT.set {R:Reach} {w:World} {x:AV} {y:Value} (hx:Rep R w x y):∀{xs:List AV} {ys:List Value} {i:Nat},RepT R w xs ys→ys[i]?=some y→RepT R w (xs.set i x) ys
 | _,_,0,.cons _ t,e=>by simp at e;subst e;exact .cons hx t
 | _,_,i+1,.cons h t,e => .cons h (RepT.set hx t (by simpa using e))
 | _,_,i,.nil,e=>by simp at e
theorem RepT.allV {R R':Reach} {w w':World}:∀{xs:List AV} {ys:List Value},RepT R w xs ys→(∀x∈xs,∃y,x = .v y)→RepT R' w' xs ys
 | _,_,.nil,_ => .nil
 | _,_,.cons h t,hv=>by
  obtain ⟨y,rfl⟩:=hv _ (List.mem_cons_self ..)
  cases h
  exact .cons (.v _) (t.allV fun x hx=>hv x (List.mem_cons_of_mem _ hx))
section
variable {C:Ctx} {D:Dyn} {σ:Sg} {γ:Ga} {a:Act} {w:World}
variable {o:Oper} {d:Nat} {K:Act→World→Prop} {Q:Exit→Act→World→Prop} (h:Sim C D σ γ a w)
include h
theorem op_rcall (hd:o.dst=some d) (hl:d<C.nt) {f n i m:Nat} {args:Array Operand} {ts:Array TypeId} {rs:List Opd} {cs outs:List AV} {us:List (Nat × (Nat × Nat))} (ho:o.op = .call { callee := .value (.func f),args,argTypes:=ts }) (hp:plainFn C.P f=true)
  {S:FS} (hS:SpecOK C.P C.E.gl f S) (hpl:S.sg.plain=true) (hn:S.sg.nres=n) (hx:opdsOK args.toList rs=true) (hsm:small C.nt args.toList=true)
  (hpt:(rs.map (Opd.ev C.E σ))[i]?=some .pt) (hgh:(rs.map (Opd.gh γ))[i]?=some (.ptr m 0)) (hm:γ m = .cl us) (hσ:σ m = .ag cs)
  (hG:S.G ((rs.map (Opd.ev C.E σ)).set i (.ro (.ag cs))) outs) (hol:outs.length=n) (hov:∀x∈outs,∃y,x = .v y)
  (hK:∀D' a' w',Sim C D' (upd σ d (if n=1 then outs.headD .dead else .tu outs)) (upd γ d .no) a' w'→K a' w'):o.wp C.P a w K Q:=by
 obtain ⟨p1,p2,p3,p4,p5,p6⟩:=FSig.plain_spec hpl
 obtain ⟨vs,hVA,_⟩:=h.mem m us hm
 rw [hσ] at hVA
 have hnR:=hVA.noR
 have hlt:=hVA.lt
 obtain ⟨elem,hh,hL⟩:=hVA.ag
 obtain ⟨v,hv1,_,hv2⟩:=opd_at h hx hsm hpt (by simp) (by simp)
 have hv3:v = .pointer (some ⟨D.β m,0,none⟩):=hv2 _ hgh
 subst hv3
 have hT:=h.opds hx hsm
 let R1:Reach:=fun b o=>D.R b o∨(b=D.β m∧o<cs.length)
 have k1:Keeps D.R w R1 w:=fun b o hr=>⟨.inl hr,rfl⟩
 have hle:cs.length≤vs.length:=by have:=hL.length;simp at this;omega
 have hro:Rep R1 w (.ro (.ag cs)) (.pointer (some ⟨D.β m,0,none⟩)):=by
  refine .ro (.ag rfl (RepC.write (hL.mono k1) (fun j hj => .inr ⟨rfl,by simp at hj;omega⟩) (fun j y hy=>?_)))
  rw [List.getElem?_take] at hy
  split at hy
  ·simp only [World.cell?,hh];simpa using hy
  ·cases hy
 have hA:ArgsOK S.sg R1 w ((rs.map (Opd.ev C.E σ)).set i (.ro (.ag cs))) (args.toList.map a.eval):=by
  unfold ArgsOK
  rw [p1]
  exact RepT.set hro (hT.mono k1) hv1
 unfold Oper.wp
 rw [call_run ho hp,Oper.upon_enter]
 have:=hS.1 p6 w R1 _ outs (args.toList.map a.eval) hG (fun b o hr=>by
  rcases hr with hr | ⟨rfl,_⟩
  ·exact h.rlt b o hr
  ·exact hlt) (fun n=>(h.gl n).mono k1) hA
 have e:(⟨args.toList.map a.eval⟩:Array Value)=args.map a.eval:=by apply Array.ext';simp
 rw [e] at this
 refine this.mono ?_
 rintro e w' ⟨x,R',rfl,h1,h2,h3⟩
 simp only
 rw [hd]
 obtain ⟨rvs,tr,to_,tn,bn,br,cn,cr,q1,q2,q3,q4,_⟩:=h3
 have hio:∀b,¬ioOf S.sg w (args.toList.map a.eval) b:=fun b hb=>by unfold ioOf at hb;rw [p1] at hb;exact hb
 have hg:=h.grow (w':=w') (R':=D.R) h1.os h1.tape h1.output h1.size (fun b hb=>h1.heap b hb (hio b)) (fun _ _ h=>h) (fun _ _ h => .inl h) (fun b o hr=>Nat.lt_of_lt_of_le (h.rlt b o hr) h1.size)
 have e1:(outs.take S.sg.nres).mapIdx (fun i y=>if S.sg.new=some i then AV.pt else y)=outs:=by
  rw [p4,List.take_of_length_le (by omega)]
  apply List.ext_getElem?
  intro j
  simp
 rw [e1] at q4
 exact hK _ _ _ (Sim.putRes hg hl (q1.trans hn) (by rw [←hn];exact q2) (q4.allV hov) hol)
end
section
variable {C:Ctx} {sg:Nat→FSig}
theorem k_rcall (hE:∀f,SpecOK C.P C.E.gl f (C.E.fs f)∧(C.E.fs f).sg=sg f) {f n nres i m:Nat}:KindOK C sg (.rcall f n nres i m):=by
 intro D σ γ a w dst op ty pos after guard rs ds gd ws gs K' Q h ho hk hsm hs hg hK
 simp only [keysOK,Bool.and_eq_true,decide_eq_true_eq,beq_iff_eq,List.map_cons,List.map_nil] at hk
 obtain ⟨⟨_,hk0,hk1⟩,hk2⟩:=hk
 obtain ⟨d,rfl,hl,rfl⟩:=dOK0 (l:=[]) hk2
 simp only [opOK] at ho
 split at ho
 ·rename_i g args ats
  simp only [Bool.and_eq_true,beq_iff_eq,decide_eq_true_eq] at ho
  obtain ⟨⟨⟨⟨⟨rfl,hpf⟩,hps,hn⟩,hx⟩,hsz⟩,hin⟩:=ho
  rw [←(hE f).2] at hps hn
  have htl:(rs.take n).length=n:=by rw [←opdsOK_len hx];simpa using hsz
  have hsm':small C.nt args.toList=true:=small_sub hsm (fun x hx=>by
   have:x∈args:=by simpa using hx
   simp only [Op.operands,Call.operands,Array.toList_append,List.mem_append]
   exact .inr hx)
  have hdrop:rs.drop n=[.s m]:=by
   simp only [List.length_cons,List.length_nil] at hk0
   obtain ⟨q,hq⟩:=len1 (l:=rs.drop n) (by rw [List.length_drop];omega)
   rw [hq] at hk1 ⊢
   cases q <;> simp at hk1
   rw [hk1]
  have hrs:rs=rs.take n++[.s m]:=by rw [←hdrop,List.take_append_drop]
  simp only [sem] at hs
  obtain ⟨cs,outs,v1,v2,hG,hol,hov,rfl⟩:=hs
  have hlast:∀{X:Type} (F:Opd→X),(rs.map F)[n]?=some (F (.s m)):=fun F=>by
   have h1:rs[n]?=some (.s m):=by rw [hrs,List.getElem?_append_right (by omega),htl];simp
   rw [List.getElem?_map,h1];rfl
  have hi:∀{X:Type} (F:Opd→X),((rs.take n).map F)[i]?=(rs.map F)[i]?:=fun F=>by
   rw [List.map_take,List.getElem?_take,if_pos hin]
  simp only [gsem] at hg
  split at hg
  ·rename_i us g2
   rw [Option.ite_none_right_eq_some] at hg
   obtain ⟨g1,hg⟩:=hg
   cases hg
   rw [hlast] at v1 g2
   simp only [Opd.ev,Opd.gh,Option.some.injEq] at v1 g2
   rw [←hi] at v2 g1
   rw [←List.map_take] at hG
   exact op_rcall h rfl hl rfl hpf (hE f).1 hps hn hx hsm' v2 g1 g2 v1 hG hol hov hK
  ·cases hg
 ·cases ho
end
end Go.Eng
namespace Go.Eng
open Go.RowKit
section
variable {C:Ctx} {D:Dyn} {σ:Sg} {γ:Ga} {a:Act} {w:World}
variable {o:Oper} {d:Nat} {K:Act→World→Prop} {Q:Exit→Act→World→Prop} (h:Sim C D σ γ a w)
include h
theorem op_apv (hd:o.dst=some d) (hl:d<C.nt) {x y:Operand} {r q:Opd} {t u e:TypeId} {i:TypeInfo} {z:Value} {du:TypeDesc} {k k' s:Nat} {fs:List AV} (ho:o.op = .call { callee := .builtin .append,args:=#[x,y],argTypes:=#[t,u] })
  (ht:C.P.underlying t=some (.slice e)) (hi:C.P.info? e=some i) (hz:i.zero=some z) (hzs:z.cells.size=i.size) (hu:C.P.underlying u=some du) (hdu:∀k,du ≠ .int k) (hs:i.size=s)
  (hx:opdOK x r=true) (hs1:small C.nt [x]=true) (hr:r.ev C.E σ = .sl s []) (hg:r.gh γ = .tip k s) (hlk:γ (lk k) = .live s) (hno:γ (lk k') = .no) (hne:k≠k')
  {news:List Value} (hsrc:Source C.P w s (a.eval y) fs.length news) (hL:RepL D.R w (fs.flatMap AV.cells) news) (hfs:∀e∈fs,e.cells.length=s) (h63:fs.length≤maxLen) (hb:fs.length * i.bytes≤140737488355328)
  (hK:∀D' a' w',Sim C D' (updL σ [d,lk k,lk k'] [.pt,.dead,.sl s fs]) (updL γ [d,lk k,lk k'] [.tip k' s,.used,.pv s]) a' w'→K a' w'):o.wp C.P a w K Q:=by
 subst hs
 have e0:=h.opd hx hs1
 have e1:=e0.rep (by rw [hr];simp)
 have e2:=e0.gh (by rw [hr];simp) (by rw [hr];simp)
 rw [hr] at e1
 rw [hg] at e2
 simp only [GhOK] at e2
 replace e2:=e2.1
 have hT:=h.tip _ _ hlk
 rw [←e2] at hT
 have h1:=h.kill hlk
 have hbk:blk D γ (lk k)=(a.eval x).ownBlock:=by rw [blk_live hlk,←e2]
 have hown:∀g,(a.eval x).ownBlock=some g→C.mine g∧∀key,blk D (upd γ (lk k) .used) key≠some g:=fun g hg'=>by
  refine ⟨h.own (lk k) g (hbk.trans hg'),fun key hkey=>?_⟩
  by_cases e:key=lk k
  ·subst e;simp [blk,upd_same] at hkey
  ·have:blk D γ key=some g:=by unfold blk at hkey ⊢;rwa [upd_ne _ _ e] at hkey
   exact e (h.sepN (key:=lk k) (by rw [hlk];rfl) (hbk.trans hg') this).symm
 have hP:PrivOK D.R w (a.eval x) i.size (.sl i.size []):=by
  rcases hT with e | ⟨g,n,cap,cur,ce,fz,e,hg1,hfz,hcs,hn,hcm,hnR⟩
  ·rw [e];exact ⟨fun g hg=>by simp [Value.ownBlock] at hg,.inr ⟨[],rfl,by simp,.inl ⟨rfl,rfl⟩⟩⟩
  ·have hn0:n=0:=by
    rw [e] at e1
    rcases e1.sl_inv with ⟨_,hv⟩ | ⟨b,off,c',hv,_⟩ | ⟨_,ad,c',hv,_⟩ <;> cases hv <;> rfl
   subst hn0
   rw [e]
   refine ⟨fun g' hg' o=>?_,.inr ⟨[],rfl,by simp,.inr ⟨g,cap,cur,ce,fz,rfl,hg1,?_⟩⟩⟩
   ·simp [Value.ownBlock] at hg';subst hg';exact hnR o (by omega)
   ·simp only [List.flatMap_nil,List.length_nil,Nat.zero_mul,List.take_zero];exact .nil
 obtain ⟨v,w',hrun,os,tape,out,size,hh,_,_,ct,cp,hvb⟩:=run_append_priv (ty:=o.type) (es:=[]) ht hi hz hzs hu hdu hT hP h.rlt hsrc hL hfs (by simpa using h63) (by simpa using hb)
 rw [List.nil_append] at cp
 have keep:Keeps D.R w D.R w':=fun b o hr=>⟨hr,World.cell?_of_block (w:=w) (hh b (h.rlt b o hr) (fun e=>hP.1 b e o hr))⟩
 have hS:=h1.world (w':=w') (R':=D.R) os tape out size (fun b hb hor=>hh b hb (fun e=>by
  obtain ⟨m1,m2⟩:=hown b e
  rcases hor with ⟨key,hk⟩ | hm
  ·exact m2 key hk
  ·exact hm m1)) keep (fun b o hr => .inl hr) (fun b o hr=>Nat.lt_of_lt_of_le (h.rlt b o hr) size)
 unfold Oper.wp
 rw [show (execOp a.eval o).run C.P w = .ok (.value v) w' by simp [execOp,ho,resolve,invoke,builtin,hrun],Oper.upon_value,hd]
 have hno':upd γ (lk k) .used (lk k') = .no:=by rw [upd_ne _ _ (fun e=>hne (lk_inj e).symm)];exact hno
 have hF:=(hS.dead (k:=lk k) (by rw [upd_same];rfl)).putPriv hl hno' ct cp (fun g hg=>by
  rcases hvb g hg with e | e
  ·exact hown g e
  ·exact ⟨.inr (Nat.le_trans h.ext.size e),fun key hk=>by have:=h1.lt hk;omega⟩)
 have hc:lk k'≠lk k:=fun e=>hne (lk_inj e).symm
 have eσ:updL σ [d,lk k,lk k'] [.pt,.dead,.sl i.size fs]=updL (upd σ (lk k) .dead) [d,lk k'] [.pt,.sl i.size fs]:=by
  simp only [updL];rw [upd_comm σ _ _ hc]
 have eγ:updL γ [d,lk k,lk k'] [.tip k' i.size,.used,.pv i.size]=updL (upd γ (lk k) .used) [d,lk k'] [.tip k' i.size,.pv i.size]:=by
  simp only [updL];rw [upd_comm γ _ _ hc]
 rw [eσ,eγ] at hK
 exact hK _ _ _ hF
theorem op_mvz {k:Nat} (h9:k≠999999) (hd:o.dst=some d) (hl:d<C.nt) {x:Operand} {r:Opd} {j s s0:Nat} {es:List AV} (ho:o.op = .move x∨o.op = .assign x) (hx:opdOK x r=true) (hs1:small C.nt [x]=true) (hj:j<C.nt) (hrj:r ≠ .s j) (hr:σ j = .pt) (hg:γ j = .tip k s0)
  (hk:γ (lk k) = .pv s) (hσ:σ (lk k) = .sl s es) (hK:∀D' a' w',Sim C D' (updL σ [d,j,lk k] [r.ev C.E σ,.sl s es,.dead]) (updL γ [d,j,lk k] [(r.gh γ).strip,.tip k s,.live s]) a' w'→K a' w'):o.wp C.P a w K Q:=by
 have hsj:small C.nt [.tmp j]=true:=by simp [small,hj]
 have e0:=h.opd (x := .tmp j) (r := .s j) (by simp [opdOK]) hsj
 have hv:=e0.gh (by simp only [Opd.ev];rw [hr];simp) (by simp only [Opd.ev];rw [hr];simp)
 simp only [Opd.gh] at hv
 rw [hg] at hv
 obtain ⟨hv1,hv2⟩:=hv
 have hev:a.eval (.tmp j)=a.tmps.getD j undef:=rfl
 have hrun:(execOp a.eval o).run C.P w = .ok (.value (a.eval x)) w:=by rcases ho with e | e <;> simp [execOp,e]
 obtain ⟨R',hS,hR,_⟩:=h.thaw h9 hk hσ
 have hlk1:(upd γ (lk k) (.live s) (lk k)).isLk=true:=by rw [upd_same];rfl
 have hS2:=hS.retype (g := .tip k s) hj (.inr ⟨by rw [←hev,hv1];exact hR,fun _=>⟨hev ▸ hv1,hev ▸ hv2⟩⟩) rfl rfl hlk1
 have hjk:lk k≠j:=by have:=lk_ge k;have:=h.ntlt;omega
 have hre:r.ev C.E (upd (upd σ (lk k) .dead) j (.sl s es))=r.ev C.E σ∧r.gh (upd (upd γ (lk k) (.live s)) j (.tip k s))=r.gh γ:=by
  cases r with
  | s t =>
   have h1:t≠j:=fun e=>hrj (by rw [e])
   have h2:t≠lk k:=fun e=>by
    have ht:t<C.nt:=by cases x <;> simp [opdOK] at hx;subst hx;simpa [small] using hs1
    have:=lk_ge k;have:=h.ntlt;omega
   exact ⟨by simp only [Opd.ev];rw [upd_ne _ _ h1,upd_ne _ _ h2],by simp only [Opd.gh];rw [upd_ne _ _ h1,upd_ne _ _ h2]⟩
  | _=>exact ⟨rfl,rfl⟩
 have e1:=hS2.opd hx hs1
 have em:=(hS2.ment_opd r).strip
 rw [hre.1,hre.2] at e1
 rw [hre.2] at em
 unfold Oper.wp
 rw [hrun,Oper.upon_value,hd]
 refine hK _ _ _ (hS2.put (g:=(r.gh γ).strip) hl ?_ ?_ ?_ em)
 ·rcases e1 with e | ⟨q1,q2⟩
  ·exact .inl e
  ·exact .inr ⟨q1,by cases hg:r.gh γ <;> rw [hg] at q2 <;> first | exact q2 | trivial⟩
 ·cases r.gh γ <;> rfl
 ·cases r.gh γ <;> rfl
end
section
variable {C:Ctx} {sg:Nat→FSig}
theorem k_apv {k d' s b:Nat}:KindOK C sg (.apv k d' s b):=by
 intro D σ γ a w dst op ty pos after guard rs ds gd ws gs K' Q h ho hk hsm hs hg hK
 simp only [keysOK,Bool.and_eq_true,beq_iff_eq,List.map_cons,List.map_nil] at hk
 obtain ⟨⟨hk0,hk1⟩,hk2⟩:=hk
 obtain ⟨d,rfl,hl,rfl⟩:=dOK0 hk2
 simp only [opOK] at ho
 split at ho
 ·rename_i args ats r q r3 r4
  simp only [Bool.and_eq_true,beq_iff_eq] at ho
  obtain ⟨⟨ho,h1⟩,h2⟩:=ho
  obtain ⟨t,u,e,i,z,du,rfl,q1,q2,q3,q4,q5,q6,q7,q8⟩:=apTypes h1 h2
  have ht:=tail2 hk1
  simp only [List.drop_succ_cons,List.drop_zero,List.cons.injEq,and_true] at ht
  obtain ⟨rfl,rfl⟩:=ht
  obtain ⟨x,y,hx0⟩:=len2 (l:=args.toList) (by rw [opdsOK_len ho];rfl)
  rw [hx0] at ho
  obtain ⟨r',q',hrq,hx,hy⟩:=opds2 ho
  simp only [List.cons.injEq,and_true] at hrq
  obtain ⟨rfl,rfl⟩:=hrq
  have ea:=arr2 hx0
  subst ea
  simp only [List.map_cons,List.map_nil,sem] at hs
  split at hs
  ·rename_i s' s'' fs v1 v2 heq
   simp only [List.cons.injEq,and_true] at heq
   obtain ⟨e1,e2,_⟩:=heq
   obtain ⟨rfl,rfl,p1,p2,p3,rfl⟩:=hs
   simp only [List.map_cons,List.map_nil,gsem] at hg
   split at hg
   ·rename_i k1 s1 g s2 heq2
    simp only [List.cons.injEq,and_true,Opd.gh] at heq2
    obtain ⟨g1,g2,g3,g4⟩:=heq2
    split at hg
    ·rename_i hc
     obtain ⟨rfl,rfl,rfl,hne⟩:=hc
     cases hg
     have hrep:=(h.opd hy (small_mem hsm (by simp [Op.operands,Call.operands]))).rep (by rw [e2];simp)
     rw [e2] at hrep
     obtain ⟨news,n1,n2,n3⟩:=Source.of_sl (P:=C.P) hrep
     exact op_apv (q:=q) h rfl hl rfl q1 q2 q5 q6 q7 q8 q3 hx (small_mem hsm (by simp [Op.operands,Call.operands])) e1 g1 g3 g4 hne n1 n2 p1 p2 (by rw [q4];exact p3) hK
    ·cases hg
   ·cases hg
  ·cases hs
 ·cases ho
theorem k_mvz {k s:Nat}:KindOK C sg (.mvz k s):=by
 intro D σ γ a w dst op ty pos after guard rs ds gd ws gs K' Q h ho hk hsm hs hg hK
 simp only [keysOK,Bool.and_eq_true] at hk
 obtain ⟨⟨h9,hk0,hk1⟩,hk2⟩:=hk
 simp only [decide_eq_true_eq] at h9
 have main:∀{x:Operand} {r p q:Opd},(op = .move x∨op = .assign x)→rs=[r,p,q]→opdOK x r=true→(⟨dst,op,ty,pos,after,guard⟩:Oper).wp C.P a w K' Q:=by
  intro x r p q hop hrs hx
  subst hrs
  cases q <;> simp at hk1
  subst hk1
  cases p with
  | s j =>
   simp only [Bool.and_eq_true,decide_eq_true_eq] at hk2
   obtain ⟨⟨hj,hrj0⟩,hk2⟩:=hk2
   have hrj:r ≠ .s j:=fun e=>by subst e;simp at hrj0
   obtain ⟨d,rfl,hl,rfl⟩:=dOK0 hk2
   simp only [List.map_cons,List.map_nil,sem] at hs
   simp only [List.map_cons,List.map_nil,gsem] at hg
   split at hs
   ·rename_i y s' es heq
    simp only [List.cons.injEq,and_true] at heq
    obtain ⟨rfl,e2,e3⟩:=heq
    obtain ⟨rfl,rfl⟩:=hs
    split at hg
    ·rename_i g k' s0 s1 heq2
     simp only [List.cons.injEq,and_true] at heq2
     obtain ⟨rfl,g2,g3⟩:=heq2
     split at hg
     ·rename_i hc
      obtain ⟨rfl,rfl⟩:=hc
      cases hg
      exact op_mvz h h9 rfl hl hop hx (small_mem hsm (by rcases hop with rfl | rfl <;> simp [Op.operands])) hj hrj e2 g2 g3 e3 hK
     ·cases hg
    ·cases hg
   ·cases hs
  | _=>cases hk2
 simp only [opOK] at ho
 split at ho
 ·exact main (.inl rfl) rfl ho
 ·exact main (.inr rfl) rfl ho
 ·cases ho
end
end Go.Eng
namespace Go.Eng
open Go.RowKit
theorem RepL.setAt {R:Reach} {w:World}:∀{xs:List AV} {ys:List Value} (c:Nat) {x:AV} {y:Value},RepL R w xs ys→ys[c]?=some y→Rep R w x y→RepL R w (xs.set c x) ys
 | [],_,c,x,y,h,_,_=>by simpa using h
 | _ :: _,_,0,x,y,h,hy,hx=>by
  cases h with | cons a b r =>
  simp at hy
  subst hy
  exact .cons a hx r
 | _ :: _,_,c+1,x,y,h,hy,hx=>by
  cases h with | cons a b r =>
  exact .cons a b (RepL.setAt c r (by simpa using hy) hx)
section
variable {C:Ctx} {D:Dyn} {σ:Sg} {γ:Ga} {a:Act} {w:World}
theorem Sim.remem (h:Sim C D σ γ a w) {m:Nat} {ts:List (Nat × (Nat × Nat))} (hm:γ m = .cl ts) {x:AV} (hV:∀cs,VarAt D.R w (σ m) (D.β m) cs→(∀t∈ts,cs[t.1]?=some (D.τ (lk t.2.1)))→VarAt D.R w x (D.β m) cs):Sim C D (upd σ m x) γ a w:=by
 have hr:=h.rng m (by rw [hm];rfl)
 refine ⟨h.size,h.defers,h.ntlt,h.rng,h.lrng,fun t ht=>?_,fun m' ts' hm'=>?_,h.tip,fun key s hs=>?_,h.sep,h.own,h.inv,h.ext,h.rlt,h.gl,h.fix⟩
 ·rw [upd_ne _ _ (show t≠m by omega)];exact h.slot t ht
 ·by_cases e:m'=m
  ·subst e
   rw [upd_same]
   rw [hm] at hm'
   cases hm'
   obtain ⟨cs,hv,ht⟩:=h.mem m' ts hm
   exact ⟨cs,hV cs hv ht,ht⟩
  ·rw [upd_ne _ _ e];exact h.mem m' ts' hm'
 ·have e:key≠m:=fun e=>by subst e;rw [hm] at hs;cases hs
  obtain ⟨h1,h2,h3⟩:=h.ps key s hs
  rw [upd_ne _ _ e]
  exact ⟨h1,h2,fun d s1 s' e1 e2=>by
   have e':d≠m:=fun e'=>by subst e';rw [hm] at e2;cases e2
   rw [upd_ne _ _ e,upd_ne _ _ e'];exact h3 d s1 s' e1 e2⟩
variable {o:Oper} {d:Nat} {K:Act→World→Prop} {Q:Exit→Act→World→Prop} (h:Sim C D σ γ a w)
include h
theorem op_stp {x v:Operand} {r q:Opd} {t:TypeId} {inf:TypeInfo} {m o':Nat} {cs:List AV} {ts:List (Nat × (Nat × Nat))} {k s:Nat} (hd:o.dst=none) (ho:o.op = .store t x v) (hi:C.P.info? t=some inf) (hz:inf.size=1)
  (hx:opdOK x r=true) (hs1:small C.nt [x]=true) (hv:opdOK v q=true) (hs2:small C.nt [v]=true) (hr:r.ev C.E σ = .pt) (hg:r.gh γ = .ptr m o') (hm:γ m = .cl ts) (hσ:σ m = .ag cs)
  (hq:q.ev C.E σ = .pt) (hgq:q.gh γ = .tip k s) (hfit:o'+1≤cs.length)
  (hK:∀D' a' w',Sim C D' (upd σ m (.ag (splice cs o' [.pt]))) (upd γ m (.cl (ts.filter (fun t=>t.1<o' || o'+1≤t.1)++[(o',k,s)]))) a' w'→K a' w'):o.wp C.P a w K Q:=by
 have q0:=h.opd hv hs2
 have hgv:=q0.gh (by rw [hq];simp) (by rw [hq];simp)
 rw [hgq] at hgv
 simp only [GhOK] at hgv
 have hL:RepL D.R w [.pt] (a.eval v).cells.toList:=by
  have hc1:(a.eval v).cells.toList=[a.eval v]:=by
   have e2:=hgv.2
   generalize a.eval v=y at e2
   cases y <;> first | rfl | (simp [Value.oneCell'] at e2)
  rw [hc1];exact .cons hgv.2 (.pt _) .nil
 refine op_stG h hd ho hi hz hx hs1 hv hs2 hr hg hm hσ (by rw [hq];simp) (by rw [hq];simp) hL rfl hfit ?_
 rw [hgq]
 simpa using hK
theorem op_ldz {k:Nat} (h9:k≠999999) (hd:o.dst=some d) (hl:d<C.nt) {x:Operand} {r:Opd} {t:TypeId} {m o' n c s:Nat} {inf:TypeInfo} {cs:List AV} {ts:List (Nat × (Nat × Nat))} {es:List AV} {sv:AV} (ho:o.op = .load t x) (hi:C.P.info? t=some inf) (hz:inf.size=n) (ha:isAggT C.P t=some true)
  (hx:opdOK x r=true) (hs1:small C.nt [x]=true) (hr:r.ev C.E σ = .pt) (hg:r.gh γ = .ptr m o') (hm:γ m = .cl ts) (hσ:σ m = .ag cs) (hc:(c,k,s)∈ts) (hcs:c<cs.length) (hk:γ (lk k) = .pv s) (hσk:σ (lk k) = .sl s es)
  (hp:partAV (cs.set c (.sl s es)) o' n true=some sv) (hK:∀D' a' w',Sim C D' (updL σ [d,m,lk k] [sv,.ag (cs.set c (.sl s es)),.dead]) (updL γ [d,m,lk k] [.no,.cl ts,.live s]) a' w'→K a' w'):o.wp C.P a w K Q:=by
 obtain ⟨R',hS,hR,_⟩:=h.thaw h9 hk hσk
 have hne:m≠lk k:=fun e=>by rw [e,hk] at hm;cases hm
 have hm':upd γ (lk k) (.live s) m = .cl ts:=by rw [upd_ne _ _ hne];exact hm
 have hS2:=hS.remem hm' (x := .ag (cs.set c (.sl s es))) (fun vs hv hts=>by
  rw [upd_ne _ _ hne,hσ] at hv
  have hnr:=hv.noR
  obtain ⟨elem,hh,hL⟩:=hv.ag
  refine ⟨elem,hh,.inr ⟨_,rfl,?_⟩,hnr⟩
  rw [List.length_set]
  have h1:=hts _ hc
  exact hL.setAt c (by rw [List.getElem?_take,if_pos hcs];exact h1) hR)
 have hre:r.ev C.E (upd (upd σ (lk k) .dead) m (.ag (cs.set c (.sl s es))))=r.ev C.E σ∧r.gh (upd γ (lk k) (.live s))=r.gh γ:=by
  cases r with
  | s t =>
   have ht:t<C.nt:=by cases x <;> simp [opdOK] at hx;subst hx;simpa [small] using hs1
   have h2:t≠lk k:=by have:=lk_ge k;have:=h.ntlt;omega
   have h1:t≠m:=by have:=h.rng m (by rw [hm];rfl);omega
   exact ⟨by simp only [Opd.ev];rw [upd_ne _ _ h1,upd_ne _ _ h2],by simp only [Opd.gh];rw [upd_ne _ _ h2]⟩
  | _=>exact ⟨rfl,rfl⟩
 refine op_ld hS2 hd hl ho hi hz ha (.inl rfl) hx hs1 (by rw [hre.1];exact hr) (by rw [hre.2];exact hg) hm' (by rw [upd_same]) hp ?_
 intro D' a' w' hF
 have eγ:updL γ [d,m,lk k] [.no,.cl ts,.live s]=upd (upd γ (lk k) (.live s)) d .no:=by
  simp only [updL]
  congr 1
  funext j
  by_cases e:j=m
  ·subst e;rw [upd_same,hm']
  ·rw [upd_ne _ _ e]
 refine hK D' a' w' ?_
 rw [eγ]
 exact hF
end
section
variable {C:Ctx} {sg:Nat→FSig}
theorem k_stp {m o':Nat}:KindOK C sg (.stp m o'):=by
 intro D σ γ a w dst op ty pos after guard rs ds gd ws gs K' Q h ho hk hsm hs hg hK
 simp only [keysOK,Bool.and_eq_true,decide_eq_true_eq,beq_iff_eq,Option.isNone_iff_eq_none] at hk
 obtain ⟨⟨⟨⟨hm1,hm2⟩,rfl⟩,rfl⟩,hk1⟩:=hk
 simp only [opOK] at ho
 split at ho
 ·rename_i t x v p q r
  simp only [Bool.and_eq_true,beq_iff_eq] at ho
  obtain ⟨⟨ht,hx⟩,hv⟩:=ho
  obtain ⟨inf,h1,h2⟩:=sizeT_spec ht
  cases q with
  | s j =>
   simp at hk1
   subst hk1
   simp only [List.map_cons,List.map_nil,sem] at hs
   split at hs
   ·rename_i cs heq
    simp only [List.cons.injEq,and_true,Opd.ev] at heq
    obtain ⟨e1,e2,e3⟩:=heq
    obtain ⟨p3,rfl⟩:=hs
    simp only [List.map_cons,List.map_nil,gsem] at hg
    split at hg
    ·rename_i m' o'' ts k s heq2
     simp only [List.cons.injEq,and_true,Opd.gh] at heq2
     obtain ⟨f1,f2,f3⟩:=heq2
     split at hg
     ·rename_i hc
      obtain ⟨rfl,rfl⟩:=hc
      cases hg
      exact op_stp h rfl rfl h1 h2 hx (small_mem hsm (by simp [Op.operands])) hv (small_mem hsm (by simp [Op.operands])) e1 f1 f2 e2 e3 f3 p3 hK
     ·cases hg
    ·cases hg
   ·cases hs
  | c=>simp at hk1
  | g=>simp at hk1
 ·cases ho
theorem k_ldz {m o' n c k s:Nat}:KindOK C sg (.ldz m o' n c k s):=by
 intro D σ γ a w dst op ty pos after guard rs ds gd ws gs K' Q h ho hk hsm hs hg hK
 simp only [keysOK,Bool.and_eq_true,decide_eq_true_eq,beq_iff_eq] at hk
 obtain ⟨⟨⟨h9,hm1,hm2⟩,hk0,hk1⟩,hk2⟩:=hk
 obtain ⟨d,rfl,hl,rfl⟩:=dOK0 hk2
 simp only [opOK] at ho
 split at ho
 ·rename_i t x r rest
  have ht2:=tail2 hk1
  simp only [List.drop_succ_cons,List.drop_zero] at ht2
  subst ht2
  simp only [Bool.and_eq_true] at ho
  obtain ⟨ht,ho⟩:=ho
  obtain ⟨inf,h1,h2,h3,h4⟩:=shapeOK_spec ht
  simp only [List.map_cons,List.map_nil,sem] at hs
  split at hs
  ·rename_i cs s' es heq
   simp only [List.cons.injEq,and_true,Opd.ev] at heq
   obtain ⟨x',rfl,p0,p1,rfl⟩:=hs
   simp only [List.map_cons,List.map_nil,gsem] at hg
   split at hg
   ·rename_i m' o'' ts s2 heq2
    simp only [List.cons.injEq,and_true,Opd.gh] at heq2
    split at hg
    ·rename_i hc
     obtain ⟨rfl,rfl,rfl,hin⟩:=hc
     cases hg
     exact op_ldz h h9 rfl hl rfl h1 h2 h3 ho (small_mem hsm (by simp [Op.operands])) heq.1 heq2.1 heq2.2.1 heq.2.1 hin p0 heq2.2.2 heq.2.2 p1 hK
    ·cases hg
   ·cases hg
  ·cases hs
 ·cases ho
end
end Go.Eng
namespace Go.Eng
open Go.RowKit
section
variable {C:Ctx} {sg:Nat→FSig}
theorem map_all {α β:Type} {f g:α→β}:∀{l:List α},l.map f=l.map g→∀x∈l,f x=g x
 | [],_,_,hx=>by cases hx
 | a :: l,h,x,hx=>by
  simp only [List.map_cons,List.cons.injEq] at h
  rcases List.mem_cons.1 hx with rfl | hx
  ·exact h.1
  ·exact map_all h.2 x hx
theorem k_call (hE:∀f,SpecOK C.P C.E.gl f (C.E.fs f)∧(C.E.fs f).sg=sg f) {f:Nat} {c:CS}:KindOK C sg (.call f c):=by
 intro D σ γ a w dst op ty pos after guard rs ds gd ws gs K' Q h ho hk hsm hs hg hK
 simp only [keysOK,Bool.and_eq_true,beq_iff_eq,decide_eq_true_eq] at hk
 obtain ⟨⟨⟨hmr,hk0,hk1⟩,hk2⟩,hnd⟩:=hk
 obtain ⟨d,rfl,hl,rfl⟩:=dOK0 hk2
 simp only [opOK] at ho
 split at ho
 ·rename_i g args ats
  simp only [Bool.and_eq_true,beq_iff_eq] at ho
  obtain ⟨⟨⟨⟨rfl,hpf⟩,hfit⟩,hx⟩,hsz⟩:=ho
  rw [←(hE f).2] at hfit
  obtain ⟨f1,f2,f3,f4,f5,f6,f7,f8,f9,f10,f11,f12,f13⟩:=fits_spec hfit
  have hdrop:rs.drop c.n=(c.mems++c.lks).map Opd.s:=slots_eq hk1
  have hrs:rs=rs.take c.n++(c.mems++c.lks).map Opd.s:=by rw [←hdrop,List.take_append_drop]
  have htl:(rs.take c.n).length=c.n:=by rw [←opdsOK_len hx];simpa using hsz
  have hsm':small C.nt args.toList=true:=small_sub hsm (fun x hx=>by
   have:x∈args:=by simpa using hx
   simp only [Op.operands,Call.operands,Array.toList_append,List.mem_append]
   exact .inr hx)
  simp only [sem] at hs
  obtain ⟨hs0,outs,hG,hol,rfl⟩:=hs
  have hmems:∀m∈c.mems,C.nt≤m∧m<1000000:=fun m hm=>by
   have:=List.all_eq_true.1 hmr m hm
   simpa using this
  -- the ghosts
  simp only [gsem] at hg
  rw [Option.ite_none_right_eq_some] at hg
  obtain ⟨hc,hg⟩:=hg
  ·cases hg
   obtain ⟨c1,c2,c3⟩:=hc
   rw [←List.map_drop,hdrop,List.map_map] at c1 c2 c3
   have hgh:(Opd.gh γ ∘ Opd.s)=γ:=rfl
   rw [hgh] at c1 c2 c3
   cases href:c.ref with
   | none =>
    have htin:=f9 href
    have hm:c.mems=(c.new.map (·.2)).toList:=by simp [CS.mems,href]
    rw [hm] at c1 c2 c3
    simp only [href,Option.map_none,Option.toList_none,List.length_nil,List.take_zero,Nat.add_zero,List.map_append] at c1 c2 c3
    have e1:((List.map γ (c.new.map (·.2)).toList++List.map γ c.lks).take (c.new.map (·.2)).toList.length)=List.map γ (c.new.map (·.2)).toList:=List.take_left' (by simp)
    rw [e1] at c1 c3
    have e2:((List.map γ (c.new.map (·.2)).toList++List.map γ c.lks).drop (List.map γ (c.new.map (·.2)).toList).length)=List.map γ c.lks:=List.drop_left' rfl
    rw [e2,htin] at c3
    simp only [CS.lks,htin,List.nil_append,List.map_nil,List.map_map,List.map_append] at c3
    have hnoall:∀t∈c.tout++c.own++c.tnew,γ (lk t.2.1) = .no:=map_all (by simpa [Function.comp_def] using c3)
    have hins:c.ins (rs.map (Opd.ev C.E σ))=(rs.take c.n).map (Opd.ev C.E σ):=by simp [CS.ins,href,List.map_take]
    rw [hins] at hG
    exact op_callA h rfl hl rfl hpf (hE f).1 hfit href hx hsm' hG hol (fun q hq=>by
      have hqm:q.2∈c.mems:=by rw [hm,hq];simp
      refine ⟨?_,hmems _ hqm⟩
      simp only [hq,Option.map_some,Option.toList_some,List.map_cons,List.map_nil,List.all_cons,List.all_nil,Bool.and_true,decide_eq_true_eq] at c1
      exact c1) (fun t ht=>hnoall t (by
       rcases List.mem_append.1 ht with ht | ht
       ·simp [ht]
       ·simp [ht])) hK
   | some im =>
    obtain ⟨i,m⟩:=im
    have hnew:c.new=none:=by
     rcases f11 with e | e
     ·rw [href] at e;cases e
     ·exact e
    have htnew:=f10 hnew
    have hm:c.mems=[m]:=by simp [CS.mems,href,hnew]
    rw [hm] at c1 c2 c3
    simp only [href,hnew,htnew,Option.map_none,Option.map_some,Option.toList_none,Option.toList_some,List.length_nil,List.take_zero,List.length_cons,Nat.zero_add,List.drop_zero,List.map_append,List.map_cons,List.map_nil,List.cons_append,List.nil_append,List.take_succ_cons,List.drop_succ_cons,List.append_nil] at c2 c3
    split at c2
    ·rename_i i' m' ts e1 e2
     cases e1
     simp only [List.cons.injEq,and_true] at e2
     simp only [decide_eq_true_eq] at c2
     obtain ⟨d1,d2,d3⟩:=c2
     simp only [CS.lks,htnew,List.append_nil,List.map_append,List.map_map,List.append_assoc] at c3
     rw [←List.map_append,←List.map_append (f:=fun _=>Gh.no)] at c3
     obtain ⟨p1,p2⟩:=List.append_inj c3 (by simp)
     have hlive:∀t∈c.tin,γ (lk t.2.1) = .live t.2.2:=map_all (by simpa [Function.comp_def] using p1)
     have hno:∀t∈c.tout++c.own,γ (lk t.2.1) = .no:=map_all (by simpa [Function.comp_def] using p2)
     rw [href] at hs0
     simp only at hs0
     have hpt:((rs.take c.n).map (Opd.ev C.E σ))[i]?=some .pt:=by
      rw [List.map_take,List.getElem?_take,if_pos d2];exact hs0
     have hgp:((rs.take c.n).map (Opd.gh γ))[i]?=some (.ptr m 0):=by
      rw [List.map_take,List.getElem?_take,if_pos d2];exact d1
     have hins:c.ins (rs.map (Opd.ev C.E σ))=((rs.take c.n).map (Opd.ev C.E σ)).set i (σ m):=by
      simp only [CS.ins,href,hnew,Option.map_none,Option.toList_none,List.length_nil,Nat.add_zero,List.map_take]
      congr 1
      have:rs[c.n]?=some (.s m):=by
       rw [hrs,List.getElem?_append_right (by omega),htl,hm];simp
      simp [List.getD,this,Opd.ev]
     rw [hins] at hG
     exact op_callB h rfl hl rfl hpf (hE f).1 hfit href hx hsm' hpt hgp e2 d3 hlive hG hol hno hK
    ·rename_i e _;cases e
    ·cases c2
 ·cases ho
theorem kind_ok (hE:∀f,SpecOK C.P C.E.gl f (C.E.fs f)∧(C.E.fs f).sg=sg f) (k:K):KindOK C sg k:=by
 cases k with
 | mv=>exact k_mv
 | pick=>exact k_pick
 | bin b=>exact k_bin
 | be n=>exact k_be
 | un b=>exact k_un
 | ci k=>exact k_ci
 | cs=>exact k_cs
 | sb=>exact k_sb
 | sbt k=>exact k_sbt
 | bs=>exact k_bs
 | len=>exact k_len
 | lns=>exact k_lns
 | mn=>exact k_mn
 | mx=>exact k_mx
 | ix s=>exact k_ix
 | si=>exact k_si
 | ai n s a=>exact k_ai
 | fe o n a=>exact k_fe
 | sc s l h=>exact k_sc
 | ss l h=>exact k_ss
 | bl s n=>exact k_bl
 | blt s n k=>exact k_blt
 | bd z p=>exact k_bd
 | al m z t=>exact k_al
 | bx m=>exact k_bx
 | ld m o n a=>exact k_ld
 | st m o n=>exact k_st
 | lr n a=>exact k_lr
 | fa m o d=>exact k_fa
 | fr o n a=>exact k_fr
 | nc m o=>exact k_nc
 | ncr=>exact k_ncr
 | ex i=>exact k_ex
 | ap k d s b=>exact k_ap
 | aps k d b=>exact k_aps
 | an d s b=>exact k_an
 | ans d b=>exact k_ans
 | mk d s b z=>exact k_mk
 | nl d s=>exact k_nl
 | pss k=>exact k_pss
 | pln k=>exact k_pln
 | pix k s=>exact k_pix
 | pfa k o=>exact k_pfa
 | pld k s n a=>exact k_pld
 | pst k s n=>exact k_pst
 | pfz k s=>exact k_pfz
 | pcall f n r i k s=>exact k_pcall hE
 | pcaln f n r i s=>exact k_pcaln hE
 | ppa k d s b=>exact k_ppa
 | pnl k=>exact k_pnl
 | apq k d q s b=>exact k_apq
 | la m n s=>exact k_la
 | ll m s=>exact k_ll
 | nls=>exact k_nls
 | xib=>exact k_xib
 | rcall f n r i m=>exact k_rcall hE
 | nev b =>
  intro D σ γ a w dst op ty pos after guard rs ds gd ws gs K' Q h ho hk hsm hs
  exact hs.elim
 | bxt m ts=>exact k_bxt
 | stt m o n ts=>exact k_stt
 | apv k d s b=>exact k_apv
 | mvz k s=>exact k_mvz
 | stp m o=>exact k_stp
 | ldz m o n c k s=>exact k_ldz
 | call f c=>exact k_call hE
end
end Go.Eng
namespace Go.Eng
open Go.RowKit
section
variable {X:Type}
def agree (l:List Nat) (σ τ:Nat→X):Prop:=∀k∈l,σ k=τ k
def LStep (R:(Nat→X)→List X→Prop) (ds:List Nat) (σ σ':Nat→X):Prop:=∃ws,R σ ws∧ws.length=ds.length∧σ'=updL σ ds ws
def Local (rs:List Nat) (R:(Nat→X)→List X→Prop):Prop:=∀σ τ ws,agree rs σ τ→R σ ws→R τ ws
theorem LStep.swap {R S:(Nat→X)→List X→Prop} {d e r s:List Nat} (lr:Local r R) (ls:Local s S) (h1:∀k∈d,k ∉ s) (h2:∀k∈d,k ∉ e) (h3:∀k∈e,k ∉ r) {σ σ1 σ2:Nat→X}
  (a:LStep R d σ σ1) (b:LStep S e σ1 σ2):∃σ1',LStep S e σ σ1'∧LStep R d σ1' σ2:=by
 obtain ⟨ws,hR,hl,rfl⟩:=a
 obtain ⟨vs,hS,hm,rfl⟩:=b
 exact ⟨updL σ e vs,⟨vs,ls _ _ _ (fun k hk=>updL_out fun hd=>h1 k hd hk) hS,hm,rfl⟩,ws,lr _ _ _ (fun k hk=>(updL_out fun he=>h3 k he hk).symm) hR,hl,updL_comm h2⟩
end
def RS (E:Env) (m:MOp) (σ:Sg) (ws:List AV):Prop :=
 match guardV σ m.gd with
 | some true=>sem E m.k (m.rs.map (Opd.ev E σ)) ws
 | some false=>ws=m.ds.map fun _ => .sk
 | none=>False
def RG (m:MOp) (γ:Ga) (gs:List Gh):Prop:=gsem m.k (m.rs.map (Opd.gh γ))=some gs
theorem mem_reads {m:MOp} {t:Nat} (h:Opd.s t∈m.rs):t∈m.reads :=
 List.mem_append_left _ (List.mem_filterMap.2 ⟨_,h,rfl⟩)
theorem RS_local (E:Env) (m:MOp):Local m.reads (RS E m):=by
 intro σ τ ws h
 have h1:guardV σ m.gd=guardV τ m.gd:=by
  cases hg:m.gd with
  | none=>rfl
  | some q =>
   obtain ⟨t,b⟩:=q
   have:σ t=τ t:=h t (by simp [MOp.reads,hg])
   simp only [guardV,this]
 have h2:m.rs.map (Opd.ev E σ)=m.rs.map (Opd.ev E τ):=List.map_congr_left fun r hr=>by
  cases r with
  | s t=>exact h t (mem_reads hr)
  | c x=>rfl
  | g n=>rfl
 unfold RS
 rw [h1,h2]
 exact id
theorem RG_local (m:MOp):Local m.reads (RG m):=by
 intro σ τ ws h
 have h2:m.rs.map (Opd.gh σ)=m.rs.map (Opd.gh τ):=List.map_congr_left fun r hr=>by
  cases r with
  | s t=>exact h t (mem_reads hr)
  | c x=>rfl
  | g n=>rfl
 unfold RG
 rw [h2]
 exact id
def run2 (E:Env):List MOp→Sg→Ga→Sg→Ga→Prop
 | [],σ,γ,σ',γ'=>σ'=σ∧γ'=γ
 | m :: ms,σ,γ,σ',γ'=>∃σ1 γ1,LStep (RS E m) m.ds σ σ1∧LStep (RG m) m.ds γ γ1∧run2 E ms σ1 γ1 σ' γ'
theorem clash_spec {n m:MOp} (h:clash n m=false):(∀k∈n.ds,k ∉ m.reads)∧(∀k∈n.ds,k ∉ m.ds)∧(∀k∈m.ds,k ∉ n.reads):=by
 simp only [clash,Bool.or_eq_false_iff,List.any_eq_false,Bool.not_eq_true,List.contains_eq_mem,decide_eq_false_iff_not] at h
 exact ⟨fun k hk=>(h.1 k hk).1,fun k hk=>(h.1 k hk).2,fun k hk=>h.2 k hk⟩
theorem run2_front {E:Env} {m:MOp} {B:List MOp}:∀{A:List MOp} {σ σ':Sg} {γ γ':Ga},run2 E (A++m :: B) σ γ σ' γ'→(∀n∈A,clash n m=false)→run2 E (m :: (A++B)) σ γ σ' γ'
 | [],_,_,_,_,h,_=>h
 | n :: A,σ,σ',γ,γ',h,hc=>by
  obtain ⟨σ1,γ1,s,g,h⟩:=h
  obtain ⟨σ2,γ2,s2,g2,h⟩:=run2_front h fun x hx=>hc x (List.mem_cons_of_mem _ hx)
  obtain ⟨c1,c2,c3⟩:=clash_spec (hc n (List.mem_cons_self ..))
  obtain ⟨σ3,s3,s4⟩:=s.swap (RS_local E n) (RS_local E m) c1 c2 c3 s2
  obtain ⟨γ3,g3,g4⟩:=g.swap (RG_local n) (RG_local m) c1 c2 c3 g2
  exact ⟨σ3,γ3,s3,g3,σ2,γ2,s4,g4,h⟩
theorem GL.get_updL:∀{G:GL} {ts:List Nat} {xs:List Gh},(GL.updL G ts xs).get=Eng.updL G.get ts xs
 | G,t :: ts,x :: xs=>by
  funext k
  simp only [GL.updL,GL.get,Eng.updL,upd,GL.get_updL (G:=G) (ts:=ts) (xs:=xs)]
 | G,[],_=>by simp [GL.updL,Eng.updL]
 | G,_ :: _,[]=>by simp [GL.updL,Eng.updL]
theorem run2_of {E:Env}:∀{ms:List MOp} {σ σ':Sg} {G G':GL},runS E ms σ σ'→grun ms G=some G'→run2 E ms σ G.get σ' G'.get
 | [],_,_,_,_,h,g=>by
  simp only [grun,Option.some.injEq] at g
  subst g
  exact ⟨h,rfl⟩
 | m :: ms,σ,σ',G,G',⟨σ1,s,h⟩,g=>by
  simp only [grun,gstep,Option.bind_eq_some_iff] at g
  obtain ⟨G1,⟨gs,g1,g2⟩,g3⟩:=g
  rw [Option.ite_none_right_eq_some] at g2
  obtain ⟨hl,e⟩:=g2
  cases e
  exact ⟨σ1,_,s,⟨gs,g1,hl,GL.get_updL⟩,run2_of h g3⟩
section
variable {C:Ctx} {D:Dyn} {σ:Sg} {γ:Ga} {a:Act} {w:World}
theorem Sim.ment (h:Sim C D σ γ a w) (r:Opd):Ment γ (r.gh γ):=by
 cases r with
 | s t=>exact h.inv t
 | c x=>trivial
 | g n=>trivial
theorem strip_ok {γ:Ga} {g:Gh} (h:Ment γ g):g.strip.isCl=false∧g.strip.isLk=false∧Ment γ g.strip:=by
 cases g <;> first | exact ⟨rfl,rfl,trivial⟩ | exact ⟨rfl,rfl,h⟩
theorem comp_ok {γ:Ga} {g:Gh} (h:Ment γ g) (i:Nat):(g.comp i).isCl=false∧(g.comp i).isLk=false∧Ment γ (g.comp i):=by
 cases g with
 | tup ts p =>
  simp only [Gh.comp]
  split
  ·rename_i q k s e
   exact ⟨rfl,rfl,h.1 _ (List.mem_of_find?_eq_some e)⟩
  ·split
   ·rename_i j m
    split
    ·exact ⟨rfl,rfl,h.2 _ rfl⟩
    ·exact ⟨rfl,rfl,trivial⟩
   ·exact ⟨rfl,rfl,trivial⟩
 | _=>exact ⟨rfl,rfl,trivial⟩
theorem dOK1 {nt:Nat} {dst:Option Nat} {x:Nat} {l ds:List Nat} (h:(match dst with | some d=>decide (d<nt)&&ds == d :: x :: l | none=>false)=true) (hl:ds.length=1):False:=by
 obtain ⟨d,_,_,rfl⟩:=dOK0 h
 simp at hl
theorem dOK2 {nt:Nat} {dst:Option Nat} {l ds:List Nat} (hl:ds.length=1) (h:(match dst with | some d=>decide (d<nt)&&ds == d :: l | none=>false)=true):∃d,dst=some d∧d<nt∧ds=[d]∧l=[]:=by
 obtain ⟨d,h1,h2,rfl⟩:=dOK0 h
 have:l=[]:=by simpa using hl
 subst this
 exact ⟨d,h1,h2,rfl,rfl⟩
theorem one_gh (h:Sim C D σ γ a w) {k:K} {rs:List Opd} {ds:List Nat} {gd:Option (Nat × Bool)} {dst:Option Nat} {gs:List Gh} (hk:keysOK C.nt dst ⟨k,rs,ds,gd⟩=true)
  (hl:ds.length=1) (hd:dst.isSome=true) (hg:gsem k (rs.map (Opd.gh γ))=some gs) :
  ∃d g,dst=some d∧d<C.nt∧ds=[d]∧(gs.length=1→gs=[g])∧g.isCl=false∧g.isLk=false∧Ment γ g:=by
 have base:=fun (l:List Nat)=>dOK2 (nt:=C.nt) (dst:=dst) (l:=l) hl
 cases k
 case mv =>
  obtain ⟨d,h1,h2,h3,-⟩:=base [] hk
  simp only [gsem] at hg
  split at hg
  ·rename_i g e
   cases hg
   cases rs with
   | nil=>simp at e
   | cons r rs =>
    simp only [List.map_cons,List.cons.injEq] at e
    obtain ⟨q1,q2,q3⟩:=strip_ok (e.1 ▸ h.ment r)
    exact ⟨d,_,h1,h2,h3,fun _=>rfl,q1,q2,q3⟩
  ·cases hg
 case ex i =>
  obtain ⟨d,h1,h2,h3,-⟩:=base [] hk
  simp only [gsem] at hg
  split at hg
  ·rename_i g e
   cases hg
   cases rs with
   | nil=>simp at e
   | cons r rs =>
    simp only [List.map_cons,List.cons.injEq] at e
    obtain ⟨q1,q2,q3⟩:=comp_ok (e.1 ▸ h.ment r) i
    exact ⟨d,_,h1,h2,h3,fun _=>rfl,q1,q2,q3⟩
  ·cases hg
 case fa m o x =>
  obtain ⟨d,h1,h2,h3,-⟩:=base [] hk
  simp only [gsem] at hg
  split at hg
  ·rename_i m' o' e
   rw [Option.ite_none_right_eq_some] at hg
   obtain ⟨⟨rfl,rfl⟩,hg⟩:=hg
   cases hg
   cases rs with
   | nil=>simp at e
   | cons r rs =>
    simp only [List.map_cons,List.cons.injEq] at e
    have:=e.1 ▸ h.ment r
    exact ⟨d,_,h1,h2,h3,fun _=>rfl,rfl,rfl,this⟩
  ·cases hg
 case nc m o =>
  obtain ⟨d,h1,h2,h3,-⟩:=base [] hk
  simp only [gsem] at hg
  split at hg
  ·rename_i m' o' e
   rw [Option.ite_none_right_eq_some] at hg
   obtain ⟨⟨rfl,rfl⟩,hg⟩:=hg
   cases hg
   cases rs with
   | nil=>simp at e
   | cons r rs =>
    simp only [List.map_cons,List.cons.injEq] at e
    have:=e.1 ▸ h.ment r
    exact ⟨d,_,h1,h2,h3,fun _=>rfl,rfl,rfl,this⟩
  ·cases hg
 case ld m o n agg =>
  simp only [keysOK,Bool.and_eq_true] at hk
  obtain ⟨d,h1,h2,h3,-⟩:=base [] hk.2
  simp only [gsem] at hg
  split at hg
  ·rename_i m' o' ts e
   rw [Option.ite_none_right_eq_some] at hg
   obtain ⟨⟨rfl,rfl⟩,hg⟩:=hg
   cases hg
   have hm:Ment γ (.cl ts):=by
    match rs,e with
    | [r,q],e =>
     simp only [List.map_cons,List.map_nil,List.cons.injEq] at e
     exact e.2.1 ▸ h.ment q
   refine ⟨d,_,h1,h2,h3,fun _=>rfl,?_⟩
   split
   ·exact ⟨rfl,rfl,trivial⟩
   ·split
    ·rename_i q k s e
     exact ⟨rfl,rfl,hm _ (List.mem_of_find?_eq_some e)⟩
    ·exact ⟨rfl,rfl,trivial⟩
  ·cases hg
 case call f c =>
  simp only [keysOK,Bool.and_eq_true] at hk
  obtain ⟨d,h1,h2,h3,h4⟩:=base _ hk.1.2
  simp only [gsem] at hg
  rw [Option.ite_none_right_eq_some] at hg
  obtain ⟨_,hg⟩:=hg
  cases hg
  rw [List.append_eq_nil_iff] at h4
  obtain ⟨h4,h5⟩:=h4
  simp only [CS.mems,List.append_eq_nil_iff] at h4
  simp only [CS.lks,List.map_eq_nil_iff,List.append_eq_nil_iff] at h5
  have hn:c.new=none:=by cases hc:c.new <;> simp_all
  refine ⟨d,c.dg,h1,h2,h3,fun hl=>?_,?_⟩
  ·simp only [List.length_cons,Nat.add_eq_right,List.length_eq_zero_iff] at hl
   rw [hl]
  ·simp only [CS.dg,hn,h5.1.2]
   split
   ·exact ⟨rfl,rfl,trivial⟩
   ·refine ⟨rfl,rfl,?_⟩
    simp [Ment]
 case st m o n =>
  simp only [keysOK,Bool.and_eq_true,Option.isNone_iff_eq_none] at hk
  rw [hk.1.1.2] at hd
  cases hd
 case al m z ts=>simp only [keysOK,Bool.and_eq_true] at hk;exact (dOK1 hk.2 hl).elim
 case bx m=>simp only [keysOK,Bool.and_eq_true] at hk;exact (dOK1 hk.2 hl).elim
 case sbt k=>simp only [keysOK,Bool.and_eq_true] at hk;exact (dOK1 hk.2 hl).elim
 case blt s n k=>simp only [keysOK,Bool.and_eq_true] at hk;exact (dOK1 hk.2 hl).elim
 case ap=>simp only [keysOK,Bool.and_eq_true] at hk;exact (dOK1 hk.2 hl).elim
 case aps=>simp only [keysOK,Bool.and_eq_true] at hk;exact (dOK1 hk.2 hl).elim
 case an=>simp only [keysOK,Bool.and_eq_true] at hk;exact (dOK1 hk.2 hl).elim
 case ans=>simp only [keysOK,Bool.and_eq_true] at hk;exact (dOK1 hk.2 hl).elim
 case mk=>simp only [keysOK,Bool.and_eq_true] at hk;exact (dOK1 hk.2 hl).elim
 case nl=>simp only [keysOK,Bool.and_eq_true] at hk;exact (dOK1 hk.2 hl).elim
 case ppa=>simp only [keysOK,Bool.and_eq_true] at hk;exact (dOK1 hk.2 hl).elim
 case apq=>simp only [keysOK,Bool.and_eq_true] at hk;exact (dOK1 hk.2 hl).elim
 case pcall f n nres i k s =>
  simp only [keysOK,Bool.and_eq_true] at hk
  obtain ⟨d,h1,h2,h3,-⟩:=base [] hk.2
  simp only [gsem] at hg
  rw [Option.ite_none_right_eq_some] at hg
  obtain ⟨_,hg⟩:=hg
  cases hg
  exact ⟨d,.no,h1,h2,h3,fun _=>rfl,rfl,rfl,trivial⟩
 case pcaln f n nres i s =>
  simp only [keysOK,Bool.and_eq_true] at hk
  obtain ⟨d,h1,h2,h3,-⟩:=base [] hk.2
  simp only [gsem,Option.some.injEq] at hg
  exact ⟨d,.no,h1,h2,h3,fun _=>hg.symm,rfl,rfl,trivial⟩
 case pnl k =>
  simp only [keysOK,Bool.and_eq_true] at hk
  obtain ⟨d,h1,h2,h3,-⟩:=base [] hk.2
  simp only [gsem] at hg
  split at hg
  ·rw [Option.ite_none_right_eq_some] at hg
   obtain ⟨_,hg⟩:=hg
   cases hg
   exact ⟨d,.no,h1,h2,h3,fun _=>rfl,rfl,rfl,trivial⟩
  ·cases hg
 case ll m s =>
  simp only [keysOK,Bool.and_eq_true] at hk
  obtain ⟨d,h1,h2,h3,-⟩:=base [] hk.2
  simp only [gsem] at hg
  split at hg
  ·rw [Option.ite_none_right_eq_some] at hg
   obtain ⟨_,hg⟩:=hg
   cases hg
   exact ⟨d,.no,h1,h2,h3,fun _=>rfl,rfl,rfl,trivial⟩
  ·cases hg
 case la m n s =>
  simp only [keysOK,Bool.and_eq_true] at hk
  obtain ⟨d,h1,h2,h3,-⟩:=base [] hk.2
  simp only [gsem] at hg
  split at hg
  ·rename_i m' o' g0 ts e
   rw [Option.ite_none_right_eq_some] at hg
   obtain ⟨⟨rfl,rfl,_⟩,hg⟩:=hg
   cases hg
   cases rs with
   | nil=>simp at e
   | cons r rs =>
    simp only [List.map_cons,List.cons.injEq] at e
    have:=e.1 ▸ h.ment r
    exact ⟨d,_,h1,h2,h3,fun _=>rfl,rfl,rfl,this⟩
  ·cases hg
 case apv=>simp only [keysOK,Bool.and_eq_true] at hk;exact (dOK1 hk.2 hl).elim
 case mvz k s =>
  simp only [keysOK,Bool.and_eq_true] at hk
  obtain ⟨_,hk⟩:=hk
  split at hk
  ·simp only [Bool.and_eq_true] at hk
   exact (dOK1 hk.2 hl).elim
  ·cases hk
 case ldz=>simp only [keysOK,Bool.and_eq_true] at hk;exact (dOK1 hk.2 hl).elim
 case stp m o =>
  simp only [keysOK,Bool.and_eq_true,Option.isNone_iff_eq_none] at hk
  rw [hk.1.1.2] at hd
  cases hd
 case pss=>simp only [keysOK,Bool.and_eq_true] at hk;exact (dOK1 hk.2 hl).elim
 case pfz k s =>
  simp only [keysOK,Bool.and_eq_true] at hk
  obtain ⟨_,hk⟩:=hk
  split at hk
  ·simp only [Bool.and_eq_true] at hk
   exact (dOK1 hk.2 hl).elim
  ·cases hk
 case pst k s n =>
  simp only [keysOK,Bool.and_eq_true,Option.isNone_iff_eq_none] at hk
  rw [hk.1.1] at hd
  cases hd
 case rcall f n nres i m =>
  simp only [keysOK,Bool.and_eq_true] at hk
  obtain ⟨d,h1,h2,h3,-⟩:=base [] hk.2
  simp only [gsem] at hg
  split at hg
  ·rw [Option.ite_none_right_eq_some] at hg
   obtain ⟨_,hg⟩:=hg
   cases hg
   exact ⟨d,.no,h1,h2,h3,fun _=>rfl,rfl,rfl,trivial⟩
  ·cases hg
 case nev b =>
  cases b with
  | true =>
   obtain ⟨d,h1,h2,h3,-⟩:=base [] hk
   simp only [gsem,if_true,Option.some.injEq] at hg
   exact ⟨d,.no,h1,h2,h3,fun _=>hg.symm,rfl,rfl,trivial⟩
  | false =>
   simp only [keysOK,Bool.and_eq_true,Option.isNone_iff_eq_none] at hk
   rw [hk.1] at hd
   cases hd
 case bxt=>simp only [keysOK,Bool.and_eq_true] at hk;exact (dOK1 hk.2 hl).elim
 case stt m o n ts =>
  simp only [keysOK,Bool.and_eq_true,Option.isNone_iff_eq_none] at hk
  rw [hk.1.1.1.2] at hd
  cases hd
 case pln k =>
  simp only [keysOK,Bool.and_eq_true] at hk
  obtain ⟨d,h1,h2,h3,-⟩:=base [] hk.2
  simp only [gsem] at hg
  split at hg
  ·rw [Option.ite_none_right_eq_some] at hg
   obtain ⟨_,hg⟩:=hg
   cases hg
   exact ⟨d,.no,h1,h2,h3,fun _=>rfl,rfl,rfl,trivial⟩
  ·cases hg
 case pld k s n agg =>
  simp only [keysOK,Bool.and_eq_true] at hk
  obtain ⟨d,h1,h2,h3,-⟩:=base [] hk.2
  simp only [gsem] at hg
  split at hg
  ·rw [Option.ite_none_right_eq_some] at hg
   obtain ⟨_,hg⟩:=hg
   cases hg
   exact ⟨d,.no,h1,h2,h3,fun _=>rfl,rfl,rfl,trivial⟩
  ·cases hg
 case pix k s =>
  simp only [keysOK,Bool.and_eq_true] at hk
  obtain ⟨d,h1,h2,h3,-⟩:=base [] hk.2
  simp only [gsem] at hg
  split at hg
  ·rename_i k' s0 g0 s1 e
   rw [Option.ite_none_right_eq_some] at hg
   obtain ⟨⟨rfl,rfl⟩,hg⟩:=hg
   cases hg
   cases rs with
   | nil=>simp at e
   | cons r rs =>
    simp only [List.map_cons,List.cons.injEq] at e
    have:=e.1 ▸ h.ment r
    exact ⟨d,_,h1,h2,h3,fun _=>rfl,rfl,rfl,this⟩
  ·cases hg
 case pfa k o =>
  obtain ⟨d,h1,h2,h3,-⟩:=base [] hk
  simp only [gsem] at hg
  split at hg
  ·rename_i k' e
   rw [Option.ite_none_right_eq_some] at hg
   obtain ⟨rfl,hg⟩:=hg
   cases hg
   cases rs with
   | nil=>simp at e
   | cons r rs =>
    simp only [List.map_cons,List.cons.injEq] at e
    have:=e.1 ▸ h.ment r
    exact ⟨d,_,h1,h2,h3,fun _=>rfl,rfl,rfl,this⟩
  ·cases hg
 all_goals
  obtain ⟨d,h1,h2,h3,-⟩:=base [] hk
  simp only [gsem,Option.some.injEq] at hg
  exact ⟨d,.no,h1,h2,h3,fun _=>hg.symm,rfl,rfl,trivial⟩
theorem yield_of (h:Sim C D σ γ a w) {ops:Array Oper} {j d:Nat} {x:Bool} (hd:d<C.nt) (hj:(ops[j]?).bind (·.dst)=some d) (hx:σ d = .v (.bool x)):yielded ops a.tmps j=some x:=by
 have hs:d<a.tmps.size:=by rw [h.size];exact hd
 have h0:=h.slot d hd
 rw [hx] at h0
 rcases h0 with e | ⟨e,_⟩
 ·cases e
 ·have e2:a.tmps[d]?=some (.bool x):=by
   rw [Array.getElem?_eq_getElem hs]
   have e3:a.tmps.getD d undef=a.tmps[d]:=by simp [Array.getD,hs]
   rw [e3] at e
   generalize a.tmps[d]=y at e
   cases e
   rfl
  simp [yielded,hj,e2]
theorem yield_sk (h:Sim C D σ γ a w) {ops:Array Oper} {j d:Nat} (hd:d<C.nt) (hj:(ops[j]?).bind (·.dst)=some d) (hx:σ d = .sk):yielded ops a.tmps j=none:=by
 have hs:d<a.tmps.size:=by rw [h.size];exact hd
 have h0:=h.slot d hd
 rw [hx] at h0
 rcases h0 with e | ⟨e,_⟩
 ·cases e
 ·have e2:a.tmps[d]?=some (.tuple ⟨[]⟩):=by
   rw [Array.getElem?_eq_getElem hs]
   have e3:a.tmps.getD d undef=a.tmps[d]:=by simp [Array.getD,hs]
   rw [e3] at e
   generalize a.tmps[d]=y at e
   cases e with
   | tu e=>cases e;rfl
  simp [yielded,hj,e2]
variable {sg:Nat→FSig} {K:Act→World→Prop} {Q:Exit→Act→World→Prop}
theorem step_ok (hE:∀f,SpecOK C.P C.E.gl f (C.E.fs f)∧(C.E.fs f).sg=sg f) {ops:Array Oper} {o:Oper} {m:MOp} {σ1:Sg} {γ1:Ga} (h:Sim C D σ γ a w)
  (ho:opOK C.P sg o m=true) (hk:keysOK C.nt o.dst m=true) (hg:guardOK C.nt ops o m=true) (hsm:small C.nt o.op.operands.toList=true)
  (s1:LStep (RS C.E m) m.ds σ σ1) (s2:LStep (RG m) m.ds γ γ1) (hK:∀D' a' w',Sim C D' σ1 γ1 a' w'→K a' w') :
  if Region.wanted o (yielded ops a.tmps) then o.wp C.P a w K Q∨(o.asks C.P a w∧LetsOut Q) else K (a.put o.dst undef) w:=by
 obtain ⟨k,rs,ds,gd⟩:=m
 obtain ⟨dst,op,ty,pos,after,guard⟩:=o
 obtain ⟨ws,r1,l1,rfl⟩:=s1
 obtain ⟨gs,r2,l2,rfl⟩:=s2
 unfold RG at r2
 simp only [RS] at r1
 simp only [guardOK] at hg
 split at hg
 ·simp only [guardV] at r1
  simp only [Region.wanted,if_true]
  exact .inl (kind_ok hE k h ho hk hsm r1 r2 hK)
 ·rename_i j b t b'
  simp only [Bool.and_eq_true,beq_iff_eq,decide_eq_true_eq] at hg
  obtain ⟨⟨⟨⟨rfl,ht⟩,hj⟩,hl⟩,hd⟩:=hg
  split at hj
  ·rename_i d hd'
   have hj:d=t:=by simpa using hj
   subst hj
   simp only [guardV] at r1
   cases hx:σ d with
   | v z =>
    cases z with
    | bool x =>
     have hy:=yield_of h ht hd' hx
     simp only [hx] at r1
     cases hw:x == b with
     | true =>
      simp only [hw] at r1
      have hw':(some x == some b)=true:=by simpa using hw
      simp only [Region.wanted,hy,hw',if_true]
      exact .inl (kind_ok hE k h ho hk hsm r1 r2 hK)
     | false =>
      simp only [hw] at r1
      have hw':(some x == some b)=false:=by simpa using hw
      simp only [Region.wanted,hy,hw',Bool.false_eq_true,if_false]
      subst r1
      obtain ⟨d',g,e1,e2,e3,e4,e5,e6,e7⟩:=one_gh h hk hl hd r2
      dsimp only at e1 hl l2 hK ⊢
      subst e1
      subst e3
      have:=e4 l2
      subst this
      exact hK _ _ _ (h.put e2 (.inr ⟨.tu .nil,fun h=>absurd rfl h⟩) e5 e6 e7)
    | _=>simp only [hx] at r1
   | tu l =>
    cases l with
    | cons y l=>simp only [hx] at r1
    | nil =>
     have hy:=yield_sk h ht hd' hx
     simp only [hx] at r1
     have hw':((none:Option Bool) == some b)=false:=rfl
     simp only [Region.wanted,hy,hw',Bool.false_eq_true,if_false]
     subst r1
     obtain ⟨d',g,e1,e2,e3,e4,e5,e6,e7⟩:=one_gh h hk hl hd r2
     dsimp only at e1 hl l2 hK ⊢
     subst e1
     subst e3
     have:=e4 l2
     subst this
     exact hK _ _ _ (h.put e2 (.inr ⟨.tu .nil,fun h=>absurd rfl h⟩) e5 e6 e7)
   | _=>simp only [hx] at r1
  ·cases hj
 ·cases hg
abbrev oneOK (P:Program) (sg:Nat→FSig) (nt:Nat) (ops:Array Oper) (o:Oper) (m:MOp):Bool :=
 opOK P sg o m&&keysOK nt o.dst m&&guardOK nt ops o m&&small nt o.op.operands.toList
theorem list_ok (hE:∀f,SpecOK C.P C.E.gl f (C.E.fs f)∧(C.E.fs f).sg=sg f) {ops:Array Oper} {σ':Sg} {γ':Ga}:∀{os:List Oper} {ms:List MOp} {D:Dyn} {σ:Sg} {γ:Ga} {a:Act} {w:World},Sim C D σ γ a w →
  all2 (oneOK C.P sg C.nt ops) os ms=true→run2 C.E ms σ γ σ' γ'→(∀D' a' w',Sim C D' σ' γ' a' w'→Q .normal a' w')→wpList C.P ops Q os a w
 | [],[],_,_,_,_,_,h,_,⟨e1,e2⟩,hQ=>by subst e1;subst e2;exact hQ _ _ _ h
 | o :: os,m :: ms,_,_,_,_,_,h,hc,⟨σ1,γ1,s1,s2,hr⟩,hQ=>by
  simp only [all2,oneOK,Bool.and_eq_true] at hc
  obtain ⟨⟨⟨⟨c1,c2⟩,c3⟩,c4⟩,c5⟩:=hc
  unfold wpList
  exact step_ok hE h c1 c2 c3 c4 s1 s2 fun D' a' w' h'=>list_ok hE h' (by simpa only [all2,oneOK] using c5) hr hQ
 | [],_ :: _,_,_,_,_,_,_,hc,_,_=>by simp [all2] at hc
 | _ :: _,[],_,_,_,_,_,_,hc,_,_=>by simp [all2] at hc
end
end Go.Eng
namespace Go.Eng
open Go.RowKit
theorem all2_get {A B:Type} {f:A→B→Bool}:∀{as:List A} {bs:List B} {i:Nat} {x:A},all2 f as bs=true→as[i]?=some x→∃y,bs[i]?=some y∧f x y=true
 | a :: as,b :: bs,0,x,h,e=>by
  simp only [all2,Bool.and_eq_true] at h
  simp only [List.getElem?_cons_zero,Option.some.injEq] at e
  subst e
  exact ⟨b,rfl,h.1⟩
 | a :: as,b :: bs,i+1,x,h,e=>by
  simp only [all2,Bool.and_eq_true] at h
  simp only [List.getElem?_cons_succ] at e ⊢
  exact all2_get h.2 e
 | [],_,_,_,_,e=>by simp at e
 | _ :: _,[],_,_,h,_=>by simp [all2] at h
theorem all2_len {A B:Type} {f:A→B→Bool}:∀{as:List A} {bs:List B},all2 f as bs=true→as.length=bs.length
 | [],[],_=>rfl
 | _ :: _,_ :: _,h=>by simp only [all2,Bool.and_eq_true] at h;simp [all2_len h.2]
 | [],_ :: _,h=>by simp [all2] at h
 | _ :: _,[],h=>by simp [all2] at h
section
variable {L:Nat→Prop} {ops:List Oper}
theorem befores_fold (hcl:∀i o,ops[i]?=some o→L i→∀e∈befs o,L e):∀(rest pre:List Oper) (acc:List (List Nat)),ops=pre++rest→acc.length=pre.length →
  (∀i o,i<acc.length→ops[i]?=some o→(∀e∈befs o,L e)→∀j∈acc.getD i [],L j) →
  ∀i o,ops[i]?=some o→(∀e∈befs o,L e)→∀j∈(rest.foldl (fun acc o=>acc++[(befs o).flatMap fun e=>e :: (acc.getD e [])]) acc).getD i [],L j
 | [],pre,acc,e,hl,inv=>by
  intro i o hi hb j hj
  simp only [List.append_nil] at e
  subst e
  have:i<acc.length:=by
   rw [hl]
   exact (List.getElem?_eq_some_iff.1 hi).1
  exact inv i o this hi hb j hj
 | r :: rest,pre,acc,e,hl,inv=>by
  simp only [List.foldl_cons]
  refine befores_fold hcl rest (pre++[r]) _ (by simp [e]) (by simp [hl]) ?_
  intro i o hi ho hb j hj
  by_cases hlt:i<acc.length
  ·rw [List.getD_eq_getElem?_getD,List.getElem?_append_left hlt,←List.getD_eq_getElem?_getD] at hj
   exact inv i o hlt ho hb j hj
  ·have hi':i=acc.length:=by simp at hi;omega
   subst hi'
   rw [List.getD_eq_getElem?_getD,List.getElem?_append_right (Nat.le_refl _)] at hj
   simp only [Nat.sub_self,List.getElem?_cons_zero,Option.getD_some,List.mem_flatMap,List.mem_cons] at hj
   have hr:o=r:=by
    rw [e,hl,List.getElem?_append_right (Nat.le_refl _)] at ho
    simpa using ho.symm
   subst hr
   obtain ⟨x,hx,rfl | hj⟩:=hj
   ·exact hb _ hx
   ·by_cases hxl:x<acc.length
    ·have hxo:x<ops.length:=by rw [e];simp;omega
     exact inv x _ hxl (List.getElem?_eq_getElem hxo) (hcl x _ (List.getElem?_eq_getElem hxo) (hb x hx)) j hj
    ·simp [List.getD,List.getElem?_eq_none (Nat.le_of_not_lt hxl)] at hj
theorem befores_in (hcl:∀i o,ops[i]?=some o→L i→∀e∈befs o,L e) {i:Nat} {o:Oper} (hi:ops[i]?=some o) (hb:∀e∈befs o,L e):∀j∈(befores ops).getD i [],L j :=
 befores_fold hcl ops [] [] rfl rfl (fun _ _ h=>by simp at h) i o hi hb
end
theorem zip_all {A:Type} {l:List A} {p:A × Nat→Bool} (h:l.zipIdx.all p=true) {i:Nat} {x:A} (hi:l[i]?=some x):p (x,i)=true :=
 List.all_eq_true.1 h _ (List.mem_zipIdx_iff_getElem?.2 (by simpa using hi))
theorem getD_set (l:Array Bool) (i x:Nat) (d:Bool):(l.setIfInBounds i true).getD x d=if i=x then (if i<l.size then true else d) else l.getD x d:=by
 simp only [Array.getD_eq_getD_getElem?,Array.getElem?_setIfInBounds]
 split
 ·split <;> rfl
 ·rfl
def remains (n:Nat) (listed:Array Bool):List Nat:=(List.range n).filter fun i=>!listed.getD i true
theorem remains_set {n i:Nat} {listed:Array Bool} (hs:listed.size=n) (hi:i<n):remains n (listed.setIfInBounds i true)=(remains n listed).filter (fun j=>decide (j≠i)):=by
 simp only [remains,List.filter_filter]
 apply List.filter_congr
 intro j hj
 have hj:j<n:=by simpa using hj
 by_cases h:j=i
 ·subst h
  simp [Array.getD,hs,hi]
 ·have:i≠j:=fun e=>h e.symm
  simp [Array.getD,hs,hj,Array.getElem_setIfInBounds,h,this]
section
variable {C:Ctx} {sg:Nat→FSig} {Q:Exit→Act→World→Prop}
theorem listed_iff {listed:Array Bool} {n i:Nat} (hs:listed.size=n) (hi:i<n):listed.getD i true=listed.getD i false:=by simp [Array.getD,hs,hi]
theorem any_ok (hE:∀f,SpecOK C.P C.E.gl f (C.E.fs f)∧(C.E.fs f).sg=sg f) {ops:Array Oper} {ms:List MOp} (hc:all2 (oneOK C.P sg C.nt ops) ops.toList ms=true) (hord:orderOK ops.toList ms=true)
  {σ':Sg} {γ':Ga} (hQ:∀D' a' w',Sim C D' σ' γ' a' w'→Q .normal a' w') :
  ∀(fuel:Nat) {listed:Array Bool} {D:Dyn} {σ:Sg} {γ:Ga} {a:Act} {w:World},Sim C D σ γ a w→listed.size=ops.size →
   (∀i o,ops.toList[i]?=some o→listed.getD i false=true→∀e∈befs o,listed.getD e false=true) →
   (remains ops.size listed).length≤fuel→run2 C.E ((remains ops.size listed).filterMap (ms[·]?)) σ γ σ' γ'→wpAny C.P .any ops Q fuel listed a w:=by
 simp only [orderOK,Bool.and_eq_true] at hord
 obtain ⟨hed,hcl⟩:=hord
 -- where nothing is ready,nothing remains
 have hnil:∀{listed:Array Bool},listed.size=ops.size→Region.ready .any ops listed=[]→remains ops.size listed=[]:=by
  intro listed hs hr
  cases hrem:remains ops.size listed with
  | nil=>rfl
  | cons i rest =>
   exfalso
   have hmem:i∈remains ops.size listed:=by rw [hrem];exact List.mem_cons_self ..
   have hmem':=hmem
   simp only [remains,List.mem_filter,List.mem_range,Bool.not_eq_true'] at hmem'
   obtain ⟨hi,hl⟩:=hmem'
   have hsort:(remains ops.size listed).Pairwise (· < ·):=List.Pairwise.filter _ List.pairwise_lt_range
   have hio:ops.toList[i]?=some ops[i]:=by simp [hi]
   have hb:=zip_all hed hio
   have:i∈Region.ready .any ops listed:=by
    simp only [Region.ready,List.mem_filter,List.mem_range]
    refine ⟨hi,?_⟩
    simp only [hl,Bool.not_false,Bool.true_and,Array.getElem?_eq_getElem hi,Option.map_some,Option.getD_some,Array.all_eq_true_iff_forall_mem,Bool.or_eq_true,Bool.not_eq_true']
    intro e he
    cases hbind:Region.binds .any e with
    | false=>exact .inl rfl
    | true =>
     right
     have hlt:e.on<i:=by
      have:e.on∈befs ops[i]:=List.mem_map.2 ⟨e,List.mem_filter.2 ⟨by simpa using he,hbind⟩,rfl⟩
      have hb':=List.all_eq_true.1 hb _ this
      simpa using hb'
     cases hle:listed.getD e.on false with
     | true=>rfl
     | false =>
      have hin:e.on∈remains ops.size listed:=by
       simp only [remains,List.mem_filter,List.mem_range,Bool.not_eq_true']
       exact ⟨by omega,by rw [listed_iff hs (by omega)];exact hle⟩
      rw [hrem] at hin hsort
      rcases List.mem_cons.1 hin with h | h
      ·omega
      ·have:=(List.pairwise_cons.1 hsort).1 _ h
       omega
   rw [hr] at this
   cases this
 intro fuel
 induction fuel with
 | zero =>
  intro listed D σ γ a w h hs hclosed hf hr
  have h0:remains ops.size listed=[]:=by simpa using hf
  rw [h0] at hr
  obtain ⟨e1,e2⟩:=hr
  subst e1;subst e2
  refine ⟨?_,hQ _ _ _ h⟩
  cases hrd:Region.ready .any ops listed with
  | nil=>rfl
  | cons i rest =>
   have:i∈Region.ready .any ops listed:=by rw [hrd];exact List.mem_cons_self ..
   simp only [Region.ready,List.mem_filter,List.mem_range,Bool.and_eq_true] at this
   have h1:i∈remains ops.size listed:=by
    simp only [remains,List.mem_filter,List.mem_range]
    exact ⟨this.1,this.2.1⟩
   rw [h0] at h1
   cases h1
 | succ fuel ih =>
  intro listed D σ γ a w h hs hclosed hf hr
  refine ⟨fun hrd=>?_,fun i hi=>?_⟩
  ·rw [hnil hs hrd] at hr
   obtain ⟨e1,e2⟩:=hr
   subst e1;subst e2
   exact hQ _ _ _ h
  ·simp only [Region.ready,List.mem_filter,List.mem_range,Bool.and_eq_true] at hi
   obtain ⟨hin,hil,hib⟩:=hi
   have hirem:i∈remains ops.size listed:=by
    simp only [remains,List.mem_filter,List.mem_range]
    exact ⟨hin,hil⟩
   have hio:ops.toList[i]?=some ops[i]:=by simp [hin]
   simp only [Array.getElem?_eq_getElem hin,Option.map_some,Option.getD_some,Array.all_eq_true_iff_forall_mem,Bool.or_eq_true,Bool.not_eq_true'] at hib
   have hbl:∀e∈befs ops[i],listed.getD e false=true:=by
    intro e he
    simp only [befs,List.mem_map,List.mem_filter] at he
    obtain ⟨x,⟨hx,hb⟩,rfl⟩:=he
    rcases hib x (by simpa using hx) with h | h
    ·rw [hb] at h;cases h
    ·exact h
   obtain ⟨A,B,hAB⟩:=List.append_of_mem hirem
   have hsort:(remains ops.size listed).Pairwise (· < ·):=List.Pairwise.filter _ List.pairwise_lt_range
   rw [hAB,List.pairwise_append] at hsort
   obtain ⟨-,hB,hA⟩:=hsort
   have hAi:∀j∈A,j<i:=fun j hj=>hA j hj i (List.mem_cons_self ..)
   have hBi:∀j∈B,i<j:=fun j hj=>(List.pairwise_cons.1 hB).1 j hj
   obtain ⟨m,hm,hone⟩:=all2_get hc hio
   rw [hAB,List.filterMap_append,List.filterMap_cons,hm] at hr
   have hfront:=run2_front hr (fun n hn=>by
    obtain ⟨j,hj,hjn⟩:=List.mem_filterMap.1 hn
    have h1:=zip_all hcl hm
    have hjl:j<i:=hAi j hj
    have h2:=zip_all h1 (i:=j) (x:=n) (by rw [List.getElem?_take,if_pos hjl];exact hjn)
    simp only [Bool.or_eq_true,Bool.not_eq_true',List.contains_eq_mem,decide_eq_true_eq] at h2
    rcases h2 with h2 | h2
    ·exact h2
    ·exfalso
     have h3:=befores_in (L:=fun e=>listed.getD e false=true) hclosed hio hbl j h2
     have h4:j∈remains ops.size listed:=by rw [hAB];exact List.mem_append_left _ hj
     simp only [remains,List.mem_filter,List.mem_range,Bool.not_eq_true'] at h4
     rw [listed_iff hs h4.1,h3] at h4
     cases h4.2)
   obtain ⟨σ1,γ1,s1,s2,hr'⟩:=hfront
   simp only [oneOK,Bool.and_eq_true] at hone
   obtain ⟨⟨⟨c1,c2⟩,c3⟩,c4⟩:=hone
   simp only [wpOp,Array.getElem?_eq_getElem hin]
   refine step_ok hE h c1 c2 c3 c4 s1 s2 fun D' a' w' h'=>?_
   have hrs:remains ops.size (listed.setIfInBounds i true)=A++B:=by
    rw [remains_set hs hin,hAB,List.filter_append,List.filter_cons]
    simp only [ne_eq,not_true_eq_false,decide_false,Bool.false_eq_true,if_false]
    rw [List.filter_eq_self.2 (fun j hj=>by have:=hAi j hj;simp;omega),List.filter_eq_self.2 (fun j hj=>by have:=hBi j hj;simp;omega)]
   refine ih h' (by simp [hs]) ?_ ?_ ?_
   ·intro j o hj hjl e he
    have hset:∀x,listed.getD x false=true→(listed.setIfInBounds i true).getD x false=true:=by
     intro x hx
     rw [getD_set]
     split
     ·rename_i hix
      subst hix
      rw [if_pos (by rw [hs];exact hin)]
     ·exact hx
    by_cases hji:j=i
    ·subst hji
     rw [hio] at hj
     cases hj
     exact hset _ (hbl e he)
    ·refine hset _ (hclosed j o hj ?_ e he)
     have hij:i≠j:=fun e=>hji e.symm
     rw [getD_set,if_neg hij] at hjl
     exact hjl
   ·rw [hrs]
    rw [hAB] at hf
    simp at hf ⊢
    omega
   ·rw [hrs,List.filterMap_append]
    exact hr'
theorem filterMap_range {A:Type}:∀(ms:List A),(List.range ms.length).filterMap (ms[·]?)=ms
 | []=>rfl
 | m :: ms=>by
  rw [List.length_cons,List.range_succ_eq_map,List.filterMap_cons]
  simp only [List.getElem?_cons_zero,List.filterMap_map,Function.comp_def,List.getElem?_cons_succ]
  rw [filterMap_range ms]
theorem region_ok (hE:∀f,SpecOK C.P C.E.gl f (C.E.fs f)∧(C.E.fs f).sg=sg f) {id:Nat} {ops:Array Oper} {draw:Bool} {ms:List MOp} {G G':GL} {D:Dyn} {σ σ':Sg} {a:Act} {w:World}
  (hr:regOK C.P sg C.nt ops draw ms=true) (hg:grun ms G=some G') (h:Sim C D σ G.get a w) (hs:runS C.E ms σ σ') (hQ:∀D' a' w',Sim C D' σ' G'.get a' w'→Q .normal a' w'):(Code.region id ops draw).wp C.P Q a w:=by
 simp only [regOK,Bool.and_eq_true] at hr
 obtain ⟨hc,hd⟩:=hr
 have hrun:=run2_of hs hg
 cases draw with
 | false=>exact wp_region_list (list_ok hE h hc hrun hQ)
 | true =>
  simp only [Bool.not_true,Bool.false_or,Bool.and_eq_true] at hd
  have hlen:ops.size=ms.length:=by have:=all2_len hc;simpa using this
  have hrem:remains ops.size (Array.replicate ops.size false)=List.range ops.size:=by
   simp only [remains]
   apply List.filter_eq_self.2
   intro i hi
   have hi:i<ops.size:=by simpa using hi
   simp [Array.getD,hi]
  refine wp_region_any hd.1 (any_ok hE hc hd.2 hQ ops.size h.drew (by simp) ?_ (by rw [hrem];simp) ?_)
  ·intro i o _ hl
   exfalso
   by_cases hi:i<ops.size <;> simp [Array.getD,hi] at hl
  ·rw [hrem,hlen,filterMap_range]
   exact hrun
end
end Go.Eng
namespace Go.Eng
open Go.RowKit
theorem GL.mem_of_get {G:GL} {k:Nat}:∀{g:Gh},G.get k=g→g ≠ .no→(k,g)∈G:=by
 induction G with
 | nil=>intro g h hn;exact absurd h.symm hn
 | cons p r ih =>
  intro g h hn
  obtain ⟨j,x⟩:=p
  simp only [GL.get] at h
  split at h
  ·rename_i e;subst e;subst h;exact List.mem_cons_self ..
  ·exact List.mem_cons_of_mem _ (ih h hn)
def rename (ρ:List (Nat × Nat)) (τ:Nat→Value) (key:Nat):Value :=
 match ρ.find? (fun p=>lk p.1 == key) with
 | some p=>τ (lk p.2)
 | none=>τ key
theorem lk_beq (i j:Nat):(lk i == lk j)=(i == j):=by
 by_cases h:i=j
 ·subst h;simp
 ·have:lk i≠lk j:=fun e=>h (lk_inj e)
  rw [beq_eq_false_iff_ne.2 this,beq_eq_false_iff_ne.2 h]
section
variable {C:Ctx} {D:Dyn} {σ:Sg} {a:Act} {w:World} {G H:GL}
theorem Sim.weaken (h:Sim C D σ G.get a w) (hr:refines G H=true):∃D',Sim C D' σ H.get a w:=by
 unfold refines at hr
 simp only [Bool.and_eq_true] at hr
 obtain ⟨⟨h9,hinj⟩,hall⟩:=hr
 generalize hρ:pairsOf G H=ρ at hinj hall
 have hinj':∀p∈ρ,∀q∈ρ,(p.1=q.1 ↔ p.2=q.2):=by
  intro p hp q hq
  have:=List.all_eq_true.1 (List.all_eq_true.1 hinj p hp) q hq
  by_cases e1:p.1=q.1 <;> by_cases e2:p.2=q.2 <;> simp [e1,e2] at this ⊢
 have hren:∀p∈ρ,rename ρ D.τ (lk p.1)=D.τ (lk p.2):=by
  intro p hp
  simp only [rename,lk_beq]
  cases hf:ρ.find? (fun q=>q.1 == p.1) with
  | none=>exact absurd (List.find?_eq_none.1 hf p hp) (by simp)
  | some q =>
   have h1:q.1=p.1:=by simpa using List.find?_some hf
   have h2:=(hinj' q (List.mem_of_find?_eq_some hf) p hp).1 h1
   simp only [h2]
 have hnm:∀{i j:Nat},(ρ.find? (fun p=>p.1 == i)).map (·.2)=some j→rename ρ D.τ (lk i)=D.τ (lk j):=by
  intro i j hf
  simp only [Option.map_eq_some_iff] at hf
  obtain ⟨q,hf,rfl⟩:=hf
  have h1:q.1=i:=by simpa using List.find?_some hf
  rw [←h1]
  exact hren q (List.mem_of_find?_eq_some hf)
 have hget:∀k,H.get k ≠ .no→(match H.get k,G.get k with
  | .no,_=>true
  | .ptr m o,.ptr m' o'=>m == m'&&o == o'&&(match H.get m with | .cl _=>true | _=>false)
  | .tip i s,.tip j s'=>s == s'&&(ρ.find? (fun p=>p.1 == i)).map (·.2) == some j&&(H.get (lk i)).isLk
  | .cl ts,.cl us=>ts.all fun t=>(match us.find? (fun u=>u.1 == t.1) with | some u=>(ρ.find? (fun p=>p.1 == t.2.1)).map (·.2) == some u.2.1&&t.2.2 == u.2.2 | none=>false)&&(H.get (lk t.2.1)).isLk
  | .live s,_=>ρ.any fun p=>lk p.1 == k&&G.get (lk p.2) == .live s
  | .pv s,.pv s'=>s == s'&&ρ.any fun p=>lk p.1 == k&&p.1 == p.2
  | .pv s,.sus d s'=>s == s'&&!(H.get d).isLk&&ρ.any fun p=>lk p.1 == k&&p.1 == p.2
  | .used,_=>decide (1000000≤k)
  | _,_=>false)=true:=fun k hk=>List.all_eq_true.1 hall (k,H.get k) (GL.mem_of_get rfl hk)
 have hcl:∀m ts,H.get m = .cl ts→∃us,G.get m = .cl us∧∀t∈ts,(∃u∈us,u.1=t.1∧rename ρ D.τ (lk t.2.1)=D.τ (lk u.2.1))∧(H.get (lk t.2.1)).isLk=true:=by
  intro m ts e
  have:=hget m (by rw [e];simp)
  rw [e] at this
  cases hg:G.get m with
  | cl us =>
   rw [hg] at this
   refine ⟨us,rfl,fun t ht=>?_⟩
   have h1:=List.all_eq_true.1 this t ht
   simp only [Bool.and_eq_true] at h1
   refine ⟨?_,h1.2⟩
   have h2:=h1.1
   split at h2
   ·rename_i u hu
    simp only [Bool.and_eq_true,beq_iff_eq] at h2
    exact ⟨u,List.mem_of_find?_eq_some hu,by simpa using List.find?_some hu,hnm h2.1⟩
   ·cases h2
  | _=>rw [hg] at this;simp at this
 have hlive:∀k s,H.get k = .live s→∃p∈ρ,lk p.1=k∧G.get (lk p.2) = .live s:=by
  intro k s e
  have:=hget k (by rw [e];simp)
  rw [e] at this
  simp only [List.any_eq_true,Bool.and_eq_true,beq_iff_eq] at this
  exact this
 have hpv:∀k s,H.get k = .pv s→(∃p∈ρ,lk p.1=k∧p.1=p.2)∧(G.get k).psz=some s∧∀d,(G.get k).par=some d→(H.get d).isLk=false:=by
  intro k s e
  have:=hget k (by rw [e];simp)
  rw [e] at this
  cases hg:G.get k with
  | pv s' =>
   rw [hg] at this
   simp only [Bool.and_eq_true,beq_iff_eq,List.any_eq_true] at this
   exact ⟨this.2,by rw [this.1];rfl,fun d hd=>by cases hd⟩
  | sus d s' =>
   rw [hg] at this
   simp only [Bool.and_eq_true,beq_iff_eq,List.any_eq_true,Bool.not_eq_true'] at this
   exact ⟨this.2,by rw [this.1.1];rfl,fun d hd=>by cases hd;exact this.1.2⟩
  | _=>rw [hg] at this;simp at this
 have hblk:∀key g,blk { D with τ:=rename ρ D.τ } H.get key=some g→(∃ts,H.get key = .cl ts∧blk D G.get key=some g)∨(∃p∈ρ,lk p.1=key∧blk D G.get (lk p.2)=some g ∧
   (∀d,(G.get (lk p.2)).par=some d→(H.get d).isLk=false)∧(H.get key).isLk=true∧((p.1=p.2)∨∃s,G.get (lk p.2) = .live s)):=by
  intro key g hb
  cases hk:H.get key with
  | cl ts =>
   left
   obtain ⟨us,hu,_⟩:=hcl key ts hk
   refine ⟨ts,rfl,?_⟩
   rw [blk_cl hk] at hb
   rw [blk_cl hu]
   exact hb
  | live s =>
   right
   obtain ⟨p,hp,h1,h2⟩:=hlive key s hk
   refine ⟨p,hp,h1,?_,fun d hd=>(by rw [h2] at hd;cases hd),rfl,.inr ⟨s,h2⟩⟩
   rw [blk_live hk,←h1] at hb
   rw [blk_live h2]
   dsimp only at hb
   rw [hren p hp] at hb
   exact hb
  | pv s =>
   right
   obtain ⟨⟨p,hp,h1,h2⟩,h3,h4⟩:=hpv key s hk
   have e:lk p.2=key:=by rw [←h2];exact h1
   refine ⟨p,hp,h1,?_,by rw [e];exact h4,rfl,.inl h2⟩
   rw [blk_isP (by rw [hk];rfl),←h1] at hb
   rw [e,blk_isP (Gh.psz_isP h3)]
   dsimp only at hb
   rw [hren p hp,e] at hb
   exact hb
  | sus d s =>
   have:=hget key (by rw [hk];simp)
   rw [hk] at this
   simp at this
  | pc s =>
   have:=hget key (by rw [hk];simp)
   rw [hk] at this
   simp at this
  | _=>simp [blk,hk] at hb
 have hrng:∀m,(H.get m).isCl=true→C.nt≤m∧m<1000000:=by
  intro m hm
  cases hk:H.get m with
  | cl ts =>
   obtain ⟨us,hu,_⟩:=hcl m ts hk
   exact h.rng m (by rw [hu];rfl)
  | _=>rw [hk] at hm;simp [Gh.isCl] at hm
 refine ⟨{ D with τ:=rename ρ D.τ },{ size:=h.size,defers:=h.defers,ntlt:=h.ntlt,rng:=hrng,lrng:=?_,slot:=?_,mem:=?_,tip:=?_,ps:=?_,sep:=?_,own:=?_,inv:=?_,ext:=h.ext,rlt:=h.rlt,gl:=h.gl,fix:=h.fix.of rfl fun hp=>?_ }⟩
 ·intro m hm
  cases hk:H.get m with
  | live s =>
   obtain ⟨p,_,rfl,_⟩:=hlive m s hk
   exact lk_ge _
  | pv s =>
   obtain ⟨⟨p,_,h1,_⟩,_⟩:=hpv m s hk
   rw [←h1];exact lk_ge _
  | sus d s =>
   have:=hget m (by rw [hk];simp)
   rw [hk] at this
   simp at this
  | pc s =>
   have:=hget m (by rw [hk];simp)
   rw [hk] at this
   simp at this
  | used =>
   have:=hget m (by rw [hk];simp)
   rw [hk] at this
   simpa using this
  | _=>rw [hk] at hm;simp [Gh.isLk] at hm
 ·intro t ht
  rcases h.slot t ht with e | ⟨e1,e2⟩
  ·exact .inl e
  ·refine .inr ⟨e1,fun hsk=>?_⟩
   replace e2:=e2 hsk
   cases hk:H.get t with
   | ptr m o =>
    have:=hget t (by rw [hk];simp)
    rw [hk] at this
    cases hg:G.get t with
    | ptr m' o' =>
     rw [hg] at this e2
     simp only [Bool.and_eq_true,beq_iff_eq] at this
     obtain ⟨⟨rfl,rfl⟩,_⟩:=this
     exact e2
    | _=>rw [hg] at this;simp at this
   | tip i s =>
    have:=hget t (by rw [hk];simp)
    rw [hk] at this
    cases hg:G.get t with
    | tip j s' =>
     rw [hg] at this e2
     simp only [Bool.and_eq_true,beq_iff_eq] at this
     obtain ⟨⟨rfl,hj⟩,_⟩:=this
     simp only [GhOK] at e2 ⊢
     rw [hnm hj]
     exact e2
    | _=>rw [hg] at this;simp at this
   | tup ts p =>
    have:=hget t (by rw [hk];simp)
    rw [hk] at this
    simp at this
   | pe k =>
    have:=hget t (by rw [hk];simp)
    rw [hk] at this
    simp at this
   | pm k =>
    have:=hget t (by rw [hk];simp)
    rw [hk] at this
    simp at this
   | _=>trivial
 ·intro m ts hk
  obtain ⟨us,hu,ht⟩:=hcl m ts hk
  obtain ⟨cs,hv,hc⟩:=h.mem m us hu
  refine ⟨cs,hv,fun t htm=>?_⟩
  obtain ⟨⟨u,hum,h1,h2⟩,_⟩:=ht t htm
  dsimp only
  rw [h2,←h1]
  exact hc u hum
 ·intro key s hk
  obtain ⟨p,hp,rfl,hg⟩:=hlive key s hk
  dsimp only
  rw [hren p hp]
  exact h.tip _ s hg
 ·intro key s hs
  have hk:H.get key = .pv s:=by
   cases hk:H.get key with
   | pv s'=>rw [hk] at hs;cases hs;rfl
   | sus d s' =>
    have:=hget key (by rw [hk];simp)
    rw [hk] at this
    simp at this
   | pc s' =>
    have:=hget key (by rw [hk];simp)
    rw [hk] at this
    simp at this
   | _=>rw [hk] at hs;cases hs
  obtain ⟨⟨p,hp,h1,h2⟩,h3,_⟩:=hpv key s hk
  have:=h.ps key s h3
  dsimp only
  refine ⟨?_,?_,fun d s1 s2 e1 _=>by rw [hk] at e1;cases e1⟩
  ·rw [←h1,hren p hp,←h2,h1];exact this.1
  ·rw [←h1,hren p hp,←h2,h1];exact this.2.1
 ·intro key key' g h1 h2
  left
  have hclP:∀m ts,H.get m = .cl ts→(G.get m).isP=false:=fun m ts e=>by
   obtain ⟨us,hu,_⟩:=hcl m ts e;rw [hu];rfl
  rcases hblk key g h1 with ⟨ts,k1,b1⟩ | ⟨p,hp,k1,b1,c1,c1',c1''⟩ <;> rcases hblk key' g h2 with ⟨us,k2,b2⟩ | ⟨q,hq,k2,b2,c2,c2',c2''⟩
  ·exact h.sepN (hclP _ _ k1) b1 b2
  ·have:=h.sepN (hclP _ _ k1) b1 b2
   have h3:=hrng key (by rw [k1];rfl)
   have h4:=lk_ge q.2
   omega
  ·have:=h.sepN (hclP _ _ k2) b2 b1
   have h3:=hrng key' (by rw [k2];rfl)
   have h4:=lk_ge p.2
   omega
  ·have parNo:∀(p q:Nat × Nat) (key':Nat),lk q.1=key'→(H.get key').isLk=true→(q.1=q.2∨∃s,G.get (lk q.2) = .live s)→(∀d,(G.get (lk p.2)).par=some d→(H.get d).isLk=false)→(G.get (lk p.2)).par≠some (lk q.2):=by
    intro p q key' e1 e2 e3 e4 e5
    have h6:=e4 _ e5
    rcases e3 with e3 | ⟨s,e3⟩
    ·rw [←e3,e1,e2] at h6;cases h6
    ·cases hg:G.get (lk p.2) with
     | sus d s' =>
      rw [hg] at e5
      cases e5
      have:=h.inv (lk p.2)
      rw [hg] at this
      rcases this with e | ⟨s',e⟩ <;> rw [e3] at e <;> cases e
     | _=>rw [hg] at e5;cases e5
   rcases h.sep _ _ g b1 b2 with e | e | e
   ·have:=lk_inj e
    rw [←k1,←k2,(hinj' p hp q hq).2 this]
   ·exact (parNo p q key' k2 c2' c2'' c1 e).elim
   ·exact (parNo q p key k1 c1' c1'' c2 e).elim
 ·intro key g hb
  rcases hblk key g hb with ⟨_,_,b1⟩ | ⟨_,_,_,b1,_⟩
  ·exact h.own _ _ b1
  ·exact h.own _ _ b1
 ·intro key
  cases hk:H.get key with
  | ptr m o =>
   have:=hget key (by rw [hk];simp)
   rw [hk] at this
   cases hg:G.get key with
   | ptr m' o' =>
    rw [hg] at this
    simp only [Bool.and_eq_true] at this
    have h3:=this.2
    simp only [Ment]
    split at h3
    ·rename_i e;rw [e];rfl
    ·cases h3
   | _=>rw [hg] at this;simp at this
  | tip i s =>
   have:=hget key (by rw [hk];simp)
   rw [hk] at this
   cases hg:G.get key with
   | tip j s' =>
    rw [hg] at this
    simp only [Bool.and_eq_true] at this
    exact this.2
   | _=>rw [hg] at this;simp at this
  | cl ts =>
   obtain ⟨us,hu,ht⟩:=hcl key ts hk
   exact fun t htm=>(ht t htm).2
  | tup ts p =>
   have:=hget key (by rw [hk];simp)
   rw [hk] at this
   simp at this
  | pe k =>
   have:=hget key (by rw [hk];simp)
   rw [hk] at this
   simp at this
  | pm k =>
   have:=hget key (by rw [hk];simp)
   rw [hk] at this
   simp at this
  | sus d s =>
   have:=hget key (by rw [hk];simp)
   rw [hk] at this
   simp at this
  | _=>trivial
 ·have hH:(H.get (lk 999999)).isP=true:=by simpa [hp] using h9
  refine ⟨hH,?_⟩
  obtain ⟨s,hk⟩:∃s,H.get (lk 999999) = .pv s:=by
   cases hk:H.get (lk 999999) with
   | pv s=>exact ⟨s,rfl⟩
   | sus d s' =>
    have:=hget _ (by rw [hk];simp)
    rw [hk] at this
    simp at this
   | pc s' =>
    have:=hget _ (by rw [hk];simp)
    rw [hk] at this
    simp at this
   | _=>rw [hk] at hH;cases hH
  obtain ⟨⟨p,hp',h1,h2⟩,_⟩:=hpv _ s hk
  show rename ρ D.τ (lk 999999)=D.τ (lk 999999)
  rw [←h1,hren p hp',←h2]
theorem Sim.forget {γ:Ga} (h:Sim C D σ γ a w) {σ':Sg} (h1:Le σ' σ):Sim C D σ' γ a w :=
 { h with
  slot:=fun t ht=>by
   rcases h1 t with e | e
   ·rw [e];exact h.slot t ht
   ·exact .inl e
  mem:=fun m ts hm=>by
   obtain ⟨cs,hv,ht⟩:=h.mem m ts hm
   refine ⟨cs,?_,ht⟩
   rcases h1 m with e | e
   ·rw [e];exact hv
   ·rw [e]
    obtain ⟨elem,hh,_,hn⟩:=hv
    exact ⟨elem,hh,.inl rfl,hn⟩
  ps:=fun key s hs=>by
   obtain ⟨e1,e2,e3⟩:=h.ps key s hs
   have hpre:PreAt σ' γ key:=fun d s1 s2 f1 f2=>by
    rcases h1 key with e | e
    ·rcases h1 d with e' | e'
     ·rw [e,e'];exact e3 d s1 s2 f1 f2
     ·exact .inr (.inl e')
    ·exact .inl e
   rcases h1 key with e | e
   ·rw [e];exact ⟨e1,e2,hpre⟩
   ·rw [e];exact ⟨e1,⟨e2.1,.inl rfl⟩,hpre⟩ }
theorem head_eq {σ:Sg}:∀{keep:List Nat} {vals:List AV},Agr σ keep vals→∀k,head keep vals k=if k∈keep then σ k else .dead
 | [],[],_,k=>rfl
 | j :: ks,v :: vs,h,k=>by
  have ih:=head_eq h.2 k
  simp only [head] at ih
  simp only [head,Eng.updL,upd,List.mem_cons]
  by_cases e:k=j
  ·subst e
   simp [h.1]
  ·simp only [e,if_false,false_or]
   exact ih
 | [],_ :: _,h,_=>h.elim
 | _ :: _,[],h,_=>h.elim
def toEx (i:Nat):Exit:=if i<1000000 then .exit i else .goto (i - 1000000)
theorem toEx_lt {i:Nat} (h:i<1000000):toEx i = .exit i:=if_pos h
theorem toEx_gid (l:Nat):toEx (gid l) = .goto l:=by
 have h:¬gid l<1000000:=by unfold gid;omega
 unfold toEx
 rw [if_neg h]
 have:gid l - 1000000=l:=by unfold gid;exact Nat.add_sub_cancel_left ..
 rw [this]
theorem toEx_then {i:Nat} {n:Act→World→Prop} {Q:Exit→Act→World→Prop} {a:Act} {w:World} (h:Q (toEx i) a w):Exit.then n Q (toEx i) a w:=by
 unfold toEx at h ⊢
 split at h
 ·rename_i e;rw [if_pos e];exact h
 ·rename_i e;rw [if_neg e];exact h
theorem toEx_cases (i:Nat):(∃l,i=gid l∧toEx i = .goto l)∨(i<1000000∧toEx i = .exit i):=by
 by_cases h:i<1000000
 ·exact .inr ⟨h,toEx_lt h⟩
 ·refine .inl ⟨i - 1000000,?_,if_neg h⟩
  unfold gid;omega
section
variable {P:Program} {a:Act} {w:World} {Q:Exit→Act→World→Prop}
theorem wp_scope_many {c:Code} {ι:Type} (lb rk mu:ι→Nat) (Inv:ι→Act→World→Prop)
  (first:c.wp P (fun e a w=>match e with | .goto l=>∃i,lb i=l∧Inv i a w | e=>Q e a w) a w)
  (pass:∀i a w,Inv i a w→∃rest,findLabel c (lb i)=some rest∧rest.wp P (fun e a' w'=>match e with | .goto l=>∃j,lb j=l∧Inv j a' w'∧(rk j<rk i∨rk j=rk i∧mu j<mu i) | e=>Q e a' w') a w) :
  (Code.scope c).wp P Q a w:=by
 intro b k cs
 have key:∀m n i a w,rk i=m→mu i=n→Inv i a w→∀rest,findLabel c (lb i)=some rest→∃e a' w',Q e a' w'∧Arrives P (lone (b.at a (.code rest :: .inScope c :: k)) cs w) b k cs e a' w':=by
  intro m
  induction m using Nat.strongRecOn with
  | _ m ihm =>
   intro n
   induction n using Nat.strongRecOn with
   | _ n ih =>
    intro i a w hm hn hI rest hf
    obtain ⟨rest',hf',hp⟩:=pass i a w hI
    rw [hf] at hf'
    cases hf'
    obtain ⟨e,a₁,w₁,hq,harr⟩:=hp b (.inScope c :: k) cs
    cases e with
    | normal=>exact ⟨.normal,a₁,w₁,hq,Steps.trans harr (.one step_inScope)⟩
    | exit id=>exact ⟨.exit id,a₁,w₁,hq,fun k' hk=>harr k' (by simp [exitTo,hk])⟩
    | goto l' =>
     obtain ⟨j,rfl,hJ,hlt⟩:=hq
     obtain ⟨rest2,hf2,_⟩:=pass j a₁ w₁ hJ
     have hg:gotoIn (lb j) (.inScope c :: k)=some (.code rest2 :: .inScope c :: k):=by simp [gotoIn,hf2]
     have:∃e a' w',Q e a' w'∧Arrives P (lone (b.at a₁ (.code rest2 :: .inScope c :: k)) cs w₁) b k cs e a' w':=by
      rcases hlt with hlt | ⟨he,hlt⟩
      ·exact ihm (rk j) (by omega) (mu j) j a₁ w₁ rfl rfl hJ rest2 hf2
      ·exact ih (mu j) (by omega) j a₁ w₁ (by omega) rfl hJ rest2 hf2
     obtain ⟨e₂,a₂,w₂,hq₂,harr₂⟩:=this
     exact ⟨e₂,a₂,w₂,hq₂,.of_steps (harr _ hg) harr₂⟩
    | ret=>exact ⟨_,a₁,w₁,hq,harr⟩
    | panic ch=>exact ⟨_,a₁,w₁,hq,harr⟩
    | outgrown=>exact ⟨_,a₁,w₁,hq,harr⟩
 obtain ⟨e,a₁,w₁,hq,harr⟩:=first b (.inScope c :: k) cs
 cases e with
 | normal=>exact ⟨.normal,a₁,w₁,hq,.head step_scope (Steps.trans harr (.one step_inScope))⟩
 | exit id=>exact ⟨.exit id,a₁,w₁,hq,fun k' hk => .head step_scope (harr k' (by simp [exitTo,hk]))⟩
 | goto l' =>
  obtain ⟨j,rfl,hJ⟩:=hq
  obtain ⟨rest2,hf2,_⟩:=pass j a₁ w₁ hJ
  have hg:gotoIn (lb j) (.inScope c :: k)=some (.code rest2 :: .inScope c :: k):=by simp [gotoIn,hf2]
  obtain ⟨e₂,a₂,w₂,hq₂,harr₂⟩:=key _ _ j a₁ w₁ rfl rfl hJ rest2 hf2
  exact ⟨e₂,a₂,w₂,hq₂,.of_steps (.head step_scope (harr _ hg)) harr₂⟩
 | ret=>exact ⟨_,a₁,w₁,hq,.of_steps (.one step_scope) harr⟩
 | panic ch=>exact ⟨_,a₁,w₁,hq,.of_steps (.one step_scope) harr⟩
 | outgrown=>exact ⟨_,a₁,w₁,hq,.of_steps (.one step_scope) harr⟩
end
structure PostOK (C:Ctx) (rt:GL→Bool) (n:Option GL) (ex:List (Nat × GL)) (Qm:MX→Sg→Prop) (Q:Exit→Act→World→Prop):Prop where
 nrm:∀G' D' σ' a' w',n=some G'→Qm .normal σ'→Sim C D' σ' G'.get a' w'→Q .normal a' w'
 exi:∀i G' D' σ' a' w',(i,G')∈ex→Qm (.exit i) σ'→Sim C D' σ' G'.get a' w'→Q (toEx i) a' w'
 ret:∀G' D' σ' a' w',rt G'=true→Qm .ret σ'→Sim C D' σ' G'.get a' w'→Q .ret a' w'
def ScopeOK (P:Program) (c:Code) (Q:Exit→Act→World→Prop) (a:Act) (w:World):Prop :=
 ∃(ι:Type) (lb rk mu:ι→Nat) (Inv:ι→Act→World→Prop),
  c.wp P (fun e a w=>match e with | .goto l=>(∃i,lb i=l∧Inv i a w)∨Q (.goto l) a w | e=>Q e a w) a w ∧
  ∀i a w,Inv i a w→∃rest,findLabel c (lb i)=some rest ∧
   rest.wp P (fun e a' w'=>match e with | .goto l=>(∃j,lb j=l∧Inv j a' w'∧(rk j<rk i∨rk j=rk i∧mu j<mu i))∨Q (.goto l) a' w' | e=>Q e a' w') a w
variable {sg:Nat→FSig}
theorem chk_ok' (hE : ∀ f, SpecOK C.P C.E.gl f (C.E.fs f) ∧ (C.E.fs f).sg = sg f) {rt : GL → Bool} : ∀ (m : M),
    (∀ {c : Code} {G : GL} {r : Option GL × List (Nat × GL)} {D : Dyn} {σ : Sg} {a : Act} {w : World} {Qm : MX → Sg → Prop} {Q : Exit → Act → World → Prop},
      chk C.P sg C.nt rt c m G = some r → Sim C D σ G.get a w → wpm C.E m Qm σ → PostOK C rt r.1 r.2 Qm Q → c.wp C.P Q a w) ∧
    (∀ {c : Code} {G : GL} {r : Option GL × List (Nat × GL)} {D : Dyn} {σ : Sg} {a : Act} {w : World} {Qm : MX → Sg → Prop} {Q : Exit → Act → World → Prop},
      chkS C.P sg C.nt rt c m G = some r → Sim C D σ G.get a w → wpm C.E m Qm σ → PostOK C rt r.1 r.2 Qm Q → ScopeOK C.P c Q a w) := by
  intro m
  induction m with
  | skip =>
    refine ⟨?_, fun hc => by simp only [chkS, reduceCtorEq] at hc⟩
    intro c G r D σ a w Qm Q hc h hm hp
    cases c <;> simp only [chk, reduceCtorEq, Option.some.injEq] at hc
    · subst hc
      exact wp_skip (hp.nrm _ _ _ _ _ rfl hm h)
    · subst hc
      exact wp_label (hp.nrm _ _ _ _ _ rfl hm h)
  | reg ms =>
    refine ⟨?_, fun hc => by simp only [chkS, reduceCtorEq] at hc⟩
    intro c G r D σ a w Qm Q hc h hm hp
    cases c <;> simp only [chk, reduceCtorEq] at hc
    rw [Option.ite_none_right_eq_some] at hc
    obtain ⟨h1, h2⟩ := hc
    rw [Option.map_eq_some_iff] at h2
    obtain ⟨G', hg, rfl⟩ := h2
    obtain ⟨σ', hs, hq⟩ := hm
    exact region_ok hE h1 hg h hs fun D' a' w' h' => hp.nrm _ _ _ _ _ rfl hq h'
  | seq x y ihx ihy =>
    refine ⟨?_, fun hc => by simp only [chkS, reduceCtorEq] at hc⟩
    intro c G r D σ a w Qm Q hc h hm hp
    cases c <;> simp only [chk, reduceCtorEq] at hc
    rw [Option.bind_eq_some_iff] at hc
    obtain ⟨⟨n1, e1⟩, h1, h2⟩ := hc
    refine wp_seq (ihx.1 h1 h hm ?_)
    cases n1 with
    | none =>
      simp only [Option.some.injEq] at h2
      subst h2
      exact { nrm := fun _ _ _ _ _ e => (by cases e), exi := fun i G' D' σ' a' w' hi hq h' => toEx_then (hp.exi i G' D' σ' a' w' hi hq h'), ret := fun G' D' σ' a' w' hi hq h' => hp.ret G' D' σ' a' w' hi hq h' }
    | some G1 =>
      simp only [Option.map_eq_some_iff] at h2
      obtain ⟨q, hq, rfl⟩ := h2
      refine { nrm := fun G' D' σ' a' w' e hm' h' => ?_, exi := fun i G' D' σ' a' w' hi hq h' => toEx_then (hp.exi i G' D' σ' a' w' (List.mem_append_left _ hi) hq h'), ret := fun G' D' σ' a' w' hi hq h' => hp.ret G' D' σ' a' w' hi hq h' }
      cases e
      obtain ⟨σ2, hle, hm'⟩ := hm'
      exact ihy.1 hq (h'.forget hle) hm' { nrm := hp.nrm, exi := fun i G' D' σ' a' w' hi hq h' => hp.exi i G' D' σ' a' w' (List.mem_append_right _ hi) hq h', ret := hp.ret }
  | cond x J y z ihy ihz =>
    refine ⟨?_, fun hc => by simp only [chkS, reduceCtorEq] at hc⟩
    intro c G r D σ a w Qm Q hc h hm hp
    cases c <;> simp only [chk, reduceCtorEq] at hc
    rename_i cx ca cb
    rw [Option.ite_none_right_eq_some] at hc
    obtain ⟨h1, h2⟩ := hc
    simp only [Bool.and_eq_true] at h1
    rw [Option.bind_eq_some_iff] at h2
    obtain ⟨⟨n1, e1⟩, hr1, h2⟩ := h2
    rw [Option.bind_eq_some_iff] at h2
    obtain ⟨⟨n2, e2⟩, hr2, h2⟩ := h2
    obtain ⟨t, hev, m1, m2⟩ : ∃ t, a.eval cx = .bool t ∧ (t = true → wpm C.E y Qm σ) ∧ (t = false → wpm C.E z Qm σ) := by
      have h0 := h.opd h1.1 h1.2
      rcases hm with ⟨t, ht, m1, m2⟩ | ⟨ht, m1, m2⟩
      · refine ⟨t, ?_, m1, m2⟩
        rw [ht] at h0
        rcases h0 with e | ⟨e, _⟩
        · cases e
        · generalize a.eval cx = v at e ⊢
          cases e
          rfl
      · rw [ht] at h0
        rcases h0 with e | ⟨e, _⟩
        · cases e
        · generalize a.eval cx = v at e ⊢
          cases e
          exact ⟨_, rfl, fun _ => m1, fun _ => m2⟩
    have key : (∀ D' σ' a' w' G', n1 = some G' → Qm .normal σ' → Sim C D' σ' G'.get a' w' → Q .normal a' w') ∧ (∀ D' σ' a' w' G', n2 = some G' → Qm .normal σ' → Sim C D' σ' G'.get a' w' → Q .normal a' w') ∧ r.2 = e1 ++ e2 := by
      cases n1 with
      | none =>
        simp only [Option.some.injEq] at h2
        subst h2
        exact ⟨fun _ _ _ _ _ e => (by cases e), fun D' σ' a' w' G' e hq h' => hp.nrm G' D' σ' a' w' e hq h', rfl⟩
      | some A =>
        cases n2 with
        | none =>
          simp only [Option.some.injEq] at h2
          subst h2
          exact ⟨fun D' σ' a' w' G' e hq h' => hp.nrm G' D' σ' a' w' e hq h', fun _ _ _ _ _ e => (by cases e), rfl⟩
        | some B =>
          simp only at h2
          rw [Option.ite_none_right_eq_some] at h2
          obtain ⟨h3, h4⟩ := h2
          simp only [Bool.and_eq_true] at h3
          simp only [Option.some.injEq] at h4
          subst h4
          refine ⟨fun D' σ' a' w' G' e hq h' => ?_, fun D' σ' a' w' G' e hq h' => ?_, rfl⟩
          · cases e
            obtain ⟨D'', h''⟩ := h'.weaken h3.1
            exact hp.nrm _ _ _ _ _ rfl hq h''
          · cases e
            obtain ⟨D'', h''⟩ := h'.weaken h3.2
            exact hp.nrm _ _ _ _ _ rfl hq h''
    obtain ⟨k1, k2, k3⟩ := key
    refine wp_cond_split hev (fun e => ?_) (fun e => ?_)
    · exact ihy.1 hr1 h (m1 e) { nrm := fun G' D' σ' a' w' e => k1 D' σ' a' w' G' e, exi := fun i G' D' σ' a' w' hi hq h' => hp.exi i G' D' σ' a' w' (by rw [k3]; exact List.mem_append_left _ hi) hq h', ret := hp.ret }
    · exact ihz.1 hr2 h (m2 e) { nrm := fun G' D' σ' a' w' e => k2 D' σ' a' w' G' e, exi := fun i G' D' σ' a' w' hi hq h' => hp.exi i G' D' σ' a' w' (by rw [k3]; exact List.mem_append_right _ hi) hq h', ret := hp.ret }
  | block id J y ih =>
    refine ⟨?_, fun hc => by simp only [chkS, reduceCtorEq] at hc⟩
    intro c G r D σ a w Qm Q hc h hm hp
    cases c <;> simp only [chk, reduceCtorEq] at hc
    rename_i i b
    rw [Option.ite_none_right_eq_some] at hc
    obtain ⟨⟨rfl, hid⟩, h2⟩ := hc
    rw [Option.bind_eq_some_iff] at h2
    obtain ⟨⟨n1, e1⟩, hr1, h2⟩ := h2
    rw [Option.ite_none_right_eq_some] at h2
    obtain ⟨hall, h2⟩ := h2
    simp only [Option.some.injEq] at h2
    subst h2
    have hend : ∀ G' D' σ' a' w', G' ∈ n1.toList ++ (e1.filter (·.1 == i)).map (·.2) → Qm .normal σ' → Sim C D' σ' G'.get a' w' → Q .normal a' w' := by
      intro G' D' σ' a' w' hG hq h'
      obtain ⟨D'', h''⟩ := h'.weaken (List.all_eq_true.1 hall _ hG)
      refine hp.nrm J D'' σ' a' w' ?_ hq h''
      cases n1 with
      | some x => simp
      | none =>
        have : (e1.filter (·.1 == i)).isEmpty = false := by
          cases hf : e1.filter (·.1 == i) with
          | nil => rw [hf] at hG; simp at hG
          | cons _ _ => rfl
        simp only [this, Bool.and_false]
        rfl
    refine wp_block (ih.1 hr1 h hm { nrm := fun G' D' σ' a' w' e hq h' => ?_, exi := fun j G' D' σ' a' w' hi hq h' => ?_, ret := fun G' D' σ' a' w' hi hq h' => hp.ret G' D' σ' a' w' hi hq h' })
    · exact hend G' D' σ' a' w' (List.mem_append_left _ (by simp at e; simp [e])) hq h'
    · simp only at hq hi
      by_cases e : j = i
      · subst e
        rw [if_pos rfl] at hq
        rw [toEx_lt hid]
        simp only [Exit.inBlock, if_true]
        exact hend G' D' σ' a' w' (List.mem_append_right _ (List.mem_map.2 ⟨_, List.mem_filter.2 ⟨hi, by simp⟩, rfl⟩)) hq h'
      · rw [if_neg e] at hq
        have := hp.exi j G' D' σ' a' w' (List.mem_filter.2 ⟨hi, by simpa using e⟩) hq h'
        rcases toEx_cases j with ⟨l, _, e2⟩ | ⟨_, e2⟩
        · rw [e2] at this ⊢; exact this
        · rw [e2] at this ⊢
          simp only [Exit.inBlock]
          rw [if_neg e]; exact this
  | loop keep J y ih =>
    refine ⟨?_, fun hc => by simp only [chkS, reduceCtorEq] at hc⟩
    intro c G r D σ a w Qm Q hc h hm hp
    cases c <;> simp only [chk, reduceCtorEq] at hc
    rename_i b
    rw [Option.ite_none_right_eq_some] at hc
    obtain ⟨h1, h2⟩ := hc
    simp only [Bool.and_eq_true] at h1
    obtain ⟨⟨hrf, hkeep⟩, _⟩ := h1
    rw [Option.bind_eq_some_iff] at h2
    obtain ⟨⟨n1, e1⟩, hr1, h2⟩ := h2
    rw [Option.ite_none_right_eq_some] at h2
    obtain ⟨hall, h2⟩ := h2
    simp only [Option.some.injEq] at h2
    subst h2
    obtain ⟨ι, vals, μ, i0, hag, hbody⟩ := hm
    have hhead : ∀ {G' : GL} {D' : Dyn} {σ' : Sg} {a' : Act} {w' : World} {i : ι}, refines G' J = true → Sim C D' σ' G'.get a' w' → Agr σ' keep (vals i) → ∃ D'', Sim C D'' (head keep (vals i)) (GL.get J) a' w' := by
      intro G' D' σ' a' w' i hrf' h' hag'
      obtain ⟨D'', h''⟩ := h'.weaken hrf'
      refine ⟨D'', h''.forget (fun k => ?_)⟩
      rw [head_eq hag' k]
      split
      · exact .inl rfl
      · exact .inr rfl
    refine wp_loop_ghost (fun n a w => ∃ i D, μ i = n ∧ Sim C D (head keep (vals i)) (GL.get J) a w) (μ i0) ?_ ?_
    · obtain ⟨D'', h''⟩ := hhead hrf h hag
      exact ⟨i0, D'', rfl, h''⟩
    · rintro n a1 w1 ⟨i, D1, rfl, hs⟩
      refine ih.1 hr1 hs (hbody i) { nrm := fun G' D' σ' a' w' e hq h' => ?_, exi := fun j G' D' σ' a' w' hi hq h' => toEx_then (hp.exi j G' D' σ' a' w' hi hq h'), ret := fun G' D' σ' a' w' hi hq h' => hp.ret G' D' σ' a' w' hi hq h' }
      simp only at e
      subst e
      simp only [Option.all_some] at hall
      obtain ⟨j, hlt, hag'⟩ := hq
      obtain ⟨D'', h''⟩ := hhead hall h' hag'
      exact ⟨μ j, hlt, j, D'', rfl, h''⟩
  | exit id =>
    refine ⟨?_, fun hc => by simp only [chkS, reduceCtorEq] at hc⟩
    intro c G r D σ a w Qm Q hc h hm hp
    cases c <;> simp only [chk, reduceCtorEq] at hc
    · rw [Option.ite_none_right_eq_some] at hc
      obtain ⟨⟨rfl, hid⟩, h2⟩ := hc
      simp only [Option.some.injEq] at h2
      subst h2
      exact wp_exit (by have := hp.exi _ _ _ _ _ _ (List.mem_singleton.2 rfl) hm h; rwa [toEx_lt hid] at this)
    · rw [Option.ite_none_right_eq_some] at hc
      obtain ⟨rfl, h2⟩ := hc
      simp only [Option.some.injEq] at h2
      subst h2
      exact wp_goto (by have := hp.exi _ _ _ _ _ _ (List.mem_singleton.2 rfl) hm h; rwa [toEx_gid] at this)
  | ret =>
    refine ⟨?_, fun hc => by simp only [chkS, reduceCtorEq] at hc⟩
    intro c G r D σ a w Qm Q hc h hm hp
    cases c <;> simp only [chk, reduceCtorEq] at hc
    rw [Option.ite_none_right_eq_some] at hc
    obtain ⟨h1, h2⟩ := hc
    exact wp_ret (hp.ret _ _ _ _ _ h1 hm h)
  | sco x ih =>
    refine ⟨?_, fun hc => by simp only [chkS, reduceCtorEq] at hc⟩
    intro c G r D σ a w Qm Q hc h hm hp
    cases c <;> simp only [chk, reduceCtorEq] at hc
    rename_i c
    rw [Option.bind_eq_some_iff] at hc
    obtain ⟨r', h1, h2⟩ := hc
    rw [Option.ite_none_right_eq_some] at h2
    obtain ⟨hall, h2⟩ := h2
    cases h2
    obtain ⟨ι, lb, rk, mu, Inv, h3, h4⟩ := ih.2 (Q := fun e a w => match e with | .goto _ => False | e => Q e a w) h1 h hm
      { nrm := fun G' D' σ' a' w' e hq h' => hp.nrm G' D' σ' a' w' e hq h', ret := fun G' D' σ' a' w' e hq h' => hp.ret G' D' σ' a' w' e hq h',
        exi := fun i G' D' σ' a' w' hi hq h' => by
          have hlt : i < 1000000 := by simpa using List.all_eq_true.1 hall _ hi
          have := hp.exi i G' D' σ' a' w' hi hq h'
          rw [toEx_lt hlt] at this ⊢
          exact this }
    refine wp_scope_many lb rk mu Inv (wp_mono h3 fun e a w q => ?_) fun i a w hI => ?_
    · cases e <;> first | exact q | exact q.resolve_right id
    · obtain ⟨rest, e1, e2⟩ := h4 i a w hI
      refine ⟨rest, e1, wp_mono e2 fun e a w q => ?_⟩
      cases e <;> first | exact q | exact q.resolve_right id
  | scp x ih =>
    refine ⟨fun hc => by rename_i c _ _ _ _ _ _ _ _; cases c <;> simp only [chk, reduceCtorEq] at hc, ?_⟩
    intro c G r D σ a w Qm Q hc h hm hp
    simp only [chkS] at hc
    refine ⟨Empty, Empty.elim, Empty.elim, Empty.elim, fun i => i.elim, wp_mono (ih.1 hc h hm hp) fun e a w q => ?_, fun i => i.elim⟩
    cases e <;> first | exact q | exact .inr q
  | lab l keep J x y ihx ihy =>
    refine ⟨fun hc => by rename_i c _ _ _ _ _ _ _ _; cases c <;> simp only [chk, reduceCtorEq] at hc, ?_⟩
    intro c G r D σ a w Qm Q hc h hm hp
    simp only [chkS] at hc
    split at hc
    · rename_i rest hfl
      rw [Option.bind_eq_some_iff] at hc
      obtain ⟨⟨n1, e1⟩, hr1, hc⟩ := hc
      rw [Option.bind_eq_some_iff] at hc
      obtain ⟨⟨n2, e2⟩, hr2, hc⟩ := hc
      rw [Option.ite_none_right_eq_some] at hc
      obtain ⟨hcond, hc⟩ := hc
      simp only [Option.some.injEq] at hc
      subst hc
      simp only [Bool.and_eq_true] at hcond
      obtain ⟨hall, hnn⟩ := hcond
      obtain ⟨ι0, vals, μ, hb, hr⟩ := hm
      let Inv0 : ι0 → Act → World → Prop := fun i a w => ∃ D', Sim C D' (head keep (vals i)) (GL.get J) a w
      have hhead : ∀ {G' : GL} {D' : Dyn} {σ' : Sg} {a' : Act} {w' : World} {i : ι0}, (gid l, G') ∈ e1 ++ e2 → Sim C D' σ' G'.get a' w' → Agr σ' keep (vals i) → Inv0 i a' w' := by
        intro G' D' σ' a' w' i hi h' hag'
        obtain ⟨D'', h''⟩ := h'.weaken (List.all_eq_true.1 hall _ (List.mem_filter.2 ⟨hi, by simp⟩))
        refine ⟨D'', h''.forget (fun k => ?_)⟩
        rw [head_eq hag' k]
        split
        · exact .inl rfl
        · exact .inr rfl
      have hn1 : ∀ G', n1 = some G' → (if n1.isNone then n2 else n1) = some G' := by rintro G' rfl; rfl
      have hn2 : ∀ G', n2 = some G' → (if n1.isNone then n2 else n1) = some G' := by
        rintro G' rfl
        simp at hnn
        simp [hnn]
      obtain ⟨ι1, lb, rk, mu, Inv, h3, h4⟩ := ihy.2 (Q := fun e a w => match e with | .goto l' => if l' = l then ∃ i, Inv0 i a w else Q (.goto l') a w | e => Q e a w) hr2 h hb
        { nrm := fun G' D' σ' a' w' e hq h' => hp.nrm G' D' σ' a' w' (hn2 G' e) hq h', ret := fun G' D' σ' a' w' e hq h' => hp.ret G' D' σ' a' w' e hq h',
          exi := fun i G' D' σ' a' w' hi hq h' => by
            simp only at hq
            by_cases e : i = gid l
            · subst e
              rw [if_pos rfl] at hq
              obtain ⟨j, hj⟩ := hq
              rw [toEx_gid]
              simp only [if_true]
              exact ⟨j, hhead (List.mem_append_right _ hi) h' hj⟩
            · rw [if_neg e] at hq
              have := hp.exi i G' D' σ' a' w' (List.mem_filter.2 ⟨List.mem_append_right _ hi, by simpa using e⟩) hq h'
              rcases toEx_cases i with ⟨l', rfl, e2⟩ | ⟨_, e2⟩
              · rw [e2] at this ⊢
                have hne : l' ≠ l := fun h => e (by rw [h])
                simp only [hne, if_false]; exact this
              · rw [e2] at this ⊢; exact this }
      refine ⟨ι1 ⊕ ι0, Sum.elim lb (fun _ => l), Sum.elim (fun i => rk i + 1) (fun _ => 0), Sum.elim mu μ, Sum.elim Inv Inv0, wp_mono h3 fun e a w q => ?_, ?_⟩
      · cases e <;> first | exact q | skip
        rename_i l'
        rcases q with ⟨i, q1, q2⟩ | q
        · exact .inl ⟨.inl i, q1, q2⟩
        · simp only at q
          by_cases e : l' = l
          · rw [if_pos e] at q
            obtain ⟨i, q⟩ := q
            exact .inl ⟨.inr i, e.symm, q⟩
          · rw [if_neg e] at q
            exact .inr q
      · rintro (i | i) a w hI
        · obtain ⟨rest', f1, f2⟩ := h4 i a w hI
          refine ⟨rest', f1, wp_mono f2 fun e a w q => ?_⟩
          cases e <;> first | exact q | skip
          rename_i l'
          rcases q with ⟨j, q1, q2, q3⟩ | q
          · exact .inl ⟨.inl j, q1, q2, by simp only [Sum.elim_inl]; omega⟩
          · simp only at q
            by_cases e : l' = l
            · rw [if_pos e] at q
              obtain ⟨j, q⟩ := q
              exact .inl ⟨.inr j, e.symm, q, .inl (by simp only [Sum.elim_inl, Sum.elim_inr]; omega)⟩
            · rw [if_neg e] at q
              exact .inr q
        · obtain ⟨D', hs⟩ := hI
          refine ⟨rest, hfl, ihx.1 hr1 hs (hr i) { nrm := fun G' D' σ' a' w' e hq h' => hp.nrm G' D' σ' a' w' (hn1 G' e) hq h', ret := fun G' D' σ' a' w' e hq h' => hp.ret G' D' σ' a' w' e hq h', exi := fun j G' D' σ' a' w' hi hq h' => ?_ }⟩
          simp only at hq
          by_cases e : j = gid l
          · subst e
            rw [if_pos rfl] at hq
            obtain ⟨k, hk, hag⟩ := hq
            rw [toEx_gid]
            exact .inl ⟨.inr k, rfl, hhead (List.mem_append_left _ hi) h' hag, .inr ⟨rfl, hk⟩⟩
          · rw [if_neg e] at hq
            have := hp.exi j G' D' σ' a' w' (List.mem_filter.2 ⟨List.mem_append_left _ hi, by simpa using e⟩) hq h'
            rcases toEx_cases j with ⟨l', rfl, e2⟩ | ⟨_, e2⟩
            · rw [e2] at this ⊢; exact .inr this
            · rw [e2] at this ⊢; exact this
    · cases hc
theorem chk_ok (hE:∀f,SpecOK C.P C.E.gl f (C.E.fs f)∧(C.E.fs f).sg=sg f) {rt:GL→Bool} (m:M) {c:Code} {G:GL} {r:Option GL × List (Nat × GL)} {D:Dyn} {σ:Sg} {a:Act} {w:World} {Qm:MX→Sg→Prop} {Q:Exit→Act→World→Prop}
  (hc:chk C.P sg C.nt rt c m G=some r) (h:Sim C D σ G.get a w) (hm:wpm C.E m Qm σ) (hp:PostOK C rt r.1 r.2 Qm Q):c.wp C.P Q a w:=(chk_ok' hE m).1 hc h hm hp
end
end Go.Eng
namespace Go.Eng
open Go.RowKit
inductive RV where
 | t (t:Nat)
 | c (a m n:Nat) (agg:Bool)
def RV.get (σ:Sg):RV→Option AV
 | .t j=>some (σ j)
 | .c a m n agg=>match σ a,σ m with
  | .pt,.ag cs=>partAV cs 0 n agg
  | _,_=>none
def outL (σ:Sg):List RV→Option (List AV)
 | []=>some []
 | r :: rs=>(r.get σ).bind fun x=>(outL σ rs).map (x :: ·)
structure FD where
 np:Nat
 m:M
 ref:Option (Nat × Nat):=none
 tips:List (Nat × (Nat × Nat)):=[]
 res:List RV
 own:List (Nat × Nat):=[]
 new:Option (Nat × Nat):=none
 tnew:List (Nat × Nat):=[]
 ps:Option (Nat × (Nat × Nat)):=none
def FD.sg (d:FD):FSig:={ ref:=d.ref.map (·.1),tips:=cut3 d.tips,nres:=d.res.length,own:=d.own,new:=d.new.map (·.1),tnew:=d.tnew,ps:=d.ps.map fun q=>(q.1,q.2.2) }
def FD.start (d:FD) (ins:List AV):Sg :=
 match d.ref with
 | none=>match d.ps with
  | none=>head (List.range d.np) ins
  | some (i,k,_)=>head (lk k :: List.range d.np) (ins.getD i .dead :: ins.set i .pt)
 | some (i,m)=>head (m :: List.range d.np) (ins.getD i .dead :: ins.set i .pt)
def FD.OutS (d:FD) (σ:Sg) (outs:List AV):Prop :=
 ∃rs,outL σ d.res=some rs∧(∀q∈d.own,∃s es,rs[q.1]?=some (.sl s es))∧(∀q,d.new=some q→rs[q.1]?=some .pt) ∧
  outs=rs++d.new.toList.map (fun q=>σ q.2)++d.ref.toList.map (fun q=>σ q.2)++d.ps.toList.map (fun q=>σ (lk q.2.1))
def FD.runs (d:FD) (E:Env) (ins outs:List AV):Prop :=
 wpm E d.m (fun e σ=>match e with | .exit _=>False | _=>d.OutS σ outs) (d.start ins)
def cellKey (us:List (Nat × (Nat × Nat))) (q:Nat × Nat):Option Nat:=(us.find? (fun u=>u.1 == q.1&&u.2.2 == q.2)).map (·.2.1)
def allS {X:Type}:List (Option X)→Option (List X)
 | []=>some []
 | none :: _=>none
 | some x :: r=>(allS r).map (x :: ·)
def RV.key (G:GL) (s:Nat):RV→Option Nat
 | .t j=>match G.get j with
  | .tip k s'=>if s=s' then some k else none
  | _=>none
 | .c _ m n agg=>if n=1∧agg=false then (match G.get m with | .cl us=>cellKey us (0,s) | _=>none) else none
def varKeys (G:GL) (q:Option (Nat × Nat)) (ts:List (Nat × Nat)):Option (List Nat) :=
 match q with
 | none=>if ts.isEmpty then some [] else none
 | some (_,m)=>match G.get m with
  | .cl us=>allS (ts.map (cellKey us))
  | _=>none
def FD.keysO (d:FD) (G:GL):Option (List Nat):=allS (d.own.map fun q=>(d.res[q.1]?).bind (RV.key G q.2))
def liveAll (G:GL) (ks:List Nat) (ts:List (Nat × Nat)):Bool:=all2 (fun k q=>G.get (lk k) == .live q.2) ks ts
def RV.okG (G:GL):RV→Bool
 | .t _=>true
 | .c a m _ _=>G.get a == .ptr m 0&&(G.get m).isCl
def FD.rt (d : FD) (G : GL) : Bool :=
  d.res.all (RV.okG G) && (match d.ref with | some (_, m) => (G.get m).isCl | none => true) &&
  (match d.new with
   | some (j, m) => (G.get m).isCl && (match d.res[j]? with | some (.t t) => G.get t == .ptr m 0 | _ => false)
   | none => true) &&
  (match varKeys G d.ref (cut3 d.tips), d.keysO G, varKeys G d.new d.tnew with
   | some r, some o, some n => decide (r ++ o ++ n).Nodup && liveAll G r (cut3 d.tips) && liveAll G o d.own && liveAll G n d.tnew
   | _, _, _ => false) &&
  (match d.ps with | some (_, k, s) => (match G.get (lk k) with | .pv s' => s == s' | .sus _ s' => s == s' | _ => false) | none => true)
def resOK (P:Program) (nt:Nat):ResultVar→RV→Bool
 | .tmp t,.t t'=>t == t'&&decide (t<nt)
 | .cell a ty,.c a' _ n agg=>a == a'&&decide (a<nt)&&shapeOK P ty n agg
 | _,_=>false
def FD.lks (d:FD):List Nat:=d.tips.map fun t=>lk t.2.1
def FD.G0 (d:FD):GL :=
 match d.ref with
 | none=>match d.ps with
  | none=>[]
  | some (i,k,s)=>GL.updL [] [i,lk k] [.tip k s,.pv s]
 | some (i,m)=>GL.updL [] (i :: m :: d.lks) (.ptr m 0 :: .cl d.tips :: d.tips.map fun t => .live t.2.2)
def FD.begins (d:FD) (nt:Nat):Bool :=
 decide (d.np≤nt∧nt≤1000000∧(d.tips.map (·.2.1)).Nodup∧(d.ref=none→d.tips=[])∧(d.new=none→d.tnew=[])∧(d.ref=none∨d.new=none)) &&
 (match d.ref with | none=>true | some (i,m)=>decide (i<d.np∧nt≤m∧m=999999)) &&
 (match d.ps with | none=>true | some (i,k,_)=>decide (i<d.np∧d.ref=none∧d.new=none∧d.own=[]∧k=999999))
def chkF (P : Program) (sg : Nat → FSig) (fn : Func) (d : FD) : Bool :=
  d.begins fn.ntmps && all2 (resOK P fn.ntmps) fn.results.toList d.res &&
  (match fn.body with
   | some c => (match chk P sg fn.ntmps d.rt c d.m d.G0 with
     | some (n, ex) => ex.isEmpty && n.all d.rt
     | none => false)
   | none => false)
section
variable {X:Type}
theorem updL_get {σ:Nat→X}:∀{ks:List Nat} {xs:List X} {p k:Nat} {x:X},ks.Nodup→ks[p]?=some k→xs[p]?=some x→Eng.updL σ ks xs k=x
 | j :: ks,y :: xs,0,k,x,_,h1,h2=>by
  simp only [List.getElem?_cons_zero,Option.some.injEq] at h1 h2
  subst h1;subst h2
  simp [Eng.updL,upd]
 | j :: ks,y :: xs,p+1,k,x,hn,h1,h2=>by
  simp only [List.getElem?_cons_succ] at h1 h2
  rw [List.nodup_cons] at hn
  have:k≠j:=fun e=>hn.1 (e ▸ List.mem_of_getElem? h1)
  simp only [Eng.updL,upd,this,if_false]
  exact updL_get hn.2 h1 h2
 | [],_,_,_,_,_,h1,_=>by simp at h1
 | _ :: _,[],_,_,_,_,_,h2=>by simp at h2
theorem updL_inv {σ:Nat→X} {key:Nat}:∀{ks:List Nat} {xs:List X},Eng.updL σ ks xs key=σ key∨∃(p:Nat) (x:X),ks[p]?=some key∧xs[p]?=some x∧Eng.updL σ ks xs key=x
 | j :: ks,y :: xs=>by
  by_cases e:key=j
  ·right
   exact ⟨0,y,by simp [e],rfl,by simp [Eng.updL,upd,e]⟩
  ·simp only [Eng.updL,upd,e,if_false]
   rcases updL_inv (σ:=σ) (key:=key) (ks:=ks) (xs:=xs) with h | ⟨p,x,h1,h2,h3⟩
   ·exact .inl h
   ·exact .inr ⟨p+1,x,by simpa using h1,by simpa using h2,h3⟩
 | [],_ => .inl rfl
 | _ :: _,[] => .inl rfl
end
theorem start_range {ins:List AV} {n t:Nat} (h:ins.length=n):head (List.range n) ins t=ins.getD t .dead:=by
 unfold head
 by_cases ht:t<n
 ·have h1:(List.range n)[t]?=some t:=by simp [ht]
  have hl:t<ins.length:=by omega
  have h2:ins[t]?=some ins[t]:=List.getElem?_eq_getElem hl
  rw [updL_get List.nodup_range h1 h2]
  simp [List.getD,h2]
 ·rw [updL_out (by simpa using ht)]
  have:ins[t]?=none:=List.getElem?_eq_none (by omega)
  simp [List.getD,this]
section
variable {P:Program} {E:Env} {w:World} {R:Reach} {ins:List AV} {xs:List Value}
theorem tmps_get {nt t:Nat} (ht:t<nt):((⟨xs⟩:Array Value)++Array.replicate (nt - xs.length) undef).getD t undef=xs.getD t undef:=by
 simp only [Array.getD_eq_getD_getElem?,List.getD_eq_getElem?_getD]
 by_cases h:t<xs.length
 ·rw [Array.getElem?_append_left (by simpa using h)]
  simp
 ·rw [Array.getElem?_append_right (by simpa using h)]
  rw [List.getElem?_eq_none (by omega)]
  simp only [Array.getElem?_replicate]
  split <;> rfl
theorem slot_of (h:RepT R w ins xs) (t:Nat):Rep R w (ins.getD t .dead) (xs.getD t undef):=by
 by_cases ht:t<ins.length
 ·obtain ⟨y,h1,h2⟩:=h.get t _ (List.getElem?_eq_getElem ht)
  simp only [List.getD,List.getElem?_eq_getElem ht,h1,Option.getD_some]
  exact h2
 ·simp only [List.getD,List.getElem?_eq_none (Nat.le_of_not_lt ht),Option.getD_none]
  exact .dead _
def fixOf (d:FD) (xs:List Value):Option Nat :=
 match d.sg.ref with
 | none=>none
 | some i=>match xs[i]? with
  | some (.pointer (some ⟨b,0,none⟩))=>some b
  | _=>none
theorem begin_ok {d:FD} {nt:Nat} (hps:d.ps=none) (hb:d.begins nt=true) (hlen:ins.length=d.np) (hR:∀b o,R b o→b<w.heap.size) (hgl:∀n,Rep R w (E.gl n) (.pointer (some ⟨n,0,none⟩))) (ha:ArgsOK d.sg R w ins xs) :
  ∃D,Sim ⟨P,E,nt,w,R,ioOf d.sg w xs,fixOf d xs,none⟩ D (d.start ins) d.G0.get { tmps:=(⟨xs⟩:Array Value)++Array.replicate (nt - xs.length) undef,defers:=[] } w:=by
 simp only [FD.begins,Bool.and_eq_true,decide_eq_true_eq] at hb
 obtain ⟨⟨⟨b1,b2,b3,b4,b5,b6⟩,b7⟩,_⟩:=hb
 have hsize:∀(hx:xs.length=d.np),((⟨xs⟩:Array Value)++Array.replicate (nt - xs.length) undef).size=nt:=by
  intro hx
  simp
  omega
 cases href:d.ref with
 | none =>
  have hg:d.sg.ref=none:=by simp [FD.sg,href]
  simp only [ArgsOK,hg] at ha
  have hx:xs.length=d.np:=by rw [←ha.length,hlen]
  have hG:d.G0=[]:=by simp [FD.G0,href,hps]
  have hst:d.start ins=head (List.range d.np) ins:=by simp [FD.start,href,hps]
  rw [hG,hst]
  refine ⟨⟨R,fun _=>0,fun _=>undef⟩,{ size:=hsize hx,defers:=rfl,ntlt:=b2,rng:=?_,lrng:=?_,slot:=?_,mem:=?_,tip:=?_,ps:=fun _ _ h=>(by cases h),sep:=?_,own:=?_,inv:=?_,ext:=Ext.refl _ _ _,rlt:=hR,gl:=hgl,fix:=?_ }⟩
  ·intro m h;cases h
  ·intro m h;cases h
  ·intro t ht
   refine .inr ⟨?_,fun _=>trivial⟩
   rw [start_range hlen]
   dsimp only
   rw [tmps_get ht]
   exact slot_of ha t
  ·intro m ts h;cases h
  ·intro m ts h;cases h
  ·intro k k' g h;cases h
  ·intro k g h;cases h
  ·intro k;trivial
  ·exact ⟨fun b hb=>by simp [fixOf,hg] at hb,fun v hv=>by cases hv⟩
 | some im =>
  obtain ⟨i,m⟩:=im
  simp only [href,decide_eq_true_eq] at b7
  obtain ⟨c1,c2,rfl⟩:=b7
  generalize hm9:(999999:Nat)=m at href c2 ⊢
  have c3:m<1000000:=by omega
  have hg:d.sg.ref=some i:=by simp [FD.sg,href]
  simp only [ArgsOK,hg] at ha
  obtain ⟨b,cs,x,tv,a1,a2,a3,a4,a5,a6,a7⟩:=ha
  have hx:xs.length=d.np:=by rw [←a4.length,List.length_set,hlen]
  have htl:d.sg.tips.length=d.tips.length:=by simp [FD.sg,cut3]
  have hlk:d.lks.Nodup:=by
   have:d.lks=(d.tips.map (·.2.1)).map lk:=by simp [FD.lks]
   rw [this]
   exact List.Pairwise.map _ (fun a b h e=>h (lk_inj e)) b3
  have hG:d.G0.get=Eng.updL (fun _=>Gh.no) (i :: m :: d.lks) (.ptr m 0 :: .cl d.tips :: d.tips.map fun t => .live t.2.2):=by
   simp only [FD.G0,href,GL.get_updL]
   rfl
  have hilk:∀k,k<1000000→k ∉ d.lks:=by
   intro k hk hm
   simp only [FD.lks,List.mem_map] at hm
   obtain ⟨t,_,rfl⟩:=hm
   have:=lk_ge t.2.1
   omega
  have hnd:(i :: m :: d.lks).Nodup:=by
   rw [List.nodup_cons,List.nodup_cons]
   refine ⟨?_,hilk m c3,hlk⟩
   rw [List.mem_cons]
   rintro (e | e)
   ·omega
   ·exact hilk i (by omega) e
  have gi:d.G0.get i = .ptr m 0:=by rw [hG];exact updL_get hnd (p:=0) rfl rfl
  have gm:d.G0.get m = .cl d.tips:=by rw [hG];exact updL_get hnd (p:=1) rfl rfl
  have gt:∀(p:Nat) (t:Nat × (Nat × Nat)),d.tips[p]?=some t→d.G0.get (lk t.2.1) = .live t.2.2:=by
   intro p t hp
   rw [hG]
   exact updL_get hnd (p:=p+2) (by simp [FD.lks,hp]) (by simp [hp])
  have ginv:∀key,d.G0.get key = .no∨(key=i∧d.G0.get key = .ptr m 0)∨(key=m∧d.G0.get key = .cl d.tips)∨∃(p:Nat) (t:Nat × (Nat × Nat)),d.tips[p]?=some t∧key=lk t.2.1∧d.G0.get key = .live t.2.2:=by
   intro key
   have h0:=updL_inv (σ:=fun _=>Gh.no) (key:=key) (ks:=i :: m :: d.lks) (xs := .ptr m 0 :: .cl d.tips :: d.tips.map fun t => .live t.2.2)
   rw [←hG] at h0
   rcases h0 with h | ⟨p,g,h1,h2,h3⟩
   ·exact .inl h
   ·right
    match p,h1,h2 with
    | 0,h1,h2=>simp at h1 h2;subst h1;subst h2;exact .inl ⟨rfl,h3⟩
    | 1,h1,h2=>simp at h1 h2;subst h1;subst h2;exact .inr (.inl ⟨rfl,h3⟩)
    | p+2,h1,h2 =>
     simp only [List.getElem?_cons_succ,FD.lks,List.getElem?_map,Option.map_eq_some_iff] at h1 h2
     obtain ⟨t,ht,h1⟩:=h1
     obtain ⟨t',ht',h2⟩:=h2
     rw [ht] at ht';cases ht'
     exact .inr (.inr ⟨p,t,ht,h1.symm,h2 ▸ h3⟩)
  have hτ:∀(p:Nat) (t:Nat × (Nat × Nat)) (v:Value),d.tips[p]?=some t→tv[p]?=some v→Eng.updL (fun _=>undef) d.lks tv (lk t.2.1)=v:=by
   intro p t v hp hv
   exact updL_get hlk (p:=p) (by simp [FD.lks,hp]) hv
  have htv:∀(p:Nat) (t:Nat × (Nat × Nat)),d.tips[p]?=some t→∃v,tv[p]?=some v∧Eng.updL (fun _=>undef) d.lks tv (lk t.2.1)=v∧cs[t.1]?=some v∧TipOK R w v t.2.2:=by
   intro p t hp
   have hlt:=(List.getElem?_eq_some_iff.1 hp).1
   have hv:tv[p]?=some tv[p]:=List.getElem?_eq_getElem (by omega)
   have hs:d.sg.tips[p]?=some (t.1,t.2.2):=by simp [FD.sg,cut3,hp]
   obtain ⟨q1,q2⟩:=a6 p _ _ hs hv
   exact ⟨_,hv,hτ p t _ hp hv,q1,q2⟩
  have hst:d.start ins=head (m :: List.range d.np) (ins.getD i .dead :: ins.set i .pt):=by simp [FD.start,href]
  have sm:d.start ins m=x:=by
   rw [hst]
   simp [head,Eng.updL,upd,List.getD,a2]
  have ss:∀t,t≠m→d.start ins t=(ins.set i .pt).getD t .dead:=by
   intro t ht
   rw [hst]
   simp only [head,Eng.updL,upd,ht,if_false]
   exact start_range (by simpa using hlen)
  have hblk:∀key g,blk ⟨R,fun _=>b,Eng.updL (fun _=>undef) d.lks tv⟩ d.G0.get key=some g →
    ∃p,(some b :: tv.map Value.ownBlock)[p]?=some (some g)∧(p=0→key=m)∧(∀q,p=q+1→∃t,d.tips[q]?=some t∧key=lk t.2.1):=by
   intro key g hk
   rcases ginv key with e | ⟨_,e⟩ | ⟨k1,e⟩ | ⟨p,t,hp,k1,e⟩
   ·simp [blk,e] at hk
   ·simp [blk,e] at hk
   ·rw [blk_cl e] at hk
    exact ⟨0,by simpa using hk,fun _=>k1,fun q hq=>by omega⟩
   ·rw [blk_live e] at hk
    obtain ⟨v,hv,h1,_,_⟩:=htv p t hp
    rw [k1] at hk
    dsimp only at hk
    rw [h1] at hk
    refine ⟨p+1,by simp [hv,hk],fun h=>by omega,fun q hq=>⟨t,?_,k1⟩⟩
    have:q=p:=by omega
    subst this
    exact hp
  refine ⟨⟨R,fun _=>b,Eng.updL (fun _=>undef) d.lks tv⟩,{ size:=hsize hx,defers:=rfl,ntlt:=b2,rng:=?_,lrng:=?_,slot:=?_,mem:=?_,tip:=?_,ps:=fun k s hk=>(by
   rcases ginv k with e | ⟨_,e⟩ | ⟨_,e⟩ | ⟨_,_,_,_,e⟩ <;> rw [e] at hk <;> cases hk),sep:=?_,own:=?_,inv:=?_,ext:=Ext.refl _ _ _,rlt:=hR,gl:=hgl,fix:=?_ }⟩
  ·intro k hk
   rcases ginv k with e | ⟨_,e⟩ | ⟨k1,e⟩ | ⟨p,t,hp,k1,e⟩
   ·rw [e] at hk;cases hk
   ·rw [e] at hk;cases hk
   ·subst k1;exact ⟨c2,c3⟩
   ·rw [e] at hk;cases hk
  ·intro k hk
   rcases ginv k with e | ⟨_,e⟩ | ⟨k1,e⟩ | ⟨p,t,hp,k1,e⟩
   ·rw [e] at hk;cases hk
   ·rw [e] at hk;cases hk
   ·rw [e] at hk;cases hk
   ·subst k1;exact lk_ge _
  ·intro t ht
   dsimp only at ht ⊢
   rw [ss t (by omega),tmps_get ht]
   refine .inr ⟨slot_of a4 t,fun _=>?_⟩
   rcases ginv t with e | ⟨k1,e⟩ | ⟨k1,e⟩ | ⟨p,t',hp,k1,e⟩
   ·rw [e];trivial
   ·rw [e]
    simp only [GhOK]
    subst k1
    simp [List.getD,a1]
   ·omega
   ·have:=lk_ge t'.2.1
    omega
  ·intro k ts hk
   rcases ginv k with e | ⟨k1,e⟩ | ⟨k1,e⟩ | ⟨p,t',hp,k1,e⟩
   ·rw [e] at hk;cases hk
   ·rw [e] at hk;cases hk
   ·rw [e] at hk
    cases hk
    subst k1
    rw [sm]
    refine ⟨cs,a3,fun t ht=>?_⟩
    obtain ⟨p,hp⟩:=List.getElem?_of_mem ht
    obtain ⟨v,_,h1,h2,_⟩:=htv p t hp
    dsimp only
    rw [h1]
    exact h2
   ·rw [e] at hk;cases hk
  ·intro k s hk
   rcases ginv k with e | ⟨k1,e⟩ | ⟨k1,e⟩ | ⟨p,t',hp,k1,e⟩
   ·rw [e] at hk;cases hk
   ·rw [e] at hk;cases hk
   ·rw [e] at hk;cases hk
   ·rw [e] at hk
    cases hk
    obtain ⟨v,_,h1,_,h3⟩:=htv p t' hp
    subst k1
    dsimp only
    rw [h1]
    exact h3
  ·intro k k' g h1 h2
   obtain ⟨p,q1,q2,q3⟩:=hblk k g h1
   obtain ⟨p',r1,r2,r3⟩:=hblk k' g h2
   have:=a7 p p' g q1 r1
   subst this
   left
   cases p with
   | zero=>rw [q2 rfl,r2 rfl]
   | succ p =>
    obtain ⟨t,ht,e1⟩:=q3 p rfl
    obtain ⟨t',ht',e2⟩:=r3 p rfl
    rw [ht] at ht'
    cases ht'
    rw [e1,e2]
  ·intro k g h1
   left
   simp only [ioOf,hg]
   obtain ⟨elem,hh,_,_⟩:=a3
   refine ⟨b,cs,elem,a1,hh,?_⟩
   obtain ⟨p,q1,q2,q3⟩:=hblk k g h1
   cases p with
   | zero =>
    left
    simpa using q1.symm
   | succ p =>
    right
    obtain ⟨t,ht,e1⟩:=q3 p rfl
    obtain ⟨v,hv,_,h2,_⟩:=htv p t ht
    refine ⟨(t.1,t.2.2),?_,v,h2,?_⟩
    ·simp only [FD.sg,cut3,List.mem_map]
     exact ⟨t,List.mem_of_getElem? ht,rfl⟩
    ·simpa [hv] using q1
  ·intro k
   rcases ginv k with e | ⟨k1,e⟩ | ⟨k1,e⟩ | ⟨p,t',hp,k1,e⟩
   ·rw [e];trivial
   ·rw [e]
    simp only [Ment,gm,Gh.isCl]
   ·rw [e]
    intro t ht
    obtain ⟨p,hp⟩:=List.getElem?_of_mem ht
    rw [gt p t hp]
    rfl
   ·rw [e];trivial
  ·refine ⟨fun b' hb'=>?_,fun v hv=>by cases hv⟩
   simp only [fixOf,hg,a1,Option.some.injEq] at hb'
   exact hb'
theorem begin_okP {d:FD} {nt i k s:Nat} (hps:d.ps=some (i,k,s)) (hb:d.begins nt=true) (hlen:ins.length=d.np) (hR:∀b o,R b o→b<w.heap.size) (hgl:∀n,Rep R w (E.gl n) (.pointer (some ⟨n,0,none⟩)))
  {v:Value} {es:List AV} (a1:xs[i]?=some v) (a2:ins[i]?=some (.sl s es)) (a3:TipOK R w v s) (a4:PrivOK R w v s (.sl s es)) (a5:RepT R w (ins.set i .pt) xs) :
  ∃D,Sim ⟨P,E,nt,w,R,fun c=>v.ownBlock=some c,none,some v⟩ D (d.start ins) d.G0.get { tmps:=(⟨xs⟩:Array Value)++Array.replicate (nt - xs.length) undef,defers:=[] } w:=by
 simp only [FD.begins,Bool.and_eq_true,decide_eq_true_eq,hps] at hb
 obtain ⟨⟨⟨b1,b2,b3,b4,b5,b6⟩,b7⟩,b8,b9,b10,b11,b12⟩:=hb
 have hx:xs.length=d.np:=by rw [←a5.length,List.length_set,hlen]
 have hsize:((⟨xs⟩:Array Value)++Array.replicate (nt - xs.length) undef).size=nt:=by simp;omega
 have hilk:∀t,t<1000000→t≠lk k:=fun t ht e=>by have:=lk_ge k;omega
 have hG:d.G0.get=Eng.updL (fun _=>Gh.no) [i,lk k] [.tip k s,.pv s]:=by
  simp only [FD.G0,b9,hps,GL.get_updL]
  rfl
 have hst:d.start ins=head (lk k :: List.range d.np) (ins.getD i .dead :: ins.set i .pt):=by simp [FD.start,b9,hps]
 have hgd:ins.getD i .dead = .sl s es:=by simp [List.getD,a2]
 rw [hgd] at hst
 rw [hG,hst]
 have sk:head (lk k :: List.range d.np) (.sl s es :: ins.set i .pt) (lk k) = .sl s es:=by simp [head,Eng.updL,upd]
 have ss:∀t,t≠lk k→head (lk k :: List.range d.np) (.sl s es :: ins.set i .pt) t=(ins.set i .pt).getD t .dead:=fun t ht=>by
  have:head (lk k :: List.range d.np) (.sl s es :: ins.set i .pt) t=head (List.range d.np) (ins.set i .pt) t:=by simp [head,Eng.updL,upd,ht]
  rw [this,start_range (by rw [List.length_set,hlen])]
 have gi:Eng.updL (fun _=>Gh.no) [i,lk k] [.tip k s,.pv s] i = .tip k s:=by simp [Eng.updL,upd]
 have gk:Eng.updL (fun _=>Gh.no) [i,lk k] [.tip k s,.pv s] (lk k) = .pv s:=by
  simp only [Eng.updL]
  rw [upd_ne _ _ (hilk i (by omega)).symm,upd_same]
 have go:∀x,x≠i→x≠lk k→Eng.updL (fun _=>Gh.no) [i,lk k] [.tip k s,.pv s] x = .no:=fun x h1 h2=>by
  simp only [Eng.updL]
  rw [upd_ne _ _ h1,upd_ne _ _ h2]
 generalize Eng.updL (fun _=>Gh.no) [i,lk k] [.tip k s,.pv s]=γ at gi gk go
 generalize head (lk k :: List.range d.np) (.sl s es :: ins.set i .pt)=σ at sk ss
 have inv:∀x,γ x = .no∨(x=i∧γ x = .tip k s)∨(x=lk k∧γ x = .pv s):=fun x=>by
  by_cases h1:x=i
  ·subst h1;exact .inr (.inl ⟨rfl,gi⟩)
  ·by_cases h2:x=lk k
   ·subst h2;exact .inr (.inr ⟨rfl,gk⟩)
   ·exact .inl (go x h1 h2)
 have hblk:∀(D:Dyn) key g,blk D γ key=some g→key=lk k∧(D.τ (lk k)).ownBlock=some g:=fun D key g hb=>by
  unfold blk at hb
  rcases inv key with e | ⟨_,e⟩ | ⟨e1,e⟩ <;> rw [e] at hb
  ·cases hb
  ·cases hb
  ·subst e1;exact ⟨rfl,hb⟩
 refine ⟨⟨R,fun _=>0,upd (fun _=>undef) (lk k) v⟩,{ size:=hsize,defers:=rfl,ntlt:=b2,rng:=?_,lrng:=?_,slot:=?_,mem:=?_,tip:=?_,ps:=?_,sep:=?_,own:=?_,inv:=?_,ext:=Ext.refl _ _ _,rlt:=hR,gl:=hgl,fix:=?_ }⟩
 ·intro m hm
  rcases inv m with e | ⟨_,e⟩ | ⟨_,e⟩ <;> rw [e] at hm <;> cases hm
 ·intro m hm
  rcases inv m with e | ⟨_,e⟩ | ⟨e1,e⟩
  ·rw [e] at hm;cases hm
  ·rw [e] at hm;cases hm
  ·subst e1;exact lk_ge _
 ·intro t ht
  dsimp only at ht ⊢
  rw [ss t (hilk t (by omega)),tmps_get ht]
  refine .inr ⟨slot_of a5 t,fun _=>?_⟩
  rcases inv t with e | ⟨e1,e⟩ | ⟨e1,e⟩
  ·rw [e];trivial
  ·rw [e]
   subst e1
   have hv:xs.getD t undef=v:=by simp [List.getD,a1]
   rw [hv]
   refine ⟨by simp only [upd_same],by rcases a3 with rfl | ⟨_,_,_,_,_,_,rfl,_⟩ <;> rfl⟩
  ·exact (hilk t (by omega) e1).elim
 ·intro m ts hm
  rcases inv m with e | ⟨_,e⟩ | ⟨_,e⟩ <;> rw [e] at hm <;> cases hm
 ·intro m ts hm
  rcases inv m with e | ⟨_,e⟩ | ⟨_,e⟩ <;> rw [e] at hm <;> cases hm
 ·intro key s' hs
  rcases inv key with e | ⟨_,e⟩ | ⟨e1,e⟩
  ·rw [e] at hs;cases hs
  ·rw [e] at hs;cases hs
  ·rw [e] at hs
   cases hs
   subst e1
   rw [sk]
   simp only [upd_same]
   exact ⟨a3,a4,fun d s1 s2 f1 _=>by rw [gk] at f1;cases f1⟩
 ·intro p q g hp hq
  exact .inl ((hblk _ p g hp).1.trans (hblk _ q g hq).1.symm)
 ·intro p g hp
  have:=(hblk _ p g hp).2
  simp only [upd_same] at this
  exact .inl this
 ·intro key
  rcases inv key with e | ⟨_,e⟩ | ⟨_,e⟩
  ·rw [e];trivial
  ·rw [e]
   show (γ (lk k)).isLk=true
   rw [gk];rfl
  ·rw [e];trivial
 ·refine ⟨fun b hb=>(by cases hb),fun v' hv'=>?_⟩
  cases hv'
  subst b12
  refine ⟨by rw [gk];rfl,?_⟩
  simp only [upd_same]
end
end Go.Eng
namespace Go.Eng
open Go.RowKit
theorem allS_some {X:Type}:∀{l:List (Option X)} {r:List X},allS l=some r→l=r.map some
 | [],_,h=>by simp only [allS,Option.some.injEq] at h;subst h;rfl
 | none :: _,_,h=>by simp [allS] at h
 | some x :: l,r,h=>by
  simp only [allS,Option.map_eq_some_iff] at h
  obtain ⟨r',h1,rfl⟩:=h
  rw [allS_some h1];rfl
theorem cellKey_spec {us:List (Nat × (Nat × Nat))} {q:Nat × Nat} {k:Nat} (h:cellKey us q=some k):∃u∈us,u.1=q.1∧u.2.1=k:=by
 simp only [cellKey,Option.map_eq_some_iff] at h
 obtain ⟨u,h1,h2⟩:=h
 have:=List.find?_some h1
 simp only [Bool.and_eq_true,beq_iff_eq] at this
 exact ⟨u,List.mem_of_find?_eq_some h1,this.1,h2⟩
def resM (tmps:Array Value):ResultVar→Sem Value
 | .tmp t=>pure (tmps.getD t undef)
 | .cell a t=>do loadVar t (←asAddr (tmps.getD a undef))
theorem run_results {P:Program} {w:World} {fn:Func} {tmps:Array Value} {vs:List Value} (h:(fn.results.toList.mapM (resM tmps)).run P w = .ok vs w) :
  (results fn tmps).run P w = .ok (if vs.length=1 then vs.headD undef else .tuple ⟨vs⟩) w:=by
 have e:results fn tmps=(do
   let vs ←fn.results.mapM (resM tmps)
   pure (if h:vs.size=1 then vs[0] else .tuple vs)):=by
  unfold results
  congr 2
 rw [e,Array.mapM_eq_mapM_toList]
 simp only [Sem.run_bind,Sem.run_map,h,Result.andThen_ok,Sem.run_pure]
 match vs with
 | []=>simp
 | [x]=>simp
 | _ :: _ :: _=>simp
section
variable {C:Ctx} {D:Dyn} {σ:Sg} {a:Act} {w:World} {G:GL}
def ResVal (D:Dyn) (G:GL) (σ:Sg) (a:Act) (r:RV) (x:AV) (v:Value):Prop :=
 match r with
 | .t j=>x=σ j∧v=a.tmps.getD j undef
 | .c _ m n agg=>n=1→agg=false→∀us,G.get m = .cl us→∀u∈us,u.1=0→v=D.τ (lk u.2.1)
theorem res_one (h:Sim C D σ G.get a w) {rv:ResultVar} {r:RV} {x:AV} (hr:resOK C.P C.nt rv r=true) (hg:r.okG G=true) (hx:r.get σ=some x) :
  ∃v,(resM a.tmps rv).run C.P w = .ok v w∧Rep D.R w x v∧ResVal D G σ a r x v:=by
 cases rv with
 | tmp t =>
  cases r with
  | c=>simp [resOK] at hr
  | t j =>
   simp only [resOK,Bool.and_eq_true,beq_iff_eq,decide_eq_true_eq] at hr
   obtain ⟨rfl,ht⟩:=hr
   simp only [RV.get,Option.some.injEq] at hx
   subst hx
   refine ⟨_,rfl,?_,rfl,rfl⟩
   rcases h.slot t ht with e | ⟨e,_⟩
   ·rw [e];exact .dead _
   ·exact e
 | cell ad ty =>
  cases r with
  | t j=>simp [resOK] at hr
  | c ad' m n agg =>
   simp only [resOK,Bool.and_eq_true,beq_iff_eq,decide_eq_true_eq] at hr
   obtain ⟨⟨rfl,ht⟩,hs⟩:=hr
   simp only [RV.okG,Bool.and_eq_true,beq_iff_eq] at hg
   obtain ⟨g1,g2⟩:=hg
   simp only [RV.get] at hx
   split at hx
   ·rename_i cs e1 e2
    have hv:=h.slot ad ht
    rw [e1,g1] at hv
    have hv:a.tmps.getD ad undef = .pointer (some ⟨D.β m,0,none⟩):=by
     rcases hv with e | ⟨_,e⟩
     ·cases e
     ·exact e (by simp)
    cases hm:G.get m with
    | cl us =>
     obtain ⟨ws,hVA,hts0⟩:=h.mem m us hm
     rw [e2] at hVA
     obtain ⟨elem,hh,hL⟩:=hVA.ag
     have hws:∀(j:Nat) (y:Value),(ws.take cs.length)[j]?=some y→ws[j]?=some y:=fun j y hj=>by
      rw [List.getElem?_take] at hj;split at hj
      ·exact hj
      ·cases hj
     have hts:agg=false→∀t∈us,t.1=0→(ws.take cs.length)[t.1]?=some (D.τ (lk t.2.1)):=fun ha t ht he=>by
      have hlt:0<cs.length:=by
       subst ha
       simp only [partAV,Bool.false_eq_true,if_false] at hx
       exact (List.getElem?_eq_some_iff.1 hx).1
      rw [List.getElem?_take,if_pos (by omega)]
      exact hts0 t ht
     generalize hvs:ws.take cs.length=vs at hL hts hws
     simp only [shapeOK,Bool.and_eq_true,beq_iff_eq,Bool.or_eq_true] at hs
     obtain ⟨⟨s1,s2⟩,s3⟩:=hs
     have h1:agg=true∨n=1:=s3
     simp only [sizeT,Option.map_eq_some_iff] at s1
     obtain ⟨inf,hi,hz⟩:=s1
     obtain ⟨hlen,hrep⟩:=part_rep hL hx h1
     have hc:∀j y,((vs.drop 0).take n)[j]?=some y→w.cell? ⟨D.β m,0+j,none⟩=some y:=by
      intro j y hj
      rw [List.getElem?_take] at hj
      split at hj
      ·rw [List.getElem?_drop] at hj
       have:=hws _ _ hj
       simp only [World.cell?,hh]
       simpa using this
      ·cases hj
     refine ⟨_,?_,hrep,?_⟩
     ·simp only [resM,hv,asAddr,Sem.run_bind,Sem.run_pure,Result.andThen_ok]
      exact run_loadVar hi s2 (hz ▸ h1) (hlen.trans hz.symm) hc
     ·intro n1 a1 us' hus u hu h0
      subst n1;subst a1
      rw [hm] at hus
      cases hus
      have:=hts rfl u hu h0
      rw [h0] at this
      simp only [Bool.false_eq_true,if_false,List.drop_zero]
      cases vs with
      | nil=>simp at this
      | cons y ys=>simpa using this
    | _=>rw [hm] at g2;simp [Gh.isCl] at g2
   ·cases hx
theorem res_all (h:Sim C D σ G.get a w):∀{rvs:List ResultVar} {res:List RV} {xs:List AV},all2 (resOK C.P C.nt) rvs res=true→res.all (RV.okG G)=true→outL σ res=some xs →
  ∃vs,(rvs.mapM (resM a.tmps)).run C.P w = .ok vs w∧RepT D.R w xs vs∧vs.length=res.length∧∀(i:Nat) (r:RV),res[i]?=some r→∃x v,xs[i]?=some x∧vs[i]?=some v∧ResVal D G σ a r x v
 | [],[],xs,_,_,h3=>by
  simp only [outL,Option.some.injEq] at h3
  subst h3
  exact ⟨[],by simp [List.mapM_nil],.nil,rfl,fun i r e=>by simp at e⟩
 | rv :: rvs,r :: res,xs,h1,h2,h3=>by
  simp only [all2,Bool.and_eq_true] at h1
  simp only [List.all_cons,Bool.and_eq_true] at h2
  simp only [outL,Option.bind_eq_some_iff,Option.map_eq_some_iff] at h3
  obtain ⟨x,hx,xs',hxs,rfl⟩:=h3
  obtain ⟨v,v1,v2,v3⟩:=res_one h h1.1 h2.1 hx
  obtain ⟨vs,q1,q2,q3,q4⟩:=res_all h h1.2 h2.2 hxs
  refine ⟨v :: vs,?_,.cons v2 q2,by simp [q3],?_⟩
  ·simp only [List.mapM_cons,Sem.run_bind,v1,q1,Result.andThen_ok,Sem.run_pure]
  ·intro i r' e
   cases i with
   | zero =>
    simp only [List.getElem?_cons_zero,Option.some.injEq] at e
    subst e
    exact ⟨x,v,rfl,rfl,v3⟩
   | succ i =>
    simp only [List.getElem?_cons_succ] at e ⊢
    exact q4 i r' e
 | [],_ :: _,_,h1,_,_=>by simp [all2] at h1
 | _ :: _,[],_,h1,_,_=>by simp [all2] at h1
theorem key_val (h:Sim C D σ G.get a w) {rv:ResultVar} {r:RV} {s k s':Nat} {es:List AV} {v:Value} (hr:resOK C.P C.nt rv r=true) (hk:r.key G s=some k) (hv:ResVal D G σ a r (.sl s' es) v):v=D.τ (lk k):=by
 cases r with
 | t j =>
  cases rv with
  | cell=>simp [resOK] at hr
  | tmp t =>
  simp only [resOK,Bool.and_eq_true,beq_iff_eq,decide_eq_true_eq] at hr
  obtain ⟨rfl,ht⟩:=hr
  obtain ⟨e1,e2⟩:=hv
  simp only [RV.key] at hk
  split at hk
  ·rename_i k' s'' hg
   split at hk
   ·cases hk
    have:=h.slot t ht
    rw [←e1,hg] at this
    rcases this with e | ⟨_,e⟩
    ·cases e
    ·rw [e2];exact (e (by simp)).1
   ·cases hk
  ·cases hk
 | c ad m n agg =>
  simp only [RV.key] at hk
  split at hk
  ·rename_i hc
   split at hk
   ·rename_i us hus
    obtain ⟨u,hu,u1,u2⟩:=cellKey_spec hk
    rw [←u2]
    exact hv hc.1 hc.2 us hus u hu u1
   ·cases hk
  ·cases hk
theorem varKeys_spec (h:Sim C D σ G.get a w) {q:Option (Nat × Nat)} {ts:List (Nat × Nat)} {ks:List Nat} (hk:varKeys G q ts=some ks) {cs:List Value} {i m:Nat} (hq:q=some (i,m)) (hcs:∀us,G.get m = .cl us→∀t∈us,cs[t.1]?=some (D.τ (lk t.2.1))) :
  ∀(p:Nat) (t:Nat × Nat) (v:Value),ts[p]?=some t→(ks.map fun k=>D.τ (lk k))[p]?=some v→cs[t.1]?=some v:=by
 subst hq
 intro p t v hp hv
 simp only [varKeys] at hk
 split at hk
 ·rename_i us hus
  have e:=allS_some hk
  rw [List.getElem?_map,Option.map_eq_some_iff] at hv
  obtain ⟨k,hkp,rfl⟩:=hv
  have e1:(ts.map (cellKey us))[p]?=(ks.map some)[p]?:=by rw [e]
  rw [List.getElem?_map,List.getElem?_map,hp,hkp] at e1
  simp only [Option.map_some,Option.some.injEq] at e1
  obtain ⟨u,hu,u1,u2⟩:=cellKey_spec e1
  have:=hcs us hus u hu
  rw [u1,u2] at this
  exact this
 ·cases hk
theorem live_get (h:Sim C D σ G.get a w) {ks:List Nat} {ts:List (Nat × Nat)} (hl:liveAll G ks ts=true):ks.length=ts.length∧(∀(p k:Nat),ks[p]?=some k→∃t,ts[p]?=some t∧G.get (lk k) = .live t.2):=by
 refine ⟨all2_len hl,fun p k hk=>?_⟩
 obtain ⟨t,h1,h2⟩:=all2_get hl hk
 exact ⟨t,h1,by simpa using h2⟩
theorem live_app:∀{A B:List Nat} {X Y:List (Nat × Nat)},liveAll G A X=true→liveAll G B Y=true→liveAll G (A++B) (X++Y)=true
 | [],_,[],_,_,h2=>h2
 | [],_,_ :: _,_,h1,_=>by simp [liveAll,all2] at h1
 | _ :: _,_,[],_,h1,_=>by simp [liveAll,all2] at h1
 | a :: A,B,x :: X,Y,h1,h2=>by
  simp only [liveAll,all2,Bool.and_eq_true,List.cons_append] at h1 ⊢
  exact ⟨h1.1,live_app h1.2 h2⟩
theorem end_ok {d:FD} {fn:Func} {outs:List AV} {xs:List Value} (hps:d.ps=none) (h:Sim C D σ G.get a w) (hb:d.begins C.nt=true) (hrt:d.rt G=true) (hres:all2 (resOK C.P C.nt) fn.results.toList d.res=true) (ho:d.OutS σ outs)
  (hfix:∀i,d.sg.ref=some i→∃b,xs[i]?=some (.pointer (some ⟨b,0,none⟩))∧C.fix=some b) :
  ∃x,(results fn a.tmps).run C.P w = .ok x w∧OutOK d.sg D.R w C.mine xs outs x:=by
 obtain ⟨rs,o1,o2,o3,ho⟩:=ho
 rw [hps,Option.toList_none,List.map_nil,List.append_nil] at ho
 subst ho
 simp only [FD.rt,Bool.and_eq_true] at hrt
 obtain ⟨⟨⟨⟨r1,r2⟩,r3⟩,r4⟩,_⟩:=hrt
 split at r4
 ·rename_i Kr Ko Kn k1 k2 k3
  simp only [Bool.and_eq_true,decide_eq_true_eq] at r4
  obtain ⟨⟨⟨n1,l1⟩,l2⟩,l3⟩:=r4
  obtain ⟨vs,q1,q2,q3,q4⟩:=res_all h hres r1 o1
  simp only [FD.begins,Bool.and_eq_true,decide_eq_true_eq] at hb
  obtain ⟨⟨⟨b1,b2,b3,b4,b5,b6⟩,b7⟩,_⟩:=hb
  obtain ⟨lr1,lr2⟩:=live_get h l1
  obtain ⟨lo1,lo2⟩:=live_get h l2
  obtain ⟨ln1,ln2⟩:=live_get h l3
  have hrsl:rs.length=d.res.length:=by rw [←q3,q2.length]
  have hsgn:d.sg.nres=d.res.length:=rfl
  have href:d.sg.ref=d.ref.map (·.1):=rfl
  have hnew:d.sg.new=d.new.map (·.1):=rfl
  -- the variables
  have hcl:∀m,(G.get m).isCl=true→∃us cs,G.get m = .cl us∧VarAt D.R w (σ m) (D.β m) cs∧∀t∈us,cs[t.1]?=some (D.τ (lk t.2.1)):=by
   intro m hm
   cases hg:G.get m with
   | cl us=>obtain ⟨cs,e1,e2⟩:=h.mem m us hg;exact ⟨us,cs,rfl,e1,e2⟩
   | _=>rw [hg] at hm;cases hm
  have hrefv:∃cr,∀i m,d.ref=some (i,m)→m=999999∧VarAt D.R w (σ m) (D.β m) cr∧∀us,G.get m = .cl us→∀t∈us,cr[t.1]?=some (D.τ (lk t.2.1)):=by
   cases hr:d.ref with
   | none=>exact ⟨[],fun i m e=>by cases e⟩
   | some im =>
    obtain ⟨i,m⟩:=im
    simp only [hr] at r2
    obtain ⟨us,cs,e1,e2,e3⟩:=hcl m r2
    simp only [hr,decide_eq_true_eq] at b7
    exact ⟨cs,fun i' m' e=>by cases e;exact ⟨b7.2.2,e2,fun us' hu=>by rw [e1] at hu;cases hu;exact e3⟩⟩
  have hnewv:∃cn,∀j m,d.new=some (j,m)→(G.get m).isCl=true∧vs[j]?=some (.pointer (some ⟨D.β m,0,none⟩))∧VarAt D.R w (σ m) (D.β m) cn∧∀us,G.get m = .cl us→∀t∈us,cn[t.1]?=some (D.τ (lk t.2.1)):=by
   cases hn:d.new with
   | none=>exact ⟨[],fun i m e=>by cases e⟩
   | some jm =>
    obtain ⟨j,m⟩:=jm
    simp only [hn,Bool.and_eq_true] at r3
    obtain ⟨us,cs,e1,e2,e3⟩:=hcl m r3.1
    refine ⟨cs,fun j' m' e=>?_⟩
    cases e
    refine ⟨r3.1,?_,e2,fun us' hu=>by rw [e1] at hu;cases hu;exact e3⟩
    have r5:=r3.2
    split at r5
    ·rename_i t ht
     obtain ⟨x,v,p1,p2,p3,p4⟩:=q4 j _ ht
     rw [o3 (j,m) hn] at p1
     cases p1
     obtain ⟨rv,p5,p6⟩:∃rv,fn.results.toList[j]?=some rv∧resOK C.P C.nt rv (.t t)=true:=by
      have hlt:=(List.getElem?_eq_some_iff.1 ht).1
      have hl:=all2_len hres
      have e0:fn.results.toList[j]?=some fn.results.toList[j]:=List.getElem?_eq_getElem (by omega)
      obtain ⟨y,y1,y2⟩:=all2_get hres e0
      rw [ht] at y1
      cases y1
      exact ⟨_,e0,y2⟩
     have htl:t<C.nt:=by
      cases rv with
      | cell=>simp [resOK] at p6
      | tmp t' =>
       simp only [resOK,Bool.and_eq_true,beq_iff_eq,decide_eq_true_eq] at p6
       obtain ⟨rfl,p6⟩:=p6
       exact p6
     have:=h.slot t htl
     rw [←p3] at this
     have r5':G.get t = .ptr m 0:=by simpa using r5
     rw [r5'] at this
     rcases this with e | ⟨_,e⟩
     ·cases e
     ·rw [p2,p4];exact congrArg some (e (by simp))
    ·cases r5
  obtain ⟨cr,hrefv⟩:=hrefv
  obtain ⟨cn,hnewv⟩:=hnewv
  have hlall:liveAll G (Kr++Ko++Kn) (cut3 d.tips++d.own++d.tnew)=true:=live_app (live_app l1 l2) l3
  have hlv:∀k∈Kr++Ko++Kn,∃s,G.get (lk k) = .live s:=by
   intro k hk
   obtain ⟨p,hp⟩:=List.getElem?_of_mem hk
   obtain ⟨t,_,h2⟩:=(live_get h hlall).2 p k hp
   exact ⟨_,h2⟩
  have hown:owners d.sg (D.β ((d.new.map (·.2)).getD 0)) (D.β 999999) (Kr.map (fun k=>D.τ (lk k))++Ko.map (fun k=>D.τ (lk k))++Kn.map (fun k=>D.τ (lk k))) =
    (d.new.toList.map (·.2)++d.ref.toList.map (·.2)++(Kr++Ko++Kn).map lk).map (blk D G.get):=by
   have e1:(if d.sg.new.isSome then [some (D.β ((d.new.map (·.2)).getD 0))] else [])=(d.new.toList.map (·.2)).map (blk D G.get):=by
    rw [hnew]
    cases hn:d.new with
    | none=>rfl
    | some jm =>
     obtain ⟨us,cs,e,_⟩:=hcl _ (hnewv jm.1 jm.2 hn).1
     simp [blk_cl e]
   have e2:(if d.sg.ref.isSome then [some (D.β 999999)] else [])=(d.ref.toList.map (·.2)).map (blk D G.get):=by
    rw [href]
    cases hr:d.ref with
    | none=>rfl
    | some im =>
     obtain ⟨p0,_⟩:=hrefv im.1 im.2 hr
     simp only [hr] at r2
     obtain ⟨us,cs,e,_⟩:=hcl _ r2
     simp only [Option.map_some,Option.isSome_some,if_true,Option.toList_some,List.map_cons,List.map_nil,blk_cl e]
     rw [p0]
   have e3:(Kr.map (fun k=>D.τ (lk k))++Ko.map (fun k=>D.τ (lk k))++Kn.map (fun k=>D.τ (lk k))).map Value.ownBlock=((Kr++Ko++Kn).map lk).map (blk D G.get):=by
    rw [←List.map_append,←List.map_append,List.map_map,List.map_map]
    apply List.map_congr_left
    intro k hk
    obtain ⟨s,hs⟩:=hlv k hk
    exact (blk_live hs).symm
   unfold owners
   rw [e1,e2,e3,←List.map_append,←List.map_append]
  have hclx:∀x∈d.new.toList.map (·.2)++d.ref.toList.map (·.2),(G.get x).isCl=true:=by
   intro x hx
   rcases List.mem_append.1 hx with hx | hx
   ·cases hn:d.new with
    | none=>rw [hn] at hx;simp at hx
    | some jm =>
     rw [hn] at hx
     simp only [Option.toList_some,List.map_cons,List.map_nil,List.mem_singleton] at hx
     rw [hx]
     exact (hnewv jm.1 jm.2 hn).1
   ·cases hr:d.ref with
    | none=>rw [hr] at hx;simp at hx
    | some im =>
     rw [hr] at hx
     simp only [Option.toList_some,List.map_cons,List.map_nil,List.mem_singleton] at hx
     simp only [hr] at r2
     rw [hx]
     exact r2
  have hnP:∀x∈d.new.toList.map (·.2)++d.ref.toList.map (·.2)++(Kr++Ko++Kn).map lk,(G.get x).isP=false:=by
   intro x hx
   rcases List.mem_append.1 hx with hx | hx
   ·have:=hclx x hx
    cases hg:G.get x <;> rw [hg] at this <;> first | rfl | cases this
   ·obtain ⟨k,hk,rfl⟩:=List.mem_map.1 hx
    obtain ⟨p,hp⟩:=List.getElem?_of_mem hk
    obtain ⟨t,_,h2⟩:=(live_get h hlall).2 p k hp
    rw [h2];rfl
  have hknd:(d.new.toList.map (·.2)++d.ref.toList.map (·.2)++(Kr++Ko++Kn).map lk).Nodup:=by
   rw [List.nodup_append]
   refine ⟨?_,List.Pairwise.map _ (fun a b h e=>h (lk_inj e)) n1,?_⟩
   ·rcases b6 with e | e
    ·rw [e];cases d.new <;> simp
    ·rw [e];cases d.ref <;> simp
   ·intro x hx y hy e
    obtain ⟨k,_,rfl⟩:=List.mem_map.1 hy
    have h1:=lk_ge k
    have hx':(G.get x).isCl=true:=by
     rcases List.mem_append.1 hx with hx | hx
     ·cases hn:d.new with
      | none=>rw [hn] at hx;simp at hx
      | some jm =>
       rw [hn] at hx
       simp only [Option.toList_some,List.map_cons,List.map_nil,List.mem_singleton] at hx
       rw [hx]
       exact (hnewv jm.1 jm.2 hn).1
     ·cases hr:d.ref with
      | none=>rw [hr] at hx;simp at hx
      | some im =>
       rw [hr] at hx
       simp only [Option.toList_some,List.map_cons,List.map_nil,List.mem_singleton] at hx
       simp only [hr] at r2
       rw [hx]
       exact r2
    have:=(h.rng x hx').2
    omega
  refine ⟨_,run_results q1,vs,Kr.map (fun k=>D.τ (lk k)),Ko.map (fun k=>D.τ (lk k)),Kn.map (fun k=>D.τ (lk k)),D.β ((d.new.map (·.2)).getD 0),D.β 999999,cn,cr,?_,?_,?_,?_,?_,?_,?_,?_,?_,?_,?_,?_,?_,?_,?_⟩
  ·rw [q3,hsgn]
  ·rw [hsgn,q3]
  ·simp only [List.length_append,List.length_map,hsgn,href,hnew,hrsl]
   cases d.ref <;> cases d.new <;> simp
  ·have e:(((rs++d.new.toList.map (fun q=>σ q.2)++d.ref.toList.map (fun q=>σ q.2)).take d.sg.nres).mapIdx fun i y=>if d.sg.new=some i then AV.pt else y)=rs:=by
    rw [List.append_assoc,List.take_left' (by rw [hrsl,hsgn])]
    apply List.ext_getElem?
    intro i
    rw [List.getElem?_mapIdx]
    cases hi:rs[i]? with
    | none=>rfl
    | some y =>
     simp only [Option.map_some,Option.some.injEq]
     split
     ·rename_i e
      rw [hnew,Option.map_eq_some_iff] at e
      obtain ⟨q,hq,e⟩:=e
      have:=o3 q hq
      rw [e,hi] at this
      cases this;rfl
     ·rfl
   rw [e]
   exact q2
  ·intro j hj
   rw [hnew,Option.map_eq_some_iff] at hj
   obtain ⟨⟨j',m⟩,hn,e⟩:=hj
   simp only at e
   subst e
   obtain ⟨_,p1,p2,_⟩:=hnewv _ _ hn
   simp only [hn,Option.map_some,Option.getD_some]
   refine ⟨p1,?_⟩
   have:(rs++(some (j',m)).toList.map (fun q=>σ q.2)++d.ref.toList.map (fun q=>σ q.2)).getD d.sg.nres .dead=σ m:=by
    rw [List.append_assoc,List.getD_eq_getElem?_getD,List.getElem?_append_right (by rw [hrsl,hsgn];exact Nat.le_refl _)]
    simp [hrsl,hsgn]
   rw [this]
   exact p2
  ·intro i hi
   obtain ⟨b,x1,x2⟩:=hfix i hi
   rw [href,Option.map_eq_some_iff] at hi
   obtain ⟨⟨i',m⟩,hr,e⟩:=hi
   simp only at e
   subst e
   obtain ⟨p0,p1,_⟩:=hrefv _ _ hr
   subst p0
   refine ⟨by rw [x1,h.fix.1 b x2],?_⟩
   have hn:d.new=none:=by
    rcases b6 with e | e
    ·rw [hr] at e;cases e
    ·exact e
   have:(rs++d.new.toList.map (fun q=>σ q.2)++d.ref.toList.map (fun q=>σ q.2)).getD (d.sg.nres+if d.sg.new.isSome=true then 1 else 0) .dead=σ 999999:=by
    rw [hr,hn,hnew,hn]
    simp only [Option.map_none,Option.toList_none,List.map_nil,List.append_nil,Option.toList_some,List.map_cons]
    rw [List.getD_eq_getElem?_getD,List.getElem?_append_right (by rw [hrsl,hsgn];exact Nat.le_add_right _ _)]
    simp [hrsl,hsgn]
   rw [this]
   exact p1
  ·rw [List.length_map,lr1];rfl
  ·rw [List.length_map,lo1];rfl
  ·rw [List.length_map,ln1];rfl
  ·intro p t v hp hv
   cases hr:d.ref with
   | none =>
    have:=b4 hr
    simp [FD.sg,cut3,this] at hp
   | some im =>
    exact varKeys_spec h k1 hr (hrefv _ _ hr).2.2 p t v hp hv
  ·intro p t v hp hv
   rw [List.getElem?_map,Option.map_eq_some_iff] at hv
   obtain ⟨k,hkp,rfl⟩:=hv
   have e:=allS_some k2
   have e1:(d.own.map fun q=>(d.res[q.1]?).bind (RV.key G q.2))[p]?=(Ko.map some)[p]?:=by rw [e]
   have hp':d.own[p]?=some t:=hp
   rw [List.getElem?_map,List.getElem?_map,hp',hkp] at e1
   simp only [Option.map_some,Option.some.injEq,Option.bind_eq_some_iff] at e1
   obtain ⟨r,hr,hk⟩:=e1
   obtain ⟨x,v,p1,p2,p3⟩:=q4 _ _ hr
   obtain ⟨s,es,hs⟩:=o2 t (List.mem_of_getElem? hp')
   rw [hs] at p1
   cases p1
   have hlt:=(List.getElem?_eq_some_iff.1 hr).1
   have hl:=all2_len hres
   have e0:fn.results.toList[t.1]?=some fn.results.toList[t.1]:=List.getElem?_eq_getElem (by omega)
   obtain ⟨y,y1,y2⟩:=all2_get hres e0
   rw [hr] at y1
   cases y1
   rw [p2,key_val h y2 hk p3]
  ·intro p t v hp hv
   cases hn:d.new with
   | none =>
    have:=b5 hn
    simp [FD.sg,this] at hp
   | some jm =>
    exact varKeys_spec h k3 hn (hnewv _ _ hn).2.2.2 p t v hp hv
  ·intro p t v hp hv
   have hv':((Kr++Ko++Kn).map fun k=>D.τ (lk k))[p]?=some v:=by simpa using hv
   rw [List.getElem?_map,Option.map_eq_some_iff] at hv'
   obtain ⟨k,hkp,rfl⟩:=hv'
   obtain ⟨t',h1,h2⟩:=(live_get h hlall).2 p k hkp
   have hp':(cut3 d.tips++d.own++d.tnew)[p]?=some t:=hp
   rw [hp'] at h1
   cases h1
   exact h.tip _ _ h2
  ·intro p q g hp hq
   rw [hown,List.getElem?_map,Option.map_eq_some_iff] at hp hq
   obtain ⟨x,x1,x2⟩:=hp
   obtain ⟨y,y1,y2⟩:=hq
   have:=h.sepN (hnP x (List.mem_of_getElem? x1)) x2 y2
   subst this
   obtain ⟨hx,ex⟩:=List.getElem?_eq_some_iff.1 x1
   obtain ⟨hy,ey⟩:=List.getElem?_eq_some_iff.1 y1
   rcases Nat.lt_trichotomy p q with hlt | he | hlt
   ·exact absurd (ex.trans ey.symm) (List.pairwise_iff_getElem.1 hknd p q hx hy hlt)
   ·exact he
   ·exact absurd (ey.trans ex.symm) (List.pairwise_iff_getElem.1 hknd q p hy hx hlt)
  ·intro g hg
   rw [hown,List.mem_map] at hg
   obtain ⟨x,_,x2⟩:=hg
   exact h.own x g x2
 ·cases r4
theorem end_okP {d:FD} {fn:Func} {outs:List AV} {i k s:Nat} {es:List AV} (hps:d.ps=some (i,k,s)) (h:Sim C D σ G.get a w) (hb:d.begins C.nt=true) (hrt:d.rt G=true) (hres:all2 (resOK C.P C.nt) fn.results.toList d.res=true) (ho:d.OutS σ (outs++[.sl s es])) :
  ∃rvs,(results fn a.tmps).run C.P w = .ok (if d.sg.nres=1 then rvs.headD undef else .tuple ⟨rvs⟩) w∧rvs.length=d.sg.nres∧RepT D.R w outs rvs∧TipOK D.R w (D.τ (lk k)) s∧PrivOK D.R w (D.τ (lk k)) s (.sl s es)∧k=999999:=by
 simp only [FD.begins,Bool.and_eq_true,decide_eq_true_eq,hps] at hb
 obtain ⟨_,b8,b9,b10,b11,b12⟩:=hb
 obtain ⟨rs,o1,o2,o3,ho⟩:=ho
 rw [hps,b9,b10] at ho
 simp only [Option.toList_none,List.map_nil,List.append_nil,Option.toList_some,List.map_cons] at ho
 obtain ⟨rfl,hk⟩:=List.append_inj' ho rfl
 simp only [List.cons.injEq,and_true] at hk
 simp only [FD.rt,Bool.and_eq_true,hps] at hrt
 obtain ⟨⟨⟨⟨r1,r2⟩,r3⟩,r4⟩,r5⟩:=hrt
 obtain ⟨vs,q1,q2,q3,q4⟩:=res_all h hres r1 o1
 have hz:(G.get (lk k)).psz=some s:=by
  split at r5
  ·rename_i e;rw [e];simp at r5;rw [r5];rfl
  ·rename_i e;rw [e];simp at r5;rw [r5];rfl
  ·cases r5
 obtain ⟨t1,t2,_⟩:=h.ps _ _ hz
 rw [←hk] at t2
 refine ⟨vs,?_,q3,q2,t1,t2,b12⟩
 have:=run_results q1
 rw [show d.sg.nres=vs.length from q3.symm]
 exact this
end
theorem spec_ok {P:Program} {E:Env} {sg:Nat→FSig} (hE:∀f,SpecOK P E.gl f (E.fs f)∧(E.fs f).sg=sg f) {f:Nat} {fn:Func} {d:FD} (hf:P.funcs[f]?=some fn) (hc:chkF P sg fn d=true)
  {S:FS} (hS:S.sg=d.sg) (hG:∀ins outs,S.G ins outs→ins.length=d.np∧d.runs E ins (outs++d.ps.toList.map fun q=>ins.getD q.1 .dead)):SpecOK P E.gl f S:=by
 simp only [chkF,Bool.and_eq_true] at hc
 obtain ⟨⟨hb,hres⟩,hchk⟩:=hc
 cases hbody:fn.body with
 | none=>simp [hbody] at hchk
 | some c =>
  simp only [hbody] at hchk
  cases hk:chk P sg fn.ntmps d.rt c d.m d.G0 with
  | none=>simp [hk] at hchk
  | some r =>
   obtain ⟨n,ex⟩:=r
   simp only [hk,Bool.and_eq_true,List.isEmpty_iff] at hchk
   obtain ⟨rfl,hn⟩:=hchk
   refine ⟨fun hps=>?_,fun i s hps=>?_⟩
   ·have hps':d.ps=none:=by
     rw [hS] at hps
     cases h:d.ps with
     | none=>rfl
     | some q=>simp [FD.sg,h] at hps
    intro w R ins outs xs hg hR hgl ha
    obtain ⟨hlen,hrun⟩:=hG ins outs hg
    rw [hps',Option.toList_none,List.map_nil,List.append_nil] at hrun
    rw [hS] at ha ⊢
    obtain ⟨D,hsim⟩:=begin_ok (P:=P) (E:=E) hps' hb hlen hR hgl ha
    have hxs:(⟨xs⟩:Array Value).size=xs.length:=rfl
    refine calls_of_wp hf hbody ?_
    rw [hxs]
    have hfix:∀i,d.sg.ref=some i→∃b,xs[i]?=some (.pointer (some ⟨b,0,none⟩))∧fixOf d xs=some b:=by
     intro i hi
     simp only [ArgsOK,hi] at ha
     obtain ⟨b,cs,x,tv,a1,_⟩:=ha
     exact ⟨b,a1,by simp [fixOf,hi,a1]⟩
    have hend:∀(G':GL) D' σ' a' w',d.rt G'=true→d.OutS σ' outs→Sim ⟨P,E,fn.ntmps,w,R,ioOf d.sg w xs,fixOf d xs,none⟩ D' σ' G'.get a' w' →
      a'.defers=[]∧∃v,(results fn a'.tmps).run P w' = .ok v w'∧(fun e w'=>∃x R',e=Ending.returned x∧Ext w R (ioOf d.sg w xs) w' R'∧(∀b o,R' b o→b<w'.heap.size) ∧
       OutOK d.sg R' w' (fun b=>ioOf d.sg w xs b∨w.heap.size≤b) xs outs x) (.returned v) w':=by
     intro G' D' σ' a' w' h1 h2 h3
     obtain ⟨x,e1,e2⟩:=end_ok hps' h3 hb h1 hres h2 hfix
     exact ⟨h3.defers,x,e1,x,D'.R,rfl,h3.ext,h3.rlt,e2⟩
    refine chk_ok (C:=⟨P,E,fn.ntmps,w,R,ioOf d.sg w xs,fixOf d xs,none⟩) hE d.m hk hsim hrun { nrm:=fun G' D' σ' a' w' e hq h'=>?_,exi:=fun i G' D' σ' a' w' hi=>(by cases hi),ret:=fun G' D' σ' a' w' hr hq h'=>?_ }
    ·simp only at e
     subst e
     exact hend G' D' σ' a' w' (by simpa using hn) hq h'
    ·exact hend G' D' σ' a' w' hr hq h'
   ·obtain ⟨k,hps'⟩:∃k,d.ps=some (i,k,s):=by
     rw [hS] at hps
     cases h:d.ps with
     | none=>simp [FD.sg,h] at hps
     | some q=>simp [FD.sg,h] at hps;obtain ⟨q1,k,q2⟩:=q;simp at hps;exact ⟨k,by rw [hps.1,hps.2]⟩
    intro w R ins outs xs v es hg hR hgl a1 a2 a3 a4 a5
    obtain ⟨hlen,hrun⟩:=hG ins outs hg
    have hgd:ins.getD i .dead = .sl s es:=by simp [List.getD,a2]
    rw [hps',Option.toList_some,List.map_cons,List.map_nil,hgd] at hrun
    obtain ⟨D,hsim⟩:=begin_okP (P:=P) (E:=E) hps' hb hlen hR hgl a1 a2 a3 a4 a5
    have hxs:(⟨xs⟩:Array Value).size=xs.length:=rfl
    refine calls_of_wp hf hbody ?_
    rw [hxs]
    have hend:∀(G':GL) D' σ' a' w',d.rt G'=true→d.OutS σ' (outs++[.sl s es])→Sim ⟨P,E,fn.ntmps,w,R,fun c=>v.ownBlock=some c,none,some v⟩ D' σ' G'.get a' w' →
      a'.defers=[]∧∃y,(results fn a'.tmps).run P w' = .ok y w'∧(fun e w'=>∃x R' rvs,e=Ending.returned x∧Ext w R (fun c=>v.ownBlock=some c) w' R'∧(∀b o,R' b o→b<w'.heap.size) ∧
       rvs.length=S.sg.nres∧x=(if S.sg.nres=1 then rvs.headD undef else .tuple ⟨rvs⟩)∧RepT R' w' outs rvs∧TipOK R' w' v s∧PrivOK R' w' v s (.sl s es)) (.returned y) w':=by
     intro G' D' σ' a' w' h1 h2 h3
     obtain ⟨rvs,e1,e2,e3,e4,e5,e6⟩:=end_okP hps' h3 hb h1 hres h2
     have h4:=(h3.fix.2 v rfl).2
     rw [e6,h4] at e4 e5
     rw [hS]
     exact ⟨h3.defers,_,e1,_,D'.R,rvs,rfl,h3.ext,h3.rlt,e2,rfl,e3,e4,e5⟩
    refine chk_ok (C:=⟨P,E,fn.ntmps,w,R,fun c=>v.ownBlock=some c,none,some v⟩) hE d.m hk hsim hrun { nrm:=fun G' D' σ' a' w' e hq h'=>?_,exi:=fun i G' D' σ' a' w' hi=>(by cases hi),ret:=fun G' D' σ' a' w' hr hq h'=>?_ }
    ·simp only at e
     subst e
     exact hend G' D' σ' a' w' (by simpa using hn) hq h'
    ·exact hend G' D' σ' a' w' hr hq h'
end Go.Eng
namespace Go.Eng
section
variable {E:Env} {Q:MX→Sg→Prop} {σ:Sg}
theorem wpm_mono {m:M} {Q':MX→Sg→Prop} (h:∀e σ,Q e σ→Q' e σ):∀{σ:Sg},wpm E m Q σ→wpm E m Q' σ:=by
 induction m generalizing Q Q' with
 | skip=>exact fun q=>h _ _ q
 | reg ms=>exact fun ⟨σ',h1,h2⟩=>⟨σ',h1,h _ _ h2⟩
 | seq a b iha ihb=>exact fun q=>iha (fun e σ' q=>by cases e <;> first | exact q.elim fun σ2 q=>⟨σ2,q.1,ihb h q.2⟩ | exact h _ _ q) q
 | cond x G a b iha ihb=>exact fun q=>q.imp (fun ⟨t,h1,h2,h3⟩=>⟨t,h1,fun e=>iha h (h2 e),fun e=>ihb h (h3 e)⟩) fun ⟨h1,h2,h3⟩=>⟨h1,iha h h2,ihb h h3⟩
 | block id G b ih=>exact fun q=>ih (fun e σ' q=>by
   cases e with
   | exit j =>
    simp only at q ⊢
    by_cases e:j=id
    ·rw [if_pos e] at q ⊢;exact h _ _ q
    ·rw [if_neg e] at q ⊢;exact h _ _ q
   | normal=>exact h _ _ q
   | ret=>exact h _ _ q) q
 | loop keep G b ih=>exact fun ⟨ι,vals,μ,i0,h1,h2⟩=>⟨ι,vals,μ,i0,h1,fun i=>ih (fun e σ' q=>by cases e <;> first | exact q | exact h _ _ q) (h2 i)⟩
 | exit id=>exact fun q=>h _ _ q
 | ret=>exact fun q=>h _ _ q
 | sco b ih=>exact fun q=>ih h q
 | scp b ih=>exact fun q=>ih h q
 | lab l keep G r b ihr ihb=>exact fun ⟨ι,vals,μ,h1,h2⟩=>⟨ι,vals,μ,ihb (fun e σ' q=>by
   cases e with
   | exit j =>
    simp only at q ⊢
    by_cases e:j=gid l
    ·rw [if_pos e] at q ⊢;exact q
    ·rw [if_neg e] at q ⊢;exact h _ _ q
   | normal=>exact h _ _ q
   | ret=>exact h _ _ q) h1,fun i=>ihr (fun e σ' q=>by
   cases e with
   | exit j =>
    simp only at q ⊢
    by_cases e:j=gid l
    ·rw [if_pos e] at q ⊢;exact q
    ·rw [if_neg e] at q ⊢;exact h _ _ q
   | normal=>exact h _ _ q
   | ret=>exact h _ _ q) (h2 i)⟩
end
end Go.Eng
namespace Go.Eng
abbrev Str:=List UInt8
inductive Fld where
 | mk (name:Str) (kind:Int) (bits high low:UInt64) (text more:Str) (sub:Int) (bytes:Str) (kids:List Fld)
 deriving Inhabited
structure Val where
 kind:Int
 bits:UInt64
 high:UInt64
 low:UInt64
 text:Str
 more:Str
 sub:Int
 bytes:Str
 kids:List Fld
 deriving Inhabited
namespace Fld
def name:Fld→Str | .mk x _ _ _ _ _ _ _ _ _=>x
def kind:Fld→Int | .mk _ x _ _ _ _ _ _ _ _=>x
def bits:Fld→UInt64 | .mk _ _ x _ _ _ _ _ _ _=>x
def high:Fld→UInt64 | .mk _ _ _ x _ _ _ _ _ _=>x
def low:Fld→UInt64 | .mk _ _ _ _ x _ _ _ _ _=>x
def text:Fld→Str | .mk _ _ _ _ _ x _ _ _ _=>x
def more:Fld→Str | .mk _ _ _ _ _ _ x _ _ _=>x
def sub:Fld→Int | .mk _ _ _ _ _ _ _ x _ _=>x
def bytes:Fld→Str | .mk _ _ _ _ _ _ _ _ x _=>x
def kids:Fld→List Fld | .mk _ _ _ _ _ _ _ _ _ x=>x
def val (f:Fld):Val:=⟨f.kind,f.bits,f.high,f.low,f.text,f.more,f.sub,f.bytes,f.kids⟩
def of (n:Str) (v:Val):Fld := .mk n v.kind v.bits v.high v.low v.text v.more v.sub v.bytes v.kids
end Fld
inductive Mem where
 | mk (name:Str) (kind:Int) (text:Str) (kids:List Mem)
 deriving Inhabited
structure Jsn where
 kind:Int
 text:Str
 kids:List Mem
 deriving Inhabited
namespace Mem
def name:Mem→Str | .mk x _ _ _=>x
def kind:Mem→Int | .mk _ x _ _=>x
def text:Mem→Str | .mk _ _ x _=>x
def kids:Mem→List Mem | .mk _ _ _ x=>x
def val (f:Mem):Jsn:=⟨f.kind,f.text,f.kids⟩
def of (n:Str) (v:Jsn):Mem := .mk n v.kind v.text v.kids
end Mem
inductive Itm where
 | mk (kind:Int) (n:UInt64) (bytes text:Str) (kids:List Itm)
 deriving Inhabited
namespace Itm
def kind:Itm→Int | .mk x _ _ _ _=>x
def n:Itm→UInt64 | .mk _ x _ _ _=>x
def bytes:Itm→Str | .mk _ _ x _ _=>x
def text:Itm→Str | .mk _ _ _ x _=>x
def kids:Itm→List Itm | .mk _ _ _ _ x=>x
end Itm
structure Itv where
 kind:Int
 n:UInt64
 bytes:Str
 text:Str
 kids:List Itm
 deriving Inhabited
namespace Itm
def val (f:Itm):Itv:=⟨f.kind,f.n,f.bytes,f.text,f.kids⟩
def of (v:Itv):Itm := .mk v.kind v.n v.bytes v.text v.kids
theorem of_val (f:Itm):of (val f)=f:=by cases f;rfl
end Itm
structure Spn where
 at_:Int
 end_:Int
 deriving Inhabited
structure Out where
 at_:Int
 bytes:Str
 loss:List (List Int)
 err:Int
 fat:Int
 path:List Int
 deriving Inhabited
structure Rdr where
 b:Str
 at_:Int
 deriving Inhabited
structure Wtr where
 b:Str
 deriving Inhabited
structure Flt where
 err:Int
 at_:Int
 path:List Int
 deriving Inhabited
structure Lim where
 depth:Int
 size:Int
 out:Int
 deriving Inhabited
inductive STy where
 | bs | is | ws | ss | iss | fl | ml | il | sp | ou
 deriving DecidableEq,Inhabited
abbrev STy.El:STy→Type
 | .bs=>UInt8
 | .is=>Int
 | .ws=>UInt16
 | .ss=>Str
 | .iss=>List Int
 | .fl=>Fld
 | .ml=>Mem
 | .il=>Itm
 | .sp=>Spn
 | .ou=>Out
def STy.size:STy→Nat
 | .fl=>10
 | .ml=>4
 | .il=>5
 | .sp=>2
 | .ou=>6
 | _=>1
def STy.dflt:(t:STy)→t.El
 | .bs=>0
 | .is=>0
 | .ws=>0
 | .ss=>[]
 | .iss=>[]
 | .fl => .mk [] 0 0 0 0 [] [] 0 [] []
 | .ml => .mk [] 0 [] []
 | .il => .mk 0 0 [] [] []
 | .sp=>⟨0,0⟩
 | .ou=>⟨0,[],[],0,0,[]⟩
inductive TV where
 | u8 (n:UInt8)
 | u16 (n:UInt16)
 | u32 (n:UInt32)
 | u64 (n:UInt64)
 | i (k:IntKind) (n:Int)
 | b (x:Bool)
 | s (l:Str)
 | sl (t:STy) (l:List t.El)
 | ag (l:List TV)
 | tu (l:List TV)
 | ro (x:TV)
 | gd (c:Bool) (x:TV)
 | c (x:Value)
 | pt
 | dead
 | el (p z q:Nat)
 | gv (zs:List Value)
 deriving Inhabited
def iAV (n:Int):AV := .v (.int .i64 n)
def strAV (l:Str):AV := .v (.string ⟨⟨l⟩⟩)
def u64AV (n:UInt64):AV := .v (.int .u64 n.toNat)
def bytesAV (l:Str):AV := .sl 1 (l.map byteAV)
def intsAV (l:List Int):AV := .sl 1 (l.map iAV)
mutual
def fldAV:Fld→AV
 | .mk n k b h l t m s y ks => .ag [strAV n,iAV k,u64AV b,u64AV h,u64AV l,strAV t,strAV m,iAV s,bytesAV y,.sl 10 (fldsAV ks)]
def fldsAV:List Fld→List AV
 | []=>[]
 | f :: r=>fldAV f :: fldsAV r
end
mutual
def memAV:Mem→AV
 | .mk n k t ks => .ag [strAV n,iAV k,strAV t,.sl 4 (memsAV ks)]
def memsAV:List Mem→List AV
 | []=>[]
 | f :: r=>memAV f :: memsAV r
end
mutual
def itmAV:Itm→AV
 | .mk k n b t ks => .ag [iAV k,u64AV n,bytesAV b,strAV t,.sl 5 (itmsAV ks)]
def itmsAV:List Itm→List AV
 | []=>[]
 | f :: r=>itmAV f :: itmsAV r
end
theorem fldsAV_map:∀l:List Fld,fldsAV l=l.map fldAV
 | []=>rfl
 | f :: r=>by rw [fldsAV,fldsAV_map r];rfl
theorem memsAV_map:∀l:List Mem,memsAV l=l.map memAV
 | []=>rfl
 | f :: r=>by rw [memsAV,memsAV_map r];rfl
theorem itmsAV_map:∀l:List Itm,itmsAV l=l.map itmAV
 | []=>rfl
 | f :: r=>by rw [itmsAV,itmsAV_map r];rfl
def STy.av:(t:STy)→t.El→AV
 | .bs,x=>byteAV x
 | .is,x=>iAV x
 | .ws,x => .v (.int .u16 (UInt16.toNat x))
 | .ss,x=>strAV x
 | .iss,x=>intsAV x
 | .fl,x=>fldAV x
 | .ml,x=>memAV x
 | .il,x=>itmAV x
 | .sp,x => .ag [iAV (Spn.at_ x),iAV (Spn.end_ x)]
 | .ou,x => .ag [iAV (Out.at_ x),bytesAV (Out.bytes x),.sl 1 ((Out.loss x).map intsAV),iAV (Out.err x),iAV (Out.fat x),intsAV (Out.path x)]
mutual
def TV.av:TV→AV
 | .u8 n=>byteAV n
 | .u16 n => .v (.int .u16 n.toNat)
 | .u32 n => .v (.int .u32 n.toNat)
 | .u64 n=>u64AV n
 | .i k n => .v (.int k n)
 | .b x => .v (.bool x)
 | .s l=>strAV l
 | .sl t l => .sl t.size (l.map t.av)
 | .ag l => .ag (TV.avs l)
 | .tu l => .tu (TV.avs l)
 | .ro x => .ro x.av
 | .gd q x=>if q then x.av else .sk
 | .c x => .v x
 | .pt => .pt
 | .dead => .dead
 | .el p z q => .el p z q
 | .gv zs => .gv zs
def TV.avs:List TV→List AV
 | []=>[]
 | x :: r=>x.av :: TV.avs r
end
theorem TV.avs_map:∀l:List TV,TV.avs l=l.map TV.av
 | []=>rfl
 | f :: r=>by rw [TV.avs,TV.avs_map r];rfl
def Val.cells (v:Val):List TV:=[.i .i64 v.kind,.u64 v.bits,.u64 v.high,.u64 v.low,.s v.text,.s v.more,.i .i64 v.sub,.sl .bs v.bytes,.sl .fl v.kids]
def Fld.cells (f:Fld):List TV:=[.s f.name,.i .i64 f.kind,.u64 f.bits,.u64 f.high,.u64 f.low,.s f.text,.s f.more,.i .i64 f.sub,.sl .bs f.bytes,.sl .fl f.kids]
def Jsn.cells (v:Jsn):List TV:=[.i .i64 v.kind,.s v.text,.sl .ml v.kids]
def Mem.cells (f:Mem):List TV:=[.s f.name,.i .i64 f.kind,.s f.text,.sl .ml f.kids]
def Itm.cells (f:Itm):List TV:=[.i .i64 f.kind,.u64 f.n,.sl .bs f.bytes,.s f.text,.sl .il f.kids]
def Itv.cells (f:Itv):List TV:=[.i .i64 f.kind,.u64 f.n,.sl .bs f.bytes,.s f.text,.sl .il f.kids]
def Spn.cells (f:Spn):List TV:=[.i .i64 f.at_,.i .i64 f.end_]
def Out.cells (f:Out):List TV:=[.i .i64 f.at_,.sl .bs f.bytes,.sl .iss f.loss,.i .i64 f.err,.i .i64 f.fat,.sl .is f.path]
def Rdr.cells (f:Rdr):List TV:=[.sl .bs f.b,.i .i64 f.at_]
def Wtr.cells (f:Wtr):List TV:=[.sl .bs f.b]
def Flt.cells (f:Flt):List TV:=[.i .i64 f.err,.i .i64 f.at_,.sl .is f.path]
def Lim.cells (f:Lim):List TV:=[.i .i64 f.depth,.i .i64 f.size,.i .i64 f.out]
def STy.tv:(t:STy)→t.El→TV
 | .bs,x => .u8 x
 | .is,x => .i .i64 x
 | .ws,x => .u16 x
 | .ss,x => .s x
 | .iss,x => .sl .is x
 | .fl,x => .ag (Fld.cells x)
 | .ml,x => .ag (Mem.cells x)
 | .il,x => .ag (Itm.cells x)
 | .sp,x => .ag (Spn.cells x)
 | .ou,x => .ag (Out.cells x)
theorem STy.tv_av (t:STy) (x:t.El):(t.tv x).av=t.av x:=by
 cases t with
 | fl=>cases x;simp [STy.tv,STy.av,TV.av,TV.avs,Fld.cells,Fld.name,Fld.kind,Fld.bits,Fld.high,Fld.low,Fld.text,Fld.more,Fld.sub,Fld.bytes,Fld.kids,fldAV,fldsAV_map,strAV,iAV,u64AV,bytesAV,STy.size]
 | ml=>cases x;simp [STy.tv,STy.av,TV.av,TV.avs,Mem.cells,Mem.name,Mem.kind,Mem.text,Mem.kids,memAV,memsAV_map,strAV,iAV,STy.size]
 | il=>cases x;simp [STy.tv,STy.av,TV.av,TV.avs,Itm.cells,Itm.kind,Itm.n,Itm.bytes,Itm.text,Itm.kids,itmAV,itmsAV_map,strAV,iAV,u64AV,bytesAV,STy.size]
 | iss=>rfl
 | sp=>rfl
 | ou=>rfl
 | _=>rfl
def STy.el:(t:STy)→TV→Option t.El
 | .bs,.u8 x=>some x
 | .is,.i .i64 x=>some x
 | .ws,.u16 x=>some x
 | .ss,.s x=>some x
 | .iss,.sl .is x=>some x
 | .fl,.ag [.s n,.i .i64 k,.u64 b,.u64 h,.u64 l,.s t,.s m,.i .i64 s,.sl .bs y,.sl .fl ks]=>some (.mk n k b h l t m s y ks)
 | .ml,.ag [.s n,.i .i64 k,.s t,.sl .ml ks]=>some (.mk n k t ks)
 | .il,.ag [.i .i64 k,.u64 n,.sl .bs b,.s t,.sl .il ks]=>some (.mk k n b t ks)
 | .sp,.ag [.i .i64 a,.i .i64 e]=>some ⟨a,e⟩
 | .ou,.ag [.i .i64 a,.sl .bs b,.sl .iss l,.i .i64 e,.i .i64 f,.sl .is p]=>some ⟨a,b,l,e,f,p⟩
 | _,_=>none
theorem STy.el_av {t:STy} {x:TV} {y:t.El} (h:t.el x=some y):t.av y=x.av:=by
 unfold STy.el at h
 split at h <;> cases h <;> first | rfl | (simp [STy.av,TV.av,TV.avs,fldAV,memAV,itmAV,fldsAV_map,memsAV_map,itmsAV_map,STy.size,iAV,bytesAV,strAV,intsAV,u64AV])
end Go.Eng
namespace Go.Eng
inductive Res where
 | ok (ws:List TV)
 | if_ (p:Bool) (ws:List TV)
 | err
def ck {R:Type} (p:Bool) (x:Option R):Option R:=cond p x none
theorem ck_true {R:Type} (x:Option R):ck true x=x:=rfl
theorem ck_some {R:Type} {p:Bool} {x:Option R} {r:R}:ck p x=some r ↔ p=true∧x=some r:=by cases p <;> simp [ck]
def intTV (k:IntKind) (n:Int):TV :=
 match k with
 | .u8 => .u8 (UInt8.ofInt n)
 | .u16 => .u16 (UInt16.ofInt n)
 | .u32 => .u32 (UInt32.ofInt n)
 | .u64 => .u64 (UInt64.ofInt n)
 | k => .i k (k.wrap n)
def TV.int?:TV→Option (IntKind × Int)
 | .u8 n=>some (.u8,n.toNat)
 | .u16 n=>some (.u16,n.toNat)
 | .u32 n=>some (.u32,n.toNat)
 | .u64 n=>some (.u64,n.toNat)
 | .i k n=>some (k,n)
 | _=>none
theorem TV.int?_av {x:TV} {k:IntKind} {n:Int} (h:x.int?=some (k,n)):x.av = .v (.int k n):=by
 cases x <;> simp [TV.int?] at h <;> obtain ⟨rfl,rfl⟩:=h <;> rfl
theorem emod_toNat (n:Int) (m:Nat) (h:0<m):(((n % (m:Int)).toNat % m:Nat):Int)=n % m:=by
 have h1:0≤n % (m:Int):=Int.emod_nonneg _ (by omega)
 have h2:n % (m:Int)<m:=Int.emod_lt_of_pos _ (by omega)
 rw [Nat.mod_eq_of_lt (by omega)];omega
theorem u8_ofInt (n:Int):((UInt8.ofInt n).toNat:Int)=IntKind.u8.wrap n:=by
 have:IntKind.u8.wrap n=n % (256:Nat):=by simp [IntKind.wrap,IntKind.bits,IntKind.signed]
 rw [this,UInt8.ofInt,UInt8.toNat_ofNat'];exact emod_toNat n 256 (by decide)
theorem u16_ofInt (n:Int):((UInt16.ofInt n).toNat:Int)=IntKind.u16.wrap n:=by
 have:IntKind.u16.wrap n=n % (65536:Nat):=by simp [IntKind.wrap,IntKind.bits,IntKind.signed]
 rw [this,UInt16.ofInt,UInt16.toNat_ofNat'];exact emod_toNat n 65536 (by decide)
theorem u32_ofInt (n:Int):((UInt32.ofInt n).toNat:Int)=IntKind.u32.wrap n:=by
 have:IntKind.u32.wrap n=n % (4294967296:Nat):=by simp [IntKind.wrap,IntKind.bits,IntKind.signed]
 rw [this,UInt32.ofInt,UInt32.toNat_ofNat'];exact emod_toNat n 4294967296 (by decide)
theorem u64_ofInt (n:Int):((UInt64.ofInt n).toNat:Int)=IntKind.u64.wrap n:=by
 have:IntKind.u64.wrap n=n % (18446744073709551616:Nat):=by simp [IntKind.wrap,IntKind.bits,IntKind.signed]
 rw [this,UInt64.ofInt,UInt64.toNat_ofNat'];exact emod_toNat n 18446744073709551616 (by decide)
theorem intTV_av (k:IntKind) (n:Int):(intTV k n).av = .v (.int k (k.wrap n)):=by
 cases k <;> simp only [intTV,TV.av,byteAV,u64AV,AV.v.injEq,Value.int.injEq,true_and]
 ·exact u8_ofInt n
 ·exact u16_ofInt n
 ·exact u32_ofInt n
 ·exact u64_ofInt n
def bin8 (o:BinOp) (a b:UInt8):Res :=
 match o with
 | .add => .ok [.u8 (a+b)]
 | .sub => .ok [.u8 (a - b)]
 | .mul => .ok [.u8 (a * b)]
 | .quo => .if_ (!decide (b=0)) [.u8 (a / b)]
 | .rem => .if_ (!decide (b=0)) [.u8 (a % b)]
 | .and => .ok [.u8 (a &&& b)]
 | .or => .ok [.u8 (a ||| b)]
 | .xor => .ok [.u8 (a ^^^ b)]
 | .andNot => .ok [.u8 (a &&& ~~~b)]
 | .eql => .ok [.b (decide (a=b))]
 | .neq => .ok [.b (!decide (a=b))]
 | .lss => .ok [.b (decide (a<b))]
 | .leq => .ok [.b (decide (a≤b))]
 | .gtr => .ok [.b (decide (b<a))]
 | .geq => .ok [.b (decide (b≤a))]
 | _ => .err
def shl8 (a:UInt8) (n:Nat):UInt8:=UInt8.ofNat (a.toNat * 2 ^ n)
def shr8 (a:UInt8) (n:Nat):UInt8:=UInt8.ofNat (a.toNat / 2 ^ n)
theorem wrap_u8' (n:Int):IntKind.u8.wrap n=n % 256:=by simp [IntKind.wrap,IntKind.bits,IntKind.signed]
theorem ofInt_u8 (a:UInt8):BitVec.ofInt 8 (a.toNat:Int)=a.toBitVec:=by
 apply BitVec.eq_of_toNat_eq
 rw [BitVec.toNat_ofInt]
 have:=a.toNat_lt
 simp only [UInt8.toNat] at this ⊢
 omega
def bin16 (o:BinOp) (a b:UInt16):Res :=
 match o with
 | .add => .ok [.u16 (a+b)]
 | .sub => .ok [.u16 (a - b)]
 | .mul => .ok [.u16 (a * b)]
 | .quo => .if_ (!decide (b=0)) [.u16 (a / b)]
 | .rem => .if_ (!decide (b=0)) [.u16 (a % b)]
 | .and => .ok [.u16 (a &&& b)]
 | .or => .ok [.u16 (a ||| b)]
 | .xor => .ok [.u16 (a ^^^ b)]
 | .andNot => .ok [.u16 (a &&& ~~~b)]
 | .eql => .ok [.b (decide (a=b))]
 | .neq => .ok [.b (!decide (a=b))]
 | .lss => .ok [.b (decide (a<b))]
 | .leq => .ok [.b (decide (a≤b))]
 | .gtr => .ok [.b (decide (b<a))]
 | .geq => .ok [.b (decide (b≤a))]
 | _ => .err
def shl16 (a:UInt16) (n:Nat):UInt16:=UInt16.ofNat (a.toNat * 2 ^ n)
def shr16 (a:UInt16) (n:Nat):UInt16:=UInt16.ofNat (a.toNat / 2 ^ n)
theorem wrap_u16' (n:Int):IntKind.u16.wrap n=n % 65536:=by simp [IntKind.wrap,IntKind.bits,IntKind.signed]
theorem ofInt_u16 (a:UInt16):BitVec.ofInt 16 (a.toNat:Int)=a.toBitVec:=by
 apply BitVec.eq_of_toNat_eq
 rw [BitVec.toNat_ofInt]
 have:=a.toNat_lt
 simp only [UInt16.toNat] at this ⊢
 omega
def bin32 (o:BinOp) (a b:UInt32):Res :=
 match o with
 | .add => .ok [.u32 (a+b)]
 | .sub => .ok [.u32 (a - b)]
 | .mul => .ok [.u32 (a * b)]
 | .quo => .if_ (!decide (b=0)) [.u32 (a / b)]
 | .rem => .if_ (!decide (b=0)) [.u32 (a % b)]
 | .and => .ok [.u32 (a &&& b)]
 | .or => .ok [.u32 (a ||| b)]
 | .xor => .ok [.u32 (a ^^^ b)]
 | .andNot => .ok [.u32 (a &&& ~~~b)]
 | .eql => .ok [.b (decide (a=b))]
 | .neq => .ok [.b (!decide (a=b))]
 | .lss => .ok [.b (decide (a<b))]
 | .leq => .ok [.b (decide (a≤b))]
 | .gtr => .ok [.b (decide (b<a))]
 | .geq => .ok [.b (decide (b≤a))]
 | _ => .err
def shl32 (a:UInt32) (n:Nat):UInt32:=UInt32.ofNat (a.toNat * 2 ^ n)
def shr32 (a:UInt32) (n:Nat):UInt32:=UInt32.ofNat (a.toNat / 2 ^ n)
theorem wrap_u32' (n:Int):IntKind.u32.wrap n=n % 4294967296:=by simp [IntKind.wrap,IntKind.bits,IntKind.signed]
theorem ofInt_u32 (a:UInt32):BitVec.ofInt 32 (a.toNat:Int)=a.toBitVec:=by
 apply BitVec.eq_of_toNat_eq
 rw [BitVec.toNat_ofInt]
 have:=a.toNat_lt
 simp only [UInt32.toNat] at this ⊢
 omega
def bin64 (o:BinOp) (a b:UInt64):Res :=
 match o with
 | .add => .ok [.u64 (a+b)]
 | .sub => .ok [.u64 (a - b)]
 | .mul => .ok [.u64 (a * b)]
 | .quo => .if_ (!decide (b=0)) [.u64 (a / b)]
 | .rem => .if_ (!decide (b=0)) [.u64 (a % b)]
 | .and => .ok [.u64 (a &&& b)]
 | .or => .ok [.u64 (a ||| b)]
 | .xor => .ok [.u64 (a ^^^ b)]
 | .andNot => .ok [.u64 (a &&& ~~~b)]
 | .eql => .ok [.b (decide (a=b))]
 | .neq => .ok [.b (!decide (a=b))]
 | .lss => .ok [.b (decide (a<b))]
 | .leq => .ok [.b (decide (a≤b))]
 | .gtr => .ok [.b (decide (b<a))]
 | .geq => .ok [.b (decide (b≤a))]
 | _ => .err
def shl64 (a:UInt64) (n:Nat):UInt64:=UInt64.ofNat (a.toNat * 2 ^ n)
def shr64 (a:UInt64) (n:Nat):UInt64:=UInt64.ofNat (a.toNat / 2 ^ n)
theorem wrap_u64' (n:Int):IntKind.u64.wrap n=n % 18446744073709551616:=by simp [IntKind.wrap,IntKind.bits,IntKind.signed]
theorem ofInt_u64 (a:UInt64):BitVec.ofInt 64 (a.toNat:Int)=a.toBitVec:=by
 apply BitVec.eq_of_toNat_eq
 rw [BitVec.toNat_ofInt]
 have:=a.toNat_lt
 simp only [UInt64.toNat] at this ⊢
 omega
def Res.holds:Res→List TV→Prop
 | .ok ws,r=>r=ws
 | .if_ p ws,r=>p=true∧r=ws
 | .err,_=>False
theorem bin8_ok {o : BinOp} {a b : UInt8} {ws : List TV} (h : (bin8 o a b).holds ws) : ∃ x : TV, ws = [x] ∧ ∃ v, x.av = .v v ∧ binV o (.int .u8 a.toNat) (.int .u8 b.toNat) = some v := by
  have ha := a.toNat_lt
  have hb := b.toNat_lt
  cases o <;> simp only [bin8, Res.holds] at h <;> first | exact h.elim | skip
  all_goals first
    | (obtain ⟨hp, rfl⟩ := h; refine ⟨_, rfl, _, rfl, ?_⟩; simp only [Bool.not_eq_true', decide_eq_false_iff_not] at hp
       have hb0 : (b.toNat : Int) ≠ 0 := fun e => hp (UInt8.toNat_inj.1 (by simpa using e))
       simp only [binV, if_true, hb0, if_false, Option.some.injEq, Value.int.injEq, true_and, UInt8.toNat_div, UInt8.toNat_mod, wrap_u8', Int.tdiv_eq_ediv_of_nonneg (Int.natCast_nonneg a.toNat), Int.tmod_eq_emod_of_nonneg (Int.natCast_nonneg a.toNat)]
       first | (rw [← Int.natCast_ediv]; have := Nat.div_le_self a.toNat b.toNat; generalize a.toNat / b.toNat = q at this ⊢; omega) | omega)
    | (subst h; refine ⟨_, rfl, _, rfl, ?_⟩
       simp only [binV, if_true, Option.some.injEq, Value.int.injEq, Value.bool.injEq, true_and, wrap_u8', intBitsV, IntKind.bits, ofInt_u8, UInt8.toNat_add, UInt8.toNat_sub, UInt8.toNat_mul]
       first | omega | (rw [Int.emod_eq_of_lt (by omega) (by have := (a &&& b).toNat_lt; simp only [UInt8.toNat] at this ⊢; simp only [UInt8.toBitVec_and] at this; omega)]; rfl)
             | (rw [Int.emod_eq_of_lt (by omega) (by have := (a ||| b).toNat_lt; simp only [UInt8.toNat] at this ⊢; simp only [UInt8.toBitVec_or] at this; omega)]; rfl)
             | (rw [Int.emod_eq_of_lt (by omega) (by have := (a ^^^ b).toNat_lt; simp only [UInt8.toNat] at this ⊢; simp only [UInt8.toBitVec_xor] at this; omega)]; rfl)
             | (rw [Int.emod_eq_of_lt (by omega) (by have := (a &&& ~~~b).toNat_lt; simp only [UInt8.toNat] at this ⊢; simp only [UInt8.toBitVec_and, UInt8.toBitVec_not] at this; omega)]; rfl)
             | (rw [Bool.eq_iff_iff]; simp [UInt8.lt_iff_toNat_lt, UInt8.le_iff_toNat_le, ← UInt8.toNat_inj]; omega)
             | (rw [Bool.eq_iff_iff]; simp [UInt8.lt_iff_toNat_lt, UInt8.le_iff_toNat_le, ← UInt8.toNat_inj]))
theorem bin16_ok {o : BinOp} {a b : UInt16} {ws : List TV} (h : (bin16 o a b).holds ws) : ∃ x : TV, ws = [x] ∧ ∃ v, x.av = .v v ∧ binV o (.int .u16 a.toNat) (.int .u16 b.toNat) = some v := by
  have ha := a.toNat_lt
  have hb := b.toNat_lt
  cases o <;> simp only [bin16, Res.holds] at h <;> first | exact h.elim | skip
  all_goals first
    | (obtain ⟨hp, rfl⟩ := h; refine ⟨_, rfl, _, rfl, ?_⟩; simp only [Bool.not_eq_true', decide_eq_false_iff_not] at hp
       have hb0 : (b.toNat : Int) ≠ 0 := fun e => hp (UInt16.toNat_inj.1 (by simpa using e))
       simp only [binV, if_true, hb0, if_false, Option.some.injEq, Value.int.injEq, true_and, UInt16.toNat_div, UInt16.toNat_mod, wrap_u16', Int.tdiv_eq_ediv_of_nonneg (Int.natCast_nonneg a.toNat), Int.tmod_eq_emod_of_nonneg (Int.natCast_nonneg a.toNat)]
       first | (rw [← Int.natCast_ediv]; have := Nat.div_le_self a.toNat b.toNat; generalize a.toNat / b.toNat = q at this ⊢; omega) | omega)
    | (subst h; refine ⟨_, rfl, _, rfl, ?_⟩
       simp only [binV, if_true, Option.some.injEq, Value.int.injEq, Value.bool.injEq, true_and, wrap_u16', intBitsV, IntKind.bits, ofInt_u16, UInt16.toNat_add, UInt16.toNat_sub, UInt16.toNat_mul]
       first | omega | (rw [Int.emod_eq_of_lt (by omega) (by have := (a &&& b).toNat_lt; simp only [UInt16.toNat] at this ⊢; simp only [UInt16.toBitVec_and] at this; omega)]; rfl)
             | (rw [Int.emod_eq_of_lt (by omega) (by have := (a ||| b).toNat_lt; simp only [UInt16.toNat] at this ⊢; simp only [UInt16.toBitVec_or] at this; omega)]; rfl)
             | (rw [Int.emod_eq_of_lt (by omega) (by have := (a ^^^ b).toNat_lt; simp only [UInt16.toNat] at this ⊢; simp only [UInt16.toBitVec_xor] at this; omega)]; rfl)
             | (rw [Int.emod_eq_of_lt (by omega) (by have := (a &&& ~~~b).toNat_lt; simp only [UInt16.toNat] at this ⊢; simp only [UInt16.toBitVec_and, UInt16.toBitVec_not] at this; omega)]; rfl)
             | (rw [Bool.eq_iff_iff]; simp [UInt16.lt_iff_toNat_lt, UInt16.le_iff_toNat_le, ← UInt16.toNat_inj]; omega)
             | (rw [Bool.eq_iff_iff]; simp [UInt16.lt_iff_toNat_lt, UInt16.le_iff_toNat_le, ← UInt16.toNat_inj]))
theorem bin32_ok {o : BinOp} {a b : UInt32} {ws : List TV} (h : (bin32 o a b).holds ws) : ∃ x : TV, ws = [x] ∧ ∃ v, x.av = .v v ∧ binV o (.int .u32 a.toNat) (.int .u32 b.toNat) = some v := by
  have ha := a.toNat_lt
  have hb := b.toNat_lt
  cases o <;> simp only [bin32, Res.holds] at h <;> first | exact h.elim | skip
  all_goals first
    | (obtain ⟨hp, rfl⟩ := h; refine ⟨_, rfl, _, rfl, ?_⟩; simp only [Bool.not_eq_true', decide_eq_false_iff_not] at hp
       have hb0 : (b.toNat : Int) ≠ 0 := fun e => hp (UInt32.toNat_inj.1 (by simpa using e))
       simp only [binV, if_true, hb0, if_false, Option.some.injEq, Value.int.injEq, true_and, UInt32.toNat_div, UInt32.toNat_mod, wrap_u32', Int.tdiv_eq_ediv_of_nonneg (Int.natCast_nonneg a.toNat), Int.tmod_eq_emod_of_nonneg (Int.natCast_nonneg a.toNat)]
       first | (rw [← Int.natCast_ediv]; have := Nat.div_le_self a.toNat b.toNat; generalize a.toNat / b.toNat = q at this ⊢; omega) | omega)
    | (subst h; refine ⟨_, rfl, _, rfl, ?_⟩
       simp only [binV, if_true, Option.some.injEq, Value.int.injEq, Value.bool.injEq, true_and, wrap_u32', intBitsV, IntKind.bits, ofInt_u32, UInt32.toNat_add, UInt32.toNat_sub, UInt32.toNat_mul]
       first | omega | (rw [Int.emod_eq_of_lt (by omega) (by have := (a &&& b).toNat_lt; simp only [UInt32.toNat] at this ⊢; simp only [UInt32.toBitVec_and] at this; omega)]; rfl)
             | (rw [Int.emod_eq_of_lt (by omega) (by have := (a ||| b).toNat_lt; simp only [UInt32.toNat] at this ⊢; simp only [UInt32.toBitVec_or] at this; omega)]; rfl)
             | (rw [Int.emod_eq_of_lt (by omega) (by have := (a ^^^ b).toNat_lt; simp only [UInt32.toNat] at this ⊢; simp only [UInt32.toBitVec_xor] at this; omega)]; rfl)
             | (rw [Int.emod_eq_of_lt (by omega) (by have := (a &&& ~~~b).toNat_lt; simp only [UInt32.toNat] at this ⊢; simp only [UInt32.toBitVec_and, UInt32.toBitVec_not] at this; omega)]; rfl)
             | (rw [Bool.eq_iff_iff]; simp [UInt32.lt_iff_toNat_lt, UInt32.le_iff_toNat_le, ← UInt32.toNat_inj]; omega)
             | (rw [Bool.eq_iff_iff]; simp [UInt32.lt_iff_toNat_lt, UInt32.le_iff_toNat_le, ← UInt32.toNat_inj]))
theorem bin64_ok {o : BinOp} {a b : UInt64} {ws : List TV} (h : (bin64 o a b).holds ws) : ∃ x : TV, ws = [x] ∧ ∃ v, x.av = .v v ∧ binV o (.int .u64 a.toNat) (.int .u64 b.toNat) = some v := by
  have ha := a.toNat_lt
  have hb := b.toNat_lt
  cases o <;> simp only [bin64, Res.holds] at h <;> first | exact h.elim | skip
  all_goals first
    | (obtain ⟨hp, rfl⟩ := h; refine ⟨_, rfl, _, rfl, ?_⟩; simp only [Bool.not_eq_true', decide_eq_false_iff_not] at hp
       have hb0 : (b.toNat : Int) ≠ 0 := fun e => hp (UInt64.toNat_inj.1 (by simpa using e))
       simp only [binV, if_true, hb0, if_false, Option.some.injEq, Value.int.injEq, true_and, UInt64.toNat_div, UInt64.toNat_mod, wrap_u64', Int.tdiv_eq_ediv_of_nonneg (Int.natCast_nonneg a.toNat), Int.tmod_eq_emod_of_nonneg (Int.natCast_nonneg a.toNat)]
       first | (rw [← Int.natCast_ediv]; have := Nat.div_le_self a.toNat b.toNat; generalize a.toNat / b.toNat = q at this ⊢; omega) | omega)
    | (subst h; refine ⟨_, rfl, _, rfl, ?_⟩
       simp only [binV, if_true, Option.some.injEq, Value.int.injEq, Value.bool.injEq, true_and, wrap_u64', intBitsV, IntKind.bits, ofInt_u64, UInt64.toNat_add, UInt64.toNat_sub, UInt64.toNat_mul]
       first | omega | (rw [Int.emod_eq_of_lt (by omega) (by have := (a &&& b).toNat_lt; simp only [UInt64.toNat] at this ⊢; simp only [UInt64.toBitVec_and] at this; omega)]; rfl)
             | (rw [Int.emod_eq_of_lt (by omega) (by have := (a ||| b).toNat_lt; simp only [UInt64.toNat] at this ⊢; simp only [UInt64.toBitVec_or] at this; omega)]; rfl)
             | (rw [Int.emod_eq_of_lt (by omega) (by have := (a ^^^ b).toNat_lt; simp only [UInt64.toNat] at this ⊢; simp only [UInt64.toBitVec_xor] at this; omega)]; rfl)
             | (rw [Int.emod_eq_of_lt (by omega) (by have := (a &&& ~~~b).toNat_lt; simp only [UInt64.toNat] at this ⊢; simp only [UInt64.toBitVec_and, UInt64.toBitVec_not] at this; omega)]; rfl)
             | (rw [Bool.eq_iff_iff]; simp [UInt64.lt_iff_toNat_lt, UInt64.le_iff_toNat_le, ← UInt64.toNat_inj]; omega)
             | (rw [Bool.eq_iff_iff]; simp [UInt64.lt_iff_toNat_lt, UInt64.le_iff_toNat_le, ← UInt64.toNat_inj]))
end Go.Eng
namespace Go.Eng
def binI (o:BinOp) (k:IntKind) (a b:Int):Res :=
 match o with
 | .add => .ok [.i k (k.wrap (a+b))]
 | .sub => .ok [.i k (k.wrap (a - b))]
 | .mul => .ok [.i k (k.wrap (a * b))]
 | .quo => .if_ (!decide (b=0)) [.i k (k.wrap (a.tdiv b))]
 | .rem => .if_ (!decide (b=0)) [.i k (a.tmod b)]
 | .and => .ok [.i k (intBitsV .and k a b)]
 | .or => .ok [.i k (intBitsV .or k a b)]
 | .xor => .ok [.i k (intBitsV .xor k a b)]
 | .andNot => .ok [.i k (intBitsV .andNot k a b)]
 | .eql => .ok [.b (decide (a=b))]
 | .neq => .ok [.b (!decide (a=b))]
 | .lss => .ok [.b (decide (a<b))]
 | .leq => .ok [.b (decide (a≤b))]
 | .gtr => .ok [.b (decide (b<a))]
 | .geq => .ok [.b (decide (b≤a))]
 | _ => .err
def binS (o:BinOp) (a b:Str):Res :=
 match o with
 | .add => .if_ (decide (a.length+b.length≤9223372036854775807)) [.s (a++b)]
 | .eql => .ok [.b (decide (a=b))]
 | .neq => .ok [.b (!decide (a=b))]
 | _ => .err
def TV.count:TV→Option (Option Bool × Nat)
 | .u8 n=>some (none,n.toNat)
 | .u16 n=>some (none,n.toNat)
 | .u32 n=>some (none,n.toNat)
 | .u64 n=>some (none,n.toNat)
 | .i _ n=>some (some (decide (0≤n)),n.toNat)
 | _=>none
def Res.under (p:Option Bool) (ws:List TV):Res :=
 match p with
 | none => .ok ws
 | some p => .if_ p ws
def shlT (x y:TV):Res :=
 match y.count with
 | some (p,n)=>match x with
  | .u8 a => .under p [.u8 (shl8 a n)]
  | .u16 a => .under p [.u16 (shl16 a n)]
  | .u32 a => .under p [.u32 (shl32 a n)]
  | .u64 a => .under p [.u64 (shl64 a n)]
  | .i k a => .under p [.i k (k.wrap (a * 2 ^ (min n k.bits)))]
  | _ => .err
 | none => .err
def shrT (x y:TV):Res :=
 match y.count with
 | some (p,n)=>match x with
  | .u8 a => .under p [.u8 (shr8 a n)]
  | .u16 a => .under p [.u16 (shr16 a n)]
  | .u32 a => .under p [.u32 (shr32 a n)]
  | .u64 a => .under p [.u64 (shr64 a n)]
  | .i k a => .under p [.i k (a.fdiv (2 ^ (min n k.bits)))]
  | _ => .err
 | none => .err
def isShift:BinOp→Option Bool
 | .shl=>some true
 | .shr=>some false
 | _=>none
def binT (o:BinOp) (x y:TV):Res :=
 match isShift o with
 | some true=>shlT x y
 | some false=>shrT x y
 | none=>match x,y with
  | .u8 a,.u8 b=>bin8 o a b
  | .u16 a,.u16 b=>bin16 o a b
  | .u32 a,.u32 b=>bin32 o a b
  | .u64 a,.u64 b=>bin64 o a b
  | .i k a,.i k' b=>if k=k' then binI o k a b else .err
  | .s a,.s b=>binS o a b
  | _,_ => .err
def unT (o:UnOp) (x:TV):Res :=
 match o,x with
 | .neg,.u8 a => .ok [.u8 (0 - a)]
 | .neg,.u16 a => .ok [.u16 (0 - a)]
 | .neg,.u32 a => .ok [.u32 (0 - a)]
 | .neg,.u64 a => .ok [.u64 (0 - a)]
 | .neg,.i k a => .ok [.i k (k.wrap (0 - a))]
 | .xor,.u8 a => .ok [.u8 (~~~a)]
 | .xor,.u16 a => .ok [.u16 (~~~a)]
 | .xor,.u32 a => .ok [.u32 (~~~a)]
 | .xor,.u64 a => .ok [.u64 (~~~a)]
 | .xor,.i k a => .ok [.i k (intBitsV .xor k (if k.signed then -1 else k.max) a)]
 | .not,.b a => .ok [.b !a]
 | _,_ => .err
theorem shl_nat {a n b m:Nat} (hm:m=2 ^ b):(a * 2 ^ (min n b)) % m=(a * 2 ^ n) % m:=by
 subst hm
 by_cases h:n≤b
 ·rw [Nat.min_eq_left h]
 ·rw [Nat.min_eq_right (by omega),show n=b+(n - b) by omega,Nat.pow_add,←Nat.mul_assoc,Nat.mul_mod_left,Nat.mul_right_comm,Nat.mul_mod_left]
theorem shr_nat {a n b m:Nat} (hm:m=2 ^ b) (ha:a<m):a / 2 ^ (min n b)=(a / 2 ^ n) % m:=by
 subst hm
 rw [Nat.mod_eq_of_lt (Nat.lt_of_le_of_lt (Nat.div_le_self _ _) ha)]
 by_cases h:n≤b
 ·rw [Nat.min_eq_left h]
 ·rw [Nat.min_eq_right (by omega),Nat.div_eq_of_lt ha,Nat.div_eq_of_lt (Nat.lt_of_lt_of_le ha (Nat.pow_le_pow_right (by omega) (by omega)))]
theorem toList_of (l:Str):ByteArray.toList ⟨⟨l⟩⟩=l:=by rw [ByteArray.toList_eq]
def Res.gives (r:Res) (P:AV→Prop):Prop:=∀ws,r.holds ws→∃x:TV,ws=[x]∧P x.av
def BinP (o:BinOp) (x y:TV) (z:AV):Prop:=∃a b v,x.av = .v a∧y.av = .v b∧binV o a b=some v∧z = .v v
theorem under_holds {p:Option Bool} {ws r:List TV} (h:(Res.under p ws).holds r):r=ws∧∀b,p=some b→b=true:=by
 cases p with
 | none=>exact ⟨h,fun _ e=>by cases e⟩
 | some p=>exact ⟨h.2,fun _ e=>by cases e;exact h.1⟩
theorem count_av {y:TV} {p:Option Bool} {n:Nat} (h:y.count=some (p,n)) (hp:∀b,p=some b→b=true):∃k m,y.av = .v (.int k m)∧0≤m∧m.toNat=n:=by
 cases y <;> simp [TV.count] at h <;> obtain ⟨rfl,rfl⟩:=h
 ·exact ⟨_,_,rfl,by omega,by omega⟩
 ·exact ⟨_,_,rfl,by omega,by omega⟩
 ·exact ⟨_,_,rfl,by omega,by omega⟩
 ·exact ⟨_,_,rfl,by omega,by omega⟩
 ·rename_i k m
  have:=hp _ rfl
  exact ⟨_,_,rfl,by simpa using this,rfl⟩
theorem shl8_ok (a:UInt8) (n:Nat):IntKind.u8.wrap ((a.toNat:Int) * 2 ^ (min n 8))=((shl8 a n).toNat:Int):=by
 rw [wrap_u8',shl8,UInt8.toNat_ofNat',show ((a.toNat:Int) * 2 ^ (min n 8))=((a.toNat * 2 ^ (min n 8):Nat):Int) by simp]
 have:=shl_nat (a:=a.toNat) (n:=n) (b:=8) (m:=256) (by decide)
 rw [show (2 ^ 8:Nat)=256 by decide]
 omega
theorem shr8_ok (a:UInt8) (n:Nat):IntKind.u8.wrap ((a.toNat:Int).fdiv (2 ^ (min n 8)))=((shr8 a n).toNat:Int):=by
 rw [wrap_u8',shr8,UInt8.toNat_ofNat',Int.fdiv_eq_ediv_of_nonneg _ (Int.le_of_lt (Int.pow_pos (by decide))),show ((a.toNat:Int) / 2 ^ (min n 8))=((a.toNat / 2 ^ (min n 8):Nat):Int) by simp]
 have:=shr_nat (a:=a.toNat) (n:=n) (b:=8) (m:=256) (by decide) (by have:=a.toNat_lt;simpa using this)
 rw [show (2 ^ 8:Nat)=256 by decide]
 omega
theorem shl16_ok (a:UInt16) (n:Nat):IntKind.u16.wrap ((a.toNat:Int) * 2 ^ (min n 16))=((shl16 a n).toNat:Int):=by
 rw [wrap_u16',shl16,UInt16.toNat_ofNat',show ((a.toNat:Int) * 2 ^ (min n 16))=((a.toNat * 2 ^ (min n 16):Nat):Int) by simp]
 have:=shl_nat (a:=a.toNat) (n:=n) (b:=16) (m:=65536) (by decide)
 rw [show (2 ^ 16:Nat)=65536 by decide]
 omega
theorem shr16_ok (a:UInt16) (n:Nat):IntKind.u16.wrap ((a.toNat:Int).fdiv (2 ^ (min n 16)))=((shr16 a n).toNat:Int):=by
 rw [wrap_u16',shr16,UInt16.toNat_ofNat',Int.fdiv_eq_ediv_of_nonneg _ (Int.le_of_lt (Int.pow_pos (by decide))),show ((a.toNat:Int) / 2 ^ (min n 16))=((a.toNat / 2 ^ (min n 16):Nat):Int) by simp]
 have:=shr_nat (a:=a.toNat) (n:=n) (b:=16) (m:=65536) (by decide) (by have:=a.toNat_lt;simpa using this)
 rw [show (2 ^ 16:Nat)=65536 by decide]
 omega
theorem shl32_ok (a:UInt32) (n:Nat):IntKind.u32.wrap ((a.toNat:Int) * 2 ^ (min n 32))=((shl32 a n).toNat:Int):=by
 rw [wrap_u32',shl32,UInt32.toNat_ofNat',show ((a.toNat:Int) * 2 ^ (min n 32))=((a.toNat * 2 ^ (min n 32):Nat):Int) by simp]
 have:=shl_nat (a:=a.toNat) (n:=n) (b:=32) (m:=4294967296) (by decide)
 rw [show (2 ^ 32:Nat)=4294967296 by decide]
 omega
theorem shr32_ok (a:UInt32) (n:Nat):IntKind.u32.wrap ((a.toNat:Int).fdiv (2 ^ (min n 32)))=((shr32 a n).toNat:Int):=by
 rw [wrap_u32',shr32,UInt32.toNat_ofNat',Int.fdiv_eq_ediv_of_nonneg _ (Int.le_of_lt (Int.pow_pos (by decide))),show ((a.toNat:Int) / 2 ^ (min n 32))=((a.toNat / 2 ^ (min n 32):Nat):Int) by simp]
 have:=shr_nat (a:=a.toNat) (n:=n) (b:=32) (m:=4294967296) (by decide) (by have:=a.toNat_lt;simpa using this)
 rw [show (2 ^ 32:Nat)=4294967296 by decide]
 omega
theorem shl64_ok (a:UInt64) (n:Nat):IntKind.u64.wrap ((a.toNat:Int) * 2 ^ (min n 64))=((shl64 a n).toNat:Int):=by
 rw [wrap_u64',shl64,UInt64.toNat_ofNat',show ((a.toNat:Int) * 2 ^ (min n 64))=((a.toNat * 2 ^ (min n 64):Nat):Int) by simp]
 have:=shl_nat (a:=a.toNat) (n:=n) (b:=64) (m:=18446744073709551616) (by decide)
 rw [show (2 ^ 64:Nat)=18446744073709551616 by decide]
 omega
theorem shr64_ok (a:UInt64) (n:Nat):IntKind.u64.wrap ((a.toNat:Int).fdiv (2 ^ (min n 64)))=((shr64 a n).toNat:Int):=by
 rw [wrap_u64',shr64,UInt64.toNat_ofNat',Int.fdiv_eq_ediv_of_nonneg _ (Int.le_of_lt (Int.pow_pos (by decide))),show ((a.toNat:Int) / 2 ^ (min n 64))=((a.toNat / 2 ^ (min n 64):Nat):Int) by simp]
 have:=shr_nat (a:=a.toNat) (n:=n) (b:=64) (m:=18446744073709551616) (by decide) (by have:=a.toNat_lt;simpa using this)
 rw [show (2 ^ 64:Nat)=18446744073709551616 by decide]
 omega
theorem shrI_in {w:Nat} {m:Int} (a:Nat) (k:Nat) (h:(a:Int)<m):0≤(a:Int).fdiv (2 ^ k)∧(a:Int).fdiv (2 ^ k)<m:=by
 rw [Int.fdiv_eq_ediv_of_nonneg _ (Int.le_of_lt (Int.pow_pos (by decide)))]
 refine ⟨Int.ediv_nonneg (by omega) (Int.le_of_lt (Int.pow_pos (by decide))),?_⟩
 rw [show ((a:Int) / 2 ^ k)=((a / 2 ^ k:Nat):Int) by simp]
 have:=Nat.div_le_self a (2 ^ k)
 omega
theorem shlT_ok (x y:TV):(shlT x y).gives (BinP .shl x y):=by
 intro ws h
 unfold shlT at h
 split at h
 ·rename_i p n hc
  have key:∀{r:TV} {u:IntKind} {a:Int},(Res.under p [r]).holds ws→x.av = .v (.int u a)→r.av = .v (.int u (u.wrap (a * 2 ^ (min n u.bits))))→∃z:TV,ws=[z]∧BinP .shl x y z.av:=by
   intro r u a h hx hr
   obtain ⟨rfl,hp⟩:=under_holds h
   obtain ⟨k,m,h1,h2,rfl⟩:=count_av hc hp
   refine ⟨_,rfl,_,_,_,hx,h1,?_,hr⟩
   simp only [binV,Int.not_lt.2 h2,if_false]
  split at h
  ·exact key h rfl (by rw [show IntKind.u8.bits=8 from rfl,shl8_ok];rfl)
  ·exact key h rfl (by rw [show IntKind.u16.bits=16 from rfl,shl16_ok];rfl)
  ·exact key h rfl (by rw [show IntKind.u32.bits=32 from rfl,shl32_ok];rfl)
  ·exact key h rfl (by rw [show IntKind.u64.bits=64 from rfl,shl64_ok];rfl)
  ·exact key h rfl rfl
  ·exact h.elim
 ·exact h.elim
theorem shrT_ok (x y:TV):(shrT x y).gives (BinP .shr x y):=by
 intro ws h
 unfold shrT at h
 split at h
 ·rename_i p n hc
  have key:∀{r:TV} {u:IntKind} {a:Int},(Res.under p [r]).holds ws→x.av = .v (.int u a)→r.av = .v (.int u (a.fdiv (2 ^ (min n u.bits))))→∃z:TV,ws=[z]∧BinP .shr x y z.av:=by
   intro r u a h hx hr
   obtain ⟨rfl,hp⟩:=under_holds h
   obtain ⟨k,m,h1,h2,rfl⟩:=count_av hc hp
   refine ⟨_,rfl,_,_,_,hx,h1,?_,hr⟩
   simp only [binV,Int.not_lt.2 h2,if_false]
  split at h
  ·rename_i a
   have q:=shrI_in (w:=0) a.toNat (min n 8) (m:=256) (by have:=a.toNat_lt;simp at this;omega)
   exact key h rfl (by rw [show IntKind.u8.bits=8 from rfl];simp only [TV.av,byteAV];rw [←shr8_ok,wrap_u8',Int.emod_eq_of_lt q.1 q.2])
  ·rename_i a
   have q:=shrI_in (w:=0) a.toNat (min n 16) (m:=65536) (by have:=a.toNat_lt;simp at this;omega)
   exact key h rfl (by rw [show IntKind.u16.bits=16 from rfl];simp only [TV.av];rw [←shr16_ok,wrap_u16',Int.emod_eq_of_lt q.1 q.2])
  ·rename_i a
   have q:=shrI_in (w:=0) a.toNat (min n 32) (m:=4294967296) (by have:=a.toNat_lt;simp at this;omega)
   exact key h rfl (by rw [show IntKind.u32.bits=32 from rfl];simp only [TV.av];rw [←shr32_ok,wrap_u32',Int.emod_eq_of_lt q.1 q.2])
  ·rename_i a
   have q:=shrI_in (w:=0) a.toNat (min n 64) (m:=18446744073709551616) (by have:=a.toNat_lt;simp at this;omega)
   exact key h rfl (by rw [show IntKind.u64.bits=64 from rfl];simp only [TV.av,u64AV];rw [←shr64_ok,wrap_u64',Int.emod_eq_of_lt q.1 q.2])
  ·exact key h rfl rfl
  ·exact h.elim
 ·exact h.elim
theorem binI_ok {o:BinOp} {k:IntKind} {a b:Int} {ws:List TV} (h:(binI o k a b).holds ws):∃x:TV,ws=[x]∧∃v,x.av = .v v∧binV o (.int k a) (.int k b)=some v:=by
 cases o <;> simp only [binI,Res.holds] at h <;> first | exact h.elim | skip
 all_goals first
  | (obtain ⟨hp,rfl⟩:=h;refine ⟨_,rfl,_,rfl,?_⟩;simp only [Bool.not_eq_true',decide_eq_false_iff_not] at hp;simp only [binV,if_true,hp,if_false])
  | (subst h;refine ⟨_,rfl,_,rfl,?_⟩;simp only [binV,if_true,Option.some.injEq,Value.bool.injEq];first | done | (rw [Bool.eq_iff_iff];simp))
theorem binS_ok {o:BinOp} {a b:Str} {ws:List TV} (h:(binS o a b).holds ws):∃x:TV,ws=[x]∧∃v,x.av = .v v∧binV o (.string ⟨⟨a⟩⟩) (.string ⟨⟨b⟩⟩)=some v:=by
 cases o <;> simp only [binS,Res.holds] at h <;> first | exact h.elim | skip
 ·obtain ⟨hp,rfl⟩:=h
  refine ⟨_,rfl,_,rfl,?_⟩
  simp only [binV]
  have hp:a.length+b.length≤9223372036854775807:=by simpa using hp
  rw [if_neg]
  ·simp only [Option.some.injEq,Value.string.injEq]
   apply ByteArray.ext
   apply Array.ext'
   simp
  ·have:IntKind.i64.max=9223372036854775807:=by decide
   rw [this]
   simp only [ByteArray.size,Array.size]
   omega
 ·subst h
  refine ⟨_,rfl,_,rfl,?_⟩
  simp only [binV,toList_of,Option.some.injEq,Value.bool.injEq]
  rw [Bool.eq_iff_iff];simp
 ·subst h
  refine ⟨_,rfl,_,rfl,?_⟩
  simp only [binV,toList_of,Option.some.injEq,Value.bool.injEq]
  rw [Bool.eq_iff_iff];simp
theorem binT_ok (o:BinOp) (x y:TV):(binT o x y).gives (BinP o x y):=by
 intro ws h
 unfold binT at h
 split at h
 ·rename_i e
  have:o = .shl:=by cases o <;> simp [isShift] at e ⊢
  subst this
  exact shlT_ok x y ws h
 ·rename_i e
  have:o = .shr:=by cases o <;> simp [isShift] at e ⊢
  subst this
  exact shrT_ok x y ws h
 ·split at h
  ·obtain ⟨x,h1,v,h2,h3⟩:=bin8_ok h;exact ⟨x,h1,_,_,v,rfl,rfl,h3,h2⟩
  ·obtain ⟨x,h1,v,h2,h3⟩:=bin16_ok h;exact ⟨x,h1,_,_,v,rfl,rfl,h3,h2⟩
  ·obtain ⟨x,h1,v,h2,h3⟩:=bin32_ok h;exact ⟨x,h1,_,_,v,rfl,rfl,h3,h2⟩
  ·obtain ⟨x,h1,v,h2,h3⟩:=bin64_ok h;exact ⟨x,h1,_,_,v,rfl,rfl,h3,h2⟩
  ·split at h
   ·rename_i e
    subst e
    obtain ⟨x,h1,v,h2,h3⟩:=binI_ok h;exact ⟨x,h1,_,_,v,rfl,rfl,h3,h2⟩
   ·exact h.elim
  ·obtain ⟨x,h1,v,h2,h3⟩:=binS_ok h;exact ⟨x,h1,_,_,v,rfl,rfl,h3,h2⟩
  ·exact h.elim
theorem not8_ok (a:UInt8):intBitsV .xor .u8 (if IntKind.u8.signed then -1 else IntKind.u8.max) a.toNat=((~~~a).toNat:Int):=by
 have em:(if IntKind.u8.signed then (-1:Int) else IntKind.u8.max)=255:=by decide
 have e:BitVec.ofInt 8 255=BitVec.allOnes 8:=by decide
 rw [em]
 simp only [intBitsV,IntKind.bits]
 rw [e,ofInt_u8,wrap_u8']
 show (((BitVec.allOnes 8 ^^^ a.toBitVec:BitVec 8).toNat:Int)) % 256=_
 rw [BitVec.allOnes_xor]
 have:=(~~~a).toNat_lt
 simp only [UInt8.toNat,UInt8.toBitVec_not] at this ⊢
 omega
theorem not16_ok (a:UInt16):intBitsV .xor .u16 (if IntKind.u16.signed then -1 else IntKind.u16.max) a.toNat=((~~~a).toNat:Int):=by
 have em:(if IntKind.u16.signed then (-1:Int) else IntKind.u16.max)=65535:=by decide
 have e:BitVec.ofInt 16 65535=BitVec.allOnes 16:=by decide
 rw [em]
 simp only [intBitsV,IntKind.bits]
 rw [e,ofInt_u16,wrap_u16']
 show (((BitVec.allOnes 16 ^^^ a.toBitVec:BitVec 16).toNat:Int)) % 65536=_
 rw [BitVec.allOnes_xor]
 have:=(~~~a).toNat_lt
 simp only [UInt16.toNat,UInt16.toBitVec_not] at this ⊢
 omega
theorem not32_ok (a:UInt32):intBitsV .xor .u32 (if IntKind.u32.signed then -1 else IntKind.u32.max) a.toNat=((~~~a).toNat:Int):=by
 have em:(if IntKind.u32.signed then (-1:Int) else IntKind.u32.max)=4294967295:=by decide
 have e:BitVec.ofInt 32 4294967295=BitVec.allOnes 32:=by decide
 rw [em]
 simp only [intBitsV,IntKind.bits]
 rw [e,ofInt_u32,wrap_u32']
 show (((BitVec.allOnes 32 ^^^ a.toBitVec:BitVec 32).toNat:Int)) % 4294967296=_
 rw [BitVec.allOnes_xor]
 have:=(~~~a).toNat_lt
 simp only [UInt32.toNat,UInt32.toBitVec_not] at this ⊢
 omega
theorem not64_ok (a:UInt64):intBitsV .xor .u64 (if IntKind.u64.signed then -1 else IntKind.u64.max) a.toNat=((~~~a).toNat:Int):=by
 have em:(if IntKind.u64.signed then (-1:Int) else IntKind.u64.max)=18446744073709551615:=by decide
 have e:BitVec.ofInt 64 18446744073709551615=BitVec.allOnes 64:=by decide
 rw [em]
 simp only [intBitsV,IntKind.bits]
 rw [e,ofInt_u64,wrap_u64']
 show (((BitVec.allOnes 64 ^^^ a.toBitVec:BitVec 64).toNat:Int)) % 18446744073709551616=_
 rw [BitVec.allOnes_xor]
 have:=(~~~a).toNat_lt
 simp only [UInt64.toNat,UInt64.toBitVec_not] at this ⊢
 omega
theorem unT_ok (o : UnOp) (x : TV) : (unT o x).gives (fun z => ∃ a v, x.av = .v a ∧ unV o a = some v ∧ z = .v v) := by
  intro ws h
  unfold unT at h
  split at h <;> first
    | exact h.elim
    | (cases h; exact ⟨_, rfl, _, _, rfl, rfl, rfl⟩)
    | (cases h; refine ⟨_, rfl, _, _, rfl, rfl, ?_⟩
       rename_i a
       have := a.toNat_lt
       simp only [TV.av, byteAV, u64AV, AV.v.injEq, Value.int.injEq, true_and]
       first
         | (rw [wrap_u8', UInt8.toNat_sub]; simp; omega)
         | (rw [wrap_u16', UInt16.toNat_sub]; simp; omega)
         | (rw [wrap_u32', UInt32.toNat_sub]; simp; omega)
         | (rw [wrap_u64', UInt64.toNat_sub]; simp; omega)
         | exact (not8_ok a).symm | exact (not16_ok a).symm | exact (not32_ok a).symm | exact (not64_ok a).symm)
end Go.Eng
