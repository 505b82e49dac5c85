/- Texts of my own, one behind the other: EngU, EngV, EngW, EngX, EvA, EvB, EvC, EvD, EvE, EvF, EvG, EvH, EvI, EvJ, EvK, EvL, FloatP, ArithP, NrPure, ShPure. -/
import Derived.Test.YtfomkedednklbaaGreatDoorT2
import Derived.Deep.LoopGhost
import Derived.ScopeJumps
import Derived.KernelRfl
import Derived.Laws.Strings
import Derived.ChangeShapes
import Derived.ProofKit
import Derived.ChangeSlices
import Derived.ChangeArms
import Derived.DataReads
import Derived.Below
import Derived.Lib.LaidTab
import Derived.Lib.ItoaNum
import Derived.Sort.Grow
import Derived.Deep.Draws
import Derived.Laws.FloatArith
import Derived.IntWalk
import Derived.Lib.SlTrimSet
import Derived.Lib.IndexAny
import Derived.Lib.TrailingZeros
set_option linter.unusedVariables false
set_option linter.unusedSimpArgs false
namespace Go.Eng
open Go.RowKit
theorem GL.AQ {G:GL} {k:Nat}:∀{g:Gh},G.get k=g→g ≠ .no→(k,g)∈G:=by
 induction G with
 | nil=>intro g h hn;exact absurd h.symm hn
 | cons p r ih =>
  intro g h hn
  obtain ⟨j,x⟩:=p
  simp only [GL.get] at h
  split at h
  ·rename_i e;subst e;subst h;exact List.mem_cons_self ..
  ·exact List.mem_cons_of_mem _ (ih h hn)
def rename (ρ:List (Nat × Nat)) (τ:Nat→Value) (key:Nat):Value :=
 match ρ.find? (fun p=>lk p.1 == key) with
 | some p=>τ (lk p.2)
 | none=>τ key
theorem Lt (i j:Nat):(lk i == lk j)=(i == j):=by
 by_cases h:i=j
 ·subst h;simp
 ·have:lk i≠lk j:=fun e=>h (fO e)
  rw [beq_eq_false_iff_ne.2 this,beq_eq_false_iff_ne.2 h]
section
variable {C:Ctx} {D:j0} {σ:Sg} {a:Act} {w:World} {G H:GL}
theorem cL.weaken (h:cL C D σ G.get a w) (hr:kV G H=true):∃D',cL C D' σ H.get a w:=by
 unfold kV at hr
 simp only [aa] at hr
 obtain ⟨⟨h9,PD⟩,nD⟩:=hr
 generalize Qu:BT G H=ρ at PD nD
 have J0:∀p∈ρ,∀q∈ρ,(p.1=q.1 ↔ p.2=q.2):=by
  intro p hp q hq
  have:=aL.1 (aL.1 PD p hp) q hq
  by_cases e1:p.1=q.1 <;> by_cases e2:p.2=q.2 <;> simp [e1,e2] at this ⊢
 have A3:∀p∈ρ,rename ρ D.τ (lk p.1)=D.τ (lk p.2):=by
  intro p hp
  simp only [rename,Lt]
  cases hf:ρ.find? (fun q=>q.1 == p.1) with
  | none=>exact absurd (List.find?_eq_none.1 hf p hp) (by simp)
  | some q =>
   have h1:q.1=p.1:=by simpa using List.find?_some hf
   have h2:=(J0 q (List.mem_of_find?_eq_some hf) p hp).1 h1
   simp only [h2]
 have FQ:∀{i j:Nat},(ρ.find? (fun p=>p.1 == i)).map (·.2)=some j→rename ρ D.τ (lk i)=D.τ (lk j):=by
  intro i j hf
  simp only [aV] at hf
  obtain ⟨q,hf,rfl⟩:=hf
  have h1:q.1=i:=by simpa using List.find?_some hf
  rw [←h1]
  exact A3 q (List.mem_of_find?_eq_some hf)
 have jA:∀k,H.get k ≠ .no→(match H.get k,G.get k with
  | .no,_=>true
  | .ptr m o,.ptr m' o'=>m == m'&&o == o'&&(match H.get m with | .cl _=>true | _=>false)
  | .cB i s,.cB j s'=>s == s'&&(ρ.find? (fun p=>p.1 == i)).map (·.2) == some j&&(H.get (lk i)).ej
  | .cl ts,.cl us=>ts.all fun t=>(match us.find? (fun u=>u.1 == t.1) with | some u=>(ρ.find? (fun p=>p.1 == t.2.1)).map (·.2) == some u.2.1&&t.2.2 == u.2.2 | none=>false)&&(H.get (lk t.2.1)).ej
  | .live s,_=>ρ.any fun p=>lk p.1 == k&&G.get (lk p.2) == .live s
  | .pv s,.pv s'=>s == s'&&ρ.any fun p=>lk p.1 == k&&p.1 == p.2
  | .pv s,.mX d s'=>s == s'&&!(H.get d).ej&&ρ.any fun p=>lk p.1 == k&&p.1 == p.2
  | .used,_=>decide (1000000≤k)
  | _,_=>false)=true:=fun k hk=>aL.1 nD (k,H.get k) (GL.AQ rfl hk)
 have ja:∀m ts,H.get m = .cl ts→∃us,G.get m = .cl us∧∀t∈ts,(∃u∈us,u.1=t.1∧rename ρ D.τ (lk t.2.1)=D.τ (lk u.2.1))∧(H.get (lk t.2.1)).ej=true:=by
  intro m ts e
  have:=jA m (by rw [e];simp)
  rw [e] at this
  cases hg:G.get m with
  | cl us =>
   rw [hg] at this
   refine ⟨us,rfl,fun t ht=>?_⟩
   have h1:=aL.1 this t ht
   simp only [aa] at h1
   refine ⟨?_,h1.2⟩
   have h2:=h1.1
   split at h2
   ·rename_i u hu
    simp only [aa,beq_iff_eq] at h2
    exact ⟨u,List.mem_of_find?_eq_some hu,by simpa using List.find?_some hu,FQ h2.1⟩
   ·cases h2
  | _=>rw [hg] at this;simp at this
 have kP:∀k s,H.get k = .live s→∃p∈ρ,lk p.1=k∧G.get (lk p.2) = .live s:=by
  intro k s e
  have:=jA k (by rw [e];simp)
  rw [e] at this
  simp only [List.any_eq_true,aa,beq_iff_eq] at this
  exact this
 have Hx:∀k s,H.get k = .pv s→(∃p∈ρ,lk p.1=k∧p.1=p.2)∧(G.get k).CL=some s∧∀d,(G.get k).par=some d→(H.get d).ej=false:=by
  intro k s e
  have:=jA k (by rw [e];simp)
  rw [e] at this
  cases hg:G.get k with
  | pv s' =>
   rw [hg] at this
   simp only [aa,beq_iff_eq,List.any_eq_true] at this
   exact ⟨this.2,by rw [this.1];rfl,fun d hd=>by cases hd⟩
  | mX d s' =>
   rw [hg] at this
   simp only [aa,beq_iff_eq,List.any_eq_true,Bool.not_eq_true'] at this
   exact ⟨this.2,by rw [this.1.1];rfl,fun d hd=>by cases hd;exact this.1.2⟩
  | _=>rw [hg] at this;simp at this
 have qR:∀key g,eI { D with τ:=rename ρ D.τ } H.get key=some g→(∃ts,H.get key = .cl ts∧eI D G.get key=some g)∨(∃p∈ρ,lk p.1=key∧eI D G.get (lk p.2)=some g ∧
   (∀d,(G.get (lk p.2)).par=some d→(H.get d).ej=false)∧(H.get key).ej=true∧((p.1=p.2)∨∃s,G.get (lk p.2) = .live s)):=by
  intro key g hb
  cases hk:H.get key with
  | cl ts =>
   left
   obtain ⟨us,hu,_⟩:=ja key ts hk
   refine ⟨ts,rfl,?_⟩
   rw [gP hk] at hb
   rw [gP hu]
   exact hb
  | live s =>
   right
   obtain ⟨p,hp,h1,h2⟩:=kP key s hk
   refine ⟨p,hp,h1,?_,fun d hd=>(by rw [h2] at hd;cases hd),rfl,.inr ⟨s,h2⟩⟩
   rw [gA hk,←h1] at hb
   rw [gA h2]
   dsimp only at hb
   rw [A3 p hp] at hb
   exact hb
  | pv s =>
   right
   obtain ⟨⟨p,hp,h1,h2⟩,h3,h4⟩:=Hx key s hk
   have e:lk p.2=key:=by rw [←h2];exact h1
   refine ⟨p,hp,h1,?_,by rw [e];exact h4,rfl,.inl h2⟩
   rw [fN (by rw [hk];rfl),←h1] at hb
   rw [e,fN (Gh.qB h3)]
   dsimp only at hb
   rw [A3 p hp,e] at hb
   exact hb
  | mX d s =>
   have:=jA key (by rw [hk];simp)
   rw [hk] at this
   simp at this
  | pc s =>
   have:=jA key (by rw [hk];simp)
   rw [hk] at this
   simp at this
  | _=>simp [eI,hk] at hb
 have LQ:∀m,(H.get m).eQ=true→C.nt≤m∧m<1000000:=by
  intro m hm
  cases hk:H.get m with
  | cl ts =>
   obtain ⟨us,hu,_⟩:=ja m ts hk
   exact h.oe m (by rw [hu];rfl)
  | _=>rw [hk] at hm;simp [Gh.eQ] at hm
 refine ⟨{ D with τ:=rename ρ D.τ },{ size:=h.size,defers:=h.defers,iB:=h.iB,oe:=LQ,kL:=?_,slot:=?_,mem:=?_,cB:=?_,ps:=?_,sep:=?_,own:=?_,inv:=?_,ext:=h.ext,jT:=h.jT,gl:=h.gl,fix:=h.fix.of rfl fun hp=>?_ }⟩
 ·intro m hm
  cases hk:H.get m with
  | live s =>
   obtain ⟨p,_,rfl,_⟩:=kP m s hk
   exact fH _
  | pv s =>
   obtain ⟨⟨p,_,h1,_⟩,_⟩:=Hx m s hk
   rw [←h1];exact fH _
  | mX d s =>
   have:=jA m (by rw [hk];simp)
   rw [hk] at this
   simp at this
  | pc s =>
   have:=jA m (by rw [hk];simp)
   rw [hk] at this
   simp at this
  | used =>
   have:=jA m (by rw [hk];simp)
   rw [hk] at this
   simpa using this
  | _=>rw [hk] at hm;simp [Gh.ej] at hm
 ·intro t ht
  rcases h.slot t ht with e | ⟨e1,e2⟩
  ·exact .inl e
  ·refine .inr ⟨e1,fun Wb=>?_⟩
   replace e2:=e2 Wb
   cases hk:H.get t with
   | ptr m o =>
    have:=jA t (by rw [hk];simp)
    rw [hk] at this
    cases hg:G.get t with
    | ptr m' o' =>
     rw [hg] at this e2
     simp only [aa,beq_iff_eq] at this
     obtain ⟨⟨rfl,rfl⟩,_⟩:=this
     exact e2
    | _=>rw [hg] at this;simp at this
   | cB i s =>
    have:=jA t (by rw [hk];simp)
    rw [hk] at this
    cases hg:G.get t with
    | cB j s' =>
     rw [hg] at this e2
     simp only [aa,beq_iff_eq] at this
     obtain ⟨⟨rfl,hj⟩,_⟩:=this
     simp only [iw] at e2 ⊢
     rw [FQ hj]
     exact e2
    | _=>rw [hg] at this;simp at this
   | xR ts p =>
    have:=jA t (by rw [hk];simp)
    rw [hk] at this
    simp at this
   | pe k =>
    have:=jA t (by rw [hk];simp)
    rw [hk] at this
    simp at this
   | pm k =>
    have:=jA t (by rw [hk];simp)
    rw [hk] at this
    simp at this
   | _=>trivial
 ·intro m ts hk
  obtain ⟨us,hu,ht⟩:=ja m ts hk
  obtain ⟨cs,hv,hc⟩:=h.mem m us hu
  refine ⟨cs,hv,fun t Sc=>?_⟩
  obtain ⟨⟨u,V8,h1,h2⟩,_⟩:=ht t Sc
  dsimp only
  rw [h2,←h1]
  exact hc u V8
 ·intro key s hk
  obtain ⟨p,hp,rfl,hg⟩:=kP key s hk
  dsimp only
  rw [A3 p hp]
  exact h.cB _ s hg
 ·intro key s hs
  have hk:H.get key = .pv s:=by
   cases hk:H.get key with
   | pv s'=>rw [hk] at hs;cases hs;rfl
   | mX d s' =>
    have:=jA key (by rw [hk];simp)
    rw [hk] at this
    simp at this
   | pc s' =>
    have:=jA key (by rw [hk];simp)
    rw [hk] at this
    simp at this
   | _=>rw [hk] at hs;cases hs
  obtain ⟨⟨p,hp,h1,h2⟩,h3,_⟩:=Hx key s hk
  have:=h.ps key s h3
  dsimp only
  refine ⟨?_,?_,fun d s1 s2 e1 _=>by rw [hk] at e1;cases e1⟩
  ·rw [←h1,A3 p hp,←h2,h1];exact this.1
  ·rw [←h1,A3 p hp,←h2,h1];exact this.2.1
 ·intro key gE g h1 h2
  left
  have L8:∀m ts,H.get m = .cl ts→(G.get m).td=false:=fun m ts e=>by
   obtain ⟨us,hu,_⟩:=ja m ts e;rw [hu];rfl
  rcases qR key g h1 with ⟨ts,k1,b1⟩ | ⟨p,hp,k1,b1,c1,XC,Tt⟩ <;> rcases qR gE g h2 with ⟨us,k2,b2⟩ | ⟨q,hq,k2,b2,c2,XB,Ts⟩
  ·exact h.rI (L8 _ _ k1) b1 b2
  ·have:=h.rI (L8 _ _ k1) b1 b2
   have h3:=LQ key (by rw [k1];rfl)
   have h4:=fH q.2
   omega
  ·have:=h.rI (L8 _ _ k2) b2 b1
   have h3:=LQ gE (by rw [k2];rfl)
   have h4:=fH p.2
   omega
  ·have Js:∀(p q:Nat × Nat) (gE:Nat),lk q.1=gE→(H.get gE).ej=true→(q.1=q.2∨∃s,G.get (lk q.2) = .live s)→(∀d,(G.get (lk p.2)).par=some d→(H.get d).ej=false)→(G.get (lk p.2)).par≠some (lk q.2):=by
    intro p q gE e1 e2 e3 e4 e5
    have h6:=e4 _ e5
    rcases e3 with e3 | ⟨s,e3⟩
    ·rw [←e3,e1,e2] at h6;cases h6
    ·cases hg:G.get (lk p.2) with
     | mX d s' =>
      rw [hg] at e5
      cases e5
      have:=h.inv (lk p.2)
      rw [hg] at this
      rcases this with e | ⟨s',e⟩ <;> rw [e3] at e <;> cases e
     | _=>rw [hg] at e5;cases e5
   rcases h.sep _ _ g b1 b2 with e | e | e
   ·have:=fO e
    rw [←k1,←k2,(J0 p hp q hq).2 this]
   ·exact (Js p q gE k2 XB Ts c1 e).elim
   ·exact (Js q p key k1 XC Tt c2 e).elim
 ·intro key g hb
  rcases qR key g hb with ⟨_,_,b1⟩ | ⟨_,_,_,b1,_⟩
  ·exact h.own _ _ b1
  ·exact h.own _ _ b1
 ·intro key
  cases hk:H.get key with
  | ptr m o =>
   have:=jA key (by rw [hk];simp)
   rw [hk] at this
   cases hg:G.get key with
   | ptr m' o' =>
    rw [hg] at this
    simp only [aa] at this
    have h3:=this.2
    simp only [eK]
    split at h3
    ·rename_i e;rw [e];rfl
    ·cases h3
   | _=>rw [hg] at this;simp at this
  | cB i s =>
   have:=jA key (by rw [hk];simp)
   rw [hk] at this
   cases hg:G.get key with
   | cB j s' =>
    rw [hg] at this
    simp only [aa] at this
    exact this.2
   | _=>rw [hg] at this;simp at this
  | cl ts =>
   obtain ⟨us,hu,ht⟩:=ja key ts hk
   exact fun t Sc=>(ht t Sc).2
  | xR ts p =>
   have:=jA key (by rw [hk];simp)
   rw [hk] at this
   simp at this
  | pe k =>
   have:=jA key (by rw [hk];simp)
   rw [hk] at this
   simp at this
  | pm k =>
   have:=jA key (by rw [hk];simp)
   rw [hk] at this
   simp at this
  | mX d s =>
   have:=jA key (by rw [hk];simp)
   rw [hk] at this
   simp at this
  | _=>trivial
 ·have hH:(H.get (lk 999999)).td=true:=by simpa [hp] using h9
  refine ⟨hH,?_⟩
  obtain ⟨s,hk⟩:∃s,H.get (lk 999999) = .pv s:=by
   cases hk:H.get (lk 999999) with
   | pv s=>exact ⟨s,rfl⟩
   | mX d s' =>
    have:=jA _ (by rw [hk];simp)
    rw [hk] at this
    simp at this
   | pc s' =>
    have:=jA _ (by rw [hk];simp)
    rw [hk] at this
    simp at this
   | _=>rw [hk] at hH;cases hH
  obtain ⟨⟨p,jB,h1,h2⟩,_⟩:=Hx _ s hk
  show rename ρ D.τ (lk 999999)=D.τ (lk 999999)
  rw [←h1,A3 p jB,←h2]
theorem cL.forget {γ:Ga} (h:cL C D σ γ a w) {dz:Sg} (h1:Le dz σ):cL C D dz γ a w :=
 { h with
  slot:=fun t ht=>by
   rcases h1 t with e | e
   ·rw [e];exact h.slot t ht
   ·exact .inl e
  mem:=fun m ts hm=>by
   obtain ⟨cs,hv,ht⟩:=h.mem m ts hm
   refine ⟨cs,?_,ht⟩
   rcases h1 m with e | e
   ·rw [e];exact hv
   ·rw [e]
    obtain ⟨elem,hh,_,hn⟩:=hv
    exact ⟨elem,hh,.inl rfl,hn⟩
  ps:=fun key s hs=>by
   obtain ⟨e1,e2,e3⟩:=h.ps key s hs
   have qM:va dz γ key:=fun d s1 s2 f1 f2=>by
    rcases h1 key with e | e
    ·rcases h1 d with e' | e'
     ·rw [e,e'];exact e3 d s1 s2 f1 f2
     ·exact .inr (.inl e')
    ·exact .inl e
   rcases h1 key with e | e
   ·rw [e];exact ⟨e1,e2,qM⟩
   ·rw [e];exact ⟨e1,⟨e2.1,.inl rfl⟩,qM⟩ }
theorem head_eq {σ:Sg}:∀{bL:List Nat} {jD:List AV},Jc σ bL jD→∀k,head bL jD k=if k∈bL then σ k else .dead
 | [],[],_,k=>rfl
 | j :: ks,v :: vs,h,k=>by
  have ih:=head_eq h.2 k
  simp only [head] at ih
  simp only [head,Eng.bN,cF,bh]
  by_cases e:k=j
  ·subst e
   simp [h.1]
  ·simp only [e,if_false,false_or]
   exact ih
 | [],_ :: _,h,_=>h.elim
 | _ :: _,[],h,_=>h.elim
def wE (i:Nat):Exit:=if i<1000000 then .exit i else .goto (i - 1000000)
theorem tt {i:Nat} (h:i<1000000):wE i = .exit i:=aH h
theorem tW (l:Nat):wE (gid l) = .goto l:=by
 have h:¬gid l<1000000:=by unfold gid;omega
 unfold wE
 rw [aD h]
 have:gid l - 1000000=l:=by unfold gid;exact Nat.add_sub_cancel_left ..
 rw [this]
theorem rF {i:Nat} {n:Act→World→Prop} {Q:Exit→Act→World→Prop} {a:Act} {w:World} (h:Q (wE i) a w):Exit.then n Q (wE i) a w:=by
 unfold wE at h ⊢
 split at h
 ·rename_i e;rw [aH e];exact h
 ·rename_i e;rw [aD e];exact h
theorem pW (i:Nat):(∃l,i=gid l∧wE i = .goto l)∨(i<1000000∧wE i = .exit i):=by
 by_cases h:i<1000000
 ·exact .inr ⟨h,tt h⟩
 ·refine .inl ⟨i - 1000000,?_,aD h⟩
  unfold gid;omega
section
variable {P:Program} {a:Act} {w:World} {Q:Exit→Act→World→Prop}
theorem vh {c:Code} {ι:Type} (lb rk mu:ι→Nat) (Inv:ι→Act→World→Prop)
  (first:c.wp P (fun e a w=>match e with | .goto l=>∃i,lb i=l∧Inv i a w | e=>Q e a w) a w)
  (pass:∀i a w,Inv i a w→∃rest,findLabel c (lb i)=some rest∧rest.wp P (fun e a' w'=>match e with | .goto l=>∃j,lb j=l∧Inv j a' w'∧(rk j<rk i∨rk j=rk i∧mu j<mu i) | e=>Q e a' w') a w) :
  (Code.scope c).wp P Q a w:=by
 intro b k cs
 have key:∀m n i a w,rk i=m→mu i=n→Inv i a w→∀rest,findLabel c (lb i)=some rest→∃e a' w',Q e a' w'∧Arrives P (lone (b.at a (.code rest :: .inScope c :: k)) cs w) b k cs e a' w':=by
  intro m
  induction m using Nat.strongRecOn with
  | _ m VT =>
   intro n
   induction n using Nat.strongRecOn with
   | _ n ih =>
    intro i a w hm hn hI rest hf
    obtain ⟨Ex,MY,hp⟩:=pass i a w hI
    rw [hf] at MY
    cases MY
    obtain ⟨e,o0,nV,hq,sa⟩:=hp b (.inScope c :: k) cs
    cases e with
    | normal=>exact ⟨.normal,o0,nV,hq,Steps.trans sa (.one step_inScope)⟩
    | exit id=>exact ⟨.exit id,o0,nV,hq,fun k' hk=>sa k' (by simp [exitTo,hk])⟩
    | goto l' =>
     obtain ⟨j,rfl,hJ,eO⟩:=hq
     obtain ⟨uq,MW,_⟩:=pass j o0 nV hJ
     have hg:gotoIn (lb j) (.inScope c :: k)=some (.code uq :: .inScope c :: k):=by simp [gotoIn,MW]
     have:∃e a' w',Q e a' w'∧Arrives P (lone (b.at o0 (.code uq :: .inScope c :: k)) cs nV) b k cs e a' w':=by
      rcases eO with eO | ⟨he,eO⟩
      ·exact VT (rk j) (by omega) (mu j) j o0 nV rfl rfl hJ uq MW
      ·exact ih (mu j) (by omega) j o0 nV (by omega) rfl hJ uq MW
     obtain ⟨Ml,MB,Ku,FM,xq⟩:=this
     exact ⟨Ml,MB,Ku,FM,.of_steps (sa _ hg) xq⟩
    | ret=>exact ⟨_,o0,nV,hq,sa⟩
    | panic ch=>exact ⟨_,o0,nV,hq,sa⟩
    | outgrown=>exact ⟨_,o0,nV,hq,sa⟩
 obtain ⟨e,o0,nV,hq,sa⟩:=first b (.inScope c :: k) cs
 cases e with
 | normal=>exact ⟨.normal,o0,nV,hq,.head step_scope (Steps.trans sa (.one step_inScope))⟩
 | exit id=>exact ⟨.exit id,o0,nV,hq,fun k' hk => .head step_scope (sa k' (by simp [exitTo,hk]))⟩
 | goto l' =>
  obtain ⟨j,rfl,hJ⟩:=hq
  obtain ⟨uq,MW,_⟩:=pass j o0 nV hJ
  have hg:gotoIn (lb j) (.inScope c :: k)=some (.code uq :: .inScope c :: k):=by simp [gotoIn,MW]
  obtain ⟨Ml,MB,Ku,FM,xq⟩:=key _ _ j o0 nV rfl rfl hJ uq MW
  exact ⟨Ml,MB,Ku,FM,.of_steps (.head step_scope (sa _ hg)) xq⟩
 | ret=>exact ⟨_,o0,nV,hq,.of_steps (.one step_scope) sa⟩
 | panic ch=>exact ⟨_,o0,nV,hq,.of_steps (.one step_scope) sa⟩
 | outgrown=>exact ⟨_,o0,nV,hq,.of_steps (.one step_scope) sa⟩
end
structure Bx (C:Ctx) (rt:GL→Bool) (n:Option GL) (ex:List (Nat × GL)) (Qm:MX→Sg→Prop) (Q:Exit→Act→World→Prop):Prop where
 nrm:∀G' D' dz a' w',n=some G'→Qm .normal dz→cL C D' dz G'.get a' w'→Q .normal a' w'
 sf:∀i G' D' dz a' w',(i,G')∈ex→Qm (.exit i) dz→cL C D' dz G'.get a' w'→Q (wE i) a' w'
 ret:∀G' D' dz a' w',rt G'=true→Qm .ret dz→cL C D' dz G'.get a' w'→Q .ret a' w'
def Ja (P:Program) (c:Code) (Q:Exit→Act→World→Prop) (a:Act) (w:World):Prop :=
 ∃(ι:Type) (lb rk mu:ι→Nat) (Inv:ι→Act→World→Prop),
  c.wp P (fun e a w=>match e with | .goto l=>(∃i,lb i=l∧Inv i a w)∨Q (.goto l) a w | e=>Q e a w) a w ∧
  ∀i a w,Inv i a w→∃rest,findLabel c (lb i)=some rest ∧
   rest.wp P (fun e a' w'=>match e with | .goto l=>(∃j,lb j=l∧Inv j a' w'∧(rk j<rk i∨rk j=rk i∧mu j<mu i))∨Q (.goto l) a' w' | e=>Q e a' w') a w
variable {sg:Nat→c7}
theorem I3 (hE : ∀ f, dH C.P C.E.gl f (C.E.fs f) ∧ (C.E.fs f).sg = sg f) {rt : GL → Bool} : ∀ (m : M),
    (∀ {c : Code} {G : GL} {r : Option GL × List (Nat × GL)} {D : j0} {σ : Sg} {a : Act} {w : World} {Qm : MX → Sg → Prop} {Q : Exit → Act → World → Prop},
      eJ C.P sg C.nt rt c m G = some r → cL C D σ G.get a w → pH C.E m Qm σ → Bx C rt r.1 r.2 Qm Q → c.wp C.P Q a w) ∧
    (∀ {c : Code} {G : GL} {r : Option GL × List (Nat × GL)} {D : j0} {σ : Sg} {a : Act} {w : World} {Qm : MX → Sg → Prop} {Q : Exit → Act → World → Prop},
      qf C.P sg C.nt rt c m G = some r → cL C D σ G.get a w → pH C.E m Qm σ → Bx C rt r.1 r.2 Qm Q → Ja C.P c Q a w) := by
  intro m
  induction m with
  | skip =>
    refine ⟨?_, fun hc => by simp only [qf, reduceCtorEq] at hc⟩
    intro c G r D σ a w Qm Q hc h hm hp
    cases c <;> simp only [eJ, reduceCtorEq, aB] at hc
    · subst hc
      exact wp_skip (hp.nrm _ _ _ _ _ rfl hm h)
    · subst hc
      exact wp_label (hp.nrm _ _ _ _ _ rfl hm h)
  | eZ ms =>
    refine ⟨?_, fun hc => by simp only [qf, reduceCtorEq] at hc⟩
    intro c G r D σ a w Qm Q hc h hm hp
    cases c <;> simp only [eJ, reduceCtorEq] at hc
    rw [aC] at hc
    obtain ⟨h1, h2⟩ := hc
    rw [aV] at h2
    obtain ⟨G', hg, rfl⟩ := h2
    obtain ⟨dz, hs, hq⟩ := hm
    exact CH hE h1 hg h hs fun D' a' w' h' => hp.nrm _ _ _ _ _ rfl hq h'
  | seq x y OW OV =>
    refine ⟨?_, fun hc => by simp only [qf, reduceCtorEq] at hc⟩
    intro c G r D σ a w Qm Q hc h hm hp
    cases c <;> simp only [eJ, reduceCtorEq] at hc
    rw [bf] at hc
    obtain ⟨⟨n1, e1⟩, h1, h2⟩ := hc
    refine wp_seq (OW.1 h1 h hm ?_)
    cases n1 with
    | none =>
      simp only [aB] at h2
      subst h2
      exact { nrm := fun _ _ _ _ _ e => (by cases e), sf := fun i G' D' dz a' w' hi hq h' => rF (hp.sf i G' D' dz a' w' hi hq h'), ret := fun G' D' dz a' w' hi hq h' => hp.ret G' D' dz a' w' hi hq h' }
    | some G1 =>
      simp only [aV] at h2
      obtain ⟨q, hq, rfl⟩ := h2
      refine { nrm := fun G' D' dz a' w' e jC h' => ?_, sf := fun i G' D' dz a' w' hi hq h' => rF (hp.sf i G' D' dz a' w' (List.mem_append_left _ hi) hq h'), ret := fun G' D' dz a' w' hi hq h' => hp.ret G' D' dz a' w' hi hq h' }
      cases e
      obtain ⟨Hl, hle, jC⟩ := jC
      exact OV.1 hq (h'.forget hle) jC { nrm := hp.nrm, sf := fun i G' D' dz a' w' hi hq h' => hp.sf i G' D' dz a' w' (List.mem_append_right _ hi) hq h', ret := hp.ret }
  | cond x J y z OV VS =>
    refine ⟨?_, fun hc => by simp only [qf, reduceCtorEq] at hc⟩
    intro c G r D σ a w Qm Q hc h hm hp
    cases c <;> simp only [eJ, reduceCtorEq] at hc
    rename_i cx ca cb
    rw [aC] at hc
    obtain ⟨h1, h2⟩ := hc
    simp only [aa] at h1
    rw [bf] at h2
    obtain ⟨⟨n1, e1⟩, JU, h2⟩ := h2
    rw [bf] at h2
    obtain ⟨⟨n2, e2⟩, LU, h2⟩ := h2
    obtain ⟨t, DL, m1, m2⟩ : ∃ t, a.eval cx = .bool t ∧ (t = true → pH C.E y Qm σ) ∧ (t = false → pH C.E z Qm σ) := by
      have h0 := h.gy h1.1 h1.2
      rcases hm with ⟨t, ht, m1, m2⟩ | ⟨ht, m1, m2⟩
      · refine ⟨t, ?_, m1, m2⟩
        rw [ht] at h0
        rcases h0 with e | ⟨e, _⟩
        · cases e
        · generalize a.eval cx = v at e ⊢
          cases e
          rfl
      · rw [ht] at h0
        rcases h0 with e | ⟨e, _⟩
        · cases e
        · generalize a.eval cx = v at e ⊢
          cases e
          exact ⟨_, rfl, fun _ => m1, fun _ => m2⟩
    have key : (∀ D' dz a' w' G', n1 = some G' → Qm .normal dz → cL C D' dz G'.get a' w' → Q .normal a' w') ∧ (∀ D' dz a' w' G', n2 = some G' → Qm .normal dz → cL C D' dz G'.get a' w' → Q .normal a' w') ∧ r.2 = e1 ++ e2 := by
      cases n1 with
      | none =>
        simp only [aB] at h2
        subst h2
        exact ⟨fun _ _ _ _ _ e => (by cases e), fun D' dz a' w' G' e hq h' => hp.nrm G' D' dz a' w' e hq h', rfl⟩
      | some A =>
        cases n2 with
        | none =>
          simp only [aB] at h2
          subst h2
          exact ⟨fun D' dz a' w' G' e hq h' => hp.nrm G' D' dz a' w' e hq h', fun _ _ _ _ _ e => (by cases e), rfl⟩
        | some B =>
          simp only at h2
          rw [aC] at h2
          obtain ⟨h3, h4⟩ := h2
          simp only [aa] at h3
          simp only [aB] at h4
          subst h4
          refine ⟨fun D' dz a' w' G' e hq h' => ?_, fun D' dz a' w' G' e hq h' => ?_, rfl⟩
          · cases e
            obtain ⟨DF, Di⟩ := h'.weaken h3.1
            exact hp.nrm _ _ _ _ _ rfl hq Di
          · cases e
            obtain ⟨DF, Di⟩ := h'.weaken h3.2
            exact hp.nrm _ _ _ _ _ rfl hq Di
    obtain ⟨k1, k2, k3⟩ := key
    refine wp_cond_split DL (fun e => ?_) (fun e => ?_)
    · exact OV.1 JU h (m1 e) { nrm := fun G' D' dz a' w' e => k1 D' dz a' w' G' e, sf := fun i G' D' dz a' w' hi hq h' => hp.sf i G' D' dz a' w' (by rw [k3]; exact List.mem_append_left _ hi) hq h', ret := hp.ret }
    · exact VS.1 LU h (m2 e) { nrm := fun G' D' dz a' w' e => k2 D' dz a' w' G' e, sf := fun i G' D' dz a' w' hi hq h' => hp.sf i G' D' dz a' w' (by rw [k3]; exact List.mem_append_right _ hi) hq h', ret := hp.ret }
  | block id J y ih =>
    refine ⟨?_, fun hc => by simp only [qf, reduceCtorEq] at hc⟩
    intro c G r D σ a w Qm Q hc h hm hp
    cases c <;> simp only [eJ, reduceCtorEq] at hc
    rename_i i b
    rw [aC] at hc
    obtain ⟨⟨rfl, hid⟩, h2⟩ := hc
    rw [bf] at h2
    obtain ⟨⟨n1, e1⟩, JU, h2⟩ := h2
    rw [aC] at h2
    obtain ⟨nD, h2⟩ := h2
    simp only [aB] at h2
    subst h2
    have uO : ∀ G' D' dz a' w', G' ∈ n1.toList ++ (e1.filter (·.1 == i)).map (·.2) → Qm .normal dz → cL C D' dz G'.get a' w' → Q .normal a' w' := by
      intro G' D' dz a' w' hG hq h'
      obtain ⟨DF, Di⟩ := h'.weaken (aL.1 nD _ hG)
      refine hp.nrm J DF dz a' w' ?_ hq Di
      cases n1 with
      | some x => simp
      | none =>
        have : (e1.filter (·.1 == i)).isEmpty = false := by
          cases hf : e1.filter (·.1 == i) with
          | nil => rw [hf] at hG; simp at hG
          | cons _ _ => rfl
        simp only [this, Bool.and_false]
        rfl
    refine wp_block (ih.1 JU h hm { nrm := fun G' D' dz a' w' e hq h' => ?_, sf := fun j G' D' dz a' w' hi hq h' => ?_, ret := fun G' D' dz a' w' hi hq h' => hp.ret G' D' dz a' w' hi hq h' })
    · exact uO G' D' dz a' w' (List.mem_append_left _ (by simp at e; simp [e])) hq h'
    · simp only at hq hi
      by_cases e : j = i
      · subst e
        rw [aH rfl] at hq
        rw [tt hid]
        simp only [Exit.inBlock, if_true]
        exact uO G' D' dz a' w' (List.mem_append_right _ (aO.2 ⟨_, List.mem_filter.2 ⟨hi, by simp⟩, rfl⟩)) hq h'
      · rw [aD e] at hq
        have := hp.sf j G' D' dz a' w' (List.mem_filter.2 ⟨hi, by simpa using e⟩) hq h'
        rcases pW j with ⟨l, _, e2⟩ | ⟨_, e2⟩
        · rw [e2] at this ⊢; exact this
        · rw [e2] at this ⊢
          simp only [Exit.inBlock]
          rw [aD e]; exact this
  | loop bL J y ih =>
    refine ⟨?_, fun hc => by simp only [qf, reduceCtorEq] at hc⟩
    intro c G r D σ a w Qm Q hc h hm hp
    cases c <;> simp only [eJ, reduceCtorEq] at hc
    rename_i b
    rw [aC] at hc
    obtain ⟨h1, h2⟩ := hc
    simp only [aa] at h1
    obtain ⟨⟨Wh, F0⟩, _⟩ := h1
    rw [bf] at h2
    obtain ⟨⟨n1, e1⟩, JU, h2⟩ := h2
    rw [aC] at h2
    obtain ⟨nD, h2⟩ := h2
    simp only [aB] at h2
    subst h2
    obtain ⟨ι, jD, μ, i0, SZ, uP⟩ := hm
    have zg : ∀ {G' : GL} {D' : j0} {dz : Sg} {a' : Act} {w' : World} {i : ι}, kV G' J = true → cL C D' dz G'.get a' w' → Jc dz bL (jD i) → ∃ DF, cL C DF (head bL (jD i)) (GL.get J) a' w' := by
      intro G' D' dz a' w' i Sj h' F5
      obtain ⟨DF, Di⟩ := h'.weaken Sj
      refine ⟨DF, Di.forget (fun k => ?_)⟩
      rw [head_eq F5 k]
      split
      · exact .inl rfl
      · exact .inr rfl
    refine wp_loop_ghost (fun n a w => ∃ i D, μ i = n ∧ cL C D (head bL (jD i)) (GL.get J) a w) (μ i0) ?_ ?_
    · obtain ⟨DF, Di⟩ := zg Wh h SZ
      exact ⟨i0, DF, rfl, Di⟩
    · rintro n a1 w1 ⟨i, D1, rfl, hs⟩
      refine ih.1 JU hs (uP i) { nrm := fun G' D' dz a' w' e hq h' => ?_, sf := fun j G' D' dz a' w' hi hq h' => rF (hp.sf j G' D' dz a' w' hi hq h'), ret := fun G' D' dz a' w' hi hq h' => hp.ret G' D' dz a' w' hi hq h' }
      simp only at e
      subst e
      simp only [Option.all_some] at nD
      obtain ⟨j, eO, F5⟩ := hq
      obtain ⟨DF, Di⟩ := zg nD h' F5
      exact ⟨μ j, eO, j, DF, rfl, Di⟩
  | exit id =>
    refine ⟨?_, fun hc => by simp only [qf, reduceCtorEq] at hc⟩
    intro c G r D σ a w Qm Q hc h hm hp
    cases c <;> simp only [eJ, reduceCtorEq] at hc
    · rw [aC] at hc
      obtain ⟨⟨rfl, hid⟩, h2⟩ := hc
      simp only [aB] at h2
      subst h2
      exact wp_exit (by have := hp.sf _ _ _ _ _ _ (List.mem_singleton.2 rfl) hm h; rwa [tt hid] at this)
    · rw [aC] at hc
      obtain ⟨rfl, h2⟩ := hc
      simp only [aB] at h2
      subst h2
      exact wp_goto (by have := hp.sf _ _ _ _ _ _ (List.mem_singleton.2 rfl) hm h; rwa [tW] at this)
  | ret =>
    refine ⟨?_, fun hc => by simp only [qf, reduceCtorEq] at hc⟩
    intro c G r D σ a w Qm Q hc h hm hp
    cases c <;> simp only [eJ, reduceCtorEq] at hc
    rw [aC] at hc
    obtain ⟨h1, h2⟩ := hc
    exact wp_ret (hp.ret _ _ _ _ _ h1 hm h)
  | sw k k' x ih =>
    refine ⟨?_, fun hc => by simp only [qf, reduceCtorEq] at hc⟩
    intro c G r D σ a w Qm Q hc h hm hp
    simp only [eJ] at hc
    rw [aC] at hc
    obtain ⟨⟨n1, n2⟩, hc⟩ := hc
    rw [aV] at hc
    obtain ⟨r', h1, rfl⟩ := hc
    refine ih.1 h1 h hm { nrm := fun G' D' dz a' w' e hq h' => ?_, sf := fun i G' D' dz a' w' hi hq h' => hp.sf i G' D' dz a' w' hi hq h', ret := fun G' D' dz a' w' e hq h' => hp.ret G' D' dz a' w' e hq h' }
    exact hp.nrm (HK k k' G') _ _ a' w' (by simp [e]) hq (by rw [D9]; exact h'.swap n1 n2)
  | Hq x ih =>
    refine ⟨?_, fun hc => by simp only [qf, reduceCtorEq] at hc⟩
    intro c G r D σ a w Qm Q hc h hm hp
    cases c <;> simp only [eJ, reduceCtorEq] at hc
    rename_i c
    rw [bf] at hc
    obtain ⟨r', h1, h2⟩ := hc
    rw [aC] at h2
    obtain ⟨nD, h2⟩ := h2
    cases h2
    obtain ⟨ι, lb, rk, mu, Inv, h3, h4⟩ := ih.2 (Q := fun e a w => match e with | .goto _ => False | e => Q e a w) h1 h hm
      { nrm := fun G' D' dz a' w' e hq h' => hp.nrm G' D' dz a' w' e hq h', ret := fun G' D' dz a' w' e hq h' => hp.ret G' D' dz a' w' e hq h',
        sf := fun i G' D' dz a' w' hi hq h' => by
          have eO : i < 1000000 := by simpa using aL.1 nD _ hi
          have := hp.sf i G' D' dz a' w' hi hq h'
          rw [tt eO] at this ⊢
          exact this }
    refine vh lb rk mu Inv (wp_mono h3 fun e a w q => ?_) fun i a w hI => ?_
    · cases e <;> first | exact q | exact q.resolve_right id
    · obtain ⟨rest, e1, e2⟩ := h4 i a w hI
      refine ⟨rest, e1, wp_mono e2 fun e a w q => ?_⟩
      cases e <;> first | exact q | exact q.resolve_right id
  | Hp x ih =>
    refine ⟨fun hc => by rename_i c _ _ _ _ _ _ _ _; cases c <;> simp only [eJ, reduceCtorEq] at hc, ?_⟩
    intro c G r D σ a w Qm Q hc h hm hp
    simp only [qf] at hc
    refine ⟨Empty, Empty.elim, Empty.elim, Empty.elim, fun i => i.elim, wp_mono (ih.1 hc h hm hp) fun e a w q => ?_, fun i => i.elim⟩
    cases e <;> first | exact q | exact .inr q
  | Hr l bL J x y OW OV =>
    refine ⟨fun hc => by rename_i c _ _ _ _ _ _ _ _; cases c <;> simp only [eJ, reduceCtorEq] at hc, ?_⟩
    intro c G r D σ a w Qm Q hc h hm hp
    simp only [qf] at hc
    split at hc
    · rename_i rest MV
      rw [bf] at hc
      obtain ⟨⟨n1, e1⟩, JU, hc⟩ := hc
      rw [bf] at hc
      obtain ⟨⟨n2, e2⟩, LU, hc⟩ := hc
      rw [aC] at hc
      obtain ⟨zh, hc⟩ := hc
      simp only [aB] at hc
      subst hc
      simp only [aa] at zh
      obtain ⟨nD, T3⟩ := zh
      obtain ⟨QY, jD, μ, hb, hr⟩ := hm
      let MN : QY → Act → World → Prop := fun i a w => ∃ D', cL C D' (head bL (jD i)) (GL.get J) a w
      have zg : ∀ {G' : GL} {D' : j0} {dz : Sg} {a' : Act} {w' : World} {i : QY}, (gid l, G') ∈ e1 ++ e2 → cL C D' dz G'.get a' w' → Jc dz bL (jD i) → MN i a' w' := by
        intro G' D' dz a' w' i hi h' F5
        obtain ⟨DF, Di⟩ := h'.weaken (aL.1 nD _ (List.mem_filter.2 ⟨hi, by simp⟩))
        refine ⟨DF, Di.forget (fun k => ?_)⟩
        rw [head_eq F5 k]
        split
        · exact .inl rfl
        · exact .inr rfl
      have Sw : ∀ G', n1 = some G' → (if n1.isNone then n2 else n1) = some G' := by rintro G' rfl; rfl
      have Wl : ∀ G', n2 = some G' → (if n1.isNone then n2 else n1) = some G' := by
        rintro G' rfl
        simp at T3
        simp [T3]
      obtain ⟨Vm, lb, rk, mu, Inv, h3, h4⟩ := OV.2 (Q := fun e a w => match e with | .goto l' => if l' = l then ∃ i, MN i a w else Q (.goto l') a w | e => Q e a w) LU h hb
        { nrm := fun G' D' dz a' w' e hq h' => hp.nrm G' D' dz a' w' (Wl G' e) hq h', ret := fun G' D' dz a' w' e hq h' => hp.ret G' D' dz a' w' e hq h',
          sf := fun i G' D' dz a' w' hi hq h' => by
            simp only at hq
            by_cases e : i = gid l
            · subst e
              rw [aH rfl] at hq
              obtain ⟨j, hj⟩ := hq
              rw [tW]
              simp only [if_true]
              exact ⟨j, zg (List.mem_append_right _ hi) h' hj⟩
            · rw [aD e] at hq
              have := hp.sf i G' D' dz a' w' (List.mem_filter.2 ⟨List.mem_append_right _ hi, by simpa using e⟩) hq h'
              rcases pW i with ⟨l', rfl, e2⟩ | ⟨_, e2⟩
              · rw [e2] at this ⊢
                have fI : l' ≠ l := fun h => e (by rw [h])
                simp only [fI, if_false]; exact this
              · rw [e2] at this ⊢; exact this }
      refine ⟨Vm ⊕ QY, Sum.elim lb (fun _ => l), Sum.elim (fun i => rk i + 1) (fun _ => 0), Sum.elim mu μ, Sum.elim Inv MN, wp_mono h3 fun e a w q => ?_, ?_⟩
      · cases e <;> first | exact q | skip
        rename_i l'
        rcases q with ⟨i, q1, q2⟩ | q
        · exact .inl ⟨.inl i, q1, q2⟩
        · simp only at q
          by_cases e : l' = l
          · rw [aH e] at q
            obtain ⟨i, q⟩ := q
            exact .inl ⟨.inr i, e.symm, q⟩
          · rw [aD e] at q
            exact .inr q
      · rintro (i | i) a w hI
        · obtain ⟨Ex, f1, f2⟩ := h4 i a w hI
          refine ⟨Ex, f1, wp_mono f2 fun e a w q => ?_⟩
          cases e <;> first | exact q | skip
          rename_i l'
          rcases q with ⟨j, q1, q2, q3⟩ | q
          · exact .inl ⟨.inl j, q1, q2, by simp only [Sum.elim_inl]; omega⟩
          · simp only at q
            by_cases e : l' = l
            · rw [aH e] at q
              obtain ⟨j, q⟩ := q
              exact .inl ⟨.inr j, e.symm, q, .inl (by simp only [Sum.elim_inl, Sum.elim_inr]; omega)⟩
            · rw [aD e] at q
              exact .inr q
        · obtain ⟨D', hs⟩ := hI
          refine ⟨rest, MV, OW.1 JU hs (hr i) { nrm := fun G' D' dz a' w' e hq h' => hp.nrm G' D' dz a' w' (Sw G' e) hq h', ret := fun G' D' dz a' w' e hq h' => hp.ret G' D' dz a' w' e hq h', sf := fun j G' D' dz a' w' hi hq h' => ?_ }⟩
          simp only at hq
          by_cases e : j = gid l
          · subst e
            rw [aH rfl] at hq
            obtain ⟨k, hk, SZ⟩ := hq
            rw [tW]
            exact .inl ⟨.inr k, rfl, zg (List.mem_append_left _ hi) h' SZ, .inr ⟨rfl, hk⟩⟩
          · rw [aD e] at hq
            have := hp.sf j G' D' dz a' w' (List.mem_filter.2 ⟨List.mem_append_left _ hi, by simpa using e⟩) hq h'
            rcases pW j with ⟨l', rfl, e2⟩ | ⟨_, e2⟩
            · rw [e2] at this ⊢; exact .inr this
            · rw [e2] at this ⊢; exact this
    · cases hc
theorem Bn (hE:∀f,dH C.P C.E.gl f (C.E.fs f)∧(C.E.fs f).sg=sg f) {rt:GL→Bool} (m:M) {c:Code} {G:GL} {r:Option GL × List (Nat × GL)} {D:j0} {σ:Sg} {a:Act} {w:World} {Qm:MX→Sg→Prop} {Q:Exit→Act→World→Prop}
  (hc:eJ C.P sg C.nt rt c m G=some r) (h:cL C D σ G.get a w) (hm:pH C.E m Qm σ) (hp:Bx C rt r.1 r.2 Qm Q):c.wp C.P Q a w:=(I3 hE m).1 hc h hm hp
end
end Go.Eng
namespace Go.Eng
open Go.RowKit
inductive RV where
 | t (t:Nat)
 | c (a m n:Nat) (agg:Bool)
def RV.get (σ:Sg):RV→Option AV
 | .t j=>some (σ j)
 | .c a m n agg=>match σ a,σ m with
  | .pt,.ag cs=>fJ cs 0 n agg
  | _,_=>none
def AL (σ:Sg):List RV→Option (List AV)
 | []=>some []
 | r :: rs=>(r.get σ).bind fun x=>(AL σ rs).map (x :: ·)
structure FD where
 np:Nat
 m:M
 ref:Option (Nat × Nat):=none
 fR:List (Nat × (Nat × Nat)):=[]
 res:List RV
 own:List (Nat × Nat):=[]
 new:Option (Nat × Nat):=none
 fD:List (Nat × Nat):=[]
 ps:Option (Nat × (Nat × Nat)):=none
def FD.sg (d:FD):c7:={ ref:=d.ref.map (·.1),fR:=iN d.fR,bO:=d.res.length,own:=d.own,new:=d.new.map (·.1),fD:=d.fD,ps:=d.ps.map fun q=>(if q.2.1=999998 then 1000+q.1 else q.1,q.2.2) }
def FD.eu (d:FD):List (Nat × (Nat × Nat)):=d.ps.toList.filter fun q=>q.2.1 == 999999
def FD.start (d:FD) (ins:List AV):Sg :=
 match d.ref with
 | none=>match d.ps with
  | none=>head (List.range d.np) ins
  | some (i,k,_)=>head (lk k :: List.range d.np) (ins.getD i .dead :: ins.set i .pt)
 | some (i,m)=>head (m :: List.range d.np) (ins.getD i .dead :: ins.set i .pt)
def FD.Ad (d:FD) (σ:Sg) (outs:List AV):Prop :=
 ∃rs,AL σ d.res=some rs∧(∀q∈d.own,∃s es,rs[q.1]?=some (.sl s es))∧(∀q,d.new=some q→rs[q.1]?=some .pt) ∧
  outs=rs++d.new.toList.map (fun q=>σ q.2)++d.ref.toList.map (fun q=>σ q.2)++d.eu.map (fun q=>σ (lk q.2.1))
def FD.runs (d:FD) (E:Env) (ins outs:List AV):Prop :=
 pH E d.m (fun e σ=>match e with | .exit _=>False | _=>d.Ad σ outs) (d.start ins)
def rb (us:List (Nat × (Nat × Nat))) (q:Nat × Nat):Option Nat:=(us.find? (fun u=>u.1 == q.1&&u.2.2 == q.2)).map (·.2.1)
def Bu {X:Type}:List (Option X)→Option (List X)
 | []=>some []
 | none :: _=>none
 | some x :: r=>(Bu r).map (x :: ·)
def RV.key (G:GL) (s:Nat):RV→Option Nat
 | .t j=>match G.get j with
  | .cB k s'=>if s=s' then some k else none
  | _=>none
 | .c _ m n agg=>if n=1∧agg=false then (match G.get m with | .cl us=>rb us (0,s) | _=>none) else none
def tq (G:GL) (q:Option (Nat × Nat)) (ts:List (Nat × Nat)):Option (List Nat) :=
 match q with
 | none=>if ts.isEmpty then some [] else none
 | some (_,m)=>match G.get m with
  | .cl us=>Bu (ts.map (rb us))
  | _=>none
def FD.Of (d:FD) (G:GL):Option (List Nat):=Bu (d.own.map fun q=>(d.res[q.1]?).bind (RV.key G q.2))
def jK (G:GL) (ks:List Nat) (ts:List (Nat × Nat)):Bool:=kj (fun k q=>G.get (lk k) == .live q.2) ks ts
def RV.Qr (G:GL):RV→Bool
 | .t _=>true
 | .c a m _ _=>G.get a == .ptr m 0&&(G.get m).eQ
def FD.rt (d : FD) (G : GL) : Bool :=
  d.res.all (RV.Qr G) && (match d.ref with | some (_, m) => (G.get m).eQ | none => true) &&
  (match d.new with
   | some (j, m) => (G.get m).eQ && (match d.res[j]? with | some (.t t) => G.get t == .ptr m 0 | _ => false)
   | none => true) &&
  (match tq G d.ref (iN d.fR), d.Of G, tq G d.new d.fD with
   | some r, some o, some n => decide (r ++ o ++ n).Nodup && jK G r (iN d.fR) && jK G o d.own && jK G n d.fD
   | _, _, _ => false) &&
  (match d.eu with | (_, k, s) :: _ => (match G.get (lk k) with | .pv s' => s == s' | .mX _ s' => s == s' | _ => false) | [] => true)
def ly (P:Program) (nt:Nat):ResultVar→RV→Bool
 | .tmp t,.t t'=>t == t'&&decide (t<nt)
 | .cell a ty,.c a' _ n agg=>a == a'&&decide (a<nt)&&jg P ty n agg
 | _,_=>false
def FD.mj (d:FD):List Nat:=d.fR.map fun t=>lk t.2.1
def FD.G0 (d:FD):GL :=
 match d.ref with
 | none=>match d.ps with
  | none=>[]
  | some (i,k,s)=>GL.bN [] [i,lk k] [.cB k s,.pv s]
 | some (i,m)=>GL.bN [] (i :: m :: d.mj) (.ptr m 0 :: .cl d.fR :: d.fR.map fun t => .live t.2.2)
def FD.mB (d:FD) (nt:Nat):Bool :=
 decide (d.np≤nt∧nt≤1000000∧(d.fR.map (·.2.1)).Nodup∧(d.ref=none→d.fR=[])∧(d.new=none→d.fD=[])∧(d.ref=none∨d.new=none)) &&
 (match d.ref with | none=>true | some (i,m)=>decide (i<d.np∧nt≤m∧m=999999)) &&
 (match d.ps with | none=>true | some (i,k,_)=>decide (i<d.np∧d.ref=none∧d.new=none∧i<1000∧(k=999999∧d.own=[]∨k=999998)))
def Bo (P : Program) (sg : Nat → c7) (fn : Func) (d : FD) : Bool :=
  d.mB fn.ntmps && kj (ly P fn.ntmps) fn.results.toList d.res &&
  (match fn.body with
   | some c => (match eJ P sg fn.ntmps d.rt c d.m d.G0 with
     | some (n, ex) => ex.isEmpty && n.all d.rt
     | none => false)
   | none => false)
section
variable {X:Type}
theorem mG {σ:Nat→X}:∀{ks:List Nat} {xs:List X} {p k:Nat} {x:X},ks.Nodup→ks[p]?=some k→xs[p]?=some x→Eng.bN σ ks xs k=x
 | j :: ks,y :: xs,0,k,x,_,h1,h2=>by
  simp only [List.getElem?_cons_zero,aB] at h1 h2
  subst h1;subst h2
  simp [Eng.bN,cF]
 | j :: ks,y :: xs,p+1,k,x,hn,h1,h2=>by
  simp only [List.getElem?_cons_succ] at h1 h2
  rw [List.nodup_cons] at hn
  have:k≠j:=fun e=>hn.1 (e ▸ aT h1)
  simp only [Eng.bN,cF,this,if_false]
  exact mG hn.2 h1 h2
 | [],_,_,_,_,_,h1,_=>by simp at h1
 | _ :: _,[],_,_,_,_,_,h2=>by simp at h2
theorem yb {σ:Nat→X} {key:Nat}:∀{ks:List Nat} {xs:List X},Eng.bN σ ks xs key=σ key∨∃(p:Nat) (x:X),ks[p]?=some key∧xs[p]?=some x∧Eng.bN σ ks xs key=x
 | j :: ks,y :: xs=>by
  by_cases e:key=j
  ·right
   exact ⟨0,y,by simp [e],rfl,by simp [Eng.bN,cF,e]⟩
  ·simp only [Eng.bN,cF,e,if_false]
   rcases yb (σ:=σ) (key:=key) (ks:=ks) (xs:=xs) with h | ⟨p,x,h1,h2,h3⟩
   ·exact .inl h
   ·exact .inr ⟨p+1,x,by simpa using h1,by simpa using h2,h3⟩
 | [],_ => .inl rfl
 | _ :: _,[] => .inl rfl
end
theorem oa {ins:List AV} {n t:Nat} (h:ins.length=n):head (List.range n) ins t=ins.getD t .dead:=by
 unfold head
 by_cases ht:t<n
 ·have h1:(List.range n)[t]?=some t:=by simp [ht]
  have hl:t<ins.length:=by omega
  have h2:ins[t]?=some ins[t]:=aA hl
  rw [mG List.nodup_range h1 h2]
  simp [List.getD,h2]
 ·rw [iF (by simpa using ht)]
  have:ins[t]?=none:=List.getElem?_eq_none (by omega)
  simp [List.getD,this]
section
variable {P:Program} {E:Env} {w:World} {R:Reach} {ins:List AV} {xs:List Value}
theorem tX {nt t:Nat} (ht:t<nt):((⟨xs⟩:Array Value)++Array.replicate (nt - xs.length) undef).getD t undef=xs.getD t undef:=by
 simp only [Array.getD_eq_getD_getElem?,ak]
 by_cases h:t<xs.length
 ·rw [Array.getElem?_append_left (by simpa using h)]
  simp
 ·rw [Array.getElem?_append_right (by simpa using h)]
  rw [List.getElem?_eq_none (by omega)]
  simp only [Array.getElem?_replicate]
  split <;> rfl
theorem wL (h:eY R w ins xs) (t:Nat):Rep R w (ins.getD t .dead) (xs.getD t undef):=by
 by_cases ht:t<ins.length
 ·obtain ⟨y,h1,h2⟩:=h.get t _ (aA ht)
  simp only [List.getD,aA ht,h1,Option.getD_some]
  exact h2
 ·simp only [List.getD,List.getElem?_eq_none (Nat.le_of_not_lt ht),Option.getD_none]
  exact .dead _
def uQ (d:FD) (xs:List Value):Option Nat :=
 match d.sg.ref with
 | none=>none
 | some i=>match xs[i]? with
  | some (.pointer (some ⟨b,0,none⟩))=>some b
  | _=>none
theorem G5 {d:FD} {nt:Nat} (iZ:d.ps=none) (hb:d.mB nt=true) (hlen:ins.length=d.np) (hR:∀b o,R b o→b<w.heap.size) (xm:∀n,Rep R w (E.gl n) (.pointer (some ⟨n,0,none⟩))) (ha:km d.sg R w ins xs) :
  ∃D,cL ⟨P,E,nt,w,R,ny d.sg w xs,uQ d xs,none⟩ D (d.start ins) d.G0.get { tmps:=(⟨xs⟩:Array Value)++Array.replicate (nt - xs.length) undef,defers:=[] } w:=by
 simp only [FD.mB,aa,ay] at hb
 obtain ⟨⟨⟨b1,b2,b3,b4,b5,b6⟩,b7⟩,_⟩:=hb
 have Ce:∀(hx:xs.length=d.np),((⟨xs⟩:Array Value)++Array.replicate (nt - xs.length) undef).size=nt:=by
  intro hx
  simp
  omega
 cases gQ:d.ref with
 | none =>
  have hg:d.sg.ref=none:=by simp [FD.sg,gQ]
  simp only [km,hg] at ha
  have hx:xs.length=d.np:=by rw [←ha.length,hlen]
  have hG:d.G0=[]:=by simp [FD.G0,gQ,iZ]
  have vo:d.start ins=head (List.range d.np) ins:=by simp [FD.start,gQ,iZ]
  rw [hG,vo]
  refine ⟨⟨R,fun _=>0,fun _=>undef⟩,{ size:=Ce hx,defers:=rfl,iB:=b2,oe:=?_,kL:=?_,slot:=?_,mem:=?_,cB:=?_,ps:=fun _ _ h=>(by cases h),sep:=?_,own:=?_,inv:=?_,ext:=Ext.refl _ _ _,jT:=hR,gl:=xm,fix:=?_ }⟩
  ·intro m h;cases h
  ·intro m h;cases h
  ·intro t ht
   refine .inr ⟨?_,fun _=>trivial⟩
   rw [oa hlen]
   dsimp only
   rw [tX ht]
   exact wL ha t
  ·intro m ts h;cases h
  ·intro m ts h;cases h
  ·intro k k' g h;cases h
  ·intro k g h;cases h
  ·intro k;trivial
  ·exact ⟨fun b hb=>by simp [uQ,hg] at hb,fun v hv=>by cases hv⟩
 | some im =>
  obtain ⟨i,m⟩:=im
  simp only [gQ,ay] at b7
  obtain ⟨c1,c2,rfl⟩:=b7
  generalize YY:(999999:Nat)=m at gQ c2 ⊢
  have c3:m<1000000:=by omega
  have hg:d.sg.ref=some i:=by simp [FD.sg,gQ]
  simp only [km,hg] at ha
  obtain ⟨b,cs,x,tv,a1,a2,a3,a4,a5,a6,a7⟩:=ha
  have hx:xs.length=d.np:=by rw [←a4.length,List.length_set,hlen]
  have sW:d.sg.fR.length=d.fR.length:=by simp [FD.sg,iN]
  have kG:d.mj.Nodup:=by
   have:d.mj=(d.fR.map (·.2.1)).map lk:=by simp [FD.mj]
   rw [this]
   exact List.Pairwise.map _ (fun a b h e=>h (fO e)) b3
  have hG:d.G0.get=Eng.bN (fun _=>Gh.no) (i :: m :: d.mj) (.ptr m 0 :: .cl d.fR :: d.fR.map fun t => .live t.2.2):=by
   simp only [FD.G0,gQ,GL.qS]
   rfl
  have Dc:∀k,k<1000000→k ∉ d.mj:=by
   intro k hk hm
   simp only [FD.mj,aO] at hm
   obtain ⟨t,_,rfl⟩:=hm
   have:=fH t.2.1
   omega
  have hnd:(i :: m :: d.mj).Nodup:=by
   rw [List.nodup_cons,List.nodup_cons]
   refine ⟨?_,Dc m c3,kG⟩
   rw [bh]
   rintro (e | e)
   ·omega
   ·exact Dc i (by omega) e
  have gi:d.G0.get i = .ptr m 0:=by rw [hG];exact mG hnd (p:=0) rfl rfl
  have gm:d.G0.get m = .cl d.fR:=by rw [hG];exact mG hnd (p:=1) rfl rfl
  have gt:∀(p:Nat) (t:Nat × (Nat × Nat)),d.fR[p]?=some t→d.G0.get (lk t.2.1) = .live t.2.2:=by
   intro p t hp
   rw [hG]
   exact mG hnd (p:=p+2) (by simp [FD.mj,hp]) (by simp [hp])
  have zt:∀key,d.G0.get key = .no∨(key=i∧d.G0.get key = .ptr m 0)∨(key=m∧d.G0.get key = .cl d.fR)∨∃(p:Nat) (t:Nat × (Nat × Nat)),d.fR[p]?=some t∧key=lk t.2.1∧d.G0.get key = .live t.2.2:=by
   intro key
   have h0:=yb (σ:=fun _=>Gh.no) (key:=key) (ks:=i :: m :: d.mj) (xs := .ptr m 0 :: .cl d.fR :: d.fR.map fun t => .live t.2.2)
   rw [←hG] at h0
   rcases h0 with h | ⟨p,g,h1,h2,h3⟩
   ·exact .inl h
   ·right
    match p,h1,h2 with
    | 0,h1,h2=>simp at h1 h2;subst h1;subst h2;exact .inl ⟨rfl,h3⟩
    | 1,h1,h2=>simp at h1 h2;subst h1;subst h2;exact .inr (.inl ⟨rfl,h3⟩)
    | p+2,h1,h2 =>
     simp only [List.getElem?_cons_succ,FD.mj,aI,aV] at h1 h2
     obtain ⟨t,ht,h1⟩:=h1
     obtain ⟨t',tg,h2⟩:=h2
     rw [ht] at tg;cases tg
     exact .inr (.inr ⟨p,t,ht,h1.symm,h2 ▸ h3⟩)
  have pJ:∀(p:Nat) (t:Nat × (Nat × Nat)) (v:Value),d.fR[p]?=some t→tv[p]?=some v→Eng.bN (fun _=>undef) d.mj tv (lk t.2.1)=v:=by
   intro p t v hp hv
   exact mG kG (p:=p) (by simp [FD.mj,hp]) hv
  have MU:∀(p:Nat) (t:Nat × (Nat × Nat)),d.fR[p]?=some t→∃v,tv[p]?=some v∧Eng.bN (fun _=>undef) d.mj tv (lk t.2.1)=v∧cs[t.1]?=some v∧fg R w v t.2.2:=by
   intro p t hp
   have eO:=(aE.1 hp).1
   have hv:tv[p]?=some tv[p]:=aA (by omega)
   have hs:d.sg.fR[p]?=some (t.1,t.2.2):=by simp [FD.sg,iN,hp]
   obtain ⟨q1,q2⟩:=a6 p _ _ hs hv
   exact ⟨_,hv,pJ p t _ hp hv,q1,q2⟩
  have vo:d.start ins=head (m :: List.range d.np) (ins.getD i .dead :: ins.set i .pt):=by simp [FD.start,gQ]
  have sm:d.start ins m=x:=by
   rw [vo]
   simp [head,Eng.bN,cF,List.getD,a2]
  have ss:∀t,t≠m→d.start ins t=(ins.set i .pt).getD t .dead:=by
   intro t ht
   rw [vo]
   simp only [head,Eng.bN,cF,ht,if_false]
   exact oa (by simpa using hlen)
  have qR:∀key g,eI ⟨R,fun _=>b,Eng.bN (fun _=>undef) d.mj tv⟩ d.G0.get key=some g →
    ∃p,(some b :: tv.map Value.ownBlock)[p]?=some (some g)∧(p=0→key=m)∧(∀q,p=q+1→∃t,d.fR[q]?=some t∧key=lk t.2.1):=by
   intro key g hk
   rcases zt key with e | ⟨_,e⟩ | ⟨k1,e⟩ | ⟨p,t,hp,k1,e⟩
   ·simp [eI,e] at hk
   ·simp [eI,e] at hk
   ·rw [gP e] at hk
    exact ⟨0,by simpa using hk,fun _=>k1,fun q hq=>by omega⟩
   ·rw [gA e] at hk
    obtain ⟨v,hv,h1,_,_⟩:=MU p t hp
    rw [k1] at hk
    dsimp only at hk
    rw [h1] at hk
    refine ⟨p+1,by simp [hv,hk],fun h=>by omega,fun q hq=>⟨t,?_,k1⟩⟩
    have:q=p:=by omega
    subst this
    exact hp
  refine ⟨⟨R,fun _=>b,Eng.bN (fun _=>undef) d.mj tv⟩,{ size:=Ce hx,defers:=rfl,iB:=b2,oe:=?_,kL:=?_,slot:=?_,mem:=?_,cB:=?_,ps:=fun k s hk=>(by
   rcases zt k with e | ⟨_,e⟩ | ⟨_,e⟩ | ⟨_,_,_,_,e⟩ <;> rw [e] at hk <;> cases hk),sep:=?_,own:=?_,inv:=?_,ext:=Ext.refl _ _ _,jT:=hR,gl:=xm,fix:=?_ }⟩
  ·intro k hk
   rcases zt k with e | ⟨_,e⟩ | ⟨k1,e⟩ | ⟨p,t,hp,k1,e⟩
   ·rw [e] at hk;cases hk
   ·rw [e] at hk;cases hk
   ·subst k1;exact ⟨c2,c3⟩
   ·rw [e] at hk;cases hk
  ·intro k hk
   rcases zt k with e | ⟨_,e⟩ | ⟨k1,e⟩ | ⟨p,t,hp,k1,e⟩
   ·rw [e] at hk;cases hk
   ·rw [e] at hk;cases hk
   ·rw [e] at hk;cases hk
   ·subst k1;exact fH _
  ·intro t ht
   dsimp only at ht ⊢
   rw [ss t (by omega),tX ht]
   refine .inr ⟨wL a4 t,fun _=>?_⟩
   rcases zt t with e | ⟨k1,e⟩ | ⟨k1,e⟩ | ⟨p,t',hp,k1,e⟩
   ·rw [e];trivial
   ·rw [e]
    simp only [iw]
    subst k1
    simp [List.getD,a1]
   ·omega
   ·have:=fH t'.2.1
    omega
  ·intro k ts hk
   rcases zt k with e | ⟨k1,e⟩ | ⟨k1,e⟩ | ⟨p,t',hp,k1,e⟩
   ·rw [e] at hk;cases hk
   ·rw [e] at hk;cases hk
   ·rw [e] at hk
    cases hk
    subst k1
    rw [sm]
    refine ⟨cs,a3,fun t ht=>?_⟩
    obtain ⟨p,hp⟩:=bg ht
    obtain ⟨v,_,h1,h2,_⟩:=MU p t hp
    dsimp only
    rw [h1]
    exact h2
   ·rw [e] at hk;cases hk
  ·intro k s hk
   rcases zt k with e | ⟨k1,e⟩ | ⟨k1,e⟩ | ⟨p,t',hp,k1,e⟩
   ·rw [e] at hk;cases hk
   ·rw [e] at hk;cases hk
   ·rw [e] at hk;cases hk
   ·rw [e] at hk
    cases hk
    obtain ⟨v,_,h1,_,h3⟩:=MU p t' hp
    subst k1
    dsimp only
    rw [h1]
    exact h3
  ·intro k k' g h1 h2
   obtain ⟨p,q1,q2,q3⟩:=qR k g h1
   obtain ⟨p',r1,r2,r3⟩:=qR k' g h2
   have:=a7 p p' g q1 r1
   subst this
   left
   cases p with
   | zero=>rw [q2 rfl,r2 rfl]
   | succ p =>
    obtain ⟨t,ht,e1⟩:=q3 p rfl
    obtain ⟨t',tg,e2⟩:=r3 p rfl
    rw [ht] at tg
    cases tg
    rw [e1,e2]
  ·intro k g h1
   left
   simp only [ny,hg]
   obtain ⟨elem,hh,_,_⟩:=a3
   refine ⟨b,cs,elem,a1,hh,?_⟩
   obtain ⟨p,q1,q2,q3⟩:=qR k g h1
   cases p with
   | zero =>
    left
    simpa using q1.symm
   | succ p =>
    right
    obtain ⟨t,ht,e1⟩:=q3 p rfl
    obtain ⟨v,hv,_,h2,_⟩:=MU p t ht
    refine ⟨(t.1,t.2.2),?_,v,h2,?_⟩
    ·simp only [FD.sg,iN,aO]
     exact ⟨t,aT ht,rfl⟩
    ·simpa [hv] using q1
  ·intro k
   rcases zt k with e | ⟨k1,e⟩ | ⟨k1,e⟩ | ⟨p,t',hp,k1,e⟩
   ·rw [e];trivial
   ·rw [e]
    simp only [eK,gm,Gh.eQ]
   ·rw [e]
    intro t ht
    obtain ⟨p,hp⟩:=bg ht
    rw [gt p t hp]
    rfl
   ·rw [e];trivial
  ·refine ⟨fun b' zk=>?_,fun v hv=>by cases hv⟩
   simp only [uQ,hg,a1,aB] at zk
   exact zk
theorem wv {d:FD} {nt i k s:Nat} (iZ:d.ps=some (i,k,s)) (hb:d.mB nt=true) (hlen:ins.length=d.np) (hR:∀b o,R b o→b<w.heap.size) (xm:∀n,Rep R w (E.gl n) (.pointer (some ⟨n,0,none⟩)))
  {v:Value} {es:List AV} (a1:xs[i]?=some v) (a2:ins[i]?=some (.sl s es)) (a3:fg R w v s) (a4:fL R w v s (.sl s es)) (a5:eY R w (ins.set i .pt) xs) {fp:Option Value} (PG:∀v',fp=some v'→v'=v∧k=999999) :
  ∃D,cL ⟨P,E,nt,w,R,fun c=>v.ownBlock=some c,none,fp⟩ D (d.start ins) d.G0.get { tmps:=(⟨xs⟩:Array Value)++Array.replicate (nt - xs.length) undef,defers:=[] } w:=by
 simp only [FD.mB,aa,ay,iZ] at hb
 obtain ⟨⟨⟨b1,b2,b3,b4,b5,b6⟩,b7⟩,b8,b9,Tw,XE,Tv⟩:=hb
 have hx:xs.length=d.np:=by rw [←a5.length,List.length_set,hlen]
 have Ce:((⟨xs⟩:Array Value)++Array.replicate (nt - xs.length) undef).size=nt:=by simp;omega
 have Dc:∀t,t<1000000→t≠lk k:=fun t ht e=>by have:=fH k;omega
 have hG:d.G0.get=Eng.bN (fun _=>Gh.no) [i,lk k] [.cB k s,.pv s]:=by
  simp only [FD.G0,b9,iZ,GL.qS]
  rfl
 have vo:d.start ins=head (lk k :: List.range d.np) (ins.getD i .dead :: ins.set i .pt):=by simp [FD.start,b9,iZ]
 have SL:ins.getD i .dead = .sl s es:=by simp [List.getD,a2]
 rw [SL] at vo
 rw [hG,vo]
 have sk:head (lk k :: List.range d.np) (.sl s es :: ins.set i .pt) (lk k) = .sl s es:=by simp [head,Eng.bN,cF]
 have ss:∀t,t≠lk k→head (lk k :: List.range d.np) (.sl s es :: ins.set i .pt) t=(ins.set i .pt).getD t .dead:=fun t ht=>by
  have:head (lk k :: List.range d.np) (.sl s es :: ins.set i .pt) t=head (List.range d.np) (ins.set i .pt) t:=by simp [head,Eng.bN,cF,ht]
  rw [this,oa (by rw [List.length_set,hlen])]
 have gi:Eng.bN (fun _=>Gh.no) [i,lk k] [.cB k s,.pv s] i = .cB k s:=by simp [Eng.bN,cF]
 have gk:Eng.bN (fun _=>Gh.no) [i,lk k] [.cB k s,.pv s] (lk k) = .pv s:=by
  simp only [Eng.bN]
  rw [bF _ _ (Dc i (by omega)).symm,bE]
 have go:∀x,x≠i→x≠lk k→Eng.bN (fun _=>Gh.no) [i,lk k] [.cB k s,.pv s] x = .no:=fun x h1 h2=>by
  simp only [Eng.bN]
  rw [bF _ _ h1,bF _ _ h2]
 generalize Eng.bN (fun _=>Gh.no) [i,lk k] [.cB k s,.pv s]=γ at gi gk go
 generalize head (lk k :: List.range d.np) (.sl s es :: ins.set i .pt)=σ at sk ss
 have inv:∀x,γ x = .no∨(x=i∧γ x = .cB k s)∨(x=lk k∧γ x = .pv s):=fun x=>by
  by_cases h1:x=i
  ·subst h1;exact .inr (.inl ⟨rfl,gi⟩)
  ·by_cases h2:x=lk k
   ·subst h2;exact .inr (.inr ⟨rfl,gk⟩)
   ·exact .inl (go x h1 h2)
 have qR:∀(D:j0) key g,eI D γ key=some g→key=lk k∧(D.τ (lk k)).ownBlock=some g:=fun D key g hb=>by
  unfold eI at hb
  rcases inv key with e | ⟨_,e⟩ | ⟨e1,e⟩ <;> rw [e] at hb
  ·cases hb
  ·cases hb
  ·subst e1;exact ⟨rfl,hb⟩
 refine ⟨⟨R,fun _=>0,cF (fun _=>undef) (lk k) v⟩,{ size:=Ce,defers:=rfl,iB:=b2,oe:=?_,kL:=?_,slot:=?_,mem:=?_,cB:=?_,ps:=?_,sep:=?_,own:=?_,inv:=?_,ext:=Ext.refl _ _ _,jT:=hR,gl:=xm,fix:=?_ }⟩
 ·intro m hm
  rcases inv m with e | ⟨_,e⟩ | ⟨_,e⟩ <;> rw [e] at hm <;> cases hm
 ·intro m hm
  rcases inv m with e | ⟨_,e⟩ | ⟨e1,e⟩
  ·rw [e] at hm;cases hm
  ·rw [e] at hm;cases hm
  ·subst e1;exact fH _
 ·intro t ht
  dsimp only at ht ⊢
  rw [ss t (Dc t (by omega)),tX ht]
  refine .inr ⟨wL a5 t,fun _=>?_⟩
  rcases inv t with e | ⟨e1,e⟩ | ⟨e1,e⟩
  ·rw [e];trivial
  ·rw [e]
   subst e1
   have hv:xs.getD t undef=v:=by simp [List.getD,a1]
   rw [hv]
   refine ⟨by simp only [bE],by rcases a3 with rfl | ⟨_,_,_,_,_,_,rfl,_⟩ <;> rfl⟩
  ·exact (Dc t (by omega) e1).elim
 ·intro m ts hm
  rcases inv m with e | ⟨_,e⟩ | ⟨_,e⟩ <;> rw [e] at hm <;> cases hm
 ·intro m ts hm
  rcases inv m with e | ⟨_,e⟩ | ⟨_,e⟩ <;> rw [e] at hm <;> cases hm
 ·intro key s' hs
  rcases inv key with e | ⟨_,e⟩ | ⟨e1,e⟩
  ·rw [e] at hs;cases hs
  ·rw [e] at hs;cases hs
  ·rw [e] at hs
   cases hs
   subst e1
   rw [sk]
   simp only [bE]
   exact ⟨a3,a4,fun d s1 s2 f1 _=>by rw [gk] at f1;cases f1⟩
 ·intro p q g hp hq
  exact .inl ((qR _ p g hp).1.trans (qR _ q g hq).1.symm)
 ·intro p g hp
  have:=(qR _ p g hp).2
  simp only [bE] at this
  exact .inl this
 ·intro key
  rcases inv key with e | ⟨_,e⟩ | ⟨_,e⟩
  ·rw [e];trivial
  ·rw [e]
   show (γ (lk k)).ej=true
   rw [gk];rfl
  ·rw [e];trivial
 ·refine ⟨fun b hb=>(by cases hb),fun v' te=>?_⟩
  obtain ⟨rfl,XD⟩:=PG _ te
  subst XD
  refine ⟨by rw [gk];rfl,?_⟩
  simp only [bE]
end
end Go.Eng
namespace Go.Eng
open Go.RowKit
theorem sC {X:Type}:∀{l:List (Option X)} {r:List X},Bu l=some r→l=r.map some
 | [],_,h=>by simp only [Bu,aB] at h;subst h;rfl
 | none :: _,_,h=>by simp [Bu] at h
 | some x :: l,r,h=>by
  simp only [Bu,aV] at h
  obtain ⟨r',h1,rfl⟩:=h
  rw [sC h1];rfl
theorem qZ {us:List (Nat × (Nat × Nat))} {q:Nat × Nat} {k:Nat} (h:rb us q=some k):∃u∈us,u.1=q.1∧u.2.1=k:=by
 simp only [rb,aV] at h
 obtain ⟨u,h1,h2⟩:=h
 have:=List.find?_some h1
 simp only [aa,beq_iff_eq] at this
 exact ⟨u,List.mem_of_find?_eq_some h1,this.1,h2⟩
def Ez (tmps:Array Value):ResultVar→Sem Value
 | .tmp t=>pure (tmps.getD t undef)
 | .cell a t=>do loadVar t (←asAddr (tmps.getD a undef))
theorem sJ {P:Program} {w:World} {fn:Func} {tmps:Array Value} {vs:List Value} (h:(fn.results.toList.mapM (Ez tmps)).run P w = .ok vs w) :
  (results fn tmps).run P w = .ok (if vs.length=1 then vs.headD undef else .tuple ⟨vs⟩) w:=by
 have e:results fn tmps=(do
   let vs ←fn.results.mapM (Ez tmps)
   pure (if h:vs.size=1 then vs[0] else .tuple vs)):=by
  unfold results
  congr 2
 rw [e,Array.mapM_eq_mapM_toList]
 simp only [Sem.run_bind,Sem.run_map,h,Result.andThen_ok,Sem.run_pure]
 match vs with
 | []=>simp
 | [x]=>simp
 | _ :: _ :: _=>simp
section
variable {C:Ctx} {D:j0} {σ:Sg} {a:Act} {w:World} {G:GL}
def Bw (D:j0) (G:GL) (σ:Sg) (a:Act) (r:RV) (x:AV) (v:Value):Prop :=
 match r with
 | .t j=>x=σ j∧v=a.tmps.getD j undef
 | .c _ m n agg=>n=1→agg=false→∀us,G.get m = .cl us→∀u∈us,u.1=0→v=D.τ (lk u.2.1)
theorem HU (h:cL C D σ G.get a w) {rv:ResultVar} {r:RV} {x:AV} (hr:ly C.P C.nt rv r=true) (hg:r.Qr G=true) (hx:r.get σ=some x) :
  ∃v,(Ez a.tmps rv).run C.P w = .ok v w∧Rep D.R w x v∧Bw D G σ a r x v:=by
 cases rv with
 | tmp t =>
  cases r with
  | c=>simp [ly] at hr
  | t j =>
   simp only [ly,aa,beq_iff_eq,ay] at hr
   obtain ⟨rfl,ht⟩:=hr
   simp only [RV.get,aB] at hx
   subst hx
   refine ⟨_,rfl,?_,rfl,rfl⟩
   rcases h.slot t ht with e | ⟨e,_⟩
   ·rw [e];exact .dead _
   ·exact e
 | cell ad ty =>
  cases r with
  | t j=>simp [ly] at hr
  | c Zp m n agg =>
   simp only [ly,aa,beq_iff_eq,ay] at hr
   obtain ⟨⟨rfl,ht⟩,hs⟩:=hr
   simp only [RV.Qr,aa,beq_iff_eq] at hg
   obtain ⟨g1,g2⟩:=hg
   simp only [RV.get] at hx
   split at hx
   ·rename_i cs e1 e2
    have hv:=h.slot ad ht
    rw [e1,g1] at hv
    have hv:a.tmps.getD ad undef = .pointer (some ⟨D.β m,0,none⟩):=by
     rcases hv with e | ⟨_,e⟩
     ·cases e
     ·exact e (by simp)
    cases hm:G.get m with
    | cl us =>
     obtain ⟨ws,tj,LP⟩:=h.mem m us hm
     rw [e2] at tj
     obtain ⟨elem,hh,hL⟩:=tj.ag
     have O0:∀(j:Nat) (y:Value),(ws.take cs.length)[j]?=some y→ws[j]?=some y:=fun j y hj=>by
      rw [aM] at hj;split at hj
      ·exact hj
      ·cases hj
     have nM:agg=false→∀t∈us,t.1=0→(ws.take cs.length)[t.1]?=some (D.τ (lk t.2.1)):=fun ha t ht he=>by
      have eO:0<cs.length:=by
       subst ha
       simp only [fJ,aY,if_false] at hx
       exact (aE.1 hx).1
      rw [aM,aH (by omega)]
      exact LP t ht
     generalize V4:ws.take cs.length=vs at hL nM O0
     simp only [jg,aa,beq_iff_eq,Bool.or_eq_true] at hs
     obtain ⟨⟨s1,s2⟩,s3⟩:=hs
     have h1:agg=true∨n=1:=s3
     simp only [gU,aV] at s1
     obtain ⟨inf,hi,hz⟩:=s1
     obtain ⟨hlen,ic⟩:=mN hL hx h1
     have hc:∀j y,((vs.drop 0).take n)[j]?=some y→w.cell? ⟨D.β m,0+j,none⟩=some y:=by
      intro j y hj
      rw [aM] at hj
      split at hj
      ·rw [List.getElem?_drop] at hj
       have:=O0 _ _ hj
       simp only [World.cell?,hh]
       simpa using this
      ·cases hj
     refine ⟨_,?_,ic,?_⟩
     ·simp only [Ez,hv,asAddr,Sem.run_bind,Sem.run_pure,Result.andThen_ok]
      exact kD hi s2 (hz ▸ h1) (hlen.trans hz.symm) hc
     ·intro n1 a1 us' FI u hu h0
      subst n1;subst a1
      rw [hm] at FI
      cases FI
      have:=nM rfl u hu h0
      rw [h0] at this
      simp only [aY,if_false,aS]
      cases vs with
      | nil=>simp at this
      | cons y ys=>simpa using this
    | _=>rw [hm] at g2;simp [Gh.eQ] at g2
   ·cases hx
theorem wR (h:cL C D σ G.get a w):∀{rvs:List ResultVar} {res:List RV} {xs:List AV},kj (ly C.P C.nt) rvs res=true→res.all (RV.Qr G)=true→AL σ res=some xs →
  ∃vs,(rvs.mapM (Ez a.tmps)).run C.P w = .ok vs w∧eY D.R w xs vs∧vs.length=res.length∧∀(i:Nat) (r:RV),res[i]?=some r→∃x v,xs[i]?=some x∧vs[i]?=some v∧Bw D G σ a r x v
 | [],[],xs,_,_,h3=>by
  simp only [AL,aB] at h3
  subst h3
  exact ⟨[],by simp [List.mapM_nil],.nil,rfl,fun i r e=>by simp at e⟩
 | rv :: rvs,r :: res,xs,h1,h2,h3=>by
  simp only [kj,aa] at h1
  simp only [List.all_cons,aa] at h2
  simp only [AL,bf,aV] at h3
  obtain ⟨x,hx,QZ,vd,rfl⟩:=h3
  obtain ⟨v,v1,v2,v3⟩:=HU h h1.1 h2.1 hx
  obtain ⟨vs,q1,q2,q3,q4⟩:=wR h h1.2 h2.2 vd
  refine ⟨v :: vs,?_,.cons v2 q2,by simp [q3],?_⟩
  ·simp only [List.mapM_cons,Sem.run_bind,v1,q1,Result.andThen_ok,Sem.run_pure]
  ·intro i r' e
   cases i with
   | zero =>
    simp only [List.getElem?_cons_zero,aB] at e
    subst e
    exact ⟨x,v,rfl,rfl,v3⟩
   | succ i =>
    simp only [List.getElem?_cons_succ] at e ⊢
    exact q4 i r' e
 | [],_ :: _,_,h1,_,_=>by simp [kj] at h1
 | _ :: _,[],_,h1,_,_=>by simp [kj] at h1
theorem Im (h:cL C D σ G.get a w) {rv:ResultVar} {r:RV} {s k s':Nat} {es:List AV} {v:Value} (hr:ly C.P C.nt rv r=true) (hk:r.key G s=some k) (hv:Bw D G σ a r (.sl s' es) v):v=D.τ (lk k):=by
 cases r with
 | t j =>
  cases rv with
  | cell=>simp [ly] at hr
  | tmp t =>
  simp only [ly,aa,beq_iff_eq,ay] at hr
  obtain ⟨rfl,ht⟩:=hr
  obtain ⟨e1,e2⟩:=hv
  simp only [RV.key] at hk
  split at hk
  ·rename_i k' lY hg
   split at hk
   ·cases hk
    have:=h.slot t ht
    rw [←e1,hg] at this
    rcases this with e | ⟨_,e⟩
    ·cases e
    ·rw [e2];exact (e (by simp)).1
   ·cases hk
  ·cases hk
 | c ad m n agg =>
  simp only [RV.key] at hk
  split at hk
  ·rename_i hc
   split at hk
   ·rename_i us FI
    obtain ⟨u,hu,u1,u2⟩:=qZ hk
    rw [←u2]
    exact hv hc.1 hc.2 us FI u hu u1
   ·cases hk
  ·cases hk
theorem qn (h:cL C D σ G.get a w) {q:Option (Nat × Nat)} {ts:List (Nat × Nat)} {ks:List Nat} (hk:tq G q ts=some ks) {cs:List Value} {i m:Nat} (hq:q=some (i,m)) (xn:∀us,G.get m = .cl us→∀t∈us,cs[t.1]?=some (D.τ (lk t.2.1))) :
  ∀(p:Nat) (t:Nat × Nat) (v:Value),ts[p]?=some t→(ks.map fun k=>D.τ (lk k))[p]?=some v→cs[t.1]?=some v:=by
 subst hq
 intro p t v hp hv
 simp only [tq] at hk
 split at hk
 ·rename_i us FI
  have e:=sC hk
  rw [aI,aV] at hv
  obtain ⟨k,Pv,rfl⟩:=hv
  have e1:(ts.map (rb us))[p]?=(ks.map some)[p]?:=by rw [e]
  rw [aI,aI,hp,Pv] at e1
  simp only [Option.map_some,aB] at e1
  obtain ⟨u,hu,u1,u2⟩:=qZ e1
  have:=xn us FI u hu
  rw [u1,u2] at this
  exact this
 ·cases hk
theorem mS (h:cL C D σ G.get a w) {ks:List Nat} {ts:List (Nat × Nat)} (hl:jK G ks ts=true):ks.length=ts.length∧(∀(p k:Nat),ks[p]?=some k→∃t,ts[p]?=some t∧G.get (lk k) = .live t.2):=by
 refine ⟨pg hl,fun p k hk=>?_⟩
 obtain ⟨t,h1,h2⟩:=ph hl hk
 exact ⟨t,h1,by simpa using h2⟩
theorem uH:∀{A B:List Nat} {X Y:List (Nat × Nat)},jK G A X=true→jK G B Y=true→jK G (A++B) (X++Y)=true
 | [],_,[],_,_,h2=>h2
 | [],_,_ :: _,_,h1,_=>by simp [jK,kj] at h1
 | _ :: _,_,[],_,h1,_=>by simp [jK,kj] at h1
 | a :: A,B,x :: X,Y,h1,h2=>by
  simp only [jK,kj,aa,List.cons_append] at h1 ⊢
  exact ⟨h1.1,uH h1.2 h2⟩
theorem Gm {d:FD} {fn:Func} {outs:List AV} {xs:List Value} (iZ:d.eu=[]) (h:cL C D σ G.get a w) (hb:d.mB C.nt=true) (Pe:d.rt G=true) (uM:kj (ly C.P C.nt) fn.results.toList d.res=true) (ho:d.Ad σ outs)
  (Df:∀i,d.sg.ref=some i→∃b,xs[i]?=some (.pointer (some ⟨b,0,none⟩))∧C.fix=some b) :
  ∃x,(results fn a.tmps).run C.P w = .ok x w∧wx d.sg D.R w C.kY xs outs x:=by
 obtain ⟨rs,o1,o2,o3,ho⟩:=ho
 rw [iZ,ao,aU] at ho
 subst ho
 simp only [FD.rt,aa] at Pe
 obtain ⟨⟨⟨⟨r1,r2⟩,r3⟩,r4⟩,_⟩:=Pe
 split at r4
 ·rename_i Kr Ko Kn k1 k2 k3
  simp only [aa,ay] at r4
  obtain ⟨⟨⟨n1,l1⟩,l2⟩,l3⟩:=r4
  obtain ⟨vs,q1,q2,q3,q4⟩:=wR h uM r1 o1
  simp only [FD.mB,aa,ay] at hb
  obtain ⟨⟨⟨b1,b2,b3,b4,b5,b6⟩,b7⟩,_⟩:=hb
  obtain ⟨VH,YK⟩:=mS h l1
  obtain ⟨VI,YL⟩:=mS h l2
  obtain ⟨VJ,YM⟩:=mS h l3
  have C5:rs.length=d.res.length:=by rw [←q3,q2.length]
  have za:d.sg.bO=d.res.length:=rfl
  have gQ:d.sg.ref=d.ref.map (·.1):=rfl
  have gR:d.sg.new=d.new.map (·.1):=rfl
  -- the variables
  have ja:∀m,(G.get m).eQ=true→∃us cs,G.get m = .cl us∧iP D.R w (σ m) (D.β m) cs∧∀t∈us,cs[t.1]?=some (D.τ (lk t.2.1)):=by
   intro m hm
   cases hg:G.get m with
   | cl us=>obtain ⟨cs,e1,e2⟩:=h.mem m us hg;exact ⟨us,cs,rfl,e1,e2⟩
   | _=>rw [hg] at hm;cases hm
  have zb:∃cr,∀i m,d.ref=some (i,m)→m=999999∧iP D.R w (σ m) (D.β m) cr∧∀us,G.get m = .cl us→∀t∈us,cr[t.1]?=some (D.τ (lk t.2.1)):=by
   cases hr:d.ref with
   | none=>exact ⟨[],fun i m e=>by cases e⟩
   | some im =>
    obtain ⟨i,m⟩:=im
    simp only [hr] at r2
    obtain ⟨us,cs,e1,e2,e3⟩:=ja m r2
    simp only [hr,ay] at b7
    exact ⟨cs,fun i' m' e=>by cases e;exact ⟨b7.2.2,e2,fun us' hu=>by rw [e1] at hu;cases hu;exact e3⟩⟩
  have uN:∃cn,∀j m,d.new=some (j,m)→(G.get m).eQ=true∧vs[j]?=some (.pointer (some ⟨D.β m,0,none⟩))∧iP D.R w (σ m) (D.β m) cn∧∀us,G.get m = .cl us→∀t∈us,cn[t.1]?=some (D.τ (lk t.2.1)):=by
   cases hn:d.new with
   | none=>exact ⟨[],fun i m e=>by cases e⟩
   | some jm =>
    obtain ⟨j,m⟩:=jm
    simp only [hn,aa] at r3
    obtain ⟨us,cs,e1,e2,e3⟩:=ja m r3.1
    refine ⟨cs,fun j' m' e=>?_⟩
    cases e
    refine ⟨r3.1,?_,e2,fun us' hu=>by rw [e1] at hu;cases hu;exact e3⟩
    have r5:=r3.2
    split at r5
    ·rename_i t ht
     obtain ⟨x,v,p1,p2,p3,p4⟩:=q4 j _ ht
     rw [o3 (j,m) hn] at p1
     cases p1
     obtain ⟨rv,p5,p6⟩:∃rv,fn.results.toList[j]?=some rv∧ly C.P C.nt rv (.t t)=true:=by
      have eO:=(aE.1 ht).1
      have hl:=pg uM
      have e0:fn.results.toList[j]?=some fn.results.toList[j]:=aA (by omega)
      obtain ⟨y,y1,y2⟩:=ph uM e0
      rw [ht] at y1
      cases y1
      exact ⟨_,e0,y2⟩
     have sW:t<C.nt:=by
      cases rv with
      | cell=>simp [ly] at p6
      | tmp t' =>
       simp only [ly,aa,beq_iff_eq,ay] at p6
       obtain ⟨rfl,p6⟩:=p6
       exact p6
     have:=h.slot t sW
     rw [←p3] at this
     have Vx:G.get t = .ptr m 0:=by simpa using r5
     rw [Vx] at this
     rcases this with e | ⟨_,e⟩
     ·cases e
     ·rw [p2,p4];exact congrArg some (e (by simp))
    ·cases r5
  obtain ⟨cr,zb⟩:=zb
  obtain ⟨cn,uN⟩:=uN
  have FY:jK G (Kr++Ko++Kn) (iN d.fR++d.own++d.fD)=true:=uH (uH l1 l2) l3
  have Pp:∀k∈Kr++Ko++Kn,∃s,G.get (lk k) = .live s:=by
   intro k hk
   obtain ⟨p,hp⟩:=bg hk
   obtain ⟨t,_,h2⟩:=(mS h FY).2 p k hp
   exact ⟨_,h2⟩
  have oz:j9 d.sg (D.β ((d.new.map (·.2)).getD 0)) (D.β 999999) (Kr.map (fun k=>D.τ (lk k))++Ko.map (fun k=>D.τ (lk k))++Kn.map (fun k=>D.τ (lk k))) =
    (d.new.toList.map (·.2)++d.ref.toList.map (·.2)++(Kr++Ko++Kn).map lk).map (eI D G.get):=by
   have e1:(if d.sg.new.isSome then [some (D.β ((d.new.map (·.2)).getD 0))] else [])=(d.new.toList.map (·.2)).map (eI D G.get):=by
    rw [gR]
    cases hn:d.new with
    | none=>rfl
    | some jm =>
     obtain ⟨us,cs,e,_⟩:=ja _ (uN jm.1 jm.2 hn).1
     simp [gP e]
   have e2:(if d.sg.ref.isSome then [some (D.β 999999)] else [])=(d.ref.toList.map (·.2)).map (eI D G.get):=by
    rw [gQ]
    cases hr:d.ref with
    | none=>rfl
    | some im =>
     obtain ⟨p0,_⟩:=zb im.1 im.2 hr
     simp only [hr] at r2
     obtain ⟨us,cs,e,_⟩:=ja _ r2
     simp only [Option.map_some,Option.isSome_some,if_true,Option.toList_some,ah,ao,gP e]
     rw [p0]
   have e3:(Kr.map (fun k=>D.τ (lk k))++Ko.map (fun k=>D.τ (lk k))++Kn.map (fun k=>D.τ (lk k))).map Value.ownBlock=((Kr++Ko++Kn).map lk).map (eI D G.get):=by
    rw [←List.map_append,←List.map_append,aW,aW]
    apply List.map_congr_left
    intro k hk
    obtain ⟨s,hs⟩:=Pp k hk
    exact (gA hs).symm
   unfold j9
   rw [e1,e2,e3,←List.map_append,←List.map_append]
  have SW:∀x∈d.new.toList.map (·.2)++d.ref.toList.map (·.2),(G.get x).eQ=true:=by
   intro x hx
   rcases List.mem_append.1 hx with hx | hx
   ·cases hn:d.new with
    | none=>rw [hn] at hx;simp at hx
    | some jm =>
     rw [hn] at hx
     simp only [Option.toList_some,ah,ao,List.mem_singleton] at hx
     rw [hx]
     exact (uN jm.1 jm.2 hn).1
   ·cases hr:d.ref with
    | none=>rw [hr] at hx;simp at hx
    | some im =>
     rw [hr] at hx
     simp only [Option.toList_some,ah,ao,List.mem_singleton] at hx
     simp only [hr] at r2
     rw [hx]
     exact r2
  have Wk:∀x∈d.new.toList.map (·.2)++d.ref.toList.map (·.2)++(Kr++Ko++Kn).map lk,(G.get x).td=false:=by
   intro x hx
   rcases List.mem_append.1 hx with hx | hx
   ·have:=SW x hx
    cases hg:G.get x <;> rw [hg] at this <;> first | rfl | cases this
   ·obtain ⟨k,hk,rfl⟩:=aO.1 hx
    obtain ⟨p,hp⟩:=bg hk
    obtain ⟨t,_,h2⟩:=(mS h FY).2 p k hp
    rw [h2];rfl
  have Pw:(d.new.toList.map (·.2)++d.ref.toList.map (·.2)++(Kr++Ko++Kn).map lk).Nodup:=by
   rw [List.nodup_append]
   refine ⟨?_,List.Pairwise.map _ (fun a b h e=>h (fO e)) n1,?_⟩
   ·rcases b6 with e | e
    ·rw [e];cases d.new <;> simp
    ·rw [e];cases d.ref <;> simp
   ·intro x hx y hy e
    obtain ⟨k,_,rfl⟩:=aO.1 hy
    have h1:=fH k
    have R5:(G.get x).eQ=true:=by
     rcases List.mem_append.1 hx with hx | hx
     ·cases hn:d.new with
      | none=>rw [hn] at hx;simp at hx
      | some jm =>
       rw [hn] at hx
       simp only [Option.toList_some,ah,ao,List.mem_singleton] at hx
       rw [hx]
       exact (uN jm.1 jm.2 hn).1
     ·cases hr:d.ref with
      | none=>rw [hr] at hx;simp at hx
      | some im =>
       rw [hr] at hx
       simp only [Option.toList_some,ah,ao,List.mem_singleton] at hx
       simp only [hr] at r2
       rw [hx]
       exact r2
    have:=(h.oe x R5).2
    omega
  refine ⟨_,sJ q1,vs,Kr.map (fun k=>D.τ (lk k)),Ko.map (fun k=>D.τ (lk k)),Kn.map (fun k=>D.τ (lk k)),D.β ((d.new.map (·.2)).getD 0),D.β 999999,cn,cr,?_,?_,?_,?_,?_,?_,?_,?_,?_,?_,?_,?_,?_,?_,?_⟩
  ·rw [q3,za]
  ·rw [za,q3]
  ·simp only [aq,aG,za,gQ,gR,C5]
   cases d.ref <;> cases d.new <;> simp
  ·have e:(((rs++d.new.toList.map (fun q=>σ q.2)++d.ref.toList.map (fun q=>σ q.2)).take d.sg.bO).mapIdx fun i y=>if d.sg.new=some i then AV.pt else y)=rs:=by
    rw [aQ,List.take_left' (by rw [C5,za])]
    apply List.ext_getElem?
    intro i
    rw [List.getElem?_mapIdx]
    cases hi:rs[i]? with
    | none=>rfl
    | some y =>
     simp only [Option.map_some,aB]
     split
     ·rename_i e
      rw [gR,aV] at e
      obtain ⟨q,hq,e⟩:=e
      have:=o3 q hq
      rw [e,hi] at this
      cases this;rfl
     ·rfl
   rw [e]
   exact q2
  ·intro j hj
   rw [gR,aV] at hj
   obtain ⟨⟨j',m⟩,hn,e⟩:=hj
   simp only at e
   subst e
   obtain ⟨_,p1,p2,_⟩:=uN _ _ hn
   simp only [hn,Option.map_some,Option.getD_some]
   refine ⟨p1,?_⟩
   have:(rs++(some (j',m)).toList.map (fun q=>σ q.2)++d.ref.toList.map (fun q=>σ q.2)).getD d.sg.bO .dead=σ m:=by
    rw [aQ,ak,aJ (by rw [C5,za];exact Nat.le_refl _)]
    simp [C5,za]
   rw [this]
   exact p2
  ·intro i hi
   obtain ⟨b,x1,x2⟩:=Df i hi
   rw [gQ,aV] at hi
   obtain ⟨⟨i',m⟩,hr,e⟩:=hi
   simp only at e
   subst e
   obtain ⟨p0,p1,_⟩:=zb _ _ hr
   subst p0
   refine ⟨by rw [x1,h.fix.1 b x2],?_⟩
   have hn:d.new=none:=by
    rcases b6 with e | e
    ·rw [hr] at e;cases e
    ·exact e
   have:(rs++d.new.toList.map (fun q=>σ q.2)++d.ref.toList.map (fun q=>σ q.2)).getD (d.sg.bO+if d.sg.new.isSome=true then 1 else 0) .dead=σ 999999:=by
    rw [hr,hn,gR,hn]
    simp only [Option.map_none,Option.toList_none,ao,aU,Option.toList_some,ah]
    rw [ak,aJ (by rw [C5,za];exact Nat.le_add_right _ _)]
    simp [C5,za]
   rw [this]
   exact p1
  ·rw [aG,VH];rfl
  ·rw [aG,VI];rfl
  ·rw [aG,VJ];rfl
  ·intro p t v hp hv
   cases hr:d.ref with
   | none =>
    have:=b4 hr
    simp [FD.sg,iN,this] at hp
   | some im =>
    exact qn h k1 hr (zb _ _ hr).2.2 p t v hp hv
  ·intro p t v hp hv
   rw [aI,aV] at hv
   obtain ⟨k,Pv,rfl⟩:=hv
   have e:=sC k2
   have e1:(d.own.map fun q=>(d.res[q.1]?).bind (RV.key G q.2))[p]?=(Ko.map some)[p]?:=by rw [e]
   have jB:d.own[p]?=some t:=hp
   rw [aI,aI,jB,Pv] at e1
   simp only [Option.map_some,aB,bf] at e1
   obtain ⟨r,hr,hk⟩:=e1
   obtain ⟨x,v,p1,p2,p3⟩:=q4 _ _ hr
   obtain ⟨s,es,hs⟩:=o2 t (aT jB)
   rw [hs] at p1
   cases p1
   have eO:=(aE.1 hr).1
   have hl:=pg uM
   have e0:fn.results.toList[t.1]?=some fn.results.toList[t.1]:=aA (by omega)
   obtain ⟨y,y1,y2⟩:=ph uM e0
   rw [hr] at y1
   cases y1
   rw [p2,Im h y2 hk p3]
  ·intro p t v hp hv
   cases hn:d.new with
   | none =>
    have:=b5 hn
    simp [FD.sg,this] at hp
   | some jm =>
    exact qn h k3 hn (uN _ _ hn).2.2.2 p t v hp hv
  ·intro p t v hp hv
   have te:((Kr++Ko++Kn).map fun k=>D.τ (lk k))[p]?=some v:=by simpa using hv
   rw [aI,aV] at te
   obtain ⟨k,Pv,rfl⟩:=te
   obtain ⟨t',h1,h2⟩:=(mS h FY).2 p k Pv
   have jB:(iN d.fR++d.own++d.fD)[p]?=some t:=hp
   rw [jB] at h1
   cases h1
   exact h.cB _ _ h2
  ·intro p q g hp hq
   rw [oz,aI,aV] at hp hq
   obtain ⟨x,x1,x2⟩:=hp
   obtain ⟨y,y1,y2⟩:=hq
   have:=h.rI (Wk x (aT x1)) x2 y2
   subst this
   obtain ⟨hx,ex⟩:=aE.1 x1
   obtain ⟨hy,ey⟩:=aE.1 y1
   rcases Nat.lt_trichotomy p q with eO | he | eO
   ·exact absurd (ex.trans ey.symm) (List.pairwise_iff_getElem.1 Pw p q hx hy eO)
   ·exact he
   ·exact absurd (ey.trans ex.symm) (List.pairwise_iff_getElem.1 Pw q p hy hx eO)
  ·intro g hg
   rw [oz,aO] at hg
   obtain ⟨x,_,x2⟩:=hg
   exact h.own x g x2
 ·cases r4
theorem IX {d:FD} {fn:Func} {outs:List AV} {i s:Nat} {es:List AV} (iZ:d.ps=some (i,999999,s)) (h:cL C D σ G.get a w) (hb:d.mB C.nt=true) (Pe:d.rt G=true) (uM:kj (ly C.P C.nt) fn.results.toList d.res=true) (ho:d.Ad σ (outs++[.sl s es])) :
  ∃rvs,(results fn a.tmps).run C.P w = .ok (if d.sg.bO=1 then rvs.headD undef else .tuple ⟨rvs⟩) w∧rvs.length=d.sg.bO∧eY D.R w outs rvs∧fg D.R w (D.τ (lk 999999)) s∧fL D.R w (D.τ (lk 999999)) s (.sl s es):=by
 have pU:d.eu=[(i,999999,s)]:=by simp [FD.eu,iZ]
 simp only [FD.mB,aa,ay,iZ] at hb
 obtain ⟨_,b8,b9,Tw,_⟩:=hb
 obtain ⟨rs,o1,o2,o3,ho⟩:=ho
 rw [pU,b9,Tw] at ho
 simp only [Option.toList_none,ao,aU,ah] at ho
 obtain ⟨rfl,hk⟩:=List.append_inj' ho rfl
 simp only [aj,and_true] at hk
 simp only [FD.rt,aa,pU] at Pe
 obtain ⟨⟨⟨⟨r1,r2⟩,r3⟩,r4⟩,r5⟩:=Pe
 obtain ⟨vs,q1,q2,q3,q4⟩:=wR h uM r1 o1
 have hz:(G.get (lk 999999)).CL=some s:=by
  split at r5
  ·rename_i e;rw [e];simp at r5;rw [r5];rfl
  ·rename_i e;rw [e];simp at r5;rw [r5];rfl
  ·cases r5
 obtain ⟨t1,t2,_⟩:=h.ps _ _ hz
 rw [←hk] at t2
 refine ⟨vs,?_,q3,q2,t1,t2⟩
 have:=sJ q1
 rw [show d.sg.bO=vs.length from q3.symm]
 exact this
end
theorem BF {P:Program} {E:Env} {sg:Nat→c7} (hE:∀f,dH P E.gl f (E.fs f)∧(E.fs f).sg=sg f) {f:Nat} {fn:Func} {d:FD} (hf:P.funcs[f]?=some fn) (hc:Bo P sg fn d=true)
  {S:FS} (hS:S.sg=d.sg) (hG:∀ins outs,S.G ins outs→ins.length=d.np∧d.runs E ins (outs++d.eu.map fun q=>ins.getD q.1 .dead)):dH P E.gl f S:=by
 simp only [Bo,aa] at hc
 obtain ⟨⟨hb,uM⟩,F4⟩:=hc
 cases uP:fn.body with
 | none=>simp [uP] at F4
 | some c =>
  simp only [uP] at F4
  cases hk:eJ P sg fn.ntmps d.rt c d.m d.G0 with
  | none=>simp [hk] at F4
  | some r =>
   obtain ⟨n,ex⟩:=r
   simp only [hk,aa,List.isEmpty_iff] at F4
   obtain ⟨rfl,hn⟩:=F4
   refine ⟨fun iZ=>?_,fun i s iZ=>?_⟩
   ·have xj:d.ps=none:=by
     rw [hS] at iZ
     cases h:d.ps with
     | none=>rfl
     | some q=>simp [FD.sg,h] at iZ
    intro w R ins outs xs hg hR xm ha
    obtain ⟨hlen,cK⟩:=hG ins outs hg
    have pU:d.eu=[]:=by simp [FD.eu,xj]
    rw [pU,ao,aU] at cK
    rw [hS] at ha ⊢
    obtain ⟨D,FJ⟩:=G5 (P:=P) (E:=E) xj hb hlen hR xm ha
    have vd:(⟨xs⟩:Array Value).size=xs.length:=rfl
    refine calls_of_wp hf uP ?_
    rw [vd]
    have Df:∀i,d.sg.ref=some i→∃b,xs[i]?=some (.pointer (some ⟨b,0,none⟩))∧uQ d xs=some b:=by
     intro i hi
     simp only [km,hi] at ha
     obtain ⟨b,cs,x,tv,a1,_⟩:=ha
     exact ⟨b,a1,by simp [uQ,hi,a1]⟩
    have uO:∀(G':GL) D' dz a' w',d.rt G'=true→d.Ad dz outs→cL ⟨P,E,fn.ntmps,w,R,ny d.sg w xs,uQ d xs,none⟩ D' dz G'.get a' w' →
      a'.defers=[]∧∃v,(results fn a'.tmps).run P w' = .ok v w'∧(fun e w'=>∃x R',e=Ending.returned x∧Ext w R (ny d.sg w xs) w' R'∧(∀b o,R' b o→b<w'.heap.size) ∧
       wx d.sg R' w' (fun b=>ny d.sg w xs b∨w.heap.size≤b) xs outs x) (.returned v) w':=by
     intro G' D' dz a' w' h1 h2 h3
     obtain ⟨x,e1,e2⟩:=Gm pU h3 hb h1 uM h2 Df
     exact ⟨h3.defers,x,e1,x,D'.R,rfl,h3.ext,h3.jT,e2⟩
    refine Bn (C:=⟨P,E,fn.ntmps,w,R,ny d.sg w xs,uQ d xs,none⟩) hE d.m hk FJ cK { nrm:=fun G' D' dz a' w' e hq h'=>?_,sf:=fun i G' D' dz a' w' hi=>(by cases hi),ret:=fun G' D' dz a' w' hr hq h'=>?_ }
    ·simp only at e
     subst e
     exact uO G' D' dz a' w' (by simpa using hn) hq h'
    ·exact uO G' D' dz a' w' hr hq h'
   ·obtain ⟨i',k,xj,A6⟩:∃i' k,d.ps=some (i',k,s)∧i=if k=999998 then 1000+i' else i':=by
     rw [hS] at iZ
     cases h:d.ps with
     | none=>simp [FD.sg,h] at iZ
     | some q=>simp [FD.sg,h] at iZ;obtain ⟨q1,k,q2⟩:=q;simp at iZ;exact ⟨q1,k,by rw [iZ.2],iZ.1.symm⟩
    have Ug:=hb
    simp only [FD.mB,aa,ay,xj] at Ug
    obtain ⟨_,b8,b9,Tw,XE,Tv⟩:=Ug
    refine ⟨fun eO=>?_,fun xV=>⟨fun SK=>?_,fun SK=>?_⟩⟩
    ·have SI:k=999999:=by
      rcases Tv with ⟨e,_⟩ | e
      ·exact e
      ·rw [aH e] at A6;omega
     subst SI
     rw [aD (by decide)] at A6
     subst A6
     intro w R ins outs xs v es hg hR xm a1 a2 a3 a4 a5
     obtain ⟨hlen,cK⟩:=hG ins outs hg
     have SL:ins.getD i .dead = .sl s es:=by simp [List.getD,a2]
     have pU:d.eu=[(i,999999,s)]:=by simp [FD.eu,xj]
     rw [pU,ah,ao,SL] at cK
     obtain ⟨D,FJ⟩:=wv (P:=P) (E:=E) xj hb hlen hR xm a1 a2 a3 a4 a5 (fp:=some v) (fun v' e=>by cases e;exact ⟨rfl,rfl⟩)
     have vd:(⟨xs⟩:Array Value).size=xs.length:=rfl
     refine calls_of_wp hf uP ?_
     rw [vd]
     have uO:∀(G':GL) D' dz a' w',d.rt G'=true→d.Ad dz (outs++[.sl s es])→cL ⟨P,E,fn.ntmps,w,R,fun c=>v.ownBlock=some c,none,some v⟩ D' dz G'.get a' w' →
       a'.defers=[]∧∃y,(results fn a'.tmps).run P w' = .ok y w'∧(fun e w'=>∃x R' rvs,e=Ending.returned x∧Ext w R (fun c=>v.ownBlock=some c) w' R'∧(∀b o,R' b o→b<w'.heap.size) ∧
        rvs.length=S.sg.bO∧x=(if S.sg.bO=1 then rvs.headD undef else .tuple ⟨rvs⟩)∧eY R' w' outs rvs∧fg R' w' v s∧fL R' w' v s (.sl s es)) (.returned y) w':=by
      intro G' D' dz a' w' h1 h2 h3
      obtain ⟨rvs,e1,e2,e3,e4,e5⟩:=IX xj h3 hb h1 uM h2
      have h4:=(h3.fix.2 v rfl).2
      rw [h4] at e4 e5
      rw [hS]
      exact ⟨h3.defers,_,e1,_,D'.R,rvs,rfl,h3.ext,h3.jT,e2,rfl,e3,e4,e5⟩
     refine Bn (C:=⟨P,E,fn.ntmps,w,R,fun c=>v.ownBlock=some c,none,some v⟩) hE d.m hk FJ cK { nrm:=fun G' D' dz a' w' e hq h'=>?_,sf:=fun i G' D' dz a' w' hi=>(by cases hi),ret:=fun G' D' dz a' w' hr hq h'=>?_ }
     ·simp only at e
      subst e
      exact uO G' D' dz a' w' (by simpa using hn) hq h'
     ·exact uO G' D' dz a' w' hr hq h'
    ·have SI:k=999998:=by
      rcases Tv with ⟨e,_⟩ | e
      ·rw [aD (by omega)] at A6;omega
      ·exact e
     subst SI
     rw [aH rfl] at A6
     have ei:i - 1000=i':=by omega
     rw [ei]
     intro w R ins outs xs v es hg hR xm a1 a2 a3 a4 a5
     obtain ⟨hlen,cK⟩:=hG ins outs hg
     have pU:d.eu=[]:=by simp [FD.eu,xj]
     rw [pU,ao,aU] at cK
     obtain ⟨D,FJ⟩:=wv (P:=P) (E:=E) xj hb hlen hR xm a1 a2 a3 a4 a5 (fp:=none) (fun v' e=>by cases e)
     have vd:(⟨xs⟩:Array Value).size=xs.length:=rfl
     refine calls_of_wp hf uP ?_
     rw [vd]
     have uO:∀(G':GL) D' dz a' w',d.rt G'=true→d.Ad dz outs→cL ⟨P,E,fn.ntmps,w,R,fun c=>v.ownBlock=some c,none,none⟩ D' dz G'.get a' w' →
       a'.defers=[]∧∃y,(results fn a'.tmps).run P w' = .ok y w'∧(fun e w'=>∃x R',e=Ending.returned x∧Ext w R (fun c=>v.ownBlock=some c) w' R'∧(∀b o,R' b o→b<w'.heap.size) ∧
        wx S.sg R' w' (fun b=>v.ownBlock=some b∨w.heap.size≤b) xs outs x) (.returned y) w':=by
      intro G' D' dz a' w' h1 h2 h3
      obtain ⟨x,e1,e2⟩:=Gm (xs:=xs) pU h3 hb h1 uM h2 (fun i hi=>by simp [FD.sg,b9] at hi)
      rw [hS]
      exact ⟨h3.defers,x,e1,x,D'.R,rfl,h3.ext,h3.jT,e2⟩
     refine Bn (C:=⟨P,E,fn.ntmps,w,R,fun c=>v.ownBlock=some c,none,none⟩) hE d.m hk FJ cK { nrm:=fun G' D' dz a' w' e hq h'=>?_,sf:=fun i G' D' dz a' w' hi=>(by cases hi),ret:=fun G' D' dz a' w' hr hq h'=>?_ }
     ·simp only at e
      subst e
      exact uO G' D' dz a' w' (by simpa using hn) hq h'
     ·exact uO G' D' dz a' w' hr hq h'
    ·exfalso
     split at A6 <;> omega
end Go.Eng
namespace Go.Eng
section
variable {E:Env} {Q:MX→Sg→Prop} {σ:Sg}
theorem ky {m:M} {Q':MX→Sg→Prop} (h:∀e σ,Q e σ→Q' e σ):∀{σ:Sg},pH E m Q σ→pH E m Q' σ:=by
 induction m generalizing Q Q' with
 | skip=>exact fun q=>h _ _ q
 | eZ ms=>exact fun ⟨dz,h1,h2⟩=>⟨dz,h1,h _ _ h2⟩
 | seq a b y6 tI=>exact fun q=>y6 (fun e dz q=>by cases e <;> first | exact q.elim fun Hl q=>⟨Hl,q.1,tI h q.2⟩ | exact h _ _ q) q
 | cond x G a b y6 tI=>exact fun q=>q.imp (fun ⟨t,h1,h2,h3⟩=>⟨t,h1,fun e=>y6 h (h2 e),fun e=>tI h (h3 e)⟩) fun ⟨h1,h2,h3⟩=>⟨h1,y6 h h2,tI h h3⟩
 | block id G b ih=>exact fun q=>ih (fun e dz q=>by
   cases e with
   | exit j =>
    simp only at q ⊢
    by_cases e:j=id
    ·rw [aH e] at q ⊢;exact h _ _ q
    ·rw [aD e] at q ⊢;exact h _ _ q
   | normal=>exact h _ _ q
   | ret=>exact h _ _ q) q
 | loop bL G b ih=>exact fun ⟨ι,jD,μ,i0,h1,h2⟩=>⟨ι,jD,μ,i0,h1,fun i=>ih (fun e dz q=>by cases e <;> first | exact q | exact h _ _ q) (h2 i)⟩
 | exit id=>exact fun q=>h _ _ q
 | ret=>exact fun q=>h _ _ q
 | sw k k' b ih=>exact fun q=>ih (fun e dz q=>by cases e <;> exact h _ _ q) q
 | Hq b ih=>exact fun q=>ih h q
 | Hp b ih=>exact fun q=>ih h q
 | Hr l bL G r b Qt tI=>exact fun ⟨ι,jD,μ,h1,h2⟩=>⟨ι,jD,μ,tI (fun e dz q=>by
   cases e with
   | exit j =>
    simp only at q ⊢
    by_cases e:j=gid l
    ·rw [aH e] at q ⊢;exact q
    ·rw [aD e] at q ⊢;exact h _ _ q
   | normal=>exact h _ _ q
   | ret=>exact h _ _ q) h1,fun i=>Qt (fun e dz q=>by
   cases e with
   | exit j =>
    simp only at q ⊢
    by_cases e:j=gid l
    ·rw [aH e] at q ⊢;exact q
    ·rw [aD e] at q ⊢;exact h _ _ q
   | normal=>exact h _ _ q
   | ret=>exact h _ _ q) (h2 i)⟩
end
end Go.Eng
namespace Go.Eng
abbrev bT:=List UInt8
inductive mW where
 | mk (name:bT) (kind:Int) (bits high low:UInt64) (text more:bT) (sub:Int) (bytes:bT) (kids:List mW)
 deriving Inhabited
structure pj where
 kind:Int
 bits:UInt64
 high:UInt64
 low:UInt64
 text:bT
 more:bT
 sub:Int
 bytes:bT
 kids:List mW
 deriving Inhabited
namespace mW
def name:mW→bT | .mk x _ _ _ _ _ _ _ _ _=>x
def kind:mW→Int | .mk _ x _ _ _ _ _ _ _ _=>x
def bits:mW→UInt64 | .mk _ _ x _ _ _ _ _ _ _=>x
def high:mW→UInt64 | .mk _ _ _ x _ _ _ _ _ _=>x
def low:mW→UInt64 | .mk _ _ _ _ x _ _ _ _ _=>x
def text:mW→bT | .mk _ _ _ _ _ x _ _ _ _=>x
def more:mW→bT | .mk _ _ _ _ _ _ x _ _ _=>x
def sub:mW→Int | .mk _ _ _ _ _ _ _ x _ _=>x
def bytes:mW→bT | .mk _ _ _ _ _ _ _ _ x _=>x
def kids:mW→List mW | .mk _ _ _ _ _ _ _ _ _ x=>x
def val (f:mW):pj:=⟨f.kind,f.bits,f.high,f.low,f.text,f.more,f.sub,f.bytes,f.kids⟩
def of (n:bT) (v:pj):mW := .mk n v.kind v.bits v.high v.low v.text v.more v.sub v.bytes v.kids
end mW
inductive Mem where
 | mk (name:bT) (kind:Int) (text:bT) (kids:List Mem)
 deriving Inhabited
structure QW where
 kind:Int
 text:bT
 kids:List Mem
 deriving Inhabited
namespace Mem
def name:Mem→bT | .mk x _ _ _=>x
def kind:Mem→Int | .mk _ x _ _=>x
def text:Mem→bT | .mk _ _ x _=>x
def kids:Mem→List Mem | .mk _ _ _ x=>x
def val (f:Mem):QW:=⟨f.kind,f.text,f.kids⟩
def of (n:bT) (v:QW):Mem := .mk n v.kind v.text v.kids
end Mem
inductive nL where
 | mk (kind:Int) (n:UInt64) (bytes text:bT) (kids:List nL)
 deriving Inhabited
namespace nL
def kind:nL→Int | .mk x _ _ _ _=>x
def n:nL→UInt64 | .mk _ x _ _ _=>x
def bytes:nL→bT | .mk _ _ x _ _=>x
def text:nL→bT | .mk _ _ _ x _=>x
def kids:nL→List nL | .mk _ _ _ _ x=>x
end nL
structure MM where
 kind:Int
 n:UInt64
 bytes:bT
 text:bT
 kids:List nL
 deriving Inhabited
namespace nL
def val (f:nL):MM:=⟨f.kind,f.n,f.bytes,f.text,f.kids⟩
def of (v:MM):nL := .mk v.kind v.n v.bytes v.text v.kids
theorem iM (f:nL):of (val f)=f:=by cases f;rfl
end nL
structure M5 where
 at_:Int
 end_:Int
 deriving Inhabited
structure Out where
 at_:Int
 bytes:bT
 N9:List (List Int)
 err:Int
 UC:Int
 path:List Int
 deriving Inhabited
structure UZ where
 b:bT
 at_:Int
 deriving Inhabited
structure UI where
 b:bT
 deriving Inhabited
structure U3 where
 err:Int
 at_:Int
 path:List Int
 deriving Inhabited
structure U1 where
 depth:Int
 size:Int
 out:Int
 deriving Inhabited
abbrev Cx:=Nat × Nat
structure Qd where
 c0:Cx
 c1:Cx
 c2:Cx
 c3:Cx
 deriving Inhabited
def Qd.set (x:Qd) (i:Nat) (y:Cx):Qd:=⟨cond (Nat.beq 0 i) y x.c0,cond (Nat.beq 1 i) y x.c1,cond (Nat.beq 2 i) y x.c2,cond (Nat.beq 3 i) y x.c3⟩
def Qd.get (x:Qd) (i:Nat):Cx:=List.getD [x.c0,x.c1,x.c2,x.c3] i (0,0)
inductive fT where
 | bs | is | ws | ss | Hs | fl | ml | il | sp | ou | us | qd
 deriving DecidableEq,Inhabited
abbrev fT.El:fT→Type
 | .bs=>UInt8
 | .is=>Int
 | .ws=>UInt16
 | .ss=>bT
 | .Hs=>List Int
 | .fl=>mW
 | .ml=>Mem
 | .il=>nL
 | .sp=>M5
 | .ou=>Out
 | .us=>UInt64
 | .qd=>Qd
def fT.size:fT→Nat
 | .fl=>10
 | .ml=>4
 | .il=>5
 | .sp=>2
 | .ou=>6
 | .qd=>4
 | _=>1
def fT.Gw:(t:fT)→t.El
 | .bs=>0
 | .is=>0
 | .ws=>0
 | .ss=>[]
 | .Hs=>[]
 | .fl => .mk [] 0 0 0 0 [] [] 0 [] []
 | .ml => .mk [] 0 [] []
 | .il => .mk 0 0 [] [] []
 | .sp=>⟨0,0⟩
 | .ou=>⟨0,[],[],0,0,[]⟩
 | .us=>0
 | .qd=>⟨(0,0),(0,0),(0,0),(0,0)⟩
inductive TV where
 | u8 (n:UInt8)
 | u16 (n:UInt16)
 | u32 (n:UInt32)
 | u64 (n:UInt64)
 | i (k:IntKind) (n:Int)
 | b (x:Bool)
 | s (l:bT)
 | sl (t:fT) (l:List t.El)
 | ag (l:List TV)
 | tu (l:List TV)
 | ro (x:TV)
 | gd (c:Bool) (x:TV)
 | c (x:Value)
 | pt
 | dead
 | el (p z q:Nat)
 | gv (zs:List Value)
 deriving Inhabited
def vW (n:Int):AV := .v (.int .i64 n)
def gL (l:bT):AV := .v (.string ⟨⟨l⟩⟩)
def js (n:UInt64):AV := .v (.int .u64 n.toNat)
def jR (l:bT):AV := .sl 1 (l.map eS)
def xi (l:List Int):AV := .sl 1 (l.map vW)
mutual
def qU:mW→AV
 | .mk n k b h l t m s y ks => .ag [gL n,vW k,js b,js h,js l,gL t,gL m,vW s,jR y,.sl 10 (xw ks)]
def xw:List mW→List AV
 | []=>[]
 | f :: r=>qU f :: xw r
end
mutual
def yQ:Mem→AV
 | .mk n k t ks => .ag [gL n,vW k,gL t,.sl 4 (wZ ks)]
def wZ:List Mem→List AV
 | []=>[]
 | f :: r=>yQ f :: wZ r
end
mutual
def ox:nL→AV
 | .mk k n b t ks => .ag [vW k,js n,jR b,gL t,.sl 5 (xe ks)]
def xe:List nL→List AV
 | []=>[]
 | f :: r=>ox f :: xe r
end
theorem nE:∀l:List mW,xw l=l.map qU
 | []=>rfl
 | f :: r=>by rw [xw,nE r];rfl
theorem qb:∀l:List Mem,wZ l=l.map yQ
 | []=>rfl
 | f :: r=>by rw [wZ,qb r];rfl
theorem lG:∀l:List nL,xe l=l.map ox
 | []=>rfl
 | f :: r=>by rw [xe,lG r];rfl
def fT.av:(t:fT)→t.El→AV
 | .bs,x=>eS x
 | .is,x=>vW x
 | .ws,x => .v (.int .u16 (UInt16.toNat x))
 | .ss,x=>gL x
 | .Hs,x=>xi x
 | .fl,x=>qU x
 | .ml,x=>yQ x
 | .il,x=>ox x
 | .sp,x => .ag [vW (M5.at_ x),vW (M5.end_ x)]
 | .us,x=>js x
 | .qd,x => .ag [.v (.complex .f64 (Qd.c0 x).1 (Qd.c0 x).2),.v (.complex .f64 (Qd.c1 x).1 (Qd.c1 x).2),.v (.complex .f64 (Qd.c2 x).1 (Qd.c2 x).2),.v (.complex .f64 (Qd.c3 x).1 (Qd.c3 x).2)]
 | .ou,x => .ag [vW (Out.at_ x),jR (Out.bytes x),.sl 1 ((Out.N9 x).map xi),vW (Out.err x),vW (Out.UC x),xi (Out.path x)]
mutual
def TV.av:TV→AV
 | .u8 n=>eS n
 | .u16 n => .v (.int .u16 n.toNat)
 | .u32 n => .v (.int .u32 n.toNat)
 | .u64 n=>js n
 | .i k n => .v (.int k n)
 | .b x => .v (.bool x)
 | .s l=>gL l
 | .sl t l => .sl t.size (l.map t.av)
 | .ag l => .ag (TV.Bs l)
 | .tu l => .tu (TV.Bs l)
 | .ro x => .ro x.av
 | .gd q x=>if q then x.av else .sk
 | .c x => .v x
 | .pt => .pt
 | .dead => .dead
 | .el p z q => .el p z q
 | .gv zs => .gv zs
def TV.Bs:List TV→List AV
 | []=>[]
 | x :: r=>x.av :: TV.Bs r
end
theorem TV.eP:∀l:List TV,TV.Bs l=l.map TV.av
 | []=>rfl
 | f :: r=>by rw [TV.Bs,TV.eP r];rfl
def pj.cells (v:pj):List TV:=[.i .i64 v.kind,.u64 v.bits,.u64 v.high,.u64 v.low,.s v.text,.s v.more,.i .i64 v.sub,.sl .bs v.bytes,.sl .fl v.kids]
def mW.cells (f:mW):List TV:=[.s f.name,.i .i64 f.kind,.u64 f.bits,.u64 f.high,.u64 f.low,.s f.text,.s f.more,.i .i64 f.sub,.sl .bs f.bytes,.sl .fl f.kids]
def QW.cells (v:QW):List TV:=[.i .i64 v.kind,.s v.text,.sl .ml v.kids]
def Mem.cells (f:Mem):List TV:=[.s f.name,.i .i64 f.kind,.s f.text,.sl .ml f.kids]
def nL.cells (f:nL):List TV:=[.i .i64 f.kind,.u64 f.n,.sl .bs f.bytes,.s f.text,.sl .il f.kids]
def MM.cells (f:MM):List TV:=[.i .i64 f.kind,.u64 f.n,.sl .bs f.bytes,.s f.text,.sl .il f.kids]
def M5.cells (f:M5):List TV:=[.i .i64 f.at_,.i .i64 f.end_]
def Out.cells (f:Out):List TV:=[.i .i64 f.at_,.sl .bs f.bytes,.sl .Hs f.N9,.i .i64 f.err,.i .i64 f.UC,.sl .is f.path]
def UZ.cells (f:UZ):List TV:=[.sl .bs f.b,.i .i64 f.at_]
def UI.cells (f:UI):List TV:=[.sl .bs f.b]
def U3.cells (f:U3):List TV:=[.i .i64 f.err,.i .i64 f.at_,.sl .is f.path]
def U1.cells (f:U1):List TV:=[.i .i64 f.depth,.i .i64 f.size,.i .i64 f.out]
def Qd.cells (x:Qd):List TV:=[.c (.complex .f64 x.c0.1 x.c0.2),.c (.complex .f64 x.c1.1 x.c1.2),.c (.complex .f64 x.c2.1 x.c2.2),.c (.complex .f64 x.c3.1 x.c3.2)]
def fT.tv:(t:fT)→t.El→TV
 | .bs,x => .u8 x
 | .is,x => .i .i64 x
 | .ws,x => .u16 x
 | .ss,x => .s x
 | .Hs,x => .sl .is x
 | .fl,x => .ag (mW.cells x)
 | .ml,x => .ag (Mem.cells x)
 | .il,x => .ag (nL.cells x)
 | .sp,x => .ag (M5.cells x)
 | .ou,x => .ag (Out.cells x)
 | .us,x => .u64 x
 | .qd,x => .ag (Qd.cells x)
theorem fT.DW (t:fT) (x:t.El):(t.tv x).av=t.av x:=by
 cases t with
 | fl=>cases x;simp [fT.tv,fT.av,TV.av,TV.Bs,mW.cells,mW.name,mW.kind,mW.bits,mW.high,mW.low,mW.text,mW.more,mW.sub,mW.bytes,mW.kids,qU,nE,gL,vW,js,jR,fT.size]
 | ml=>cases x;simp [fT.tv,fT.av,TV.av,TV.Bs,Mem.cells,Mem.name,Mem.kind,Mem.text,Mem.kids,yQ,qb,gL,vW,fT.size]
 | il=>cases x;simp [fT.tv,fT.av,TV.av,TV.Bs,nL.cells,nL.kind,nL.n,nL.bytes,nL.text,nL.kids,ox,lG,gL,vW,js,jR,fT.size]
 | Hs=>rfl
 | sp=>rfl
 | ou=>rfl
 | _=>rfl
def fT.el:(t:fT)→TV→Option t.El
 | .bs,.u8 x=>some x
 | .is,.i .i64 x=>some x
 | .ws,.u16 x=>some x
 | .ss,.s x=>some x
 | .Hs,.sl .is x=>some x
 | .fl,.ag [.s n,.i .i64 k,.u64 b,.u64 h,.u64 l,.s t,.s m,.i .i64 s,.sl .bs y,.sl .fl ks]=>some (.mk n k b h l t m s y ks)
 | .ml,.ag [.s n,.i .i64 k,.s t,.sl .ml ks]=>some (.mk n k t ks)
 | .il,.ag [.i .i64 k,.u64 n,.sl .bs b,.s t,.sl .il ks]=>some (.mk k n b t ks)
 | .sp,.ag [.i .i64 a,.i .i64 e]=>some ⟨a,e⟩
 | .us,.u64 x=>some x
 | .qd,.ag [.c (.complex .f64 a b),.c (.complex .f64 c d),.c (.complex .f64 e f),.c (.complex .f64 g h)]=>some ⟨(a,b),(c,d),(e,f),(g,h)⟩
 | .ou,.ag [.i .i64 a,.sl .bs b,.sl .Hs l,.i .i64 e,.i .i64 f,.sl .is p]=>some ⟨a,b,l,e,f,p⟩
 | _,_=>none
theorem fT.Gp {t:fT} {x:TV} {y:t.El} (h:t.el x=some y):t.av y=x.av:=by
 unfold fT.el at h
 split at h <;> cases h <;> first | rfl | (simp [fT.av,TV.av,TV.Bs,qU,yQ,ox,nE,qb,lG,fT.size,vW,jR,gL,xi,js])
end Go.Eng
namespace Go.Eng
inductive jV where
 | ok (ws:List TV)
 | eM (p:Bool) (ws:List TV)
 | err
def ck {R:Type} (p:Bool) (x:Option R):Option R:=cond p x none
theorem da {R:Type} (x:Option R):ck true x=x:=rfl
theorem I2 {R:Type} {p:Bool} {x:Option R} {r:R}:ck p x=some r ↔ p=true∧x=some r:=by cases p <;> simp [ck]
def FE (k:IntKind) (n:Int):TV :=
 match k with
 | .u8 => .u8 (UInt8.ofInt n)
 | .u16 => .u16 (UInt16.ofInt n)
 | .u32 => .u32 (UInt32.ofInt n)
 | .u64 => .u64 (UInt64.ofInt n)
 | k => .i k (k.wrap n)
def TV.int?:TV→Option (IntKind × Int)
 | .u8 n=>some (.u8,n.toNat)
 | .u16 n=>some (.u16,n.toNat)
 | .u32 n=>some (.u32,n.toNat)
 | .u64 n=>some (.u64,n.toNat)
 | .i k n=>some (k,n)
 | _=>none
theorem TV.gK {x:TV} {k:IntKind} {n:Int} (h:x.int?=some (k,n)):x.av = .v (.int k n):=by
 cases x <;> simp [TV.int?] at h <;> obtain ⟨rfl,rfl⟩:=h <;> rfl
theorem nF (n:Int) (m:Nat) (h:0<m):(((n % (m:Int)).toNat % m:Nat):Int)=n % m:=by
 have h1:0≤n % (m:Int):=Int.emod_nonneg _ (by omega)
 have h2:n % (m:Int)<m:=Int.emod_lt_of_pos _ (by omega)
 rw [Nat.mod_eq_of_lt (by omega)];omega
theorem tU (n:Int):((UInt8.ofInt n).toNat:Int)=IntKind.u8.wrap n:=by
 have:IntKind.u8.wrap n=n % (256:Nat):=by simp [IntKind.wrap,IntKind.bits,IntKind.signed]
 rw [this,UInt8.ofInt,UInt8.toNat_ofNat'];exact nF n 256 (by decide)
theorem rE (n:Int):((UInt16.ofInt n).toNat:Int)=IntKind.u16.wrap n:=by
 have:IntKind.u16.wrap n=n % (65536:Nat):=by simp [IntKind.wrap,IntKind.bits,IntKind.signed]
 rw [this,UInt16.ofInt,UInt16.toNat_ofNat'];exact nF n 65536 (by decide)
theorem vC (n:Int):((UInt32.ofInt n).toNat:Int)=IntKind.u32.wrap n:=by
 have:IntKind.u32.wrap n=n % (4294967296:Nat):=by simp [IntKind.wrap,IntKind.bits,IntKind.signed]
 rw [this,UInt32.ofInt,UInt32.toNat_ofNat'];exact nF n 4294967296 (by decide)
theorem rD (n:Int):((UInt64.ofInt n).toNat:Int)=IntKind.u64.wrap n:=by
 have:IntKind.u64.wrap n=n % (18446744073709551616:Nat):=by simp [IntKind.wrap,IntKind.bits,IntKind.signed]
 rw [this,UInt64.ofInt,UInt64.toNat_ofNat'];exact nF n 18446744073709551616 (by decide)
theorem FC (k:IntKind) (n:Int):(FE k n).av = .v (.int k (k.wrap n)):=by
 cases k <;> simp only [FE,TV.av,eS,js,AV.v.injEq,Value.int.injEq,true_and]
 ·exact tU n
 ·exact rE n
 ·exact vC n
 ·exact rD n
def MA (o:BinOp) (a b:UInt8):jV :=
 match o with
 | .add => .ok [.u8 (a+b)]
 | .sub => .ok [.u8 (a - b)]
 | .mul => .ok [.u8 (a * b)]
 | .quo => .eM (!decide (b=0)) [.u8 (a / b)]
 | .rem => .eM (!decide (b=0)) [.u8 (a % b)]
 | .and => .ok [.u8 (a &&& b)]
 | .or => .ok [.u8 (a ||| b)]
 | .xor => .ok [.u8 (a ^^^ b)]
 | .andNot => .ok [.u8 (a &&& ~~~b)]
 | .eql => .ok [.b (decide (a=b))]
 | .neq => .ok [.b (!decide (a=b))]
 | .lss => .ok [.b (decide (a<b))]
 | .leq => .ok [.b (decide (a≤b))]
 | .gtr => .ok [.b (decide (b<a))]
 | .geq => .ok [.b (decide (b≤a))]
 | _ => .err
def KJ (a:UInt8) (n:Nat):UInt8:=UInt8.ofNat (a.toNat * 2 ^ n)
def KH (a:UInt8) (n:Nat):UInt8:=UInt8.ofNat (a.toNat / 2 ^ n)
theorem wrap_u8' (n:Int):IntKind.u8.wrap n=n % 256:=by simp [IntKind.wrap,IntKind.bits,IntKind.signed]
theorem ofInt_u8 (a:UInt8):BitVec.ofInt 8 (a.toNat:Int)=a.toBitVec:=by
 apply BitVec.eq_of_toNat_eq
 rw [BitVec.toNat_ofInt]
 have:=a.toNat_lt
 simp only [UInt8.toNat] at this ⊢
 omega
def G3 (o:BinOp) (a b:UInt16):jV :=
 match o with
 | .add => .ok [.u16 (a+b)]
 | .sub => .ok [.u16 (a - b)]
 | .mul => .ok [.u16 (a * b)]
 | .quo => .eM (!decide (b=0)) [.u16 (a / b)]
 | .rem => .eM (!decide (b=0)) [.u16 (a % b)]
 | .and => .ok [.u16 (a &&& b)]
 | .or => .ok [.u16 (a ||| b)]
 | .xor => .ok [.u16 (a ^^^ b)]
 | .andNot => .ok [.u16 (a &&& ~~~b)]
 | .eql => .ok [.b (decide (a=b))]
 | .neq => .ok [.b (!decide (a=b))]
 | .lss => .ok [.b (decide (a<b))]
 | .leq => .ok [.b (decide (a≤b))]
 | .gtr => .ok [.b (decide (b<a))]
 | .geq => .ok [.b (decide (b≤a))]
 | _ => .err
def Ek (a:UInt16) (n:Nat):UInt16:=UInt16.ofNat (a.toNat * 2 ^ n)
def qu (a:UInt16) (n:Nat):UInt16:=UInt16.ofNat (a.toNat / 2 ^ n)
theorem iQ (n:Int):IntKind.u16.wrap n=n % 65536:=by simp [IntKind.wrap,IntKind.bits,IntKind.signed]
theorem ofInt_u16 (a:UInt16):BitVec.ofInt 16 (a.toNat:Int)=a.toBitVec:=by
 apply BitVec.eq_of_toNat_eq
 rw [BitVec.toNat_ofInt]
 have:=a.toNat_lt
 simp only [UInt16.toNat] at this ⊢
 omega
def GZ (o:BinOp) (a b:UInt32):jV :=
 match o with
 | .add => .ok [.u32 (a+b)]
 | .sub => .ok [.u32 (a - b)]
 | .mul => .ok [.u32 (a * b)]
 | .quo => .eM (!decide (b=0)) [.u32 (a / b)]
 | .rem => .eM (!decide (b=0)) [.u32 (a % b)]
 | .and => .ok [.u32 (a &&& b)]
 | .or => .ok [.u32 (a ||| b)]
 | .xor => .ok [.u32 (a ^^^ b)]
 | .andNot => .ok [.u32 (a &&& ~~~b)]
 | .eql => .ok [.b (decide (a=b))]
 | .neq => .ok [.b (!decide (a=b))]
 | .lss => .ok [.b (decide (a<b))]
 | .leq => .ok [.b (decide (a≤b))]
 | .gtr => .ok [.b (decide (b<a))]
 | .geq => .ok [.b (decide (b≤a))]
 | _ => .err
def qv (a:UInt32) (n:Nat):UInt32:=UInt32.ofNat (a.toNat * 2 ^ n)
def ue (a:UInt32) (n:Nat):UInt32:=UInt32.ofNat (a.toNat / 2 ^ n)
theorem wrap_u32' (n:Int):IntKind.u32.wrap n=n % 4294967296:=by simp [IntKind.wrap,IntKind.bits,IntKind.signed]
theorem ofInt_u32 (a:UInt32):BitVec.ofInt 32 (a.toNat:Int)=a.toBitVec:=by
 apply BitVec.eq_of_toNat_eq
 rw [BitVec.toNat_ofInt]
 have:=a.toNat_lt
 simp only [UInt32.toNat] at this ⊢
 omega
def GX (o:BinOp) (a b:UInt64):jV :=
 match o with
 | .add => .ok [.u64 (a+b)]
 | .sub => .ok [.u64 (a - b)]
 | .mul => .ok [.u64 (a * b)]
 | .quo => .eM (!decide (b=0)) [.u64 (a / b)]
 | .rem => .eM (!decide (b=0)) [.u64 (a % b)]
 | .and => .ok [.u64 (a &&& b)]
 | .or => .ok [.u64 (a ||| b)]
 | .xor => .ok [.u64 (a ^^^ b)]
 | .andNot => .ok [.u64 (a &&& ~~~b)]
 | .eql => .ok [.b (decide (a=b))]
 | .neq => .ok [.b (!decide (a=b))]
 | .lss => .ok [.b (decide (a<b))]
 | .leq => .ok [.b (decide (a≤b))]
 | .gtr => .ok [.b (decide (b<a))]
 | .geq => .ok [.b (decide (b≤a))]
 | _ => .err
def kM (a:UInt64) (n:Nat):UInt64:=UInt64.ofNat (a.toNat * 2 ^ n)
def iI (a:UInt64) (n:Nat):UInt64:=UInt64.ofNat (a.toNat / 2 ^ n)
theorem jr (n:Int):IntKind.u64.wrap n=n % 18446744073709551616:=by simp [IntKind.wrap,IntKind.bits,IntKind.signed]
theorem ofInt_u64 (a:UInt64):BitVec.ofInt 64 (a.toNat:Int)=a.toBitVec:=by
 apply BitVec.eq_of_toNat_eq
 rw [BitVec.toNat_ofInt]
 have:=a.toNat_lt
 simp only [UInt64.toNat] at this ⊢
 omega
def jV.holds:jV→List TV→Prop
 | .ok ws,r=>r=ws
 | .eM p ws,r=>p=true∧r=ws
 | .err,_=>False
theorem I8 {o : BinOp} {a b : UInt8} {ws : List TV} (h : (MA o a b).holds ws) : ∃ x : TV, ws = [x] ∧ ∃ v, x.av = .v v ∧ jX o (.int .u8 a.toNat) (.int .u8 b.toNat) = some v := by
  have ha := a.toNat_lt
  have hb := b.toNat_lt
  cases o <;> simp only [MA, jV.holds] at h <;> first | exact h.elim | skip
  all_goals first
    | (obtain ⟨hp, rfl⟩ := h; refine ⟨_, rfl, _, rfl, ?_⟩; simp only [Bool.not_eq_true', decide_eq_false_iff_not] at hp
       have vv : (b.toNat : Int) ≠ 0 := fun e => hp (UInt8.toNat_inj.1 (by simpa using e))
       simp only [jX, if_true, vv, if_false, aB, Value.int.injEq, true_and, UInt8.toNat_div, UInt8.toNat_mod, wrap_u8', Int.tdiv_eq_ediv_of_nonneg (Int.natCast_nonneg a.toNat), Int.tmod_eq_emod_of_nonneg (Int.natCast_nonneg a.toNat)]
       first | (rw [← Int.natCast_ediv]; have := Nat.div_le_self a.toNat b.toNat; generalize a.toNat / b.toNat = q at this ⊢; omega) | omega)
    | (subst h; refine ⟨_, rfl, _, rfl, ?_⟩
       simp only [jX, if_true, aB, Value.int.injEq, Value.bool.injEq, true_and, wrap_u8', dN, IntKind.bits, ofInt_u8, UInt8.toNat_add, UInt8.toNat_sub, UInt8.toNat_mul]
       first | omega | (rw [aX (by omega) (by have := (a &&& b).toNat_lt; simp only [UInt8.toNat] at this ⊢; simp only [UInt8.toBitVec_and] at this; omega)]; rfl)
             | (rw [aX (by omega) (by have := (a ||| b).toNat_lt; simp only [UInt8.toNat] at this ⊢; simp only [UInt8.toBitVec_or] at this; omega)]; rfl)
             | (rw [aX (by omega) (by have := (a ^^^ b).toNat_lt; simp only [UInt8.toNat] at this ⊢; simp only [UInt8.toBitVec_xor] at this; omega)]; rfl)
             | (rw [aX (by omega) (by have := (a &&& ~~~b).toNat_lt; simp only [UInt8.toNat] at this ⊢; simp only [UInt8.toBitVec_and, UInt8.toBitVec_not] at this; omega)]; rfl)
             | (rw [bo]; simp [UInt8.lt_iff_toNat_lt, UInt8.le_iff_toNat_le, ← UInt8.toNat_inj]; omega)
             | (rw [bo]; simp [UInt8.lt_iff_toNat_lt, UInt8.le_iff_toNat_le, ← UInt8.toNat_inj]))
theorem G2 {o : BinOp} {a b : UInt16} {ws : List TV} (h : (G3 o a b).holds ws) : ∃ x : TV, ws = [x] ∧ ∃ v, x.av = .v v ∧ jX o (.int .u16 a.toNat) (.int .u16 b.toNat) = some v := by
  have ha := a.toNat_lt
  have hb := b.toNat_lt
  cases o <;> simp only [G3, jV.holds] at h <;> first | exact h.elim | skip
  all_goals first
    | (obtain ⟨hp, rfl⟩ := h; refine ⟨_, rfl, _, rfl, ?_⟩; simp only [Bool.not_eq_true', decide_eq_false_iff_not] at hp
       have vv : (b.toNat : Int) ≠ 0 := fun e => hp (UInt16.toNat_inj.1 (by simpa using e))
       simp only [jX, if_true, vv, if_false, aB, Value.int.injEq, true_and, UInt16.toNat_div, UInt16.toNat_mod, iQ, Int.tdiv_eq_ediv_of_nonneg (Int.natCast_nonneg a.toNat), Int.tmod_eq_emod_of_nonneg (Int.natCast_nonneg a.toNat)]
       first | (rw [← Int.natCast_ediv]; have := Nat.div_le_self a.toNat b.toNat; generalize a.toNat / b.toNat = q at this ⊢; omega) | omega)
    | (subst h; refine ⟨_, rfl, _, rfl, ?_⟩
       simp only [jX, if_true, aB, Value.int.injEq, Value.bool.injEq, true_and, iQ, dN, IntKind.bits, ofInt_u16, UInt16.toNat_add, UInt16.toNat_sub, UInt16.toNat_mul]
       first | omega | (rw [aX (by omega) (by have := (a &&& b).toNat_lt; simp only [UInt16.toNat] at this ⊢; simp only [UInt16.toBitVec_and] at this; omega)]; rfl)
             | (rw [aX (by omega) (by have := (a ||| b).toNat_lt; simp only [UInt16.toNat] at this ⊢; simp only [UInt16.toBitVec_or] at this; omega)]; rfl)
             | (rw [aX (by omega) (by have := (a ^^^ b).toNat_lt; simp only [UInt16.toNat] at this ⊢; simp only [UInt16.toBitVec_xor] at this; omega)]; rfl)
             | (rw [aX (by omega) (by have := (a &&& ~~~b).toNat_lt; simp only [UInt16.toNat] at this ⊢; simp only [UInt16.toBitVec_and, UInt16.toBitVec_not] at this; omega)]; rfl)
             | (rw [bo]; simp [UInt16.lt_iff_toNat_lt, UInt16.le_iff_toNat_le, ← UInt16.toNat_inj]; omega)
             | (rw [bo]; simp [UInt16.lt_iff_toNat_lt, UInt16.le_iff_toNat_le, ← UInt16.toNat_inj]))
theorem GY {o : BinOp} {a b : UInt32} {ws : List TV} (h : (GZ o a b).holds ws) : ∃ x : TV, ws = [x] ∧ ∃ v, x.av = .v v ∧ jX o (.int .u32 a.toNat) (.int .u32 b.toNat) = some v := by
  have ha := a.toNat_lt
  have hb := b.toNat_lt
  cases o <;> simp only [GZ, jV.holds] at h <;> first | exact h.elim | skip
  all_goals first
    | (obtain ⟨hp, rfl⟩ := h; refine ⟨_, rfl, _, rfl, ?_⟩; simp only [Bool.not_eq_true', decide_eq_false_iff_not] at hp
       have vv : (b.toNat : Int) ≠ 0 := fun e => hp (UInt32.toNat_inj.1 (by simpa using e))
       simp only [jX, if_true, vv, if_false, aB, Value.int.injEq, true_and, UInt32.toNat_div, UInt32.toNat_mod, wrap_u32', Int.tdiv_eq_ediv_of_nonneg (Int.natCast_nonneg a.toNat), Int.tmod_eq_emod_of_nonneg (Int.natCast_nonneg a.toNat)]
       first | (rw [← Int.natCast_ediv]; have := Nat.div_le_self a.toNat b.toNat; generalize a.toNat / b.toNat = q at this ⊢; omega) | omega)
    | (subst h; refine ⟨_, rfl, _, rfl, ?_⟩
       simp only [jX, if_true, aB, Value.int.injEq, Value.bool.injEq, true_and, wrap_u32', dN, IntKind.bits, ofInt_u32, UInt32.toNat_add, UInt32.toNat_sub, UInt32.toNat_mul]
       first | omega | (rw [aX (by omega) (by have := (a &&& b).toNat_lt; simp only [UInt32.toNat] at this ⊢; simp only [UInt32.toBitVec_and] at this; omega)]; rfl)
             | (rw [aX (by omega) (by have := (a ||| b).toNat_lt; simp only [UInt32.toNat] at this ⊢; simp only [UInt32.toBitVec_or] at this; omega)]; rfl)
             | (rw [aX (by omega) (by have := (a ^^^ b).toNat_lt; simp only [UInt32.toNat] at this ⊢; simp only [UInt32.toBitVec_xor] at this; omega)]; rfl)
             | (rw [aX (by omega) (by have := (a &&& ~~~b).toNat_lt; simp only [UInt32.toNat] at this ⊢; simp only [UInt32.toBitVec_and, UInt32.toBitVec_not] at this; omega)]; rfl)
             | (rw [bo]; simp [UInt32.lt_iff_toNat_lt, UInt32.le_iff_toNat_le, ← UInt32.toNat_inj]; omega)
             | (rw [bo]; simp [UInt32.lt_iff_toNat_lt, UInt32.le_iff_toNat_le, ← UInt32.toNat_inj]))
theorem GV {o : BinOp} {a b : UInt64} {ws : List TV} (h : (GX o a b).holds ws) : ∃ x : TV, ws = [x] ∧ ∃ v, x.av = .v v ∧ jX o (.int .u64 a.toNat) (.int .u64 b.toNat) = some v := by
  have ha := a.toNat_lt
  have hb := b.toNat_lt
  cases o <;> simp only [GX, jV.holds] at h <;> first | exact h.elim | skip
  all_goals first
    | (obtain ⟨hp, rfl⟩ := h; refine ⟨_, rfl, _, rfl, ?_⟩; simp only [Bool.not_eq_true', decide_eq_false_iff_not] at hp
       have vv : (b.toNat : Int) ≠ 0 := fun e => hp (bt.1 (by simpa using e))
       simp only [jX, if_true, vv, if_false, aB, Value.int.injEq, true_and, UInt64.toNat_div, UInt64.toNat_mod, jr, Int.tdiv_eq_ediv_of_nonneg (Int.natCast_nonneg a.toNat), Int.tmod_eq_emod_of_nonneg (Int.natCast_nonneg a.toNat)]
       first | (rw [← Int.natCast_ediv]; have := Nat.div_le_self a.toNat b.toNat; generalize a.toNat / b.toNat = q at this ⊢; omega) | omega)
    | (subst h; refine ⟨_, rfl, _, rfl, ?_⟩
       simp only [jX, if_true, aB, Value.int.injEq, Value.bool.injEq, true_and, jr, dN, IntKind.bits, ofInt_u64, UInt64.toNat_add, UInt64.toNat_sub, UInt64.toNat_mul]
       first | omega | (rw [aX (by omega) (by have := (a &&& b).toNat_lt; simp only [UInt64.toNat] at this ⊢; simp only [UInt64.toBitVec_and] at this; omega)]; rfl)
             | (rw [aX (by omega) (by have := (a ||| b).toNat_lt; simp only [UInt64.toNat] at this ⊢; simp only [UInt64.toBitVec_or] at this; omega)]; rfl)
             | (rw [aX (by omega) (by have := (a ^^^ b).toNat_lt; simp only [UInt64.toNat] at this ⊢; simp only [UInt64.toBitVec_xor] at this; omega)]; rfl)
             | (rw [aX (by omega) (by have := (a &&& ~~~b).toNat_lt; simp only [UInt64.toNat] at this ⊢; simp only [UInt64.toBitVec_and, UInt64.toBitVec_not] at this; omega)]; rfl)
             | (rw [bo]; simp [bp, bk, ← bt]; omega)
             | (rw [bo]; simp [bp, bk, ← bt]))
end Go.Eng
namespace Go.Eng
def Mz (o:BinOp) (k:IntKind) (a b:Int):jV :=
 match o with
 | .add => .ok [.i k (k.wrap (a+b))]
 | .sub => .ok [.i k (k.wrap (a - b))]
 | .mul => .ok [.i k (k.wrap (a * b))]
 | .quo => .eM (!decide (b=0)) [.i k (k.wrap (a.tdiv b))]
 | .rem => .eM (!decide (b=0)) [.i k (a.tmod b)]
 | .and => .ok [.i k (dN .and k a b)]
 | .or => .ok [.i k (dN .or k a b)]
 | .xor => .ok [.i k (dN .xor k a b)]
 | .andNot => .ok [.i k (dN .andNot k a b)]
 | .eql => .ok [.b (decide (a=b))]
 | .neq => .ok [.b (!decide (a=b))]
 | .lss => .ok [.b (decide (a<b))]
 | .leq => .ok [.b (decide (a≤b))]
 | .gtr => .ok [.b (decide (b<a))]
 | .geq => .ok [.b (decide (b≤a))]
 | _ => .err
def My (o:BinOp) (a b:bT):jV :=
 match o with
 | .add => .eM (decide (a.length+b.length≤9223372036854775807)) [.s (a++b)]
 | .eql => .ok [.b (decide (a=b))]
 | .neq => .ok [.b (!decide (a=b))]
 | .lss => .ok [.b (Op.bytesLess a b)]
 | .leq => .ok [.b (Op.bytesLess a b || decide (a=b))]
 | .gtr => .ok [.b (!(Op.bytesLess a b || decide (a=b)))]
 | .geq => .ok [.b (!Op.bytesLess a b)]
 | _ => .err
def TV.count:TV→Option (Option Bool × Nat)
 | .u8 n=>some (none,n.toNat)
 | .u16 n=>some (none,n.toNat)
 | .u32 n=>some (none,n.toNat)
 | .u64 n=>some (none,n.toNat)
 | .i _ n=>some (some (decide (0≤n)),n.toNat)
 | _=>none
def jV.under (p:Option Bool) (ws:List TV):jV :=
 match p with
 | none => .ok ws
 | some p => .eM p ws
def KI (x y:TV):jV :=
 match y.count with
 | some (p,n)=>match x with
  | .u8 a => .under p [.u8 (KJ a n)]
  | .u16 a => .under p [.u16 (Ek a n)]
  | .u32 a => .under p [.u32 (qv a n)]
  | .u64 a => .under p [.u64 (kM a n)]
  | .i k a => .under p [.i k (k.wrap (a * 2 ^ (min n k.bits)))]
  | _ => .err
 | none => .err
def KG (x y:TV):jV :=
 match y.count with
 | some (p,n)=>match x with
  | .u8 a => .under p [.u8 (KH a n)]
  | .u16 a => .under p [.u16 (qu a n)]
  | .u32 a => .under p [.u32 (ue a n)]
  | .u64 a => .under p [.u64 (iI a n)]
  | .i k a => .under p [.i k (a.fdiv (2 ^ (min n k.bits)))]
  | _ => .err
 | none => .err
def tG:BinOp→Option Bool
 | .shl=>some true
 | .shr=>some false
 | _=>none
def Mk (o:BinOp) (x y:Value):jV :=
 match o,x,y with
 | .add,.float .f64 a,.float .f64 b => .eM (Fl.kR a b) [.c (.float .f64 (Fl.add a b))]
 | .sub,.float .f64 a,.float .f64 b => .eM (Fl.sG a b) [.c (.float .f64 (Fl.sub a b))]
 | .mul,.float .f64 a,.float .f64 b => .eM (Fl.oq a b) [.c (.float .f64 (Fl.mul a b))]
 | .eql,.float .f64 a,.float .f64 b => .ok [.b (Fl.eq a b)]
 | .neq,.float .f64 a,.float .f64 b => .ok [.b (!Fl.eq a b)]
 | .lss,.float .f64 a,.float .f64 b => .ok [.b (Fl.lt a b)]
 | .leq,.float .f64 a,.float .f64 b => .ok [.b (Fl.lt a b || Fl.eq a b)]
 | .gtr,.float .f64 a,.float .f64 b => .ok [.b (Fl.gt a b)]
 | .geq,.float .f64 a,.float .f64 b => .ok [.b (Fl.gt a b || Fl.eq a b)]
 | .add,.complex .f64 a b,.complex .f64 c d => .eM (Fl.kR a c&&Fl.kR b d) [.c (.complex .f64 (Fl.add a c) (Fl.add b d))]
 | .mul,.complex .f64 a b,.complex .f64 c d => .eM (Fl.oZ a b c d) [.c (.complex .f64 (Fl.sx a b c d) (Fl.sy a b c d))]
 | _,_,_ => .err
def Mx (o:BinOp) (x y:TV):jV :=
 match tG o with
 | some true=>KI x y
 | some false=>KG x y
 | none=>match x,y with
  | .u8 a,.u8 b=>MA o a b
  | .u16 a,.u16 b=>G3 o a b
  | .u32 a,.u32 b=>GZ o a b
  | .u64 a,.u64 b=>GX o a b
  | .i k a,.i k' b=>if k=k' then Mz o k a b else .err
  | .s a,.s b=>My o a b
  | .c a,.c b=>Mk o a b
  | _,_ => .err
def Q0 (o:UnOp) (x:TV):jV :=
 match o,x with
 | .neg,.u8 a => .ok [.u8 (0 - a)]
 | .neg,.u16 a => .ok [.u16 (0 - a)]
 | .neg,.u32 a => .ok [.u32 (0 - a)]
 | .neg,.u64 a => .ok [.u64 (0 - a)]
 | .neg,.i k a => .ok [.i k (k.wrap (0 - a))]
 | .xor,.u8 a => .ok [.u8 (~~~a)]
 | .xor,.u16 a => .ok [.u16 (~~~a)]
 | .xor,.u32 a => .ok [.u32 (~~~a)]
 | .xor,.u64 a => .ok [.u64 (~~~a)]
 | .xor,.i k a => .ok [.i k (dN .xor k (if k.signed then -1 else k.max) a)]
 | .not,.b a => .ok [.b !a]
 | .neg,.c (.float .f64 a) => .ok [.c (.float .f64 (Fl.neg a))]
 | _,_ => .err
theorem tz {a n b m:Nat} (hm:m=2 ^ b):(a * 2 ^ (min n b)) % m=(a * 2 ^ n) % m:=by
 subst hm
 by_cases h:n≤b
 ·rw [Nat.min_eq_left h]
 ·rw [Nat.min_eq_right (by omega),show n=b+(n - b) by omega,Nat.pow_add,←Nat.mul_assoc,Nat.mul_mod_left,Nat.mul_right_comm,Nat.mul_mod_left]
theorem tw {a n b m:Nat} (hm:m=2 ^ b) (ha:a<m):a / 2 ^ (min n b)=(a / 2 ^ n) % m:=by
 subst hm
 rw [Nat.mod_eq_of_lt (Nat.lt_of_le_of_lt (Nat.div_le_self _ _) ha)]
 by_cases h:n≤b
 ·rw [Nat.min_eq_left h]
 ·rw [Nat.min_eq_right (by omega),Nat.div_eq_of_lt ha,Nat.div_eq_of_lt (Nat.lt_of_lt_of_le ha (Nat.pow_le_pow_right (by omega) (by omega)))]
theorem lf (l:bT):ByteArray.toList ⟨⟨l⟩⟩=l:=by rw [ByteArray.toList_eq]
def jV.zr (r:jV) (P:AV→Prop):Prop:=∀ws,r.holds ws→∃x:TV,ws=[x]∧P x.av
def Hk (o:BinOp) (x y:TV) (z:AV):Prop:=∃a b v,x.av = .v a∧y.av = .v b∧jX o a b=some v∧z = .v v
theorem sD {p:Option Bool} {ws r:List TV} (h:(jV.under p ws).holds r):r=ws∧∀b,p=some b→b=true:=by
 cases p with
 | none=>exact ⟨h,fun _ e=>by cases e⟩
 | some p=>exact ⟨h.2,fun _ e=>by cases e;exact h.1⟩
theorem zP {y:TV} {p:Option Bool} {n:Nat} (h:y.count=some (p,n)) (hp:∀b,p=some b→b=true):∃k m,y.av = .v (.int k m)∧0≤m∧m.toNat=n:=by
 cases y <;> simp [TV.count] at h <;> obtain ⟨rfl,rfl⟩:=h
 ·exact ⟨_,_,rfl,by omega,by omega⟩
 ·exact ⟨_,_,rfl,by omega,by omega⟩
 ·exact ⟨_,_,rfl,by omega,by omega⟩
 ·exact ⟨_,_,rfl,by omega,by omega⟩
 ·rename_i k m
  have:=hp _ rfl
  exact ⟨_,_,rfl,by simpa using this,rfl⟩
theorem HQ (a:UInt8) (n:Nat):IntKind.u8.wrap ((a.toNat:Int) * 2 ^ (min n 8))=((KJ a n).toNat:Int):=by
 rw [wrap_u8',KJ,UInt8.toNat_ofNat',show ((a.toNat:Int) * 2 ^ (min n 8))=((a.toNat * 2 ^ (min n 8):Nat):Int) by simp]
 have:=tz (a:=a.toNat) (n:=n) (b:=8) (m:=256) (by decide)
 rw [show (2 ^ 8:Nat)=256 by decide]
 omega
theorem HO (a:UInt8) (n:Nat):IntKind.u8.wrap ((a.toNat:Int).fdiv (2 ^ (min n 8)))=((KH a n).toNat:Int):=by
 rw [wrap_u8',KH,UInt8.toNat_ofNat',Int.fdiv_eq_ediv_of_nonneg _ (Int.le_of_lt (Int.pow_pos (by decide))),show ((a.toNat:Int) / 2 ^ (min n 8))=((a.toNat / 2 ^ (min n 8):Nat):Int) by simp]
 have:=tw (a:=a.toNat) (n:=n) (b:=8) (m:=256) (by decide) (by have:=a.toNat_lt;simpa using this)
 rw [show (2 ^ 8:Nat)=256 by decide]
 omega
theorem Ej (a:UInt16) (n:Nat):IntKind.u16.wrap ((a.toNat:Int) * 2 ^ (min n 16))=((Ek a n).toNat:Int):=by
 rw [iQ,Ek,UInt16.toNat_ofNat',show ((a.toNat:Int) * 2 ^ (min n 16))=((a.toNat * 2 ^ (min n 16):Nat):Int) by simp]
 have:=tz (a:=a.toNat) (n:=n) (b:=16) (m:=65536) (by decide)
 rw [show (2 ^ 16:Nat)=65536 by decide]
 omega
theorem Eg (a:UInt16) (n:Nat):IntKind.u16.wrap ((a.toNat:Int).fdiv (2 ^ (min n 16)))=((qu a n).toNat:Int):=by
 rw [iQ,qu,UInt16.toNat_ofNat',Int.fdiv_eq_ediv_of_nonneg _ (Int.le_of_lt (Int.pow_pos (by decide))),show ((a.toNat:Int) / 2 ^ (min n 16))=((a.toNat / 2 ^ (min n 16):Nat):Int) by simp]
 have:=tw (a:=a.toNat) (n:=n) (b:=16) (m:=65536) (by decide) (by have:=a.toNat_lt;simpa using this)
 rw [show (2 ^ 16:Nat)=65536 by decide]
 omega
theorem Ei (a:UInt32) (n:Nat):IntKind.u32.wrap ((a.toNat:Int) * 2 ^ (min n 32))=((qv a n).toNat:Int):=by
 rw [wrap_u32',qv,UInt32.toNat_ofNat',show ((a.toNat:Int) * 2 ^ (min n 32))=((a.toNat * 2 ^ (min n 32):Nat):Int) by simp]
 have:=tz (a:=a.toNat) (n:=n) (b:=32) (m:=4294967296) (by decide)
 rw [show (2 ^ 32:Nat)=4294967296 by decide]
 omega
theorem Ef (a:UInt32) (n:Nat):IntKind.u32.wrap ((a.toNat:Int).fdiv (2 ^ (min n 32)))=((ue a n).toNat:Int):=by
 rw [wrap_u32',ue,UInt32.toNat_ofNat',Int.fdiv_eq_ediv_of_nonneg _ (Int.le_of_lt (Int.pow_pos (by decide))),show ((a.toNat:Int) / 2 ^ (min n 32))=((a.toNat / 2 ^ (min n 32):Nat):Int) by simp]
 have:=tw (a:=a.toNat) (n:=n) (b:=32) (m:=4294967296) (by decide) (by have:=a.toNat_lt;simpa using this)
 rw [show (2 ^ 32:Nat)=4294967296 by decide]
 omega
theorem Eh (a:UInt64) (n:Nat):IntKind.u64.wrap ((a.toNat:Int) * 2 ^ (min n 64))=((kM a n).toNat:Int):=by
 rw [jr,kM,UInt64.toNat_ofNat',show ((a.toNat:Int) * 2 ^ (min n 64))=((a.toNat * 2 ^ (min n 64):Nat):Int) by simp]
 have:=tz (a:=a.toNat) (n:=n) (b:=64) (m:=18446744073709551616) (by decide)
 rw [show (2 ^ 64:Nat)=18446744073709551616 by decide]
 omega
theorem Ee (a:UInt64) (n:Nat):IntKind.u64.wrap ((a.toNat:Int).fdiv (2 ^ (min n 64)))=((iI a n).toNat:Int):=by
 rw [jr,iI,UInt64.toNat_ofNat',Int.fdiv_eq_ediv_of_nonneg _ (Int.le_of_lt (Int.pow_pos (by decide))),show ((a.toNat:Int) / 2 ^ (min n 64))=((a.toNat / 2 ^ (min n 64):Nat):Int) by simp]
 have:=tw (a:=a.toNat) (n:=n) (b:=64) (m:=18446744073709551616) (by decide) (by have:=a.toNat_lt;simpa using this)
 rw [show (2 ^ 64:Nat)=18446744073709551616 by decide]
 omega
theorem tx {w:Nat} {m:Int} (a:Nat) (k:Nat) (h:(a:Int)<m):0≤(a:Int).fdiv (2 ^ k)∧(a:Int).fdiv (2 ^ k)<m:=by
 rw [Int.fdiv_eq_ediv_of_nonneg _ (Int.le_of_lt (Int.pow_pos (by decide)))]
 refine ⟨Int.ediv_nonneg (by omega) (Int.le_of_lt (Int.pow_pos (by decide))),?_⟩
 rw [show ((a:Int) / 2 ^ k)=((a / 2 ^ k:Nat):Int) by simp]
 have:=Nat.div_le_self a (2 ^ k)
 omega
theorem HP (x y:TV):(KI x y).zr (Hk .shl x y):=by
 intro ws h
 unfold KI at h
 split at h
 ·rename_i p n hc
  have key:∀{r:TV} {u:IntKind} {a:Int},(jV.under p [r]).holds ws→x.av = .v (.int u a)→r.av = .v (.int u (u.wrap (a * 2 ^ (min n u.bits))))→∃z:TV,ws=[z]∧Hk .shl x y z.av:=by
   intro r u a h hx hr
   obtain ⟨rfl,hp⟩:=sD h
   obtain ⟨k,m,h1,h2,rfl⟩:=zP hc hp
   refine ⟨_,rfl,_,_,_,hx,h1,?_,hr⟩
   simp only [jX,Int.not_lt.2 h2,if_false]
  split at h
  ·exact key h rfl (by rw [show IntKind.u8.bits=8 from rfl,HQ];rfl)
  ·exact key h rfl (by rw [show IntKind.u16.bits=16 from rfl,Ej];rfl)
  ·exact key h rfl (by rw [show IntKind.u32.bits=32 from rfl,Ei];rfl)
  ·exact key h rfl (by rw [show IntKind.u64.bits=64 from rfl,Eh];rfl)
  ·exact key h rfl rfl
  ·exact h.elim
 ·exact h.elim
theorem HN (x y:TV):(KG x y).zr (Hk .shr x y):=by
 intro ws h
 unfold KG at h
 split at h
 ·rename_i p n hc
  have key:∀{r:TV} {u:IntKind} {a:Int},(jV.under p [r]).holds ws→x.av = .v (.int u a)→r.av = .v (.int u (a.fdiv (2 ^ (min n u.bits))))→∃z:TV,ws=[z]∧Hk .shr x y z.av:=by
   intro r u a h hx hr
   obtain ⟨rfl,hp⟩:=sD h
   obtain ⟨k,m,h1,h2,rfl⟩:=zP hc hp
   refine ⟨_,rfl,_,_,_,hx,h1,?_,hr⟩
   simp only [jX,Int.not_lt.2 h2,if_false]
  split at h
  ·rename_i a
   have q:=tx (w:=0) a.toNat (min n 8) (m:=256) (by have:=a.toNat_lt;simp at this;omega)
   exact key h rfl (by rw [show IntKind.u8.bits=8 from rfl];simp only [TV.av,eS];rw [←HO,wrap_u8',aX q.1 q.2])
  ·rename_i a
   have q:=tx (w:=0) a.toNat (min n 16) (m:=65536) (by have:=a.toNat_lt;simp at this;omega)
   exact key h rfl (by rw [show IntKind.u16.bits=16 from rfl];simp only [TV.av];rw [←Eg,iQ,aX q.1 q.2])
  ·rename_i a
   have q:=tx (w:=0) a.toNat (min n 32) (m:=4294967296) (by have:=a.toNat_lt;simp at this;omega)
   exact key h rfl (by rw [show IntKind.u32.bits=32 from rfl];simp only [TV.av];rw [←Ef,wrap_u32',aX q.1 q.2])
  ·rename_i a
   have q:=tx (w:=0) a.toNat (min n 64) (m:=18446744073709551616) (by have:=a.toNat_lt;simp at this;omega)
   exact key h rfl (by rw [show IntKind.u64.bits=64 from rfl];simp only [TV.av,js];rw [←Ee,jr,aX q.1 q.2])
  ·exact key h rfl rfl
  ·exact h.elim
 ·exact h.elim
theorem I7 {o:BinOp} {k:IntKind} {a b:Int} {ws:List TV} (h:(Mz o k a b).holds ws):∃x:TV,ws=[x]∧∃v,x.av = .v v∧jX o (.int k a) (.int k b)=some v:=by
 cases o <;> simp only [Mz,jV.holds] at h <;> first | exact h.elim | skip
 all_goals first
  | (obtain ⟨hp,rfl⟩:=h;refine ⟨_,rfl,_,rfl,?_⟩;simp only [Bool.not_eq_true',decide_eq_false_iff_not] at hp;simp only [jX,if_true,hp,if_false])
  | (subst h;refine ⟨_,rfl,_,rfl,?_⟩;simp only [jX,if_true,aB,Value.bool.injEq];first | done | (rw [bo];simp))
theorem I6 {o:BinOp} {a b:bT} {ws:List TV} (h:(My o a b).holds ws):∃x:TV,ws=[x]∧∃v,x.av = .v v∧jX o (.string ⟨⟨a⟩⟩) (.string ⟨⟨b⟩⟩)=some v:=by
 cases o <;> simp only [My,jV.holds] at h <;> first | exact h.elim | skip
 ·obtain ⟨hp,rfl⟩:=h
  refine ⟨_,rfl,_,rfl,?_⟩
  simp only [jX]
  have hp:a.length+b.length≤9223372036854775807:=by simpa using hp
  rw [aD]
  ·simp only [aB,Value.string.injEq]
   apply ByteArray.ext
   apply Array.ext'
   simp
  ·have:IntKind.i64.max=9223372036854775807:=by decide
   rw [this]
   simp only [ByteArray.size,Array.size]
   omega
 ·subst h
  refine ⟨_,rfl,_,rfl,?_⟩
  simp only [jX,lf,aB,Value.bool.injEq]
  rw [bo];simp
 ·subst h
  refine ⟨_,rfl,_,rfl,?_⟩
  simp only [jX,lf,aB,Value.bool.injEq]
  rw [bo];simp
 ·subst h
  refine ⟨_,rfl,_,rfl,?_⟩
  show some (Value.bool _)=_
  simp only [lf]
 ·subst h
  refine ⟨_,rfl,_,rfl,?_⟩
  show some (Value.bool _)=_
  have e:(a == b)=decide (a=b):=by rw [bo];simp
  simp only [lf,e]
 ·subst h
  refine ⟨_,rfl,_,rfl,?_⟩
  show some (Value.bool _)=_
  have e:(a == b)=decide (a=b):=by rw [bo];simp
  simp only [lf,e]
 ·subst h
  refine ⟨_,rfl,_,rfl,?_⟩
  show some (Value.bool _)=_
  simp only [lf]
theorem IV {o:BinOp} {a b:Value} {ws:List TV} (h:(Mk o a b).holds ws):∃x:TV,ws=[x]∧∃v,zw o a b=some v∧x.av = .v v:=by
 unfold Mk at h
 split at h
 ·obtain ⟨h1,rfl⟩:=h;exact ⟨_,rfl,_,aH h1,rfl⟩
 ·obtain ⟨h1,rfl⟩:=h;exact ⟨_,rfl,_,aH h1,rfl⟩
 ·obtain ⟨h1,rfl⟩:=h;exact ⟨_,rfl,_,aH h1,rfl⟩
 ·cases h;exact ⟨_,rfl,_,rfl,rfl⟩
 ·cases h;exact ⟨_,rfl,_,rfl,rfl⟩
 ·cases h;exact ⟨_,rfl,_,rfl,rfl⟩
 ·cases h;exact ⟨_,rfl,_,rfl,rfl⟩
 ·cases h;exact ⟨_,rfl,_,rfl,rfl⟩
 ·cases h;exact ⟨_,rfl,_,rfl,rfl⟩
 ·obtain ⟨h1,rfl⟩:=h;exact ⟨_,rfl,_,aH h1,rfl⟩
 ·obtain ⟨h1,rfl⟩:=h;exact ⟨_,rfl,_,aH h1,rfl⟩
 ·exact h.elim
theorem Dq {o:BinOp} {a b v:Value} (h:zw o a b=some v) (h1:tG o=none):jX o a b=some v:=by
 unfold zw at h
 split at h <;> first | (cases h;done) | exact h
theorem I5 (o:BinOp) (x y:TV):(Mx o x y).zr (Hk o x y):=by
 intro ws h
 unfold Mx at h
 split at h
 ·rename_i e
  have:o = .shl:=by cases o <;> simp [tG] at e ⊢
  subst this
  exact HP x y ws h
 ·rename_i e
  have:o = .shr:=by cases o <;> simp [tG] at e ⊢
  subst this
  exact HN x y ws h
 ·split at h
  ·obtain ⟨x,h1,v,h2,h3⟩:=I8 h;exact ⟨x,h1,_,_,v,rfl,rfl,h3,h2⟩
  ·obtain ⟨x,h1,v,h2,h3⟩:=G2 h;exact ⟨x,h1,_,_,v,rfl,rfl,h3,h2⟩
  ·obtain ⟨x,h1,v,h2,h3⟩:=GY h;exact ⟨x,h1,_,_,v,rfl,rfl,h3,h2⟩
  ·obtain ⟨x,h1,v,h2,h3⟩:=GV h;exact ⟨x,h1,_,_,v,rfl,rfl,h3,h2⟩
  ·split at h
   ·rename_i e
    subst e
    obtain ⟨x,h1,v,h2,h3⟩:=I7 h;exact ⟨x,h1,_,_,v,rfl,rfl,h3,h2⟩
   ·exact h.elim
  ·obtain ⟨x,h1,v,h2,h3⟩:=I6 h;exact ⟨x,h1,_,_,v,rfl,rfl,h3,h2⟩
  ·rename_i e _ _ _ _
   obtain ⟨x,h1,v,h2,h3⟩:=IV h
   exact ⟨x,h1,_,_,v,rfl,rfl,Dq h2 (by assumption),h3⟩
  ·exact h.elim
theorem H9 (a:UInt8):dN .xor .u8 (if IntKind.u8.signed then -1 else IntKind.u8.max) a.toNat=((~~~a).toNat:Int):=by
 have em:(if IntKind.u8.signed then (-1:Int) else IntKind.u8.max)=255:=by decide
 have e:BitVec.ofInt 8 255=BitVec.allOnes 8:=by decide
 rw [em]
 simp only [dN,IntKind.bits]
 rw [e,ofInt_u8,wrap_u8']
 show (((BitVec.allOnes 8 ^^^ a.toBitVec:BitVec 8).toNat:Int)) % 256=_
 rw [BitVec.allOnes_xor]
 have:=(~~~a).toNat_lt
 simp only [UInt8.toNat,UInt8.toBitVec_not] at this ⊢
 omega
theorem E8 (a:UInt16):dN .xor .u16 (if IntKind.u16.signed then -1 else IntKind.u16.max) a.toNat=((~~~a).toNat:Int):=by
 have em:(if IntKind.u16.signed then (-1:Int) else IntKind.u16.max)=65535:=by decide
 have e:BitVec.ofInt 16 65535=BitVec.allOnes 16:=by decide
 rw [em]
 simp only [dN,IntKind.bits]
 rw [e,ofInt_u16,iQ]
 show (((BitVec.allOnes 16 ^^^ a.toBitVec:BitVec 16).toNat:Int)) % 65536=_
 rw [BitVec.allOnes_xor]
 have:=(~~~a).toNat_lt
 simp only [UInt16.toNat,UInt16.toBitVec_not] at this ⊢
 omega
theorem E7 (a:UInt32):dN .xor .u32 (if IntKind.u32.signed then -1 else IntKind.u32.max) a.toNat=((~~~a).toNat:Int):=by
 have em:(if IntKind.u32.signed then (-1:Int) else IntKind.u32.max)=4294967295:=by decide
 have e:BitVec.ofInt 32 4294967295=BitVec.allOnes 32:=by decide
 rw [em]
 simp only [dN,IntKind.bits]
 rw [e,ofInt_u32,wrap_u32']
 show (((BitVec.allOnes 32 ^^^ a.toBitVec:BitVec 32).toNat:Int)) % 4294967296=_
 rw [BitVec.allOnes_xor]
 have:=(~~~a).toNat_lt
 simp only [UInt32.toNat,UInt32.toBitVec_not] at this ⊢
 omega
theorem E6 (a:UInt64):dN .xor .u64 (if IntKind.u64.signed then -1 else IntKind.u64.max) a.toNat=((~~~a).toNat:Int):=by
 have em:(if IntKind.u64.signed then (-1:Int) else IntKind.u64.max)=18446744073709551615:=by decide
 have e:BitVec.ofInt 64 18446744073709551615=BitVec.allOnes 64:=by decide
 rw [em]
 simp only [dN,IntKind.bits]
 rw [e,ofInt_u64,jr]
 show (((BitVec.allOnes 64 ^^^ a.toBitVec:BitVec 64).toNat:Int)) % 18446744073709551616=_
 rw [BitVec.allOnes_xor]
 have:=(~~~a).toNat_lt
 simp only [UInt64.toNat,UInt64.toBitVec_not] at this ⊢
 omega
theorem Kw (o : UnOp) (x : TV) : (Q0 o x).zr (fun z => ∃ a v, x.av = .v a ∧ Nf o a = some v ∧ z = .v v) := by
  intro ws h
  unfold Q0 at h
  split at h <;> first
    | exact h.elim
    | (cases h; exact ⟨_, rfl, _, _, rfl, rfl, rfl⟩)
    | (cases h; refine ⟨_, rfl, _, _, rfl, rfl, ?_⟩
       rename_i a
       have := a.toNat_lt
       simp only [TV.av, eS, js, AV.v.injEq, Value.int.injEq, true_and]
       first
         | (rw [wrap_u8', UInt8.toNat_sub]; simp; omega)
         | (rw [iQ, UInt16.toNat_sub]; simp; omega)
         | (rw [wrap_u32', UInt32.toNat_sub]; simp; omega)
         | (rw [jr, UInt64.toNat_sub]; simp; omega)
         | exact (H9 a).symm | exact (E8 a).symm | exact (E7 a).symm | exact (E6 a).symm)
end Go.Eng
namespace Go.Eng
def TV.pI:TV→Bool
 | .ag _=>true
 | _=>false
def TV.cells:TV→List TV
 | .ag cs=>cs
 | x=>[x]
def TV.plain:TV→Bool
 | .u8 _=>true
 | .u16 _=>true
 | .u32 _=>true
 | .u64 _=>true
 | .i _ _=>true
 | .b _=>true
 | .s _=>true
 | .sl _ _=>true
 | .ag _=>true
 | .ro _=>true
 | .c x=>x.oneCell'
 | _=>false
def qD (cs:List TV) (o n:Nat) (agg:Bool):Option TV :=
 match agg with
 | true=>cond (Nat.ble (o+n) cs.length) (some (.ag ((cs.drop o).take n))) none
 | false=>cs[o]?
def lV (cs:List TV) (o:Nat) (xs:List TV):List TV:=cs.take o++xs++cs.drop (o+xs.length)
def Cl (z:List TV):List (Nat × Nat)→List TV→Option (List TV)
 | [],[]=>some z
 | (o,n) :: pl,x :: xs=>cond (x.plain&&Nat.beq x.cells.length n&&Nat.ble (o+n) z.length) (Cl (lV z o x.cells) pl xs) none
 | _,_=>none
theorem TV.jQ (x:TV) (h:x.plain=true):x.av.cells=x.cells.map TV.av:=by
 cases x <;> first | rfl | cases h | skip
 ·simp [TV.av,AV.cells,TV.cells,TV.eP]
theorem TV.lB (x:TV) (h:x.plain=true):x.av.plain=true:=by
 cases x <;> first | rfl | cases h | exact h | skip
theorem TV.Ca (x:TV) (h:x.plain=true):x.av.pI=x.pI:=by
 cases x <;> first | rfl | cases h
theorem mO {cs:List TV} {o n:Nat} {agg:Bool} {x:TV} (h:qD cs o n agg=some x):fJ (cs.map TV.av) o n agg=some x.av:=by
 cases agg with
 | true =>
  simp only [qD] at h
  cases hb:Nat.ble (o+n) cs.length with
  | false=>rw [hb] at h;cases h
  | true =>
   rw [hb] at h
   cases h
   simp only [fJ,if_true,aG,Nat.le_of_ble_eq_true hb,TV.av,TV.eP]
   simp [List.map_take,List.map_drop]
 | false =>
  simp only [qD] at h
  simp only [fJ,aY,if_false,aI,h]
  rfl
theorem lq (cs xs:List TV) (o:Nat):(lV cs o xs).map TV.av=eH (cs.map TV.av) o (xs.map TV.av):=by
 simp [lV,eH,List.map_take,List.map_drop]
theorem zF:∀{pl:List (Nat × Nat)} {z xs cs:List TV},Cl z pl xs=some cs→mq (z.map TV.av) pl (xs.map TV.av)=some (cs.map TV.av)
 | [],z,[],cs,h=>by cases h;rfl
 | (o,n) :: pl,z,x :: xs,cs,h=>by
  simp only [Cl] at h
  cases hb:(x.plain&&Nat.beq x.cells.length n&&Nat.ble (o+n) z.length) with
  | false=>rw [hb] at h;cases h
  | true =>
   rw [hb] at h
   simp only [aa] at hb
   obtain ⟨⟨h1,h2⟩,h3⟩:=hb
   have h2:=au h2
   have h3:=Nat.le_of_ble_eq_true h3
   simp only [ah,mq,TV.lB x h1,TV.jQ x h1,aG,h2,h3,and_self,if_true]
   rw [←lq]
   exact zF h
 | [],z,_ :: _,cs,h=>by cases h
 | _ :: _,z,[],cs,h=>by cases h
def tE (e:TV) (o n:Nat) (agg:Bool):Option TV :=
 match e with
 | .ag cs=>qD cs o n agg
 | x=>cond (Nat.beq o 0&&Nat.beq n 1&&!agg) (some x) none
def wU (e:TV) (o:Nat) (x:TV):Option TV :=
 match e with
 | .ag cs=>cond (Nat.ble (o+x.cells.length) cs.length) (some (.ag (lV cs o x.cells))) none
 | _=>cond (Nat.beq o 0&&!x.pI) (some x) none
theorem AJ {e x:TV} {o n:Nat} {agg:Bool} (he:e.plain=true) (h:tE e o n agg=some x):pZ e.av o n agg=some x.av:=by
 cases e <;> first | cases he | skip
 case ag cs=>simp only [tE] at h;simp only [TV.av,TV.eP,pZ];exact mO h
 all_goals
  simp only [tE] at h
  cases hb:(Nat.beq o 0&&Nat.beq n 1&&!agg) with
  | false=>rw [hb] at h;cases h
  | true =>
   rw [hb] at h
   cases h
   simp only [aa,Bool.not_eq_true'] at hb
   obtain ⟨⟨h1,h2⟩,h3⟩:=hb
   have h1:=au h1
   have h2:=au h2
   simp [pZ,TV.av,eS,js,gL,h1,h2,h3]
theorem CJ {e x y:TV} {o:Nat} (he:e.plain=true) (hx:x.plain=true) (h:wU e o x=some y):uu e.av o x.av=some y.av:=by
 cases e <;> first | cases he | skip
 case ag cs =>
  simp only [wU] at h
  cases hb:Nat.ble (o+x.cells.length) cs.length with
  | false=>rw [hb] at h;cases h
  | true =>
   rw [hb] at h
   cases h
   simp only [TV.av,TV.eP,uu,TV.jQ x hx,aG,Nat.le_of_ble_eq_true hb,if_true,lq]
 all_goals
  simp only [wU] at h
  cases hb:(Nat.beq o 0&&!x.pI) with
  | false=>rw [hb] at h;cases h
  | true =>
   rw [hb] at h
   cases h
   simp only [aa,Bool.not_eq_true'] at hb
   have h1:=au hb.1
   have h2:=TV.Ca _ hx
   rw [hb.2] at h2
   simp [uu,TV.av,eS,js,gL,h1,h2]
theorem fT.ye (t:fT) (x:t.El):(t.tv x).plain=true:=by cases t <;> rfl
def fT.app:(t:fT)→List t.El→(t':fT)→List t'.El→Option (List t.El)
 | .bs,l,.bs,m=>some (l++m)
 | .is,l,.is,m=>some (l++m)
 | .ws,l,.ws,m=>some (l++m)
 | .ss,l,.ss,m=>some (l++m)
 | .Hs,l,.Hs,m=>some (l++m)
 | .fl,l,.fl,m=>some (l++m)
 | .ml,l,.ml,m=>some (l++m)
 | .il,l,.il,m=>some (l++m)
 | .sp,l,.sp,m=>some (l++m)
 | .ou,l,.ou,m=>some (l++m)
 | .us,l,.us,m=>some (l++m)
 | .qd,l,.qd,m=>some (l++m)
 | _,_,_,_=>none
theorem fT.xL {t t':fT} {l n:List t.El} {m:List t'.El} (h:t.app l t' m=some n):t'=t∧n.map t.av=l.map t.av++m.map t'.av∧n.length=l.length+m.length:=by
 unfold fT.app at h
 split at h <;> cases h <;> simp
def fT.P3 (t:fT):List TV→Option (List t.El)
 | []=>some []
 | x :: r=>match t.el x with
  | some y=>match t.P3 r with
   | some l=>some (y :: l)
   | none=>none
  | none=>none
theorem fT.je (t:fT) (x:t.El):(t.av x).plain=true∧(t.av x).cells.length=t.size:=by
 cases t with
 | fl=>cases x;exact ⟨rfl,rfl⟩
 | ml=>cases x;exact ⟨rfl,rfl⟩
 | il=>cases x;exact ⟨rfl,rfl⟩
 | _=>exact ⟨rfl,rfl⟩
theorem fT.Bg {t:fT}:∀{xs:List TV} {l:List t.El},t.P3 xs=some l→l.map t.av=xs.map TV.av∧∀x∈xs.map TV.av,x.plain=true∧x.cells.length=t.size
 | [],l,h=>by cases h;exact ⟨rfl,by simp⟩
 | x :: r,l,h=>by
  simp only [fT.P3] at h
  split at h
  ·rename_i y hy
   split at h
   ·rename_i m hm
    cases h
    obtain ⟨h1,h2⟩:=fT.Bg hm
    refine ⟨by simp [fT.Gp hy,h1],?_⟩
    intro z hz
    simp only [ah,bh] at hz
    rcases hz with rfl | hz
    ·rw [←fT.Gp hy];exact t.je y
    ·exact h2 z hz
   ·cases h
  ·cases h
def allM {A:Type} (f:TV→Option A):List TV→Option (List A)
 | []=>some []
 | x :: r=>match f x with
  | some y=>match allM f r with
   | some l=>some (y :: l)
   | none=>none
  | none=>none
theorem jS {A:Type} {f:TV→Option A} {g:A→TV} (hf:∀x y,f x=some y→x=g y):∀{xs:List TV} {l:List A},allM f xs=some l→xs=l.map g
 | [],l,h=>by cases h;rfl
 | x :: r,l,h=>by
  simp only [allM] at h
  split at h
  ·rename_i y hy
   split at h
   ·rename_i m hm
    cases h
    rw [hf _ _ hy,jS hf hm];rfl
   ·cases h
  ·cases h
def TV.str?:TV→Option bT | .s l=>some l | _=>none
def TV.i64?:TV→Option Int | .i .i64 l=>some l | _=>none
def TV.u8?:TV→Option UInt8 | .u8 l=>some l | _=>none
def TV.u64?:TV→Option UInt64 | .u64 l=>some l | _=>none
def TV.bool?:TV→Option Bool | .b l=>some l | _=>none
def TV.cx?:TV→Option Cx | .c (.complex .f64 x y)=>some (x,y) | _=>none
def fT.yu:fT→Bool
 | .bs=>true
 | .is=>true
 | .ws=>true
 | .ss=>true
 | .us=>true
 | _=>false
theorem fT.wO {t:fT} (h:t.yu=true) (l:List t.El):t.size=1∧∀x∈l.map t.av,∃y,x = .v y:=by
 cases t <;> first | (cases h;done) | (refine ⟨rfl,fun x hx=>?_⟩;obtain ⟨y,_,rfl⟩:=aO.1 hx;exact ⟨_,rfl⟩)
def TV.sl? (t:fT):TV→Option (List t.El)
 | .sl t' l=>if h:t'=t then some (h ▸ l) else none
 | _=>none
def G9 (cs:List TV) (n:Nat):Option TV :=
 match cs with
 | .s _ :: _=>match allM TV.str? cs with | some l=>some (.s (l.getD n [])) | none=>none
 | .i _ _ :: _=>match allM TV.i64? cs with | some l=>some (.i .i64 (l.getD n 0)) | none=>none
 | .u8 _ :: _=>match allM TV.u8? cs with | some l=>some (.u8 (l.getD n 0)) | none=>none
 | .u64 _ :: _=>match allM TV.u64? cs with | some l=>some (.u64 (l.getD n 0)) | none=>none
 | .b _ :: _=>match allM TV.bool? cs with | some l=>some (.b (l.getD n false)) | none=>none
 | .c _ :: _=>match allM TV.cx? cs with | some l=>some (.c (.complex .f64 (List.getD l n (0,0)).1 (List.getD l n (0,0)).2)) | none=>none
 | .sl t _ :: _=>match allM (TV.sl? t) cs with | some l=>some (.sl t (l.getD n [])) | none=>none
 | _=>none
theorem xK {cs:List TV} {n:Nat} {x:TV} (h:G9 cs n=some x) (hn:n<cs.length):cs[n]?=some x:=by
 unfold G9 at h
 split at h
 ·split at h
  ·rename_i l hl
   have:=jS (g := .s) (fun x y h=>by cases x <;> simp [TV.str?] at h;rw [h]) hl
   cases h
   rw [this] at hn ⊢
   have C9:n<l.length:=by simpa using hn
   simp [ak,aA C9]
  ·cases h
 ·split at h
  ·rename_i l hl
   have:=jS (g := .i .i64) (fun x y h=>by
    cases x <;> simp [TV.i64?] at h
    rename_i k m
    cases k <;> simp at h
    rw [h]) hl
   cases h
   rw [this] at hn ⊢
   have C9:n<l.length:=by simpa using hn
   simp [ak,aA C9]
  ·cases h
 ·split at h
  ·rename_i l hl
   have:=jS (g := .u8) (fun x y h=>by cases x <;> simp [TV.u8?] at h;rw [h]) hl
   cases h
   rw [this] at hn ⊢
   have C9:n<l.length:=by simpa using hn
   simp [ak,aA C9]
  ·cases h
 ·split at h
  ·rename_i l hl
   have:=jS (g := .u64) (fun x y h=>by cases x <;> simp [TV.u64?] at h;rw [h]) hl
   cases h
   rw [this] at hn ⊢
   have C9:n<l.length:=by simpa using hn
   simp [ak,aA C9]
  ·cases h
 ·split at h
  ·rename_i l hl
   have:=jS (g := .b) (fun x y h=>by cases x <;> simp [TV.bool?] at h;rw [h]) hl
   cases h
   rw [this] at hn ⊢
   have C9:n<l.length:=by simpa using hn
   simp [ak,aA C9]
  ·cases h
 ·split at h
  ·rename_i l hl
   have:=jS (g:=fun p => .c (.complex .f64 p.1 p.2)) (fun x y h=>by
    unfold TV.cx? at h
    split at h
    ·cases h;rfl
    ·cases h) hl
   cases h
   rw [this] at hn ⊢
   have C9:n<l.length:=by simpa using hn
   simp [ak,aA C9]
  ·cases h
 ·rename_i t _ _
  split at h
  ·rename_i l hl
   have:=jS (g := .sl t) (fun x y h=>by
    cases x <;> simp [TV.sl?] at h
    obtain ⟨rfl,h⟩:=h
    subst h;rfl) hl
   cases h
   rw [this] at hn ⊢
   have C9:n<l.length:=by simpa using hn
   simp [ak,aA C9]
  ·cases h
 ·cases h
def Mu (s m j:Nat) (cs:List TV):List TV:=(List.range m).map fun q=>cs.getD (q * s+j) .dead
def zS (s m n:Nat) (cs:List TV):Nat→Option (List TV)
 | 0=>some []
 | j+1=>match G9 (Mu s m (s - (j+1)) cs) n with
  | some x=>match zS s m n cs j with
   | some xs=>some (x :: xs)
   | none=>none
  | none=>none
theorem zR {s m n:Nat} {cs:List TV} (hl:m * s=cs.length) (hn:n<m):∀(j:Nat) {xs:List TV},j≤s→zS s m n cs j=some xs→xs=(cs.drop (n * s+(s - j))).take j
 | 0,xs,_,h=>by simp [zS] at h;simp [h]
 | j+1,xs,hj,h=>by
  simp only [zS] at h
  split at h
  ·rename_i x hx
   split at h
   ·rename_i ys hy
    cases h
    have h1:=zR hl hn j (by omega) hy
    have h2:=xK hx (by simpa [Mu] using hn)
    have eO:n * s+(s - (j+1))<cs.length:=by
     have:(n+1) * s≤m * s:=ar _ hn
     rw [Nat.succ_mul] at this;omega
    have e:x=cs[n * s+(s - (j+1))]:=by
     simp only [Mu,aI,List.getElem?_range hn,Option.map_some,aB] at h2
     rw [←h2,ak,aA eO];rfl
    rw [h1,List.drop_eq_getElem_cons eO,List.take_succ_cons,e,show n * s+(s - (j+1))+1=n * s+(s - j) by omega]
   ·cases h
  ·cases h
def uK (n:Nat):Bool:=decide (n≤maxLen)
def cq (n:Int) (l:Nat):Bool:=decide (0≤n)&&decide (n<l)
def gN (a b:Int) (l:Nat):Bool:=decide (0≤a)&&decide (a≤b)&&decide (b≤l)
def jo (n ki:Nat):Bool:=decide (n≤maxLen)&&decide (n * ki≤140737488355328)
def tc (l c:Int) (ki:Nat):Bool:=decide (0≤l)&&decide (l≤c)&&decide (c * ki≤140737488355328)&&decide (c≤maxLen)
def TV.bare:TV→TV
 | .gd _ x=>x
 | x=>x
def TV.Kh:TV→Option Bool
 | .gd q _=>some q
 | _=>none
theorem TV.Ct {x:TV} (h:∀q,x.Kh=some q→q=true):x.bare.av=x.av:=by
 cases x <;> first | rfl | skip
 rename_i q x
 have:=h q rfl
 subst this
 rfl
def EG (t:Bool) (x y:TV):Option TV :=
 match x,y with
 | .b a,.b b=>some (.b (cond t a b))
 | .i k a,.i k' b=>if k=k' then some (.i k (cond t a b)) else none
 | .u8 a,.u8 b=>some (.u8 (cond t a b))
 | .u16 a,.u16 b=>some (.u16 (cond t a b))
 | .u32 a,.u32 b=>some (.u32 (cond t a b))
 | .u64 a,.u64 b=>some (.u64 (cond t a b))
 | .s a,.s b=>some (.s (cond t a b))
 | _,_=>none
theorem EF {t:Bool} {x y z:TV} (h:EG t x y=some z):z.av=if t then x.av else y.av:=by
 unfold EG at h
 split at h <;> first | (cases h <;> cases t <;> rfl) | skip
 ·split at h
  ·rename_i e;subst e;cases h;cases t <;> rfl
  ·cases h
def EI (t:Bool) (x y:TV):jV :=
 match EG t x.bare y.bare with
 | some z=>match x.Kh,y.Kh with
  | none,none => .ok [z]
  | some p,none => .eM (!t || p) [z]
  | none,some q => .eM (t || q) [z]
  | some p,some q => .eM (cond t p q) [z]
 | none => .err
theorem EH (t : Bool) (x y : TV) : (EI t x y).zr (fun z => z = if t then x.av else y.av) := by
  intro ws h
  unfold EI at h
  split at h
  · rename_i z hz
    have hz := EF hz
    cases x <;> cases y <;> simp only [TV.Kh, TV.bare] at h hz <;> first
      | (cases h; exact ⟨_, rfl, hz⟩)
      | (obtain ⟨hp, rfl⟩ := h
         refine ⟨_, rfl, hz.trans ?_⟩
         cases t <;> simp at hp <;> simp [TV.av, hp])
  · exact h.elim
def H5 (x:Option TV):jV:=match x with | some x => .ok [x] | none => .err
def ee (p:Bool) (r:jV):jV:=cond p r .err
theorem bM {p:Bool} {r:jV} {ws:List TV} (h:(ee p r).holds ws):p=true∧r.holds ws:=by
 cases p with
 | true=>exact ⟨rfl,h⟩
 | false=>exact h.elim
theorem p8 {x:Option TV} {ws:List TV} (h:(H5 x).holds ws):∃y,x=some y∧ws=[y]:=by
 cases x with
 | none=>exact h.elim
 | some y=>exact ⟨y,rfl,h⟩
def Ax:Nat→List Cx→Nat→Cx→List Cx
 | _,[],_,_=>[]
 | j,p :: r,i,q=>cond (Nat.beq j i) q p :: Ax (j+1) r i q
def QR (p:Cx):TV := .c (.complex .f64 p.1 p.2)
def B1:List Cx→List TV
 | []=>[]
 | p :: r => .c (.complex .f64 p.1 p.2) :: B1 r
def Re (cs:List TV) (i:Nat) (x:TV):Option (List TV) :=
 match x.cx?,allM TV.cx? cs with
 | some q,some l=>some (B1 (Ax 0 l i q))
 | _,_=>none
theorem yR:∀l,B1 l=l.map QR
 | []=>rfl
 | p :: r=>by rw [B1,yR r];rfl
theorem G4 {a b:Nat} (h:a≠b):Nat.beq a b=false:=by
 cases e:Nat.beq a b with
 | false=>rfl
 | true=>exact (h (au e)).elim
theorem BG:∀(l:List Cx) (j i:Nat) (q:Cx),Ax j l (j+i) q=l.set i q
 | [],_,_,_=>rfl
 | p :: r,j,0,q=>by
  rw [Ax,Nat.add_zero,show Nat.beq j j=true from Nat.beq_refl j]
  simp only [aF,List.set_cons_zero]
  congr 1
  have:∀(l:List Cx) (k:Nat),j<k→Ax k l j q=l:=by
   intro l
   induction l with
   | nil=>intros;rfl
   | cons a r ih =>
    intro k hk
    rw [Ax,ih _ (by omega),G4 (show k≠j by omega)]
    rfl
  exact this r _ (by omega)
 | p :: r,j,i+1,q=>by
  rw [Ax,G4 (show j≠j+(i+1) by omega),show j+(i+1)=j+1+i by omega,BG r (j+1) i q]
  rfl
theorem GC {x:TV} {q:Cx} (h:x.cx?=some q):x=QR q:=by
 unfold TV.cx? at h
 split at h
 ·cases h;rfl
 ·cases h
theorem Lr {cs ds:List TV} {i:Nat} {x:TV} (h:Re cs i x=some ds) (hi:i<cs.length):x.plain=true∧x.av.cells.length=1∧ds.map TV.av=eH (cs.map TV.av) i x.av.cells:=by
 unfold Re at h
 split at h
 ·rename_i q l h1 h2
  cases h
  have hx:=GC h1
  have hc:=jS (g:=QR) (fun x y h=>GC h) h2
  subst hx;subst hc
  refine ⟨rfl,rfl,?_⟩
  have:=BG l 0 i q
  rw [Nat.zero_add] at this
  rw [this,yR]
  have PE:i<l.length:=by simpa using hi
  simp only [eH,AV.cells,QR,TV.av,aW,az]
  rw [List.set_eq_take_append_cons_drop,aH PE]
  simp only [List.map_append,ah,List.map_take,List.map_drop,aQ,List.singleton_append]
  rfl
 ·cases h
end Go.Eng
namespace Go.Eng
def Eo (k:K) (vs:List TV):jV :=
 match k,vs with
 | .Ki _ _ s ki,[.sl t l,.sl t' m,_,_]=>ee (Nat.beq s t.size&&Nat.beq s t'.size&&l.isEmpty) (.eM (jo m.length ki) [.pt,.dead,.sl t' m])
 | .Jz _ s,[x,.pt,.sl t l]=>ee (Nat.beq s t.size) (.ok [x,.sl t l,.dead])
 | .rl,[.c (.complex k a _)] => .ok [.c (.float k a)]
 | .im,[.c (.complex k _ b)] => .ok [.c (.float k b)]
 | .cx,[.c (.float .f64 a),.c (.float .f64 b)] => .ok [.c (.complex .f64 a b)]
 | .cf,[.i _ n] => .ok [.c (.float .f64 (Fl.ofInt n))]
 | .fc,[.c (.float .f64 b)] => .eM (Fl.lR b) [.i .i64 (Fl.toInt b)]
 | .MP,[.c (.float .f64 b)] => .eM (Fl.num b) [.c (.float .f64 (Fl.iH b))]
 | .H0 _ _ s,[.pt,i,.sl t l,_]=>match i.int? with
  | some (_,n)=>ee (Nat.beq s t.size) (.eM (gN 0 n l.length) [.pt,.dead,.sl t (l.take n.toNat)])
  | none => .err
 | .BP _ _ s ki,[.pt,.sl t' m,.sl t l,_]=>match t.app l t' m with
  | some n=>ee (Nat.beq s t.size) (.eM (jo (l.length+m.length) ki) [.pt,.dead,.sl t n])
  | none => .err
 | .ls _ s,[.el i s' o,.ag cs,x]=>match Re cs i x with
  | some ds=>ee (Nat.beq s' s&&Nat.beq s 1&&Nat.beq o 0) (.eM (decide (i<cs.length)) [.ag ds])
  | none => .err
 | .Jl _ o,[.pt,.ag cs,.pt]=>ee (Nat.ble (o+1) cs.length) (.ok [.ag (lV cs o [.pt])])
 | .JA _ o n c _ s,[.pt,.ag cs,.sl t l]=>match qD (cs.set c (.sl t l)) o n true with
  | some x=>ee (Nat.beq s t.size&&decide (c<cs.length)) (.ok [x,.ag (cs.set c (.sl t l)),.dead])
  | none => .err
 | _,_ => .err
def KK (k:K) (vs:List TV):jV :=
 match k,vs with
 | .mv,[x] => .ok [x]
 | .pick,[.b t,x,y]=>EI t x y
 | .bin o,[x,y]=>Mx o x y
 | .be neg,[.b a,.b b] => .ok [.b (cond neg (!(a == b)) (a == b))]
 | .un o,[x]=>Q0 o x
 | .ci k,[x]=>match x.int? with
  | some (_,n) => .ok [FE k n]
  | none => .err
 | .cs,[.s l] => .ok [.s l]
 | .sb,[.s l] => .eM (uK l.length) [.sl .bs l]
 | .Jn _,[.s l,_] => .eM (uK l.length) [.sl .bs l,.dead]
 | .bs,[.sl .bs l] => .ok [.s l]
 | .len,[.sl _ l] => .ok [.i .i64 l.length]
 | .vT,[.s l] => .ok [.i .i64 l.length]
 | .mn,[.i k a,.i k' b]=>ee (decide (k=k')) (.ok [.i k (vn a b)])
 | .mx,[.i k a,.i k' b]=>ee (decide (k=k')) (.ok [.i k (nu a b)])
 | .ix s,[.sl t l,i]=>match i.int? with
  | some (_,n)=>ee (Nat.beq s t.size) (.eM (cq n l.length) [.ro (t.tv (l.getD n.toNat t.Gw))])
  | none => .err
 | .si,[.s l,i]=>match i.int? with
  | some (_,n) => .eM (cq n l.length) [.u8 (l.getD n.toNat 0)]
  | none => .err
 | .ai m s agg,[.ag cs,i]=>match i.int?,agg with
  | some (_,n),false=>match G9 cs n.toNat with
   | some x=>ee (Nat.beq s 1&&Nat.beq m cs.length) (.eM (cq n m) [x])
   | none => .err
  | some (_,n),true=>match zS s m n.toNat cs s with
   | some xs=>ee (Nat.beq (m * s) cs.length) (.eM (cq n m) [.ag xs])
   | none => .err
  | _,_ => .err
 | .fe o n agg,[.ag cs]=>H5 (qD cs o n agg)
 | .sc s true true,[.sl t l,i,j]=>match i.int?,j.int? with
  | some (_,a),some (_,b)=>ee (Nat.beq s t.size) (.eM (gN a b l.length) [.sl t ((l.take b.toNat).drop a.toNat)])
  | _,_ => .err
 | .sc s true false,[.sl t l,i]=>match i.int? with
  | some (_,a)=>ee (Nat.beq s t.size) (.eM (gN a l.length l.length) [.sl t (l.drop a.toNat)])
  | _ => .err
 | .sc s false true,[.sl t l,j]=>match j.int? with
  | some (_,b)=>ee (Nat.beq s t.size) (.eM (gN 0 b l.length) [.sl t (l.take b.toNat)])
  | _ => .err
 | .sc s false false,[.sl t l]=>ee (Nat.beq s t.size) (.ok [.sl t l])
 | .ss true true,[.s l,i,j]=>match i.int?,j.int? with
  | some (_,a),some (_,b) => .eM (gN a b l.length) [.s ((l.take b.toNat).drop a.toNat)]
  | _,_ => .err
 | .ss true false,[.s l,i]=>match i.int? with
  | some (_,a) => .eM (gN a l.length l.length) [.s (l.drop a.toNat)]
  | _ => .err
 | .ss false true,[.s l,j]=>match j.int? with
  | some (_,b) => .eM (gN 0 b l.length) [.s (l.take b.toNat)]
  | _ => .err
 | .ss false false,[.s l] => .ok [.s l]
 | .bx _,[x,_]=>ee x.plain (.ok [.pt,.ag x.cells])
 | .ld _ o n agg,[.pt,.ag cs]=>H5 (qD cs o n agg)
 | .st _ o n,[.pt,.ag cs,x]=>ee (x.plain&&Nat.beq x.cells.length n&&Nat.ble (o+n) cs.length) (.ok [.ag (lV cs o x.cells)])
 | .lr n agg,[.ro x]=>ee (x.plain&&(x.pI == agg)&&Nat.beq x.cells.length n) (.ok [x])
 | .fa _ _ _,[.pt] => .ok [.pt]
 | .fr o n agg,[.ro (.ag cs)]=>match qD cs o n agg with
  | some x => .ok [.ro x]
  | none => .err
 | .nc _ _,[.pt] => .ok [.pt]
 | .N8,[.ro x] => .ok [.ro x]
 | .ex i,[.tu vs]=>H5 vs[i]?
 | .ap _ _ s ki,[.sl t l,.sl t' m,_,_]=>match t.app l t' m with
  | some n=>ee (Nat.beq s t.size) (.eM (jo (l.length+m.length) ki) [.sl t n,.dead,.dead])
  | none => .err
 | .Kj _ _ ki,[.sl .bs l,.s m,_,_] => .eM (jo (l.length+m.length) ki) [.sl .bs (l++m),.dead,.dead]
 | .an _ s ki,[.sl t l,_]=>ee (Nat.beq s t.size) (.eM (jo l.length ki) [.sl t l,.dead])
 | .Kl _ ki,[.s l,_] => .eM (jo l.length ki) [.sl .bs l,.dead]
 | .HZ _,[.s l,_] => .eM (uK l.length) [.pt,.sl .bs l]
 | .yE _,[.pt,.sl _ l] => .ok [.i .i64 l.length]
 | .lP _ s,[.pt,i,.sl t l]=>match i.int? with
  | some (_,n)=>ee (Nat.beq s t.size) (.eM (cq n l.length) [.el n.toNat s 0])
  | none => .err
 | .KU _ o,[.el i s o'] => .ok [.el i s (o'+o)]
 | .rQ _ s n agg,[.el i s' o,.sl t l]=>match tE (t.tv (l.getD i t.Gw)) o n agg with
  | some x=>ee (Nat.beq s' s&&Nat.beq s t.size) (.eM (decide (i<l.length)) [x])
  | none => .err
 | .sL _ s n,[.el i s' o,.sl t l,x]=>match wU (t.tv (l.getD i t.Gw)) o x with
  | some y=>match t.el y with
   | some e=>ee (Nat.beq s' s&&Nat.beq s t.size&&x.plain&&Nat.beq x.cells.length n) (.eM (decide (i<l.length)) [.sl t (l.set i e)])
   | none => .err
  | none => .err
 | .sM _ s,[.pt,.sl t l]=>ee (Nat.beq s t.size) (.ok [.sl t l,.sl t l,.dead])
 | .Jr _ _ s ki,[.pt,.sl t' m,.sl t l,_]=>match t.app l t' m with
  | some n=>ee (Nat.beq s t.size) (.eM (jo (l.length+m.length) ki) [.pt,.sl t l,.sl t n])
  | none => .err
 | .Kk _ _ _ s ki,[.sl t l,.pt,_,_,.sl t' m]=>match t.app l t' m with
  | some n=>ee (Nat.beq s t.size) (.eM (jo (l.length+m.length) ki) [.sl t n,.dead,.dead])
  | none => .err
 | .la _ n s,[.pt,i,.ag _]=>match i.int? with
  | some (_,m) => .eM (cq m n) [.el m.toNat s 0]
  | none => .err
 | .ll _ s,[.el i s' o,.ag cs]=>match G9 cs i with
  | some x=>ee (Nat.beq s' s&&Nat.beq s 1&&Nat.beq o 0) (.eM (decide (i<cs.length)) [x])
  | none => .err
 | .Nb,[.s l,.u8 c] => .ok [.i .i64 (Lib.indexByte l c)]
 | k,vs=>Eo k vs
theorem ir {n:Int} {l:Nat}:cq n l=true ↔ 0≤n∧n<l:=by simp [cq]
theorem jz {a b:Int} {l:Nat}:gN a b l=true ↔ 0≤a∧a≤b∧b≤l:=by simp [gN,and_assoc]
theorem jf {n b:Nat}:jo n b=true ↔ n≤maxLen∧n * b≤140737488355328:=by simp [jo]
theorem jJ {l c:Int} {b:Nat}:tc l c b=true ↔ 0≤l∧l≤c∧c * b≤140737488355328∧c≤maxLen:=by simp [tc,and_assoc]
theorem pC {n:Nat}:uK n=true ↔ n≤maxLen:=by simp [uK]
theorem getD_map {A:Type} (f:A→AV) (l:List A) (n:Int) (d:A) (h:0≤n∧n<l.length):(l.map f)[n.toNat]?=some (f (l.getD n.toNat d)):=by
 have:n.toNat<l.length:=by omega
 simp [ak,aA this]
theorem Gb (l:bT) (n:Int) (h:0≤n∧n<l.length):l[n.toNat]?=some (l.getD n.toNat 0):=by
 have:n.toNat<l.length:=by omega
 simp [ak,aA this]
theorem En (E:Env) {k:K} {vs ws:List TV} (h:(Eo k vs).holds ws):eh E k (vs.map TV.av) (ws.map TV.av):=by
 unfold Eo at h
 split at h
 ·obtain ⟨e0,h1,rfl⟩:=bM h
  simp only [aa,List.isEmpty_iff] at e0
  obtain ⟨⟨e0,e1⟩,rfl⟩:=e0
  have h1:=jf.1 h1
  have e0:=au e0
  have e1:=au e1
  simp only [List.map,eh,TV.av,ao,aG]
  exact ⟨e0.symm,e1.symm,by intro x hx;obtain ⟨y,_,rfl⟩:=aO.1 hx;rw [e1];exact (fT.je _ y).2,h1.1,h1.2,by rw [e1]⟩
 ·obtain ⟨e0,h⟩:=bM h;cases h
  have e0:=au e0
  simp only [List.map,eh,TV.av]
  exact ⟨e0.symm,by rw [e0]⟩
 ·cases h;rfl
 ·cases h;rfl
 ·cases h;rfl
 ·cases h;rfl
 ·obtain ⟨h1,rfl⟩:=h;exact ⟨h1,rfl⟩
 ·obtain ⟨h1,rfl⟩:=h;exact ⟨h1,rfl⟩
 ·split at h
  ·rename_i s i t l x0 k n e
   obtain ⟨e1,h1,rfl⟩:=bM h
   have e1:=au e1
   have h1:=jz.1 h1
   simp only [List.map,eh,TV.av,TV.gK e,aG]
   exact ⟨e1.symm,h1.2.1,by omega,by rw [e1,List.map_take]⟩
  ·exact h.elim
 ·split at h
  ·rename_i n e
   obtain ⟨e0,h1,rfl⟩:=bM h
   obtain ⟨rfl,e1,e2⟩:=fT.xL e
   have h1:=jf.1 h1
   simp only [List.map,eh,TV.av,aG]
   have e0:=au e0
   exact ⟨e0.symm,e0.symm,by intro x hx;obtain ⟨y,_,rfl⟩:=aO.1 hx;rw [e0];exact (fT.je _ y).2,h1.1,h1.2,by rw [e1,e0]⟩
  ·exact h.elim
 ·split at h
  ·rename_i s i s' o cs x ds hd
   obtain ⟨e1,h1,rfl⟩:=bM h
   simp only [aa,ay] at e1 h1
   obtain ⟨⟨e2,e3⟩,e4⟩:=e1
   have e2:=au e2
   have e3:=au e3
   have e4:=au e4
   subst e2;subst e3;subst e4
   obtain ⟨p1,p2,p3⟩:=Lr hd h1
   simp only [List.map,eh,TV.av,TV.eP]
   exact ⟨trivial,TV.lB _ p1,p2,by rw [aG];omega,by rw [p3,Nat.mul_one,Nat.add_zero]⟩
  ·exact h.elim
 ·obtain ⟨e,h⟩:=bM h;cases h
  simp only [List.map,eh,TV.av,TV.eP]
  exact ⟨by rw [aG];exact Nat.le_of_ble_eq_true e,by rw [lq];rfl⟩
 ·split at h
  ·rename_i x e
   obtain ⟨e0,h⟩:=bM h
   cases h
   simp only [aa,ay] at e0
   have e1:=au e0.1
   have e2:=mO e
   simp only [List.map,eh,TV.av,TV.eP]
   rw [List.map_set] at e2 ⊢
   refine ⟨x.av,e1.symm,by rw [aG];exact e0.2,?_,?_⟩
   ·rw [e1];exact e2
   ·rw [e1];rfl
  ·exact h.elim
 ·exact h.elim
theorem HS (E:Env) {k:K} {vs ws:List TV} (h:(KK k vs).holds ws):eh E k (vs.map TV.av) (ws.map TV.av):=by
 unfold KK at h
 split at h
 -- mv
 ·cases h;rfl
 ·obtain ⟨x,rfl,e⟩:=EH _ _ _ _ h;simp only [List.map,eh,TV.av];rw [e]
 ·obtain ⟨x,rfl,a,b,v,e1,e2,e3,e4⟩:=I5 _ _ _ _ h
  simp only [List.map,eh,e1,e2,e4];exact ⟨v,e3,rfl⟩
 ·cases h;rename_i neg a b;cases neg <;> rfl
 ·obtain ⟨x,rfl,a,v,e1,e2,e3⟩:=Kw _ _ _ h
  simp only [List.map,eh,e1,e3];exact ⟨v,e2,rfl⟩
 ·split at h
  ·rename_i e;cases h;simp only [List.map,eh,TV.gK e,FC]
  ·exact h.elim
 ·cases h;rfl
 ·obtain ⟨h1,rfl⟩:=h;exact ⟨pC.1 h1,rfl⟩
 ·obtain ⟨h1,rfl⟩:=h;exact ⟨pC.1 h1,rfl⟩
 ·cases h;exact ⟨_,rfl,rfl,rfl⟩
 ·cases h;simp only [List.map,eh,TV.av,aG]
 ·cases h;simp only [List.map,eh,TV.av,gL]
 ·obtain ⟨e,h⟩:=bM h;cases h;simp only [List.map,eh,TV.av]
 ·obtain ⟨e,h⟩:=bM h;cases h;simp only [List.map,eh,TV.av]
 ·split at h
  ·rename_i t l i k n e
   obtain ⟨e1,h1,rfl⟩:=bM h
   have e1:=au e1
   have h1:=ir.1 h1
   simp only [List.map,eh,TV.av,TV.gK e,fT.DW]
   exact ⟨_,e1,h1.1,getD_map _ _ _ _ h1,rfl⟩
  ·exact h.elim
 ·split at h
  ·rename_i e
   obtain ⟨h1,rfl⟩:=h
   have h1:=ir.1 h1
   simp only [List.map,eh,TV.av,gL,TV.gK e]
   exact ⟨_,h1.1,Gb _ _ h1,rfl⟩
  ·exact h.elim
 ·split at h
  ·rename_i m s cs i k n e
   split at h
   ·rename_i x hx
    obtain ⟨e1,h1,rfl⟩:=bM h
    simp only [aa] at e1
    have e2:=au e1.1
    have e3:=au e1.2
    subst e2;subst e3
    have h1:=ir.1 h1
    have hx:=xK hx (by omega)
    simp only [List.map,eh,TV.av,TV.gK e]
    refine ⟨x.av,h1.1,h1.2,?_,rfl⟩
    simp [fJ,TV.eP,hx]
   ·exact h.elim
  ·rename_i m s cs i _ _ k n e
   split at h
   ·rename_i xs hx
    obtain ⟨e1,h1,rfl⟩:=bM h
    have e1:=au e1
    have h1:=ir.1 h1
    have hx:=zR e1 (by omega) s (Nat.le_refl _) hx
    simp only [List.map,eh,TV.av,TV.gK e]
    have hle:n.toNat * s+s≤cs.length:=by
     have:(n.toNat+1) * s≤m * s:=ar _ (by omega)
     rw [Nat.succ_mul] at this;omega
    refine ⟨(TV.ag xs).av,h1.1,h1.2,?_,by simp only [TV.av]⟩
    rw [Nat.sub_self,Nat.add_zero] at hx
    simp [fJ,TV.eP,TV.av,hx,hle,List.map_take,List.map_drop]
   ·exact h.elim
  ·exact h.elim
 ·obtain ⟨y,e,rfl⟩:=p8 h
  simp only [List.map,eh,TV.av,TV.eP];exact ⟨_,mO e,rfl⟩
 ·split at h
  ·rename_i i j _ a _ b e1 e2
   obtain ⟨e,h1,rfl⟩:=bM h
   have h1:=jz.1 h1
   simp only [List.map,eh,TV.av,TV.gK e1,TV.gK e2,aG]
   exact ⟨au e,h1.1,h1.2.1,h1.2.2,by simp [au e,List.map_take,List.map_drop]⟩
  ·exact h.elim
 ·split at h
  ·rename_i i _ a e1
   obtain ⟨e,h1,rfl⟩:=bM h
   have h1:=jz.1 h1
   simp only [List.map,eh,TV.av,TV.gK e1,aG]
   exact ⟨au e,h1.1,h1.2.1,by simp [au e,List.map_take,List.map_drop]⟩
  ·exact h.elim
 ·split at h
  ·rename_i i _ a e1
   obtain ⟨e,h1,rfl⟩:=bM h
   have h1:=jz.1 h1
   simp only [List.map,eh,TV.av,TV.gK e1,aG]
   exact ⟨au e,h1.2.1,h1.2.2,by simp [au e,List.map_take,List.map_drop]⟩
  ·exact h.elim
 ·obtain ⟨e,h⟩:=bM h
  cases h
  simp only [List.map,eh,TV.av]
  exact ⟨au e,by rw [au e]⟩
 ·split at h
  ·rename_i i j _ a _ b e1 e2
   obtain ⟨h1,rfl⟩:=h
   have h1:=jz.1 h1
   simp only [List.map,eh,TV.av,gL,TV.gK e1,TV.gK e2]
   exact ⟨h1.1,h1.2.1,h1.2.2,by simp [List.take_drop,List.drop_take]⟩
  ·exact h.elim
 ·split at h
  ·rename_i i _ a e1
   obtain ⟨h1,rfl⟩:=h
   have h1:=jz.1 h1
   simp only [List.map,eh,TV.av,gL,TV.gK e1]
   exact ⟨h1.1,h1.2.1,by simp⟩
  ·exact h.elim
 ·split at h
  ·rename_i i _ a e1
   obtain ⟨h1,rfl⟩:=h
   have h1:=jz.1 h1
   simp only [List.map,eh,TV.av,gL,TV.gK e1]
   exact ⟨h1.2.1,h1.2.2,by simp⟩
  ·exact h.elim
 ·cases h;rfl
 ·obtain ⟨e,h⟩:=bM h;cases h
  simp only [List.map,eh,TV.av,TV.eP]
  exact ⟨TV.lB _ e,by rw [TV.jQ _ e]⟩
 ·obtain ⟨y,e,rfl⟩:=p8 h
  simp only [List.map,eh,TV.av,TV.eP];exact ⟨_,mO e,rfl⟩
 ·obtain ⟨e,h⟩:=bM h;cases h
  simp only [aa] at e
  obtain ⟨⟨e1,e2⟩,e3⟩:=e
  simp only [List.map,eh,TV.av,TV.eP]
  refine ⟨TV.lB _ e1,?_,?_,?_⟩
  ·rw [TV.jQ _ e1,aG];exact au e2
  ·rw [aG];exact Nat.le_of_ble_eq_true e3
  ·rw [TV.jQ _ e1,lq]
 ·obtain ⟨e,h⟩:=bM h;cases h
  simp only [aa,beq_iff_eq] at e
  obtain ⟨⟨e1,e2⟩,e3⟩:=e
  simp only [List.map,eh,TV.av]
  refine ⟨?_,?_,trivial⟩
  ·rw [TV.Ca _ e1,e2]
  ·rw [TV.jQ _ e1,aG];exact au e3
 ·cases h;rfl
 ·split at h
  ·rename_i x e
   cases h
   simp only [List.map,eh,TV.av,TV.eP];exact ⟨_,mO e,rfl⟩
  ·exact h.elim
 ·cases h;rfl
 ·cases h;rfl
 ·obtain ⟨y,e,rfl⟩:=p8 h
  simp only [List.map,eh,TV.av,TV.eP];exact ⟨y.av,by simp [e],rfl⟩
 ·split at h
  ·rename_i n e
   obtain ⟨e0,h1,rfl⟩:=bM h
   obtain ⟨rfl,e1,e2⟩:=fT.xL e
   have h1:=jf.1 h1
   simp only [List.map,eh,TV.av,aG]
   have e0:=au e0
   exact ⟨e0.symm,e0.symm,by intro x hx;obtain ⟨y,_,rfl⟩:=aO.1 hx;rw [e0];exact (fT.je _ y).2,h1.1,h1.2,by rw [e1,e0]⟩
  ·exact h.elim
 ·obtain ⟨h1,rfl⟩:=h
  have h1:=jf.1 h1
  simp only [List.map,eh,TV.av,gL,aG]
  exact ⟨rfl,h1.1,h1.2,by simp [fT.size];intro _ _;rfl⟩
 ·obtain ⟨e0,h1,rfl⟩:=bM h
  have h1:=jf.1 h1
  have e0:=au e0
  simp only [List.map,eh,TV.av,aG]
  exact ⟨e0.symm,by intro x hx;obtain ⟨y,_,rfl⟩:=aO.1 hx;rw [e0];exact (fT.je _ y).2,h1.1,h1.2,by rw [e0]⟩
 ·obtain ⟨h1,rfl⟩:=h
  have h1:=jf.1 h1
  simp only [List.map,eh,TV.av,gL]
  exact ⟨h1.1,h1.2,by simp [fT.size];intro _ _;rfl⟩
 ·obtain ⟨h1,rfl⟩:=h;exact ⟨pC.1 h1,rfl⟩
 ·cases h;simp only [List.map,eh,TV.av,aG]
 ·split at h
  ·rename_i s i t l k n e
   obtain ⟨e1,h1,rfl⟩:=bM h
   have e1:=au e1
   have h1:=ir.1 h1
   simp only [List.map,eh,TV.av,TV.gK e,aG]
   exact ⟨e1.symm,h1.1,by omega,trivial⟩
  ·exact h.elim
 ·cases h;rfl
 ·split at h
  ·rename_i s n agg i s' o t l _ x e
   obtain ⟨e1,h1,rfl⟩:=bM h
   simp only [aa,ay] at e1 h1
   have e2:=au e1.1
   have e3:=au e1.2
   simp only [List.map,eh,TV.av]
   refine ⟨t.av l[i],_,e2,e3.symm,by simp [aA h1],?_,rfl⟩
   have:=AJ (fT.ye t _) e
   rw [fT.DW,ak,aA h1] at this
   exact this
  ·exact h.elim
 ·split at h
  ·rename_i s n i s' o t l x _ y e
   split at h
   ·rename_i _ z e'
    obtain ⟨e1,h1,rfl⟩:=bM h
    simp only [aa,ay] at e1 h1
    obtain ⟨⟨⟨e2,e3⟩,e4⟩,e5⟩:=e1
    have e2:=au e2
    have e3:=au e3
    have e5:=au e5
    have:=CJ (fT.ye t _) e4 e
    rw [fT.DW,ak,aA h1,←fT.Gp e'] at this
    simp only [List.map,eh,TV.av]
    refine ⟨t.av l[i],_,e2,e3.symm,by simp [aA h1],TV.lB _ e4,by rw [TV.jQ _ e4,aG];exact e5,this,?_⟩
    rw [List.map_set,e3]
   ·exact h.elim
  ·exact h.elim
 ·obtain ⟨e0,h⟩:=bM h;cases h
  have e0:=au e0
  simp only [List.map,eh,TV.av]
  exact ⟨e0.symm,by rw [e0]⟩
 ·split at h
  ·rename_i n e
   obtain ⟨e0,h1,rfl⟩:=bM h
   obtain ⟨rfl,e1,e2⟩:=fT.xL e
   have h1:=jf.1 h1
   simp only [List.map,eh,TV.av,aG]
   have e0:=au e0
   exact ⟨e0.symm,e0.symm,h1.1,h1.2,by rw [e1,e0]⟩
  ·exact h.elim
 ·split at h
  ·rename_i n e
   obtain ⟨e0,h1,rfl⟩:=bM h
   obtain ⟨rfl,e1,e2⟩:=fT.xL e
   have h1:=jf.1 h1
   simp only [List.map,eh,TV.av,aG]
   have e0:=au e0
   exact ⟨e0.symm,e0.symm,h1.1,h1.2,by rw [e1,e0]⟩
  ·exact h.elim
 ·split at h
  ·rename_i e
   obtain ⟨h1,rfl⟩:=h
   have h1:=ir.1 h1
   simp only [List.map,eh,TV.av,TV.gK e]
   exact ⟨h1.1,h1.2,trivial⟩
  ·exact h.elim
 ·split at h
  ·rename_i x hx
   obtain ⟨e1,h1,rfl⟩:=bM h
   simp only [aa,ay] at e1 h1
   obtain ⟨⟨e2,e3⟩,e4⟩:=e1
   have e2:=au e2
   have e3:=au e3
   have e4:=au e4
   subst e3;subst e4
   have hx:=xK hx h1
   simp only [List.map,eh,TV.av]
   refine ⟨x.av,e2,?_,rfl⟩
   simp [fJ,TV.eP,hx]
  ·exact h.elim
 ·cases h
  rename_i l c
  have hc:((c.toNat:Int).toNat).toUInt8=c:=by simp
  simp only [List.map,eh,TV.av,gL,eS,hc,vW]
 ·exact En E h
end Go.Eng
namespace Go.Eng
inductive TK where
 | k (x:K)
 | bl (t:fT) (n:Nat)
 | blt (t:fT) (n k:Nat)
 | bd (z:List TV) (pl:List (Nat × Nat))
 | al (m:Nat) (z:List TV) (ts:List (Nat × (Nat × Nat)))
 | mk (d ki:Nat) (t:fT) (z:t.El)
 | nl (t:fT) (d:Nat)
 | CT (t:fT) (d:Nat)
 | DN (m:Nat) (ts:List (Nat × (Nat × fT)))
 | DJ (m o n:Nat) (ts:List (Nat × (Nat × fT)))
 | yO (d ki:Nat) (t:fT) (z:t.El)
 | DB (t:fT) (n k:Nat)
abbrev Du (ts:List (Nat × (Nat × fT))):List (Nat × (Nat × Nat)):=ts.map fun t=>(t.1,t.2.1,t.2.2.size)
def uB (cs:List TV):List (Nat × (Nat × fT))→List TV
 | []=>cs
 | t :: ts=>(uB cs ts).set t.1 (.sl t.2.2 [])
def isNil:Option TV→Bool
 | some (.c (.slice none 0 0))=>true
 | _=>false
def yM (cs:List TV):List (Nat × (Nat × fT))→Bool
 | []=>true
 | t :: ts=>isNil cs[t.1]?&&yM cs ts
theorem uA {cs:List TV}:∀{ts:List (Nat × (Nat × fT))},yM cs ts=true→(∀t∈Du ts,(cs.map TV.av)[t.1]?=some .nil)∧(uB cs ts).map TV.av=kN (cs.map TV.av) (Du ts)
 | [],_=>⟨fun _ h=>(by cases h),rfl⟩
 | t :: ts,h=>by
  simp only [yM,aa] at h
  obtain ⟨h1,h3⟩:=h
  obtain ⟨h4,h5⟩:=uA h3
  refine ⟨fun u hu=>?_,?_⟩
  ·rcases bh.1 hu with rfl | hu
   ·unfold isNil at h1
    split at h1
    ·rename_i e;rw [aI,e];rfl
    ·cases h1
   ·exact h4 u hu
  ·simp only [uB,kN,List.map_set,h5,ah];rfl
def TK.erase:TK→K
 | .k x=>x
 | .bl t n => .bl t.size n
 | .blt t n d => .blt t.size n d
 | .bd z pl => .bd (TV.Bs z) pl
 | .al m z ts => .al m (TV.Bs z) ts
 | .mk d b t z => .mk d t.size b (t.av z)
 | .nl t d => .nl d t.size
 | .CT t d => .CT d t.size
 | .DN m ts => .DN m (Du ts)
 | .DJ m o n ts => .DJ m o n (Du ts)
 | .yO d b t z => .yO d t.size b (t.av z)
 | .DB t n d => .DB t.size n d
inductive nR where
 | s (t:Nat)
 | c (x:TV)
 | g (n:Nat)
def nR.erase:nR→cO
 | .s t => .s t
 | .c x => .c x.av
 | .g n => .g n
structure qh where
 k:TK
 rs:List nR
 ds:List Nat
 gd:Option (Nat × Bool):=none
def qh.erase (m:qh):pK:=⟨m.k.erase,m.rs.map nR.erase,m.ds,m.gd⟩
inductive TM where
 | skip
 | eZ (ops:List qh)
 | seq (a:TM) (bL:Option (List Nat)) (b:TM)
 | cond (x:nR) (G:List (Nat × Gh)) (a b:TM)
 | block (id:Nat) (G:List (Nat × Gh)) (b:TM)
 | loop (bL:List Nat) (G:List (Nat × Gh)) (b:TM)
 | exit (id:Nat)
 | ret
 | sw (k k':Nat) (b:TM)
 | Hq (b:TM)
 | Hp (b:TM)
 | Hr (l:Nat) (bL:List Nat) (G:List (Nat × Gh)) (r b:TM)
def TM.erase:TM→M
 | .skip => .skip
 | .eZ ops => .eZ (ops.map qh.erase)
 | .seq a _ b => .seq a.erase b.erase
 | .cond x G a b => .cond x.erase G a.erase b.erase
 | .block id G b => .block id G b.erase
 | .loop bL G b => .loop bL G b.erase
 | .exit id => .exit id
 | .ret => .ret
 | .sw k k' b => .sw k k' b.erase
 | .Hq b => .Hq b.erase
 | .Hp b => .Hp b.erase
 | .Hr l bL G r b => .Hr l bL G r.erase b.erase
abbrev eW:=List TV→jV
structure eD where
 fs:Nat→eW × c7
 gl:Nat→TV
def eW.fs (c:eW × c7):FS:=⟨fun ins outs=>∃ti fZ,ins=ti.map TV.av∧outs=fZ.map TV.av∧(c.1 ti).holds fZ,c.2⟩
def eD.env (E:eD):Env:=⟨fun n=>eW.fs (E.fs n),fun n=>(E.gl n).av⟩
abbrev TS:=Nat→TV
abbrev TS.av (τ:TS):Sg:=fun k=>(τ k).av
def wN (τ:TS):List Nat→List TV→TS
 | t :: ts,x :: xs=>fun k=>cond (Nat.beq k t) x (wN τ ts xs k)
 | _,_=>τ
def cS (bL:List Nat) (jD:List TV):TS:=wN (fun _ => .dead) bL jD
theorem tC (τ:TS):∀(ts:List Nat) (xs:List TV),(wN τ ts xs).av=bN τ.av ts (xs.map TV.av)
 | t :: ts,x :: xs=>by
  funext k
  simp only [TS.av,wN,ah,bN,cF]
  rw [←tC τ ts xs]
  cases h:Nat.beq k t with
  | true=>rw [aH (au h)];rfl
  | false=>rw [aD (Nat.ne_of_beq_eq_false h)];rfl
 | [],_=>rfl
 | _ :: _,[]=>rfl
theorem oH (bL:List Nat) (jD:List TV):(cS bL jD).av=head bL (jD.map TV.av):=tC _ bL jD
def nR.ev (E:eD) (τ:TS):nR→TV
 | .s t=>τ t
 | .c x=>x
 | .g n=>E.gl n
theorem nR.Kc (E:eD) (τ:TS) (x:nR):x.erase.ev E.env τ.av=(x.ev E τ).av:=by cases x <;> rfl
def CS.FF (c:CS) (vs:List TV):List TV :=
 match c.ref with
 | some (i,_)=>(vs.take c.n).set i (vs.getD (c.n+(c.new.map (·.2)).toList.length) .dead)
 | none=>vs.take c.n
def CS.Fi (c:CS) (outs:List TV):TV :=
 match Nat.beq c.bO 1 with
 | true=>match c.new with
  | some _ => .pt
  | none=>outs.headD .dead
 | false => .tu ((outs.take c.bO).mapIdx fun i x=>cond (c.new.any (·.1 == i)) .pt x)
def CS.EB (c:CS) (vs:List TV):Bool :=
 match c.ref with
 | some (i,_)=>match vs[i]? with
  | some .pt=>true
  | _=>false
 | none=>true
def CS.IQ (c:CS) (outs:List TV):List TV:=c.Fi outs :: (outs.drop c.bO++c.mj.map fun _ => .dead)
def GO (C:eW) (c:CS) (vs:List TV):jV :=
 match c.EB vs with
 | true=>match C (c.FF vs) with
  | .ok outs=>ee (Nat.beq outs.length (c.bO+c.jl.length)) (.ok (c.IQ outs))
  | .eM p outs=>ee (Nat.beq outs.length (c.bO+c.jl.length)) (.eM p (c.IQ outs))
  | .err => .err
 | false => .err
def Ey (bO:Nat) (r:jV):jV :=
 match r with
 | .ok outs=>ee (Nat.beq outs.length bO) (.ok [cond (Nat.beq bO 1) (outs.headD .dead) (.tu outs)])
 | .eM p outs=>ee (Nat.beq outs.length bO) (.eM p [cond (Nat.beq bO 1) (outs.headD .dead) (.tu outs)])
 | .err => .err
def AI (C:eW) (n bO i s:Nat) (vs:List TV):jV :=
 match vs[n]?,vs[i]? with
 | some (.sl t l),some .pt=>ee (Nat.beq s t.size) (Ey bO (C ((vs.take n).set i (.sl t l))))
 | _,_ => .err
def AH (C:eW) (bO i s:Nat) (vs:List TV):jV :=
 match vs[i]? with
 | some (.sl t [])=>ee (Nat.beq s t.size) (Ey bO (C vs))
 | _ => .err
def TV.VP:TV→Bool
 | .u8 _=>true
 | .u16 _=>true
 | .u32 _=>true
 | .u64 _=>true
 | .i _ _=>true
 | .b _=>true
 | .s _=>true
 | .c _=>true
 | _=>false
def xM:List TV→Bool
 | []=>true
 | x :: r=>x.VP&&xM r
def Nk (bO:Nat) (r:jV):jV :=
 match r with
 | .ok outs=>ee (Nat.beq outs.length bO&&xM outs) (.ok [cond (Nat.beq bO 1) (outs.headD .dead) (.tu outs)])
 | .eM p outs=>ee (Nat.beq outs.length bO&&xM outs) (.eM p [cond (Nat.beq bO 1) (outs.headD .dead) (.tu outs)])
 | .err => .err
def AE (C:eW) (n bO i:Nat) (vs:List TV):jV :=
 match vs[n]?,vs[i]? with
 | some (.ag cs),some .pt=>Nk bO (C ((vs.take n).set i (.ro (.ag cs))))
 | _,_ => .err
def yD (rest:List TV) (r:jV):jV :=
 match r with
 | .ok [.sl t l]=>ee t.yu (.ok (.pt :: rest++[.sl t l]))
 | .eM p [.sl t l]=>ee t.yu (.eM p (.pt :: rest++[.sl t l]))
 | _ => .err
def Bc (C:eW) (n bO i s:Nat) (vs:List TV):jV :=
 match vs[n]?,vs[i]? with
 | some (.sl t l),some .pt=>ee (Nat.beq s t.size) (match C ((vs.take n).set i (.sl t l)) with
  | .ok outs=>ee (Nat.beq outs.length bO) (.ok [cond (Nat.beq bO 1) (outs.headD .dead) (.tu outs),.dead])
  | .eM p outs=>ee (Nat.beq outs.length bO) (.eM p [cond (Nat.beq bO 1) (outs.headD .dead) (.tu outs),.dead])
  | .err => .err)
 | _,_ => .err
def AR (C:eW) (n i s:Nat) (vs:List TV):jV :=
 match vs[n]?,vs[i]? with
 | some (.sl t l),some .pt=>ee (Nat.beq s t.size) (match C ((vs.take n).set i (.sl t l)) with
  | .ok [.sl t' l']=>ee (Nat.beq s t'.size) (.eM (!l.isEmpty) [.tu [],.sl t' l'])
  | .eM p [.sl t' l']=>ee (Nat.beq s t'.size) (.eM (p&&!l.isEmpty) [.tu [],.sl t' l'])
  | _ => .err)
 | _,_ => .err
def Bb (C:eW) (n i:Nat) (vs:List TV):jV :=
 match vs[n]?,vs[i]? with
 | some (.sl t l),some .pt=>ee t.yu (yD [.dead] (C ((vs.take n).set i (.sl t l))))
 | _,_ => .err
def LI (f:Nat):Value→Bool
 | .func (.func g) ⟨[]⟩ ⟨[]⟩=>Nat.beq g f
 | _=>false
def Bq (C:eW) (f bO:Nat) (vs:List TV):jV :=
 match vs with
 | .c x :: Jg=>ee (LI f x) (Ey bO (C Jg))
 | _ => .err
def wM (t:fT) (vs rest:List TV):jV :=
 match t.P3 vs with
 | some l => .ok (.sl t l :: rest)
 | none => .err
def ug (E:eD) (k:TK) (vs:List TV):jV :=
 match k with
 | .k (.call f c)=>GO (E.fs f).1 c vs
 | .k (.pQ f n bO i _ s)=>AI (E.fs f).1 n bO i s vs
 | .k (.qC f _ bO i s)=>AH (E.fs f).1 bO i s vs
 | .k (.pO f n bO i _)=>AE (E.fs f).1 n bO i vs
 | .k (.nK f n _)=>yD [] ((E.fs f).1 (vs.take n))
 | .k (.oO f n bO i _ s)=>Bc (E.fs f).1 n bO i s vs
 | .k (.lZ f n i _ _)=>Bb (E.fs f).1 n i vs
 | .k (.nI f n i _ s)=>AR (E.fs f).1 n i s vs
 | .k (.re f _ bO)=>Bq (E.fs f).1 f bO vs
 | .k k=>KK k vs
 | .bl t n=>ee (Nat.beq vs.length n) (wM t vs [])
 | .blt t n _=>ee (Nat.beq vs.length (n+1)) (wM t (vs.take n) [.dead])
 | .bd z pl=>match Cl z pl vs with
  | some cs => .ok [.ag cs]
  | none => .err
 | .al _ z ts => .ok (.pt :: .ag z :: ts.map fun _ => .dead)
 | .mk _ ki t z=>match vs with
  | [.i .i64 l,.i .i64 c,_] => .eM (tc l c ki) [.sl t (List.replicate l.toNat z),.dead]
  | _ => .err
 | .nl t _=>match vs with
  | [_] => .ok [.sl t [],.dead]
  | _ => .err
 | .CT t _=>match vs with
  | [_] => .ok [.pt,.sl t []]
  | _ => .err
 | .yO _ ki t z=>match vs with
  | [.i .i64 l,.i .i64 c,_] => .eM (tc l c ki) [.pt,.sl t (List.replicate l.toNat z)]
  | _ => .err
 | .DB t n _=>ee (Nat.beq vs.length (n+1)) (match t.P3 (vs.take n) with
  | some l => .ok [.pt,.sl t l]
  | none => .err)
 | .DN _ ts=>match vs with
  | x :: _=>ee (x.plain&&yM x.cells ts) (.ok (.pt :: .ag (uB x.cells ts) :: ts.map fun _ => .dead))
  | _ => .err
 | .DJ _ o n ts=>match vs with
  | .pt :: .ag cs :: x :: _=>ee (x.plain&&Nat.beq x.cells.length n&&Nat.ble (o+n) cs.length&&yM (lV cs o x.cells) ts) (.ok (.ag (uB (lV cs o x.cells) ts) :: ts.map fun _ => .dead))
  | _ => .err
def Dx:List TV→Option Bool
 | []=>none
 | x :: r=>match x.Kh,Dx r with
  | none,q=>q
  | some p,none=>some p
  | some p,some q=>some (p&&q)
def An (c:Bool) (q:Option Bool) (r:jV):jV :=
 match r,q with
 | .ok ws,none => .ok (ws.map (.gd c))
 | .ok ws,some q => .eM (!c || q) (ws.map (.gd c))
 | .eM p ws,none => .eM (!c || p) (ws.map (.gd c))
 | .eM p ws,some q => .eM (!c || (q&&p)) (ws.map (.gd c))
 | .err,_ => .err
def xt (τ:TS) (t:Nat) (b:Bool):Option Bool :=
 match τ t with
 | .b x=>some (cond b x (!x))
 | .gd q (.b x)=>some (q&&cond b x (!x))
 | _=>none
def Lw (n:Nat) (r:jV):jV :=
 match r with
 | .ok ws=>ee (Nat.beq ws.length n) (.ok ws)
 | .eM p ws=>ee (Nat.beq ws.length n) (.eM p ws)
 | .err => .err
def G7 (k:TK) (vs:List TV):List TV :=
 match k with
 | .k .pick=>match vs with
  | x :: r=>x.bare :: r
  | []=>[]
 | _=>vs.map TV.bare
def Mv (k:TK) (vs:List TV):Option Bool :=
 match k with
 | .k .pick=>match vs with
  | x :: _=>x.Kh
  | []=>none
 | _=>Dx vs
def stepT (E:eD) (m:qh) (τ:TS):jV :=
 match m.gd with
 | none=>Lw m.ds.length (ug E m.k (m.rs.map (nR.ev E τ)))
 | some (t,b)=>match xt τ t b with
  | some c=>Lw m.ds.length (An c (Mv m.k (m.rs.map (nR.ev E τ))) (ug E m.k (G7 m.k (m.rs.map (nR.ev E τ)))))
  | none => .err
section
variable {R:Type}
def runT (E:eD):List qh→TS→(TS→Option R)→Option R
 | [],τ,K=>K τ
 | m :: ms,τ,K=>match stepT E m τ with
  | .ok ws=>runT E ms (wN τ m.ds ws) K
  | .eM p ws=>ck p (runT E ms (wN τ m.ds ws) K)
  | .err=>none
def yx (bL:Option (List Nat)) (τ:TS):TS :=
 match bL with
 | none=>τ
 | some ks=>cS ks (ks.map τ)
abbrev dI (R:Type):=MX→TS→Option R
def fG (f:TS→dI R→Option R) (bL:Option (List Nat)) (K:dI R):dI R:=fun e τ =>
 match e with
 | .normal=>f (yx bL τ) K
 | e=>K e τ
def Ni (k k':Nat) (τ:TS):TS:=fun j=>cond (Nat.beq j (lk k)) (τ (lk k')) (cond (Nat.beq j (lk k')) (τ (lk k)) (τ j))
theorem KC (k k':Nat) (τ:TS):(Ni k k' τ).av=Au k k' τ.av:=by
 funext j
 simp only [TS.av,Ni,Au,n9]
 cases h:Nat.beq j (lk k) with
 | true=>rw [aH (au h)];rfl
 | false =>
  rw [aD (Nat.ne_of_beq_eq_false h)]
  cases h':Nat.beq j (lk k') with
  | true=>rw [aH (au h')];rfl
  | false=>rw [aD (Nat.ne_of_beq_eq_false h')];rfl
def MQ (k k':Nat) (K:dI R):dI R:=fun e τ =>
 match e with
 | .normal=>K .normal (Ni k k' τ)
 | e=>K e τ
def cG (id:Nat) (K:dI R):dI R:=fun e τ =>
 match e with
 | .exit j=>match Nat.beq j id with
  | true=>K .normal τ
  | false=>K (.exit j) τ
 | e=>K e τ
def jU:MX→Bool
 | .normal=>true
 | _=>false
def A1 (l:Nat):MX→Bool
 | .exit j=>Nat.beq j (gid l)
 | _=>false
def kE (f:TS→dI R→Option R) (tr:MX→Bool) (bL:List Nat):Nat→TS→dI R→Option R
 | 0,_,_=>none
 | n+1,τ,K=>f τ fun e iq =>
  match tr e with
  | true=>kE f tr bL n (cS bL (bL.map iq)) K
  | false=>K e iq
open Classical in
noncomputable def Lu (g:Nat→Option R):Option R:=if h:∃n r,g n=some r then g h.choose else none
noncomputable def eg (f:TS→dI R→Option R) (tr:MX→Bool) (bL:List Nat) (τ:TS) (K:dI R):Option R:=Lu fun n=>kE f tr bL n τ K
noncomputable def Fm (f:TS→dI R→Option R) (bL:List Nat) (τ:TS) (K:dI R):Option R:=eg f jU bL (cS bL (bL.map τ)) K
noncomputable def gn (f:TS→dI R→Option R) (tr:MX→Bool) (bL:List Nat) (K:dI R):dI R:=fun e τ =>
 match tr e with
 | true=>eg f tr bL (cS bL (bL.map τ)) K
 | false=>K e τ
noncomputable def fQ (R:Type) (E:eD) (m:TM):TS→dI R→Option R :=
 TM.rec (motive:=fun _=>TS→dI R→Option R)
  (fun τ K=>K .normal τ)
  (fun ops τ K=>runT E ops τ (K .normal))
  (fun _ bL _ fa fb τ K=>fa τ (fG fb bL K))
  (fun x _ _ _ fa fb τ K=>match x.ev E τ with
   | .b t=>cond t (fa τ K) (fb τ K)
   | _=>none)
  (fun id _ _ f τ K=>f τ (cG id K))
  (fun bL _ _ f τ K=>Fm f bL τ K)
  (fun id τ K=>K (.exit id) τ)
  (fun τ K=>K .ret τ)
  (fun k k' _ f τ K=>f τ (MQ k k' K))
  (fun _ f=>f)
  (fun _ f=>f)
  (fun l bL _ _ _ fr fb τ K=>fb τ (gn fr (A1 l) bL K)) m
noncomputable def ev (R:Type) (E:eD) (m:TM):TS→dI R→Option R :=
 TM.rec (motive:=fun _=>TS→dI R→Option R)
  (fun τ K=>K .normal τ)
  (fun ops τ K=>runT E ops τ (K .normal))
  (fun _ bL b fa fb τ K=>match bL with
   | none=>fa τ (fG fb none K)
   | some ks=>fa τ (fG (fQ R E b) (some ks) K))
  (fun x _ _ _ fa fb τ K=>match x.ev E τ with
   | .b t=>cond t (fa τ K) (fb τ K)
   | _=>none)
  (fun id _ _ f τ K=>f τ (cG id K))
  (fun bL _ b _ τ K=>Fm (fQ R E b) bL τ K)
  (fun id τ K=>K (.exit id) τ)
  (fun τ K=>K .ret τ)
  (fun k k' _ f τ K=>f τ (MQ k k' K))
  (fun _ f=>f)
  (fun _ f=>f)
  (fun l bL _ r _ _ fb τ K=>fb τ (gn (fQ R E r) (A1 l) bL K)) m
theorem ie (E:eD) (m:TM):fQ R E m=ev R E m:=by
 induction m with
 | skip=>rfl
 | eZ ops=>rfl
 | seq a bL b y6 tI =>
  funext τ K
  show fQ R E a τ (fG (fQ R E b) bL K)=(match bL with | none=>ev R E a τ (fG (ev R E b) none K) | some ks=>ev R E a τ (fG (fQ R E b) (some ks) K))
  cases bL with
  | none=>rw [y6,tI]
  | some ks=>rw [y6]
 | cond x G a b y6 tI =>
  funext τ K
  show (match x.ev E τ with | .b t=>cond t (fQ R E a τ K) (fQ R E b τ K) | _=>none)=(match x.ev E τ with | .b t=>cond t (ev R E a τ K) (ev R E b τ K) | _=>none)
  rw [y6,tI]
 | block id G b ih =>
  funext τ K
  show fQ R E b τ (cG id K)=ev R E b τ (cG id K)
  rw [ih]
 | loop bL G b ih=>rfl
 | exit id=>rfl
 | ret=>rfl
 | sw k k' b ih =>
  funext τ K
  show fQ R E b τ (MQ k k' K)=ev R E b τ (MQ k k' K)
  rw [ih]
 | Hq b ih=>exact ih
 | Hp b ih=>exact ih
 | Hr l bL G r b Qt tI =>
  funext τ K
  show fQ R E b τ (gn (fQ R E r) (A1 l) bL K)=ev R E b τ (gn (fQ R E r) (A1 l) bL K)
  rw [tI]
def MO (f:TS→dI R→Option R):Prop:=∀τ,∃p:Option (MX × TS),∀K:dI R,f τ K=p.bind fun q=>K q.1 q.2
theorem ib {g:Nat→Option R} (hm:∀n r,g n=some r→g (n+1)=some r) {r:R}:Lu g=some r ↔ ∃n,g n=some r:=by
 have up:∀n k r,g n=some r→g (n+k)=some r:=by
  intro n k
  induction k with
  | zero=>exact fun r h=>h
  | succ k ih=>exact fun r h=>hm _ _ (ih r h)
 unfold Lu
 constructor
 ·intro h
  split at h
  ·rename_i hx;exact ⟨_,h⟩
  ·cases h
 ·rintro ⟨n,hn⟩
  have hx:∃n r,g n=some r:=⟨n,r,hn⟩
  rw [dif_pos hx]
  obtain ⟨r',vp⟩:=hx.choose_spec
  rw [vp]
  have h1:=up _ n _ vp
  have h2:=up _ hx.choose _ hn
  rw [Nat.add_comm] at h2
  rw [h1] at h2
  exact h2
theorem C1 {g g':Nat→Option R} (hm:∀n r,g n=some r→g (n+1)=some r) (jC:∀n r,g' n=some r→g' (n+1)=some r) (h:∀r,(∃n,g n=some r) ↔ ∃n,g' n=some r):Lu g=Lu g':=by
 cases e:Lu g with
 | some r=>exact ((ib jC).2 ((h r).1 ((ib hm).1 e))).symm
 | none =>
  cases e':Lu g' with
  | none=>rfl
  | some r =>
   have:=(ib hm).2 ((h r).2 ((ib jC).1 e'))
   rw [e] at this;cases this
theorem fW {f:TS→dI R→Option R} (hf:MO f) {tr:MX→Bool} {bL:List Nat} {K:dI R}:∀(n:Nat) (τ:TS) (r:R),kE f tr bL n τ K=some r→kE f tr bL (n+1) τ K=some r
 | 0,_,_,h=>by cases h
 | n+1,τ,r,h=>by
  obtain ⟨p,hp⟩:=hf τ
  rw [kE] at h ⊢
  rw [hp] at h ⊢
  cases p with
  | none=>cases h
  | some q =>
   obtain ⟨e,iq⟩:=q
   simp only [Option.bind_some] at h ⊢
   cases ht:tr e with
   | true=>rw [ht] at h;exact fW hf n _ r h
   | false=>rw [ht] at h;exact h
theorem Fk {f:TS→dI R→Option R} (hf:MO f) (tr:MX→Bool) (bL:List Nat) (τ:TS) (K:dI R):eg f tr bL τ K=f τ (gn f tr bL K):=by
 obtain ⟨p,hp⟩:=hf τ
 rw [hp]
 have hN:∀n,kE f tr bL (n+1) τ K=p.bind fun q=>match tr q.1 with | true=>kE f tr bL n (cS bL (bL.map q.2)) K | false=>K q.1 q.2:=by
  intro n;rw [kE,hp]
 cases p with
 | none =>
  cases e:eg f tr bL τ K with
  | none=>rfl
  | some r =>
   obtain ⟨n,hn⟩:=(ib (fun n r=>fW hf n τ r)).1 e
   cases n with
   | zero=>cases hn
   | succ n=>rw [hN] at hn;cases hn
 | some q =>
  obtain ⟨e,iq⟩:=q
  simp only [Option.bind_some] at hN ⊢
  cases ht:tr e with
  | true =>
   simp only [gn,ht] at hN ⊢
   refine C1 (fun n r=>fW hf n τ r) (fun n r=>fW hf n _ r) fun r=>⟨?_,?_⟩
   ·rintro ⟨n,hn⟩
    cases n with
    | zero=>cases hn
    | succ n=>rw [hN] at hn;exact ⟨n,hn⟩
   ·rintro ⟨n,hn⟩
    exact ⟨n+1,by rw [hN];exact hn⟩
  | false =>
   simp only [gn,ht] at hN ⊢
   cases e':K e iq with
   | none =>
    cases e2:eg f tr bL τ K with
    | none=>rfl
    | some r =>
     obtain ⟨n,hn⟩:=(ib (fun n r=>fW hf n τ r)).1 e2
     cases n with
     | zero=>cases hn
     | succ n=>rw [hN,e'] at hn;cases hn
   | some r=>exact (ib (fun n r=>fW hf n τ r)).2 ⟨1,by rw [hN,e']⟩
theorem uh (E:eD):∀(ms:List qh) (τ:TS),∃p:Option TS,∀K:TS→Option R,runT E ms τ K=p.bind K
 | [],τ=>⟨some τ,fun K=>rfl⟩
 | m :: ms,τ=>by
  simp only [runT]
  cases h:stepT E m τ with
  | ok ws=>exact uh E ms _
  | eM p ws =>
   obtain ⟨q,hq⟩:=uh E ms (wN τ m.ds ws)
   cases p with
   | true=>exact ⟨q,fun K=>hq K⟩
   | false=>exact ⟨none,fun K=>rfl⟩
  | err=>exact ⟨none,fun K=>rfl⟩
noncomputable def qJ (P:TS→Option (MX × TS)) (tr:MX→Bool) (bL:List Nat):Nat→TS→Option (MX × TS)
 | 0,_=>none
 | n+1,τ=>(P τ).bind fun q=>match tr q.1 with
  | true=>qJ P tr bL n (cS bL (bL.map q.2))
  | false=>some q
open Classical in
theorem vS {f:TS→dI R→Option R} (hf:MO f) (tr:MX→Bool) (bL:List Nat):MO (eg f tr bL):=by
 intro τ
 let P:=fun τ=>(hf τ).choose
 have hP:∀τ K,f τ K=(P τ).bind fun q=>K q.1 q.2:=fun τ=>(hf τ).choose_spec
 have hI:∀n τ K,kE f tr bL n τ K=(qJ P tr bL n τ).bind fun q=>K q.1 q.2:=by
  intro n
  induction n with
  | zero=>exact fun _ _=>rfl
  | succ n ih =>
   intro τ K
   rw [kE,qJ,hP]
   cases P τ with
   | none=>rfl
   | some q =>
    simp only [Option.bind_some]
    cases tr q.1 with
    | true=>exact ih _ K
    | false=>rfl
 have Pn:∀n τ q,qJ P tr bL n τ=some q→qJ P tr bL (n+1) τ=some q:=by
  intro n
  induction n with
  | zero=>intro _ _ h;cases h
  | succ n ih =>
   intro τ q h
   rw [qJ] at h ⊢
   cases e:P τ with
   | none=>rw [e] at h;cases h
   | some q' =>
    rw [e] at h
    simp only [Option.bind_some] at h ⊢
    cases ht:tr q'.1 with
    | true=>rw [ht] at h;exact ih _ q h
    | false=>rw [ht] at h;exact h
 by_cases hx:∃n q,qJ P tr bL n τ=some q
 ·obtain ⟨n,q,hq⟩:=hx
  have xV:∀k,qJ P tr bL (n+k) τ=some q:=by
   intro k
   induction k with
   | zero=>exact hq
   | succ k ih=>exact Pn _ _ _ ih
  refine ⟨some q,fun K=>?_⟩
  simp only [Option.bind_some]
  cases e:K q.1 q.2 with
  | some r=>exact (ib (fun n r=>fW hf n τ r)).2 ⟨n,by rw [hI,hq];exact e⟩
  | none =>
   cases e':eg f tr bL τ K with
   | none=>rfl
   | some r =>
    obtain ⟨m,hm⟩:=(ib (fun n r=>fW hf n τ r)).1 e'
    have:kE f tr bL (m+n) τ K=some r:=by
     clear e e'
     induction n with
     | zero=>exact hm
     | succ n ih =>
      have up:∀k,kE f tr bL (m+k) τ K=some r:=by
       intro k
       induction k with
       | zero=>exact hm
       | succ k ih=>exact fW hf _ _ _ ih
      exact up _
    rw [hI,Nat.add_comm,xV] at this
    simp only [Option.bind_some] at this
    rw [e] at this;cases this
 ·refine ⟨none,fun K=>?_⟩
  cases e':eg f tr bL τ K with
  | none=>rfl
  | some r =>
   obtain ⟨m,hm⟩:=(ib (fun n r=>fW hf n τ r)).1 e'
   rw [hI] at hm
   cases e:qJ P tr bL m τ with
   | none=>rw [e] at hm;cases hm
   | some q=>exact absurd ⟨m,q,e⟩ hx
theorem C0 {f:TS→dI R→Option R} (hf:MO f) (bL:List Nat):MO (Fm f bL):=fun τ=>vS hf jU bL _
theorem Bf (E:eD) (m:TM):MO (fQ R E m):=by
 induction m with
 | skip=>exact fun τ=>⟨some (.normal,τ),fun K=>rfl⟩
 | eZ ops =>
  intro τ
  obtain ⟨p,hp⟩:=uh (R:=R) E ops τ
  exact ⟨p.map fun τ=>(.normal,τ),fun K=>by rw [Option.bind_map];exact hp _⟩
 | seq a bL b y6 tI =>
  intro τ
  obtain ⟨p,hp⟩:=y6 τ
  cases p with
  | none=>exact ⟨none,fun K=>hp _⟩
  | some q =>
   obtain ⟨e,iq⟩:=q
   cases e with
   | normal =>
    obtain ⟨p',jB⟩:=tI (yx bL iq)
    exact ⟨p',fun K=>(hp _).trans (jB _)⟩
   | exit i=>exact ⟨some (.exit i,iq),fun K=>hp _⟩
   | ret=>exact ⟨some (.ret,iq),fun K=>hp _⟩
 | cond x G a b y6 tI =>
  intro τ
  show ∃p:Option (MX × TS),∀K:dI R,(match x.ev E τ with | .b t=>cond t (fQ R E a τ K) (fQ R E b τ K) | _=>none)=_
  split
  ·rename_i t _
   cases t with
   | true=>exact y6 τ
   | false=>exact tI τ
  ·exact ⟨none,fun K=>rfl⟩
 | block id G b ih =>
  intro τ
  obtain ⟨p,hp⟩:=ih τ
  cases p with
  | none=>exact ⟨none,fun K=>hp _⟩
  | some q =>
   obtain ⟨e,iq⟩:=q
   cases e with
   | normal=>exact ⟨some (.normal,iq),fun K=>hp _⟩
   | exit i =>
    cases hb:Nat.beq i id with
    | true=>exact ⟨some (.normal,iq),fun K=>(hp _).trans (by simp only [Option.bind_some,cG,hb])⟩
    | false=>exact ⟨some (.exit i,iq),fun K=>(hp _).trans (by simp only [Option.bind_some,cG,hb])⟩
   | ret=>exact ⟨some (.ret,iq),fun K=>hp _⟩
 | loop bL G b ih=>exact C0 ih bL
 | exit id=>exact fun τ=>⟨some (.exit id,τ),fun K=>rfl⟩
 | ret=>exact fun τ=>⟨some (.ret,τ),fun K=>rfl⟩
 | sw k k' b ih =>
  intro τ
  obtain ⟨p,hp⟩:=ih τ
  cases p with
  | none=>exact ⟨none,fun K=>hp _⟩
  | some q =>
   obtain ⟨e,iq⟩:=q
   cases e with
   | normal=>exact ⟨some (.normal,Ni k k' iq),fun K=>hp _⟩
   | exit i=>exact ⟨some (.exit i,iq),fun K=>hp _⟩
   | ret=>exact ⟨some (.ret,iq),fun K=>hp _⟩
 | Hq b ih=>exact ih
 | Hp b ih=>exact ih
 | Hr l bL G r b Qt tI =>
  intro τ
  obtain ⟨p,hp⟩:=tI τ
  cases p with
  | none=>exact ⟨none,fun K=>hp _⟩
  | some q =>
   obtain ⟨e,iq⟩:=q
   cases ht:A1 l e with
   | true =>
    obtain ⟨p',jB⟩:=vS Qt (A1 l) bL (cS bL (bL.map iq))
    exact ⟨p',fun K=>(hp _).trans (by simp only [Option.bind_some,gn,ht];exact jB K)⟩
   | false=>exact ⟨some (e,iq),fun K=>(hp _).trans (by simp only [Option.bind_some,gn,ht])⟩
theorem de (E:eD) (tr:MX→Bool) (bL:List Nat) (b:TM) (τ:TS) (K:dI R) :
  eg (fQ R E b) tr bL τ K=ev R E b τ (gn (fQ R E b) tr bL K):=by rw [Fk (Bf E b),ie]
end
end Go.Eng
namespace Go.Eng
theorem Iy (c:CS) (vs:List TV):(c.FF vs).map TV.av=c.ins (vs.map TV.av):=by
 unfold CS.FF CS.ins
 cases c.ref with
 | none=>simp [List.map_take]
 | some q =>
  simp only [List.map_set,List.map_take]
  congr 1
  simp only [ak,aI]
  cases vs[c.n+(c.new.map (·.2)).toList.length]? <;> rfl
theorem Fh (c:CS) (outs:List TV):(c.Fi outs).av=c.main (outs.map TV.av):=by
 unfold CS.Fi CS.main
 cases h:Nat.beq c.bO 1 with
 | true =>
  rw [aH (au h)]
  cases c.new with
  | some q=>rfl
  | none=>cases outs <;> rfl
 | false =>
  rw [aD (Nat.ne_of_beq_eq_false h)]
  simp only [TV.av,TV.eP,AV.tu.injEq]
  apply List.ext_getElem?
  intro i
  simp only [aI,List.getElem?_mapIdx,aM]
  split
  ·cases outs[i]? with
   | none=>rfl
   | some x =>
    simp only [Option.map_some,aB]
    cases h:(c.new.any fun q=>q.1 == i) <;> simp
    rfl
  ·rfl
section
variable {E:eD}
theorem GN {f:Nat} {c:CS} {vs ws:List TV} (h:(GO (E.fs f).1 c vs).holds ws):eh E.env (.call f c) (vs.map TV.av) (ws.map TV.av):=by
 unfold GO at h
 cases hr:c.EB vs with
 | false=>rw [hr] at h;exact h.elim
 | true =>
  rw [hr] at h
  have key:∀{outs:List TV},((E.fs f).1 (c.FF vs)).holds outs→Nat.beq outs.length (c.bO+c.jl.length)=true→ws=c.IQ outs→eh E.env (.call f c) (vs.map TV.av) (ws.map TV.av):=by
   intro outs h1 h2 h3
   subst h3
   refine ⟨?_,outs.map TV.av,⟨_,_,(Iy c vs).symm,rfl,h1⟩,by rw [aG];exact au h2,?_⟩
   ·unfold CS.EB at hr
    cases hc:c.ref with
    | none=>trivial
    | some q =>
     rw [hc] at hr
     simp only at hr ⊢
     split at hr
     ·rename_i e;rw [aI,e];rfl
     ·cases hr
   ·simp only [CS.IQ,ah,Fh,List.map_append,List.map_drop,aW]
    rfl
  simp only at h
  cases hC:(E.fs f).1 (c.FF vs) with
  | ok outs =>
   rw [hC] at h
   obtain ⟨h1,h2⟩:=bM h
   exact key (outs:=outs) (by rw [hC];rfl) h1 h2
  | eM p outs =>
   rw [hC] at h
   obtain ⟨h1,h2⟩:=bM h
   exact key (outs:=outs) (by rw [hC];exact ⟨h2.1,rfl⟩) h1 h2.2
  | err=>rw [hC] at h;exact h.elim
theorem vK {t:fT} {vs rest ws:List TV} (h:(wM t vs rest).holds ws):∃l,l.map t.av=vs.map TV.av∧(∀x∈vs.map TV.av,x.plain=true∧x.cells.length=t.size)∧ws = .sl t l :: rest:=by
 unfold wM at h
 split at h
 ·rename_i l e
  obtain ⟨h1,h2⟩:=fT.Bg e
  exact ⟨l,h1,h2,h⟩
 ·exact h.elim
theorem wS {C:eW} {bO:Nat} {vs ws:List TV} (h:(Ey bO (C vs)).holds ws):∃outs,(C vs).holds outs∧outs.length=bO∧ws=[cond (Nat.beq bO 1) (outs.headD .dead) (.tu outs)]:=by
 unfold Ey at h
 cases hC:C vs with
 | ok outs =>
  rw [hC] at h
  obtain ⟨h1,h2⟩:=bM h
  exact ⟨outs,rfl,au h1,h2⟩
 | eM p outs =>
  rw [hC] at h
  obtain ⟨h1,h2⟩:=bM h
  exact ⟨outs,⟨h2.1,rfl⟩,au h1,h2.2⟩
 | err=>rw [hC] at h;exact h.elim
theorem qy {bO:Nat} (outs:List TV):(cond (Nat.beq bO 1) (outs.headD .dead) (.tu outs):TV).av=if bO=1 then (outs.map TV.av).headD .dead else .tu (outs.map TV.av):=by
 cases h:Nat.beq bO 1 with
 | true=>rw [aH (au h)];cases outs <;> rfl
 | false=>rw [aD (Nat.ne_of_beq_eq_false h)];simp only [ax,TV.av,TV.eP]
theorem CO {f n bO i k s:Nat} {vs ws:List TV} (h:(AI (E.fs f).1 n bO i s vs).holds ws):eh E.env (.pQ f n bO i k s) (vs.map TV.av) (ws.map TV.av):=by
 unfold AI at h
 split at h
 ·rename_i t l e1 e2
  obtain ⟨h0,h⟩:=bM h
  obtain ⟨outs,h1,h2,rfl⟩:=wS h
  have h0:=au h0
  refine ⟨l.map t.av,outs.map TV.av,by rw [aI,e1,h0];rfl,by rw [aI,e2];rfl,⟨_,outs,?_,rfl,h1⟩,by simpa using h2,by simp only [ah,ao,qy]⟩
  rw [List.map_set,List.map_take,h0];rfl
 ·exact h.elim
theorem CN {f n bO i s:Nat} {vs ws:List TV} (h:(AH (E.fs f).1 bO i s vs).holds ws):eh E.env (.qC f n bO i s) (vs.map TV.av) (ws.map TV.av):=by
 unfold AH at h
 split at h
 ·rename_i t e1
  obtain ⟨h0,h⟩:=bM h
  obtain ⟨outs,h1,h2,rfl⟩:=wS h
  have h0:=au h0
  exact ⟨outs.map TV.av,by rw [aI,e1,h0];rfl,⟨vs,outs,rfl,rfl,h1⟩,by simpa using h2,by simp only [ah,ao,qy]⟩
 ·exact h.elim
theorem Cu:∀{l:List TV},xM l=true→∀x∈l.map TV.av,∃y,x = .v y
 | [],_,x,hx=>by cases hx
 | z :: r,h,x,hx=>by
  simp only [xM,aa] at h
  rcases bh.1 hx with rfl | hx
  ·cases z <;> first | exact ⟨_,rfl⟩ | cases h.1
  ·exact Cu h.2 x hx
theorem CI {f n bO i m:Nat} {vs ws:List TV} (h:(AE (E.fs f).1 n bO i vs).holds ws):eh E.env (.pO f n bO i m) (vs.map TV.av) (ws.map TV.av):=by
 unfold AE at h
 split at h
 ·rename_i cs e1 e2
  have key:∃outs,((E.fs f).1 ((vs.take n).set i (.ro (.ag cs)))).holds outs∧outs.length=bO∧xM outs=true∧ws=[cond (Nat.beq bO 1) (outs.headD .dead) (.tu outs)]:=by
   unfold Nk at h
   cases hC:(E.fs f).1 ((vs.take n).set i (.ro (.ag cs))) with
   | ok outs =>
    rw [hC] at h
    obtain ⟨h1,h2⟩:=bM h
    simp only [aa] at h1
    exact ⟨outs,rfl,au h1.1,h1.2,h2⟩
   | eM p outs =>
    rw [hC] at h
    obtain ⟨h1,h2⟩:=bM h
    simp only [aa] at h1
    exact ⟨outs,⟨h2.1,rfl⟩,au h1.1,h1.2,h2.2⟩
   | err=>rw [hC] at h;exact h.elim
  obtain ⟨outs,h1,h2,h3,rfl⟩:=key
  refine ⟨cs.map TV.av,outs.map TV.av,by rw [aI,e1];simp only [Option.map_some,TV.av,TV.eP],by rw [aI,e2];rfl,⟨_,outs,?_,rfl,h1⟩,by simpa using h2,Cu h3,by simp only [ah,ao,qy]⟩
  rw [List.map_set,List.map_take];simp only [TV.av,TV.eP]
 ·exact h.elim
theorem yC {rest ws:List TV} {C:eW} {vs:List TV} (h:(yD rest (C vs)).holds ws):∃(t:fT) (l:List t.El),(C vs).holds [.sl t l]∧t.yu=true∧ws = .pt :: rest++[.sl t l]:=by
 unfold yD at h
 cases hC:C vs with
 | ok outs =>
  rw [hC] at h
  split at h
  ·rename_i t l e
   cases e
   obtain ⟨h1,h2⟩:=bM h
   exact ⟨t,l,rfl,h1,h2⟩
  ·rename_i e;cases e
  ·exact h.elim
 | eM p outs =>
  rw [hC] at h
  split at h
  ·rename_i e;cases e
  ·rename_i t l e
   cases e
   obtain ⟨h1,h2⟩:=bM h
   exact ⟨t,l,⟨h2.1,rfl⟩,h1,h2.2⟩
  ·exact h.elim
 | err=>rw [hC] at h;exact h.elim
theorem Dy {f n k:Nat} {vs ws:List TV} (h:(yD [] ((E.fs f).1 (vs.take n))).holds ws):eh E.env (.nK f n k) (vs.map TV.av) (ws.map TV.av):=by
 obtain ⟨t,l,h1,h2,rfl⟩:=yC h
 obtain ⟨h3,h4⟩:=fT.wO h2 l
 refine ⟨l.map t.av,⟨vs.take n,[.sl t l],by rw [List.map_take],?_,h1⟩,h4,?_⟩
 ·simp only [ah,ao,TV.av,h3]
 ·simp [TV.av,h3]
theorem CY {f n i k s:Nat} {vs ws:List TV} (h:(AR (E.fs f).1 n i s vs).holds ws):eh E.env (.nI f n i k s) (vs.map TV.av) (ws.map TV.av):=by
 unfold AR at h
 split at h
 ·rename_i t l e1 e2
  obtain ⟨h0,h⟩:=bM h
  have h0:=au h0
  have key:∃t' l',((E.fs f).1 ((vs.take n).set i (.sl t l))).holds [.sl t' l']∧s=t'.size∧l.isEmpty=false∧ws=[.tu [],.sl t' l']:=by
   split at h
   ·rename_i t' l' hC
    obtain ⟨h1,h2,h3⟩:=bM h
    exact ⟨t',l',by rw [hC];rfl,au h1,by simpa using h2,h3⟩
   ·rename_i p t' l' hC
    obtain ⟨h1,h2,h3⟩:=bM h
    rw [aa] at h2
    exact ⟨t',l',by rw [hC];exact ⟨h2.1,rfl⟩,au h1,by simpa using h2.2,h3⟩
   ·exact h.elim
  obtain ⟨t',l',h1,h2,h3,rfl⟩:=key
  refine ⟨l.map t.av,l'.map t'.av,by rw [aI,e1,h0];rfl,?_,by rw [aI,e2];rfl,⟨_,[.sl t' l'],?_,?_,h1⟩,?_⟩
  ·intro e
   have:=List.map_eq_nil_iff.1 e
   rw [this] at h3;cases h3
  ·rw [List.map_set,List.map_take,h0];rfl
  ·rw [h2];rfl
  ·rw [h2];rfl
 ·exact h.elim
theorem Dp {f n bO i k s:Nat} {vs ws:List TV} (h:(Bc (E.fs f).1 n bO i s vs).holds ws):eh E.env (.oO f n bO i k s) (vs.map TV.av) (ws.map TV.av):=by
 unfold Bc at h
 split at h
 ·rename_i t l e1 e2
  obtain ⟨h0,h⟩:=bM h
  have h0:=au h0
  have key:∃outs,((E.fs f).1 ((vs.take n).set i (.sl t l))).holds outs∧outs.length=bO∧ws=[cond (Nat.beq bO 1) (outs.headD .dead) (.tu outs),.dead]:=by
   cases hC:(E.fs f).1 ((vs.take n).set i (.sl t l)) with
   | ok outs =>
    rw [hC] at h
    obtain ⟨h1,h2⟩:=bM h
    exact ⟨outs,rfl,au h1,h2⟩
   | eM p outs =>
    rw [hC] at h
    obtain ⟨h1,h2⟩:=bM h
    exact ⟨outs,⟨h2.1,rfl⟩,au h1,h2.2⟩
   | err=>rw [hC] at h;exact h.elim
  obtain ⟨outs,h1,h2,rfl⟩:=key
  refine ⟨l.map t.av,outs.map TV.av,by rw [aI,e1,h0];rfl,by rw [aI,e2];rfl,⟨_,outs,?_,rfl,h1⟩,by simpa using h2,by simp only [ah,ao,qy];rfl⟩
  rw [List.map_set,List.map_take,h0];rfl
 ·exact h.elim
theorem Dn {f n i k k':Nat} {vs ws:List TV} (h:(Bb (E.fs f).1 n i vs).holds ws):eh E.env (.lZ f n i k k') (vs.map TV.av) (ws.map TV.av):=by
 unfold Bb at h
 split at h
 ·rename_i t l e1 e2
  obtain ⟨h0,h⟩:=bM h
  have h0:=(fT.wO h0 l).1
  obtain ⟨t',l',h1,h2,rfl⟩:=yC h
  obtain ⟨h3,h4⟩:=fT.wO h2 l'
  refine ⟨l.map t.av,l'.map t'.av,by rw [aI,e1];simp only [Option.map_some,TV.av,h0],by rw [aI,e2];rfl,⟨_,[.sl t' l'],?_,?_,h1⟩,h4,?_⟩
  ·rw [List.map_set,List.map_take];simp only [TV.av,h0]
  ·simp only [ah,ao,TV.av,h3]
  ·simp [TV.av,h3]
 ·exact h.elim
theorem Ix {f:Nat} {x:Value} (h:LI f x=true):x = .func (.func f) #[] #[]:=by
 unfold LI at h
 split at h
 ·rw [au h]
 ·cases h
theorem Dz {f n bO:Nat} {vs ws:List TV} (h:(Bq (E.fs f).1 f bO vs).holds ws):eh E.env (.re f n bO) (vs.map TV.av) (ws.map TV.av):=by
 unfold Bq at h
 split at h
 ·rename_i x Jg
  obtain ⟨h0,h⟩:=bM h
  obtain ⟨outs,h1,h2,rfl⟩:=wS h
  have:=Ix h0
  subst this
  exact ⟨Jg.map TV.av,outs.map TV.av,rfl,⟨Jg,outs,rfl,rfl,h1⟩,by simpa using h2,by simp only [ah,ao,qy]⟩
 ·exact h.elim
theorem BH {k:TK} {vs ws:List TV} (h:(ug E k vs).holds ws):eh E.env k.erase (vs.map TV.av) (ws.map TV.av):=by
 cases k with
 | k x =>
  by_cases hc:∃f c,x = .call f c
  ·obtain ⟨f,c,rfl⟩:=hc
   exact GN h
  ·cases x
   case call f c=>exact (hc ⟨_,_,rfl⟩).elim
   case pQ f n bO i k s=>exact CO h
   case qC f n bO i s=>exact CN h
   case pO f n bO i m=>exact CI h
   case nK f n k=>exact Dy h
   case oO f n bO i k s=>exact Dp h
   case nI f n i k s=>exact CY h
   case lZ f n i k k'=>exact Dn h
   case re f n bO=>exact Dz h
   all_goals exact HS _ h
 | bl t n =>
  obtain ⟨h0,h⟩:=bM h
  obtain ⟨l,h1,h2,rfl⟩:=vK h
  have h0:=au h0
  simp only [TK.erase,eh,List.map,TV.av,h1,aG]
  exact ⟨h0,h2,trivial⟩
 | blt t n d =>
  obtain ⟨h0,h⟩:=bM h
  obtain ⟨l,h1,h2,rfl⟩:=vK h
  have h0:=au h0
  simp only [TK.erase,eh,List.map,TV.av,h1,aG,←List.map_take]
  exact ⟨h0,h2,trivial⟩
 | bd z pl =>
  simp only [ug] at h
  split at h
  ·rename_i cs e
   cases h
   simp only [TK.erase,eh,List.map,TV.av,TV.eP]
   exact ⟨_,zF e,rfl⟩
  ·exact h.elim
 | al m z ts =>
  simp only [ug] at h
  cases h
  simp only [TK.erase,eh,ah,TV.av,aW]
  rfl
 | mk d b t z =>
  simp only [ug] at h
  split at h
  ·obtain ⟨h1,rfl⟩:=h
   obtain ⟨h1,h2,h3,h4⟩:=jJ.1 h1
   simp only [TK.erase,eh,List.map,TV.av]
   exact ⟨(fT.je _ _).1,(fT.je _ _).2,h1,h2,h3,h4,by simp⟩
  ·exact h.elim
 | nl t d =>
  simp only [ug] at h
  split at h
  ·cases h;rfl
  ·exact h.elim
 | CT t d =>
  simp only [ug] at h
  split at h
  ·cases h;rfl
  ·exact h.elim
 | yO d b t z =>
  simp only [ug] at h
  split at h
  ·obtain ⟨h1,rfl⟩:=h
   obtain ⟨h1,h2,h3,h4⟩:=jJ.1 h1
   simp only [TK.erase,eh,List.map,TV.av]
   exact ⟨(fT.je _ _).1,(fT.je _ _).2,h1,h2,h3,h4,by simp⟩
  ·exact h.elim
 | DB t n d =>
  obtain ⟨h0,h⟩:=bM h
  split at h
  ·rename_i l e
   cases h
   obtain ⟨h1,h2⟩:=fT.Bg e
   have h0:=au h0
   simp only [TK.erase,eh,List.map,TV.av,h1,aG,←List.map_take]
   exact ⟨h0,h2,trivial⟩
  ·exact h.elim
 | DN m ts =>
  simp only [ug] at h
  split at h
  ·obtain ⟨e,h⟩:=bM h
   cases h
   simp only [aa] at e
   obtain ⟨h1,h2⟩:=uA e.2
   simp only [TK.erase,eh,ah,TV.av,TV.eP,TV.jQ _ e.1]
   exact ⟨TV.lB _ e.1,h1,by rw [h2];simp only [Du,aW];rfl⟩
  ·exact h.elim
 | DJ m o n ts =>
  simp only [ug] at h
  split at h
  ·obtain ⟨e,h⟩:=bM h
   cases h
   simp only [aa] at e
   obtain ⟨⟨⟨e1,e2⟩,e3⟩,e4⟩:=e
   obtain ⟨h1,h2⟩:=uA e4
   rw [lq] at h1 h2
   simp only [TK.erase,eh,ah,TV.av,TV.eP,TV.jQ _ e1,aG]
   exact ⟨TV.lB _ e1,au e2,Nat.le_of_ble_eq_true e3,h1,by rw [h2];simp only [Du,aW];rfl⟩
  ·exact h.elim
theorem zU:∀{l:List TV},(∀q,Dx l=some q→q=true)→∀x∈l,∀q,x.Kh=some q→q=true
 | [],_,_,hx,_,_=>by cases hx
 | y :: r,h,x,hx,q,hq=>by
  simp only [Dx] at h
  rcases bh.1 hx with rfl | hx
  ·rw [hq] at h
   cases e:Dx r with
   | none=>rw [e] at h;exact h _ rfl
   | some p=>rw [e] at h;exact (Bool.and_eq_true_iff.1 (h _ rfl)).1
  ·refine zU (l:=r) ?_ x hx q hq
   intro p hp
   rw [hp] at h
   cases e:y.Kh with
   | none=>rw [e] at h;exact h _ rfl
   | some p'=>rw [e] at h;exact (Bool.and_eq_true_iff.1 (h _ rfl)).2
theorem yc {c:Bool} {q:Option Bool} {r:jV} {ws:List TV} (h:(An c q r).holds ws) (hc:c=true):∃vs,r.holds vs∧ws=vs.map (.gd c)∧∀p,q=some p→p=true:=by
 subst hc
 cases r <;> cases q
 ·exact ⟨_,rfl,h,by simp⟩
 ·rename_i vs q
  obtain ⟨h1,rfl⟩:=h
  exact ⟨vs,rfl,rfl,by rintro _ ⟨⟩;simpa using h1⟩
 ·rename_i p vs
  obtain ⟨h1,rfl⟩:=h
  exact ⟨vs,⟨by simpa using h1,rfl⟩,rfl,by simp⟩
 ·rename_i p vs q
  obtain ⟨h1,rfl⟩:=h
  simp at h1
  exact ⟨vs,⟨h1.2,rfl⟩,rfl,by rintro _ ⟨⟩;exact h1.1⟩
 ·exact h.elim
 ·exact h.elim
theorem wA {c:Bool} {q:Option Bool} {r:jV} {ws:List TV} (h:(An c q r).holds ws):∃vs:List TV,ws=vs.map (.gd c):=by
 cases r <;> cases q <;> first | exact ⟨_,h⟩ | exact ⟨_,h.2⟩ | exact h.elim
theorem uJ {n:Nat} {r:jV} {ws:List TV} (h:(Lw n r).holds ws):r.holds ws∧ws.length=n:=by
 cases r with
 | ok vs=>obtain ⟨h1,h2⟩:=bM h;cases h2;exact ⟨rfl,au h1⟩
 | eM p vs=>obtain ⟨h1,h2⟩:=bM h;obtain ⟨h2,rfl⟩:=h2;exact ⟨⟨h2,rfl⟩,au h1⟩
 | err=>exact h.elim
theorem Dl {τ:TS} {t:Nat} {b c:Bool} (h:xt τ t b=some c):mo τ.av (some (t,b))=some c:=by
 unfold xt at h
 simp only [mo,TS.av]
 split at h
 ·rename_i x e;cases h;rw [e];cases b <;> cases x <;> rfl
 ·rename_i q x e;cases h;rw [e];cases q <;> cases b <;> cases x <;> rfl
 ·cases h
theorem G6 {k:TK} {vs:List TV} (h:∀p,Mv k vs=some p→p=true):(G7 k vs).map TV.av=vs.map TV.av:=by
 have base:(∀p,Dx vs=some p→p=true)→(vs.map TV.bare).map TV.av=vs.map TV.av:=fun h=>by
  rw [aW];exact List.map_congr_left fun x hx=>TV.Ct (zU h x hx)
 unfold Mv at h
 unfold G7
 split at h
 ·split at h
  ·simp only [ah];rw [TV.Ct h]
  ·rfl
 ·exact base h
theorem yl {m:qh} {τ:TS} {ws:List TV} (h:(stepT E m τ).holds ws):Jm E.env m.erase τ.av (wN τ m.ds ws).av:=by
 unfold stepT at h
 have DL:∀l:List nR,(l.map nR.erase).map (cO.ev E.env τ.av)=(l.map (nR.ev E τ)).map TV.av:=by
  intro l;simp only [aW];exact List.map_congr_left fun x _=>nR.Kc E τ x
 cases hg:m.gd with
 | none =>
  rw [hg] at h
  obtain ⟨h1,h2⟩:=uJ h
  refine ⟨ws.map TV.av,?_,by simpa [qh.erase] using h2,tC _ _ _⟩
  simp only [qh.erase,hg,mo,DL]
  exact BH h1
 | some q =>
  obtain ⟨t,b⟩:=q
  rw [hg] at h
  simp only at h
  cases hc:xt τ t b with
  | none=>rw [hc] at h;exact h.elim
  | some c =>
   rw [hc] at h
   obtain ⟨h1,h2⟩:=uJ h
   refine ⟨ws.map TV.av,?_,by simpa [qh.erase] using h2,tC _ _ _⟩
   simp only [qh.erase,hg,Dl hc]
   cases c with
   | true =>
    obtain ⟨vs,h3,rfl,h4⟩:=yc h1 rfl
    have e1:(vs.map (TV.gd true)).map TV.av=vs.map TV.av:=by simp only [aW];exact List.map_congr_left fun x _=>rfl
    have e2:=G6 h4
    simp only [DL,e1,←e2]
    exact BH h3
   | false =>
    obtain ⟨vs,rfl⟩:=wA h1
    simp only [aW]
    apply List.ext_getElem?
    intro i
    simp only [aG] at h2
    simp only [aI]
    by_cases hi:i<vs.length
    ·rw [aA hi,aA (by omega)];rfl
    ·rw [List.getElem?_eq_none (by omega),List.getElem?_eq_none (by omega)];rfl
theorem wP {R:Type} {r:R} {K:TS→Option R}:∀{ms:List qh} {τ:TS},runT E ms τ K=some r→∃iq:TS,Eu E.env (ms.map qh.erase) τ.av iq.av∧K iq=some r
 | [],τ,h=>⟨τ,rfl,h⟩
 | m :: ms,τ,h=>by
  simp only [runT] at h
  cases hs:stepT E m τ with
  | ok ws =>
   rw [hs] at h
   obtain ⟨iq,h1,h2⟩:=wP h
   exact ⟨iq,⟨_,yl (ws:=ws) (by rw [hs];rfl),h1⟩,h2⟩
  | eM p ws =>
   rw [hs] at h
   obtain ⟨hp,h⟩:=I2.1 h
   obtain ⟨iq,h1,h2⟩:=wP h
   exact ⟨iq,⟨_,yl (ws:=ws) (by rw [hs];exact ⟨hp,rfl⟩),h1⟩,h2⟩
  | err=>rw [hs] at h;cases h
theorem Ew (bL:Option (List Nat)) (τ:TS):Le (yx bL τ).av τ.av:=by
 cases bL with
 | none=>exact fun _ => .inl rfl
 | some ks =>
  intro k
  have:∀ks:List Nat,cS ks (ks.map τ) k=τ k∨cS ks (ks.map τ) k = .dead:=by
   intro ks
   induction ks with
   | nil=>exact .inr rfl
   | cons j ks ih =>
    simp only [cS,ah,wN] at ih ⊢
    cases h:Nat.beq k j with
    | true=>left;rw [au h];rfl
    | false=>exact ih
  rcases this ks with e | e
  ·left;simp only [TS.av,yx,e]
  ·right;simp only [TS.av,yx,e];rfl
theorem rj (σ:Sg):∀bL:List Nat,Jc σ bL (bL.map σ)
 | []=>trivial
 | k :: ks=>⟨rfl,rj σ ks⟩
theorem P2 {R:Type} {r:R} {m:TM}:∀{τ:TS} {K:dI R},fQ R E m τ K=some r→pH E.env m.erase (fun e σ=>∃iq:TS,σ=iq.av∧K e iq=some r) τ.av:=by
 induction m with
 | skip=>exact fun h=>⟨_,rfl,h⟩
 | eZ ops =>
  intro τ K h
  obtain ⟨iq,h1,h2⟩:=wP (E:=E) h
  exact ⟨_,h1,iq,rfl,h2⟩
 | seq a bL b y6 tI =>
  intro τ K h
  show pH E.env a.erase _ τ.av
  refine ky (m:=a.erase) (Q:=fun e σ=>∃iq:TS,σ=iq.av∧fG (fQ R E b) bL K e iq=some r) (fun e σ q=>?_) (y6 h)
  obtain ⟨iq,rfl,q⟩:=q
  cases e with
  | normal=>exact ⟨_,Ew bL iq,tI q⟩
  | exit i=>exact ⟨iq,rfl,q⟩
  | ret=>exact ⟨iq,rfl,q⟩
 | cond x G a b y6 tI =>
  intro τ K h
  have h:(match x.ev E τ with | .b t=>cond t (fQ R E a τ K) (fQ R E b τ K) | _=>none)=some r:=h
  split at h
  ·rename_i t e
   refine .inl ⟨t,by rw [nR.Kc,e];rfl,?_,?_⟩
   ·rintro rfl;exact y6 h
   ·rintro rfl;exact tI h
  ·cases h
 | block id G b ih =>
  intro τ K h
  show pH E.env b.erase _ τ.av
  refine ky (m:=b.erase) (Q:=fun e σ=>∃iq:TS,σ=iq.av∧cG id K e iq=some r) (fun e σ q=>?_) (ih h)
  obtain ⟨iq,rfl,q⟩:=q
  cases e with
  | normal=>exact ⟨iq,rfl,q⟩
  | exit i =>
   simp only [cG] at q ⊢
   cases hb:Nat.beq i id with
   | true=>rw [hb] at q;rw [aH (au hb)];exact ⟨iq,rfl,q⟩
   | false=>rw [hb] at q;rw [aD (Nat.ne_of_beq_eq_false hb)];exact ⟨iq,rfl,q⟩
  | ret=>exact ⟨iq,rfl,q⟩
 | loop bL G b ih =>
  intro τ K h
  have hl:=(ib (fun n r=>fW (Bf E b) n _ r)).1 h
  obtain ⟨n,hn⟩:=hl
  refine ⟨{ p:Nat × TS // kE (fQ R E b) jU bL p.1 (cS bL (bL.map p.2)) K=some r },fun p=>bL.map p.1.2.av,fun p=>p.1.1,⟨(n,τ),hn⟩,rj _ bL,?_⟩
  rintro ⟨⟨n,τ⟩,hn⟩
  cases n with
  | zero=>cases hn
  | succ n =>
   simp only [kE] at hn
   have e:head bL (bL.map τ.av)=(cS bL (bL.map τ)).av:=by rw [oH,aW];rfl
   simp only
   rw [e]
   refine ky (fun e σ q=>?_) (ih hn)
   obtain ⟨iq,rfl,q⟩:=q
   cases e with
   | normal=>exact ⟨⟨(n,iq),q⟩,Nat.lt_succ_self n,rj _ bL⟩
   | exit i=>exact ⟨iq,rfl,q⟩
   | ret=>exact ⟨iq,rfl,q⟩
 | exit id=>exact fun h=>⟨_,rfl,h⟩
 | ret=>exact fun h=>⟨_,rfl,h⟩
 | sw k k' b ih =>
  intro τ K h
  show pH E.env b.erase _ τ.av
  refine ky (m:=b.erase) (Q:=fun e σ=>∃iq:TS,σ=iq.av∧MQ k k' K e iq=some r) (fun e σ q=>?_) (ih h)
  obtain ⟨iq,rfl,q⟩:=q
  cases e with
  | normal=>exact ⟨Ni k k' iq,(KC k k' iq).symm,q⟩
  | exit i=>exact ⟨iq,rfl,q⟩
  | ret=>exact ⟨iq,rfl,q⟩
 | Hq b ih=>exact fun h=>ih h
 | Hp b ih=>exact fun h=>ih h
 | Hr l bL G x b OW tI =>
  intro τ K h
  have key:∀{e:MX} {iq:TS},gn (fQ R E x) (A1 l) bL K e iq=some r→(e = .exit (gid l)∧∃n,kE (fQ R E x) (A1 l) bL n (cS bL (bL.map iq)) K=some r)∨(e ≠ .exit (gid l)∧K e iq=some r):=by
   intro e iq q
   simp only [gn] at q
   cases ht:A1 l e with
   | true =>
    rw [ht] at q
    left
    cases e <;> simp only [A1,aY] at ht
    exact ⟨by rw [au ht],(ib (fun n r=>fW (Bf E x) n _ r)).1 q⟩
   | false =>
    rw [ht] at q
    refine .inr ⟨?_,q⟩
    rintro rfl
    simp [A1] at ht
  refine ⟨{ p:Nat × TS // kE (fQ R E x) (A1 l) bL p.1 (cS bL (bL.map p.2)) K=some r },fun p=>bL.map p.1.2.av,fun p=>p.1.1,?_,?_⟩
  ·refine ky (fun e σ q=>?_) (tI h)
   obtain ⟨iq,rfl,q⟩:=q
   rcases key q with ⟨rfl,n,hn⟩ | ⟨fI,q⟩
   ·simp only [if_true]
    exact ⟨⟨(n,iq),hn⟩,rj _ bL⟩
   ·cases e with
    | exit j =>
     have:j≠gid l:=fun e=>fI (by rw [e])
     simp only [this,if_false]
     exact ⟨iq,rfl,q⟩
    | normal=>exact ⟨iq,rfl,q⟩
    | ret=>exact ⟨iq,rfl,q⟩
  ·rintro ⟨⟨n,τ⟩,hn⟩
   cases n with
   | zero=>cases hn
   | succ n =>
    simp only [kE] at hn
    have e:head bL (bL.map τ.av)=(cS bL (bL.map τ)).av:=by rw [oH,aW];rfl
    simp only
    rw [e]
    refine ky (fun e σ q=>?_) (OW hn)
    obtain ⟨iq,rfl,q⟩:=q
    cases ht:A1 l e with
    | true =>
     rw [ht] at q
     cases e <;> simp only [A1,aY] at ht
     rw [au ht]
     simp only [if_true]
     exact ⟨⟨(n,iq),q⟩,Nat.lt_succ_self n,rj _ bL⟩
    | false =>
     rw [ht] at q
     cases e with
     | exit j =>
      have:j≠gid l:=fun e=>by subst e;simp [A1] at ht
      simp only [this,if_false]
      exact ⟨iq,rfl,q⟩
     | normal=>exact ⟨iq,rfl,q⟩
     | ret=>exact ⟨iq,rfl,q⟩
end
structure gS where
 np:Nat
 m:TM
 ref:Option (Nat × Nat):=none
 fR:List (Nat × (Nat × Nat)):=[]
 res:List RV
 own:List (Nat × Nat):=[]
 new:Option (Nat × Nat):=none
 fD:List (Nat × Nat):=[]
 ps:Option (Nat × (Nat × Nat)):=none
def gS.eu (d:gS):List (Nat × (Nat × Nat)):=d.ps.toList.filter fun q=>q.2.1 == 999999
def gS.erase (d:gS):FD:={ np:=d.np,m:=d.m.erase,ref:=d.ref,fR:=d.fR,res:=d.res,own:=d.own,new:=d.new,fD:=d.fD,ps:=d.ps }
def RV.P0 (τ:TS):RV→Option TV
 | .t j=>some (τ j)
 | .c a m n agg=>match τ a,τ m with
  | .pt,.ag cs=>qD cs 0 n agg
  | _,_=>none
def BV (τ:TS):List RV→Option (List TV)
 | []=>some []
 | r :: rs=>match r.P0 τ with
  | some x=>match BV τ rs with
   | some l=>some (x :: l)
   | none=>none
  | none=>none
def TV.LF:TV→Bool
 | .sl _ _=>true
 | _=>false
def TV.LG:TV→Bool
 | .pt=>true
 | _=>false
def gS.KV (d:gS) (τ:TS):Option (List TV) :=
 match BV τ d.res with
 | some rs=>cond (d.own.all (fun q=>(rs.getD q.1 .dead).LF)&&d.new.toList.all (fun q=>(rs.getD q.1 .dead).LG)) (some (rs++d.new.toList.map (fun q=>τ q.2)++d.ref.toList.map (fun q=>τ q.2)++d.eu.map (fun q=>τ (lk q.2.1)))) none
 | none=>none
def gS.wK (d:gS) (ins:List TV):TS :=
 match d.ref with
 | none=>match d.ps with
  | none=>cS (List.range d.np) ins
  | some (i,k,_)=>cS (lk k :: List.range d.np) (ins.getD i .dead :: ins.set i .pt)
 | some (i,m)=>cS (m :: List.range d.np) (ins.getD i .dead :: ins.set i .pt)
def fK (d:gS):dI (List TV):=fun e τ =>
 match e with
 | .exit _=>none
 | _=>d.KV τ
noncomputable def gS.run (E:eD) (d:gS) (ins:List TV):Option (List TV):=ev (List TV) E d.m (d.wK ins) (fK d)
theorem yG {τ:TS}:∀{rs:List RV} {xs:List TV},BV τ rs=some xs→AL τ.av rs=some (xs.map TV.av)
 | [],xs,h=>by cases h;rfl
 | r :: rs,xs,h=>by
  simp only [BV] at h
  split at h
  ·rename_i x hx
   split at h
   ·rename_i l hl
    cases h
    have e:r.get τ.av=some x.av:=by
     cases r with
     | t j=>cases hx;rfl
     | c a m n agg =>
      simp only [RV.P0] at hx
      split at hx
      ·rename_i cs e1 e2
       simp only [RV.get,TS.av,e1,e2,TV.av,TV.eP]
       exact mO hx
      ·cases hx
    simp only [AL,e,yG hl]
    rfl
   ·cases h
  ·cases h
theorem BU {d:gS} {τ:TS} {outs:List TV} (h:d.KV τ=some outs):d.erase.Ad τ.av (outs.map TV.av):=by
 unfold gS.KV at h
 split at h
 ·rename_i rs pD
  cases hc:(d.own.all (fun q=>(rs.getD q.1 .dead).LF)&&d.new.toList.all (fun q=>(rs.getD q.1 .dead).LG)) with
  | false=>rw [hc] at h;cases h
  | true =>
   rw [hc] at h
   cases h
   simp only [aa,aL] at hc
   refine ⟨rs.map TV.av,yG pD,?_,?_,?_⟩
   ·intro q hq
    have:=hc.1 q hq
    rw [aI]
    rw [ak] at this
    cases e:rs[q.1]? with
    | none=>rw [e] at this;cases this
    | some x =>
     rw [e] at this
     cases x <;> simp [TV.LF] at this
     exact ⟨_,_,rfl⟩
   ·intro q hq
    have hq:d.new=some q:=hq
    have:=hc.2 q (by rw [hq];simp)
    rw [aI]
    rw [ak] at this
    cases e:rs[q.1]? with
    | none=>rw [e] at this;cases this
    | some x =>
     rw [e] at this
     cases x <;> simp [TV.LG] at this
     rfl
   ·simp only [List.map_append,aW]
    rfl
 ·cases h
theorem CD (d:gS) (ins:List TV):(d.wK ins).av=d.erase.start (ins.map TV.av):=by
 unfold gS.wK FD.start
 have:d.erase.ref=d.ref:=rfl
 rw [this]
 have:d.erase.ps=d.ps:=rfl
 rw [this]
 cases d.ref with
 | none =>
  cases d.ps with
  | none=>exact oH _ _
  | some q =>
   obtain ⟨i,k,s⟩:=q
   simp only [oH,ah,List.map_set]
   congr 2
   simp only [ak,aI]
   cases ins[i]? <;> rfl
 | some q =>
  obtain ⟨i,m⟩:=q
  simp only [oH,ah,List.map_set]
  congr 2
  simp only [ak,aI]
  cases ins[i]? <;> rfl
theorem KL {E:eD} {d:gS} {ins outs:List TV} (h:d.run E ins=some outs):d.erase.runs E.env (ins.map TV.av) (outs.map TV.av):=by
 have h:ev (List TV) E d.m (d.wK ins) (fK d)=some outs:=h
 rw [←ie] at h
 have:=P2 h
 unfold FD.runs
 rw [←CD]
 refine ky (fun e σ q=>?_) this
 obtain ⟨iq,rfl,q⟩:=q
 cases e with
 | exit i=>cases q
 | normal=>exact BU q
 | ret=>exact BU q
theorem HL {P:Program} {E:eD} (hE:∀f,dH P E.env.gl f (eW.fs (E.fs f))) {f:Nat} {fn:Func} {d:gS} (hf:P.funcs[f]?=some fn)
  (hc:Bo P (fun n=>(E.fs n).2) fn d.erase=true) {c:eW} (hG:∀ins outs,(c ins).holds outs→ins.length=d.np∧d.run E ins=some (outs++d.eu.map fun q=>ins.getD q.1 .dead)):dH P E.env.gl f (eW.fs (c,d.erase.sg)):=by
 refine BF (E:=E.env) (sg:=fun n=>(E.fs n).2) (fun n=>⟨hE n,rfl⟩) hf hc rfl ?_
 rintro ins outs ⟨ti,fZ,rfl,rfl,h⟩
 obtain ⟨h1,h2⟩:=hG ti fZ h
 refine ⟨by simpa [gS.erase] using h1,?_⟩
 have:=KL h2
 rw [List.map_append,aW] at this
 have e:d.eu.map (TV.av ∘ fun q=>ti.getD q.1 .dead)=d.erase.eu.map fun q=>(ti.map TV.av).getD q.1 .dead:=by
  show _=d.eu.map _
  refine List.map_congr_left fun q _=>?_
  simp only [Function.comp_apply,ak,aI]
  cases ti[q.1]? <;> rfl
 rwa [e] at this
end Go.Eng
namespace Go.Eng
open Go.RowKit
def Old (w:World):Reach:=fun b _=>b<w.heap.size
theorem calls_of_spec {P:Program} {gl:Nat→AV} {f:Nat} {c:eW} {sg:c7} (JR:sg={}) (h:dH P gl f (eW.fs (c,sg))) {ti:List TV} {xs:List Value} {w:World}
  (xm:∀n,Rep (Old w) w (gl n) (.pointer (some ⟨n,0,none⟩))) (hc:(c ti).holds [.b true]) (ha:eY (Old w) w (ti.map TV.av) xs) :
  Calls P f ⟨xs⟩ w fun e w'=>e = .returned (.bool true)∧Below w.heap.size w w':=by
 subst JR
 refine (h.1 rfl w (Old w) (ti.map TV.av) [.v (.bool true)] xs ⟨ti,[.b true],rfl,rfl,hc⟩ (fun b o hb=>hb) xm ha).mono ?_
 rintro e w' ⟨x,R',rfl,hx,hr,ho⟩
 obtain ⟨rvs,tr,fZ,tn,bn,br,cn,cr,h1,h2,h3,h4,_⟩:=ho
 refine ⟨?_,hx.os,hx.tape,hx.output,hx.size,fun k hk=>hx.heap k hk id⟩
 congr 1
 rw [h2]
 have h1:rvs.length=1:=h1
 match rvs,h1 with
 | [y],_ =>
  have h4:eY R' w' [.v (.bool true)] [y]:=h4
  cases h4 with
  | cons a _=>cases a;rfl
theorem Ng {n:Int} (h:(Lit.int .u8 n).wf=true):((UInt8.ofInt n).toNat:Int)=n:=by
 have hx:0≤n∧n≤255:=by simpa [Lit.wf,IntKind.min,IntKind.max,IntKind.signed,IntKind.bits] using h
 rw [tU,wrap_u8'];omega
def E9:eW × c7:=(fun _ => .err,{})
theorem vJ {P:Program} {gl:Nat→AV} {f:Nat}:dH P gl f (eW.fs E9):=by
 refine ⟨fun _=>?_,fun i s iZ=>by cases iZ⟩
 intro w R ins outs xs hg
 obtain ⟨ti,fZ,_,_,h⟩:=hg
 exact h.elim
def cZ (gl:Nat→TV) (l:List (Nat × (eW × c7))):eD:=⟨fun n=>look l n,gl⟩
where look:List (Nat × (eW × c7))→Nat→eW × c7
 | [],_=>E9
 | (k,c) :: r,n=>cond (Nat.beq n k) c (look r n)
theorem Mm {P:Program} {gl:Nat→TV} {l:List (Nat × (eW × c7))} (h:∀p∈l,dH P (fun n=>(gl n).av) p.1 (eW.fs p.2)):∀f,dH P (cZ gl l).env.gl f (eW.fs ((cZ gl l).fs f)):=by
 intro f
 show dH P (fun n=>(gl n).av) f (eW.fs (cZ.look l f))
 induction l with
 | nil=>exact vJ
 | cons p r ih =>
  obtain ⟨k,c⟩:=p
  simp only [cZ.look]
  cases hb:Nat.beq f k with
  | true=>rw [au hb];exact h (k,c) (List.mem_cons_self ..)
  | false=>exact ih fun q hq=>h q (List.mem_cons_of_mem _ hq)
theorem meets {P:Program} {gl:Nat→TV} {l:List (Nat × (eW × c7))} (hE:∀p∈l,dH P (fun n=>(gl n).av) p.1 (eW.fs p.2)) {f:Nat} {d:gS}
  (hc:((P.funcs[f]?).any fun fn=>Bo P (fun n=>((cZ gl l).fs n).2) fn d.erase)=true) {c:eW} (hG:∀ins outs,(c ins).holds outs→ins.length=d.np∧d.run (cZ gl l) ins=some (outs++d.eu.map fun q=>ins.getD q.1 .dead)) :
  dH P (fun n=>(gl n).av) f (eW.fs (c,d.erase.sg)):=by
 cases hf:P.funcs[f]? with
 | none=>rw [hf] at hc;cases hc
 | some fn =>
  rw [hf] at hc
  exact HL (E:=cZ gl l) (Mm hE) hf hc hG
theorem all_nil {A:Type} {p:A→Prop}:∀x∈([]:List A),p x:=fun _ h=>by cases h
theorem all_cons {A:Type} {p:A→Prop} {a:A} {l:List A} (h:p a) (t:∀x∈l,p x):∀x∈a :: l,p x:=fun x hx=>by
 rcases bh.1 hx with rfl | hx
 ·exact h
 ·exact t x hx
end Go.Eng
namespace Go.Eng
open Go.RowKit
theorem yn {P:Program} {gl:Nat→AV} {f:Nat} {sg:c7} {c':eW} (h:∀ti fZ,(c' ti).holds fZ→∃c:eW,dH P gl f (eW.fs (c,sg))∧(c ti).holds fZ):dH P gl f (eW.fs (c',sg)):=by
 refine ⟨fun iZ w R ins outs xs hG h1 h2 h3=>?_,fun i s iZ=>⟨fun hi w R ins outs xs v es hG h1 h2 h3 h4 h5 h6 h7=>?_,fun hi=>⟨fun J2 w R ins outs xs v es hG h1 h2 h3 h4 h5 h6 h7=>?_,fun J2 w R ins fs xs v es hG h1 h2 h3 h4 h5 h6 h7 h8=>?_⟩⟩⟩
 ·obtain ⟨ti,fZ,e1,e2,hc⟩:=hG
  obtain ⟨c,hs,hc⟩:=h ti fZ hc
  exact hs.1 iZ w R ins outs xs ⟨ti,fZ,e1,e2,hc⟩ h1 h2 h3
 ·obtain ⟨ti,fZ,e1,e2,hc⟩:=hG
  obtain ⟨c,hs,hc⟩:=h ti fZ hc
  exact (hs.2 i s iZ).1 hi w R ins outs xs v es ⟨ti,fZ,e1,e2,hc⟩ h1 h2 h3 h4 h5 h6 h7
 ·obtain ⟨ti,fZ,e1,e2,hc⟩:=hG
  obtain ⟨c,hs,hc⟩:=h ti fZ hc
  exact ((hs.2 i s iZ).2 hi).1 J2 w R ins outs xs v es ⟨ti,fZ,e1,e2,hc⟩ h1 h2 h3 h4 h5 h6 h7
 ·obtain ⟨ti,fZ,e1,e2,hc⟩:=hG
  obtain ⟨c,hs,hc⟩:=h ti fZ hc
  exact ((hs.2 i s iZ).2 hi).2 J2 w R ins fs xs v es ⟨ti,fZ,e1,e2,hc⟩ h1 h2 h3 h4 h5 h6 h7 h8
theorem Ob (j k:Nat):(lk j=lk k)=(j=k):=propext ⟨fO,fun e=>by rw [e]⟩
theorem Oa {k n:Nat} (h:n<1000000):(lk k=n)=False:=by have:=fH k;simp;omega
theorem Ls {k n:Nat} (h:n<1000000):(n=lk k)=False:=by have:=fH k;simp;omega
section
variable {E:Env} {Q:MX→Sg→Prop} {σ:Sg}
theorem rg {m:pK} {ms:List pK} {ws:List AV} (hg:m.gd=none) (hs:eh E m.k (m.rs.map (cO.ev E σ)) ws) (hl:ws.length=m.ds.length) (h:pH E (.eZ ms) Q (bN σ m.ds ws)):pH E (.eZ (m :: ms)) Q σ:=by
 obtain ⟨dz,h1,h2⟩:=h
 refine ⟨dz,⟨bN σ m.ds ws,⟨ws,?_,hl,rfl⟩,h1⟩,h2⟩
 rw [hg];exact hs
theorem uo (h:Q .normal σ):pH E (.eZ []) Q σ:=⟨σ,rfl,h⟩
theorem sq {a b:M} (h:pH E a (fun e dz=>match e with | .normal=>pH E b Q dz | e=>Q e dz) σ):pH E (.seq a b) Q σ:=by
 show pH E a _ σ
 refine ky (fun e dz q=>?_) h
 cases e with
 | normal=>exact ⟨dz,fun _ => .inl rfl,q⟩
 | exit i=>exact q
 | ret=>exact q
end
def Mw (s:Nat):M := .seq (.eZ [⟨.mv,[.s 0],[3],none⟩,⟨.N7,[.s 3],[4],none⟩]) (.cond (.s 4) [] (.seq (.eZ [⟨.nl 101 s,[.s (lk 101)],[2,lk 101],none⟩]) .ret) .skip)
def GK (s b:Nat):M := .seq (.eZ [⟨.blt s 0 102,[.s (lk 102)],[5,lk 102],none⟩,⟨.mv,[.s 0],[6],none⟩,
 ⟨.ap 102 103 s b,[.s 5,.s 6,.s (lk 102),.s (lk 103)],[7,lk 102,lk 103],none⟩,⟨.mv,[.s 7],[2],none⟩]) .ret
def uT (s b:Nat):FD:={ np:=1,m := .seq (.eZ [⟨.mv,[.c (.sl s [])],[2],none⟩]) (.seq (Mw s) (GK s b)),res:=[.t 2],own:=[(0,s)] }
theorem Bl (E:Env) (s b:Nat) (es:List AV) (hc:∀x∈es,x.cells.length=s) (h1:es.length≤maxLen) (h2:es.length * b≤140737488355328):(uT s b).runs E [.sl s es] [.sl s es]:=by
 have hB:∀σ:Sg,σ 0 = .sl s es→pH E (GK s b) (fun e σ=>match e with | .exit _=>False | _=>(uT s b).Ad σ [.sl s es]) σ:=by
  intro σ h0
  refine sq (rg (ws:=[.sl s [],.dead]) rfl ⟨rfl,fun x hx=>(by cases hx),rfl⟩ rfl ?_)
  refine rg (ws:=[.sl s es]) rfl (by simp [eh,cO.ev,bN,cF,Ob,Oa,Ls,h0]) rfl ?_
  refine rg (ws:=[.sl s es,.dead,.dead]) rfl ⟨rfl,rfl,hc,by simpa using h1,by simpa using h2,by simp⟩ rfl ?_
  refine rg (ws:=[.sl s es]) rfl rfl rfl ?_
  refine uo ?_
  exact ⟨[.sl s es],rfl,fun q hq=>(by simp [uT] at hq;subst hq;exact ⟨s,es,rfl⟩),fun q hq=>(by cases hq),rfl⟩
 refine sq (rg (ws:=[.sl s []]) rfl rfl rfl (uo ?_))
 refine sq ?_
 refine sq (rg (ws:=[.sl s es]) rfl rfl rfl ?_)
 cases es with
 | nil =>
  refine rg (ws:=[.ab]) rfl rfl rfl (uo ?_)
  refine .inr ⟨rfl,?_,?_⟩
  ·refine sq (rg (ws:=[.sl s [],.dead]) rfl rfl rfl (uo ?_))
   exact ⟨[.sl s []],rfl,fun q hq=>(by simp [uT] at hq;subst hq;exact ⟨s,[],rfl⟩),fun q hq=>(by cases hq),rfl⟩
  ·exact hB _ rfl
 | cons e es =>
  refine rg (ws:=[.v (.bool false)]) rfl rfl rfl (uo ?_)
  refine .inl ⟨false,rfl,fun h=>(by cases h),fun _=>?_⟩
  exact hB _ rfl
def xI (t:fT) (b:Nat):eW:=fun l=>match l with
 | [.sl t' l]=>if t'=t then .eM (jo l.length b) [.sl t' l] else .err
 | _ => .err
theorem fT.MC (t:fT) (l:List t.El):∀x∈l.map t.av,x.cells.length=t.size:=by
 intro x hx;obtain ⟨y,_,rfl⟩:=aO.1 hx;exact (t.je y).2
theorem GJ {P:Program} {gl:Nat→AV} {t:fT} {b f:Nat} (hc:((P.funcs[f]?).any fun fn=>Bo P (fun _=>{}) fn (uT t.size b))=true):dH P gl f (eW.fs (xI t b,{ own:=[(0,t.size)] })):=by
 cases hf:P.funcs[f]? with
 | none=>rw [hf] at hc;cases hc
 | some fn =>
  rw [hf] at hc
  refine BF (E:=⟨fun _=>eW.fs E9,gl⟩) (sg:=fun _=>{}) (fun n=>⟨vJ,rfl⟩) hf hc rfl ?_
  rintro ins outs ⟨ti,fZ,rfl,rfl,h⟩
  replace h:(xI t b ti).holds fZ:=h
  unfold xI at h
  split at h
  ·rename_i t' l
   split at h
   ·rename_i e
    subst e
    obtain ⟨h1,rfl⟩:=h
    obtain ⟨h1,h2⟩:=jf.1 h1
    refine ⟨rfl,?_⟩
    exact Bl _ _ _ _ (fT.MC _ l) (by simpa using h1) (by simpa using h2)
   ·exact h.elim
  ·exact h.elim
end Go.Eng
namespace Go.Eng
open Go.RowKit
def mc (P:Program) (n:Nat) (t:TypeId) (A:Type) (g:A→List AV):Prop :=
 ∀(H:Type) (enc:TypeId × Value→H) (w:World) (base:Nat) (spare:Nat→Bool) (held:Bool) (cs:List Value) (x:DataW H × List MemPlace),DataW.trod enc P w base spare held n t cs=some x→∃a:A,dw (Old w) w (g a) cs
section
variable {P:Program} {n:Nat} {t:TypeId}
theorem rS {k:IntKind} (ht:P.underlying t=some (.int k)):mc P n t Int fun m=>[.v (.int k m)]:=by
 intro H enc w base spare held cs x h
 obtain ⟨m,rfl,_,_⟩:=DataW.trod_int ht h
 exact ⟨m,.cons rfl (.v _) .nil⟩
theorem DT {n:Int} (h:(Lit.int .u64 n).wf=true):((UInt64.ofInt n).toNat:Int)=n:=by
 have hx:0≤n∧n≤18446744073709551615:=by simpa [Lit.wf,IntKind.min,IntKind.max,IntKind.signed,IntKind.bits] using h
 have e:IntKind.u64.wrap n=n % (18446744073709551616:Nat):=by simp [IntKind.wrap,IntKind.bits,IntKind.signed]
 rw [rD,e];omega
theorem py (ht:P.underlying t=some (.int .u64)):mc P n t UInt64 fun m=>[js m]:=by
 intro H enc w base spare held cs x h
 obtain ⟨m,rfl,_,hw⟩:=DataW.trod_int ht h
 refine ⟨UInt64.ofInt m,.cons rfl ?_ .nil⟩
 rw [js,DT hw];exact .v _
theorem EJ (ht:P.underlying t=some (.int .u8)):mc P n t UInt8 fun m=>[eS m]:=by
 intro H enc w base spare held cs x h
 obtain ⟨m,rfl,_,hw⟩:=DataW.trod_int ht h
 refine ⟨UInt8.ofInt m,.cons rfl ?_ .nil⟩
 rw [eS,Ng hw];exact .v _
theorem pz (ht:P.underlying t=some .string):mc P n t bT fun m=>[gL m]:=by
 intro H enc w base spare held cs x h
 obtain ⟨m,rfl,_,_⟩:=DataW.trod_string ht h
 exact ⟨m.data.toList,.cons rfl (.v _) .nil⟩
theorem oj {e:TypeId} {A:Type} {av:A→AV} {s:Nat} (ht:P.underlying t=some (.slice e)) (hs:P.cellsOf e=s) (nO:0<s) (WT:∀a,(av a).cells.length=s) (he:∀m,m<n→mc P m e A fun a=>(av a).cells):mc P n t (List A) fun l=>[.sl s (l.map av)]:=by
 intro H enc w base spare held cs x h
 rcases DataW.trod_slice ht h with ⟨rfl,_⟩ | ⟨a,len,cap,elems,rest,m,rfl,rfl,_,_,h2,h3,h4,h5,_,_⟩
 ·exact ⟨[],.cons rfl (.nil _) .nil⟩
 ·by_cases h0:len=0
  ·subst h0;exact ⟨[],.cons rfl (.em _ h3) .nil⟩
  ·have get:∀i,i<len→∃ys,w.cells? base (a.add (i * s)) s=some ys∧∃y:A,dw (Old w) w (av y).cells ys:=fun i hi=>by
    have:=h5 i hi
    rw [hs] at this
    have eO:i<elems.length:=by omega
    rw [aA eO] at this
    obtain ⟨ys,h6,h7⟩:=bf.1 this
    exact ⟨ys,h6,he m (Nat.lt_succ_self m) H enc w base spare held ys _ h7⟩
   have JQ:a.spot=none:=by
    obtain ⟨ys,h6,_⟩:=get 0 (by omega)
    obtain ⟨_,h7,h8⟩:=World.cells?_some h6
    have h9:=h8 0 nO
    cases hy:ys[0]? with
    | none=>rw [List.getElem?_eq_none_iff] at hy;omega
    | some y=>rw [hy] at h9;simpa [Addr.add] using World.cell?_spot h9
   obtain ⟨b,off,spot⟩:=a
   simp only at JQ
   subst JQ
   have key:∀k i,i+k=len→∃l:List A,l.length=k∧ij (Old w) w s (l.map av) b (off+i * s):=by
    intro k
    induction k with
    | zero=>exact fun i _=>⟨[],rfl,.nil _ _ _⟩
    | succ k ih =>
     intro i hi
     obtain ⟨l,hl,hE⟩:=ih (i+1) (by omega)
     obtain ⟨ys,h6,y,h7⟩:=get i (by omega)
     obtain ⟨_,h8,h9⟩:=World.cells?_some h6
     refine ⟨y :: l,by simp [hl],.cons (kS.write (WT y) h7 (fun j hj=>?_) (fun j z hz=>?_)) ?_⟩
     ·have kQ:=h9 j hj
      have Ww:j<ys.length:=by omega
      rw [aA Ww] at kQ
      have eO:b<w.heap.size:=by
       by_cases eO:b<w.heap.size
       ·exact eO
       ·have:w.heap[b]?=none:=Array.getElem?_eq_none (by omega)
        rw [fB,fB] at kQ
        simp only [World.cell?,this] at kQ
        cases kQ
      exact eO
     ·have hj:j<s:=by have:=(aE.1 hz).1;omega
      have kQ:=h9 j hj
      rw [hz,fB,fB] at kQ
      exact kQ
     ·rw [show off+i * s+s=off+(i+1) * s by rw [Nat.succ_mul];omega];exact hE
   obtain ⟨l,hl,hE⟩:=key len 0 (by omega)
   refine ⟨l,.cons rfl (.sl (by simp [hl]) h2 h3 ?_) .nil⟩
   simpa using hE
def lN (P:Program) (n:Nat) (fs:List (TypeId × Nat)) (off:Nat) (A:Type) (g:A→List AV):Prop :=
 ∀(H:Type) (enc:TypeId × Value→H) (w:World) (base:Nat) (spare:Nat→Bool) (held:Bool) (cs:List Value),(∀f∈fs,∃x:DataW H × List MemPlace,DataW.trod enc P w base spare held n f.1 ((cs.drop f.2).take (P.cellsOf f.1))=some x)→cs.length=off+(fs.map fun f=>P.cellsOf f.1).sum→∃a:A,dw (Old w) w (g a) (cs.drop off)
theorem wQ {off:Nat}:lN P n [] off Unit fun _=>[]:=by
 intro H enc w base spare held cs _ hl
 refine ⟨(),?_⟩
 rw [bc (by simp at hl;omega)];exact .nil
theorem fX {t:TypeId} {fs:List (TypeId × Nat)} {off c:Nat} {A B:Type} {g:A→List AV} {g':B→List AV} (hc:P.cellsOf t=c) (h:mc P n t A g) (hr:lN P n fs (off+c) B g'):lN P n ((t,off) :: fs) off (A × B) fun p=>g p.1++g' p.2:=by
 subst hc
 intro H enc w base spare held cs hx hl
 obtain ⟨x,h1⟩:=hx (t,off) (List.mem_cons_self ..)
 obtain ⟨a,ha⟩:=h H enc w base spare held _ x h1
 obtain ⟨b,hb⟩:=hr H enc w base spare held cs (fun f' MY=>hx f' (List.mem_cons_of_mem _ MY)) (by simp only [ah,List.sum_cons] at hl;omega)
 refine ⟨(a,b),?_⟩
 have e:cs.drop off=(cs.drop off).take (P.cellsOf t)++cs.drop (off+P.cellsOf t):=by
  rw [←List.drop_drop];exact (List.take_append_drop _ _).symm
 rw [e];exact ha.append hb
theorem ni {fs:Array Field} {l:List (TypeId × Nat)} {A B:Type} {g:A→List AV} {g':B→List AV} (ht:P.underlying t=some (.struct fs)) (hl:(fs.toList.map fun f=>(f.type,f.offset))=l) (hc:P.cellsOf t=(l.map fun f=>P.cellsOf f.1).sum) (hr:∀m,m<n→lN P m l 0 A g) (f:A→B) (hf:∀a,g a=g' (f a)):mc P n t B g':=by
 intro H enc w base spare held cs x h
 obtain ⟨xs,m,rfl,_,h1,h2,h3⟩:=DataW.trod_struct ht h
 obtain ⟨a,ha⟩:=hr m (Nat.lt_succ_self m) H enc w base spare held cs (fun p hp=>by
  rw [←hl] at hp
  obtain ⟨f,hf,rfl⟩:=aO.1 hp
  obtain ⟨i,hi⟩:=bg hf
  have eO:=(aE.1 hi).1
  have:=h3 i f (by simpa using hi)
  have A5:i<xs.length:=by rw [h2];simpa using eO
  rw [aA A5] at this
  exact ⟨_,this⟩) (by rw [h1,hc];simp)
 exact ⟨f a,by rw [←hf];simpa using ha⟩
def fieldsOf (P:Program) (t:TypeId):Option (List (TypeId × Nat)):=match P.underlying t with
 | some (.struct fs)=>some (fs.toList.map fun f=>(f.type,f.offset))
 | _=>none
theorem mw {l:List (TypeId × Nat)} (h:fieldsOf P t=some l):∃fs,P.underlying t=some (.struct fs)∧(fs.toList.map fun f=>(f.type,f.offset))=l:=by
 unfold fieldsOf at h
 split at h
 ·rename_i fs e;cases h;exact ⟨fs,e,rfl⟩
 ·cases h
structure xN (P:Program) (tv tf tk ti tu ts tb ty:TypeId):Prop where
 v:fieldsOf P tv=some [(ti,0),(tu,1),(tu,2),(tu,3),(ts,4),(ts,5),(ti,6),(tb,7),(tk,8)]
 f:fieldsOf P tf=some [(ts,0),(tv,1)]
 k:P.underlying tk=some (.slice tf)
 i:P.underlying ti=some (.int .i64)
 u:P.underlying tu=some (.int .u64)
 s:P.underlying ts=some .string
 b:P.underlying tb=some (.slice ty)
 y:P.underlying ty=some (.int .u8)
 cv:P.cellsOf tv=9
 cf:P.cellsOf tf=10
 ck:P.cellsOf tk=1
 ci:P.cellsOf ti=1
 cu:P.cellsOf tu=1
 cs:P.cellsOf ts=1
 cb:P.cellsOf tb=1
 cy:P.cellsOf ty=1
def pj.Bs (v:pj):List AV:=(pj.cells v).map TV.av
theorem sN {y:TypeId} (ht:P.underlying t=some (.slice y)) (hy:P.underlying y=some (.int .u8)) (hc:P.cellsOf y=1):mc P n t bT fun l=>[jR l] :=
 oj (av:=eS) ht hc (by omega) (fun _=>rfl) fun _ _=>EJ hy
theorem xN.val {tv tf tk ti tu ts tb ty:TypeId} (T:xN P tv tf tk ti tu ts tb ty):∀n,mc P n tv pj pj.Bs∧mc P n tf mW fun f=>(qU f).cells:=by
 intro n
 induction n using Nat.strongRecOn with
 | _ n ih =>
  have hv:∀m,m≤n→(∀k,k<m→mc P k tf mW fun f=>(qU f).cells)→mc P m tv pj pj.Bs:=fun m hm VU=>by
   obtain ⟨fs,h1,h2⟩:=mw T.v
   have R:=fun (k:Nat) (hk:k<m)=>(fX (off:=0) T.ci (rS T.i) (fX T.cu (py T.u) (fX T.cu (py T.u) (fX T.cu (py T.u) (fX T.cs (pz T.s) (fX T.cs (pz T.s) (fX T.ci (rS T.i) (fX T.cb (sN T.b T.y T.cy)
     (fX T.ck (oj (av:=qU) T.k T.cf (by omega) (fun f=>by cases f;rfl) fun j hj=>VU j (by omega)) wQ)))))))):lN P k _ 0 _ _)
   exact ni h1 h2 (by simp [T.cv,T.ci,T.cu,T.cs,T.cb,T.ck]) R (fun a=>(⟨a.1,a.2.1,a.2.2.1,a.2.2.2.1,a.2.2.2.2.1,a.2.2.2.2.2.1,a.2.2.2.2.2.2.1,a.2.2.2.2.2.2.2.1,a.2.2.2.2.2.2.2.2.1⟩:pj)) (fun a=>rfl)
  refine ⟨hv n (Nat.le_refl n) fun k hk=>(ih k hk).2,?_⟩
  obtain ⟨fs,h1,h2⟩:=mw T.f
  have R:=fun (k:Nat) (hk:k<n)=>(fX (off:=0) T.cs (pz T.s) (fX T.cv (hv k (by omega) fun j hj=>(ih j (by omega)).2) wQ):lN P k _ 0 _ _)
  exact ni h1 h2 (by simp [T.cf,T.cv,T.cs]) R (fun a=>mW.of a.1 a.2.1) (fun a=>by
   simp [qU,mW.of,AV.cells,pj.Bs,pj.cells,TV.av,nE,fT.size,fT.av,gL,vW,js,jR])
theorem xN.rep {tv tf tk ti tu ts tb ty:TypeId} (T:xN P tv tf tk ti tu ts tb ty) {H:Type} {enc:TypeId × Value→H} {w:World} {base:Nat} {spare:Nat→Bool} {held:Bool} {cs:Array Value} {d:DataW H} {p:List MemPlace} (h:DataW.Trod enc P w base spare held tv (.agg cs) d p) :
  ∃v:pj,Rep (Old w) w (TV.av (.ag (pj.cells v))) (.agg cs):=by
 obtain ⟨n,h⟩:=h
 obtain ⟨v,hv⟩:=(T.val n).1 H enc w base spare held _ _ h
 refine ⟨v,?_⟩
 simp only [TV.av,TV.eP]
 exact .ag (by have hv:dw (Old w) w (v.cells.map TV.av) _:=hv;simpa [Value.cells] using hv)
end
end Go.Eng
namespace Go.Eng
open Go.RowKit
theorem sA {w w':World} {R:Reach} (hR:∀b o,R b o→b<w.heap.size) (h:Below w.heap.size w w'):Ext w R (fun _=>False) w' R :=
 ⟨h.os,h.tape,h.output,h.size,fun b hb _=>h.block b hb,fun b o hr=>⟨hr,by simp only [World.cell?,h.block b (hR b o hr)]⟩,fun b o hr => .inl hr⟩
theorem j7 {P:Program} {gl:Nat→AV} {f:Nat} {c:eW} (h:∀(ti fZ:List TV) (w:World) (R:Reach) (xs:List Value),(c ti).holds fZ→eY R w (ti.map TV.av) xs→(∀b o,R b o→b<w.heap.size)→(∀n,Rep R w (gl n) (.pointer (some ⟨n,0,none⟩))) →
  Calls P f ⟨xs⟩ w fun e w'=>∃x,e = .returned x∧Below w.heap.size w w'∧∀R w',eY R w' (fZ.map TV.av) [x]):dH P gl f (eW.fs (c,{})):=by
 refine ⟨fun _ w R ins outs xs hG hR xm ha=>?_,fun _ _ h=>by cases h⟩
 obtain ⟨ti,fZ,rfl,rfl,hc⟩:=hG
 refine (h ti fZ w R xs hc ha hR xm).mono ?_
 rintro e w' ⟨x,rfl,hb,hx⟩
 refine ⟨x,R,rfl,sA hR hb,fun b o hr=>Nat.lt_of_lt_of_le (hR b o hr) hb.size,?_⟩
 have hl:fZ.length=1:=by
  have:=(hx R w').length
  simpa using this
 refine ⟨[x],[],[],[],0,0,[],[],rfl,rfl,by simp [hl,eW.fs],?_,fun j hj=>by simp [eW.fs] at hj,fun j hj=>by simp [eW.fs] at hj,rfl,rfl,rfl,?_,?_,?_,?_,?_,?_⟩
 ·have e:(List.mapIdx (fun i y=>if (eW.fs (c,{})).sg.new=some i then AV.pt else y) ((fZ.map TV.av).take (eW.fs (c,{})).sg.bO))=fZ.map TV.av:=by
   match fZ,hl with
   | [a],_=>rfl
  rw [e];exact hx R w'
 all_goals intros
 all_goals simp_all [eW.fs,j9]
section
variable {R:Reach} {w:World}
end
structure xP (P:Program) (t tk ti tu ts tb ty:TypeId):Prop where
 v:fieldsOf P t=some [(ti,0),(tu,1),(tb,2),(ts,3),(tk,4)]
 k:P.underlying tk=some (.slice t)
 i:P.underlying ti=some (.int .i64)
 u:P.underlying tu=some (.int .u64)
 s:P.underlying ts=some .string
 b:P.underlying tb=some (.slice ty)
 y:P.underlying ty=some (.int .u8)
 cv:P.cellsOf t=5
 ck:P.cellsOf tk=1
 ci:P.cellsOf ti=1
 cu:P.cellsOf tu=1
 cs:P.cellsOf ts=1
 cb:P.cellsOf tb=1
 cy:P.cellsOf ty=1
section
variable {P:Program} {t tk ti tu ts tb ty:TypeId}
theorem xP.VO (T:xP P t tk ti tu ts tb ty):∀n,mc P n t nL fun f=>(ox f).cells:=by
 intro n
 induction n using Nat.strongRecOn with
 | _ n ih =>
  obtain ⟨fs,h1,h2⟩:=mw T.v
  have R:=fun (k:Nat) (hk:k<n)=>(fX (off:=0) T.ci (rS T.i) (fX T.cu (py T.u) (fX T.cb (sN T.b T.y T.cy) (fX T.cs (pz T.s)
   (fX T.ck (oj (av:=ox) T.k T.cv (by omega) (fun f=>by cases f;rfl) fun j hj=>ih j (by omega)) wQ)))):lN P k _ 0 _ _)
  exact ni h1 h2 (by simp [T.cv,T.ci,T.cu,T.cs,T.cb,T.ck]) R (fun a=>nL.mk a.1 a.2.1 a.2.2.1 a.2.2.2.1 a.2.2.2.2.1) (fun a=>by
   simp [ox,AV.cells,lG,gL,vW,js,jR])
theorem xP.rep (T:xP P t tk ti tu ts tb ty) {H:Type} {enc:TypeId × Value→H} {w:World} {base:Nat} {spare:Nat→Bool} {held:Bool} {cs:Array Value} {d:DataW H} {p:List MemPlace} (h:DataW.Trod enc P w base spare held t (.agg cs) d p) :
  ∃v:MM,Rep (Old w) w (TV.av (.ag (MM.cells v))) (.agg cs):=by
 obtain ⟨n,h⟩:=h
 obtain ⟨v,hv⟩:=T.VO n H enc w base spare held _ _ h
 refine ⟨v.val,?_⟩
 cases v with | mk k n b s ks =>
 simp only [TV.av,TV.eP,MM.cells,nL.val,nL.kind,nL.n,nL.bytes,nL.text,nL.kids,ah,ao,fT.size,fT.av]
 refine .ag ?_
 have hv:dw (Old w) w (ox (nL.mk k n b s ks)).cells _:=hv
 show dw (Old w) w [vW k,js n,jR b,gL s,.sl 5 (ks.map ox)] _
 simpa [ox,AV.cells,lG,gL,vW,js,jR,Value.cells] using hv
end
theorem rep_u64 {R:Reach} {w:World} {n:Int} (h:(Lit.int .u64 n).wf=true):Rep R w (TV.av (.u64 (UInt64.ofInt n))) (.int .u64 n):=by
 have e:TV.av (.u64 (UInt64.ofInt n)) = .v (.int .u64 ((UInt64.ofInt n).toNat:Int)):=rfl
 rw [e,DT h];exact .v _
end Go.Eng
namespace Go.Eng
open Go.RowKit Go.Sort
def Mi:List (Nat × TV)→Nat→TV
 | [],_ => .dead
 | (k,v) :: r,n=>cond (Nat.beq n k) v (Mi r n)
def vk (k:IntKind) (zs:List Int):TV := .gv (zs.map fun z=>Value.int k z)
theorem vY {P:Program} {w:World} {name:String} {k:IntKind} {zs:List Int} {g:Nat} (h:Lib.TabIs P w name k zs) (hg:P.globalNamed name=some g):Rep (Old w) w (vk k zs).av (.pointer (some ⟨g,0,none⟩)):=by
 have hs:g<w.heap.size:=by
  unfold Lib.TabIs World.var? at h
  rw [hg] at h
  simp only [Option.bind_some] at h
  cases hh:w.heap[g]? with
  | none=>rw [hh] at h;cases h
  | some x=>exact (Array.getElem?_eq_some_iff.1 hh).1
 exact .gv (fun _=>hs) (fun o=>by have:=World.var?_cell hg h o;simpa using this)
theorem vG {P:Program} {R:Reach} {w:World} {name:String} {k:IntKind} {z:Int} {zs:List Int} {g:Nat} (h:Rep R w (vk k (z :: zs)).av (.pointer (some ⟨g,0,none⟩))) (hg:P.globalNamed name=some g):Lib.TabIs P w name k (z :: zs):=by
 have h:Rep R w (.gv ((z :: zs).map fun z=>Value.int k z)) (.pointer (some ⟨g,0,none⟩)):=h
 cases h with
 | gv h1 h2 =>
  have h0:=h2 0
  unfold Lib.TabIs World.var?
  rw [hg]
  simp only [Option.bind_some]
  simp only [World.cell?] at h0 h2
  cases hh:w.heap[g]? with
  | none=>rw [hh] at h0;cases h0
  | some x =>
   rw [hh] at h0 h2
   cases x with
   | cells cs e f =>
    simp only at h2 ⊢
    congr 1
    apply Array.ext_getElem?
    intro i
    have:=h2 i
    simp only [Option.isSome_none,aY,if_false] at this
    rw [this]
    simp
   | _=>cases h0
theorem Mh {P:Program} {w:World} {name:String} {k:IntKind} {zs:List Int} {g:Nat} (h:Lib.TabIs P w name k zs) (hg:P.globalNamed name=some g):∀n,Rep (Old w) w ((Mi [(g,vk k zs)] n).av) (.pointer (some ⟨n,0,none⟩)):=by
 intro n
 unfold Mi
 cases hb:Nat.beq n g with
 | true=>rw [au hb];exact vY h hg
 | false=>exact .dead _
theorem qg (w:World) (k:Nat) (os:Array Obj):Below w.heap.size w (grow (w.drewN k) os) :=
 ⟨rfl,rfl,rfl,by show w.heap.size≤(w.heap++os).size;simp,fun i hi=>heap_grow_old (w.drewN k) os hi⟩
def JN:eW:=fun l=>match l with
 | [.i .i64 n] => .eM (decide (-9223372036854775808≤n∧n≤9223372036854775807)) [.s (Lib.itoa n)]
 | _ => .err
theorem nx {P:Program} {gl:Nat→TV} {f g:Nat} {k:IntKind} {z:Int} {zs:List Int} (xm:(gl g)=vk k (z :: zs))
  (h:∃name,P.globalNamed name=some g∧∀(n:Int),-9223372036854775808≤n→n≤9223372036854775807→∀w:World,Lib.TabIs P w name k (z :: zs)→Calls P f #[.int .i64 n] w fun e w'=>e = .returned (.string ⟨(Lib.itoa n).toArray⟩)∧∃k os,w'=grow (w.drewN k) os) :
  dH P (fun n=>(gl n).av) f (eW.fs (JN,{})):=by
 obtain ⟨name,hg,h⟩:=h
 refine j7 fun ti fZ w R xs hc ha hR hG=>?_
 unfold JN at hc
 split at hc
 ·rename_i n
  obtain ⟨hp,rfl⟩:=hc
  have hp:=aN hp
  have e:xs=[.int .i64 n]:=by
   have ha:eY R w [.v (.int .i64 n)] xs:=ha
   cases ha with
   | cons a b=>cases a;cases b;rfl
  subst e
  have kb:=hG g
  rw [xm] at kb
  refine (h n hp.1 hp.2 w (vG kb hg)).mono ?_
  rintro e w' ⟨rfl,q,os,rfl⟩
  refine ⟨_,rfl,qg _ _ _,fun R w'=>?_⟩
  have:Rep R w' (.v (.string ⟨⟨Lib.itoa n⟩⟩)) (.string ⟨(Lib.itoa n).toArray⟩) := .v _
  exact .cons this .nil
 ·exact hc.elim
def gY (n:Nat):bT:=if h:n<10 then [UInt8.ofNat (48+n)] else gY (n / 10)++[UInt8.ofNat (48+n % 10)]
termination_by n
decreasing_by omega
end Go.Eng
namespace Go.Eng
open Ieee
namespace Fl
def pj (m:Nat) (p:Int) (N:Nat):Prop:=m * 2 ^ p.toNat=N * 2 ^ (-p).toNat
def W (b:Nat) (n:Int):Prop:=∃s m p,double.read b = .number s m p∧pj m p n.natAbs∧(n<0→s=true)∧(0<n→s=false)
theorem wk (s:Bool) (k d:Nat) (h:d≤(k * 2 ^ d).log2+2):Toward.even.cut s (k * 2 ^ d) d=k:=by
 unfold Toward.cut
 rw [Nat.min_eq_left h,Nat.one_shiftLeft]
 have hp:0<2 ^ d:=Nat.two_pow_pos d
 have h1:k * 2 ^ d / 2 ^ d=k:=Nat.mul_div_cancel k hp
 have h2:k * 2 ^ d % 2 ^ d=0:=Nat.mul_mod_left k (2 ^ d)
 simp only [h1,h2]
 have h3:¬(2 ^ d<2 * 0):=by omega
 have h4:(2 ^ d == 2 * 0)=false:=by rw [beq_eq_false_iff_ne];omega
 simp [h3,h4]
theorem Tp (s:Bool) (n:Nat):Toward.even.cut s n 0=n:=by
 have:=wk s n 0 (Nat.zero_le _)
 rwa [Nat.pow_zero,Nat.mul_one] at this
theorem nw (N k:Nat) (h:N≠0):(N * 2 ^ k).log2=N.log2+k:=by
 have hp:0<2 ^ k:=Nat.two_pow_pos k
 have hn:N * 2 ^ k≠0:=Nat.mul_ne_zero h (by omega)
 refine (Nat.log2_eq_iff hn).2 ⟨?_,?_⟩
 ·rw [Nat.pow_add];exact ar _ (Nat.log2_self_le h)
 ·rw [show N.log2+k+1=N.log2+1+k by omega,Nat.pow_add]
  exact Nat.mul_lt_mul_of_pos_right Nat.lt_log2_self hp
set_option maxRecDepth 10000 in
theorem xY (s:Bool) (m:Nat) (p:Int) (N:Nat) (hN:N≤9007199254740992) (hv:pj m p N):∃K q,double.read (double.write (.number s m p)) = .number s K q∧pj K q N:=by
 have hw:double.signWeight=2 ^ 63:=rfl
 have hB:double.binade=4503599627370496:=rfl
 have hI:double.infRung=2047 * 4503599627370496:=rfl
 have QL:double.leastPlace=-1074:=by decide
 have JT:∀ob,ob<2 ^ 63→double.read (double.word s ob)=(if ob<4503599627370496 then .number s ob (-1074) else if ob<2047 * 4503599627370496 then .number s (4503599627370496+ob % 4503599627370496) (-1074+(ob / 4503599627370496 - 1:Nat)) else if ob=2047 * 4503599627370496 then .infinity s else .nan s (ob - 2047 * 4503599627370496)):=by
  intro ob hr
  unfold Format.read Format.word
  simp only [hw,hB,hI,QL]
  have e1:(if s=true then 2 ^ 63+ob else ob) % 2 ^ 63=ob:=by cases s <;> simp <;> omega
  have e2:((if s=true then 2 ^ 63+ob else ob) / 2 ^ 63 % 2 == 1)=s:=by
   cases s
   ·have:ob / 2 ^ 63=0:=Nat.div_eq_of_lt hr
    simp only [aY,if_false];rw [this];rfl
   ·have:(2 ^ 63+ob) / 2 ^ 63=1:=by rw [Nat.add_div_left _ (by decide),Nat.div_eq_of_lt hr]
    simp only [if_true];rw [this];rfl
  rw [e1,e2]
 by_cases hm:m=0
 ·subst hm
  refine ⟨0,-1074,?_,?_⟩
  ·unfold Format.write Format.nearest
   simp only [if_true]
   rw [JT 0 (by decide),aH (by decide)]
  ·unfold pj at hv ⊢
   have PW:N=0:=by
    rw [Nat.zero_mul] at hv
    rcases Nat.mul_eq_zero.1 hv.symm with h | h
    ·exact h
    ·exact absurd h (Nat.pos_iff_ne_zero.1 (Nat.two_pow_pos _))
   rw [PW,Nat.zero_mul,Nat.zero_mul]
 ·have PW:N≠0:=fun h=>by
   unfold pj at hv
   rw [h,Nat.zero_mul] at hv
   rcases Nat.mul_eq_zero.1 hv with h | h
   ·exact hm h
   ·exact absurd h (Nat.pos_iff_ne_zero.1 (Nat.two_pow_pos _))
  -- where the digits YN
  have Wq:p+m.log2=N.log2:=by
   unfold pj at hv
   have h1:=nw m p.toNat hm
   have h2:=nw N (-p).toNat PW
   rw [hv] at h1
   omega
  have hl:N.log2≤53:=by
   have:=Nat.log2_self_le PW
   have h3:2 ^ N.log2<2 ^ 54:=by omega
   have:=(Nat.pow_lt_pow_iff_right (show 1<2 by decide)).1 h3
   omega
  have JW:=Nat.log2_self_le PW
  have qN:N<2 ^ (N.log2+1):=Nat.lt_log2_self
  obtain ⟨L,hL⟩:∃L:Int,L=(N.log2:Int) - 52:=⟨_,rfl⟩
  obtain ⟨K,k1,k2,k3,k4,k5⟩:∃K:Nat,pj K L N∧4503599627370496≤K∧K<9007199254740992∧(L≤p→m * 2 ^ (p - L).toNat=K)∧(p<L→m=K * 2 ^ (L - p).toNat):=by
   unfold pj at hv
   by_cases hc:N.log2≤52
   ·have eL:L.toNat=0:=by omega
    have Xn:(-L).toNat=52 - N.log2:=by omega
    refine ⟨N * 2 ^ (52 - N.log2),?_,?_,?_,fun h=>?_,fun h=>?_⟩
    ·unfold pj;rw [eL,Xn,Nat.pow_zero,Nat.mul_one]
    ·have:=ar (2 ^ (52 - N.log2)) JW
     rw [←Nat.pow_add,show N.log2+(52 - N.log2)=52 by omega] at this
     exact this
    ·have:=Nat.mul_lt_mul_of_pos_right qN (Nat.two_pow_pos (52 - N.log2))
     rw [←Nat.pow_add,show N.log2+1+(52 - N.log2)=53 by omega] at this
     exact this
    ·by_cases h0:0≤p
     ·rw [show (-p).toNat=0 by omega,Nat.pow_zero,Nat.mul_one] at hv
      rw [show (p - L).toNat=p.toNat+(52 - N.log2) by omega,Nat.pow_add,←Nat.mul_assoc,hv]
     ·rw [show p.toNat=0 by omega,Nat.pow_zero,Nat.mul_one] at hv
      rw [hv,Nat.mul_assoc,←Nat.pow_add,show (-p).toNat+(p - L).toNat=52 - N.log2 by omega]
    ·rw [show p.toNat=0 by omega,Nat.pow_zero,Nat.mul_one] at hv
     rw [hv,Nat.mul_assoc,←Nat.pow_add,show 52 - N.log2+(L - p).toNat=(-p).toNat by omega]
   ·have Xo:N.log2=53:=by omega
    have eN:N=9007199254740992:=by
     rw [Xo] at JW
     omega
    have eL:L=1:=by omega
    subst eL
    refine ⟨4503599627370496,?_,by decide,by decide,fun h=>?_,fun h=>?_⟩
    ·unfold pj;rw [eN];rfl
    ·rw [show (-p).toNat=0 by omega,Nat.pow_zero,Nat.mul_one,show p.toNat=(p - 1).toNat+1 by omega,Nat.pow_succ,eN,←Nat.mul_assoc] at hv
     omega
    ·rw [show p.toNat=0 by omega,Nat.pow_zero,Nat.mul_one,eN] at hv
     rw [hv,show (1 - p).toNat=(-p).toNat+1 by omega,Nat.pow_succ]
     omega
  have Py:Toward.even.cut s (m <<< (p - L).toNat) (L - p).toNat=K:=by
   rw [Nat.shiftLeft_eq]
   by_cases h:L≤p
   ·rw [k4 h,show (L - p).toNat=0 by omega];exact Tp s K
   ·have e:=k5 (by omega)
    rw [show (p - L).toNat=0 by omega,Nat.pow_zero,Nat.mul_one,e]
    refine wk s K _ ?_
    rw [←e];omega
  have YS:(L+1074).toNat * 4503599627370496+K<2047 * 4503599627370496:=by omega
  refine ⟨K,L,?_,k1⟩
  unfold Format.write Format.nearest
  simp only [aD hm,hB,hI,QL,show double.fractionBits=52 from rfl]
  rw [show max (p+(m.log2:Int) - ((52:Nat):Int)) (-1074)=L by omega,Py,show L - -1074=L+1074 by omega,Nat.min_eq_left (by omega),JT _ (by omega),aD (by omega),aH (by omega)]
  have r1:((L+1074).toNat * 4503599627370496+K) % 4503599627370496=K - 4503599627370496:=by omega
  have r2:((L+1074).toNat * 4503599627370496+K) / 4503599627370496=(L+1074).toNat+1:=by omega
  have r3:4503599627370496+(K - 4503599627370496)=K:=by omega
  have r4 : -1074+(((L+1074).toNat+1 - 1:Nat):Int)=L:=by omega
  rw [r1,r2,r3,r4]
def WD (d:Datum) (n:Int):Prop:=∃s m p,d = .number s m p∧pj m p n.natAbs∧(n<0→s=true)∧(0<n→s=false)
theorem WD.write {d:Datum} {n:Int} (h:WD d n) (hn:n.natAbs≤9007199254740992):W (double.write d) n:=by
 obtain ⟨s,m,p,rfl,hv,h1,h2⟩:=h
 obtain ⟨K,q,hr,hk⟩:=xY s m p n.natAbs hn hv
 exact ⟨s,K,q,hr,hk,h1,h2⟩
theorem W.map {d:Datum} {n:Int} {o:Option Datum} (ho:o=some d) (h:WD d n) (hn:n.natAbs≤9007199254740992):∃r,o.map double.write=some r∧W r n:=⟨_,by rw [ho];rfl,h.write hn⟩
theorem WD.product {d e:Datum} {x y:Int} (hx:WD d x) (hy:WD e y):∃r,d.product e=some r∧WD r (x * y):=by
 obtain ⟨s,m,i,rfl,hv,h1,h2⟩:=hx
 obtain ⟨t,n,j,rfl,hw,g1,g2⟩:=hy
 refine ⟨_,rfl,_,_,_,rfl,?_,?_,?_⟩
 ·unfold pj at *
  rw [Int.natAbs_mul]
  obtain ⟨c,xp,IK⟩:∃c:Nat,i.toNat+j.toNat=(i+j).toNat+c∧(-i).toNat+(-j).toNat=(-(i+j)).toNat+c:=by
   refine ⟨i.toNat+j.toNat - (i+j).toNat,?_,?_⟩ <;> omega
  have h:m * n * 2 ^ (i.toNat+j.toNat)=x.natAbs * y.natAbs * 2 ^ ((-i).toNat+(-j).toNat):=by
   rw [Nat.pow_add,Nat.pow_add]
   calc m * n * (2 ^ i.toNat * 2 ^ j.toNat)=(m * 2 ^ i.toNat) * (n * 2 ^ j.toNat):=by ac_rfl
    _=(x.natAbs * 2 ^ (-i).toNat) * (y.natAbs * 2 ^ (-j).toNat):=by rw [hv,hw]
    _=x.natAbs * y.natAbs * (2 ^ (-i).toNat * 2 ^ (-j).toNat):=by ac_rfl
  rw [xp,IK,Nat.pow_add,Nat.pow_add,←Nat.mul_assoc,←Nat.mul_assoc] at h
  exact Nat.eq_of_mul_eq_mul_right (Nat.two_pow_pos c) h
 ·intro h
  rcases Int.lt_or_lt_of_ne (show x≠0 from fun e=>by rw [e,Int.zero_mul] at h;omega) with a | a
  ·have:0<y:=by
    rcases Int.lt_or_lt_of_ne (show y≠0 from fun e=>by rw [e,Int.mul_zero] at h;omega) with b | b
    ·have:=Int.mul_pos_of_neg_of_neg a b;omega
    ·exact b
   rw [h1 a,g2 this];rfl
  ·have:y<0:=by
    rcases Int.lt_or_lt_of_ne (show y≠0 from fun e=>by rw [e,Int.mul_zero] at h;omega) with b | b
    ·exact b
    ·have:=Int.mul_pos a b;omega
   rw [h2 a,g1 this];rfl
 ·intro h
  rcases Int.lt_or_lt_of_ne (show x≠0 from fun e=>by rw [e,Int.zero_mul] at h;omega) with a | a
  ·have:y<0:=by
    rcases Int.lt_or_lt_of_ne (show y≠0 from fun e=>by rw [e,Int.mul_zero] at h;omega) with b | b
    ·exact b
    ·have:=Int.mul_neg_of_neg_of_pos a b;omega
   rw [h1 a,g1 this];rfl
  ·have:0<y:=by
    rcases Int.lt_or_lt_of_ne (show y≠0 from fun e=>by rw [e,Int.mul_zero] at h;omega) with b | b
    ·have:=Int.mul_neg_of_pos_of_neg a b;omega
    ·exact b
   rw [h2 a,g2 this];rfl
theorem lv {s:Bool} {m:Nat} {i base:Int} {x:Int} (hv:pj m i x.natAbs) (h1:x<0→s=true) (h2:0<x→s=false) (hb:base≤i):Ieee.signed s m (i - base).toNat * (2:Int) ^ base.toNat=x * (2:Int) ^ (-base).toNat:=by
 unfold pj at hv
 have hN:m * 2 ^ (i - base).toNat * 2 ^ base.toNat=x.natAbs * 2 ^ (-base).toNat:=by
  obtain ⟨c,xp,IK⟩:∃c:Nat,(i - base).toNat+base.toNat+c=i.toNat+((i - base).toNat+base.toNat+c - i.toNat)∧c=(-i).toNat:=⟨_,by omega,rfl⟩
  have e1:(i - base).toNat+base.toNat+(-i).toNat=i.toNat+(-base).toNat:=by omega
  have h:m * 2 ^ (i - base).toNat * 2 ^ base.toNat * 2 ^ (-i).toNat=x.natAbs * 2 ^ (-base).toNat * 2 ^ (-i).toNat:=by
   calc m * 2 ^ (i - base).toNat * 2 ^ base.toNat * 2 ^ (-i).toNat=m * 2 ^ ((i - base).toNat+base.toNat+(-i).toNat):=by rw [Nat.pow_add,Nat.pow_add];ac_rfl
    _=m * 2 ^ i.toNat * 2 ^ (-base).toNat:=by rw [e1,Nat.pow_add];ac_rfl
    _=x.natAbs * 2 ^ (-base).toNat * 2 ^ (-i).toNat:=by rw [hv];ac_rfl
  exact Nat.eq_of_mul_eq_mul_right (Nat.two_pow_pos _) h
 have hZ:((m * 2 ^ (i - base).toNat:Nat):Int) * (2:Int) ^ base.toNat=(x.natAbs:Int) * (2:Int) ^ (-base).toNat:=by
  have:=congrArg (Nat.cast (R:=Int)) hN
  simpa using this
 unfold Ieee.signed
 rw [Nat.shiftLeft_eq]
 rcases Int.lt_trichotomy x 0 with a | a | a
 ·rw [h1 a,aH rfl,Int.neg_mul,hZ,show (x.natAbs:Int)=-x by omega,Int.neg_mul,Int.neg_neg]
 ·subst a
  have h0:((m * 2 ^ (i - base).toNat:Nat):Int) * (2:Int) ^ base.toNat=0:=by rw [hZ];simp
  cases s
  ·rw [aD (by decide),h0];simp
  ·rw [aH rfl,Int.neg_mul,h0];simp
 ·rw [h2 a,aD (by decide),hZ,show (x.natAbs:Int)=x by omega]
theorem WD.sum {d e:Datum} {x y:Int} (hx:WD d x) (hy:WD e y):∃r,d.sum e=some r∧WD r (x+y):=by
 obtain ⟨s,m,i,rfl,hv,h1,h2⟩:=hx
 obtain ⟨t,n,j,rfl,hw,g1,g2⟩:=hy
 have e1:=lv hv h1 h2 (show min i j≤i by omega)
 have e2:=lv hw g1 g2 (show min i j≤j by omega)
 refine ⟨_,rfl,_,_,_,rfl,?_,?_,?_⟩
 all_goals generalize min i j=base at e1 e2 ⊢
 all_goals
  have e3:(Ieee.signed s m (i - base).toNat+Ieee.signed t n (j - base).toNat) * (2:Int) ^ base.toNat=(x+y) * (2:Int) ^ (-base).toNat:=by rw [Int.add_mul,Int.add_mul,e1,e2]
  generalize Ieee.signed s m (i - base).toNat+Ieee.signed t n (j - base).toNat=T at e3 ⊢
  have p1:(0:Int)<(2:Int) ^ base.toNat:=by exact_mod_cast Nat.two_pow_pos base.toNat
  have p2:(0:Int)<(2:Int) ^ (-base).toNat:=by exact_mod_cast Nat.two_pow_pos (-base).toNat
 ·unfold pj
  have:=congrArg Int.natAbs e3
  rw [Int.natAbs_mul,Int.natAbs_mul,Int.natAbs_pow,Int.natAbs_pow] at this
  exact this
 ·intro h
  have hT:T<0:=by
   have h3:=Int.mul_neg_of_neg_of_pos h p2
   rw [←e3] at h3
   exact Int.not_le.1 fun xV=>by have:=Int.mul_nonneg xV (Int.le_of_lt p1);omega
  rw [aD (by omega)];exact ae hT
 ·intro h
  have hT:0<T:=by
   have h3:=Int.mul_pos h p2
   rw [←e3] at h3
   exact Int.not_le.1 fun xV=>by have:=Int.mul_nonneg (show 0≤-T by omega) (Int.le_of_lt p1);rw [Int.neg_mul] at this;omega
  rw [aD (by omega)];exact af (by omega)
theorem WD.opposite {d:Datum} {x:Int} (hx:WD d x):WD d.opposite (-x):=by
 obtain ⟨s,m,i,rfl,hv,h1,h2⟩:=hx
 exact ⟨!s,m,i,rfl,by rw [Int.natAbs_neg];exact hv,fun h=>by rw [h2 (by omega)];rfl,fun h=>by rw [h1 (by omega)];rfl⟩
theorem DD {a b:Nat} {x y:Int} (ha:W a x) (hb:W b y) (h:(x+y).natAbs≤9007199254740992):∃r,double.add a b=some r∧W r (x+y):=by
 obtain ⟨d,e,hd⟩:=WD.sum ha hb
 exact W.map e hd h
theorem CC {a b:Nat} {x y:Int} (ha:W a x) (hb:W b y) (h:(x - y).natAbs≤9007199254740992):∃r,double.sub a b=some r∧W r (x - y):=by
 obtain ⟨d,e,hd⟩:=WD.sum ha (WD.opposite hb)
 exact W.map e hd h
theorem CW {a b:Nat} {x y:Int} (ha:W a x) (hb:W b y) (h:(x * y).natAbs≤9007199254740992):∃r,double.mul a b=some r∧W r (x * y):=by
 obtain ⟨d,e,hd⟩:=WD.product ha hb
 exact W.map e hd h
theorem yJ (n:Int) (h:n.natAbs≤9007199254740992):W (double.write (.number (n<0) n.natAbs 0)) n :=
 WD.write ⟨_,_,_,rfl,by unfold pj;simp,fun h=>ae h,fun h=>af (by omega)⟩ h
theorem ju {a b:Nat} {x y:Int} (ha:W a x) (hb:W b y):double.order a b=some (compare x y):=by
 obtain ⟨s,m,i,hr,hv,h1,h2⟩:=ha
 obtain ⟨t,n,j,hq,hw,g1,g2⟩:=hb
 have e1:=lv hv h1 h2 (show min i j≤i by omega)
 have e2:=lv hw g1 g2 (show min i j≤j by omega)
 unfold Format.order
 rw [hr,hq]
 show some (compare (Ieee.signed s m (i - min i j).toNat) (Ieee.signed t n (j - min i j).toNat))=_
 generalize min i j=base at e1 e2 ⊢
 have p1:(0:Int)<(2:Int) ^ base.toNat:=by exact_mod_cast Nat.two_pow_pos base.toNat
 have p2:(0:Int)<(2:Int) ^ (-base).toNat:=by exact_mod_cast Nat.two_pow_pos (-base).toNat
 generalize Ieee.signed s m (i - base).toNat=A at e1 ⊢
 generalize Ieee.signed t n (j - base).toNat=B at e2 ⊢
 congr 1
 rcases Int.lt_trichotomy x y with c | c | c
 ·have h3:=Int.mul_lt_mul_of_pos_right c p2
  rw [←e1,←e2] at h3
  have h4:A<B:=Int.lt_of_mul_lt_mul_right h3 (Int.le_of_lt p1)
  rw [Int.compare_eq_lt.2 h4,Int.compare_eq_lt.2 c]
 ·subst c
  rw [←e2] at e1
  have h4:A=B:=Int.eq_of_mul_eq_mul_right (by omega) e1
  rw [h4];simp
 ·have h3:=Int.mul_lt_mul_of_pos_right c p2
  rw [←e1,←e2] at h3
  have h4:B<A:=Int.lt_of_mul_lt_mul_right h3 (Int.le_of_lt p1)
  rw [Int.compare_eq_gt.2 h4,Int.compare_eq_gt.2 c]
end Fl
end Go.Eng
namespace Go.Eng
open Go.IntWalk
theorem bD {R:Type} {p:Bool} {x:Option R} (h:p=true):ck p x=x:=by rw [h];rfl
theorem iT:maxLen=9223372036854775807:=by decide
theorem gZ {n b:Nat} (h:n * b≤140737488355328) (h2:n≤140737488355328):jo n b=true:=jf.2 ⟨by rw [iT];omega,h⟩
theorem cN {n:Int} {l:Nat} (h0:0≤n) (h1:n<l):cq n l=true:=ir.2 ⟨h0,h1⟩
theorem lJ {a b:Int} {l:Nat} (h0:0≤a) (h1:a≤b) (h2:b≤l):gN a b l=true:=jz.2 ⟨h0,h1,h2⟩
theorem oi {a b k:Nat} (hb:b<2 ^ k):(a * 2 ^ k) ||| b=a * 2 ^ k+b:=by
 rw [←Nat.shiftLeft_eq,Nat.shiftLeft_add_eq_or_of_lt hb]
theorem drop_cons {α:Type} {l:List α} {i:Nat} (hi:i<l.length) (d:α):l.drop i=l.getD i d :: l.drop (i+1):=by
 rw [List.drop_eq_getElem_cons hi,ak,aA hi];rfl
theorem BA (n:Nat):(UInt64.ofInt (n:Int)).toNat=n % 18446744073709551616:=by
 have h:=rD (n:Int)
 rw [jr] at h;omega
theorem Ao (n:Nat):(UInt8.ofInt (n:Int)).toNat=n % 256:=by
 have h:=tU (n:Int)
 rw [wrap_u8'] at h;omega
end Go.Eng
namespace Go.Eng
namespace Nt
def val:List UInt16→Nat
 | []=>0
 | d :: r=>d.toNat+65536 * val r
def fix:Nat→Nat→List UInt16
 | 0,_=>[]
 | k+1,n=>UInt16.ofNat n :: fix k (n / 65536)
def of (n:Nat):List UInt16:=if n=0 then [] else UInt16.ofNat n :: of (n / 65536)
termination_by n
decreasing_by exact Nat.div_lt_self (by omega) (by omega)
def norm (a:List UInt16):Bool:=decide (a.getLast?≠some 0)
def is (a:List UInt16):Bool:=decide (a.length≤256)&&norm a
def bits (n:Nat):Nat:=if n=0 then 0 else n.log2+1
def cmp (a b:Nat):Int:=if a<b then -1 else if a=b then 0 else 1
end Nt
namespace Gz
def Nd:List Cx:=[(4607182418800017408,0),(0,4607182418800017408),(13830554455654793216,0),(0,13830554455654793216)]
def mul (z w:Cx):Cx:=(Fl.sx z.1 z.2 w.1 w.2,Fl.sy z.1 z.2 w.1 w.2)
def add (z w:Cx):Cx:=(Fl.add z.1 w.1,Fl.add z.2 w.2)
def unit (k:Int):Cx:=Nd.getD (k % 4).toNat (0,0)
def ta (z:Cx) (k:Int):Cx:=mul z (unit k)
def part (l:Qd) (way:Int) (k:Nat):Nat→Cx
 | 0=>(0,0)
 | j+1=>add (part l way k j) (ta (l.get j) (j * k * way))
def me (l:Qd) (way:Int):Qd:=⟨part l way 0 4,part l way 1 4,part l way 2 4,part l way 3 4⟩
def quarter (z:Cx):Cx:=(Fl.ofInt ((Fl.toInt z.1).tdiv 4),Fl.ofInt ((Fl.toInt z.2).tdiv 4))
def back (l:Qd):Qd:=⟨quarter (part l (-1) 0 4),quarter (part l (-1) 1 4),quarter (part l (-1) 2 4),quarter (part l (-1) 3 4)⟩
def xS (n:Int):Cx:=(Fl.ofInt n,Fl.ofInt 0)
def gj:List Int→List Qd
 | []=>[]
 | [a]=>[me ⟨xS a,(0,0),(0,0),(0,0)⟩ 1]
 | a :: b :: r=>me ⟨xS a,xS b,(0,0),(0,0)⟩ 1 :: gj r
def Is (z:Cx) (x y:Int):Prop:=Fl.W z.1 x∧Fl.W z.2 y
def In (z:Cx) (M:Nat):Prop:=∃x y:Int,Is z x y∧x.natAbs≤M∧y.natAbs≤M
def Kt (l:Qd) (M:Nat):Prop:=In l.c0 M∧In l.c1 M∧In l.c2 M∧In l.c3 M
def U2 (z:Cx):Prop:=∃x y:Int,Is z (4 * x) (4 * y)∧x.natAbs≤562949953421312∧y.natAbs≤562949953421312
open Classical in
noncomputable def sT (z:Cx) (M:Nat):Bool:=decide (In z M)
open Classical in
noncomputable def vc (l:Qd) (M:Nat):Bool:=decide (Kt l M)
open Classical in
noncomputable def JP (l:Qd):Bool:=decide (∀k,k<4→U2 (part l (-1) k 4))
open Classical in
noncomputable def LJ (z:Cx) (b:Nat):Bool:=decide (∃x y m:Int,Is z x y∧Fl.W b m∧(x.natAbs:Int)≤m∧(y.natAbs:Int)≤m∧m≤9007199254740992)
open Classical in
noncomputable def Iz (b:Nat):Bool:=decide (∃n:Int,Fl.W b n∧n.natAbs≤1125899906842624)
def Dw (a b:List Int) (m:Nat):Int:=(List.range (m+1)).foldl (fun s i=>s+a.getD i 0 * b.getD (m - i) 0) 0
def conv (a b:List Int):List Int:=if a=[]∨b=[] then [] else (List.range (a.length+b.length - 1)).map (Dw a b)
def gY (a:List Int):Bool:=a.all fun x=>decide (0≤x∧x≤65535)
end Gz
namespace Nr
def eo (c:UInt8):Bool:=decide (48≤c∧c≤57)
def num (d:bT):Nat:=d.foldl (fun n c=>10 * n+(c.toNat - 48)) 0
def dec (n:Nat):bT:=if n<10 then [UInt8.ofNat (48+n)] else dec (n / 10)++[UInt8.ofNat (48+n % 10)]
termination_by n
decreasing_by exact Nat.div_lt_self (by omega) (by omega)
noncomputable def JM:{f:Int→bT // ∀v,f v=if v<0 then 45 :: dec v.natAbs else dec v.natAbs}:=Classical.choice ⟨⟨fun v=>if v<0 then 45 :: dec v.natAbs else dec v.natAbs,fun _=>rfl⟩⟩
noncomputable def itoa (v:Int):bT:=JM.1 v
theorem B9 (v:Int):itoa v=if v<0 then 45 :: dec v.natAbs else dec v.natAbs:=JM.2 v
def cT (d:bT):bT:=(d.reverse.dropWhile (· == 48)).reverse
def uF (d:bT):bT:=d.dropWhile (· == 48)
def iD (p:Nat):Nat:=if p<4503599627370496 then p else p % 4503599627370496+4503599627370496
def sh (p:Nat):Nat:=p / 4503599627370496 - 1
def ns (p:Nat):Nat:=(2 * iD p+1) * 2 ^ sh p
def fS:Nat:=2 * 2 ^ 1074
def fC (a b p:Nat):Prop:=ns p * b<a * fS∨(ns p * b=a * fS∧p % 2=1)
def top:Nat:=9218868437227405311
open Classical in
noncomputable def gf (a b:Nat):Option Nat:=if h:∃p,p≤top∧¬fC a b p∧∀q,q<p→fC a b q then some h.choose else none
def valid (d:bT):Bool:=decide (1≤d.length∧d.length≤300)&&d.all eo
noncomputable def rd (n:Nat) (k:Int):Option Nat:=gf (n * 10 ^ k.toNat) (10 ^ (-k).toNat)
noncomputable def read (d:bT) (x:Int):Option Nat:=if valid d then rd (num d) (x - d.length) else none
noncomputable def pat (r:Option Nat):UInt64:=UInt64.ofNat (r.getD 0)
def split (b:UInt64):Int × Bool × UInt64 × Int :=
 let x:=b.toNat / 4503599627370496 % 2048
 let f:=b.toNat % 4503599627370496
 let neg:=decide (9223372036854775808≤b.toNat)
 if x=2047 then (if f=0 then (3,neg,0,0) else (4,neg,0,0))
 else if x=0 then (if f=0 then (1,neg,0,0) else (2,neg,UInt64.ofNat f,-1074))
 else (2,neg,UInt64.ofNat (4503599627370496+f),x - 1075)
def Dt (m:Nat) (e:Int):Nat:=m * 2 ^ e.toNat * 5 ^ (-e).toNat
def xz (m:Nat) (e:Int):Int:=(dec (Dt m e)).length+min e 0
def times:List UInt64→UInt64→UInt64→List UInt64
 | [],_,c=>if c > 0 then [c] else []
 | a :: r,b,c=>(c+a * b) % 100000000 :: times r b ((c+a * b) / 100000000)
def um (a b:Nat):Nat:=if b<2 * (a % b)∨(b=2 * (a % b)∧a / b % 2=1) then a / b+1 else a / b
def lx (a b:Nat):Bool:=decide (um a b=a / b+1∧um a b=9007199254740992)
def iR (a:Nat) (e:Int):Nat:=a * 2 ^ (-e).toNat
def iC (b:Nat) (e:Int):Nat:=b * 2 ^ e.toNat
def run (s:bT):Nat:=(s.takeWhile eo).length
def AX (s:bT) (k:Int):Int :=
 match s with
 | []=>k
 | c :: r=>if c=101∨c=69 then
   let r:=match r with | d :: q=>if d=43∨d=45 then q else r | []=>r
   if run r=0∨run r<r.length then 0 else 2
  else 0
def B5 (s:bT):Int :=
 match s with
 | 46 :: r=>if run r=0 then 0 else AX (r.drop (run r)) 2
 | s=>AX s 1
def Lv (s:bT):Int :=
 let t:=match s with | 45 :: r=>r | s=>s
 if run t=0∨(t.getD 0 0=48∧1<run t) then 0 else B5 (t.drop (run t))
open Classical in
noncomputable def i64 (v:Int):Bool:=decide (-9223372036854775808≤v∧v≤9223372036854775807)
theorem FG {v:Int} (h:i64 v=true):decide (-9223372036854775808≤v∧v≤9223372036854775807)=true:=ae (aN h)
def signed (s:bT):bT:=match s with | c :: r=>if c=43∨c=45 then r else s | []=>[]
def zM (s:bT):Int :=
 let n:Nat:=num (signed s)
 if s.getD 0 0=45 then -(n:Int) else n
def ZS (s:bT):Int:=if s.getD 0 0=45 then -((min (num (signed s)) 1000000:Nat):Int) else ((min (num (signed s)) 1000000:Nat):Int)
def body (s:bT):bT:=match s with | 45 :: r=>r | s=>s
def JO (c:UInt8):Bool:=decide (c=101∨c=69)
def Ie (s:bT):bT:=(body s).takeWhile fun c=>!JO c
def tail (s:bT):bT:=((body s).dropWhile fun c=>!JO c).drop 1
def ahead (s:bT):bT:=(Ie s).takeWhile (· != 46)
def behind (s:bT):bT:=((Ie s).dropWhile (· != 46)).drop 1
noncomputable def wi (s:bT):UInt64 × Int :=
 if Lv s=0 then (0,3)
 else if 300<s.length then (0,10)
 else match read (ahead s++behind s) ((ahead s).length+zM (tail s)) with
  | none=>(0,10)
  | some p=>(UInt64.ofNat (p+if s.getD 0 0=45 then 9223372036854775808 else 0),0)
noncomputable def aai:{f:bT→UInt64 × Int // ∀s,f s=wi s}:=Classical.choice ⟨⟨wi,fun _=>rfl⟩⟩
noncomputable def parse (s:bT):UInt64 × Int:=aai.1 s
theorem uc (s:bT):parse s=wi s:=aai.2 s
open Classical in
noncomputable def join (neg:Bool) (m:Nat) (e:Int):Option Nat :=
 if h:∃p,p≤top∧iD p * 2 ^ sh p * 2 ^ (-(e+1074)).toNat=m * 2 ^ (e+1074).toNat then some (h.choose+if neg then 9223372036854775808 else 0) else none
noncomputable def Lm:{f:Int→Option Nat // ∀v,f v=join (decide (v<0)) v.natAbs 0}:=Classical.choice ⟨⟨fun v=>join (decide (v<0)) v.natAbs 0,fun _=>rfl⟩⟩
noncomputable def ofInt (v:Int):Option Nat:=Lm.1 v
end Nr
end Go.Eng
namespace Go.Eng
namespace Sh
def tA (a:Nat) (k:Int):Nat:=a * 10 ^ k.toNat
def tB (b:Nat) (k:Int):Nat:=b * 10 ^ (-k).toNat
open Classical in
noncomputable def reads (p N:Nat) (k:Int):Option (bT × Int):=if Nr.rd N k=some p then some (Nr.cT (Nr.dec N),(Nr.dec N).length+k) else none
noncomputable def some_ (p a b:Nat) (x n:Int):Option (bT × Int) :=
 let P:=tA a (n - x)
 let Q:=tB b (n - x)
 let u:=reads p (P / Q) (x - n)
 let o:=reads p (P / Q+1) (x - n)
 if u.isSome=true∧(o.isSome=false∨2 * (P % Q)<Q∨(2 * (P % Q)=Q∧P / Q % 2=0)) then u else o
def gI (p:Nat):Nat:=Nr.iD p * 2 ^ ((Nr.sh p:Int) - 1074).toNat
def ff (p:Nat):Nat:=2 ^ (-((Nr.sh p:Int) - 1074)).toNat
def dx (p:Nat):Int:=Nr.xz (Nr.iD p) ((Nr.sh p:Int) - 1074)
noncomputable def go (p:Nat):Nat→Nat→bT × Int
 | 0,_=>([],0)
 | f+1,i=>(some_ p (gI p) (ff p) (dx p) i).getD (go p f (i+1))
theorem go_succ (p f i:Nat):go p (f+1) i=(some_ p (gI p) (ff p) (dx p) i).getD (go p f (i+1)):=rfl
noncomputable def digits (p:Nat):bT × Int:=go p 17 1
def iE (b:UInt64):Nat:=b.toNat % 9223372036854775808
noncomputable def QQ (b:UInt64):bT × Int × Bool:=if (Nr.split b).1=2 then ((digits (iE b)).1,(digits (iE b)).2,true) else ([],0,false)
noncomputable def UF:{f:UInt64→bT × Int × Bool // ∀b,f b=QQ b}:=Classical.choice ⟨⟨QQ,fun _=>rfl⟩⟩
noncomputable def dg (b:UInt64):bT × Int × Bool:=UF.1 b
theorem Kf (b:UInt64):dg b=QQ b:=UF.2 b
def fF (n:Int):bT:=List.replicate n.toNat 48
noncomputable def laid (d:bT) (x:Int):bT :=
 if 1≤x∧x≤21∧(d.length:Int)≤x then d++fF (x - d.length)
 else if 1≤x∧x≤21 then d.take x.toNat++([46]++d.drop x.toNat)
 else if -5≤x∧x≤0 then [48,46]++(fF (-x)++d)
 else (d.take 1++(if 1<d.length then 46 :: d.drop 1 else []))++(if x<1 then [101,45]++Nr.itoa (1 - x) else [101,43]++Nr.itoa (x - 1))
def more (d:bT) (x:Int):bT × Int :=
 let s:=(d.reverse.dropWhile (· == 57)).reverse
 if s=[] then ([49],x+1) else (s.dropLast++[s.getLast?.getD 0+1],x)
noncomputable def BC:{f:Nat→bT // ∀n,f n=Nr.dec n}:=Classical.choice ⟨⟨Nr.dec,fun _=>rfl⟩⟩
noncomputable def pX (n:Nat):bT:=BC.1 n
theorem vD (n:Nat):pX n=Nr.dec n:=BC.2 n
noncomputable def BK:{f:Nat→Nat→Int→Option (bT × Int) // ∀p N k,f p N k=reads p N k}:=Classical.choice ⟨⟨reads,fun _ _ _=>rfl⟩⟩
noncomputable def iX (p N:Nat) (k:Int):Option (bT × Int):=BK.1 p N k
theorem vM (p N:Nat) (k:Int):iX p N k=reads p N k:=BK.2 p N k
noncomputable def Ec:{f:Nat→Nat→Nat→Int→Int→Option (bT × Int) // ∀p a b x n,f p a b x n=some_ p a b x n}:=Classical.choice ⟨⟨some_,fun _ _ _ _ _=>rfl⟩⟩
noncomputable def mJ (p a b:Nat) (x n:Int):Option (bT × Int):=Ec.1 p a b x n
theorem ud (p a b:Nat) (x n:Int):mJ p a b x n=some_ p a b x n:=Ec.2 p a b x n
open Classical in
noncomputable def ng (a b:Nat) (x n:Int):Bool:=decide (1≤n∧n≤17∧-380≤x∧x≤380∧0<a∧a<2 ^ 1100∧0<b∧b<2 ^ 1100∧tB b (n - x)≤tA a (n - x)∧tA a (n - x)<10 ^ 17 * tB b (n - x))
noncomputable def Fv:{f:bT→Int→bT // ∀d x,f d x=laid d x}:=Classical.choice ⟨⟨laid,fun _ _=>rfl⟩⟩
noncomputable def yY (d:bT) (x:Int):bT:=Fv.1 d x
theorem yX (d:bT) (x:Int):yY d x=laid d x:=Fv.2 d x
def sign (b:UInt64):bT:=if (Nr.split b).2.1 then [45] else []
noncomputable def vE (b:UInt64):bT :=
 if (Nr.split b).1=4 then [78,97,78]
 else if (Nr.split b).1=3 then sign b++[73,110,102,105,110,105,116,121]
 else if (Nr.split b).1=1 then sign b++[48]
 else sign b++laid (dg b).1 (dg b).2.1
noncomputable def DZ:{f:UInt64→bT // ∀b,f b=vE b}:=Classical.choice ⟨⟨vE,fun _=>rfl⟩⟩
noncomputable def text (b:UInt64):bT:=DZ.1 b
theorem wF (b:UInt64):text b=vE b:=DZ.2 b
end Sh
end Go.Eng
