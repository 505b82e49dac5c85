/- Texts of my own, one behind the other: EngU, EngV, EngW, EngX, EvA, EvB, EvC, EvD, EvE, EvF, EvG, EvH, EvI, EvJ, EvK, EvL, FloatP, ArithP, NrPure, ShPure. -/
import Derived.Test.YtfomkedednklbaaGreatDoorT2
import Derived.Deep.LoopGhost
import Derived.ScopeJumps
import Derived.KernelRfl
import Derived.Laws.Strings
import Derived.ChangeShapes
import Derived.ProofKit
import Derived.ChangeSlices
import Derived.ChangeArms
import Derived.DataReads
import Derived.Below
import Derived.Lib.LaidTab
import Derived.Lib.ItoaNum
import Derived.Sort.Grow
import Derived.Deep.Draws
import Derived.Laws.FloatArith
import Derived.IntWalk
import Derived.Lib.SlTrimSet
import Derived.Lib.IndexAny
import Derived.Lib.TrailingZeros
set_option linter.unusedVariables false
set_option linter.unusedSimpArgs false
namespace Go.Eng
open Go.RowKit
theorem GL.A2 {G:GL} {k:Nat}:∀{g:Gh},G.get k=g→g ≠ .no→(k,g)∈G:=by
 induction G with
 | nil=>intro g h hn;exact absurd h.symm hn
 | cons p r ih =>
  intro g h hn
  obtain ⟨j,x⟩:=p
  simp only [GL.get] at h
  split at h
  ·rename_i e;subst e;subst h;exact List.mem_cons_self ..
  ·exact List.mem_cons_of_mem _ (ih h hn)
def rename (ρ:List (Nat × Nat)) (τ:Nat→Value) (key:Nat):Value :=
 match ρ.find? (fun p=>lk p.1 == key) with
 | some p=>τ (lk p.2)
 | none=>τ key
theorem LB (i j:Nat):(lk i == lk j)=(i == j):=by
 by_cases h:i=j
 ·subst h;simp
 ·have:lk i≠lk j:=fun e=>h (fT e)
  rw [beq_eq_false_iff_ne.2 this,beq_eq_false_iff_ne.2 h]
section
variable {C:Ctx} {D:kf} {σ:Sg} {a:Act} {w:World} {G H:GL}
theorem cN.weaken (h:cN C D σ G.get a w) (hr:lh G H=true):∃D',cN C D' σ H.get a w:=by
 unfold lh at hr
 simp only [aa] at hr
 obtain ⟨⟨h9,PK⟩,nJ⟩:=hr
 generalize QE:B4 G H=ρ at PK nJ
 have J8:∀p∈ρ,∀q∈ρ,(p.1=q.1 ↔ p.2=q.2):=by
  intro p hp q hq
  have:=aL.1 (aL.1 PK p hp) q hq
  by_cases e1:p.1=q.1 <;> by_cases e2:p.2=q.2 <;> simp [e1,e2] at this ⊢
 have Bd:∀p∈ρ,rename ρ D.τ (lk p.1)=D.τ (lk p.2):=by
  intro p hp
  simp only [rename,LB]
  cases hf:ρ.find? (fun q=>q.1 == p.1) with
  | none=>exact absurd (List.find?_eq_none.1 hf p hp) (by simp)
  | some q =>
   have h1:q.1=p.1:=by simpa using List.find?_some hf
   have h2:=(J8 q (List.mem_of_find?_eq_some hf) p hp).1 h1
   simp only [h2]
 have F0:∀{i j:Nat},(ρ.find? (fun p=>p.1 == i)).map (·.2)=some j→rename ρ D.τ (lk i)=D.τ (lk j):=by
  intro i j hf
  simp only [aV] at hf
  obtain ⟨q,hf,rfl⟩:=hf
  have h1:q.1=i:=by simpa using List.find?_some hf
  rw [←h1]
  exact Bd q (List.mem_of_find?_eq_some hf)
 have jG:∀k,H.get k ≠ .no→(match H.get k,G.get k with
  | .no,_=>true
  | .ptr m o,.ptr m' o'=>m == m'&&o == o'&&(match H.get m with | .cl _=>true | _=>false)
  | .cD i s,.cD j s'=>s == s'&&(ρ.find? (fun p=>p.1 == i)).map (·.2) == some j&&(H.get (lk i)).eD
  | .cl ts,.cl us=>ts.all fun t=>(match us.find? (fun u=>u.1 == t.1) with | some u=>(ρ.find? (fun p=>p.1 == t.2.1)).map (·.2) == some u.2.1&&t.2.2 == u.2.2 | none=>false)&&(H.get (lk t.2.1)).eD
  | .live s,_=>ρ.any fun p=>lk p.1 == k&&G.get (lk p.2) == .live s
  | .pv s,.pv s'=>s == s'&&ρ.any fun p=>lk p.1 == k&&p.1 == p.2
  | .pv s,.ni d s'=>s == s'&&!(H.get d).eD&&ρ.any fun p=>lk p.1 == k&&p.1 == p.2
  | .used,_=>decide (1000000≤k)
  | _,_=>false)=true:=fun k hk=>aL.1 nJ (k,H.get k) (GL.A2 rfl hk)
 have jf:∀m ts,H.get m = .cl ts→∃us,G.get m = .cl us∧∀t∈ts,(∃u∈us,u.1=t.1∧rename ρ D.τ (lk t.2.1)=D.τ (lk u.2.1))∧(H.get (lk t.2.1)).eD=true:=by
  intro m ts e
  have:=jG m (by rw [e];simp)
  rw [e] at this
  cases hg:G.get m with
  | cl us =>
   rw [hg] at this
   refine ⟨us,rfl,fun t ht=>?_⟩
   have h1:=aL.1 this t ht
   simp only [aa] at h1
   refine ⟨?_,h1.2⟩
   have h2:=h1.1
   split at h2
   ·rename_i u hu
    simp only [aa,beq_iff_eq] at h2
    exact ⟨u,List.mem_of_find?_eq_some hu,by simpa using List.find?_some hu,F0 h2.1⟩
   ·cases h2
  | _=>rw [hg] at this;simp at this
 have kY:∀k s,H.get k = .live s→∃p∈ρ,lk p.1=k∧G.get (lk p.2) = .live s:=by
  intro k s e
  have:=jG k (by rw [e];simp)
  rw [e] at this
  simp only [List.any_eq_true,aa,beq_iff_eq] at this
  exact this
 have HE:∀k s,H.get k = .pv s→(∃p∈ρ,lk p.1=k∧p.1=p.2)∧(G.get k).CU=some s∧∀d,(G.get k).par=some d→(H.get d).eD=false:=by
  intro k s e
  have:=jG k (by rw [e];simp)
  rw [e] at this
  cases hg:G.get k with
  | pv s' =>
   rw [hg] at this
   simp only [aa,beq_iff_eq,List.any_eq_true] at this
   exact ⟨this.2,by rw [this.1];rfl,fun d hd=>by cases hd⟩
  | ni d s' =>
   rw [hg] at this
   simp only [aa,beq_iff_eq,List.any_eq_true,Bool.not_eq_true'] at this
   exact ⟨this.2,by rw [this.1.1];rfl,fun d hd=>by cases hd;exact this.1.2⟩
  | _=>rw [hg] at this;simp at this
 have qZ:∀key g,eM { D with τ:=rename ρ D.τ } H.get key=some g→(∃ts,H.get key = .cl ts∧eM D G.get key=some g)∨(∃p∈ρ,lk p.1=key∧eM D G.get (lk p.2)=some g ∧
   (∀d,(G.get (lk p.2)).par=some d→(H.get d).eD=false)∧(H.get key).eD=true∧((p.1=p.2)∨∃s,G.get (lk p.2) = .live s)):=by
  intro key g hb
  cases hk:H.get key with
  | cl ts =>
   left
   obtain ⟨us,hu,_⟩:=jf key ts hk
   refine ⟨ts,rfl,?_⟩
   rw [gV hk] at hb
   rw [gV hu]
   exact hb
  | live s =>
   right
   obtain ⟨p,hp,h1,h2⟩:=kY key s hk
   refine ⟨p,hp,h1,?_,fun d hd=>(by rw [h2] at hd;cases hd),rfl,.inr ⟨s,h2⟩⟩
   rw [gG hk,←h1] at hb
   rw [gG h2]
   dsimp only at hb
   rw [Bd p hp] at hb
   exact hb
  | pv s =>
   right
   obtain ⟨⟨p,hp,h1,h2⟩,h3,h4⟩:=HE key s hk
   have e:lk p.2=key:=by rw [←h2];exact h1
   refine ⟨p,hp,h1,?_,by rw [e];exact h4,rfl,.inl h2⟩
   rw [fS (by rw [hk];rfl),←h1] at hb
   rw [e,fS (Gh.qI h3)]
   dsimp only at hb
   rw [Bd p hp,e] at hb
   exact hb
  | ni d s =>
   have:=jG key (by rw [hk];simp)
   rw [hk] at this
   simp at this
  | pc s =>
   have:=jG key (by rw [hk];simp)
   rw [hk] at this
   simp at this
  | _=>simp [eM,hk] at hb
 have LZ:∀m,(H.get m).ff=true→C.nt≤m∧m<1000000:=by
  intro m hm
  cases hk:H.get m with
  | cl ts =>
   obtain ⟨us,hu,_⟩:=jf m ts hk
   exact h.om m (by rw [hu];rfl)
  | _=>rw [hk] at hm;simp [Gh.ff] at hm
 refine ⟨{ D with τ:=rename ρ D.τ },{ size:=h.size,defers:=h.defers,iG:=h.iG,om:=LZ,kU:=?_,slot:=?_,mem:=?_,cD:=?_,ps:=?_,sep:=?_,own:=?_,inv:=?_,ext:=h.ext,j0:=h.j0,gl:=h.gl,fix:=h.fix.of rfl fun hp=>?_ }⟩
 ·intro m hm
  cases hk:H.get m with
  | live s =>
   obtain ⟨p,_,rfl,_⟩:=kY m s hk
   exact fN _
  | pv s =>
   obtain ⟨⟨p,_,h1,_⟩,_⟩:=HE m s hk
   rw [←h1];exact fN _
  | ni d s =>
   have:=jG m (by rw [hk];simp)
   rw [hk] at this
   simp at this
  | pc s =>
   have:=jG m (by rw [hk];simp)
   rw [hk] at this
   simp at this
  | used =>
   have:=jG m (by rw [hk];simp)
   rw [hk] at this
   simpa using this
  | _=>rw [hk] at hm;simp [Gh.eD] at hm
 ·intro t ht
  rcases h.slot t ht with e | ⟨e1,e2⟩
  ·exact .inl e
  ·refine .inr ⟨e1,fun Wl=>?_⟩
   replace e2:=e2 Wl
   cases hk:H.get t with
   | ptr m o =>
    have:=jG t (by rw [hk];simp)
    rw [hk] at this
    cases hg:G.get t with
    | ptr m' o' =>
     rw [hg] at this e2
     simp only [aa,beq_iff_eq] at this
     obtain ⟨⟨rfl,rfl⟩,_⟩:=this
     exact e2
    | _=>rw [hg] at this;simp at this
   | cD i s =>
    have:=jG t (by rw [hk];simp)
    rw [hk] at this
    cases hg:G.get t with
    | cD j s' =>
     rw [hg] at this e2
     simp only [aa,beq_iff_eq] at this
     obtain ⟨⟨rfl,hj⟩,_⟩:=this
     simp only [iB] at e2 ⊢
     rw [F0 hj]
     exact e2
    | _=>rw [hg] at this;simp at this
   | yb ts p =>
    have:=jG t (by rw [hk];simp)
    rw [hk] at this
    simp at this
   | pe k =>
    have:=jG t (by rw [hk];simp)
    rw [hk] at this
    simp at this
   | pm k =>
    have:=jG t (by rw [hk];simp)
    rw [hk] at this
    simp at this
   | _=>trivial
 ·intro m ts hk
  obtain ⟨us,hu,ht⟩:=jf m ts hk
  obtain ⟨cs,hv,hc⟩:=h.mem m us hu
  refine ⟨cs,hv,fun t Sp=>?_⟩
  obtain ⟨⟨u,Wi,h1,h2⟩,_⟩:=ht t Sp
  dsimp only
  rw [h2,←h1]
  exact hc u Wi
 ·intro key s hk
  obtain ⟨p,hp,rfl,hg⟩:=kY key s hk
  dsimp only
  rw [Bd p hp]
  exact h.cD _ s hg
 ·intro key s hs
  have hk:H.get key = .pv s:=by
   cases hk:H.get key with
   | pv s'=>rw [hk] at hs;cases hs;rfl
   | ni d s' =>
    have:=jG key (by rw [hk];simp)
    rw [hk] at this
    simp at this
   | pc s' =>
    have:=jG key (by rw [hk];simp)
    rw [hk] at this
    simp at this
   | _=>rw [hk] at hs;cases hs
  obtain ⟨⟨p,hp,h1,h2⟩,h3,_⟩:=HE key s hk
  have:=h.ps key s h3
  dsimp only
  refine ⟨?_,?_,fun d s1 s2 e1 _=>by rw [hk] at e1;cases e1⟩
  ·rw [←h1,Bd p hp,←h2,h1];exact this.1
  ·rw [←h1,Bd p hp,←h2,h1];exact this.2.1
 ·intro key gK g h1 h2
  left
  have Mg:∀m ts,H.get m = .cl ts→(G.get m).tq=false:=fun m ts e=>by
   obtain ⟨us,hu,_⟩:=jf m ts e;rw [hu];rfl
  rcases qZ key g h1 with ⟨ts,k1,b1⟩ | ⟨p,hp,k1,b1,c1,XM,TD⟩ <;> rcases qZ gK g h2 with ⟨us,k2,b2⟩ | ⟨q,hq,k2,b2,c2,XL,TC⟩
  ·exact h.rR (Mg _ _ k1) b1 b2
  ·have:=h.rR (Mg _ _ k1) b1 b2
   have h3:=LZ key (by rw [k1];rfl)
   have h4:=fN q.2
   omega
  ·have:=h.rR (Mg _ _ k2) b2 b1
   have h3:=LZ gK (by rw [k2];rfl)
   have h4:=fN p.2
   omega
  ·have Jz:∀(p q:Nat × Nat) (gK:Nat),lk q.1=gK→(H.get gK).eD=true→(q.1=q.2∨∃s,G.get (lk q.2) = .live s)→(∀d,(G.get (lk p.2)).par=some d→(H.get d).eD=false)→(G.get (lk p.2)).par≠some (lk q.2):=by
    intro p q gK e1 e2 e3 e4 e5
    have h6:=e4 _ e5
    rcases e3 with e3 | ⟨s,e3⟩
    ·rw [←e3,e1,e2] at h6;cases h6
    ·cases hg:G.get (lk p.2) with
     | ni d s' =>
      rw [hg] at e5
      cases e5
      have:=h.inv (lk p.2)
      rw [hg] at this
      rcases this with e | ⟨s',e⟩ <;> rw [e3] at e <;> cases e
     | _=>rw [hg] at e5;cases e5
   rcases h.sep _ _ g b1 b2 with e | e | e
   ·have:=fT e
    rw [←k1,←k2,(J8 p hp q hq).2 this]
   ·exact (Jz p q gK k2 XL TC c1 e).elim
   ·exact (Jz q p key k1 XM TD c2 e).elim
 ·intro key g hb
  rcases qZ key g hb with ⟨_,_,b1⟩ | ⟨_,_,_,b1,_⟩
  ·exact h.own _ _ b1
  ·exact h.own _ _ b1
 ·intro key
  cases hk:H.get key with
  | ptr m o =>
   have:=jG key (by rw [hk];simp)
   rw [hk] at this
   cases hg:G.get key with
   | ptr m' o' =>
    rw [hg] at this
    simp only [aa] at this
    have h3:=this.2
    simp only [eV]
    split at h3
    ·rename_i e;rw [e];rfl
    ·cases h3
   | _=>rw [hg] at this;simp at this
  | cD i s =>
   have:=jG key (by rw [hk];simp)
   rw [hk] at this
   cases hg:G.get key with
   | cD j s' =>
    rw [hg] at this
    simp only [aa] at this
    exact this.2
   | _=>rw [hg] at this;simp at this
  | cl ts =>
   obtain ⟨us,hu,ht⟩:=jf key ts hk
   exact fun t Sp=>(ht t Sp).2
  | yb ts p =>
   have:=jG key (by rw [hk];simp)
   rw [hk] at this
   simp at this
  | pe k =>
   have:=jG key (by rw [hk];simp)
   rw [hk] at this
   simp at this
  | pm k =>
   have:=jG key (by rw [hk];simp)
   rw [hk] at this
   simp at this
  | ni d s =>
   have:=jG key (by rw [hk];simp)
   rw [hk] at this
   simp at this
  | _=>trivial
 ·have hH:(H.get (lk 999999)).tq=true:=by simpa [hp] using h9
  refine ⟨hH,?_⟩
  obtain ⟨s,hk⟩:∃s,H.get (lk 999999) = .pv s:=by
   cases hk:H.get (lk 999999) with
   | pv s=>exact ⟨s,rfl⟩
   | ni d s' =>
    have:=jG _ (by rw [hk];simp)
    rw [hk] at this
    simp at this
   | pc s' =>
    have:=jG _ (by rw [hk];simp)
    rw [hk] at this
    simp at this
   | _=>rw [hk] at hH;cases hH
  obtain ⟨⟨p,jH,h1,h2⟩,_⟩:=HE _ s hk
  show rename ρ D.τ (lk 999999)=D.τ (lk 999999)
  rw [←h1,Bd p jH,←h2]
theorem cN.forget {γ:Ga} (h:cN C D σ γ a w) {dC:Sg} (h1:Le dC σ):cN C D dC γ a w :=
 { h with
  slot:=fun t ht=>by
   rcases h1 t with e | e
   ·rw [e];exact h.slot t ht
   ·exact .inl e
  mem:=fun m ts hm=>by
   obtain ⟨cs,hv,ht⟩:=h.mem m ts hm
   refine ⟨cs,?_,ht⟩
   rcases h1 m with e | e
   ·rw [e];exact hv
   ·rw [e]
    obtain ⟨elem,hh,_,hn⟩:=hv
    exact ⟨elem,hh,.inl rfl,hn⟩
  ps:=fun key s hs=>by
   obtain ⟨e1,e2,e3⟩:=h.ps key s hs
   have qU:vl dC γ key:=fun d s1 s2 f1 f2=>by
    rcases h1 key with e | e
    ·rcases h1 d with e' | e'
     ·rw [e,e'];exact e3 d s1 s2 f1 f2
     ·exact .inr (.inl e')
    ·exact .inl e
   rcases h1 key with e | e
   ·rw [e];exact ⟨e1,e2,qU⟩
   ·rw [e];exact ⟨e1,⟨e2.1,.inl rfl⟩,qU⟩ }
theorem head_eq {σ:Sg}:∀{bM:List Nat} {jJ:List AV},Jj σ bM jJ→∀k,head bM jJ k=if k∈bM then σ k else .dead
 | [],[],_,k=>rfl
 | j :: ks,v :: vs,h,k=>by
  have ih:=head_eq h.2 k
  simp only [head] at ih
  simp only [head,Eng.bP,cI,bm]
  by_cases e:k=j
  ·subst e
   simp [h.1]
  ·simp only [e,if_false,false_or]
   exact ih
 | [],_ :: _,h,_=>h.elim
 | _ :: _,[],h,_=>h.elim
def wO (i:Nat):Exit:=if i<1000000 then .exit i else .goto (i - 1000000)
theorem tH {i:Nat} (h:i<1000000):wO i = .exit i:=aG h
theorem uh (l:Nat):wO (gid l) = .goto l:=by
 have h:¬gid l<1000000:=by unfold gid;omega
 unfold wO
 rw [aE h]
 have:gid l - 1000000=l:=by unfold gid;exact Nat.add_sub_cancel_left ..
 rw [this]
theorem rP {i:Nat} {n:Act→World→Prop} {Q:Exit→Act→World→Prop} {a:Act} {w:World} (h:Q (wO i) a w):Exit.then n Q (wO i) a w:=by
 unfold wO at h ⊢
 split at h
 ·rename_i e;rw [aG e];exact h
 ·rename_i e;rw [aE e];exact h
theorem qb (i:Nat):(∃l,i=gid l∧wO i = .goto l)∨(i<1000000∧wO i = .exit i):=by
 by_cases h:i<1000000
 ·exact .inr ⟨h,tH h⟩
 ·refine .inl ⟨i - 1000000,?_,aE h⟩
  unfold gid;omega
section
variable {P:Program} {a:Act} {w:World} {Q:Exit→Act→World→Prop}
theorem vu {c:Code} {ι:Type} (lb rk mu:ι→Nat) (Inv:ι→Act→World→Prop)
  (first:c.wp P (fun e a w=>match e with | .goto l=>∃i,lb i=l∧Inv i a w | e=>Q e a w) a w)
  (pass:∀i a w,Inv i a w→∃rest,findLabel c (lb i)=some rest∧rest.wp P (fun e a' w'=>match e with | .goto l=>∃j,lb j=l∧Inv j a' w'∧(rk j<rk i∨rk j=rk i∧mu j<mu i) | e=>Q e a' w') a w) :
  (Code.scope c).wp P Q a w:=by
 intro b k cs
 have key:∀m n i a w,rk i=m→mu i=n→Inv i a w→∀rest,findLabel c (lb i)=some rest→∃e a' w',Q e a' w'∧Arrives P (lone (b.at a (.code rest :: .inScope c :: k)) cs w) b k cs e a' w':=by
  intro m
  induction m using Nat.strongRecOn with
  | _ m V3 =>
   intro n
   induction n using Nat.strongRecOn with
   | _ n ih =>
    intro i a w hm hn hI rest hf
    obtain ⟨EF,M6,hp⟩:=pass i a w hI
    rw [hf] at M6
    cases M6
    obtain ⟨e,pj,n8,hq,su⟩:=hp b (.inScope c :: k) cs
    cases e with
    | normal=>exact ⟨.normal,pj,n8,hq,Steps.trans su (.one step_inScope)⟩
    | exit id=>exact ⟨.exit id,pj,n8,hq,fun k' hk=>su k' (by simp [exitTo,hk])⟩
    | goto l' =>
     obtain ⟨j,rfl,hJ,eW⟩:=hq
     obtain ⟨uD,M5,_⟩:=pass j pj n8 hJ
     have hg:gotoIn (lb j) (.inScope c :: k)=some (.code uD :: .inScope c :: k):=by simp [gotoIn,M5]
     have:∃e a' w',Q e a' w'∧Arrives P (lone (b.at pj (.code uD :: .inScope c :: k)) cs n8) b k cs e a' w':=by
      rcases eW with eW | ⟨he,eW⟩
      ·exact V3 (rk j) (by omega) (mu j) j pj n8 rfl rfl hJ uD M5
      ·exact ih (mu j) (by omega) j pj n8 (by omega) rfl hJ uD M5
     obtain ⟨Mt,MJ,KC,FW,xB⟩:=this
     exact ⟨Mt,MJ,KC,FW,.of_steps (su _ hg) xB⟩
    | ret=>exact ⟨_,pj,n8,hq,su⟩
    | panic ch=>exact ⟨_,pj,n8,hq,su⟩
    | outgrown=>exact ⟨_,pj,n8,hq,su⟩
 obtain ⟨e,pj,n8,hq,su⟩:=first b (.inScope c :: k) cs
 cases e with
 | normal=>exact ⟨.normal,pj,n8,hq,.head step_scope (Steps.trans su (.one step_inScope))⟩
 | exit id=>exact ⟨.exit id,pj,n8,hq,fun k' hk => .head step_scope (su k' (by simp [exitTo,hk]))⟩
 | goto l' =>
  obtain ⟨j,rfl,hJ⟩:=hq
  obtain ⟨uD,M5,_⟩:=pass j pj n8 hJ
  have hg:gotoIn (lb j) (.inScope c :: k)=some (.code uD :: .inScope c :: k):=by simp [gotoIn,M5]
  obtain ⟨Mt,MJ,KC,FW,xB⟩:=key _ _ j pj n8 rfl rfl hJ uD M5
  exact ⟨Mt,MJ,KC,FW,.of_steps (.head step_scope (su _ hg)) xB⟩
 | ret=>exact ⟨_,pj,n8,hq,.of_steps (.one step_scope) su⟩
 | panic ch=>exact ⟨_,pj,n8,hq,.of_steps (.one step_scope) su⟩
 | outgrown=>exact ⟨_,pj,n8,hq,.of_steps (.one step_scope) su⟩
end
structure BI (C:Ctx) (rt:GL→Bool) (n:Option GL) (ex:List (Nat × GL)) (Qm:MX→Sg→Prop) (Q:Exit→Act→World→Prop):Prop where
 nrm:∀G' D' dC a' w',n=some G'→Qm .normal dC→cN C D' dC G'.get a' w'→Q .normal a' w'
 sz:∀i G' D' dC a' w',(i,G')∈ex→Qm (.exit i) dC→cN C D' dC G'.get a' w'→Q (wO i) a' w'
 ret:∀G' D' dC a' w',rt G'=true→Qm .ret dC→cN C D' dC G'.get a' w'→Q .ret a' w'
def Jh (P:Program) (c:Code) (Q:Exit→Act→World→Prop) (a:Act) (w:World):Prop :=
 ∃(ι:Type) (lb rk mu:ι→Nat) (Inv:ι→Act→World→Prop),
  c.wp P (fun e a w=>match e with | .goto l=>(∃i,lb i=l∧Inv i a w)∨Q (.goto l) a w | e=>Q e a w) a w ∧
  ∀i a w,Inv i a w→∃rest,findLabel c (lb i)=some rest ∧
   rest.wp P (fun e a' w'=>match e with | .goto l=>(∃j,lb j=l∧Inv j a' w'∧(rk j<rk i∨rk j=rk i∧mu j<mu i))∨Q (.goto l) a' w' | e=>Q e a' w') a w
variable {sg:Nat→c7}
theorem Ja (hE : ∀ f, dK C.P C.E.gl f (C.E.fs f) ∧ (C.E.fs f).sg = sg f) {rt : GL → Bool} : ∀ (m : M),
    (∀ {c : Code} {G : GL} {r : Option GL × List (Nat × GL)} {D : kf} {σ : Sg} {a : Act} {w : World} {Qm : MX → Sg → Prop} {Q : Exit → Act → World → Prop},
      eO C.P sg C.nt rt c m G = some r → cN C D σ G.get a w → pN C.E m Qm σ → BI C rt r.1 r.2 Qm Q → c.wp C.P Q a w) ∧
    (∀ {c : Code} {G : GL} {r : Option GL × List (Nat × GL)} {D : kf} {σ : Sg} {a : Act} {w : World} {Qm : MX → Sg → Prop} {Q : Exit → Act → World → Prop},
      qm C.P sg C.nt rt c m G = some r → cN C D σ G.get a w → pN C.E m Qm σ → BI C rt r.1 r.2 Qm Q → Jh C.P c Q a w) := by
  intro m
  induction m with
  | skip =>
    refine ⟨?_, fun hc => by simp only [qm, reduceCtorEq] at hc⟩
    intro c G r D σ a w Qm Q hc h hm hp
    cases c <;> simp only [eO, reduceCtorEq, aB] at hc
    · subst hc
      exact wp_skip (hp.nrm _ _ _ _ _ rfl hm h)
    · subst hc
      exact wp_label (hp.nrm _ _ _ _ _ rfl hm h)
  | eY ms =>
    refine ⟨?_, fun hc => by simp only [qm, reduceCtorEq] at hc⟩
    intro c G r D σ a w Qm Q hc h hm hp
    cases c <;> simp only [eO, reduceCtorEq] at hc
    rw [aC] at hc
    obtain ⟨h1, h2⟩ := hc
    rw [aV] at h2
    obtain ⟨G', hg, rfl⟩ := h2
    obtain ⟨dC, hs, hq⟩ := hm
    exact CQ hE h1 hg h hs fun D' a' w' h' => hp.nrm _ _ _ _ _ rfl hq h'
  | seq x y O3 O2 =>
    refine ⟨?_, fun hc => by simp only [qm, reduceCtorEq] at hc⟩
    intro c G r D σ a w Qm Q hc h hm hp
    cases c <;> simp only [eO, reduceCtorEq] at hc
    rw [bf] at hc
    obtain ⟨⟨n1, e1⟩, h1, h2⟩ := hc
    refine wp_seq (O3.1 h1 h hm ?_)
    cases n1 with
    | none =>
      simp only [aB] at h2
      subst h2
      exact { nrm := fun _ _ _ _ _ e => (by cases e), sz := fun i G' D' dC a' w' hi hq h' => rP (hp.sz i G' D' dC a' w' hi hq h'), ret := fun G' D' dC a' w' hi hq h' => hp.ret G' D' dC a' w' hi hq h' }
    | some G1 =>
      simp only [aV] at h2
      obtain ⟨q, hq, rfl⟩ := h2
      refine { nrm := fun G' D' dC a' w' e jI h' => ?_, sz := fun i G' D' dC a' w' hi hq h' => rP (hp.sz i G' D' dC a' w' (List.mem_append_left _ hi) hq h'), ret := fun G' D' dC a' w' hi hq h' => hp.ret G' D' dC a' w' hi hq h' }
      cases e
      obtain ⟨Hs, hle, jI⟩ := jI
      exact O2.1 hq (h'.forget hle) jI { nrm := hp.nrm, sz := fun i G' D' dC a' w' hi hq h' => hp.sz i G' D' dC a' w' (List.mem_append_right _ hi) hq h', ret := hp.ret }
  | cond x J y z O2 V2 =>
    refine ⟨?_, fun hc => by simp only [qm, reduceCtorEq] at hc⟩
    intro c G r D σ a w Qm Q hc h hm hp
    cases c <;> simp only [eO, reduceCtorEq] at hc
    rename_i cx ca cb
    rw [aC] at hc
    obtain ⟨h1, h2⟩ := hc
    simp only [aa] at h1
    rw [bf] at h2
    obtain ⟨⟨n1, e1⟩, J2, h2⟩ := h2
    rw [bf] at h2
    obtain ⟨⟨n2, e2⟩, L2, h2⟩ := h2
    obtain ⟨t, DT, m1, m2⟩ : ∃ t, a.eval cx = .bool t ∧ (t = true → pN C.E y Qm σ) ∧ (t = false → pN C.E z Qm σ) := by
      have h0 := h.gE h1.1 h1.2
      rcases hm with ⟨t, ht, m1, m2⟩ | ⟨ht, m1, m2⟩
      · refine ⟨t, ?_, m1, m2⟩
        rw [ht] at h0
        rcases h0 with e | ⟨e, _⟩
        · cases e
        · generalize a.eval cx = v at e ⊢
          cases e
          rfl
      · rw [ht] at h0
        rcases h0 with e | ⟨e, _⟩
        · cases e
        · generalize a.eval cx = v at e ⊢
          cases e
          exact ⟨_, rfl, fun _ => m1, fun _ => m2⟩
    have key : (∀ D' dC a' w' G', n1 = some G' → Qm .normal dC → cN C D' dC G'.get a' w' → Q .normal a' w') ∧ (∀ D' dC a' w' G', n2 = some G' → Qm .normal dC → cN C D' dC G'.get a' w' → Q .normal a' w') ∧ r.2 = e1 ++ e2 := by
      cases n1 with
      | none =>
        simp only [aB] at h2
        subst h2
        exact ⟨fun _ _ _ _ _ e => (by cases e), fun D' dC a' w' G' e hq h' => hp.nrm G' D' dC a' w' e hq h', rfl⟩
      | some A =>
        cases n2 with
        | none =>
          simp only [aB] at h2
          subst h2
          exact ⟨fun D' dC a' w' G' e hq h' => hp.nrm G' D' dC a' w' e hq h', fun _ _ _ _ _ e => (by cases e), rfl⟩
        | some B =>
          simp only at h2
          rw [aC] at h2
          obtain ⟨h3, h4⟩ := h2
          simp only [aa] at h3
          simp only [aB] at h4
          subst h4
          refine ⟨fun D' dC a' w' G' e hq h' => ?_, fun D' dC a' w' G' e hq h' => ?_, rfl⟩
          · cases e
            obtain ⟨DN, Dr⟩ := h'.weaken h3.1
            exact hp.nrm _ _ _ _ _ rfl hq Dr
          · cases e
            obtain ⟨DN, Dr⟩ := h'.weaken h3.2
            exact hp.nrm _ _ _ _ _ rfl hq Dr
    obtain ⟨k1, k2, k3⟩ := key
    refine wp_cond_split DT (fun e => ?_) (fun e => ?_)
    · exact O2.1 J2 h (m1 e) { nrm := fun G' D' dC a' w' e => k1 D' dC a' w' G' e, sz := fun i G' D' dC a' w' hi hq h' => hp.sz i G' D' dC a' w' (by rw [k3]; exact List.mem_append_left _ hi) hq h', ret := hp.ret }
    · exact V2.1 L2 h (m2 e) { nrm := fun G' D' dC a' w' e => k2 D' dC a' w' G' e, sz := fun i G' D' dC a' w' hi hq h' => hp.sz i G' D' dC a' w' (by rw [k3]; exact List.mem_append_right _ hi) hq h', ret := hp.ret }
  | block id J y ih =>
    refine ⟨?_, fun hc => by simp only [qm, reduceCtorEq] at hc⟩
    intro c G r D σ a w Qm Q hc h hm hp
    cases c <;> simp only [eO, reduceCtorEq] at hc
    rename_i i b
    rw [aC] at hc
    obtain ⟨⟨rfl, hid⟩, h2⟩ := hc
    rw [bf] at h2
    obtain ⟨⟨n1, e1⟩, J2, h2⟩ := h2
    rw [aC] at h2
    obtain ⟨nJ, h2⟩ := h2
    simp only [aB] at h2
    subst h2
    have uZ : ∀ G' D' dC a' w', G' ∈ n1.toList ++ (e1.filter (·.1 == i)).map (·.2) → Qm .normal dC → cN C D' dC G'.get a' w' → Q .normal a' w' := by
      intro G' D' dC a' w' hG hq h'
      obtain ⟨DN, Dr⟩ := h'.weaken (aL.1 nJ _ hG)
      refine hp.nrm J DN dC a' w' ?_ hq Dr
      cases n1 with
      | some x => simp
      | none =>
        have : (e1.filter (·.1 == i)).isEmpty = false := by
          cases hf : e1.filter (·.1 == i) with
          | nil => rw [hf] at hG; simp at hG
          | cons _ _ => rfl
        simp only [this, Bool.and_false]
        rfl
    refine wp_block (ih.1 J2 h hm { nrm := fun G' D' dC a' w' e hq h' => ?_, sz := fun j G' D' dC a' w' hi hq h' => ?_, ret := fun G' D' dC a' w' hi hq h' => hp.ret G' D' dC a' w' hi hq h' })
    · exact uZ G' D' dC a' w' (List.mem_append_left _ (by simp at e; simp [e])) hq h'
    · simp only at hq hi
      by_cases e : j = i
      · subst e
        rw [aG rfl] at hq
        rw [tH hid]
        simp only [Exit.inBlock, if_true]
        exact uZ G' D' dC a' w' (List.mem_append_right _ (aP.2 ⟨_, List.mem_filter.2 ⟨hi, by simp⟩, rfl⟩)) hq h'
      · rw [aE e] at hq
        have := hp.sz j G' D' dC a' w' (List.mem_filter.2 ⟨hi, by simpa using e⟩) hq h'
        rcases qb j with ⟨l, _, e2⟩ | ⟨_, e2⟩
        · rw [e2] at this ⊢; exact this
        · rw [e2] at this ⊢
          simp only [Exit.inBlock]
          rw [aE e]; exact this
  | loop bM J y ih =>
    refine ⟨?_, fun hc => by simp only [qm, reduceCtorEq] at hc⟩
    intro c G r D σ a w Qm Q hc h hm hp
    cases c <;> simp only [eO, reduceCtorEq] at hc
    rename_i b
    rw [aC] at hc
    obtain ⟨h1, h2⟩ := hc
    simp only [aa] at h1
    obtain ⟨⟨Wr, F8⟩, _⟩ := h1
    rw [bf] at h2
    obtain ⟨⟨n1, e1⟩, J2, h2⟩ := h2
    rw [aC] at h2
    obtain ⟨nJ, h2⟩ := h2
    simp only [aB] at h2
    subst h2
    obtain ⟨ι, jJ, μ, i0, S9, u0⟩ := hm
    have zq : ∀ {G' : GL} {D' : kf} {dC : Sg} {a' : Act} {w' : World} {i : ι}, lh G' J = true → cN C D' dC G'.get a' w' → Jj dC bM (jJ i) → ∃ DN, cN C DN (head bM (jJ i)) (GL.get J) a' w' := by
      intro G' D' dC a' w' i Su h' Ge
      obtain ⟨DN, Dr⟩ := h'.weaken Su
      refine ⟨DN, Dr.forget (fun k => ?_)⟩
      rw [head_eq Ge k]
      split
      · exact .inl rfl
      · exact .inr rfl
    refine wp_loop_ghost (fun n a w => ∃ i D, μ i = n ∧ cN C D (head bM (jJ i)) (GL.get J) a w) (μ i0) ?_ ?_
    · obtain ⟨DN, Dr⟩ := zq Wr h S9
      exact ⟨i0, DN, rfl, Dr⟩
    · rintro n a1 w1 ⟨i, D1, rfl, hs⟩
      refine ih.1 J2 hs (u0 i) { nrm := fun G' D' dC a' w' e hq h' => ?_, sz := fun j G' D' dC a' w' hi hq h' => rP (hp.sz j G' D' dC a' w' hi hq h'), ret := fun G' D' dC a' w' hi hq h' => hp.ret G' D' dC a' w' hi hq h' }
      simp only at e
      subst e
      simp only [Option.all_some] at nJ
      obtain ⟨j, eW, Ge⟩ := hq
      obtain ⟨DN, Dr⟩ := zq nJ h' Ge
      exact ⟨μ j, eW, j, DN, rfl, Dr⟩
  | exit id =>
    refine ⟨?_, fun hc => by simp only [qm, reduceCtorEq] at hc⟩
    intro c G r D σ a w Qm Q hc h hm hp
    cases c <;> simp only [eO, reduceCtorEq] at hc
    · rw [aC] at hc
      obtain ⟨⟨rfl, hid⟩, h2⟩ := hc
      simp only [aB] at h2
      subst h2
      exact wp_exit (by have := hp.sz _ _ _ _ _ _ (List.mem_singleton.2 rfl) hm h; rwa [tH hid] at this)
    · rw [aC] at hc
      obtain ⟨rfl, h2⟩ := hc
      simp only [aB] at h2
      subst h2
      exact wp_goto (by have := hp.sz _ _ _ _ _ _ (List.mem_singleton.2 rfl) hm h; rwa [uh] at this)
  | ret =>
    refine ⟨?_, fun hc => by simp only [qm, reduceCtorEq] at hc⟩
    intro c G r D σ a w Qm Q hc h hm hp
    cases c <;> simp only [eO, reduceCtorEq] at hc
    rw [aC] at hc
    obtain ⟨h1, h2⟩ := hc
    exact wp_ret (hp.ret _ _ _ _ _ h1 hm h)
  | sw k k' x ih =>
    refine ⟨?_, fun hc => by simp only [qm, reduceCtorEq] at hc⟩
    intro c G r D σ a w Qm Q hc h hm hp
    simp only [eO] at hc
    rw [aC] at hc
    obtain ⟨⟨n1, n2⟩, hc⟩ := hc
    rw [aV] at hc
    obtain ⟨r', h1, rfl⟩ := hc
    refine ih.1 h1 h hm { nrm := fun G' D' dC a' w' e hq h' => ?_, sz := fun i G' D' dC a' w' hi hq h' => hp.sz i G' D' dC a' w' hi hq h', ret := fun G' D' dC a' w' e hq h' => hp.ret G' D' dC a' w' e hq h' }
    exact hp.nrm (HR k k' G') _ _ a' w' (by simp [e]) hq (by rw [Eh]; exact h'.swap n1 n2)
  | Hx x ih =>
    refine ⟨?_, fun hc => by simp only [qm, reduceCtorEq] at hc⟩
    intro c G r D σ a w Qm Q hc h hm hp
    cases c <;> simp only [eO, reduceCtorEq] at hc
    rename_i c
    rw [bf] at hc
    obtain ⟨r', h1, h2⟩ := hc
    rw [aC] at h2
    obtain ⟨nJ, h2⟩ := h2
    cases h2
    obtain ⟨ι, lb, rk, mu, Inv, h3, h4⟩ := ih.2 (Q := fun e a w => match e with | .goto _ => False | e => Q e a w) h1 h hm
      { nrm := fun G' D' dC a' w' e hq h' => hp.nrm G' D' dC a' w' e hq h', ret := fun G' D' dC a' w' e hq h' => hp.ret G' D' dC a' w' e hq h',
        sz := fun i G' D' dC a' w' hi hq h' => by
          have eW : i < 1000000 := by simpa using aL.1 nJ _ hi
          have := hp.sz i G' D' dC a' w' hi hq h'
          rw [tH eW] at this ⊢
          exact this }
    refine vu lb rk mu Inv (wp_mono h3 fun e a w q => ?_) fun i a w hI => ?_
    · cases e <;> first | exact q | exact q.resolve_right id
    · obtain ⟨rest, e1, e2⟩ := h4 i a w hI
      refine ⟨rest, e1, wp_mono e2 fun e a w q => ?_⟩
      cases e <;> first | exact q | exact q.resolve_right id
  | Hw x ih =>
    refine ⟨fun hc => by rename_i c _ _ _ _ _ _ _ _; cases c <;> simp only [eO, reduceCtorEq] at hc, ?_⟩
    intro c G r D σ a w Qm Q hc h hm hp
    simp only [qm] at hc
    refine ⟨Empty, Empty.elim, Empty.elim, Empty.elim, fun i => i.elim, wp_mono (ih.1 hc h hm hp) fun e a w q => ?_, fun i => i.elim⟩
    cases e <;> first | exact q | exact .inr q
  | Hy l bM J x y O3 O2 =>
    refine ⟨fun hc => by rename_i c _ _ _ _ _ _ _ _; cases c <;> simp only [eO, reduceCtorEq] at hc, ?_⟩
    intro c G r D σ a w Qm Q hc h hm hp
    simp only [qm] at hc
    split at hc
    · rename_i rest M4
      rw [bf] at hc
      obtain ⟨⟨n1, e1⟩, J2, hc⟩ := hc
      rw [bf] at hc
      obtain ⟨⟨n2, e2⟩, L2, hc⟩ := hc
      rw [aC] at hc
      obtain ⟨zr, hc⟩ := hc
      simp only [aB] at hc
      subst hc
      simp only [aa] at zr
      obtain ⟨nJ, Ud⟩ := zr
      obtain ⟨Q8, jJ, μ, hb, hr⟩ := hm
      let MU : Q8 → Act → World → Prop := fun i a w => ∃ D', cN C D' (head bM (jJ i)) (GL.get J) a w
      have zq : ∀ {G' : GL} {D' : kf} {dC : Sg} {a' : Act} {w' : World} {i : Q8}, (gid l, G') ∈ e1 ++ e2 → cN C D' dC G'.get a' w' → Jj dC bM (jJ i) → MU i a' w' := by
        intro G' D' dC a' w' i hi h' Ge
        obtain ⟨DN, Dr⟩ := h'.weaken (aL.1 nJ _ (List.mem_filter.2 ⟨hi, by simp⟩))
        refine ⟨DN, Dr.forget (fun k => ?_)⟩
        rw [head_eq Ge k]
        split
        · exact .inl rfl
        · exact .inr rfl
      have SG : ∀ G', n1 = some G' → (if n1.isNone then n2 else n1) = some G' := by rintro G' rfl; rfl
      have Wv : ∀ G', n2 = some G' → (if n1.isNone then n2 else n1) = some G' := by
        rintro G' rfl
        simp at Ud
        simp [Ud]
      obtain ⟨Vw, lb, rk, mu, Inv, h3, h4⟩ := O2.2 (Q := fun e a w => match e with | .goto l' => if l' = l then ∃ i, MU i a w else Q (.goto l') a w | e => Q e a w) L2 h hb
        { nrm := fun G' D' dC a' w' e hq h' => hp.nrm G' D' dC a' w' (Wv G' e) hq h', ret := fun G' D' dC a' w' e hq h' => hp.ret G' D' dC a' w' e hq h',
          sz := fun i G' D' dC a' w' hi hq h' => by
            simp only at hq
            by_cases e : i = gid l
            · subst e
              rw [aG rfl] at hq
              obtain ⟨j, hj⟩ := hq
              rw [uh]
              simp only [if_true]
              exact ⟨j, zq (List.mem_append_right _ hi) h' hj⟩
            · rw [aE e] at hq
              have := hp.sz i G' D' dC a' w' (List.mem_filter.2 ⟨List.mem_append_right _ hi, by simpa using e⟩) hq h'
              rcases qb i with ⟨l', rfl, e2⟩ | ⟨_, e2⟩
              · rw [e2] at this ⊢
                have fO : l' ≠ l := fun h => e (by rw [h])
                simp only [fO, if_false]; exact this
              · rw [e2] at this ⊢; exact this }
      refine ⟨Vw ⊕ Q8, Sum.elim lb (fun _ => l), Sum.elim (fun i => rk i + 1) (fun _ => 0), Sum.elim mu μ, Sum.elim Inv MU, wp_mono h3 fun e a w q => ?_, ?_⟩
      · cases e <;> first | exact q | skip
        rename_i l'
        rcases q with ⟨i, q1, q2⟩ | q
        · exact .inl ⟨.inl i, q1, q2⟩
        · simp only at q
          by_cases e : l' = l
          · rw [aG e] at q
            obtain ⟨i, q⟩ := q
            exact .inl ⟨.inr i, e.symm, q⟩
          · rw [aE e] at q
            exact .inr q
      · rintro (i | i) a w hI
        · obtain ⟨EF, f1, f2⟩ := h4 i a w hI
          refine ⟨EF, f1, wp_mono f2 fun e a w q => ?_⟩
          cases e <;> first | exact q | skip
          rename_i l'
          rcases q with ⟨j, q1, q2, q3⟩ | q
          · exact .inl ⟨.inl j, q1, q2, by simp only [Sum.elim_inl]; omega⟩
          · simp only at q
            by_cases e : l' = l
            · rw [aG e] at q
              obtain ⟨j, q⟩ := q
              exact .inl ⟨.inr j, e.symm, q, .inl (by simp only [Sum.elim_inl, Sum.elim_inr]; omega)⟩
            · rw [aE e] at q
              exact .inr q
        · obtain ⟨D', hs⟩ := hI
          refine ⟨rest, M4, O3.1 J2 hs (hr i) { nrm := fun G' D' dC a' w' e hq h' => hp.nrm G' D' dC a' w' (SG G' e) hq h', ret := fun G' D' dC a' w' e hq h' => hp.ret G' D' dC a' w' e hq h', sz := fun j G' D' dC a' w' hi hq h' => ?_ }⟩
          simp only at hq
          by_cases e : j = gid l
          · subst e
            rw [aG rfl] at hq
            obtain ⟨k, hk, S9⟩ := hq
            rw [uh]
            exact .inl ⟨.inr k, rfl, zq (List.mem_append_left _ hi) h' S9, .inr ⟨rfl, hk⟩⟩
          · rw [aE e] at hq
            have := hp.sz j G' D' dC a' w' (List.mem_filter.2 ⟨List.mem_append_left _ hi, by simpa using e⟩) hq h'
            rcases qb j with ⟨l', rfl, e2⟩ | ⟨_, e2⟩
            · rw [e2] at this ⊢; exact .inr this
            · rw [e2] at this ⊢; exact this
    · cases hc
theorem By (hE:∀f,dK C.P C.E.gl f (C.E.fs f)∧(C.E.fs f).sg=sg f) {rt:GL→Bool} (m:M) {c:Code} {G:GL} {r:Option GL × List (Nat × GL)} {D:kf} {σ:Sg} {a:Act} {w:World} {Qm:MX→Sg→Prop} {Q:Exit→Act→World→Prop}
  (hc:eO C.P sg C.nt rt c m G=some r) (h:cN C D σ G.get a w) (hm:pN C.E m Qm σ) (hp:BI C rt r.1 r.2 Qm Q):c.wp C.P Q a w:=(Ja hE m).1 hc h hm hp
end
end Go.Eng
namespace Go.Eng
open Go.RowKit
inductive RV where
 | t (t:Nat)
 | c (a m n:Nat) (agg:Bool)
def RV.get (σ:Sg):RV→Option AV
 | .t j=>some (σ j)
 | .c a m n agg=>match σ a,σ m with
  | .pt,.ag cs=>fP cs 0 n agg
  | _,_=>none
def AX (σ:Sg):List RV→Option (List AV)
 | []=>some []
 | r :: rs=>(r.get σ).bind fun x=>(AX σ rs).map (x :: ·)
structure FD where
 np:Nat
 m:M
 ref:Option (Nat × Nat):=none
 fV:List (Nat × (Nat × Nat)):=[]
 res:List RV
 own:List (Nat × Nat):=[]
 new:Option (Nat × Nat):=none
 fL:List (Nat × Nat):=[]
 ps:Option (Nat × (Nat × Nat)):=none
def FD.sg (d:FD):c7:={ ref:=d.ref.map (·.1),fV:=iS d.fV,bQ:=d.res.length,own:=d.own,new:=d.new.map (·.1),fL:=d.fL,ps:=d.ps.map fun q=>(if q.2.1=999998 then 1000+q.1 else q.1,q.2.2) }
def FD.eu (d:FD):List (Nat × (Nat × Nat)):=d.ps.toList.filter fun q=>q.2.1 == 999999
def FD.start (d:FD) (ins:List AV):Sg :=
 match d.ref with
 | none=>match d.ps with
  | none=>head (List.range d.np) ins
  | some (i,k,_)=>head (lk k :: List.range d.np) (ins.getD i .dead :: ins.set i .pt)
 | some (i,m)=>head (m :: List.range d.np) (ins.getD i .dead :: ins.set i .pt)
def FD.An (d:FD) (σ:Sg) (outs:List AV):Prop :=
 ∃rs,AX σ d.res=some rs∧(∀q∈d.own,∃s es,rs[q.1]?=some (.sl s es))∧(∀q,d.new=some q→rs[q.1]?=some .pt) ∧
  outs=rs++d.new.toList.map (fun q=>σ q.2)++d.ref.toList.map (fun q=>σ q.2)++d.eu.map (fun q=>σ (lk q.2.1))
def FD.runs (d:FD) (E:Env) (ins outs:List AV):Prop :=
 pN E d.m (fun e σ=>match e with | .exit _=>False | _=>d.An σ outs) (d.start ins)
def rp (us:List (Nat × (Nat × Nat))) (q:Nat × Nat):Option Nat:=(us.find? (fun u=>u.1 == q.1&&u.2.2 == q.2)).map (·.2.1)
def BF {X:Type}:List (Option X)→Option (List X)
 | []=>some []
 | none :: _=>none
 | some x :: r=>(BF r).map (x :: ·)
def RV.key (G:GL) (s:Nat):RV→Option Nat
 | .t j=>match G.get j with
  | .cD k s'=>if s=s' then some k else none
  | _=>none
 | .c _ m n agg=>if n=1∧agg=false then (match G.get m with | .cl us=>rp us (0,s) | _=>none) else none
def tF (G:GL) (q:Option (Nat × Nat)) (ts:List (Nat × Nat)):Option (List Nat) :=
 match q with
 | none=>if ts.isEmpty then some [] else none
 | some (_,m)=>match G.get m with
  | .cl us=>BF (ts.map (rp us))
  | _=>none
def FD.Ol (d:FD) (G:GL):Option (List Nat):=BF (d.own.map fun q=>(d.res[q.1]?).bind (RV.key G q.2))
def jQ (G:GL) (ks:List Nat) (ts:List (Nat × Nat)):Bool:=kv (fun k q=>G.get (lk k) == .live q.2) ks ts
def RV.QB (G:GL):RV→Bool
 | .t _=>true
 | .c a m _ _=>G.get a == .ptr m 0&&(G.get m).ff
def FD.rt (d : FD) (G : GL) : Bool :=
  d.res.all (RV.QB G) && (match d.ref with | some (_, m) => (G.get m).ff | none => true) &&
  (match d.new with
   | some (j, m) => (G.get m).ff && (match d.res[j]? with | some (.t t) => G.get t == .ptr m 0 | _ => false)
   | none => true) &&
  (match tF G d.ref (iS d.fV), d.Ol G, tF G d.new d.fL with
   | some r, some o, some n => decide (r ++ o ++ n).Nodup && jQ G r (iS d.fV) && jQ G o d.own && jQ G n d.fL
   | _, _, _ => false) &&
  (match d.eu with | (_, k, s) :: _ => (match G.get (lk k) with | .pv s' => s == s' | .ni _ s' => s == s' | _ => false) | [] => true)
def lH (P:Program) (nt:Nat):ResultVar→RV→Bool
 | .tmp t,.t t'=>t == t'&&decide (t<nt)
 | .cell a ty,.c a' _ n agg=>a == a'&&decide (a<nt)&&jl P ty n agg
 | _,_=>false
def FD.mC (d:FD):List Nat:=d.fV.map fun t=>lk t.2.1
def FD.G0 (d:FD):GL :=
 match d.ref with
 | none=>match d.ps with
  | none=>[]
  | some (i,k,s)=>GL.bP [] [i,lk k] [.cD k s,.pv s]
 | some (i,m)=>GL.bP [] (i :: m :: d.mC) (.ptr m 0 :: .cl d.fV :: d.fV.map fun t => .live t.2.2)
def FD.mJ (d:FD) (nt:Nat):Bool :=
 decide (d.np≤nt∧nt≤1000000∧(d.fV.map (·.2.1)).Nodup∧(d.ref=none→d.fV=[])∧(d.new=none→d.fL=[])∧(d.ref=none∨d.new=none)) &&
 (match d.ref with | none=>true | some (i,m)=>decide (i<d.np∧nt≤m∧m=999999)) &&
 (match d.ps with | none=>true | some (i,k,_)=>decide (i<d.np∧d.ref=none∧d.new=none∧i<1000∧(k=999999∧d.own=[]∨k=999998)))
def Bz (P : Program) (sg : Nat → c7) (fn : Func) (d : FD) : Bool :=
  d.mJ fn.ntmps && kv (lH P fn.ntmps) fn.results.toList d.res &&
  (match fn.body with
   | some c => (match eO P sg fn.ntmps d.rt c d.m d.G0 with
     | some (n, ex) => ex.isEmpty && n.all d.rt
     | none => false)
   | none => false)
section
variable {X:Type}
theorem mO {σ:Nat→X}:∀{ks:List Nat} {xs:List X} {p k:Nat} {x:X},ks.Nodup→ks[p]?=some k→xs[p]?=some x→Eng.bP σ ks xs k=x
 | j :: ks,y :: xs,0,k,x,_,h1,h2=>by
  simp only [List.getElem?_cons_zero,aB] at h1 h2
  subst h1;subst h2
  simp [Eng.bP,cI]
 | j :: ks,y :: xs,p+1,k,x,hn,h1,h2=>by
  simp only [List.getElem?_cons_succ] at h1 h2
  rw [List.nodup_cons] at hn
  have:k≠j:=fun e=>hn.1 (e ▸ aU h1)
  simp only [Eng.bP,cI,this,if_false]
  exact mO hn.2 h1 h2
 | [],_,_,_,_,_,h1,_=>by simp at h1
 | _ :: _,[],_,_,_,_,_,h2=>by simp at h2
theorem yl {σ:Nat→X} {key:Nat}:∀{ks:List Nat} {xs:List X},Eng.bP σ ks xs key=σ key∨∃(p:Nat) (x:X),ks[p]?=some key∧xs[p]?=some x∧Eng.bP σ ks xs key=x
 | j :: ks,y :: xs=>by
  by_cases e:key=j
  ·right
   exact ⟨0,y,by simp [e],rfl,by simp [Eng.bP,cI,e]⟩
  ·simp only [Eng.bP,cI,e,if_false]
   rcases yl (σ:=σ) (key:=key) (ks:=ks) (xs:=xs) with h | ⟨p,x,h1,h2,h3⟩
   ·exact .inl h
   ·exact .inr ⟨p+1,x,by simpa using h1,by simpa using h2,h3⟩
 | [],_ => .inl rfl
 | _ :: _,[] => .inl rfl
end
theorem og {ins:List AV} {n t:Nat} (h:ins.length=n):head (List.range n) ins t=ins.getD t .dead:=by
 unfold head
 by_cases ht:t<n
 ·have h1:(List.range n)[t]?=some t:=by simp [ht]
  have hl:t<ins.length:=by omega
  have h2:ins[t]?=some ins[t]:=aA hl
  rw [mO List.nodup_range h1 h2]
  simp [List.getD,h2]
 ·rw [iK (by simpa using ht)]
  have:ins[t]?=none:=List.getElem?_eq_none (by omega)
  simp [List.getD,this]
section
variable {P:Program} {E:Env} {w:World} {R:Reach} {ins:List AV} {xs:List Value}
theorem ui {nt t:Nat} (ht:t<nt):((⟨xs⟩:Array Value)++Array.replicate (nt - xs.length) undef).getD t undef=xs.getD t undef:=by
 simp only [Array.getD_eq_getD_getElem?,ak]
 by_cases h:t<xs.length
 ·rw [Array.getElem?_append_left (by simpa using h)]
  simp
 ·rw [Array.getElem?_append_right (by simpa using h)]
  rw [List.getElem?_eq_none (by omega)]
  simp only [Array.getElem?_replicate]
  split <;> rfl
theorem wU (h:fo R w ins xs) (t:Nat):Rep R w (ins.getD t .dead) (xs.getD t undef):=by
 by_cases ht:t<ins.length
 ·obtain ⟨y,h1,h2⟩:=h.get t _ (aA ht)
  simp only [List.getD,aA ht,h1,Option.getD_some]
  exact h2
 ·simp only [List.getD,List.getElem?_eq_none (Nat.le_of_not_lt ht),Option.getD_none]
  exact .dead _
def va (d:FD) (xs:List Value):Option Nat :=
 match d.sg.ref with
 | none=>none
 | some i=>match xs[i]? with
  | some (.pointer (some ⟨b,0,none⟩))=>some b
  | _=>none
theorem Hc {d:FD} {nt:Nat} (je:d.ps=none) (hb:d.mJ nt=true) (hlen:ins.length=d.np) (hR:∀b o,R b o→b<w.heap.size) (xx:∀n,Rep R w (E.gl n) (.pointer (some ⟨n,0,none⟩))) (ha:kx d.sg R w ins xs) :
  ∃D,cN ⟨P,E,nt,w,R,nH d.sg w xs,va d xs,none⟩ D (d.start ins) d.G0.get { tmps:=(⟨xs⟩:Array Value)++Array.replicate (nt - xs.length) undef,defers:=[] } w:=by
 simp only [FD.mJ,aa,az] at hb
 obtain ⟨⟨⟨b1,b2,b3,b4,b5,b6⟩,b7⟩,_⟩:=hb
 have Cn:∀(hx:xs.length=d.np),((⟨xs⟩:Array Value)++Array.replicate (nt - xs.length) undef).size=nt:=by
  intro hx
  simp
  omega
 cases gW:d.ref with
 | none =>
  have hg:d.sg.ref=none:=by simp [FD.sg,gW]
  simp only [kx,hg] at ha
  have hx:xs.length=d.np:=by rw [←ha.length,hlen]
  have hG:d.G0=[]:=by simp [FD.G0,gW,je]
  have vB:d.start ins=head (List.range d.np) ins:=by simp [FD.start,gW,je]
  rw [hG,vB]
  refine ⟨⟨R,fun _=>0,fun _=>undef⟩,{ size:=Cn hx,defers:=rfl,iG:=b2,om:=?_,kU:=?_,slot:=?_,mem:=?_,cD:=?_,ps:=fun _ _ h=>(by cases h),sep:=?_,own:=?_,inv:=?_,ext:=Ext.refl _ _ _,j0:=hR,gl:=xx,fix:=?_ }⟩
  ·intro m h;cases h
  ·intro m h;cases h
  ·intro t ht
   refine .inr ⟨?_,fun _=>trivial⟩
   rw [og hlen]
   dsimp only
   rw [ui ht]
   exact wU ha t
  ·intro m ts h;cases h
  ·intro m ts h;cases h
  ·intro k k' g h;cases h
  ·intro k g h;cases h
  ·intro k;trivial
  ·exact ⟨fun b hb=>by simp [va,hg] at hb,fun v hv=>by cases hv⟩
 | some im =>
  obtain ⟨i,m⟩:=im
  simp only [gW,az] at b7
  obtain ⟨c1,c2,rfl⟩:=b7
  generalize Y8:(999999:Nat)=m at gW c2 ⊢
  have c3:m<1000000:=by omega
  have hg:d.sg.ref=some i:=by simp [FD.sg,gW]
  simp only [kx,hg] at ha
  obtain ⟨b,cs,x,tv,a1,a2,a3,a4,a5,a6,a7⟩:=ha
  have hx:xs.length=d.np:=by rw [←a4.length,List.length_set,hlen]
  have td:d.sg.fV.length=d.fV.length:=by simp [FD.sg,iS]
  have kO:d.mC.Nodup:=by
   have:d.mC=(d.fV.map (·.2.1)).map lk:=by simp [FD.mC]
   rw [this]
   exact List.Pairwise.map _ (fun a b h e=>h (fT e)) b3
  have hG:d.G0.get=Eng.bP (fun _=>Gh.no) (i :: m :: d.mC) (.ptr m 0 :: .cl d.fV :: d.fV.map fun t => .live t.2.2):=by
   simp only [FD.G0,gW,GL.rb]
   rfl
  have Dk:∀k,k<1000000→k ∉ d.mC:=by
   intro k hk hm
   simp only [FD.mC,aP] at hm
   obtain ⟨t,_,rfl⟩:=hm
   have:=fN t.2.1
   omega
  have hnd:(i :: m :: d.mC).Nodup:=by
   rw [List.nodup_cons,List.nodup_cons]
   refine ⟨?_,Dk m c3,kO⟩
   rw [bm]
   rintro (e | e)
   ·omega
   ·exact Dk i (by omega) e
  have gi:d.G0.get i = .ptr m 0:=by rw [hG];exact mO hnd (p:=0) rfl rfl
  have gm:d.G0.get m = .cl d.fV:=by rw [hG];exact mO hnd (p:=1) rfl rfl
  have gt:∀(p:Nat) (t:Nat × (Nat × Nat)),d.fV[p]?=some t→d.G0.get (lk t.2.1) = .live t.2.2:=by
   intro p t hp
   rw [hG]
   exact mO hnd (p:=p+2) (by simp [FD.mC,hp]) (by simp [hp])
  have zH:∀key,d.G0.get key = .no∨(key=i∧d.G0.get key = .ptr m 0)∨(key=m∧d.G0.get key = .cl d.fV)∨∃(p:Nat) (t:Nat × (Nat × Nat)),d.fV[p]?=some t∧key=lk t.2.1∧d.G0.get key = .live t.2.2:=by
   intro key
   have h0:=yl (σ:=fun _=>Gh.no) (key:=key) (ks:=i :: m :: d.mC) (xs := .ptr m 0 :: .cl d.fV :: d.fV.map fun t => .live t.2.2)
   rw [←hG] at h0
   rcases h0 with h | ⟨p,g,h1,h2,h3⟩
   ·exact .inl h
   ·right
    match p,h1,h2 with
    | 0,h1,h2=>simp at h1 h2;subst h1;subst h2;exact .inl ⟨rfl,h3⟩
    | 1,h1,h2=>simp at h1 h2;subst h1;subst h2;exact .inr (.inl ⟨rfl,h3⟩)
    | p+2,h1,h2 =>
     simp only [List.getElem?_cons_succ,FD.mC,aI,aV] at h1 h2
     obtain ⟨t,ht,h1⟩:=h1
     obtain ⟨t',tw,h2⟩:=h2
     rw [ht] at tw;cases tw
     exact .inr (.inr ⟨p,t,ht,h1.symm,h2 ▸ h3⟩)
  have pP:∀(p:Nat) (t:Nat × (Nat × Nat)) (v:Value),d.fV[p]?=some t→tv[p]?=some v→Eng.bP (fun _=>undef) d.mC tv (lk t.2.1)=v:=by
   intro p t v hp hv
   exact mO kO (p:=p) (by simp [FD.mC,hp]) hv
  have M3:∀(p:Nat) (t:Nat × (Nat × Nat)),d.fV[p]?=some t→∃v,tv[p]?=some v∧Eng.bP (fun _=>undef) d.mC tv (lk t.2.1)=v∧cs[t.1]?=some v∧ft R w v t.2.2:=by
   intro p t hp
   have eW:=(aF.1 hp).1
   have hv:tv[p]?=some tv[p]:=aA (by omega)
   have hs:d.sg.fV[p]?=some (t.1,t.2.2):=by simp [FD.sg,iS,hp]
   obtain ⟨q1,q2⟩:=a6 p _ _ hs hv
   exact ⟨_,hv,pP p t _ hp hv,q1,q2⟩
  have vB:d.start ins=head (m :: List.range d.np) (ins.getD i .dead :: ins.set i .pt):=by simp [FD.start,gW]
  have sm:d.start ins m=x:=by
   rw [vB]
   simp [head,Eng.bP,cI,List.getD,a2]
  have ss:∀t,t≠m→d.start ins t=(ins.set i .pt).getD t .dead:=by
   intro t ht
   rw [vB]
   simp only [head,Eng.bP,cI,ht,if_false]
   exact og (by simpa using hlen)
  have qZ:∀key g,eM ⟨R,fun _=>b,Eng.bP (fun _=>undef) d.mC tv⟩ d.G0.get key=some g →
    ∃p,(some b :: tv.map Value.ownBlock)[p]?=some (some g)∧(p=0→key=m)∧(∀q,p=q+1→∃t,d.fV[q]?=some t∧key=lk t.2.1):=by
   intro key g hk
   rcases zH key with e | ⟨_,e⟩ | ⟨k1,e⟩ | ⟨p,t,hp,k1,e⟩
   ·simp [eM,e] at hk
   ·simp [eM,e] at hk
   ·rw [gV e] at hk
    exact ⟨0,by simpa using hk,fun _=>k1,fun q hq=>by omega⟩
   ·rw [gG e] at hk
    obtain ⟨v,hv,h1,_,_⟩:=M3 p t hp
    rw [k1] at hk
    dsimp only at hk
    rw [h1] at hk
    refine ⟨p+1,by simp [hv,hk],fun h=>by omega,fun q hq=>⟨t,?_,k1⟩⟩
    have:q=p:=by omega
    subst this
    exact hp
  refine ⟨⟨R,fun _=>b,Eng.bP (fun _=>undef) d.mC tv⟩,{ size:=Cn hx,defers:=rfl,iG:=b2,om:=?_,kU:=?_,slot:=?_,mem:=?_,cD:=?_,ps:=fun k s hk=>(by
   rcases zH k with e | ⟨_,e⟩ | ⟨_,e⟩ | ⟨_,_,_,_,e⟩ <;> rw [e] at hk <;> cases hk),sep:=?_,own:=?_,inv:=?_,ext:=Ext.refl _ _ _,j0:=hR,gl:=xx,fix:=?_ }⟩
  ·intro k hk
   rcases zH k with e | ⟨_,e⟩ | ⟨k1,e⟩ | ⟨p,t,hp,k1,e⟩
   ·rw [e] at hk;cases hk
   ·rw [e] at hk;cases hk
   ·subst k1;exact ⟨c2,c3⟩
   ·rw [e] at hk;cases hk
  ·intro k hk
   rcases zH k with e | ⟨_,e⟩ | ⟨k1,e⟩ | ⟨p,t,hp,k1,e⟩
   ·rw [e] at hk;cases hk
   ·rw [e] at hk;cases hk
   ·rw [e] at hk;cases hk
   ·subst k1;exact fN _
  ·intro t ht
   dsimp only at ht ⊢
   rw [ss t (by omega),ui ht]
   refine .inr ⟨wU a4 t,fun _=>?_⟩
   rcases zH t with e | ⟨k1,e⟩ | ⟨k1,e⟩ | ⟨p,t',hp,k1,e⟩
   ·rw [e];trivial
   ·rw [e]
    simp only [iB]
    subst k1
    simp [List.getD,a1]
   ·omega
   ·have:=fN t'.2.1
    omega
  ·intro k ts hk
   rcases zH k with e | ⟨k1,e⟩ | ⟨k1,e⟩ | ⟨p,t',hp,k1,e⟩
   ·rw [e] at hk;cases hk
   ·rw [e] at hk;cases hk
   ·rw [e] at hk
    cases hk
    subst k1
    rw [sm]
    refine ⟨cs,a3,fun t ht=>?_⟩
    obtain ⟨p,hp⟩:=bk ht
    obtain ⟨v,_,h1,h2,_⟩:=M3 p t hp
    dsimp only
    rw [h1]
    exact h2
   ·rw [e] at hk;cases hk
  ·intro k s hk
   rcases zH k with e | ⟨k1,e⟩ | ⟨k1,e⟩ | ⟨p,t',hp,k1,e⟩
   ·rw [e] at hk;cases hk
   ·rw [e] at hk;cases hk
   ·rw [e] at hk;cases hk
   ·rw [e] at hk
    cases hk
    obtain ⟨v,_,h1,_,h3⟩:=M3 p t' hp
    subst k1
    dsimp only
    rw [h1]
    exact h3
  ·intro k k' g h1 h2
   obtain ⟨p,q1,q2,q3⟩:=qZ k g h1
   obtain ⟨p',r1,r2,r3⟩:=qZ k' g h2
   have:=a7 p p' g q1 r1
   subst this
   left
   cases p with
   | zero=>rw [q2 rfl,r2 rfl]
   | succ p =>
    obtain ⟨t,ht,e1⟩:=q3 p rfl
    obtain ⟨t',tw,e2⟩:=r3 p rfl
    rw [ht] at tw
    cases tw
    rw [e1,e2]
  ·intro k g h1
   left
   simp only [nH,hg]
   obtain ⟨elem,hh,_,_⟩:=a3
   refine ⟨b,cs,elem,a1,hh,?_⟩
   obtain ⟨p,q1,q2,q3⟩:=qZ k g h1
   cases p with
   | zero =>
    left
    simpa using q1.symm
   | succ p =>
    right
    obtain ⟨t,ht,e1⟩:=q3 p rfl
    obtain ⟨v,hv,_,h2,_⟩:=M3 p t ht
    refine ⟨(t.1,t.2.2),?_,v,h2,?_⟩
    ·simp only [FD.sg,iS,aP]
     exact ⟨t,aU ht,rfl⟩
    ·simpa [hv] using q1
  ·intro k
   rcases zH k with e | ⟨k1,e⟩ | ⟨k1,e⟩ | ⟨p,t',hp,k1,e⟩
   ·rw [e];trivial
   ·rw [e]
    simp only [eV,gm,Gh.ff]
   ·rw [e]
    intro t ht
    obtain ⟨p,hp⟩:=bk ht
    rw [gt p t hp]
    rfl
   ·rw [e];trivial
  ·refine ⟨fun b' zw=>?_,fun v hv=>by cases hv⟩
   simp only [va,hg,a1,aB] at zw
   exact zw
theorem wG {d:FD} {nt i k s:Nat} (je:d.ps=some (i,k,s)) (hb:d.mJ nt=true) (hlen:ins.length=d.np) (hR:∀b o,R b o→b<w.heap.size) (xx:∀n,Rep R w (E.gl n) (.pointer (some ⟨n,0,none⟩)))
  {v:Value} {es:List AV} (a1:xs[i]?=some v) (a2:ins[i]?=some (.sl s es)) (a3:ft R w v s) (a4:fQ R w v s (.sl s es)) (a5:fo R w (ins.set i .pt) xs) {fp:Option Value} (PN:∀v',fp=some v'→v'=v∧k=999999) :
  ∃D,cN ⟨P,E,nt,w,R,fun c=>v.ownBlock=some c,none,fp⟩ D (d.start ins) d.G0.get { tmps:=(⟨xs⟩:Array Value)++Array.replicate (nt - xs.length) undef,defers:=[] } w:=by
 simp only [FD.mJ,aa,az,je] at hb
 obtain ⟨⟨⟨b1,b2,b3,b4,b5,b6⟩,b7⟩,b8,b9,TG,XO,TF⟩:=hb
 have hx:xs.length=d.np:=by rw [←a5.length,List.length_set,hlen]
 have Cn:((⟨xs⟩:Array Value)++Array.replicate (nt - xs.length) undef).size=nt:=by simp;omega
 have Dk:∀t,t<1000000→t≠lk k:=fun t ht e=>by have:=fN k;omega
 have hG:d.G0.get=Eng.bP (fun _=>Gh.no) [i,lk k] [.cD k s,.pv s]:=by
  simp only [FD.G0,b9,je,GL.rb]
  rfl
 have vB:d.start ins=head (lk k :: List.range d.np) (ins.getD i .dead :: ins.set i .pt):=by simp [FD.start,b9,je]
 have SW:ins.getD i .dead = .sl s es:=by simp [List.getD,a2]
 rw [SW] at vB
 rw [hG,vB]
 have sk:head (lk k :: List.range d.np) (.sl s es :: ins.set i .pt) (lk k) = .sl s es:=by simp [head,Eng.bP,cI]
 have ss:∀t,t≠lk k→head (lk k :: List.range d.np) (.sl s es :: ins.set i .pt) t=(ins.set i .pt).getD t .dead:=fun t ht=>by
  have:head (lk k :: List.range d.np) (.sl s es :: ins.set i .pt) t=head (List.range d.np) (ins.set i .pt) t:=by simp [head,Eng.bP,cI,ht]
  rw [this,og (by rw [List.length_set,hlen])]
 have gi:Eng.bP (fun _=>Gh.no) [i,lk k] [.cD k s,.pv s] i = .cD k s:=by simp [Eng.bP,cI]
 have gk:Eng.bP (fun _=>Gh.no) [i,lk k] [.cD k s,.pv s] (lk k) = .pv s:=by
  simp only [Eng.bP]
  rw [bG _ _ (Dk i (by omega)).symm,bF]
 have go:∀x,x≠i→x≠lk k→Eng.bP (fun _=>Gh.no) [i,lk k] [.cD k s,.pv s] x = .no:=fun x h1 h2=>by
  simp only [Eng.bP]
  rw [bG _ _ h1,bG _ _ h2]
 generalize Eng.bP (fun _=>Gh.no) [i,lk k] [.cD k s,.pv s]=γ at gi gk go
 generalize head (lk k :: List.range d.np) (.sl s es :: ins.set i .pt)=σ at sk ss
 have inv:∀x,γ x = .no∨(x=i∧γ x = .cD k s)∨(x=lk k∧γ x = .pv s):=fun x=>by
  by_cases h1:x=i
  ·subst h1;exact .inr (.inl ⟨rfl,gi⟩)
  ·by_cases h2:x=lk k
   ·subst h2;exact .inr (.inr ⟨rfl,gk⟩)
   ·exact .inl (go x h1 h2)
 have qZ:∀(D:kf) key g,eM D γ key=some g→key=lk k∧(D.τ (lk k)).ownBlock=some g:=fun D key g hb=>by
  unfold eM at hb
  rcases inv key with e | ⟨_,e⟩ | ⟨e1,e⟩ <;> rw [e] at hb
  ·cases hb
  ·cases hb
  ·subst e1;exact ⟨rfl,hb⟩
 refine ⟨⟨R,fun _=>0,cI (fun _=>undef) (lk k) v⟩,{ size:=Cn,defers:=rfl,iG:=b2,om:=?_,kU:=?_,slot:=?_,mem:=?_,cD:=?_,ps:=?_,sep:=?_,own:=?_,inv:=?_,ext:=Ext.refl _ _ _,j0:=hR,gl:=xx,fix:=?_ }⟩
 ·intro m hm
  rcases inv m with e | ⟨_,e⟩ | ⟨_,e⟩ <;> rw [e] at hm <;> cases hm
 ·intro m hm
  rcases inv m with e | ⟨_,e⟩ | ⟨e1,e⟩
  ·rw [e] at hm;cases hm
  ·rw [e] at hm;cases hm
  ·subst e1;exact fN _
 ·intro t ht
  dsimp only at ht ⊢
  rw [ss t (Dk t (by omega)),ui ht]
  refine .inr ⟨wU a5 t,fun _=>?_⟩
  rcases inv t with e | ⟨e1,e⟩ | ⟨e1,e⟩
  ·rw [e];trivial
  ·rw [e]
   subst e1
   have hv:xs.getD t undef=v:=by simp [List.getD,a1]
   rw [hv]
   refine ⟨by simp only [bF],by rcases a3 with rfl | ⟨_,_,_,_,_,_,rfl,_⟩ <;> rfl⟩
  ·exact (Dk t (by omega) e1).elim
 ·intro m ts hm
  rcases inv m with e | ⟨_,e⟩ | ⟨_,e⟩ <;> rw [e] at hm <;> cases hm
 ·intro m ts hm
  rcases inv m with e | ⟨_,e⟩ | ⟨_,e⟩ <;> rw [e] at hm <;> cases hm
 ·intro key s' hs
  rcases inv key with e | ⟨_,e⟩ | ⟨e1,e⟩
  ·rw [e] at hs;cases hs
  ·rw [e] at hs;cases hs
  ·rw [e] at hs
   cases hs
   subst e1
   rw [sk]
   simp only [bF]
   exact ⟨a3,a4,fun d s1 s2 f1 _=>by rw [gk] at f1;cases f1⟩
 ·intro p q g hp hq
  exact .inl ((qZ _ p g hp).1.trans (qZ _ q g hq).1.symm)
 ·intro p g hp
  have:=(qZ _ p g hp).2
  simp only [bF] at this
  exact .inl this
 ·intro key
  rcases inv key with e | ⟨_,e⟩ | ⟨_,e⟩
  ·rw [e];trivial
  ·rw [e]
   show (γ (lk k)).eD=true
   rw [gk];rfl
  ·rw [e];trivial
 ·refine ⟨fun b hb=>(by cases hb),fun v' tt=>?_⟩
  obtain ⟨rfl,XN⟩:=PN _ tt
  subst XN
  refine ⟨by rw [gk];rfl,?_⟩
  simp only [bF]
end
end Go.Eng
namespace Go.Eng
open Go.RowKit
theorem sK {X:Type}:∀{l:List (Option X)} {r:List X},BF l=some r→l=r.map some
 | [],_,h=>by simp only [BF,aB] at h;subst h;rfl
 | none :: _,_,h=>by simp [BF] at h
 | some x :: l,r,h=>by
  simp only [BF,aV] at h
  obtain ⟨r',h1,rfl⟩:=h
  rw [sK h1];rfl
theorem rn {us:List (Nat × (Nat × Nat))} {q:Nat × Nat} {k:Nat} (h:rp us q=some k):∃u∈us,u.1=q.1∧u.2.1=k:=by
 simp only [rp,aV] at h
 obtain ⟨u,h1,h2⟩:=h
 have:=List.find?_some h1
 simp only [aa,beq_iff_eq] at this
 exact ⟨u,List.mem_of_find?_eq_some h1,this.1,h2⟩
def EH (tmps:Array Value):ResultVar→Sem Value
 | .tmp t=>pure (tmps.getD t undef)
 | .cell a t=>do loadVar t (←asAddr (tmps.getD a undef))
theorem sR {P:Program} {w:World} {fn:Func} {tmps:Array Value} {vs:List Value} (h:(fn.results.toList.mapM (EH tmps)).run P w = .ok vs w) :
  (results fn tmps).run P w = .ok (if vs.length=1 then vs.headD undef else .tuple ⟨vs⟩) w:=by
 have e:results fn tmps=(do
   let vs ←fn.results.mapM (EH tmps)
   pure (if h:vs.size=1 then vs[0] else .tuple vs)):=by
  unfold results
  congr 2
 rw [e,Array.mapM_eq_mapM_toList]
 simp only [Sem.run_bind,Sem.run_map,h,Result.andThen_ok,Sem.run_pure]
 match vs with
 | []=>simp
 | [x]=>simp
 | _ :: _ :: _=>simp
section
variable {C:Ctx} {D:kf} {σ:Sg} {a:Act} {w:World} {G:GL}
def BH (D:kf) (G:GL) (σ:Sg) (a:Act) (r:RV) (x:AV) (v:Value):Prop :=
 match r with
 | .t j=>x=σ j∧v=a.tmps.getD j undef
 | .c _ m n agg=>n=1→agg=false→∀us,G.get m = .cl us→∀u∈us,u.1=0→v=D.τ (lk u.2.1)
theorem H2 (h:cN C D σ G.get a w) {rv:ResultVar} {r:RV} {x:AV} (hr:lH C.P C.nt rv r=true) (hg:r.QB G=true) (hx:r.get σ=some x) :
  ∃v,(EH a.tmps rv).run C.P w = .ok v w∧Rep D.R w x v∧BH D G σ a r x v:=by
 cases rv with
 | tmp t =>
  cases r with
  | c=>simp [lH] at hr
  | t j =>
   simp only [lH,aa,beq_iff_eq,az] at hr
   obtain ⟨rfl,ht⟩:=hr
   simp only [RV.get,aB] at hx
   subst hx
   refine ⟨_,rfl,?_,rfl,rfl⟩
   rcases h.slot t ht with e | ⟨e,_⟩
   ·rw [e];exact .dead _
   ·exact e
 | cell ad ty =>
  cases r with
  | t j=>simp [lH] at hr
  | c Zz m n agg =>
   simp only [lH,aa,beq_iff_eq,az] at hr
   obtain ⟨⟨rfl,ht⟩,hs⟩:=hr
   simp only [RV.QB,aa,beq_iff_eq] at hg
   obtain ⟨g1,g2⟩:=hg
   simp only [RV.get] at hx
   split at hx
   ·rename_i cs e1 e2
    have hv:=h.slot ad ht
    rw [e1,g1] at hv
    have hv:a.tmps.getD ad undef = .pointer (some ⟨D.β m,0,none⟩):=by
     rcases hv with e | ⟨_,e⟩
     ·cases e
     ·exact e (by simp)
    cases hm:G.get m with
    | cl us =>
     obtain ⟨ws,tz,LY⟩:=h.mem m us hm
     rw [e2] at tz
     obtain ⟨elem,hh,hL⟩:=tz.ag
     have O7:∀(j:Nat) (y:Value),(ws.take cs.length)[j]?=some y→ws[j]?=some y:=fun j y hj=>by
      rw [aO] at hj;split at hj
      ·exact hj
      ·cases hj
     have nR:agg=false→∀t∈us,t.1=0→(ws.take cs.length)[t.1]?=some (D.τ (lk t.2.1)):=fun ha t ht he=>by
      have eW:0<cs.length:=by
       subst ha
       simp only [fP,aY,if_false] at hx
       exact (aF.1 hx).1
      rw [aO,aG (by omega)]
      exact LY t ht
     generalize We:ws.take cs.length=vs at hL nR O7
     simp only [jl,aa,beq_iff_eq,Bool.or_eq_true] at hs
     obtain ⟨⟨s1,s2⟩,s3⟩:=hs
     have h1:agg=true∨n=1:=s3
     simp only [gZ,aV] at s1
     obtain ⟨inf,hi,hz⟩:=s1
     obtain ⟨hlen,ir⟩:=mV hL hx h1
     have hc:∀j y,((vs.drop 0).take n)[j]?=some y→w.cell? ⟨D.β m,0+j,none⟩=some y:=by
      intro j y hj
      rw [aO] at hj
      split at hj
      ·rw [List.getElem?_drop] at hj
       have:=O7 _ _ hj
       simp only [World.cell?,hh]
       simpa using this
      ·cases hj
     refine ⟨_,?_,ir,?_⟩
     ·simp only [EH,hv,asAddr,Sem.run_bind,Sem.run_pure,Result.andThen_ok]
      exact kL hi s2 (hz ▸ h1) (hlen.trans hz.symm) hc
     ·intro n1 a1 us' FQ u hu h0
      subst n1;subst a1
      rw [hm] at FQ
      cases FQ
      have:=nR rfl u hu h0
      rw [h0] at this
      simp only [aY,if_false,aT]
      cases vs with
      | nil=>simp at this
      | cons y ys=>simpa using this
    | _=>rw [hm] at g2;simp [Gh.ff] at g2
   ·cases hx
theorem w5 (h:cN C D σ G.get a w):∀{rvs:List ResultVar} {res:List RV} {xs:List AV},kv (lH C.P C.nt) rvs res=true→res.all (RV.QB G)=true→AX σ res=some xs →
  ∃vs,(rvs.mapM (EH a.tmps)).run C.P w = .ok vs w∧fo D.R w xs vs∧vs.length=res.length∧∀(i:Nat) (r:RV),res[i]?=some r→∃x v,xs[i]?=some x∧vs[i]?=some v∧BH D G σ a r x v
 | [],[],xs,_,_,h3=>by
  simp only [AX,aB] at h3
  subst h3
  exact ⟨[],by simp [List.mapM_nil],.nil,rfl,fun i r e=>by simp at e⟩
 | rv :: rvs,r :: res,xs,h1,h2,h3=>by
  simp only [kv,aa] at h1
  simp only [List.all_cons,aa] at h2
  simp only [AX,bf,aV] at h3
  obtain ⟨x,hx,Q9,vp,rfl⟩:=h3
  obtain ⟨v,v1,v2,v3⟩:=H2 h h1.1 h2.1 hx
  obtain ⟨vs,q1,q2,q3,q4⟩:=w5 h h1.2 h2.2 vp
  refine ⟨v :: vs,?_,.cons v2 q2,by simp [q3],?_⟩
  ·simp only [List.mapM_cons,Sem.run_bind,v1,q1,Result.andThen_ok,Sem.run_pure]
  ·intro i r' e
   cases i with
   | zero =>
    simp only [List.getElem?_cons_zero,aB] at e
    subst e
    exact ⟨x,v,rfl,rfl,v3⟩
   | succ i =>
    simp only [List.getElem?_cons_succ] at e ⊢
    exact q4 i r' e
 | [],_ :: _,_,h1,_,_=>by simp [kv] at h1
 | _ :: _,[],_,h1,_,_=>by simp [kv] at h1
theorem Iv (h:cN C D σ G.get a w) {rv:ResultVar} {r:RV} {s k s':Nat} {es:List AV} {v:Value} (hr:lH C.P C.nt rv r=true) (hk:r.key G s=some k) (hv:BH D G σ a r (.sl s' es) v):v=D.τ (lk k):=by
 cases r with
 | t j =>
  cases rv with
  | cell=>simp [lH] at hr
  | tmp t =>
  simp only [lH,aa,beq_iff_eq,az] at hr
  obtain ⟨rfl,ht⟩:=hr
  obtain ⟨e1,e2⟩:=hv
  simp only [RV.key] at hk
  split at hk
  ·rename_i k' mc hg
   split at hk
   ·cases hk
    have:=h.slot t ht
    rw [←e1,hg] at this
    rcases this with e | ⟨_,e⟩
    ·cases e
    ·rw [e2];exact (e (by simp)).1
   ·cases hk
  ·cases hk
 | c ad m n agg =>
  simp only [RV.key] at hk
  split at hk
  ·rename_i hc
   split at hk
   ·rename_i us FQ
    obtain ⟨u,hu,u1,u2⟩:=rn hk
    rw [←u2]
    exact hv hc.1 hc.2 us FQ u hu u1
   ·cases hk
  ·cases hk
theorem qx (h:cN C D σ G.get a w) {q:Option (Nat × Nat)} {ts:List (Nat × Nat)} {ks:List Nat} (hk:tF G q ts=some ks) {cs:List Value} {i m:Nat} (hq:q=some (i,m)) (xy:∀us,G.get m = .cl us→∀t∈us,cs[t.1]?=some (D.τ (lk t.2.1))) :
  ∀(p:Nat) (t:Nat × Nat) (v:Value),ts[p]?=some t→(ks.map fun k=>D.τ (lk k))[p]?=some v→cs[t.1]?=some v:=by
 subst hq
 intro p t v hp hv
 simp only [tF] at hk
 split at hk
 ·rename_i us FQ
  have e:=sK hk
  rw [aI,aV] at hv
  obtain ⟨k,PC,rfl⟩:=hv
  have e1:(ts.map (rp us))[p]?=(ks.map some)[p]?:=by rw [e]
  rw [aI,aI,hp,PC] at e1
  simp only [Option.map_some,aB] at e1
  obtain ⟨u,hu,u1,u2⟩:=rn e1
  have:=xy us FQ u hu
  rw [u1,u2] at this
  exact this
 ·cases hk
theorem nd (h:cN C D σ G.get a w) {ks:List Nat} {ts:List (Nat × Nat)} (hl:jQ G ks ts=true):ks.length=ts.length∧(∀(p k:Nat),ks[p]?=some k→∃t,ts[p]?=some t∧G.get (lk k) = .live t.2):=by
 refine ⟨po hl,fun p k hk=>?_⟩
 obtain ⟨t,h1,h2⟩:=pq hl hk
 exact ⟨t,h1,by simpa using h2⟩
theorem uS:∀{A B:List Nat} {X Y:List (Nat × Nat)},jQ G A X=true→jQ G B Y=true→jQ G (A++B) (X++Y)=true
 | [],_,[],_,_,h2=>h2
 | [],_,_ :: _,_,h1,_=>by simp [jQ,kv] at h1
 | _ :: _,_,[],_,h1,_=>by simp [jQ,kv] at h1
 | a :: A,B,x :: X,Y,h1,h2=>by
  simp only [jQ,kv,aa,List.cons_append] at h1 ⊢
  exact ⟨h1.1,uS h1.2 h2⟩
theorem Gv {d:FD} {fn:Func} {outs:List AV} {xs:List Value} (je:d.eu=[]) (h:cN C D σ G.get a w) (hb:d.mJ C.nt=true) (Pm:d.rt G=true) (uX:kv (lH C.P C.nt) fn.results.toList d.res=true) (ho:d.An σ outs)
  (Dn:∀i,d.sg.ref=some i→∃b,xs[i]?=some (.pointer (some ⟨b,0,none⟩))∧C.fix=some b) :
  ∃x,(results fn a.tmps).run C.P w = .ok x w∧wH d.sg D.R w C.lp xs outs x:=by
 obtain ⟨rs,o1,o2,o3,ho⟩:=ho
 rw [je,aq,aR] at ho
 subst ho
 simp only [FD.rt,aa] at Pm
 obtain ⟨⟨⟨⟨r1,r2⟩,r3⟩,r4⟩,_⟩:=Pm
 split at r4
 ·rename_i Kr Ko Kn k1 k2 k3
  simp only [aa,az] at r4
  obtain ⟨⟨⟨n1,l1⟩,l2⟩,l3⟩:=r4
  obtain ⟨vs,q1,q2,q3,q4⟩:=w5 h uX r1 o1
  simp only [FD.mJ,aa,az] at hb
  obtain ⟨⟨⟨b1,b2,b3,b4,b5,b6⟩,b7⟩,_⟩:=hb
  obtain ⟨VR,YU⟩:=nd h l1
  obtain ⟨VS,YV⟩:=nd h l2
  obtain ⟨VT,YW⟩:=nd h l3
  have Dd:rs.length=d.res.length:=by rw [←q3,q2.length]
  have zl:d.sg.bQ=d.res.length:=rfl
  have gW:d.sg.ref=d.ref.map (·.1):=rfl
  have gX:d.sg.new=d.new.map (·.1):=rfl
  -- the variables
  have jf:∀m,(G.get m).ff=true→∃us cs,G.get m = .cl us∧iU D.R w (σ m) (D.β m) cs∧∀t∈us,cs[t.1]?=some (D.τ (lk t.2.1)):=by
   intro m hm
   cases hg:G.get m with
   | cl us=>obtain ⟨cs,e1,e2⟩:=h.mem m us hg;exact ⟨us,cs,rfl,e1,e2⟩
   | _=>rw [hg] at hm;cases hm
  have zm:∃cr,∀i m,d.ref=some (i,m)→m=999999∧iU D.R w (σ m) (D.β m) cr∧∀us,G.get m = .cl us→∀t∈us,cr[t.1]?=some (D.τ (lk t.2.1)):=by
   cases hr:d.ref with
   | none=>exact ⟨[],fun i m e=>by cases e⟩
   | some im =>
    obtain ⟨i,m⟩:=im
    simp only [hr] at r2
    obtain ⟨us,cs,e1,e2,e3⟩:=jf m r2
    simp only [hr,az] at b7
    exact ⟨cs,fun i' m' e=>by cases e;exact ⟨b7.2.2,e2,fun us' hu=>by rw [e1] at hu;cases hu;exact e3⟩⟩
  have uY:∃cn,∀j m,d.new=some (j,m)→(G.get m).ff=true∧vs[j]?=some (.pointer (some ⟨D.β m,0,none⟩))∧iU D.R w (σ m) (D.β m) cn∧∀us,G.get m = .cl us→∀t∈us,cn[t.1]?=some (D.τ (lk t.2.1)):=by
   cases hn:d.new with
   | none=>exact ⟨[],fun i m e=>by cases e⟩
   | some jm =>
    obtain ⟨j,m⟩:=jm
    simp only [hn,aa] at r3
    obtain ⟨us,cs,e1,e2,e3⟩:=jf m r3.1
    refine ⟨cs,fun j' m' e=>?_⟩
    cases e
    refine ⟨r3.1,?_,e2,fun us' hu=>by rw [e1] at hu;cases hu;exact e3⟩
    have r5:=r3.2
    split at r5
    ·rename_i t ht
     obtain ⟨x,v,p1,p2,p3,p4⟩:=q4 j _ ht
     rw [o3 (j,m) hn] at p1
     cases p1
     obtain ⟨rv,p5,p6⟩:∃rv,fn.results.toList[j]?=some rv∧lH C.P C.nt rv (.t t)=true:=by
      have eW:=(aF.1 ht).1
      have hl:=po uX
      have e0:fn.results.toList[j]?=some fn.results.toList[j]:=aA (by omega)
      obtain ⟨y,y1,y2⟩:=pq uX e0
      rw [ht] at y1
      cases y1
      exact ⟨_,e0,y2⟩
     have td:t<C.nt:=by
      cases rv with
      | cell=>simp [lH] at p6
      | tmp t' =>
       simp only [lH,aa,beq_iff_eq,az] at p6
       obtain ⟨rfl,p6⟩:=p6
       exact p6
     have:=h.slot t td
     rw [←p3] at this
     have VH:G.get t = .ptr m 0:=by simpa using r5
     rw [VH] at this
     rcases this with e | ⟨_,e⟩
     ·cases e
     ·rw [p2,p4];exact congrArg some (e (by simp))
    ·cases r5
  obtain ⟨cr,zm⟩:=zm
  obtain ⟨cn,uY⟩:=uY
  have F6:jQ G (Kr++Ko++Kn) (iS d.fV++d.own++d.fL)=true:=uS (uS l1 l2) l3
  have Pw:∀k∈Kr++Ko++Kn,∃s,G.get (lk k) = .live s:=by
   intro k hk
   obtain ⟨p,hp⟩:=bk hk
   obtain ⟨t,_,h2⟩:=(nd h F6).2 p k hp
   exact ⟨_,h2⟩
  have oJ:kj d.sg (D.β ((d.new.map (·.2)).getD 0)) (D.β 999999) (Kr.map (fun k=>D.τ (lk k))++Ko.map (fun k=>D.τ (lk k))++Kn.map (fun k=>D.τ (lk k))) =
    (d.new.toList.map (·.2)++d.ref.toList.map (·.2)++(Kr++Ko++Kn).map lk).map (eM D G.get):=by
   have e1:(if d.sg.new.isSome then [some (D.β ((d.new.map (·.2)).getD 0))] else [])=(d.new.toList.map (·.2)).map (eM D G.get):=by
    rw [gX]
    cases hn:d.new with
    | none=>rfl
    | some jm =>
     obtain ⟨us,cs,e,_⟩:=jf _ (uY jm.1 jm.2 hn).1
     simp [gV e]
   have e2:(if d.sg.ref.isSome then [some (D.β 999999)] else [])=(d.ref.toList.map (·.2)).map (eM D G.get):=by
    rw [gW]
    cases hr:d.ref with
    | none=>rfl
    | some im =>
     obtain ⟨p0,_⟩:=zm im.1 im.2 hr
     simp only [hr] at r2
     obtain ⟨us,cs,e,_⟩:=jf _ r2
     simp only [Option.map_some,Option.isSome_some,if_true,Option.toList_some,ah,aq,gV e]
     rw [p0]
   have e3:(Kr.map (fun k=>D.τ (lk k))++Ko.map (fun k=>D.τ (lk k))++Kn.map (fun k=>D.τ (lk k))).map Value.ownBlock=((Kr++Ko++Kn).map lk).map (eM D G.get):=by
    rw [←List.map_append,←List.map_append,aW,aW]
    apply List.map_congr_left
    intro k hk
    obtain ⟨s,hs⟩:=Pw k hk
    exact (gG hs).symm
   unfold kj
   rw [e1,e2,e3,←List.map_append,←List.map_append]
  have S6:∀x∈d.new.toList.map (·.2)++d.ref.toList.map (·.2),(G.get x).ff=true:=by
   intro x hx
   rcases List.mem_append.1 hx with hx | hx
   ·cases hn:d.new with
    | none=>rw [hn] at hx;simp at hx
    | some jm =>
     rw [hn] at hx
     simp only [Option.toList_some,ah,aq,List.mem_singleton] at hx
     rw [hx]
     exact (uY jm.1 jm.2 hn).1
   ·cases hr:d.ref with
    | none=>rw [hr] at hx;simp at hx
    | some im =>
     rw [hr] at hx
     simp only [Option.toList_some,ah,aq,List.mem_singleton] at hx
     simp only [hr] at r2
     rw [hx]
     exact r2
  have Wu:∀x∈d.new.toList.map (·.2)++d.ref.toList.map (·.2)++(Kr++Ko++Kn).map lk,(G.get x).tq=false:=by
   intro x hx
   rcases List.mem_append.1 hx with hx | hx
   ·have:=S6 x hx
    cases hg:G.get x <;> rw [hg] at this <;> first | rfl | cases this
   ·obtain ⟨k,hk,rfl⟩:=aP.1 hx
    obtain ⟨p,hp⟩:=bk hk
    obtain ⟨t,_,h2⟩:=(nd h F6).2 p k hp
    rw [h2];rfl
  have PD:(d.new.toList.map (·.2)++d.ref.toList.map (·.2)++(Kr++Ko++Kn).map lk).Nodup:=by
   rw [List.nodup_append]
   refine ⟨?_,List.Pairwise.map _ (fun a b h e=>h (fT e)) n1,?_⟩
   ·rcases b6 with e | e
    ·rw [e];cases d.new <;> simp
    ·rw [e];cases d.ref <;> simp
   ·intro x hx y hy e
    obtain ⟨k,_,rfl⟩:=aP.1 hy
    have h1:=fN k
    have Sf:(G.get x).ff=true:=by
     rcases List.mem_append.1 hx with hx | hx
     ·cases hn:d.new with
      | none=>rw [hn] at hx;simp at hx
      | some jm =>
       rw [hn] at hx
       simp only [Option.toList_some,ah,aq,List.mem_singleton] at hx
       rw [hx]
       exact (uY jm.1 jm.2 hn).1
     ·cases hr:d.ref with
      | none=>rw [hr] at hx;simp at hx
      | some im =>
       rw [hr] at hx
       simp only [Option.toList_some,ah,aq,List.mem_singleton] at hx
       simp only [hr] at r2
       rw [hx]
       exact r2
    have:=(h.om x Sf).2
    omega
  refine ⟨_,sR q1,vs,Kr.map (fun k=>D.τ (lk k)),Ko.map (fun k=>D.τ (lk k)),Kn.map (fun k=>D.τ (lk k)),D.β ((d.new.map (·.2)).getD 0),D.β 999999,cn,cr,?_,?_,?_,?_,?_,?_,?_,?_,?_,?_,?_,?_,?_,?_,?_⟩
  ·rw [q3,zl]
  ·rw [zl,q3]
  ·simp only [ao,aH,zl,gW,gX,Dd]
   cases d.ref <;> cases d.new <;> simp
  ·have e:(((rs++d.new.toList.map (fun q=>σ q.2)++d.ref.toList.map (fun q=>σ q.2)).take d.sg.bQ).mapIdx fun i y=>if d.sg.new=some i then AV.pt else y)=rs:=by
    rw [aN,List.take_left' (by rw [Dd,zl])]
    apply List.ext_getElem?
    intro i
    rw [List.getElem?_mapIdx]
    cases hi:rs[i]? with
    | none=>rfl
    | some y =>
     simp only [Option.map_some,aB]
     split
     ·rename_i e
      rw [gX,aV] at e
      obtain ⟨q,hq,e⟩:=e
      have:=o3 q hq
      rw [e,hi] at this
      cases this;rfl
     ·rfl
   rw [e]
   exact q2
  ·intro j hj
   rw [gX,aV] at hj
   obtain ⟨⟨j',m⟩,hn,e⟩:=hj
   simp only at e
   subst e
   obtain ⟨_,p1,p2,_⟩:=uY _ _ hn
   simp only [hn,Option.map_some,Option.getD_some]
   refine ⟨p1,?_⟩
   have:(rs++(some (j',m)).toList.map (fun q=>σ q.2)++d.ref.toList.map (fun q=>σ q.2)).getD d.sg.bQ .dead=σ m:=by
    rw [aN,ak,aK (by rw [Dd,zl];exact Nat.le_refl _)]
    simp [Dd,zl]
   rw [this]
   exact p2
  ·intro i hi
   obtain ⟨b,x1,x2⟩:=Dn i hi
   rw [gW,aV] at hi
   obtain ⟨⟨i',m⟩,hr,e⟩:=hi
   simp only at e
   subst e
   obtain ⟨p0,p1,_⟩:=zm _ _ hr
   subst p0
   refine ⟨by rw [x1,h.fix.1 b x2],?_⟩
   have hn:d.new=none:=by
    rcases b6 with e | e
    ·rw [hr] at e;cases e
    ·exact e
   have:(rs++d.new.toList.map (fun q=>σ q.2)++d.ref.toList.map (fun q=>σ q.2)).getD (d.sg.bQ+if d.sg.new.isSome=true then 1 else 0) .dead=σ 999999:=by
    rw [hr,hn,gX,hn]
    simp only [Option.map_none,Option.toList_none,aq,aR,Option.toList_some,ah]
    rw [ak,aK (by rw [Dd,zl];exact Nat.le_add_right _ _)]
    simp [Dd,zl]
   rw [this]
   exact p1
  ·rw [aH,VR];rfl
  ·rw [aH,VS];rfl
  ·rw [aH,VT];rfl
  ·intro p t v hp hv
   cases hr:d.ref with
   | none =>
    have:=b4 hr
    simp [FD.sg,iS,this] at hp
   | some im =>
    exact qx h k1 hr (zm _ _ hr).2.2 p t v hp hv
  ·intro p t v hp hv
   rw [aI,aV] at hv
   obtain ⟨k,PC,rfl⟩:=hv
   have e:=sK k2
   have e1:(d.own.map fun q=>(d.res[q.1]?).bind (RV.key G q.2))[p]?=(Ko.map some)[p]?:=by rw [e]
   have jH:d.own[p]?=some t:=hp
   rw [aI,aI,jH,PC] at e1
   simp only [Option.map_some,aB,bf] at e1
   obtain ⟨r,hr,hk⟩:=e1
   obtain ⟨x,v,p1,p2,p3⟩:=q4 _ _ hr
   obtain ⟨s,es,hs⟩:=o2 t (aU jH)
   rw [hs] at p1
   cases p1
   have eW:=(aF.1 hr).1
   have hl:=po uX
   have e0:fn.results.toList[t.1]?=some fn.results.toList[t.1]:=aA (by omega)
   obtain ⟨y,y1,y2⟩:=pq uX e0
   rw [hr] at y1
   cases y1
   rw [p2,Iv h y2 hk p3]
  ·intro p t v hp hv
   cases hn:d.new with
   | none =>
    have:=b5 hn
    simp [FD.sg,this] at hp
   | some jm =>
    exact qx h k3 hn (uY _ _ hn).2.2.2 p t v hp hv
  ·intro p t v hp hv
   have tt:((Kr++Ko++Kn).map fun k=>D.τ (lk k))[p]?=some v:=by simpa using hv
   rw [aI,aV] at tt
   obtain ⟨k,PC,rfl⟩:=tt
   obtain ⟨t',h1,h2⟩:=(nd h F6).2 p k PC
   have jH:(iS d.fV++d.own++d.fL)[p]?=some t:=hp
   rw [jH] at h1
   cases h1
   exact h.cD _ _ h2
  ·intro p q g hp hq
   rw [oJ,aI,aV] at hp hq
   obtain ⟨x,x1,x2⟩:=hp
   obtain ⟨y,y1,y2⟩:=hq
   have:=h.rR (Wu x (aU x1)) x2 y2
   subst this
   obtain ⟨hx,ex⟩:=aF.1 x1
   obtain ⟨hy,ey⟩:=aF.1 y1
   rcases Nat.lt_trichotomy p q with eW | he | eW
   ·exact absurd (ex.trans ey.symm) (List.pairwise_iff_getElem.1 PD p q hx hy eW)
   ·exact he
   ·exact absurd (ey.trans ex.symm) (List.pairwise_iff_getElem.1 PD q p hy hx eW)
  ·intro g hg
   rw [oJ,aP] at hg
   obtain ⟨x,_,x2⟩:=hg
   exact h.own x g x2
 ·cases r4
theorem I4 {d:FD} {fn:Func} {outs:List AV} {i s:Nat} {es:List AV} (je:d.ps=some (i,999999,s)) (h:cN C D σ G.get a w) (hb:d.mJ C.nt=true) (Pm:d.rt G=true) (uX:kv (lH C.P C.nt) fn.results.toList d.res=true) (ho:d.An σ (outs++[.sl s es])) :
  ∃rvs,(results fn a.tmps).run C.P w = .ok (if d.sg.bQ=1 then rvs.headD undef else .tuple ⟨rvs⟩) w∧rvs.length=d.sg.bQ∧fo D.R w outs rvs∧ft D.R w (D.τ (lk 999999)) s∧fQ D.R w (D.τ (lk 999999)) s (.sl s es):=by
 have p9:d.eu=[(i,999999,s)]:=by simp [FD.eu,je]
 simp only [FD.mJ,aa,az,je] at hb
 obtain ⟨_,b8,b9,TG,_⟩:=hb
 obtain ⟨rs,o1,o2,o3,ho⟩:=ho
 rw [p9,b9,TG] at ho
 simp only [Option.toList_none,aq,aR,ah] at ho
 obtain ⟨rfl,hk⟩:=List.append_inj' ho rfl
 simp only [aj,and_true] at hk
 simp only [FD.rt,aa,p9] at Pm
 obtain ⟨⟨⟨⟨r1,r2⟩,r3⟩,r4⟩,r5⟩:=Pm
 obtain ⟨vs,q1,q2,q3,q4⟩:=w5 h uX r1 o1
 have hz:(G.get (lk 999999)).CU=some s:=by
  split at r5
  ·rename_i e;rw [e];simp at r5;rw [r5];rfl
  ·rename_i e;rw [e];simp at r5;rw [r5];rfl
  ·cases r5
 obtain ⟨t1,t2,_⟩:=h.ps _ _ hz
 rw [←hk] at t2
 refine ⟨vs,?_,q3,q2,t1,t2⟩
 have:=sR q1
 rw [show d.sg.bQ=vs.length from q3.symm]
 exact this
end
theorem BP {P:Program} {E:Env} {sg:Nat→c7} (hE:∀f,dK P E.gl f (E.fs f)∧(E.fs f).sg=sg f) {f:Nat} {fn:Func} {d:FD} (hf:P.funcs[f]?=some fn) (hc:Bz P sg fn d=true)
  {S:FS} (hS:S.sg=d.sg) (hG:∀ins outs,S.G ins outs→ins.length=d.np∧d.runs E ins (outs++d.eu.map fun q=>ins.getD q.1 .dead)):dK P E.gl f S:=by
 simp only [Bz,aa] at hc
 obtain ⟨⟨hb,uX⟩,Gd⟩:=hc
 cases u0:fn.body with
 | none=>simp [u0] at Gd
 | some c =>
  simp only [u0] at Gd
  cases hk:eO P sg fn.ntmps d.rt c d.m d.G0 with
  | none=>simp [hk] at Gd
  | some r =>
   obtain ⟨n,ex⟩:=r
   simp only [hk,aa,List.isEmpty_iff] at Gd
   obtain ⟨rfl,hn⟩:=Gd
   refine ⟨fun je=>?_,fun i s je=>?_⟩
   ·have xu:d.ps=none:=by
     rw [hS] at je
     cases h:d.ps with
     | none=>rfl
     | some q=>simp [FD.sg,h] at je
    intro w R ins outs xs hg hR xx ha
    obtain ⟨hlen,cM⟩:=hG ins outs hg
    have p9:d.eu=[]:=by simp [FD.eu,xu]
    rw [p9,aq,aR] at cM
    rw [hS] at ha ⊢
    obtain ⟨D,FR⟩:=Hc (P:=P) (E:=E) xu hb hlen hR xx ha
    have vp:(⟨xs⟩:Array Value).size=xs.length:=rfl
    refine calls_of_wp hf u0 ?_
    rw [vp]
    have Dn:∀i,d.sg.ref=some i→∃b,xs[i]?=some (.pointer (some ⟨b,0,none⟩))∧va d xs=some b:=by
     intro i hi
     simp only [kx,hi] at ha
     obtain ⟨b,cs,x,tv,a1,_⟩:=ha
     exact ⟨b,a1,by simp [va,hi,a1]⟩
    have uZ:∀(G':GL) D' dC a' w',d.rt G'=true→d.An dC outs→cN ⟨P,E,fn.ntmps,w,R,nH d.sg w xs,va d xs,none⟩ D' dC G'.get a' w' →
      a'.defers=[]∧∃v,(results fn a'.tmps).run P w' = .ok v w'∧(fun e w'=>∃x R',e=Ending.returned x∧Ext w R (nH d.sg w xs) w' R'∧(∀b o,R' b o→b<w'.heap.size) ∧
       wH d.sg R' w' (fun b=>nH d.sg w xs b∨w.heap.size≤b) xs outs x) (.returned v) w':=by
     intro G' D' dC a' w' h1 h2 h3
     obtain ⟨x,e1,e2⟩:=Gv p9 h3 hb h1 uX h2 Dn
     exact ⟨h3.defers,x,e1,x,D'.R,rfl,h3.ext,h3.j0,e2⟩
    refine By (C:=⟨P,E,fn.ntmps,w,R,nH d.sg w xs,va d xs,none⟩) hE d.m hk FR cM { nrm:=fun G' D' dC a' w' e hq h'=>?_,sz:=fun i G' D' dC a' w' hi=>(by cases hi),ret:=fun G' D' dC a' w' hr hq h'=>?_ }
    ·simp only at e
     subst e
     exact uZ G' D' dC a' w' (by simpa using hn) hq h'
    ·exact uZ G' D' dC a' w' hr hq h'
   ·obtain ⟨i',k,xu,Bg⟩:∃i' k,d.ps=some (i',k,s)∧i=if k=999998 then 1000+i' else i':=by
     rw [hS] at je
     cases h:d.ps with
     | none=>simp [FD.sg,h] at je
     | some q=>simp [FD.sg,h] at je;obtain ⟨q1,k,q2⟩:=q;simp at je;exact ⟨q1,k,by rw [je.2],je.1.symm⟩
    have Uq:=hb
    simp only [FD.mJ,aa,az,xu] at Uq
    obtain ⟨_,b8,b9,TG,XO,TF⟩:=Uq
    refine ⟨fun eW=>?_,fun yf=>⟨fun SV=>?_,fun SV=>?_⟩⟩
    ·have SS:k=999999:=by
      rcases TF with ⟨e,_⟩ | e
      ·exact e
      ·rw [aG e] at Bg;omega
     subst SS
     rw [aE (by decide)] at Bg
     subst Bg
     intro w R ins outs xs v es hg hR xx a1 a2 a3 a4 a5
     obtain ⟨hlen,cM⟩:=hG ins outs hg
     have SW:ins.getD i .dead = .sl s es:=by simp [List.getD,a2]
     have p9:d.eu=[(i,999999,s)]:=by simp [FD.eu,xu]
     rw [p9,ah,aq,SW] at cM
     obtain ⟨D,FR⟩:=wG (P:=P) (E:=E) xu hb hlen hR xx a1 a2 a3 a4 a5 (fp:=some v) (fun v' e=>by cases e;exact ⟨rfl,rfl⟩)
     have vp:(⟨xs⟩:Array Value).size=xs.length:=rfl
     refine calls_of_wp hf u0 ?_
     rw [vp]
     have uZ:∀(G':GL) D' dC a' w',d.rt G'=true→d.An dC (outs++[.sl s es])→cN ⟨P,E,fn.ntmps,w,R,fun c=>v.ownBlock=some c,none,some v⟩ D' dC G'.get a' w' →
       a'.defers=[]∧∃y,(results fn a'.tmps).run P w' = .ok y w'∧(fun e w'=>∃x R' rvs,e=Ending.returned x∧Ext w R (fun c=>v.ownBlock=some c) w' R'∧(∀b o,R' b o→b<w'.heap.size) ∧
        rvs.length=S.sg.bQ∧x=(if S.sg.bQ=1 then rvs.headD undef else .tuple ⟨rvs⟩)∧fo R' w' outs rvs∧ft R' w' v s∧fQ R' w' v s (.sl s es)) (.returned y) w':=by
      intro G' D' dC a' w' h1 h2 h3
      obtain ⟨rvs,e1,e2,e3,e4,e5⟩:=I4 xu h3 hb h1 uX h2
      have h4:=(h3.fix.2 v rfl).2
      rw [h4] at e4 e5
      rw [hS]
      exact ⟨h3.defers,_,e1,_,D'.R,rvs,rfl,h3.ext,h3.j0,e2,rfl,e3,e4,e5⟩
     refine By (C:=⟨P,E,fn.ntmps,w,R,fun c=>v.ownBlock=some c,none,some v⟩) hE d.m hk FR cM { nrm:=fun G' D' dC a' w' e hq h'=>?_,sz:=fun i G' D' dC a' w' hi=>(by cases hi),ret:=fun G' D' dC a' w' hr hq h'=>?_ }
     ·simp only at e
      subst e
      exact uZ G' D' dC a' w' (by simpa using hn) hq h'
     ·exact uZ G' D' dC a' w' hr hq h'
    ·have SS:k=999998:=by
      rcases TF with ⟨e,_⟩ | e
      ·rw [aE (by omega)] at Bg;omega
      ·exact e
     subst SS
     rw [aG rfl] at Bg
     have ei:i - 1000=i':=by omega
     rw [ei]
     intro w R ins outs xs v es hg hR xx a1 a2 a3 a4 a5
     obtain ⟨hlen,cM⟩:=hG ins outs hg
     have p9:d.eu=[]:=by simp [FD.eu,xu]
     rw [p9,aq,aR] at cM
     obtain ⟨D,FR⟩:=wG (P:=P) (E:=E) xu hb hlen hR xx a1 a2 a3 a4 a5 (fp:=none) (fun v' e=>by cases e)
     have vp:(⟨xs⟩:Array Value).size=xs.length:=rfl
     refine calls_of_wp hf u0 ?_
     rw [vp]
     have uZ:∀(G':GL) D' dC a' w',d.rt G'=true→d.An dC outs→cN ⟨P,E,fn.ntmps,w,R,fun c=>v.ownBlock=some c,none,none⟩ D' dC G'.get a' w' →
       a'.defers=[]∧∃y,(results fn a'.tmps).run P w' = .ok y w'∧(fun e w'=>∃x R',e=Ending.returned x∧Ext w R (fun c=>v.ownBlock=some c) w' R'∧(∀b o,R' b o→b<w'.heap.size) ∧
        wH S.sg R' w' (fun b=>v.ownBlock=some b∨w.heap.size≤b) xs outs x) (.returned y) w':=by
      intro G' D' dC a' w' h1 h2 h3
      obtain ⟨x,e1,e2⟩:=Gv (xs:=xs) p9 h3 hb h1 uX h2 (fun i hi=>by simp [FD.sg,b9] at hi)
      rw [hS]
      exact ⟨h3.defers,x,e1,x,D'.R,rfl,h3.ext,h3.j0,e2⟩
     refine By (C:=⟨P,E,fn.ntmps,w,R,fun c=>v.ownBlock=some c,none,none⟩) hE d.m hk FR cM { nrm:=fun G' D' dC a' w' e hq h'=>?_,sz:=fun i G' D' dC a' w' hi=>(by cases hi),ret:=fun G' D' dC a' w' hr hq h'=>?_ }
     ·simp only at e
      subst e
      exact uZ G' D' dC a' w' (by simpa using hn) hq h'
     ·exact uZ G' D' dC a' w' hr hq h'
    ·exfalso
     split at Bg <;> omega
end Go.Eng
namespace Go.Eng
section
variable {E:Env} {Q:MX→Sg→Prop} {σ:Sg}
theorem kG {m:M} {Q':MX→Sg→Prop} (h:∀e σ,Q e σ→Q' e σ):∀{σ:Sg},pN E m Q σ→pN E m Q' σ:=by
 induction m generalizing Q Q' with
 | skip=>exact fun q=>h _ _ q
 | eY ms=>exact fun ⟨dC,h1,h2⟩=>⟨dC,h1,h _ _ h2⟩
 | seq a b zh tS=>exact fun q=>zh (fun e dC q=>by cases e <;> first | exact q.elim fun Hs q=>⟨Hs,q.1,tS h q.2⟩ | exact h _ _ q) q
 | cond x G a b zh tS=>exact fun q=>q.imp (fun ⟨t,h1,h2,h3⟩=>⟨t,h1,fun e=>zh h (h2 e),fun e=>tS h (h3 e)⟩) fun ⟨h1,h2,h3⟩=>⟨h1,zh h h2,tS h h3⟩
 | block id G b ih=>exact fun q=>ih (fun e dC q=>by
   cases e with
   | exit j =>
    simp only at q ⊢
    by_cases e:j=id
    ·rw [aG e] at q ⊢;exact h _ _ q
    ·rw [aE e] at q ⊢;exact h _ _ q
   | normal=>exact h _ _ q
   | ret=>exact h _ _ q) q
 | loop bM G b ih=>exact fun ⟨ι,jJ,μ,i0,h1,h2⟩=>⟨ι,jJ,μ,i0,h1,fun i=>ih (fun e dC q=>by cases e <;> first | exact q | exact h _ _ q) (h2 i)⟩
 | exit id=>exact fun q=>h _ _ q
 | ret=>exact fun q=>h _ _ q
 | sw k k' b ih=>exact fun q=>ih (fun e dC q=>by cases e <;> exact h _ _ q) q
 | Hx b ih=>exact fun q=>ih h q
 | Hw b ih=>exact fun q=>ih h q
 | Hy l bM G r b QD tS=>exact fun ⟨ι,jJ,μ,h1,h2⟩=>⟨ι,jJ,μ,tS (fun e dC q=>by
   cases e with
   | exit j =>
    simp only at q ⊢
    by_cases e:j=gid l
    ·rw [aG e] at q ⊢;exact q
    ·rw [aE e] at q ⊢;exact h _ _ q
   | normal=>exact h _ _ q
   | ret=>exact h _ _ q) h1,fun i=>QD (fun e dC q=>by
   cases e with
   | exit j =>
    simp only at q ⊢
    by_cases e:j=gid l
    ·rw [aG e] at q ⊢;exact q
    ·rw [aE e] at q ⊢;exact h _ _ q
   | normal=>exact h _ _ q
   | ret=>exact h _ _ q) (h2 i)⟩
end
end Go.Eng
namespace Go.Eng
abbrev bO:=List UInt8
inductive nh where
 | mk (name:bO) (kind:Int) (bits high low:UInt64) (text more:bO) (sub:Int) (bytes:bO) (kids:List nh)
 deriving Inhabited
structure pr where
 kind:Int
 bits:UInt64
 high:UInt64
 low:UInt64
 text:bO
 more:bO
 sub:Int
 bytes:bO
 kids:List nh
 deriving Inhabited
namespace nh
def name:nh→bO | .mk x _ _ _ _ _ _ _ _ _=>x
def kind:nh→Int | .mk _ x _ _ _ _ _ _ _ _=>x
def bits:nh→UInt64 | .mk _ _ x _ _ _ _ _ _ _=>x
def high:nh→UInt64 | .mk _ _ _ x _ _ _ _ _ _=>x
def low:nh→UInt64 | .mk _ _ _ _ x _ _ _ _ _=>x
def text:nh→bO | .mk _ _ _ _ _ x _ _ _ _=>x
def more:nh→bO | .mk _ _ _ _ _ _ x _ _ _=>x
def sub:nh→Int | .mk _ _ _ _ _ _ _ x _ _=>x
def bytes:nh→bO | .mk _ _ _ _ _ _ _ _ x _=>x
def kids:nh→List nh | .mk _ _ _ _ _ _ _ _ _ x=>x
def val (f:nh):pr:=⟨f.kind,f.bits,f.high,f.low,f.text,f.more,f.sub,f.bytes,f.kids⟩
def of (n:bO) (v:pr):nh := .mk n v.kind v.bits v.high v.low v.text v.more v.sub v.bytes v.kids
end nh
inductive Mem where
 | mk (name:bO) (kind:Int) (text:bO) (kids:List Mem)
 deriving Inhabited
structure Q6 where
 kind:Int
 text:bO
 kids:List Mem
 deriving Inhabited
namespace Mem
def name:Mem→bO | .mk x _ _ _=>x
def kind:Mem→Int | .mk _ x _ _=>x
def text:Mem→bO | .mk _ _ x _=>x
def kids:Mem→List Mem | .mk _ _ _ x=>x
def val (f:Mem):Q6:=⟨f.kind,f.text,f.kids⟩
def of (n:bO) (v:Q6):Mem := .mk n v.kind v.text v.kids
end Mem
inductive nQ where
 | mk (kind:Int) (n:UInt64) (bytes text:bO) (kids:List nQ)
 deriving Inhabited
namespace nQ
def kind:nQ→Int | .mk x _ _ _ _=>x
def n:nQ→UInt64 | .mk _ x _ _ _=>x
def bytes:nQ→bO | .mk _ _ x _ _=>x
def text:nQ→bO | .mk _ _ _ x _=>x
def kids:nQ→List nQ | .mk _ _ _ _ x=>x
end nQ
structure MT where
 kind:Int
 n:UInt64
 bytes:bO
 text:bO
 kids:List nQ
 deriving Inhabited
namespace nQ
def val (f:nQ):MT:=⟨f.kind,f.n,f.bytes,f.text,f.kids⟩
def of (v:MT):nQ := .mk v.kind v.n v.bytes v.text v.kids
theorem iR (f:nQ):of (val f)=f:=by cases f;rfl
end nQ
structure Nc where
 at_:Int
 end_:Int
 deriving Inhabited
structure Out where
 at_:Int
 bytes:bO
 Of:List (List Int)
 err:Int
 UM:Int
 path:List Int
 deriving Inhabited
structure U9 where
 b:bO
 at_:Int
 deriving Inhabited
structure UT where
 b:bO
 deriving Inhabited
structure Vd where
 err:Int
 at_:Int
 path:List Int
 deriving Inhabited
structure Vb where
 depth:Int
 size:Int
 out:Int
 deriving Inhabited
abbrev Cx:=Nat × Nat
structure Qd where
 c0:Cx
 c1:Cx
 c2:Cx
 c3:Cx
 deriving Inhabited
def Qd.set (x:Qd) (i:Nat) (y:Cx):Qd:=⟨cond (Nat.beq 0 i) y x.c0,cond (Nat.beq 1 i) y x.c1,cond (Nat.beq 2 i) y x.c2,cond (Nat.beq 3 i) y x.c3⟩
def Qd.get (x:Qd) (i:Nat):Cx:=List.getD [x.c0,x.c1,x.c2,x.c3] i (0,0)
inductive fX where
 | bs | is | ws | ss | Hz | fl | ml | il | sp | ou | us | qd
 deriving DecidableEq,Inhabited
abbrev fX.El:fX→Type
 | .bs=>UInt8
 | .is=>Int
 | .ws=>UInt16
 | .ss=>bO
 | .Hz=>List Int
 | .fl=>nh
 | .ml=>Mem
 | .il=>nQ
 | .sp=>Nc
 | .ou=>Out
 | .us=>UInt64
 | .qd=>Qd
def fX.size:fX→Nat
 | .fl=>10
 | .ml=>4
 | .il=>5
 | .sp=>2
 | .ou=>6
 | .qd=>4
 | _=>1
def fX.GH:(t:fX)→t.El
 | .bs=>0
 | .is=>0
 | .ws=>0
 | .ss=>[]
 | .Hz=>[]
 | .fl => .mk [] 0 0 0 0 [] [] 0 [] []
 | .ml => .mk [] 0 [] []
 | .il => .mk 0 0 [] [] []
 | .sp=>⟨0,0⟩
 | .ou=>⟨0,[],[],0,0,[]⟩
 | .us=>0
 | .qd=>⟨(0,0),(0,0),(0,0),(0,0)⟩
inductive TV where
 | u8 (n:UInt8)
 | u16 (n:UInt16)
 | u32 (n:UInt32)
 | u64 (n:UInt64)
 | i (k:IntKind) (n:Int)
 | b (x:Bool)
 | s (l:bO)
 | sl (t:fX) (l:List t.El)
 | ag (l:List TV)
 | tu (l:List TV)
 | ro (x:TV)
 | gd (c:Bool) (x:TV)
 | c (x:Value)
 | pt
 | dead
 | el (p z q:Nat)
 | gv (zs:List Value)
 deriving Inhabited
def wo (n:Int):AV := .v (.int .i64 n)
def gR (l:bO):AV := .v (.string ⟨⟨l⟩⟩)
def jx (n:UInt64):AV := .v (.int .u64 n.toNat)
def jY (l:bO):AV := .sl 1 (l.map fg)
def xt (l:List Int):AV := .sl 1 (l.map wo)
mutual
def rf:nh→AV
 | .mk n k b h l t m s y ks => .ag [gR n,wo k,jx b,jx h,jx l,gR t,gR m,wo s,jY y,.sl 10 (xG ks)]
def xG:List nh→List AV
 | []=>[]
 | f :: r=>rf f :: xG r
end
mutual
def y0:Mem→AV
 | .mk n k t ks => .ag [gR n,wo k,gR t,.sl 4 (xh ks)]
def xh:List Mem→List AV
 | []=>[]
 | f :: r=>y0 f :: xh r
end
mutual
def oF:nQ→AV
 | .mk k n b t ks => .ag [wo k,jx n,jY b,gR t,.sl 5 (xo ks)]
def xo:List nQ→List AV
 | []=>[]
 | f :: r=>oF f :: xo r
end
theorem nK:∀l:List nh,xG l=l.map rf
 | []=>rfl
 | f :: r=>by rw [xG,nK r];rfl
theorem qj:∀l:List Mem,xh l=l.map y0
 | []=>rfl
 | f :: r=>by rw [xh,qj r];rfl
theorem lN:∀l:List nQ,xo l=l.map oF
 | []=>rfl
 | f :: r=>by rw [xo,lN r];rfl
def fX.av:(t:fX)→t.El→AV
 | .bs,x=>fg x
 | .is,x=>wo x
 | .ws,x => .v (.int .u16 (UInt16.toNat x))
 | .ss,x=>gR x
 | .Hz,x=>xt x
 | .fl,x=>rf x
 | .ml,x=>y0 x
 | .il,x=>oF x
 | .sp,x => .ag [wo (Nc.at_ x),wo (Nc.end_ x)]
 | .us,x=>jx x
 | .qd,x => .ag [.v (.complex .f64 (Qd.c0 x).1 (Qd.c0 x).2),.v (.complex .f64 (Qd.c1 x).1 (Qd.c1 x).2),.v (.complex .f64 (Qd.c2 x).1 (Qd.c2 x).2),.v (.complex .f64 (Qd.c3 x).1 (Qd.c3 x).2)]
 | .ou,x => .ag [wo (Out.at_ x),jY (Out.bytes x),.sl 1 ((Out.Of x).map xt),wo (Out.err x),wo (Out.UM x),xt (Out.path x)]
mutual
def TV.av:TV→AV
 | .u8 n=>fg n
 | .u16 n => .v (.int .u16 n.toNat)
 | .u32 n => .v (.int .u32 n.toNat)
 | .u64 n=>jx n
 | .i k n => .v (.int k n)
 | .b x => .v (.bool x)
 | .s l=>gR l
 | .sl t l => .sl t.size (l.map t.av)
 | .ag l => .ag (TV.BD l)
 | .tu l => .tu (TV.BD l)
 | .ro x => .ro x.av
 | .gd q x=>if q then x.av else .sk
 | .c x => .v x
 | .pt => .pt
 | .dead => .dead
 | .el p z q => .el p z q
 | .gv zs => .gv zs
def TV.BD:List TV→List AV
 | []=>[]
 | x :: r=>x.av :: TV.BD r
end
theorem TV.eZ:∀l:List TV,TV.BD l=l.map TV.av
 | []=>rfl
 | f :: r=>by rw [TV.BD,TV.eZ r];rfl
def pr.cells (v:pr):List TV:=[.i .i64 v.kind,.u64 v.bits,.u64 v.high,.u64 v.low,.s v.text,.s v.more,.i .i64 v.sub,.sl .bs v.bytes,.sl .fl v.kids]
def nh.cells (f:nh):List TV:=[.s f.name,.i .i64 f.kind,.u64 f.bits,.u64 f.high,.u64 f.low,.s f.text,.s f.more,.i .i64 f.sub,.sl .bs f.bytes,.sl .fl f.kids]
def Q6.cells (v:Q6):List TV:=[.i .i64 v.kind,.s v.text,.sl .ml v.kids]
def Mem.cells (f:Mem):List TV:=[.s f.name,.i .i64 f.kind,.s f.text,.sl .ml f.kids]
def nQ.cells (f:nQ):List TV:=[.i .i64 f.kind,.u64 f.n,.sl .bs f.bytes,.s f.text,.sl .il f.kids]
def MT.cells (f:MT):List TV:=[.i .i64 f.kind,.u64 f.n,.sl .bs f.bytes,.s f.text,.sl .il f.kids]
def Nc.cells (f:Nc):List TV:=[.i .i64 f.at_,.i .i64 f.end_]
def Out.cells (f:Out):List TV:=[.i .i64 f.at_,.sl .bs f.bytes,.sl .Hz f.Of,.i .i64 f.err,.i .i64 f.UM,.sl .is f.path]
def U9.cells (f:U9):List TV:=[.sl .bs f.b,.i .i64 f.at_]
def UT.cells (f:UT):List TV:=[.sl .bs f.b]
def Vd.cells (f:Vd):List TV:=[.i .i64 f.err,.i .i64 f.at_,.sl .is f.path]
def Vb.cells (f:Vb):List TV:=[.i .i64 f.depth,.i .i64 f.size,.i .i64 f.out]
def Qd.cells (x:Qd):List TV:=[.c (.complex .f64 x.c0.1 x.c0.2),.c (.complex .f64 x.c1.1 x.c1.2),.c (.complex .f64 x.c2.1 x.c2.2),.c (.complex .f64 x.c3.1 x.c3.2)]
def fX.tv:(t:fX)→t.El→TV
 | .bs,x => .u8 x
 | .is,x => .i .i64 x
 | .ws,x => .u16 x
 | .ss,x => .s x
 | .Hz,x => .sl .is x
 | .fl,x => .ag (nh.cells x)
 | .ml,x => .ag (Mem.cells x)
 | .il,x => .ag (nQ.cells x)
 | .sp,x => .ag (Nc.cells x)
 | .ou,x => .ag (Out.cells x)
 | .us,x => .u64 x
 | .qd,x => .ag (Qd.cells x)
theorem fX.D8 (t:fX) (x:t.El):(t.tv x).av=t.av x:=by
 cases t with
 | fl=>cases x;simp [fX.tv,fX.av,TV.av,TV.BD,nh.cells,nh.name,nh.kind,nh.bits,nh.high,nh.low,nh.text,nh.more,nh.sub,nh.bytes,nh.kids,rf,nK,gR,wo,jx,jY,fX.size]
 | ml=>cases x;simp [fX.tv,fX.av,TV.av,TV.BD,Mem.cells,Mem.name,Mem.kind,Mem.text,Mem.kids,y0,qj,gR,wo,fX.size]
 | il=>cases x;simp [fX.tv,fX.av,TV.av,TV.BD,nQ.cells,nQ.kind,nQ.n,nQ.bytes,nQ.text,nQ.kids,oF,lN,gR,wo,jx,jY,fX.size]
 | Hz=>rfl
 | sp=>rfl
 | ou=>rfl
 | _=>rfl
def fX.el:(t:fX)→TV→Option t.El
 | .bs,.u8 x=>some x
 | .is,.i .i64 x=>some x
 | .ws,.u16 x=>some x
 | .ss,.s x=>some x
 | .Hz,.sl .is x=>some x
 | .fl,.ag [.s n,.i .i64 k,.u64 b,.u64 h,.u64 l,.s t,.s m,.i .i64 s,.sl .bs y,.sl .fl ks]=>some (.mk n k b h l t m s y ks)
 | .ml,.ag [.s n,.i .i64 k,.s t,.sl .ml ks]=>some (.mk n k t ks)
 | .il,.ag [.i .i64 k,.u64 n,.sl .bs b,.s t,.sl .il ks]=>some (.mk k n b t ks)
 | .sp,.ag [.i .i64 a,.i .i64 e]=>some ⟨a,e⟩
 | .us,.u64 x=>some x
 | .qd,.ag [.c (.complex .f64 a b),.c (.complex .f64 c d),.c (.complex .f64 e f),.c (.complex .f64 g h)]=>some ⟨(a,b),(c,d),(e,f),(g,h)⟩
 | .ou,.ag [.i .i64 a,.sl .bs b,.sl .Hz l,.i .i64 e,.i .i64 f,.sl .is p]=>some ⟨a,b,l,e,f,p⟩
 | _,_=>none
theorem fX.Gx {t:fX} {x:TV} {y:t.El} (h:t.el x=some y):t.av y=x.av:=by
 unfold fX.el at h
 split at h <;> cases h <;> first | rfl | (simp [fX.av,TV.av,TV.BD,rf,y0,oF,nK,qj,lN,fX.size,wo,jY,gR,xt,jx])
end Go.Eng
namespace Go.Eng
inductive j5 where
 | ok (ws:List TV)
 | eS (p:Bool) (ws:List TV)
 | err
def ck {R:Type} (p:Bool) (x:Option R):Option R:=cond p x none
theorem db {R:Type} (x:Option R):ck true x=x:=rfl
theorem I9 {R:Type} {p:Bool} {x:Option R} {r:R}:ck p x=some r ↔ p=true∧x=some r:=by cases p <;> simp [ck]
def FN (k:IntKind) (n:Int):TV :=
 match k with
 | .u8 => .u8 (UInt8.ofInt n)
 | .u16 => .u16 (UInt16.ofInt n)
 | .u32 => .u32 (UInt32.ofInt n)
 | .u64 => .u64 (UInt64.ofInt n)
 | k => .i k (k.wrap n)
def TV.int?:TV→Option (IntKind × Int)
 | .u8 n=>some (.u8,n.toNat)
 | .u16 n=>some (.u16,n.toNat)
 | .u32 n=>some (.u32,n.toNat)
 | .u64 n=>some (.u64,n.toNat)
 | .i k n=>some (k,n)
 | _=>none
theorem TV.gP {x:TV} {k:IntKind} {n:Int} (h:x.int?=some (k,n)):x.av = .v (.int k n):=by
 cases x <;> simp [TV.int?] at h <;> obtain ⟨rfl,rfl⟩:=h <;> rfl
theorem nL (n:Int) (m:Nat) (h:0<m):(((n % (m:Int)).toNat % m:Nat):Int)=n % m:=by
 have h1:0≤n % (m:Int):=Int.emod_nonneg _ (by omega)
 have h2:n % (m:Int)<m:=Int.emod_lt_of_pos _ (by omega)
 rw [Nat.mod_eq_of_lt (by omega)];omega
theorem uf (n:Int):((UInt8.ofInt n).toNat:Int)=IntKind.u8.wrap n:=by
 have:IntKind.u8.wrap n=n % (256:Nat):=by simp [IntKind.wrap,IntKind.bits,IntKind.signed]
 rw [this,UInt8.ofInt,UInt8.toNat_ofNat'];exact nL n 256 (by decide)
theorem rO (n:Int):((UInt16.ofInt n).toNat:Int)=IntKind.u16.wrap n:=by
 have:IntKind.u16.wrap n=n % (65536:Nat):=by simp [IntKind.wrap,IntKind.bits,IntKind.signed]
 rw [this,UInt16.ofInt,UInt16.toNat_ofNat'];exact nL n 65536 (by decide)
theorem vO (n:Int):((UInt32.ofInt n).toNat:Int)=IntKind.u32.wrap n:=by
 have:IntKind.u32.wrap n=n % (4294967296:Nat):=by simp [IntKind.wrap,IntKind.bits,IntKind.signed]
 rw [this,UInt32.ofInt,UInt32.toNat_ofNat'];exact nL n 4294967296 (by decide)
theorem rN (n:Int):((UInt64.ofInt n).toNat:Int)=IntKind.u64.wrap n:=by
 have:IntKind.u64.wrap n=n % (18446744073709551616:Nat):=by simp [IntKind.wrap,IntKind.bits,IntKind.signed]
 rw [this,UInt64.ofInt,UInt64.toNat_ofNat'];exact nL n 18446744073709551616 (by decide)
theorem FM (k:IntKind) (n:Int):(FN k n).av = .v (.int k (k.wrap n)):=by
 cases k <;> simp only [FN,TV.av,fg,jx,AV.v.injEq,Value.int.injEq,true_and]
 ·exact uf n
 ·exact rO n
 ·exact vO n
 ·exact rN n
def MI (o:BinOp) (a b:UInt8):j5 :=
 match o with
 | .add => .ok [.u8 (a+b)]
 | .sub => .ok [.u8 (a - b)]
 | .mul => .ok [.u8 (a * b)]
 | .quo => .eS (!decide (b=0)) [.u8 (a / b)]
 | .rem => .eS (!decide (b=0)) [.u8 (a % b)]
 | .and => .ok [.u8 (a &&& b)]
 | .or => .ok [.u8 (a ||| b)]
 | .xor => .ok [.u8 (a ^^^ b)]
 | .andNot => .ok [.u8 (a &&& ~~~b)]
 | .eql => .ok [.b (decide (a=b))]
 | .neq => .ok [.b (!decide (a=b))]
 | .lss => .ok [.b (decide (a<b))]
 | .leq => .ok [.b (decide (a≤b))]
 | .gtr => .ok [.b (decide (b<a))]
 | .geq => .ok [.b (decide (b≤a))]
 | _ => .err
def KS (a:UInt8) (n:Nat):UInt8:=UInt8.ofNat (a.toNat * 2 ^ n)
def KQ (a:UInt8) (n:Nat):UInt8:=UInt8.ofNat (a.toNat / 2 ^ n)
theorem wrap_u8' (n:Int):IntKind.u8.wrap n=n % 256:=by simp [IntKind.wrap,IntKind.bits,IntKind.signed]
theorem ofInt_u8 (a:UInt8):BitVec.ofInt 8 (a.toNat:Int)=a.toBitVec:=by
 apply BitVec.eq_of_toNat_eq
 rw [BitVec.toNat_ofInt]
 have:=a.toNat_lt
 simp only [UInt8.toNat] at this ⊢
 omega
def Ha (o:BinOp) (a b:UInt16):j5 :=
 match o with
 | .add => .ok [.u16 (a+b)]
 | .sub => .ok [.u16 (a - b)]
 | .mul => .ok [.u16 (a * b)]
 | .quo => .eS (!decide (b=0)) [.u16 (a / b)]
 | .rem => .eS (!decide (b=0)) [.u16 (a % b)]
 | .and => .ok [.u16 (a &&& b)]
 | .or => .ok [.u16 (a ||| b)]
 | .xor => .ok [.u16 (a ^^^ b)]
 | .andNot => .ok [.u16 (a &&& ~~~b)]
 | .eql => .ok [.b (decide (a=b))]
 | .neq => .ok [.b (!decide (a=b))]
 | .lss => .ok [.b (decide (a<b))]
 | .leq => .ok [.b (decide (a≤b))]
 | .gtr => .ok [.b (decide (b<a))]
 | .geq => .ok [.b (decide (b≤a))]
 | _ => .err
def Eu (a:UInt16) (n:Nat):UInt16:=UInt16.ofNat (a.toNat * 2 ^ n)
def qB (a:UInt16) (n:Nat):UInt16:=UInt16.ofNat (a.toNat / 2 ^ n)
theorem iV (n:Int):IntKind.u16.wrap n=n % 65536:=by simp [IntKind.wrap,IntKind.bits,IntKind.signed]
theorem ofInt_u16 (a:UInt16):BitVec.ofInt 16 (a.toNat:Int)=a.toBitVec:=by
 apply BitVec.eq_of_toNat_eq
 rw [BitVec.toNat_ofInt]
 have:=a.toNat_lt
 simp only [UInt16.toNat] at this ⊢
 omega
def G8 (o:BinOp) (a b:UInt32):j5 :=
 match o with
 | .add => .ok [.u32 (a+b)]
 | .sub => .ok [.u32 (a - b)]
 | .mul => .ok [.u32 (a * b)]
 | .quo => .eS (!decide (b=0)) [.u32 (a / b)]
 | .rem => .eS (!decide (b=0)) [.u32 (a % b)]
 | .and => .ok [.u32 (a &&& b)]
 | .or => .ok [.u32 (a ||| b)]
 | .xor => .ok [.u32 (a ^^^ b)]
 | .andNot => .ok [.u32 (a &&& ~~~b)]
 | .eql => .ok [.b (decide (a=b))]
 | .neq => .ok [.b (!decide (a=b))]
 | .lss => .ok [.b (decide (a<b))]
 | .leq => .ok [.b (decide (a≤b))]
 | .gtr => .ok [.b (decide (b<a))]
 | .geq => .ok [.b (decide (b≤a))]
 | _ => .err
def qC (a:UInt32) (n:Nat):UInt32:=UInt32.ofNat (a.toNat * 2 ^ n)
def uu (a:UInt32) (n:Nat):UInt32:=UInt32.ofNat (a.toNat / 2 ^ n)
theorem wrap_u32' (n:Int):IntKind.u32.wrap n=n % 4294967296:=by simp [IntKind.wrap,IntKind.bits,IntKind.signed]
theorem ofInt_u32 (a:UInt32):BitVec.ofInt 32 (a.toNat:Int)=a.toBitVec:=by
 apply BitVec.eq_of_toNat_eq
 rw [BitVec.toNat_ofInt]
 have:=a.toNat_lt
 simp only [UInt32.toNat] at this ⊢
 omega
def G6 (o:BinOp) (a b:UInt64):j5 :=
 match o with
 | .add => .ok [.u64 (a+b)]
 | .sub => .ok [.u64 (a - b)]
 | .mul => .ok [.u64 (a * b)]
 | .quo => .eS (!decide (b=0)) [.u64 (a / b)]
 | .rem => .eS (!decide (b=0)) [.u64 (a % b)]
 | .and => .ok [.u64 (a &&& b)]
 | .or => .ok [.u64 (a ||| b)]
 | .xor => .ok [.u64 (a ^^^ b)]
 | .andNot => .ok [.u64 (a &&& ~~~b)]
 | .eql => .ok [.b (decide (a=b))]
 | .neq => .ok [.b (!decide (a=b))]
 | .lss => .ok [.b (decide (a<b))]
 | .leq => .ok [.b (decide (a≤b))]
 | .gtr => .ok [.b (decide (b<a))]
 | .geq => .ok [.b (decide (b≤a))]
 | _ => .err
def kV (a:UInt64) (n:Nat):UInt64:=UInt64.ofNat (a.toNat * 2 ^ n)
def iN (a:UInt64) (n:Nat):UInt64:=UInt64.ofNat (a.toNat / 2 ^ n)
theorem jw (n:Int):IntKind.u64.wrap n=n % 18446744073709551616:=by simp [IntKind.wrap,IntKind.bits,IntKind.signed]
theorem ofInt_u64 (a:UInt64):BitVec.ofInt 64 (a.toNat:Int)=a.toBitVec:=by
 apply BitVec.eq_of_toNat_eq
 rw [BitVec.toNat_ofInt]
 have:=a.toNat_lt
 simp only [UInt64.toNat] at this ⊢
 omega
def j5.holds:j5→List TV→Prop
 | .ok ws,r=>r=ws
 | .eS p ws,r=>p=true∧r=ws
 | .err,_=>False
theorem Jf {o : BinOp} {a b : UInt8} {ws : List TV} (h : (MI o a b).holds ws) : ∃ x : TV, ws = [x] ∧ ∃ v, x.av = .v v ∧ j8 o (.int .u8 a.toNat) (.int .u8 b.toNat) = some v := by
  have ha := a.toNat_lt
  have hb := b.toNat_lt
  cases o <;> simp only [MI, j5.holds] at h <;> first | exact h.elim | skip
  all_goals first
    | (obtain ⟨hp, rfl⟩ := h; refine ⟨_, rfl, _, rfl, ?_⟩; simp only [Bool.not_eq_true', decide_eq_false_iff_not] at hp
       have vH : (b.toNat : Int) ≠ 0 := fun e => hp (UInt8.toNat_inj.1 (by simpa using e))
       simp only [j8, if_true, vH, if_false, aB, Value.int.injEq, true_and, UInt8.toNat_div, UInt8.toNat_mod, wrap_u8', Int.tdiv_eq_ediv_of_nonneg (Int.natCast_nonneg a.toNat), Int.tmod_eq_emod_of_nonneg (Int.natCast_nonneg a.toNat)]
       first | (rw [← Int.natCast_ediv]; have := Nat.div_le_self a.toNat b.toNat; generalize a.toNat / b.toNat = q at this ⊢; omega) | omega)
    | (subst h; refine ⟨_, rfl, _, rfl, ?_⟩
       simp only [j8, if_true, aB, Value.int.injEq, Value.bool.injEq, true_and, wrap_u8', dP, IntKind.bits, ofInt_u8, UInt8.toNat_add, UInt8.toNat_sub, UInt8.toNat_mul]
       first | omega | (rw [aX (by omega) (by have := (a &&& b).toNat_lt; simp only [UInt8.toNat] at this ⊢; simp only [UInt8.toBitVec_and] at this; omega)]; rfl)
             | (rw [aX (by omega) (by have := (a ||| b).toNat_lt; simp only [UInt8.toNat] at this ⊢; simp only [UInt8.toBitVec_or] at this; omega)]; rfl)
             | (rw [aX (by omega) (by have := (a ^^^ b).toNat_lt; simp only [UInt8.toNat] at this ⊢; simp only [UInt8.toBitVec_xor] at this; omega)]; rfl)
             | (rw [aX (by omega) (by have := (a &&& ~~~b).toNat_lt; simp only [UInt8.toNat] at this ⊢; simp only [UInt8.toBitVec_and, UInt8.toBitVec_not] at this; omega)]; rfl)
             | (rw [bp]; simp [UInt8.lt_iff_toNat_lt, UInt8.le_iff_toNat_le, ← UInt8.toNat_inj]; omega)
             | (rw [bp]; simp [UInt8.lt_iff_toNat_lt, UInt8.le_iff_toNat_le, ← UInt8.toNat_inj]))
theorem G9 {o : BinOp} {a b : UInt16} {ws : List TV} (h : (Ha o a b).holds ws) : ∃ x : TV, ws = [x] ∧ ∃ v, x.av = .v v ∧ j8 o (.int .u16 a.toNat) (.int .u16 b.toNat) = some v := by
  have ha := a.toNat_lt
  have hb := b.toNat_lt
  cases o <;> simp only [Ha, j5.holds] at h <;> first | exact h.elim | skip
  all_goals first
    | (obtain ⟨hp, rfl⟩ := h; refine ⟨_, rfl, _, rfl, ?_⟩; simp only [Bool.not_eq_true', decide_eq_false_iff_not] at hp
       have vH : (b.toNat : Int) ≠ 0 := fun e => hp (UInt16.toNat_inj.1 (by simpa using e))
       simp only [j8, if_true, vH, if_false, aB, Value.int.injEq, true_and, UInt16.toNat_div, UInt16.toNat_mod, iV, Int.tdiv_eq_ediv_of_nonneg (Int.natCast_nonneg a.toNat), Int.tmod_eq_emod_of_nonneg (Int.natCast_nonneg a.toNat)]
       first | (rw [← Int.natCast_ediv]; have := Nat.div_le_self a.toNat b.toNat; generalize a.toNat / b.toNat = q at this ⊢; omega) | omega)
    | (subst h; refine ⟨_, rfl, _, rfl, ?_⟩
       simp only [j8, if_true, aB, Value.int.injEq, Value.bool.injEq, true_and, iV, dP, IntKind.bits, ofInt_u16, UInt16.toNat_add, UInt16.toNat_sub, UInt16.toNat_mul]
       first | omega | (rw [aX (by omega) (by have := (a &&& b).toNat_lt; simp only [UInt16.toNat] at this ⊢; simp only [UInt16.toBitVec_and] at this; omega)]; rfl)
             | (rw [aX (by omega) (by have := (a ||| b).toNat_lt; simp only [UInt16.toNat] at this ⊢; simp only [UInt16.toBitVec_or] at this; omega)]; rfl)
             | (rw [aX (by omega) (by have := (a ^^^ b).toNat_lt; simp only [UInt16.toNat] at this ⊢; simp only [UInt16.toBitVec_xor] at this; omega)]; rfl)
             | (rw [aX (by omega) (by have := (a &&& ~~~b).toNat_lt; simp only [UInt16.toNat] at this ⊢; simp only [UInt16.toBitVec_and, UInt16.toBitVec_not] at this; omega)]; rfl)
             | (rw [bp]; simp [UInt16.lt_iff_toNat_lt, UInt16.le_iff_toNat_le, ← UInt16.toNat_inj]; omega)
             | (rw [bp]; simp [UInt16.lt_iff_toNat_lt, UInt16.le_iff_toNat_le, ← UInt16.toNat_inj]))
theorem G7 {o : BinOp} {a b : UInt32} {ws : List TV} (h : (G8 o a b).holds ws) : ∃ x : TV, ws = [x] ∧ ∃ v, x.av = .v v ∧ j8 o (.int .u32 a.toNat) (.int .u32 b.toNat) = some v := by
  have ha := a.toNat_lt
  have hb := b.toNat_lt
  cases o <;> simp only [G8, j5.holds] at h <;> first | exact h.elim | skip
  all_goals first
    | (obtain ⟨hp, rfl⟩ := h; refine ⟨_, rfl, _, rfl, ?_⟩; simp only [Bool.not_eq_true', decide_eq_false_iff_not] at hp
       have vH : (b.toNat : Int) ≠ 0 := fun e => hp (UInt32.toNat_inj.1 (by simpa using e))
       simp only [j8, if_true, vH, if_false, aB, Value.int.injEq, true_and, UInt32.toNat_div, UInt32.toNat_mod, wrap_u32', Int.tdiv_eq_ediv_of_nonneg (Int.natCast_nonneg a.toNat), Int.tmod_eq_emod_of_nonneg (Int.natCast_nonneg a.toNat)]
       first | (rw [← Int.natCast_ediv]; have := Nat.div_le_self a.toNat b.toNat; generalize a.toNat / b.toNat = q at this ⊢; omega) | omega)
    | (subst h; refine ⟨_, rfl, _, rfl, ?_⟩
       simp only [j8, if_true, aB, Value.int.injEq, Value.bool.injEq, true_and, wrap_u32', dP, IntKind.bits, ofInt_u32, UInt32.toNat_add, UInt32.toNat_sub, UInt32.toNat_mul]
       first | omega | (rw [aX (by omega) (by have := (a &&& b).toNat_lt; simp only [UInt32.toNat] at this ⊢; simp only [UInt32.toBitVec_and] at this; omega)]; rfl)
             | (rw [aX (by omega) (by have := (a ||| b).toNat_lt; simp only [UInt32.toNat] at this ⊢; simp only [UInt32.toBitVec_or] at this; omega)]; rfl)
             | (rw [aX (by omega) (by have := (a ^^^ b).toNat_lt; simp only [UInt32.toNat] at this ⊢; simp only [UInt32.toBitVec_xor] at this; omega)]; rfl)
             | (rw [aX (by omega) (by have := (a &&& ~~~b).toNat_lt; simp only [UInt32.toNat] at this ⊢; simp only [UInt32.toBitVec_and, UInt32.toBitVec_not] at this; omega)]; rfl)
             | (rw [bp]; simp [UInt32.lt_iff_toNat_lt, UInt32.le_iff_toNat_le, ← UInt32.toNat_inj]; omega)
             | (rw [bp]; simp [UInt32.lt_iff_toNat_lt, UInt32.le_iff_toNat_le, ← UInt32.toNat_inj]))
theorem G5 {o : BinOp} {a b : UInt64} {ws : List TV} (h : (G6 o a b).holds ws) : ∃ x : TV, ws = [x] ∧ ∃ v, x.av = .v v ∧ j8 o (.int .u64 a.toNat) (.int .u64 b.toNat) = some v := by
  have ha := a.toNat_lt
  have hb := b.toNat_lt
  cases o <;> simp only [G6, j5.holds] at h <;> first | exact h.elim | skip
  all_goals first
    | (obtain ⟨hp, rfl⟩ := h; refine ⟨_, rfl, _, rfl, ?_⟩; simp only [Bool.not_eq_true', decide_eq_false_iff_not] at hp
       have vH : (b.toNat : Int) ≠ 0 := fun e => hp (bt.1 (by simpa using e))
       simp only [j8, if_true, vH, if_false, aB, Value.int.injEq, true_and, UInt64.toNat_div, UInt64.toNat_mod, jw, Int.tdiv_eq_ediv_of_nonneg (Int.natCast_nonneg a.toNat), Int.tmod_eq_emod_of_nonneg (Int.natCast_nonneg a.toNat)]
       first | (rw [← Int.natCast_ediv]; have := Nat.div_le_self a.toNat b.toNat; generalize a.toNat / b.toNat = q at this ⊢; omega) | omega)
    | (subst h; refine ⟨_, rfl, _, rfl, ?_⟩
       simp only [j8, if_true, aB, Value.int.injEq, Value.bool.injEq, true_and, jw, dP, IntKind.bits, ofInt_u64, UInt64.toNat_add, UInt64.toNat_sub, UInt64.toNat_mul]
       first | omega | (rw [aX (by omega) (by have := (a &&& b).toNat_lt; simp only [UInt64.toNat] at this ⊢; simp only [UInt64.toBitVec_and] at this; omega)]; rfl)
             | (rw [aX (by omega) (by have := (a ||| b).toNat_lt; simp only [UInt64.toNat] at this ⊢; simp only [UInt64.toBitVec_or] at this; omega)]; rfl)
             | (rw [aX (by omega) (by have := (a ^^^ b).toNat_lt; simp only [UInt64.toNat] at this ⊢; simp only [UInt64.toBitVec_xor] at this; omega)]; rfl)
             | (rw [aX (by omega) (by have := (a &&& ~~~b).toNat_lt; simp only [UInt64.toNat] at this ⊢; simp only [UInt64.toBitVec_and, UInt64.toBitVec_not] at this; omega)]; rfl)
             | (rw [bp]; simp [bh, bo, ← bt]; omega)
             | (rw [bp]; simp [bh, bo, ← bt]))
end Go.Eng
namespace Go.Eng
def MH (o:BinOp) (k:IntKind) (a b:Int):j5 :=
 match o with
 | .add => .ok [.i k (k.wrap (a+b))]
 | .sub => .ok [.i k (k.wrap (a - b))]
 | .mul => .ok [.i k (k.wrap (a * b))]
 | .quo => .eS (!decide (b=0)) [.i k (k.wrap (a.tdiv b))]
 | .rem => .eS (!decide (b=0)) [.i k (a.tmod b)]
 | .and => .ok [.i k (dP .and k a b)]
 | .or => .ok [.i k (dP .or k a b)]
 | .xor => .ok [.i k (dP .xor k a b)]
 | .andNot => .ok [.i k (dP .andNot k a b)]
 | .eql => .ok [.b (decide (a=b))]
 | .neq => .ok [.b (!decide (a=b))]
 | .lss => .ok [.b (decide (a<b))]
 | .leq => .ok [.b (decide (a≤b))]
 | .gtr => .ok [.b (decide (b<a))]
 | .geq => .ok [.b (decide (b≤a))]
 | _ => .err
def MG (o:BinOp) (a b:bO):j5 :=
 match o with
 | .add => .eS (decide (a.length+b.length≤9223372036854775807)) [.s (a++b)]
 | .eql => .ok [.b (decide (a=b))]
 | .neq => .ok [.b (!decide (a=b))]
 | .lss => .ok [.b (Op.bytesLess a b)]
 | .leq => .ok [.b (Op.bytesLess a b || decide (a=b))]
 | .gtr => .ok [.b (!(Op.bytesLess a b || decide (a=b)))]
 | .geq => .ok [.b (!Op.bytesLess a b)]
 | _ => .err
def TV.count:TV→Option (Option Bool × Nat)
 | .u8 n=>some (none,n.toNat)
 | .u16 n=>some (none,n.toNat)
 | .u32 n=>some (none,n.toNat)
 | .u64 n=>some (none,n.toNat)
 | .i _ n=>some (some (decide (0≤n)),n.toNat)
 | _=>none
def j5.under (p:Option Bool) (ws:List TV):j5 :=
 match p with
 | none => .ok ws
 | some p => .eS p ws
def KR (x y:TV):j5 :=
 match y.count with
 | some (p,n)=>match x with
  | .u8 a => .under p [.u8 (KS a n)]
  | .u16 a => .under p [.u16 (Eu a n)]
  | .u32 a => .under p [.u32 (qC a n)]
  | .u64 a => .under p [.u64 (kV a n)]
  | .i k a => .under p [.i k (k.wrap (a * 2 ^ (min n k.bits)))]
  | _ => .err
 | none => .err
def KP (x y:TV):j5 :=
 match y.count with
 | some (p,n)=>match x with
  | .u8 a => .under p [.u8 (KQ a n)]
  | .u16 a => .under p [.u16 (qB a n)]
  | .u32 a => .under p [.u32 (uu a n)]
  | .u64 a => .under p [.u64 (iN a n)]
  | .i k a => .under p [.i k (a.fdiv (2 ^ (min n k.bits)))]
  | _ => .err
 | none => .err
def tQ:BinOp→Option Bool
 | .shl=>some true
 | .shr=>some false
 | _=>none
def Ms (o:BinOp) (x y:Value):j5 :=
 match o,x,y with
 | .add,.float .f64 a,.float .f64 b => .eS (Fl.kZ a b) [.c (.float .f64 (Fl.add a b))]
 | .sub,.float .f64 a,.float .f64 b => .eS (Fl.sO a b) [.c (.float .f64 (Fl.sub a b))]
 | .mul,.float .f64 a,.float .f64 b => .eS (Fl.oy a b) [.c (.float .f64 (Fl.mul a b))]
 | .eql,.float .f64 a,.float .f64 b => .ok [.b (Fl.eq a b)]
 | .neq,.float .f64 a,.float .f64 b => .ok [.b (!Fl.eq a b)]
 | .lss,.float .f64 a,.float .f64 b => .ok [.b (Fl.lt a b)]
 | .leq,.float .f64 a,.float .f64 b => .ok [.b (Fl.lt a b || Fl.eq a b)]
 | .gtr,.float .f64 a,.float .f64 b => .ok [.b (Fl.gt a b)]
 | .geq,.float .f64 a,.float .f64 b => .ok [.b (Fl.gt a b || Fl.eq a b)]
 | .add,.complex .f64 a b,.complex .f64 c d => .eS (Fl.kZ a c&&Fl.kZ b d) [.c (.complex .f64 (Fl.add a c) (Fl.add b d))]
 | .mul,.complex .f64 a b,.complex .f64 c d => .eS (Fl.ph a b c d) [.c (.complex .f64 (Fl.sF a b c d) (Fl.sG a b c d))]
 | _,_,_ => .err
def MF (o:BinOp) (x y:TV):j5 :=
 match tQ o with
 | some true=>KR x y
 | some false=>KP x y
 | none=>match x,y with
  | .u8 a,.u8 b=>MI o a b
  | .u16 a,.u16 b=>Ha o a b
  | .u32 a,.u32 b=>G8 o a b
  | .u64 a,.u64 b=>G6 o a b
  | .i k a,.i k' b=>if k=k' then MH o k a b else .err
  | .s a,.s b=>MG o a b
  | .c a,.c b=>Ms o a b
  | _,_ => .err
def Ra (o:UnOp) (x:TV):j5 :=
 match o,x with
 | .neg,.u8 a => .ok [.u8 (0 - a)]
 | .neg,.u16 a => .ok [.u16 (0 - a)]
 | .neg,.u32 a => .ok [.u32 (0 - a)]
 | .neg,.u64 a => .ok [.u64 (0 - a)]
 | .neg,.i k a => .ok [.i k (k.wrap (0 - a))]
 | .xor,.u8 a => .ok [.u8 (~~~a)]
 | .xor,.u16 a => .ok [.u16 (~~~a)]
 | .xor,.u32 a => .ok [.u32 (~~~a)]
 | .xor,.u64 a => .ok [.u64 (~~~a)]
 | .xor,.i k a => .ok [.i k (dP .xor k (if k.signed then -1 else k.max) a)]
 | .not,.b a => .ok [.b !a]
 | .neg,.c (.float .f64 a) => .ok [.c (.float .f64 (Fl.neg a))]
 | _,_ => .err
theorem tL {a n b m:Nat} (hm:m=2 ^ b):(a * 2 ^ (min n b)) % m=(a * 2 ^ n) % m:=by
 subst hm
 by_cases h:n≤b
 ·rw [Nat.min_eq_left h]
 ·rw [Nat.min_eq_right (by omega),show n=b+(n - b) by omega,Nat.pow_add,←Nat.mul_assoc,Nat.mul_mod_left,Nat.mul_right_comm,Nat.mul_mod_left]
theorem tJ {a n b m:Nat} (hm:m=2 ^ b) (ha:a<m):a / 2 ^ (min n b)=(a / 2 ^ n) % m:=by
 subst hm
 rw [Nat.mod_eq_of_lt (Nat.lt_of_le_of_lt (Nat.div_le_self _ _) ha)]
 by_cases h:n≤b
 ·rw [Nat.min_eq_left h]
 ·rw [Nat.min_eq_right (by omega),Nat.div_eq_of_lt ha,Nat.div_eq_of_lt (Nat.lt_of_lt_of_le ha (Nat.pow_le_pow_right (by omega) (by omega)))]
theorem lv (l:bO):ByteArray.toList ⟨⟨l⟩⟩=l:=by rw [ByteArray.toList_eq]
def j5.zG (r:j5) (P:AV→Prop):Prop:=∀ws,r.holds ws→∃x:TV,ws=[x]∧P x.av
def Hr (o:BinOp) (x y:TV) (z:AV):Prop:=∃a b v,x.av = .v a∧y.av = .v b∧j8 o a b=some v∧z = .v v
theorem sL {p:Option Bool} {ws r:List TV} (h:(j5.under p ws).holds r):r=ws∧∀b,p=some b→b=true:=by
 cases p with
 | none=>exact ⟨h,fun _ e=>by cases e⟩
 | some p=>exact ⟨h.2,fun _ e=>by cases e;exact h.1⟩
theorem z7 {y:TV} {p:Option Bool} {n:Nat} (h:y.count=some (p,n)) (hp:∀b,p=some b→b=true):∃k m,y.av = .v (.int k m)∧0≤m∧m.toNat=n:=by
 cases y <;> simp [TV.count] at h <;> obtain ⟨rfl,rfl⟩:=h
 ·exact ⟨_,_,rfl,by omega,by omega⟩
 ·exact ⟨_,_,rfl,by omega,by omega⟩
 ·exact ⟨_,_,rfl,by omega,by omega⟩
 ·exact ⟨_,_,rfl,by omega,by omega⟩
 ·rename_i k m
  have:=hp _ rfl
  exact ⟨_,_,rfl,by simpa using this,rfl⟩
theorem HX (a:UInt8) (n:Nat):IntKind.u8.wrap ((a.toNat:Int) * 2 ^ (min n 8))=((KS a n).toNat:Int):=by
 rw [wrap_u8',KS,UInt8.toNat_ofNat',show ((a.toNat:Int) * 2 ^ (min n 8))=((a.toNat * 2 ^ (min n 8):Nat):Int) by simp]
 have:=tL (a:=a.toNat) (n:=n) (b:=8) (m:=256) (by decide)
 rw [show (2 ^ 8:Nat)=256 by decide]
 omega
theorem HV (a:UInt8) (n:Nat):IntKind.u8.wrap ((a.toNat:Int).fdiv (2 ^ (min n 8)))=((KQ a n).toNat:Int):=by
 rw [wrap_u8',KQ,UInt8.toNat_ofNat',Int.fdiv_eq_ediv_of_nonneg _ (Int.le_of_lt (Int.pow_pos (by decide))),show ((a.toNat:Int) / 2 ^ (min n 8))=((a.toNat / 2 ^ (min n 8):Nat):Int) by simp]
 have:=tJ (a:=a.toNat) (n:=n) (b:=8) (m:=256) (by decide) (by have:=a.toNat_lt;simpa using this)
 rw [show (2 ^ 8:Nat)=256 by decide]
 omega
theorem Et (a:UInt16) (n:Nat):IntKind.u16.wrap ((a.toNat:Int) * 2 ^ (min n 16))=((Eu a n).toNat:Int):=by
 rw [iV,Eu,UInt16.toNat_ofNat',show ((a.toNat:Int) * 2 ^ (min n 16))=((a.toNat * 2 ^ (min n 16):Nat):Int) by simp]
 have:=tL (a:=a.toNat) (n:=n) (b:=16) (m:=65536) (by decide)
 rw [show (2 ^ 16:Nat)=65536 by decide]
 omega
theorem Ep (a:UInt16) (n:Nat):IntKind.u16.wrap ((a.toNat:Int).fdiv (2 ^ (min n 16)))=((qB a n).toNat:Int):=by
 rw [iV,qB,UInt16.toNat_ofNat',Int.fdiv_eq_ediv_of_nonneg _ (Int.le_of_lt (Int.pow_pos (by decide))),show ((a.toNat:Int) / 2 ^ (min n 16))=((a.toNat / 2 ^ (min n 16):Nat):Int) by simp]
 have:=tJ (a:=a.toNat) (n:=n) (b:=16) (m:=65536) (by decide) (by have:=a.toNat_lt;simpa using this)
 rw [show (2 ^ 16:Nat)=65536 by decide]
 omega
theorem Es (a:UInt32) (n:Nat):IntKind.u32.wrap ((a.toNat:Int) * 2 ^ (min n 32))=((qC a n).toNat:Int):=by
 rw [wrap_u32',qC,UInt32.toNat_ofNat',show ((a.toNat:Int) * 2 ^ (min n 32))=((a.toNat * 2 ^ (min n 32):Nat):Int) by simp]
 have:=tL (a:=a.toNat) (n:=n) (b:=32) (m:=4294967296) (by decide)
 rw [show (2 ^ 32:Nat)=4294967296 by decide]
 omega
theorem Eo (a:UInt32) (n:Nat):IntKind.u32.wrap ((a.toNat:Int).fdiv (2 ^ (min n 32)))=((uu a n).toNat:Int):=by
 rw [wrap_u32',uu,UInt32.toNat_ofNat',Int.fdiv_eq_ediv_of_nonneg _ (Int.le_of_lt (Int.pow_pos (by decide))),show ((a.toNat:Int) / 2 ^ (min n 32))=((a.toNat / 2 ^ (min n 32):Nat):Int) by simp]
 have:=tJ (a:=a.toNat) (n:=n) (b:=32) (m:=4294967296) (by decide) (by have:=a.toNat_lt;simpa using this)
 rw [show (2 ^ 32:Nat)=4294967296 by decide]
 omega
theorem Er (a:UInt64) (n:Nat):IntKind.u64.wrap ((a.toNat:Int) * 2 ^ (min n 64))=((kV a n).toNat:Int):=by
 rw [jw,kV,UInt64.toNat_ofNat',show ((a.toNat:Int) * 2 ^ (min n 64))=((a.toNat * 2 ^ (min n 64):Nat):Int) by simp]
 have:=tL (a:=a.toNat) (n:=n) (b:=64) (m:=18446744073709551616) (by decide)
 rw [show (2 ^ 64:Nat)=18446744073709551616 by decide]
 omega
theorem En (a:UInt64) (n:Nat):IntKind.u64.wrap ((a.toNat:Int).fdiv (2 ^ (min n 64)))=((iN a n).toNat:Int):=by
 rw [jw,iN,UInt64.toNat_ofNat',Int.fdiv_eq_ediv_of_nonneg _ (Int.le_of_lt (Int.pow_pos (by decide))),show ((a.toNat:Int) / 2 ^ (min n 64))=((a.toNat / 2 ^ (min n 64):Nat):Int) by simp]
 have:=tJ (a:=a.toNat) (n:=n) (b:=64) (m:=18446744073709551616) (by decide) (by have:=a.toNat_lt;simpa using this)
 rw [show (2 ^ 64:Nat)=18446744073709551616 by decide]
 omega
theorem tK {w:Nat} {m:Int} (a:Nat) (k:Nat) (h:(a:Int)<m):0≤(a:Int).fdiv (2 ^ k)∧(a:Int).fdiv (2 ^ k)<m:=by
 rw [Int.fdiv_eq_ediv_of_nonneg _ (Int.le_of_lt (Int.pow_pos (by decide)))]
 refine ⟨Int.ediv_nonneg (by omega) (Int.le_of_lt (Int.pow_pos (by decide))),?_⟩
 rw [show ((a:Int) / 2 ^ k)=((a / 2 ^ k:Nat):Int) by simp]
 have:=Nat.div_le_self a (2 ^ k)
 omega
theorem HW (x y:TV):(KR x y).zG (Hr .shl x y):=by
 intro ws h
 unfold KR at h
 split at h
 ·rename_i p n hc
  have key:∀{r:TV} {u:IntKind} {a:Int},(j5.under p [r]).holds ws→x.av = .v (.int u a)→r.av = .v (.int u (u.wrap (a * 2 ^ (min n u.bits))))→∃z:TV,ws=[z]∧Hr .shl x y z.av:=by
   intro r u a h hx hr
   obtain ⟨rfl,hp⟩:=sL h
   obtain ⟨k,m,h1,h2,rfl⟩:=z7 hc hp
   refine ⟨_,rfl,_,_,_,hx,h1,?_,hr⟩
   simp only [j8,Int.not_lt.2 h2,if_false]
  split at h
  ·exact key h rfl (by rw [show IntKind.u8.bits=8 from rfl,HX];rfl)
  ·exact key h rfl (by rw [show IntKind.u16.bits=16 from rfl,Et];rfl)
  ·exact key h rfl (by rw [show IntKind.u32.bits=32 from rfl,Es];rfl)
  ·exact key h rfl (by rw [show IntKind.u64.bits=64 from rfl,Er];rfl)
  ·exact key h rfl rfl
  ·exact h.elim
 ·exact h.elim
theorem HU (x y:TV):(KP x y).zG (Hr .shr x y):=by
 intro ws h
 unfold KP at h
 split at h
 ·rename_i p n hc
  have key:∀{r:TV} {u:IntKind} {a:Int},(j5.under p [r]).holds ws→x.av = .v (.int u a)→r.av = .v (.int u (a.fdiv (2 ^ (min n u.bits))))→∃z:TV,ws=[z]∧Hr .shr x y z.av:=by
   intro r u a h hx hr
   obtain ⟨rfl,hp⟩:=sL h
   obtain ⟨k,m,h1,h2,rfl⟩:=z7 hc hp
   refine ⟨_,rfl,_,_,_,hx,h1,?_,hr⟩
   simp only [j8,Int.not_lt.2 h2,if_false]
  split at h
  ·rename_i a
   have q:=tK (w:=0) a.toNat (min n 8) (m:=256) (by have:=a.toNat_lt;simp at this;omega)
   exact key h rfl (by rw [show IntKind.u8.bits=8 from rfl];simp only [TV.av,fg];rw [←HV,wrap_u8',aX q.1 q.2])
  ·rename_i a
   have q:=tK (w:=0) a.toNat (min n 16) (m:=65536) (by have:=a.toNat_lt;simp at this;omega)
   exact key h rfl (by rw [show IntKind.u16.bits=16 from rfl];simp only [TV.av];rw [←Ep,iV,aX q.1 q.2])
  ·rename_i a
   have q:=tK (w:=0) a.toNat (min n 32) (m:=4294967296) (by have:=a.toNat_lt;simp at this;omega)
   exact key h rfl (by rw [show IntKind.u32.bits=32 from rfl];simp only [TV.av];rw [←Eo,wrap_u32',aX q.1 q.2])
  ·rename_i a
   have q:=tK (w:=0) a.toNat (min n 64) (m:=18446744073709551616) (by have:=a.toNat_lt;simp at this;omega)
   exact key h rfl (by rw [show IntKind.u64.bits=64 from rfl];simp only [TV.av,jx];rw [←En,jw,aX q.1 q.2])
  ·exact key h rfl rfl
  ·exact h.elim
 ·exact h.elim
theorem Je {o:BinOp} {k:IntKind} {a b:Int} {ws:List TV} (h:(MH o k a b).holds ws):∃x:TV,ws=[x]∧∃v,x.av = .v v∧j8 o (.int k a) (.int k b)=some v:=by
 cases o <;> simp only [MH,j5.holds] at h <;> first | exact h.elim | skip
 all_goals first
  | (obtain ⟨hp,rfl⟩:=h;refine ⟨_,rfl,_,rfl,?_⟩;simp only [Bool.not_eq_true',decide_eq_false_iff_not] at hp;simp only [j8,if_true,hp,if_false])
  | (subst h;refine ⟨_,rfl,_,rfl,?_⟩;simp only [j8,if_true,aB,Value.bool.injEq];first | done | (rw [bp];simp))
theorem Jd {o:BinOp} {a b:bO} {ws:List TV} (h:(MG o a b).holds ws):∃x:TV,ws=[x]∧∃v,x.av = .v v∧j8 o (.string ⟨⟨a⟩⟩) (.string ⟨⟨b⟩⟩)=some v:=by
 cases o <;> simp only [MG,j5.holds] at h <;> first | exact h.elim | skip
 ·obtain ⟨hp,rfl⟩:=h
  refine ⟨_,rfl,_,rfl,?_⟩
  simp only [j8]
  have hp:a.length+b.length≤9223372036854775807:=by simpa using hp
  rw [aE]
  ·simp only [aB,Value.string.injEq]
   apply ByteArray.ext
   apply Array.ext'
   simp
  ·have:IntKind.i64.max=9223372036854775807:=by decide
   rw [this]
   simp only [ByteArray.size,Array.size]
   omega
 ·subst h
  refine ⟨_,rfl,_,rfl,?_⟩
  simp only [j8,lv,aB,Value.bool.injEq]
  rw [bp];simp
 ·subst h
  refine ⟨_,rfl,_,rfl,?_⟩
  simp only [j8,lv,aB,Value.bool.injEq]
  rw [bp];simp
 ·subst h
  refine ⟨_,rfl,_,rfl,?_⟩
  show some (Value.bool _)=_
  simp only [lv]
 ·subst h
  refine ⟨_,rfl,_,rfl,?_⟩
  show some (Value.bool _)=_
  have e:(a == b)=decide (a=b):=by rw [bp];simp
  simp only [lv,e]
 ·subst h
  refine ⟨_,rfl,_,rfl,?_⟩
  show some (Value.bool _)=_
  have e:(a == b)=decide (a=b):=by rw [bp];simp
  simp only [lv,e]
 ·subst h
  refine ⟨_,rfl,_,rfl,?_⟩
  show some (Value.bool _)=_
  simp only [lv]
theorem I2 {o:BinOp} {a b:Value} {ws:List TV} (h:(Ms o a b).holds ws):∃x:TV,ws=[x]∧∃v,zK o a b=some v∧x.av = .v v:=by
 unfold Ms at h
 split at h
 ·obtain ⟨h1,rfl⟩:=h;exact ⟨_,rfl,_,aG h1,rfl⟩
 ·obtain ⟨h1,rfl⟩:=h;exact ⟨_,rfl,_,aG h1,rfl⟩
 ·obtain ⟨h1,rfl⟩:=h;exact ⟨_,rfl,_,aG h1,rfl⟩
 ·cases h;exact ⟨_,rfl,_,rfl,rfl⟩
 ·cases h;exact ⟨_,rfl,_,rfl,rfl⟩
 ·cases h;exact ⟨_,rfl,_,rfl,rfl⟩
 ·cases h;exact ⟨_,rfl,_,rfl,rfl⟩
 ·cases h;exact ⟨_,rfl,_,rfl,rfl⟩
 ·cases h;exact ⟨_,rfl,_,rfl,rfl⟩
 ·obtain ⟨h1,rfl⟩:=h;exact ⟨_,rfl,_,aG h1,rfl⟩
 ·obtain ⟨h1,rfl⟩:=h;exact ⟨_,rfl,_,aG h1,rfl⟩
 ·exact h.elim
theorem Dy {o:BinOp} {a b v:Value} (h:zK o a b=some v) (h1:tQ o=none):j8 o a b=some v:=by
 unfold zK at h
 split at h <;> first | (cases h;done) | exact h
theorem Jc (o:BinOp) (x y:TV):(MF o x y).zG (Hr o x y):=by
 intro ws h
 unfold MF at h
 split at h
 ·rename_i e
  have:o = .shl:=by cases o <;> simp [tQ] at e ⊢
  subst this
  exact HW x y ws h
 ·rename_i e
  have:o = .shr:=by cases o <;> simp [tQ] at e ⊢
  subst this
  exact HU x y ws h
 ·split at h
  ·obtain ⟨x,h1,v,h2,h3⟩:=Jf h;exact ⟨x,h1,_,_,v,rfl,rfl,h3,h2⟩
  ·obtain ⟨x,h1,v,h2,h3⟩:=G9 h;exact ⟨x,h1,_,_,v,rfl,rfl,h3,h2⟩
  ·obtain ⟨x,h1,v,h2,h3⟩:=G7 h;exact ⟨x,h1,_,_,v,rfl,rfl,h3,h2⟩
  ·obtain ⟨x,h1,v,h2,h3⟩:=G5 h;exact ⟨x,h1,_,_,v,rfl,rfl,h3,h2⟩
  ·split at h
   ·rename_i e
    subst e
    obtain ⟨x,h1,v,h2,h3⟩:=Je h;exact ⟨x,h1,_,_,v,rfl,rfl,h3,h2⟩
   ·exact h.elim
  ·obtain ⟨x,h1,v,h2,h3⟩:=Jd h;exact ⟨x,h1,_,_,v,rfl,rfl,h3,h2⟩
  ·rename_i e _ _ _ _
   obtain ⟨x,h1,v,h2,h3⟩:=I2 h
   exact ⟨x,h1,_,_,v,rfl,rfl,Dy h2 (by assumption),h3⟩
  ·exact h.elim
theorem Ii (a:UInt8):dP .xor .u8 (if IntKind.u8.signed then -1 else IntKind.u8.max) a.toNat=((~~~a).toNat:Int):=by
 have em:(if IntKind.u8.signed then (-1:Int) else IntKind.u8.max)=255:=by decide
 have e:BitVec.ofInt 8 255=BitVec.allOnes 8:=by decide
 rw [em]
 simp only [dP,IntKind.bits]
 rw [e,ofInt_u8,wrap_u8']
 show (((BitVec.allOnes 8 ^^^ a.toBitVec:BitVec 8).toNat:Int)) % 256=_
 rw [BitVec.allOnes_xor]
 have:=(~~~a).toNat_lt
 simp only [UInt8.toNat,UInt8.toBitVec_not] at this ⊢
 omega
theorem Fh (a:UInt16):dP .xor .u16 (if IntKind.u16.signed then -1 else IntKind.u16.max) a.toNat=((~~~a).toNat:Int):=by
 have em:(if IntKind.u16.signed then (-1:Int) else IntKind.u16.max)=65535:=by decide
 have e:BitVec.ofInt 16 65535=BitVec.allOnes 16:=by decide
 rw [em]
 simp only [dP,IntKind.bits]
 rw [e,ofInt_u16,iV]
 show (((BitVec.allOnes 16 ^^^ a.toBitVec:BitVec 16).toNat:Int)) % 65536=_
 rw [BitVec.allOnes_xor]
 have:=(~~~a).toNat_lt
 simp only [UInt16.toNat,UInt16.toBitVec_not] at this ⊢
 omega
theorem Fg (a:UInt32):dP .xor .u32 (if IntKind.u32.signed then -1 else IntKind.u32.max) a.toNat=((~~~a).toNat:Int):=by
 have em:(if IntKind.u32.signed then (-1:Int) else IntKind.u32.max)=4294967295:=by decide
 have e:BitVec.ofInt 32 4294967295=BitVec.allOnes 32:=by decide
 rw [em]
 simp only [dP,IntKind.bits]
 rw [e,ofInt_u32,wrap_u32']
 show (((BitVec.allOnes 32 ^^^ a.toBitVec:BitVec 32).toNat:Int)) % 4294967296=_
 rw [BitVec.allOnes_xor]
 have:=(~~~a).toNat_lt
 simp only [UInt32.toNat,UInt32.toBitVec_not] at this ⊢
 omega
theorem Ff (a:UInt64):dP .xor .u64 (if IntKind.u64.signed then -1 else IntKind.u64.max) a.toNat=((~~~a).toNat:Int):=by
 have em:(if IntKind.u64.signed then (-1:Int) else IntKind.u64.max)=18446744073709551615:=by decide
 have e:BitVec.ofInt 64 18446744073709551615=BitVec.allOnes 64:=by decide
 rw [em]
 simp only [dP,IntKind.bits]
 rw [e,ofInt_u64,jw]
 show (((BitVec.allOnes 64 ^^^ a.toBitVec:BitVec 64).toNat:Int)) % 18446744073709551616=_
 rw [BitVec.allOnes_xor]
 have:=(~~~a).toNat_lt
 simp only [UInt64.toNat,UInt64.toBitVec_not] at this ⊢
 omega
theorem KE (o : UnOp) (x : TV) : (Ra o x).zG (fun z => ∃ a v, x.av = .v a ∧ Nl o a = some v ∧ z = .v v) := by
  intro ws h
  unfold Ra at h
  split at h <;> first
    | exact h.elim
    | (cases h; exact ⟨_, rfl, _, _, rfl, rfl, rfl⟩)
    | (cases h; refine ⟨_, rfl, _, _, rfl, rfl, ?_⟩
       rename_i a
       have := a.toNat_lt
       simp only [TV.av, fg, jx, AV.v.injEq, Value.int.injEq, true_and]
       first
         | (rw [wrap_u8', UInt8.toNat_sub]; simp; omega)
         | (rw [iV, UInt16.toNat_sub]; simp; omega)
         | (rw [wrap_u32', UInt32.toNat_sub]; simp; omega)
         | (rw [jw, UInt64.toNat_sub]; simp; omega)
         | exact (Ii a).symm | exact (Fh a).symm | exact (Fg a).symm | exact (Ff a).symm)
end Go.Eng
namespace Go.Eng
def TV.pO:TV→Bool
 | .ag _=>true
 | _=>false
def TV.cells:TV→List TV
 | .ag cs=>cs
 | x=>[x]
def TV.plain:TV→Bool
 | .u8 _=>true
 | .u16 _=>true
 | .u32 _=>true
 | .u64 _=>true
 | .i _ _=>true
 | .b _=>true
 | .s _=>true
 | .sl _ _=>true
 | .ag _=>true
 | .ro _=>true
 | .c x=>x.oneCell'
 | _=>false
def qK (cs:List TV) (o n:Nat) (agg:Bool):Option TV :=
 match agg with
 | true=>cond (Nat.ble (o+n) cs.length) (some (.ag ((cs.drop o).take n))) none
 | false=>cs[o]?
def l0 (cs:List TV) (o:Nat) (xs:List TV):List TV:=cs.take o++xs++cs.drop (o+xs.length)
def Cu (z:List TV):List (Nat × Nat)→List TV→Option (List TV)
 | [],[]=>some z
 | (o,n) :: pl,x :: xs=>cond (x.plain&&Nat.beq x.cells.length n&&Nat.ble (o+n) z.length) (Cu (l0 z o x.cells) pl xs) none
 | _,_=>none
theorem TV.jX (x:TV) (h:x.plain=true):x.av.cells=x.cells.map TV.av:=by
 cases x <;> first | rfl | cases h | skip
 ·simp [TV.av,AV.cells,TV.cells,TV.eZ]
theorem TV.lJ (x:TV) (h:x.plain=true):x.av.plain=true:=by
 cases x <;> first | rfl | cases h | exact h | skip
theorem TV.Cj (x:TV) (h:x.plain=true):x.av.pO=x.pO:=by
 cases x <;> first | rfl | cases h
theorem mW {cs:List TV} {o n:Nat} {agg:Bool} {x:TV} (h:qK cs o n agg=some x):fP (cs.map TV.av) o n agg=some x.av:=by
 cases agg with
 | true =>
  simp only [qK] at h
  cases hb:Nat.ble (o+n) cs.length with
  | false=>rw [hb] at h;cases h
  | true =>
   rw [hb] at h
   cases h
   simp only [fP,if_true,aH,Nat.le_of_ble_eq_true hb,TV.av,TV.eZ]
   simp [List.map_take,List.map_drop]
 | false =>
  simp only [qK] at h
  simp only [fP,aY,if_false,aI,h]
  rfl
theorem lD (cs xs:List TV) (o:Nat):(l0 cs o xs).map TV.av=eK (cs.map TV.av) o (xs.map TV.av):=by
 simp [l0,eK,List.map_take,List.map_drop]
theorem zQ:∀{pl:List (Nat × Nat)} {z xs cs:List TV},Cu z pl xs=some cs→mF (z.map TV.av) pl (xs.map TV.av)=some (cs.map TV.av)
 | [],z,[],cs,h=>by cases h;rfl
 | (o,n) :: pl,z,x :: xs,cs,h=>by
  simp only [Cu] at h
  cases hb:(x.plain&&Nat.beq x.cells.length n&&Nat.ble (o+n) z.length) with
  | false=>rw [hb] at h;cases h
  | true =>
   rw [hb] at h
   simp only [aa] at hb
   obtain ⟨⟨h1,h2⟩,h3⟩:=hb
   have h2:=ax h2
   have h3:=Nat.le_of_ble_eq_true h3
   simp only [ah,mF,TV.lJ x h1,TV.jX x h1,aH,h2,h3,and_self,if_true]
   rw [←lD]
   exact zQ h
 | [],z,_ :: _,cs,h=>by cases h
 | _ :: _,z,[],cs,h=>by cases h
def tO (e:TV) (o n:Nat) (agg:Bool):Option TV :=
 match e with
 | .ag cs=>qK cs o n agg
 | x=>cond (Nat.beq o 0&&Nat.beq n 1&&!agg) (some x) none
def xc (e:TV) (o:Nat) (x:TV):Option TV :=
 match e with
 | .ag cs=>cond (Nat.ble (o+x.cells.length) cs.length) (some (.ag (l0 cs o x.cells))) none
 | _=>cond (Nat.beq o 0&&!x.pO) (some x) none
theorem AU {e x:TV} {o n:Nat} {agg:Bool} (he:e.plain=true) (h:tO e o n agg=some x):qf e.av o n agg=some x.av:=by
 cases e <;> first | cases he | skip
 case ag cs=>simp only [tO] at h;simp only [TV.av,TV.eZ,qf];exact mW h
 all_goals
  simp only [tO] at h
  cases hb:(Nat.beq o 0&&Nat.beq n 1&&!agg) with
  | false=>rw [hb] at h;cases h
  | true =>
   rw [hb] at h
   cases h
   simp only [aa,Bool.not_eq_true'] at hb
   obtain ⟨⟨h1,h2⟩,h3⟩:=hb
   have h1:=ax h1
   have h2:=ax h2
   simp [qf,TV.av,fg,jx,gR,h1,h2,h3]
theorem CT {e x y:TV} {o:Nat} (he:e.plain=true) (hx:x.plain=true) (h:xc e o x=some y):uF e.av o x.av=some y.av:=by
 cases e <;> first | cases he | skip
 case ag cs =>
  simp only [xc] at h
  cases hb:Nat.ble (o+x.cells.length) cs.length with
  | false=>rw [hb] at h;cases h
  | true =>
   rw [hb] at h
   cases h
   simp only [TV.av,TV.eZ,uF,TV.jX x hx,aH,Nat.le_of_ble_eq_true hb,if_true,lD]
 all_goals
  simp only [xc] at h
  cases hb:(Nat.beq o 0&&!x.pO) with
  | false=>rw [hb] at h;cases h
  | true =>
   rw [hb] at h
   cases h
   simp only [aa,Bool.not_eq_true'] at hb
   have h1:=ax hb.1
   have h2:=TV.Cj _ hx
   rw [hb.2] at h2
   simp [uF,TV.av,fg,jx,gR,h1,h2]
theorem fX.yo (t:fX) (x:t.El):(t.tv x).plain=true:=by cases t <;> rfl
def fX.app:(t:fX)→List t.El→(t':fX)→List t'.El→Option (List t.El)
 | .bs,l,.bs,m=>some (l++m)
 | .is,l,.is,m=>some (l++m)
 | .ws,l,.ws,m=>some (l++m)
 | .ss,l,.ss,m=>some (l++m)
 | .Hz,l,.Hz,m=>some (l++m)
 | .fl,l,.fl,m=>some (l++m)
 | .ml,l,.ml,m=>some (l++m)
 | .il,l,.il,m=>some (l++m)
 | .sp,l,.sp,m=>some (l++m)
 | .ou,l,.ou,m=>some (l++m)
 | .us,l,.us,m=>some (l++m)
 | .qd,l,.qd,m=>some (l++m)
 | _,_,_,_=>none
theorem fX.xV {t t':fX} {l n:List t.El} {m:List t'.El} (h:t.app l t' m=some n):t'=t∧n.map t.av=l.map t.av++m.map t'.av∧n.length=l.length+m.length:=by
 unfold fX.app at h
 split at h <;> cases h <;> simp
def fX.Qa (t:fX):List TV→Option (List t.El)
 | []=>some []
 | x :: r=>match t.el x with
  | some y=>match t.Qa r with
   | some l=>some (y :: l)
   | none=>none
  | none=>none
theorem fX.jj (t:fX) (x:t.El):(t.av x).plain=true∧(t.av x).cells.length=t.size:=by
 cases t with
 | fl=>cases x;exact ⟨rfl,rfl⟩
 | ml=>cases x;exact ⟨rfl,rfl⟩
 | il=>cases x;exact ⟨rfl,rfl⟩
 | _=>exact ⟨rfl,rfl⟩
theorem fX.Bq {t:fX}:∀{xs:List TV} {l:List t.El},t.Qa xs=some l→l.map t.av=xs.map TV.av∧∀x∈xs.map TV.av,x.plain=true∧x.cells.length=t.size
 | [],l,h=>by cases h;exact ⟨rfl,by simp⟩
 | x :: r,l,h=>by
  simp only [fX.Qa] at h
  split at h
  ·rename_i y hy
   split at h
   ·rename_i m hm
    cases h
    obtain ⟨h1,h2⟩:=fX.Bq hm
    refine ⟨by simp [fX.Gx hy,h1],?_⟩
    intro z hz
    simp only [ah,bm] at hz
    rcases hz with rfl | hz
    ·rw [←fX.Gx hy];exact t.jj y
    ·exact h2 z hz
   ·cases h
  ·cases h
def allM {A:Type} (f:TV→Option A):List TV→Option (List A)
 | []=>some []
 | x :: r=>match f x with
  | some y=>match allM f r with
   | some l=>some (y :: l)
   | none=>none
  | none=>none
theorem jZ {A:Type} {f:TV→Option A} {g:A→TV} (hf:∀x y,f x=some y→x=g y):∀{xs:List TV} {l:List A},allM f xs=some l→xs=l.map g
 | [],l,h=>by cases h;rfl
 | x :: r,l,h=>by
  simp only [allM] at h
  split at h
  ·rename_i y hy
   split at h
   ·rename_i m hm
    cases h
    rw [hf _ _ hy,jZ hf hm];rfl
   ·cases h
  ·cases h
def TV.str?:TV→Option bO | .s l=>some l | _=>none
def TV.i64?:TV→Option Int | .i .i64 l=>some l | _=>none
def TV.u8?:TV→Option UInt8 | .u8 l=>some l | _=>none
def TV.u64?:TV→Option UInt64 | .u64 l=>some l | _=>none
def TV.bool?:TV→Option Bool | .b l=>some l | _=>none
def TV.cx?:TV→Option Cx | .c (.complex .f64 x y)=>some (x,y) | _=>none
def fX.yE:fX→Bool
 | .bs=>true
 | .is=>true
 | .ws=>true
 | .ss=>true
 | .us=>true
 | _=>false
theorem fX.wX {t:fX} (h:t.yE=true) (l:List t.El):t.size=1∧∀x∈l.map t.av,∃y,x = .v y:=by
 cases t <;> first | (cases h;done) | (refine ⟨rfl,fun x hx=>?_⟩;obtain ⟨y,_,rfl⟩:=aP.1 hx;exact ⟨_,rfl⟩)
def TV.sl? (t:fX):TV→Option (List t.El)
 | .sl t' l=>if h:t'=t then some (h ▸ l) else none
 | _=>none
def Hg (cs:List TV) (n:Nat):Option TV :=
 match cs with
 | .s _ :: _=>match allM TV.str? cs with | some l=>some (.s (l.getD n [])) | none=>none
 | .i _ _ :: _=>match allM TV.i64? cs with | some l=>some (.i .i64 (l.getD n 0)) | none=>none
 | .u8 _ :: _=>match allM TV.u8? cs with | some l=>some (.u8 (l.getD n 0)) | none=>none
 | .u64 _ :: _=>match allM TV.u64? cs with | some l=>some (.u64 (l.getD n 0)) | none=>none
 | .b _ :: _=>match allM TV.bool? cs with | some l=>some (.b (l.getD n false)) | none=>none
 | .c _ :: _=>match allM TV.cx? cs with | some l=>some (.c (.complex .f64 (List.getD l n (0,0)).1 (List.getD l n (0,0)).2)) | none=>none
 | .sl t _ :: _=>match allM (TV.sl? t) cs with | some l=>some (.sl t (l.getD n [])) | none=>none
 | _=>none
theorem xU {cs:List TV} {n:Nat} {x:TV} (h:Hg cs n=some x) (hn:n<cs.length):cs[n]?=some x:=by
 unfold Hg at h
 split at h
 ·split at h
  ·rename_i l hl
   have:=jZ (g := .s) (fun x y h=>by cases x <;> simp [TV.str?] at h;rw [h]) hl
   cases h
   rw [this] at hn ⊢
   have Dh:n<l.length:=by simpa using hn
   simp [ak,aA Dh]
  ·cases h
 ·split at h
  ·rename_i l hl
   have:=jZ (g := .i .i64) (fun x y h=>by
    cases x <;> simp [TV.i64?] at h
    rename_i k m
    cases k <;> simp at h
    rw [h]) hl
   cases h
   rw [this] at hn ⊢
   have Dh:n<l.length:=by simpa using hn
   simp [ak,aA Dh]
  ·cases h
 ·split at h
  ·rename_i l hl
   have:=jZ (g := .u8) (fun x y h=>by cases x <;> simp [TV.u8?] at h;rw [h]) hl
   cases h
   rw [this] at hn ⊢
   have Dh:n<l.length:=by simpa using hn
   simp [ak,aA Dh]
  ·cases h
 ·split at h
  ·rename_i l hl
   have:=jZ (g := .u64) (fun x y h=>by cases x <;> simp [TV.u64?] at h;rw [h]) hl
   cases h
   rw [this] at hn ⊢
   have Dh:n<l.length:=by simpa using hn
   simp [ak,aA Dh]
  ·cases h
 ·split at h
  ·rename_i l hl
   have:=jZ (g := .b) (fun x y h=>by cases x <;> simp [TV.bool?] at h;rw [h]) hl
   cases h
   rw [this] at hn ⊢
   have Dh:n<l.length:=by simpa using hn
   simp [ak,aA Dh]
  ·cases h
 ·split at h
  ·rename_i l hl
   have:=jZ (g:=fun p => .c (.complex .f64 p.1 p.2)) (fun x y h=>by
    unfold TV.cx? at h
    split at h
    ·cases h;rfl
    ·cases h) hl
   cases h
   rw [this] at hn ⊢
   have Dh:n<l.length:=by simpa using hn
   simp [ak,aA Dh]
  ·cases h
 ·rename_i t _ _
  split at h
  ·rename_i l hl
   have:=jZ (g := .sl t) (fun x y h=>by
    cases x <;> simp [TV.sl?] at h
    obtain ⟨rfl,h⟩:=h
    subst h;rfl) hl
   cases h
   rw [this] at hn ⊢
   have Dh:n<l.length:=by simpa using hn
   simp [ak,aA Dh]
  ·cases h
 ·cases h
def MC (s m j:Nat) (cs:List TV):List TV:=(List.range m).map fun q=>cs.getD (q * s+j) .dead
def Ab (s m n:Nat) (cs:List TV):Nat→Option (List TV)
 | 0=>some []
 | j+1=>match Hg (MC s m (s - (j+1)) cs) n with
  | some x=>match Ab s m n cs j with
   | some xs=>some (x :: xs)
   | none=>none
  | none=>none
theorem Aa {s m n:Nat} {cs:List TV} (hl:m * s=cs.length) (hn:n<m):∀(j:Nat) {xs:List TV},j≤s→Ab s m n cs j=some xs→xs=(cs.drop (n * s+(s - j))).take j
 | 0,xs,_,h=>by simp [Ab] at h;simp [h]
 | j+1,xs,hj,h=>by
  simp only [Ab] at h
  split at h
  ·rename_i x hx
   split at h
   ·rename_i ys hy
    cases h
    have h1:=Aa hl hn j (by omega) hy
    have h2:=xU hx (by simpa [MC] using hn)
    have eW:n * s+(s - (j+1))<cs.length:=by
     have:(n+1) * s≤m * s:=ar _ hn
     rw [Nat.succ_mul] at this;omega
    have e:x=cs[n * s+(s - (j+1))]:=by
     simp only [MC,aI,List.getElem?_range hn,Option.map_some,aB] at h2
     rw [←h2,ak,aA eW];rfl
    rw [h1,List.drop_eq_getElem_cons eW,List.take_succ_cons,e,show n * s+(s - (j+1))+1=n * s+(s - j) by omega]
   ·cases h
  ·cases h
def uV (n:Nat):Bool:=decide (n≤maxLen)
def cz (n:Int) (l:Nat):Bool:=decide (0≤n)&&decide (n<l)
def gx (a b:Int) (l:Nat):Bool:=decide (0≤a)&&decide (a≤b)&&decide (b≤l)
def jv (n ku:Nat):Bool:=decide (n≤maxLen)&&decide (n * ku≤140737488355328)
def tp (l c:Int) (ku:Nat):Bool:=decide (0≤l)&&decide (l≤c)&&decide (c * ku≤140737488355328)&&decide (c≤maxLen)
def TV.bare:TV→TV
 | .gd _ x=>x
 | x=>x
def TV.Ks:TV→Option Bool
 | .gd q _=>some q
 | _=>none
theorem TV.CD {x:TV} (h:∀q,x.Ks=some q→q=true):x.bare.av=x.av:=by
 cases x <;> first | rfl | skip
 rename_i q x
 have:=h q rfl
 subst this
 rfl
def EO (t:Bool) (x y:TV):Option TV :=
 match x,y with
 | .b a,.b b=>some (.b (cond t a b))
 | .i k a,.i k' b=>if k=k' then some (.i k (cond t a b)) else none
 | .u8 a,.u8 b=>some (.u8 (cond t a b))
 | .u16 a,.u16 b=>some (.u16 (cond t a b))
 | .u32 a,.u32 b=>some (.u32 (cond t a b))
 | .u64 a,.u64 b=>some (.u64 (cond t a b))
 | .s a,.s b=>some (.s (cond t a b))
 | _,_=>none
theorem EN {t:Bool} {x y z:TV} (h:EO t x y=some z):z.av=if t then x.av else y.av:=by
 unfold EO at h
 split at h <;> first | (cases h <;> cases t <;> rfl) | skip
 ·split at h
  ·rename_i e;subst e;cases h;cases t <;> rfl
  ·cases h
def ER (t:Bool) (x y:TV):j5 :=
 match EO t x.bare y.bare with
 | some z=>match x.Ks,y.Ks with
  | none,none => .ok [z]
  | some p,none => .eS (!t || p) [z]
  | none,some q => .eS (t || q) [z]
  | some p,some q => .eS (cond t p q) [z]
 | none => .err
theorem EP (t : Bool) (x y : TV) : (ER t x y).zG (fun z => z = if t then x.av else y.av) := by
  intro ws h
  unfold ER at h
  split at h
  · rename_i z hz
    have hz := EN hz
    cases x <;> cases y <;> simp only [TV.Ks, TV.bare] at h hz <;> first
      | (cases h; exact ⟨_, rfl, hz⟩)
      | (obtain ⟨hp, rfl⟩ := h
         refine ⟨_, rfl, hz.trans ?_⟩
         cases t <;> simp at hp <;> simp [TV.av, hp])
  · exact h.elim
def Ic (x:Option TV):j5:=match x with | some x => .ok [x] | none => .err
def ej (p:Bool) (r:j5):j5:=cond p r .err
theorem bN {p:Bool} {r:j5} {ws:List TV} (h:(ej p r).holds ws):p=true∧r.holds ws:=by
 cases p with
 | true=>exact ⟨rfl,h⟩
 | false=>exact h.elim
theorem qg {x:Option TV} {ws:List TV} (h:(Ic x).holds ws):∃y,x=some y∧ws=[y]:=by
 cases x with
 | none=>exact h.elim
 | some y=>exact ⟨y,rfl,h⟩
def AH:Nat→List Cx→Nat→Cx→List Cx
 | _,[],_,_=>[]
 | j,p :: r,i,q=>cond (Nat.beq j i) q p :: AH (j+1) r i q
def Q1 (p:Cx):TV := .c (.complex .f64 p.1 p.2)
def Cb:List Cx→List TV
 | []=>[]
 | p :: r => .c (.complex .f64 p.1 p.2) :: Cb r
def Ro (cs:List TV) (i:Nat) (x:TV):Option (List TV) :=
 match x.cx?,allM TV.cx? cs with
 | some q,some l=>some (Cb (AH 0 l i q))
 | _,_=>none
theorem y5:∀l,Cb l=l.map Q1
 | []=>rfl
 | p :: r=>by rw [Cb,y5 r];rfl
theorem Hb {a b:Nat} (h:a≠b):Nat.beq a b=false:=by
 cases e:Nat.beq a b with
 | false=>rfl
 | true=>exact (h (ax e)).elim
theorem BQ:∀(l:List Cx) (j i:Nat) (q:Cx),AH j l (j+i) q=l.set i q
 | [],_,_,_=>rfl
 | p :: r,j,0,q=>by
  rw [AH,Nat.add_zero,show Nat.beq j j=true from Nat.beq_refl j]
  simp only [aD,List.set_cons_zero]
  congr 1
  have:∀(l:List Cx) (k:Nat),j<k→AH k l j q=l:=by
   intro l
   induction l with
   | nil=>intros;rfl
   | cons a r ih =>
    intro k hk
    rw [AH,ih _ (by omega),Hb (show k≠j by omega)]
    rfl
  exact this r _ (by omega)
 | p :: r,j,i+1,q=>by
  rw [AH,Hb (show j≠j+(i+1) by omega),show j+(i+1)=j+1+i by omega,BQ r (j+1) i q]
  rfl
theorem GK {x:TV} {q:Cx} (h:x.cx?=some q):x=Q1 q:=by
 unfold TV.cx? at h
 split at h
 ·cases h;rfl
 ·cases h
theorem Lz {cs ds:List TV} {i:Nat} {x:TV} (h:Ro cs i x=some ds) (hi:i<cs.length):x.plain=true∧x.av.cells.length=1∧ds.map TV.av=eK (cs.map TV.av) i x.av.cells:=by
 unfold Ro at h
 split at h
 ·rename_i q l h1 h2
  cases h
  have hx:=GK h1
  have hc:=jZ (g:=Q1) (fun x y h=>GK h) h2
  subst hx;subst hc
  refine ⟨rfl,rfl,?_⟩
  have:=BQ l 0 i q
  rw [Nat.zero_add] at this
  rw [this,y5]
  have PL:i<l.length:=by simpa using hi
  simp only [eK,AV.cells,Q1,TV.av,aW,ay]
  rw [List.set_eq_take_append_cons_drop,aG PL]
  simp only [List.map_append,ah,List.map_take,List.map_drop,aN,List.singleton_append]
  rfl
 ·cases h
end Go.Eng
namespace Go.Eng
def Ex (k:K) (vs:List TV):j5 :=
 match k,vs with
 | .Kt _ _ s ku,[.sl t l,.sl t' m,_,_]=>ej (Nat.beq s t.size&&Nat.beq s t'.size&&l.isEmpty) (.eS (jv m.length ku) [.pt,.dead,.sl t' m])
 | .JG _ s,[x,.pt,.sl t l]=>ej (Nat.beq s t.size) (.ok [x,.sl t l,.dead])
 | .rl,[.c (.complex k a _)] => .ok [.c (.float k a)]
 | .im,[.c (.complex k _ b)] => .ok [.c (.float k b)]
 | .cx,[.c (.float .f64 a),.c (.float .f64 b)] => .ok [.c (.complex .f64 a b)]
 | .cf,[.i _ n] => .ok [.c (.float .f64 (Fl.ofInt n))]
 | .fc,[.c (.float .f64 b)] => .eS (Fl.lW b) [.i .i64 (Fl.toInt b)]
 | .MW,[.c (.float .f64 b)] => .eS (Fl.num b) [.c (.float .f64 (Fl.iM b))]
 | .H8 _ _ s,[.pt,i,.sl t l,_]=>match i.int? with
  | some (_,n)=>ej (Nat.beq s t.size) (.eS (gx 0 n l.length) [.pt,.dead,.sl t (l.take n.toNat)])
  | none => .err
 | .B0 _ _ s ku,[.pt,.sl t' m,.sl t l,_]=>match t.app l t' m with
  | some n=>ej (Nat.beq s t.size) (.eS (jv (l.length+m.length) ku) [.pt,.dead,.sl t n])
  | none => .err
 | .ls _ s,[.el i s' o,.ag cs,x]=>match Ro cs i x with
  | some ds=>ej (Nat.beq s' s&&Nat.beq s 1&&Nat.beq o 0) (.eS (decide (i<cs.length)) [.ag ds])
  | none => .err
 | .Js _ o,[.pt,.ag cs,.pt]=>ej (Nat.ble (o+1) cs.length) (.ok [.ag (l0 cs o [.pt])])
 | .JH _ o n c _ s,[.pt,.ag cs,.sl t l]=>match qK (cs.set c (.sl t l)) o n true with
  | some x=>ej (Nat.beq s t.size&&decide (c<cs.length)) (.ok [x,.ag (cs.set c (.sl t l)),.dead])
  | none => .err
 | _,_ => .err
def KT (k:K) (vs:List TV):j5 :=
 match k,vs with
 | .mv,[x] => .ok [x]
 | .pick,[.b t,x,y]=>ER t x y
 | .bin o,[x,y]=>MF o x y
 | .be neg,[.b a,.b b] => .ok [.b (cond neg (!(a == b)) (a == b))]
 | .un o,[x]=>Ra o x
 | .ci k,[x]=>match x.int? with
  | some (_,n) => .ok [FN k n]
  | none => .err
 | .cs,[.s l] => .ok [.s l]
 | .sb,[.s l] => .eS (uV l.length) [.sl .bs l]
 | .Ju _,[.s l,_] => .eS (uV l.length) [.sl .bs l,.dead]
 | .bs,[.sl .bs l] => .ok [.s l]
 | .len,[.sl _ l] => .ok [.i .i64 l.length]
 | .vn,[.s l] => .ok [.i .i64 l.length]
 | .mn,[.i k a,.i k' b]=>ej (decide (k=k')) (.ok [.i k (vA a b)])
 | .mx,[.i k a,.i k' b]=>ej (decide (k=k')) (.ok [.i k (nD a b)])
 | .ix s,[.sl t l,i]=>match i.int? with
  | some (_,n)=>ej (Nat.beq s t.size) (.eS (cz n l.length) [.ro (t.tv (l.getD n.toNat t.GH))])
  | none => .err
 | .si,[.s l,i]=>match i.int? with
  | some (_,n) => .eS (cz n l.length) [.u8 (l.getD n.toNat 0)]
  | none => .err
 | .ai m s agg,[.ag cs,i]=>match i.int?,agg with
  | some (_,n),false=>match Hg cs n.toNat with
   | some x=>ej (Nat.beq s 1&&Nat.beq m cs.length) (.eS (cz n m) [x])
   | none => .err
  | some (_,n),true=>match Ab s m n.toNat cs s with
   | some xs=>ej (Nat.beq (m * s) cs.length) (.eS (cz n m) [.ag xs])
   | none => .err
  | _,_ => .err
 | .fe o n agg,[.ag cs]=>Ic (qK cs o n agg)
 | .sc s true true,[.sl t l,i,j]=>match i.int?,j.int? with
  | some (_,a),some (_,b)=>ej (Nat.beq s t.size) (.eS (gx a b l.length) [.sl t ((l.take b.toNat).drop a.toNat)])
  | _,_ => .err
 | .sc s true false,[.sl t l,i]=>match i.int? with
  | some (_,a)=>ej (Nat.beq s t.size) (.eS (gx a l.length l.length) [.sl t (l.drop a.toNat)])
  | _ => .err
 | .sc s false true,[.sl t l,j]=>match j.int? with
  | some (_,b)=>ej (Nat.beq s t.size) (.eS (gx 0 b l.length) [.sl t (l.take b.toNat)])
  | _ => .err
 | .sc s false false,[.sl t l]=>ej (Nat.beq s t.size) (.ok [.sl t l])
 | .ss true true,[.s l,i,j]=>match i.int?,j.int? with
  | some (_,a),some (_,b) => .eS (gx a b l.length) [.s ((l.take b.toNat).drop a.toNat)]
  | _,_ => .err
 | .ss true false,[.s l,i]=>match i.int? with
  | some (_,a) => .eS (gx a l.length l.length) [.s (l.drop a.toNat)]
  | _ => .err
 | .ss false true,[.s l,j]=>match j.int? with
  | some (_,b) => .eS (gx 0 b l.length) [.s (l.take b.toNat)]
  | _ => .err
 | .ss false false,[.s l] => .ok [.s l]
 | .bx _,[x,_]=>ej x.plain (.ok [.pt,.ag x.cells])
 | .ld _ o n agg,[.pt,.ag cs]=>Ic (qK cs o n agg)
 | .st _ o n,[.pt,.ag cs,x]=>ej (x.plain&&Nat.beq x.cells.length n&&Nat.ble (o+n) cs.length) (.ok [.ag (l0 cs o x.cells)])
 | .lr n agg,[.ro x]=>ej (x.plain&&(x.pO == agg)&&Nat.beq x.cells.length n) (.ok [x])
 | .fa _ _ _,[.pt] => .ok [.pt]
 | .fr o n agg,[.ro (.ag cs)]=>match qK cs o n agg with
  | some x => .ok [.ro x]
  | none => .err
 | .nc _ _,[.pt] => .ok [.pt]
 | .Oe,[.ro x] => .ok [.ro x]
 | .ex i,[.tu vs]=>Ic vs[i]?
 | .ap _ _ s ku,[.sl t l,.sl t' m,_,_]=>match t.app l t' m with
  | some n=>ej (Nat.beq s t.size) (.eS (jv (l.length+m.length) ku) [.sl t n,.dead,.dead])
  | none => .err
 | .Ku _ _ ku,[.sl .bs l,.s m,_,_] => .eS (jv (l.length+m.length) ku) [.sl .bs (l++m),.dead,.dead]
 | .an _ s ku,[.sl t l,_]=>ej (Nat.beq s t.size) (.eS (jv l.length ku) [.sl t l,.dead])
 | .Kw _ ku,[.s l,_] => .eS (jv l.length ku) [.sl .bs l,.dead]
 | .H7 _,[.s l,_] => .eS (uV l.length) [.pt,.sl .bs l]
 | .yO _,[.pt,.sl _ l] => .ok [.i .i64 l.length]
 | .lU _ s,[.pt,i,.sl t l]=>match i.int? with
  | some (_,n)=>ej (Nat.beq s t.size) (.eS (cz n l.length) [.el n.toNat s 0])
  | none => .err
 | .K2 _ o,[.el i s o'] => .ok [.el i s (o'+o)]
 | .rY _ s n agg,[.el i s' o,.sl t l]=>match tO (t.tv (l.getD i t.GH)) o n agg with
  | some x=>ej (Nat.beq s' s&&Nat.beq s t.size) (.eS (decide (i<l.length)) [x])
  | none => .err
 | .sT _ s n,[.el i s' o,.sl t l,x]=>match xc (t.tv (l.getD i t.GH)) o x with
  | some y=>match t.el y with
   | some e=>ej (Nat.beq s' s&&Nat.beq s t.size&&x.plain&&Nat.beq x.cells.length n) (.eS (decide (i<l.length)) [.sl t (l.set i e)])
   | none => .err
  | none => .err
 | .sU _ s,[.pt,.sl t l]=>ej (Nat.beq s t.size) (.ok [.sl t l,.sl t l,.dead])
 | .Jy _ _ s ku,[.pt,.sl t' m,.sl t l,_]=>match t.app l t' m with
  | some n=>ej (Nat.beq s t.size) (.eS (jv (l.length+m.length) ku) [.pt,.sl t l,.sl t n])
  | none => .err
 | .Kv _ _ _ s ku,[.sl t l,.pt,_,_,.sl t' m]=>match t.app l t' m with
  | some n=>ej (Nat.beq s t.size) (.eS (jv (l.length+m.length) ku) [.sl t n,.dead,.dead])
  | none => .err
 | .la _ n s,[.pt,i,.ag _]=>match i.int? with
  | some (_,m) => .eS (cz m n) [.el m.toNat s 0]
  | none => .err
 | .ll _ s,[.el i s' o,.ag cs]=>match Hg cs i with
  | some x=>ej (Nat.beq s' s&&Nat.beq s 1&&Nat.beq o 0) (.eS (decide (i<cs.length)) [x])
  | none => .err
 | .Ni,[.s l,.u8 c] => .ok [.i .i64 (Lib.indexByte l c)]
 | k,vs=>Ex k vs
theorem iz {n:Int} {l:Nat}:cz n l=true ↔ 0≤n∧n<l:=by simp [cz]
theorem jE {a b:Int} {l:Nat}:gx a b l=true ↔ 0≤a∧a≤b∧b≤l:=by simp [gx,and_assoc]
theorem jk {n b:Nat}:jv n b=true ↔ n≤maxLen∧n * b≤140737488355328:=by simp [jv]
theorem jP {l c:Int} {b:Nat}:tp l c b=true ↔ 0≤l∧l≤c∧c * b≤140737488355328∧c≤maxLen:=by simp [tp,and_assoc]
theorem pG {n:Nat}:uV n=true ↔ n≤maxLen:=by simp [uV]
theorem getD_map {A:Type} (f:A→AV) (l:List A) (n:Int) (d:A) (h:0≤n∧n<l.length):(l.map f)[n.toNat]?=some (f (l.getD n.toNat d)):=by
 have:n.toNat<l.length:=by omega
 simp [ak,aA this]
theorem Gk (l:bO) (n:Int) (h:0≤n∧n<l.length):l[n.toNat]?=some (l.getD n.toNat 0):=by
 have:n.toNat<l.length:=by omega
 simp [ak,aA this]
theorem Ew (E:Env) {k:K} {vs ws:List TV} (h:(Ex k vs).holds ws):eo E k (vs.map TV.av) (ws.map TV.av):=by
 unfold Ex at h
 split at h
 ·obtain ⟨e0,h1,rfl⟩:=bN h
  simp only [aa,List.isEmpty_iff] at e0
  obtain ⟨⟨e0,e1⟩,rfl⟩:=e0
  have h1:=jk.1 h1
  have e0:=ax e0
  have e1:=ax e1
  simp only [List.map,eo,TV.av,aq,aH]
  exact ⟨e0.symm,e1.symm,by intro x hx;obtain ⟨y,_,rfl⟩:=aP.1 hx;rw [e1];exact (fX.jj _ y).2,h1.1,h1.2,by rw [e1]⟩
 ·obtain ⟨e0,h⟩:=bN h;cases h
  have e0:=ax e0
  simp only [List.map,eo,TV.av]
  exact ⟨e0.symm,by rw [e0]⟩
 ·cases h;rfl
 ·cases h;rfl
 ·cases h;rfl
 ·cases h;rfl
 ·obtain ⟨h1,rfl⟩:=h;exact ⟨h1,rfl⟩
 ·obtain ⟨h1,rfl⟩:=h;exact ⟨h1,rfl⟩
 ·split at h
  ·rename_i s i t l x0 k n e
   obtain ⟨e1,h1,rfl⟩:=bN h
   have e1:=ax e1
   have h1:=jE.1 h1
   simp only [List.map,eo,TV.av,TV.gP e,aH]
   exact ⟨e1.symm,h1.2.1,by omega,by rw [e1,List.map_take]⟩
  ·exact h.elim
 ·split at h
  ·rename_i n e
   obtain ⟨e0,h1,rfl⟩:=bN h
   obtain ⟨rfl,e1,e2⟩:=fX.xV e
   have h1:=jk.1 h1
   simp only [List.map,eo,TV.av,aH]
   have e0:=ax e0
   exact ⟨e0.symm,e0.symm,by intro x hx;obtain ⟨y,_,rfl⟩:=aP.1 hx;rw [e0];exact (fX.jj _ y).2,h1.1,h1.2,by rw [e1,e0]⟩
  ·exact h.elim
 ·split at h
  ·rename_i s i s' o cs x ds hd
   obtain ⟨e1,h1,rfl⟩:=bN h
   simp only [aa,az] at e1 h1
   obtain ⟨⟨e2,e3⟩,e4⟩:=e1
   have e2:=ax e2
   have e3:=ax e3
   have e4:=ax e4
   subst e2;subst e3;subst e4
   obtain ⟨p1,p2,p3⟩:=Lz hd h1
   simp only [List.map,eo,TV.av,TV.eZ]
   exact ⟨trivial,TV.lJ _ p1,p2,by rw [aH];omega,by rw [p3,Nat.mul_one,Nat.add_zero]⟩
  ·exact h.elim
 ·obtain ⟨e,h⟩:=bN h;cases h
  simp only [List.map,eo,TV.av,TV.eZ]
  exact ⟨by rw [aH];exact Nat.le_of_ble_eq_true e,by rw [lD];rfl⟩
 ·split at h
  ·rename_i x e
   obtain ⟨e0,h⟩:=bN h
   cases h
   simp only [aa,az] at e0
   have e1:=ax e0.1
   have e2:=mW e
   simp only [List.map,eo,TV.av,TV.eZ]
   rw [List.map_set] at e2 ⊢
   refine ⟨x.av,e1.symm,by rw [aH];exact e0.2,?_,?_⟩
   ·rw [e1];exact e2
   ·rw [e1];rfl
  ·exact h.elim
 ·exact h.elim
theorem HZ (E:Env) {k:K} {vs ws:List TV} (h:(KT k vs).holds ws):eo E k (vs.map TV.av) (ws.map TV.av):=by
 unfold KT at h
 split at h
 -- mv
 ·cases h;rfl
 ·obtain ⟨x,rfl,e⟩:=EP _ _ _ _ h;simp only [List.map,eo,TV.av];rw [e]
 ·obtain ⟨x,rfl,a,b,v,e1,e2,e3,e4⟩:=Jc _ _ _ _ h
  simp only [List.map,eo,e1,e2,e4];exact ⟨v,e3,rfl⟩
 ·cases h;rename_i neg a b;cases neg <;> rfl
 ·obtain ⟨x,rfl,a,v,e1,e2,e3⟩:=KE _ _ _ h
  simp only [List.map,eo,e1,e3];exact ⟨v,e2,rfl⟩
 ·split at h
  ·rename_i e;cases h;simp only [List.map,eo,TV.gP e,FM]
  ·exact h.elim
 ·cases h;rfl
 ·obtain ⟨h1,rfl⟩:=h;exact ⟨pG.1 h1,rfl⟩
 ·obtain ⟨h1,rfl⟩:=h;exact ⟨pG.1 h1,rfl⟩
 ·cases h;exact ⟨_,rfl,rfl,rfl⟩
 ·cases h;simp only [List.map,eo,TV.av,aH]
 ·cases h;simp only [List.map,eo,TV.av,gR]
 ·obtain ⟨e,h⟩:=bN h;cases h;simp only [List.map,eo,TV.av]
 ·obtain ⟨e,h⟩:=bN h;cases h;simp only [List.map,eo,TV.av]
 ·split at h
  ·rename_i t l i k n e
   obtain ⟨e1,h1,rfl⟩:=bN h
   have e1:=ax e1
   have h1:=iz.1 h1
   simp only [List.map,eo,TV.av,TV.gP e,fX.D8]
   exact ⟨_,e1,h1.1,getD_map _ _ _ _ h1,rfl⟩
  ·exact h.elim
 ·split at h
  ·rename_i e
   obtain ⟨h1,rfl⟩:=h
   have h1:=iz.1 h1
   simp only [List.map,eo,TV.av,gR,TV.gP e]
   exact ⟨_,h1.1,Gk _ _ h1,rfl⟩
  ·exact h.elim
 ·split at h
  ·rename_i m s cs i k n e
   split at h
   ·rename_i x hx
    obtain ⟨e1,h1,rfl⟩:=bN h
    simp only [aa] at e1
    have e2:=ax e1.1
    have e3:=ax e1.2
    subst e2;subst e3
    have h1:=iz.1 h1
    have hx:=xU hx (by omega)
    simp only [List.map,eo,TV.av,TV.gP e]
    refine ⟨x.av,h1.1,h1.2,?_,rfl⟩
    simp [fP,TV.eZ,hx]
   ·exact h.elim
  ·rename_i m s cs i _ _ k n e
   split at h
   ·rename_i xs hx
    obtain ⟨e1,h1,rfl⟩:=bN h
    have e1:=ax e1
    have h1:=iz.1 h1
    have hx:=Aa e1 (by omega) s (Nat.le_refl _) hx
    simp only [List.map,eo,TV.av,TV.gP e]
    have hle:n.toNat * s+s≤cs.length:=by
     have:(n.toNat+1) * s≤m * s:=ar _ (by omega)
     rw [Nat.succ_mul] at this;omega
    refine ⟨(TV.ag xs).av,h1.1,h1.2,?_,by simp only [TV.av]⟩
    rw [Nat.sub_self,Nat.add_zero] at hx
    simp [fP,TV.eZ,TV.av,hx,hle,List.map_take,List.map_drop]
   ·exact h.elim
  ·exact h.elim
 ·obtain ⟨y,e,rfl⟩:=qg h
  simp only [List.map,eo,TV.av,TV.eZ];exact ⟨_,mW e,rfl⟩
 ·split at h
  ·rename_i i j _ a _ b e1 e2
   obtain ⟨e,h1,rfl⟩:=bN h
   have h1:=jE.1 h1
   simp only [List.map,eo,TV.av,TV.gP e1,TV.gP e2,aH]
   exact ⟨ax e,h1.1,h1.2.1,h1.2.2,by simp [ax e,List.map_take,List.map_drop]⟩
  ·exact h.elim
 ·split at h
  ·rename_i i _ a e1
   obtain ⟨e,h1,rfl⟩:=bN h
   have h1:=jE.1 h1
   simp only [List.map,eo,TV.av,TV.gP e1,aH]
   exact ⟨ax e,h1.1,h1.2.1,by simp [ax e,List.map_take,List.map_drop]⟩
  ·exact h.elim
 ·split at h
  ·rename_i i _ a e1
   obtain ⟨e,h1,rfl⟩:=bN h
   have h1:=jE.1 h1
   simp only [List.map,eo,TV.av,TV.gP e1,aH]
   exact ⟨ax e,h1.2.1,h1.2.2,by simp [ax e,List.map_take,List.map_drop]⟩
  ·exact h.elim
 ·obtain ⟨e,h⟩:=bN h
  cases h
  simp only [List.map,eo,TV.av]
  exact ⟨ax e,by rw [ax e]⟩
 ·split at h
  ·rename_i i j _ a _ b e1 e2
   obtain ⟨h1,rfl⟩:=h
   have h1:=jE.1 h1
   simp only [List.map,eo,TV.av,gR,TV.gP e1,TV.gP e2]
   exact ⟨h1.1,h1.2.1,h1.2.2,by simp [List.take_drop,List.drop_take]⟩
  ·exact h.elim
 ·split at h
  ·rename_i i _ a e1
   obtain ⟨h1,rfl⟩:=h
   have h1:=jE.1 h1
   simp only [List.map,eo,TV.av,gR,TV.gP e1]
   exact ⟨h1.1,h1.2.1,by simp⟩
  ·exact h.elim
 ·split at h
  ·rename_i i _ a e1
   obtain ⟨h1,rfl⟩:=h
   have h1:=jE.1 h1
   simp only [List.map,eo,TV.av,gR,TV.gP e1]
   exact ⟨h1.2.1,h1.2.2,by simp⟩
  ·exact h.elim
 ·cases h;rfl
 ·obtain ⟨e,h⟩:=bN h;cases h
  simp only [List.map,eo,TV.av,TV.eZ]
  exact ⟨TV.lJ _ e,by rw [TV.jX _ e]⟩
 ·obtain ⟨y,e,rfl⟩:=qg h
  simp only [List.map,eo,TV.av,TV.eZ];exact ⟨_,mW e,rfl⟩
 ·obtain ⟨e,h⟩:=bN h;cases h
  simp only [aa] at e
  obtain ⟨⟨e1,e2⟩,e3⟩:=e
  simp only [List.map,eo,TV.av,TV.eZ]
  refine ⟨TV.lJ _ e1,?_,?_,?_⟩
  ·rw [TV.jX _ e1,aH];exact ax e2
  ·rw [aH];exact Nat.le_of_ble_eq_true e3
  ·rw [TV.jX _ e1,lD]
 ·obtain ⟨e,h⟩:=bN h;cases h
  simp only [aa,beq_iff_eq] at e
  obtain ⟨⟨e1,e2⟩,e3⟩:=e
  simp only [List.map,eo,TV.av]
  refine ⟨?_,?_,trivial⟩
  ·rw [TV.Cj _ e1,e2]
  ·rw [TV.jX _ e1,aH];exact ax e3
 ·cases h;rfl
 ·split at h
  ·rename_i x e
   cases h
   simp only [List.map,eo,TV.av,TV.eZ];exact ⟨_,mW e,rfl⟩
  ·exact h.elim
 ·cases h;rfl
 ·cases h;rfl
 ·obtain ⟨y,e,rfl⟩:=qg h
  simp only [List.map,eo,TV.av,TV.eZ];exact ⟨y.av,by simp [e],rfl⟩
 ·split at h
  ·rename_i n e
   obtain ⟨e0,h1,rfl⟩:=bN h
   obtain ⟨rfl,e1,e2⟩:=fX.xV e
   have h1:=jk.1 h1
   simp only [List.map,eo,TV.av,aH]
   have e0:=ax e0
   exact ⟨e0.symm,e0.symm,by intro x hx;obtain ⟨y,_,rfl⟩:=aP.1 hx;rw [e0];exact (fX.jj _ y).2,h1.1,h1.2,by rw [e1,e0]⟩
  ·exact h.elim
 ·obtain ⟨h1,rfl⟩:=h
  have h1:=jk.1 h1
  simp only [List.map,eo,TV.av,gR,aH]
  exact ⟨rfl,h1.1,h1.2,by simp [fX.size];intro _ _;rfl⟩
 ·obtain ⟨e0,h1,rfl⟩:=bN h
  have h1:=jk.1 h1
  have e0:=ax e0
  simp only [List.map,eo,TV.av,aH]
  exact ⟨e0.symm,by intro x hx;obtain ⟨y,_,rfl⟩:=aP.1 hx;rw [e0];exact (fX.jj _ y).2,h1.1,h1.2,by rw [e0]⟩
 ·obtain ⟨h1,rfl⟩:=h
  have h1:=jk.1 h1
  simp only [List.map,eo,TV.av,gR]
  exact ⟨h1.1,h1.2,by simp [fX.size];intro _ _;rfl⟩
 ·obtain ⟨h1,rfl⟩:=h;exact ⟨pG.1 h1,rfl⟩
 ·cases h;simp only [List.map,eo,TV.av,aH]
 ·split at h
  ·rename_i s i t l k n e
   obtain ⟨e1,h1,rfl⟩:=bN h
   have e1:=ax e1
   have h1:=iz.1 h1
   simp only [List.map,eo,TV.av,TV.gP e,aH]
   exact ⟨e1.symm,h1.1,by omega,trivial⟩
  ·exact h.elim
 ·cases h;rfl
 ·split at h
  ·rename_i s n agg i s' o t l _ x e
   obtain ⟨e1,h1,rfl⟩:=bN h
   simp only [aa,az] at e1 h1
   have e2:=ax e1.1
   have e3:=ax e1.2
   simp only [List.map,eo,TV.av]
   refine ⟨t.av l[i],_,e2,e3.symm,by simp [aA h1],?_,rfl⟩
   have:=AU (fX.yo t _) e
   rw [fX.D8,ak,aA h1] at this
   exact this
  ·exact h.elim
 ·split at h
  ·rename_i s n i s' o t l x _ y e
   split at h
   ·rename_i _ z e'
    obtain ⟨e1,h1,rfl⟩:=bN h
    simp only [aa,az] at e1 h1
    obtain ⟨⟨⟨e2,e3⟩,e4⟩,e5⟩:=e1
    have e2:=ax e2
    have e3:=ax e3
    have e5:=ax e5
    have:=CT (fX.yo t _) e4 e
    rw [fX.D8,ak,aA h1,←fX.Gx e'] at this
    simp only [List.map,eo,TV.av]
    refine ⟨t.av l[i],_,e2,e3.symm,by simp [aA h1],TV.lJ _ e4,by rw [TV.jX _ e4,aH];exact e5,this,?_⟩
    rw [List.map_set,e3]
   ·exact h.elim
  ·exact h.elim
 ·obtain ⟨e0,h⟩:=bN h;cases h
  have e0:=ax e0
  simp only [List.map,eo,TV.av]
  exact ⟨e0.symm,by rw [e0]⟩
 ·split at h
  ·rename_i n e
   obtain ⟨e0,h1,rfl⟩:=bN h
   obtain ⟨rfl,e1,e2⟩:=fX.xV e
   have h1:=jk.1 h1
   simp only [List.map,eo,TV.av,aH]
   have e0:=ax e0
   exact ⟨e0.symm,e0.symm,h1.1,h1.2,by rw [e1,e0]⟩
  ·exact h.elim
 ·split at h
  ·rename_i n e
   obtain ⟨e0,h1,rfl⟩:=bN h
   obtain ⟨rfl,e1,e2⟩:=fX.xV e
   have h1:=jk.1 h1
   simp only [List.map,eo,TV.av,aH]
   have e0:=ax e0
   exact ⟨e0.symm,e0.symm,h1.1,h1.2,by rw [e1,e0]⟩
  ·exact h.elim
 ·split at h
  ·rename_i e
   obtain ⟨h1,rfl⟩:=h
   have h1:=iz.1 h1
   simp only [List.map,eo,TV.av,TV.gP e]
   exact ⟨h1.1,h1.2,trivial⟩
  ·exact h.elim
 ·split at h
  ·rename_i x hx
   obtain ⟨e1,h1,rfl⟩:=bN h
   simp only [aa,az] at e1 h1
   obtain ⟨⟨e2,e3⟩,e4⟩:=e1
   have e2:=ax e2
   have e3:=ax e3
   have e4:=ax e4
   subst e3;subst e4
   have hx:=xU hx h1
   simp only [List.map,eo,TV.av]
   refine ⟨x.av,e2,?_,rfl⟩
   simp [fP,TV.eZ,hx]
  ·exact h.elim
 ·cases h
  rename_i l c
  have hc:((c.toNat:Int).toNat).toUInt8=c:=by simp
  simp only [List.map,eo,TV.av,gR,fg,hc,wo]
 ·exact Ew E h
end Go.Eng
namespace Go.Eng
inductive TK where
 | k (x:K)
 | bl (t:fX) (n:Nat)
 | blt (t:fX) (n k:Nat)
 | bd (z:List TV) (pl:List (Nat × Nat))
 | al (m:Nat) (z:List TV) (ts:List (Nat × (Nat × Nat)))
 | mk (d ku:Nat) (t:fX) (z:t.El)
 | nl (t:fX) (d:Nat)
 | C1 (t:fX) (d:Nat)
 | DV (m:Nat) (ts:List (Nat × (Nat × fX)))
 | DR (m o n:Nat) (ts:List (Nat × (Nat × fX)))
 | yY (d ku:Nat) (t:fX) (z:t.El)
 | DJ (t:fX) (n k:Nat)
abbrev DC (ts:List (Nat × (Nat × fX))):List (Nat × (Nat × Nat)):=ts.map fun t=>(t.1,t.2.1,t.2.2.size)
def uM (cs:List TV):List (Nat × (Nat × fX))→List TV
 | []=>cs
 | t :: ts=>(uM cs ts).set t.1 (.sl t.2.2 [])
def isNil:Option TV→Bool
 | some (.c (.slice none 0 0))=>true
 | _=>false
def yW (cs:List TV):List (Nat × (Nat × fX))→Bool
 | []=>true
 | t :: ts=>isNil cs[t.1]?&&yW cs ts
theorem uL {cs:List TV}:∀{ts:List (Nat × (Nat × fX))},yW cs ts=true→(∀t∈DC ts,(cs.map TV.av)[t.1]?=some .nil)∧(uM cs ts).map TV.av=kW (cs.map TV.av) (DC ts)
 | [],_=>⟨fun _ h=>(by cases h),rfl⟩
 | t :: ts,h=>by
  simp only [yW,aa] at h
  obtain ⟨h1,h3⟩:=h
  obtain ⟨h4,h5⟩:=uL h3
  refine ⟨fun u hu=>?_,?_⟩
  ·rcases bm.1 hu with rfl | hu
   ·unfold isNil at h1
    split at h1
    ·rename_i e;rw [aI,e];rfl
    ·cases h1
   ·exact h4 u hu
  ·simp only [uM,kW,List.map_set,h5,ah];rfl
def TK.erase:TK→K
 | .k x=>x
 | .bl t n => .bl t.size n
 | .blt t n d => .blt t.size n d
 | .bd z pl => .bd (TV.BD z) pl
 | .al m z ts => .al m (TV.BD z) ts
 | .mk d b t z => .mk d t.size b (t.av z)
 | .nl t d => .nl d t.size
 | .C1 t d => .C1 d t.size
 | .DV m ts => .DV m (DC ts)
 | .DR m o n ts => .DR m o n (DC ts)
 | .yY d b t z => .yY d t.size b (t.av z)
 | .DJ t n d => .DJ t.size n d
inductive nW where
 | s (t:Nat)
 | c (x:TV)
 | g (n:Nat)
def nW.erase:nW→cR
 | .s t => .s t
 | .c x => .c x.av
 | .g n => .g n
structure qo where
 k:TK
 rs:List nW
 ds:List Nat
 gd:Option (Nat × Bool):=none
def qo.erase (m:qo):pQ:=⟨m.k.erase,m.rs.map nW.erase,m.ds,m.gd⟩
inductive TM where
 | skip
 | eY (ops:List qo)
 | seq (a:TM) (bM:Option (List Nat)) (b:TM)
 | cond (x:nW) (G:List (Nat × Gh)) (a b:TM)
 | block (id:Nat) (G:List (Nat × Gh)) (b:TM)
 | loop (bM:List Nat) (G:List (Nat × Gh)) (b:TM)
 | exit (id:Nat)
 | ret
 | sw (k k':Nat) (b:TM)
 | Hx (b:TM)
 | Hw (b:TM)
 | Hy (l:Nat) (bM:List Nat) (G:List (Nat × Gh)) (r b:TM)
def TM.erase:TM→M
 | .skip => .skip
 | .eY ops => .eY (ops.map qo.erase)
 | .seq a _ b => .seq a.erase b.erase
 | .cond x G a b => .cond x.erase G a.erase b.erase
 | .block id G b => .block id G b.erase
 | .loop bM G b => .loop bM G b.erase
 | .exit id => .exit id
 | .ret => .ret
 | .sw k k' b => .sw k k' b.erase
 | .Hx b => .Hx b.erase
 | .Hw b => .Hw b.erase
 | .Hy l bM G r b => .Hy l bM G r.erase b.erase
abbrev fh:=List TV→j5
structure eC where
 fs:Nat→fh × c7
 gl:Nat→TV
def fh.fs (c:fh × c7):FS:=⟨fun ins outs=>∃ti gg,ins=ti.map TV.av∧outs=gg.map TV.av∧(c.1 ti).holds gg,c.2⟩
def eC.env (E:eC):Env:=⟨fun n=>fh.fs (E.fs n),fun n=>(E.gl n).av⟩
abbrev TS:=Nat→TV
abbrev TS.av (τ:TS):Sg:=fun k=>(τ k).av
def wW (τ:TS):List Nat→List TV→TS
 | t :: ts,x :: xs=>fun k=>cond (Nat.beq k t) x (wW τ ts xs k)
 | _,_=>τ
def cP (bM:List Nat) (jJ:List TV):TS:=wW (fun _ => .dead) bM jJ
theorem tM (τ:TS):∀(ts:List Nat) (xs:List TV),(wW τ ts xs).av=bP τ.av ts (xs.map TV.av)
 | t :: ts,x :: xs=>by
  funext k
  simp only [TS.av,wW,ah,bP,cI]
  rw [←tM τ ts xs]
  cases h:Nat.beq k t with
  | true=>rw [aG (ax h)];rfl
  | false=>rw [aE (Nat.ne_of_beq_eq_false h)];rfl
 | [],_=>rfl
 | _ :: _,[]=>rfl
theorem oR (bM:List Nat) (jJ:List TV):(cP bM jJ).av=head bM (jJ.map TV.av):=tM _ bM jJ
def nW.ev (E:eC) (τ:TS):nW→TV
 | .s t=>τ t
 | .c x=>x
 | .g n=>E.gl n
theorem nW.Kk (E:eC) (τ:TS) (x:nW):x.erase.ev E.env τ.av=(x.ev E τ).av:=by cases x <;> rfl
def CS.FO (c:CS) (vs:List TV):List TV :=
 match c.ref with
 | some (i,_)=>(vs.take c.n).set i (vs.getD (c.n+(c.new.map (·.2)).toList.length) .dead)
 | none=>vs.take c.n
def CS.Ft (c:CS) (outs:List TV):TV :=
 match Nat.beq c.bQ 1 with
 | true=>match c.new with
  | some _ => .pt
  | none=>outs.headD .dead
 | false => .tu ((outs.take c.bQ).mapIdx fun i x=>cond (c.new.any (·.1 == i)) .pt x)
def CS.EJ (c:CS) (vs:List TV):Bool :=
 match c.ref with
 | some (i,_)=>match vs[i]? with
  | some .pt=>true
  | _=>false
 | none=>true
def CS.I0 (c:CS) (outs:List TV):List TV:=c.Ft outs :: (outs.drop c.bQ++c.mC.map fun _ => .dead)
def GZ (C:fh) (c:CS) (vs:List TV):j5 :=
 match c.EJ vs with
 | true=>match C (c.FO vs) with
  | .ok outs=>ej (Nat.beq outs.length (c.bQ+c.jt.length)) (.ok (c.I0 outs))
  | .eS p outs=>ej (Nat.beq outs.length (c.bQ+c.jt.length)) (.eS p (c.I0 outs))
  | .err => .err
 | false => .err
def EG (bQ:Nat) (r:j5):j5 :=
 match r with
 | .ok outs=>ej (Nat.beq outs.length bQ) (.ok [cond (Nat.beq bQ 1) (outs.headD .dead) (.tu outs)])
 | .eS p outs=>ej (Nat.beq outs.length bQ) (.eS p [cond (Nat.beq bQ 1) (outs.headD .dead) (.tu outs)])
 | .err => .err
def AR (C:fh) (n bQ i s:Nat) (vs:List TV):j5 :=
 match vs[n]?,vs[i]? with
 | some (.sl t l),some .pt=>ej (Nat.beq s t.size) (EG bQ (C ((vs.take n).set i (.sl t l))))
 | _,_ => .err
def AQ (C:fh) (bQ i s:Nat) (vs:List TV):j5 :=
 match vs[i]? with
 | some (.sl t [])=>ej (Nat.beq s t.size) (EG bQ (C vs))
 | _ => .err
def TV.VZ:TV→Bool
 | .u8 _=>true
 | .u16 _=>true
 | .u32 _=>true
 | .u64 _=>true
 | .i _ _=>true
 | .b _=>true
 | .s _=>true
 | .c _=>true
 | _=>false
def xW:List TV→Bool
 | []=>true
 | x :: r=>x.VZ&&xW r
def Ns (bQ:Nat) (r:j5):j5 :=
 match r with
 | .ok outs=>ej (Nat.beq outs.length bQ&&xW outs) (.ok [cond (Nat.beq bQ 1) (outs.headD .dead) (.tu outs)])
 | .eS p outs=>ej (Nat.beq outs.length bQ&&xW outs) (.eS p [cond (Nat.beq bQ 1) (outs.headD .dead) (.tu outs)])
 | .err => .err
def AN (C:fh) (n bQ i:Nat) (vs:List TV):j5 :=
 match vs[n]?,vs[i]? with
 | some (.ag cs),some .pt=>Ns bQ (C ((vs.take n).set i (.ro (.ag cs))))
 | _,_ => .err
def yN (rest:List TV) (r:j5):j5 :=
 match r with
 | .ok [.sl t l]=>ej t.yE (.ok (.pt :: rest++[.sl t l]))
 | .eS p [.sl t l]=>ej t.yE (.eS p (.pt :: rest++[.sl t l]))
 | _ => .err
def Bm (C:fh) (n bQ i s:Nat) (vs:List TV):j5 :=
 match vs[n]?,vs[i]? with
 | some (.sl t l),some .pt=>ej (Nat.beq s t.size) (match C ((vs.take n).set i (.sl t l)) with
  | .ok outs=>ej (Nat.beq outs.length bQ) (.ok [cond (Nat.beq bQ 1) (outs.headD .dead) (.tu outs),.dead])
  | .eS p outs=>ej (Nat.beq outs.length bQ) (.eS p [cond (Nat.beq bQ 1) (outs.headD .dead) (.tu outs),.dead])
  | .err => .err)
 | _,_ => .err
def A3 (C:fh) (n i s:Nat) (vs:List TV):j5 :=
 match vs[n]?,vs[i]? with
 | some (.sl t l),some .pt=>ej (Nat.beq s t.size) (match C ((vs.take n).set i (.sl t l)) with
  | .ok [.sl t' l']=>ej (Nat.beq s t'.size) (.eS (!l.isEmpty) [.tu [],.sl t' l'])
  | .eS p [.sl t' l']=>ej (Nat.beq s t'.size) (.eS (p&&!l.isEmpty) [.tu [],.sl t' l'])
  | _ => .err)
 | _,_ => .err
def Bl (C:fh) (n i:Nat) (vs:List TV):j5 :=
 match vs[n]?,vs[i]? with
 | some (.sl t l),some .pt=>ej t.yE (yN [.dead] (C ((vs.take n).set i (.sl t l))))
 | _,_ => .err
def LQ (f:Nat):Value→Bool
 | .func (.func g) ⟨[]⟩ ⟨[]⟩=>Nat.beq g f
 | _=>false
def BB (C:fh) (f bQ:Nat) (vs:List TV):j5 :=
 match vs with
 | .c x :: Jn=>ej (LQ f x) (EG bQ (C Jn))
 | _ => .err
def wV (t:fX) (vs rest:List TV):j5 :=
 match t.Qa vs with
 | some l => .ok (.sl t l :: rest)
 | none => .err
def uw (E:eC) (k:TK) (vs:List TV):j5 :=
 match k with
 | .k (.call f c)=>GZ (E.fs f).1 c vs
 | .k (.pW f n bQ i _ s)=>AR (E.fs f).1 n bQ i s vs
 | .k (.qJ f _ bQ i s)=>AQ (E.fs f).1 bQ i s vs
 | .k (.pU f n bQ i _)=>AN (E.fs f).1 n bQ i vs
 | .k (.nP f n _)=>yN [] ((E.fs f).1 (vs.take n))
 | .k (.oY f n bQ i _ s)=>Bm (E.fs f).1 n bQ i s vs
 | .k (.mg f n i _ _)=>Bl (E.fs f).1 n i vs
 | .k (.nN f n i _ s)=>A3 (E.fs f).1 n i s vs
 | .k (.rq f _ bQ)=>BB (E.fs f).1 f bQ vs
 | .k k=>KT k vs
 | .bl t n=>ej (Nat.beq vs.length n) (wV t vs [])
 | .blt t n _=>ej (Nat.beq vs.length (n+1)) (wV t (vs.take n) [.dead])
 | .bd z pl=>match Cu z pl vs with
  | some cs => .ok [.ag cs]
  | none => .err
 | .al _ z ts => .ok (.pt :: .ag z :: ts.map fun _ => .dead)
 | .mk _ ku t z=>match vs with
  | [.i .i64 l,.i .i64 c,_] => .eS (tp l c ku) [.sl t (List.replicate l.toNat z),.dead]
  | _ => .err
 | .nl t _=>match vs with
  | [_] => .ok [.sl t [],.dead]
  | _ => .err
 | .C1 t _=>match vs with
  | [_] => .ok [.pt,.sl t []]
  | _ => .err
 | .yY _ ku t z=>match vs with
  | [.i .i64 l,.i .i64 c,_] => .eS (tp l c ku) [.pt,.sl t (List.replicate l.toNat z)]
  | _ => .err
 | .DJ t n _=>ej (Nat.beq vs.length (n+1)) (match t.Qa (vs.take n) with
  | some l => .ok [.pt,.sl t l]
  | none => .err)
 | .DV _ ts=>match vs with
  | x :: _=>ej (x.plain&&yW x.cells ts) (.ok (.pt :: .ag (uM x.cells ts) :: ts.map fun _ => .dead))
  | _ => .err
 | .DR _ o n ts=>match vs with
  | .pt :: .ag cs :: x :: _=>ej (x.plain&&Nat.beq x.cells.length n&&Nat.ble (o+n) cs.length&&yW (l0 cs o x.cells) ts) (.ok (.ag (uM (l0 cs o x.cells) ts) :: ts.map fun _ => .dead))
  | _ => .err
def DF:List TV→Option Bool
 | []=>none
 | x :: r=>match x.Ks,DF r with
  | none,q=>q
  | some p,none=>some p
  | some p,some q=>some (p&&q)
def Ax (c:Bool) (q:Option Bool) (r:j5):j5 :=
 match r,q with
 | .ok ws,none => .ok (ws.map (.gd c))
 | .ok ws,some q => .eS (!c || q) (ws.map (.gd c))
 | .eS p ws,none => .eS (!c || p) (ws.map (.gd c))
 | .eS p ws,some q => .eS (!c || (q&&p)) (ws.map (.gd c))
 | .err,_ => .err
def xD (τ:TS) (t:Nat) (b:Bool):Option Bool :=
 match τ t with
 | .b x=>some (cond b x (!x))
 | .gd q (.b x)=>some (q&&cond b x (!x))
 | _=>none
def LF (n:Nat) (r:j5):j5 :=
 match r with
 | .ok ws=>ej (Nat.beq ws.length n) (.ok ws)
 | .eS p ws=>ej (Nat.beq ws.length n) (.eS p ws)
 | .err => .err
def He (k:TK) (vs:List TV):List TV :=
 match k with
 | .k .pick=>match vs with
  | x :: r=>x.bare :: r
  | []=>[]
 | _=>vs.map TV.bare
def MD (k:TK) (vs:List TV):Option Bool :=
 match k with
 | .k .pick=>match vs with
  | x :: _=>x.Ks
  | []=>none
 | _=>DF vs
def stepT (E:eC) (m:qo) (τ:TS):j5 :=
 match m.gd with
 | none=>LF m.ds.length (uw E m.k (m.rs.map (nW.ev E τ)))
 | some (t,b)=>match xD τ t b with
  | some c=>LF m.ds.length (Ax c (MD m.k (m.rs.map (nW.ev E τ))) (uw E m.k (He m.k (m.rs.map (nW.ev E τ)))))
  | none => .err
section
variable {R:Type}
def runT (E:eC):List qo→TS→(TS→Option R)→Option R
 | [],τ,K=>K τ
 | m :: ms,τ,K=>match stepT E m τ with
  | .ok ws=>runT E ms (wW τ m.ds ws) K
  | .eS p ws=>ck p (runT E ms (wW τ m.ds ws) K)
  | .err=>none
def yH (bM:Option (List Nat)) (τ:TS):TS :=
 match bM with
 | none=>τ
 | some ks=>cP ks (ks.map τ)
abbrev dF (R:Type):=MX→TS→Option R
def fk (f:TS→dF R→Option R) (bM:Option (List Nat)) (K:dF R):dF R:=fun e τ =>
 match e with
 | .normal=>f (yH bM τ) K
 | e=>K e τ
def Np (k k':Nat) (τ:TS):TS:=fun j=>cond (Nat.beq j (lk k)) (τ (lk k')) (cond (Nat.beq j (lk k')) (τ (lk k)) (τ j))
theorem KK (k k':Nat) (τ:TS):(Np k k' τ).av=AF k k' τ.av:=by
 funext j
 simp only [TS.av,Np,AF,oe]
 cases h:Nat.beq j (lk k) with
 | true=>rw [aG (ax h)];rfl
 | false =>
  rw [aE (Nat.ne_of_beq_eq_false h)]
  cases h':Nat.beq j (lk k') with
  | true=>rw [aG (ax h')];rfl
  | false=>rw [aE (Nat.ne_of_beq_eq_false h')];rfl
def MY (k k':Nat) (K:dF R):dF R:=fun e τ =>
 match e with
 | .normal=>K .normal (Np k k' τ)
 | e=>K e τ
def cE (id:Nat) (K:dF R):dF R:=fun e τ =>
 match e with
 | .exit j=>match Nat.beq j id with
  | true=>K .normal τ
  | false=>K (.exit j) τ
 | e=>K e τ
def jF:MX→Bool
 | .normal=>true
 | _=>false
def Ba (l:Nat):MX→Bool
 | .exit j=>Nat.beq j (gid l)
 | _=>false
def kM (f:TS→dF R→Option R) (tr:MX→Bool) (bM:List Nat):Nat→TS→dF R→Option R
 | 0,_,_=>none
 | n+1,τ,K=>f τ fun e iy =>
  match tr e with
  | true=>kM f tr bM n (cP bM (bM.map iy)) K
  | false=>K e iy
open Classical in
noncomputable def LC (g:Nat→Option R):Option R:=if h:∃n r,g n=some r then g h.choose else none
noncomputable def dZ (f:TS→dF R→Option R) (tr:MX→Bool) (bM:List Nat) (τ:TS) (K:dF R):Option R:=LC fun n=>kM f tr bM n τ K
noncomputable def Fw (f:TS→dF R→Option R) (bM:List Nat) (τ:TS) (K:dF R):Option R:=dZ f jF bM (cP bM (bM.map τ)) K
noncomputable def gz (f:TS→dF R→Option R) (tr:MX→Bool) (bM:List Nat) (K:dF R):dF R:=fun e τ =>
 match tr e with
 | true=>dZ f tr bM (cP bM (bM.map τ)) K
 | false=>K e τ
noncomputable def fM (R:Type) (E:eC) (m:TM):TS→dF R→Option R :=
 TM.rec (motive:=fun _=>TS→dF R→Option R)
  (fun τ K=>K .normal τ)
  (fun ops τ K=>runT E ops τ (K .normal))
  (fun _ bM _ fa fb τ K=>fa τ (fk fb bM K))
  (fun x _ _ _ fa fb τ K=>match x.ev E τ with
   | .b t=>cond t (fa τ K) (fb τ K)
   | _=>none)
  (fun id _ _ f τ K=>f τ (cE id K))
  (fun bM _ _ f τ K=>Fw f bM τ K)
  (fun id τ K=>K (.exit id) τ)
  (fun τ K=>K .ret τ)
  (fun k k' _ f τ K=>f τ (MY k k' K))
  (fun _ f=>f)
  (fun _ f=>f)
  (fun l bM _ _ _ fr fb τ K=>fb τ (gz fr (Ba l) bM K)) m
noncomputable def ev (R:Type) (E:eC) (m:TM):TS→dF R→Option R :=
 TM.rec (motive:=fun _=>TS→dF R→Option R)
  (fun τ K=>K .normal τ)
  (fun ops τ K=>runT E ops τ (K .normal))
  (fun _ bM b fa fb τ K=>match bM with
   | none=>fa τ (fk fb none K)
   | some ks=>fa τ (fk (fM R E b) (some ks) K))
  (fun x _ _ _ fa fb τ K=>match x.ev E τ with
   | .b t=>cond t (fa τ K) (fb τ K)
   | _=>none)
  (fun id _ _ f τ K=>f τ (cE id K))
  (fun bM _ b _ τ K=>Fw (fM R E b) bM τ K)
  (fun id τ K=>K (.exit id) τ)
  (fun τ K=>K .ret τ)
  (fun k k' _ f τ K=>f τ (MY k k' K))
  (fun _ f=>f)
  (fun _ f=>f)
  (fun l bM _ r _ _ fb τ K=>fb τ (gz (fM R E r) (Ba l) bM K)) m
theorem gT (E:eC) (m:TM):fM R E m=ev R E m:=by
 induction m with
 | skip=>rfl
 | eY ops=>rfl
 | seq a bM b zh tS =>
  funext τ K
  show fM R E a τ (fk (fM R E b) bM K)=(match bM with | none=>ev R E a τ (fk (ev R E b) none K) | some ks=>ev R E a τ (fk (fM R E b) (some ks) K))
  cases bM with
  | none=>rw [zh,tS]
  | some ks=>rw [zh]
 | cond x G a b zh tS =>
  funext τ K
  show (match x.ev E τ with | .b t=>cond t (fM R E a τ K) (fM R E b τ K) | _=>none)=(match x.ev E τ with | .b t=>cond t (ev R E a τ K) (ev R E b τ K) | _=>none)
  rw [zh,tS]
 | block id G b ih =>
  funext τ K
  show fM R E b τ (cE id K)=ev R E b τ (cE id K)
  rw [ih]
 | loop bM G b ih=>rfl
 | exit id=>rfl
 | ret=>rfl
 | sw k k' b ih =>
  funext τ K
  show fM R E b τ (MY k k' K)=ev R E b τ (MY k k' K)
  rw [ih]
 | Hx b ih=>exact ih
 | Hw b ih=>exact ih
 | Hy l bM G r b QD tS =>
  funext τ K
  show fM R E b τ (gz (fM R E r) (Ba l) bM K)=ev R E b τ (gz (fM R E r) (Ba l) bM K)
  rw [tS]
def MV (f:TS→dF R→Option R):Prop:=∀τ,∃p:Option (MX × TS),∀K:dF R,f τ K=p.bind fun q=>K q.1 q.2
theorem iq {g:Nat→Option R} (hm:∀n r,g n=some r→g (n+1)=some r) {r:R}:LC g=some r ↔ ∃n,g n=some r:=by
 have up:∀n k r,g n=some r→g (n+k)=some r:=by
  intro n k
  induction k with
  | zero=>exact fun r h=>h
  | succ k ih=>exact fun r h=>hm _ _ (ih r h)
 unfold LC
 constructor
 ·intro h
  split at h
  ·rename_i hx;exact ⟨_,h⟩
  ·cases h
 ·rintro ⟨n,hn⟩
  have hx:∃n r,g n=some r:=⟨n,r,hn⟩
  rw [dif_pos hx]
  obtain ⟨r',vC⟩:=hx.choose_spec
  rw [vC]
  have h1:=up _ n _ vC
  have h2:=up _ hx.choose _ hn
  rw [Nat.add_comm] at h2
  rw [h1] at h2
  exact h2
theorem C9 {g g':Nat→Option R} (hm:∀n r,g n=some r→g (n+1)=some r) (jI:∀n r,g' n=some r→g' (n+1)=some r) (h:∀r,(∃n,g n=some r) ↔ ∃n,g' n=some r):LC g=LC g':=by
 cases e:LC g with
 | some r=>exact ((iq jI).2 ((h r).1 ((iq hm).1 e))).symm
 | none =>
  cases e':LC g' with
  | none=>rfl
  | some r =>
   have:=(iq hm).2 ((h r).2 ((iq jI).1 e'))
   rw [e] at this;cases this
theorem ga {f:TS→dF R→Option R} (hf:MV f) {tr:MX→Bool} {bM:List Nat} {K:dF R}:∀(n:Nat) (τ:TS) (r:R),kM f tr bM n τ K=some r→kM f tr bM (n+1) τ K=some r
 | 0,_,_,h=>by cases h
 | n+1,τ,r,h=>by
  obtain ⟨p,hp⟩:=hf τ
  rw [kM] at h ⊢
  rw [hp] at h ⊢
  cases p with
  | none=>cases h
  | some q =>
   obtain ⟨e,iy⟩:=q
   simp only [Option.bind_some] at h ⊢
   cases ht:tr e with
   | true=>rw [ht] at h;exact ga hf n _ r h
   | false=>rw [ht] at h;exact h
theorem Fv {f:TS→dF R→Option R} (hf:MV f) (tr:MX→Bool) (bM:List Nat) (τ:TS) (K:dF R):dZ f tr bM τ K=f τ (gz f tr bM K):=by
 obtain ⟨p,hp⟩:=hf τ
 rw [hp]
 have hN:∀n,kM f tr bM (n+1) τ K=p.bind fun q=>match tr q.1 with | true=>kM f tr bM n (cP bM (bM.map q.2)) K | false=>K q.1 q.2:=by
  intro n;rw [kM,hp]
 cases p with
 | none =>
  cases e:dZ f tr bM τ K with
  | none=>rfl
  | some r =>
   obtain ⟨n,hn⟩:=(iq (fun n r=>ga hf n τ r)).1 e
   cases n with
   | zero=>cases hn
   | succ n=>rw [hN] at hn;cases hn
 | some q =>
  obtain ⟨e,iy⟩:=q
  simp only [Option.bind_some] at hN ⊢
  cases ht:tr e with
  | true =>
   simp only [gz,ht] at hN ⊢
   refine C9 (fun n r=>ga hf n τ r) (fun n r=>ga hf n _ r) fun r=>⟨?_,?_⟩
   ·rintro ⟨n,hn⟩
    cases n with
    | zero=>cases hn
    | succ n=>rw [hN] at hn;exact ⟨n,hn⟩
   ·rintro ⟨n,hn⟩
    exact ⟨n+1,by rw [hN];exact hn⟩
  | false =>
   simp only [gz,ht] at hN ⊢
   cases e':K e iy with
   | none =>
    cases e2:dZ f tr bM τ K with
    | none=>rfl
    | some r =>
     obtain ⟨n,hn⟩:=(iq (fun n r=>ga hf n τ r)).1 e2
     cases n with
     | zero=>cases hn
     | succ n=>rw [hN,e'] at hn;cases hn
   | some r=>exact (iq (fun n r=>ga hf n τ r)).2 ⟨1,by rw [hN,e']⟩
theorem ux (E:eC):∀(ms:List qo) (τ:TS),∃p:Option TS,∀K:TS→Option R,runT E ms τ K=p.bind K
 | [],τ=>⟨some τ,fun K=>rfl⟩
 | m :: ms,τ=>by
  simp only [runT]
  cases h:stepT E m τ with
  | ok ws=>exact ux E ms _
  | eS p ws =>
   obtain ⟨q,hq⟩:=ux E ms (wW τ m.ds ws)
   cases p with
   | true=>exact ⟨q,fun K=>hq K⟩
   | false=>exact ⟨none,fun K=>rfl⟩
  | err=>exact ⟨none,fun K=>rfl⟩
noncomputable def qR (P:TS→Option (MX × TS)) (tr:MX→Bool) (bM:List Nat):Nat→TS→Option (MX × TS)
 | 0,_=>none
 | n+1,τ=>(P τ).bind fun q=>match tr q.1 with
  | true=>qR P tr bM n (cP bM (bM.map q.2))
  | false=>some q
open Classical in
theorem wh {f:TS→dF R→Option R} (hf:MV f) (tr:MX→Bool) (bM:List Nat):MV (dZ f tr bM):=by
 intro τ
 let P:=fun τ=>(hf τ).choose
 have hP:∀τ K,f τ K=(P τ).bind fun q=>K q.1 q.2:=fun τ=>(hf τ).choose_spec
 have hI:∀n τ K,kM f tr bM n τ K=(qR P tr bM n τ).bind fun q=>K q.1 q.2:=by
  intro n
  induction n with
  | zero=>exact fun _ _=>rfl
  | succ n ih =>
   intro τ K
   rw [kM,qR,hP]
   cases P τ with
   | none=>rfl
   | some q =>
    simp only [Option.bind_some]
    cases tr q.1 with
    | true=>exact ih _ K
    | false=>rfl
 have Pu:∀n τ q,qR P tr bM n τ=some q→qR P tr bM (n+1) τ=some q:=by
  intro n
  induction n with
  | zero=>intro _ _ h;cases h
  | succ n ih =>
   intro τ q h
   rw [qR] at h ⊢
   cases e:P τ with
   | none=>rw [e] at h;cases h
   | some q' =>
    rw [e] at h
    simp only [Option.bind_some] at h ⊢
    cases ht:tr q'.1 with
    | true=>rw [ht] at h;exact ih _ q h
    | false=>rw [ht] at h;exact h
 by_cases hx:∃n q,qR P tr bM n τ=some q
 ·obtain ⟨n,q,hq⟩:=hx
  have yf:∀k,qR P tr bM (n+k) τ=some q:=by
   intro k
   induction k with
   | zero=>exact hq
   | succ k ih=>exact Pu _ _ _ ih
  refine ⟨some q,fun K=>?_⟩
  simp only [Option.bind_some]
  cases e:K q.1 q.2 with
  | some r=>exact (iq (fun n r=>ga hf n τ r)).2 ⟨n,by rw [hI,hq];exact e⟩
  | none =>
   cases e':dZ f tr bM τ K with
   | none=>rfl
   | some r =>
    obtain ⟨m,hm⟩:=(iq (fun n r=>ga hf n τ r)).1 e'
    have:kM f tr bM (m+n) τ K=some r:=by
     clear e e'
     induction n with
     | zero=>exact hm
     | succ n ih =>
      have up:∀k,kM f tr bM (m+k) τ K=some r:=by
       intro k
       induction k with
       | zero=>exact hm
       | succ k ih=>exact ga hf _ _ _ ih
      exact up _
    rw [hI,Nat.add_comm,yf] at this
    simp only [Option.bind_some] at this
    rw [e] at this;cases this
 ·refine ⟨none,fun K=>?_⟩
  cases e':dZ f tr bM τ K with
  | none=>rfl
  | some r =>
   obtain ⟨m,hm⟩:=(iq (fun n r=>ga hf n τ r)).1 e'
   rw [hI] at hm
   cases e:qR P tr bM m τ with
   | none=>rw [e] at hm;cases hm
   | some q=>exact absurd ⟨m,q,e⟩ hx
theorem C8 {f:TS→dF R→Option R} (hf:MV f) (bM:List Nat):MV (Fw f bM):=fun τ=>wh hf jF bM _
theorem Bp (E:eC) (m:TM):MV (fM R E m):=by
 induction m with
 | skip=>exact fun τ=>⟨some (.normal,τ),fun K=>rfl⟩
 | eY ops =>
  intro τ
  obtain ⟨p,hp⟩:=ux (R:=R) E ops τ
  exact ⟨p.map fun τ=>(.normal,τ),fun K=>by rw [Option.bind_map];exact hp _⟩
 | seq a bM b zh tS =>
  intro τ
  obtain ⟨p,hp⟩:=zh τ
  cases p with
  | none=>exact ⟨none,fun K=>hp _⟩
  | some q =>
   obtain ⟨e,iy⟩:=q
   cases e with
   | normal =>
    obtain ⟨p',jH⟩:=tS (yH bM iy)
    exact ⟨p',fun K=>(hp _).trans (jH _)⟩
   | exit i=>exact ⟨some (.exit i,iy),fun K=>hp _⟩
   | ret=>exact ⟨some (.ret,iy),fun K=>hp _⟩
 | cond x G a b zh tS =>
  intro τ
  show ∃p:Option (MX × TS),∀K:dF R,(match x.ev E τ with | .b t=>cond t (fM R E a τ K) (fM R E b τ K) | _=>none)=_
  split
  ·rename_i t _
   cases t with
   | true=>exact zh τ
   | false=>exact tS τ
  ·exact ⟨none,fun K=>rfl⟩
 | block id G b ih =>
  intro τ
  obtain ⟨p,hp⟩:=ih τ
  cases p with
  | none=>exact ⟨none,fun K=>hp _⟩
  | some q =>
   obtain ⟨e,iy⟩:=q
   cases e with
   | normal=>exact ⟨some (.normal,iy),fun K=>hp _⟩
   | exit i =>
    cases hb:Nat.beq i id with
    | true=>exact ⟨some (.normal,iy),fun K=>(hp _).trans (by simp only [Option.bind_some,cE,hb])⟩
    | false=>exact ⟨some (.exit i,iy),fun K=>(hp _).trans (by simp only [Option.bind_some,cE,hb])⟩
   | ret=>exact ⟨some (.ret,iy),fun K=>hp _⟩
 | loop bM G b ih=>exact C8 ih bM
 | exit id=>exact fun τ=>⟨some (.exit id,τ),fun K=>rfl⟩
 | ret=>exact fun τ=>⟨some (.ret,τ),fun K=>rfl⟩
 | sw k k' b ih =>
  intro τ
  obtain ⟨p,hp⟩:=ih τ
  cases p with
  | none=>exact ⟨none,fun K=>hp _⟩
  | some q =>
   obtain ⟨e,iy⟩:=q
   cases e with
   | normal=>exact ⟨some (.normal,Np k k' iy),fun K=>hp _⟩
   | exit i=>exact ⟨some (.exit i,iy),fun K=>hp _⟩
   | ret=>exact ⟨some (.ret,iy),fun K=>hp _⟩
 | Hx b ih=>exact ih
 | Hw b ih=>exact ih
 | Hy l bM G r b QD tS =>
  intro τ
  obtain ⟨p,hp⟩:=tS τ
  cases p with
  | none=>exact ⟨none,fun K=>hp _⟩
  | some q =>
   obtain ⟨e,iy⟩:=q
   cases ht:Ba l e with
   | true =>
    obtain ⟨p',jH⟩:=wh QD (Ba l) bM (cP bM (bM.map iy))
    exact ⟨p',fun K=>(hp _).trans (by simp only [Option.bind_some,gz,ht];exact jH K)⟩
   | false=>exact ⟨some (e,iy),fun K=>(hp _).trans (by simp only [Option.bind_some,gz,ht])⟩
theorem dc (E:eC) (tr:MX→Bool) (bM:List Nat) (b:TM) (τ:TS) (K:dF R) :
  dZ (fM R E b) tr bM τ K=ev R E b τ (gz (fM R E b) tr bM K):=by rw [Fv (Bp E b),gT]
end
end Go.Eng
namespace Go.Eng
theorem IF (c:CS) (vs:List TV):(c.FO vs).map TV.av=c.ins (vs.map TV.av):=by
 unfold CS.FO CS.ins
 cases c.ref with
 | none=>simp [List.map_take]
 | some q =>
  simp only [List.map_set,List.map_take]
  congr 1
  simp only [ak,aI]
  cases vs[c.n+(c.new.map (·.2)).toList.length]? <;> rfl
theorem Fs (c:CS) (outs:List TV):(c.Ft outs).av=c.main (outs.map TV.av):=by
 unfold CS.Ft CS.main
 cases h:Nat.beq c.bQ 1 with
 | true =>
  rw [aG (ax h)]
  cases c.new with
  | some q=>rfl
  | none=>cases outs <;> rfl
 | false =>
  rw [aE (Nat.ne_of_beq_eq_false h)]
  simp only [TV.av,TV.eZ,AV.tu.injEq]
  apply List.ext_getElem?
  intro i
  simp only [aI,List.getElem?_mapIdx,aO]
  split
  ·cases outs[i]? with
   | none=>rfl
   | some x =>
    simp only [Option.map_some,aB]
    cases h:(c.new.any fun q=>q.1 == i) <;> simp
    rfl
  ·rfl
section
variable {E:eC}
theorem GY {f:Nat} {c:CS} {vs ws:List TV} (h:(GZ (E.fs f).1 c vs).holds ws):eo E.env (.call f c) (vs.map TV.av) (ws.map TV.av):=by
 unfold GZ at h
 cases hr:c.EJ vs with
 | false=>rw [hr] at h;exact h.elim
 | true =>
  rw [hr] at h
  have key:∀{outs:List TV},((E.fs f).1 (c.FO vs)).holds outs→Nat.beq outs.length (c.bQ+c.jt.length)=true→ws=c.I0 outs→eo E.env (.call f c) (vs.map TV.av) (ws.map TV.av):=by
   intro outs h1 h2 h3
   subst h3
   refine ⟨?_,outs.map TV.av,⟨_,_,(IF c vs).symm,rfl,h1⟩,by rw [aH];exact ax h2,?_⟩
   ·unfold CS.EJ at hr
    cases hc:c.ref with
    | none=>trivial
    | some q =>
     rw [hc] at hr
     simp only at hr ⊢
     split at hr
     ·rename_i e;rw [aI,e];rfl
     ·cases hr
   ·simp only [CS.I0,ah,Fs,List.map_append,List.map_drop,aW]
    rfl
  simp only at h
  cases hC:(E.fs f).1 (c.FO vs) with
  | ok outs =>
   rw [hC] at h
   obtain ⟨h1,h2⟩:=bN h
   exact key (outs:=outs) (by rw [hC];rfl) h1 h2
  | eS p outs =>
   rw [hC] at h
   obtain ⟨h1,h2⟩:=bN h
   exact key (outs:=outs) (by rw [hC];exact ⟨h2.1,rfl⟩) h1 h2.2
  | err=>rw [hC] at h;exact h.elim
theorem vV {t:fX} {vs rest ws:List TV} (h:(wV t vs rest).holds ws):∃l,l.map t.av=vs.map TV.av∧(∀x∈vs.map TV.av,x.plain=true∧x.cells.length=t.size)∧ws = .sl t l :: rest:=by
 unfold wV at h
 split at h
 ·rename_i l e
  obtain ⟨h1,h2⟩:=fX.Bq e
  exact ⟨l,h1,h2,h⟩
 ·exact h.elim
theorem xa {C:fh} {bQ:Nat} {vs ws:List TV} (h:(EG bQ (C vs)).holds ws):∃outs,(C vs).holds outs∧outs.length=bQ∧ws=[cond (Nat.beq bQ 1) (outs.headD .dead) (.tu outs)]:=by
 unfold EG at h
 cases hC:C vs with
 | ok outs =>
  rw [hC] at h
  obtain ⟨h1,h2⟩:=bN h
  exact ⟨outs,rfl,ax h1,h2⟩
 | eS p outs =>
  rw [hC] at h
  obtain ⟨h1,h2⟩:=bN h
  exact ⟨outs,⟨h2.1,rfl⟩,ax h1,h2.2⟩
 | err=>rw [hC] at h;exact h.elim
theorem qF {bQ:Nat} (outs:List TV):(cond (Nat.beq bQ 1) (outs.headD .dead) (.tu outs):TV).av=if bQ=1 then (outs.map TV.av).headD .dead else .tu (outs.map TV.av):=by
 cases h:Nat.beq bQ 1 with
 | true=>rw [aG (ax h)];cases outs <;> rfl
 | false=>rw [aE (Nat.ne_of_beq_eq_false h)];simp only [aw,TV.av,TV.eZ]
theorem CX {f n bQ i k s:Nat} {vs ws:List TV} (h:(AR (E.fs f).1 n bQ i s vs).holds ws):eo E.env (.pW f n bQ i k s) (vs.map TV.av) (ws.map TV.av):=by
 unfold AR at h
 split at h
 ·rename_i t l e1 e2
  obtain ⟨h0,h⟩:=bN h
  obtain ⟨outs,h1,h2,rfl⟩:=xa h
  have h0:=ax h0
  refine ⟨l.map t.av,outs.map TV.av,by rw [aI,e1,h0];rfl,by rw [aI,e2];rfl,⟨_,outs,?_,rfl,h1⟩,by simpa using h2,by simp only [ah,aq,qF]⟩
  rw [List.map_set,List.map_take,h0];rfl
 ·exact h.elim
theorem CW {f n bQ i s:Nat} {vs ws:List TV} (h:(AQ (E.fs f).1 bQ i s vs).holds ws):eo E.env (.qJ f n bQ i s) (vs.map TV.av) (ws.map TV.av):=by
 unfold AQ at h
 split at h
 ·rename_i t e1
  obtain ⟨h0,h⟩:=bN h
  obtain ⟨outs,h1,h2,rfl⟩:=xa h
  have h0:=ax h0
  exact ⟨outs.map TV.av,by rw [aI,e1,h0];rfl,⟨vs,outs,rfl,rfl,h1⟩,by simpa using h2,by simp only [ah,aq,qF]⟩
 ·exact h.elim
theorem CE:∀{l:List TV},xW l=true→∀x∈l.map TV.av,∃y,x = .v y
 | [],_,x,hx=>by cases hx
 | z :: r,h,x,hx=>by
  simp only [xW,aa] at h
  rcases bm.1 hx with rfl | hx
  ·cases z <;> first | exact ⟨_,rfl⟩ | cases h.1
  ·exact CE h.2 x hx
theorem CR {f n bQ i m:Nat} {vs ws:List TV} (h:(AN (E.fs f).1 n bQ i vs).holds ws):eo E.env (.pU f n bQ i m) (vs.map TV.av) (ws.map TV.av):=by
 unfold AN at h
 split at h
 ·rename_i cs e1 e2
  have key:∃outs,((E.fs f).1 ((vs.take n).set i (.ro (.ag cs)))).holds outs∧outs.length=bQ∧xW outs=true∧ws=[cond (Nat.beq bQ 1) (outs.headD .dead) (.tu outs)]:=by
   unfold Ns at h
   cases hC:(E.fs f).1 ((vs.take n).set i (.ro (.ag cs))) with
   | ok outs =>
    rw [hC] at h
    obtain ⟨h1,h2⟩:=bN h
    simp only [aa] at h1
    exact ⟨outs,rfl,ax h1.1,h1.2,h2⟩
   | eS p outs =>
    rw [hC] at h
    obtain ⟨h1,h2⟩:=bN h
    simp only [aa] at h1
    exact ⟨outs,⟨h2.1,rfl⟩,ax h1.1,h1.2,h2.2⟩
   | err=>rw [hC] at h;exact h.elim
  obtain ⟨outs,h1,h2,h3,rfl⟩:=key
  refine ⟨cs.map TV.av,outs.map TV.av,by rw [aI,e1];simp only [Option.map_some,TV.av,TV.eZ],by rw [aI,e2];rfl,⟨_,outs,?_,rfl,h1⟩,by simpa using h2,CE h3,by simp only [ah,aq,qF]⟩
  rw [List.map_set,List.map_take];simp only [TV.av,TV.eZ]
 ·exact h.elim
theorem yM {rest ws:List TV} {C:fh} {vs:List TV} (h:(yN rest (C vs)).holds ws):∃(t:fX) (l:List t.El),(C vs).holds [.sl t l]∧t.yE=true∧ws = .pt :: rest++[.sl t l]:=by
 unfold yN at h
 cases hC:C vs with
 | ok outs =>
  rw [hC] at h
  split at h
  ·rename_i t l e
   cases e
   obtain ⟨h1,h2⟩:=bN h
   exact ⟨t,l,rfl,h1,h2⟩
  ·rename_i e;cases e
  ·exact h.elim
 | eS p outs =>
  rw [hC] at h
  split at h
  ·rename_i e;cases e
  ·rename_i t l e
   cases e
   obtain ⟨h1,h2⟩:=bN h
   exact ⟨t,l,⟨h2.1,rfl⟩,h1,h2.2⟩
  ·exact h.elim
 | err=>rw [hC] at h;exact h.elim
theorem DG {f n k:Nat} {vs ws:List TV} (h:(yN [] ((E.fs f).1 (vs.take n))).holds ws):eo E.env (.nP f n k) (vs.map TV.av) (ws.map TV.av):=by
 obtain ⟨t,l,h1,h2,rfl⟩:=yM h
 obtain ⟨h3,h4⟩:=fX.wX h2 l
 refine ⟨l.map t.av,⟨vs.take n,[.sl t l],by rw [List.map_take],?_,h1⟩,h4,?_⟩
 ·simp only [ah,aq,TV.av,h3]
 ·simp [TV.av,h3]
theorem C6 {f n i k s:Nat} {vs ws:List TV} (h:(A3 (E.fs f).1 n i s vs).holds ws):eo E.env (.nN f n i k s) (vs.map TV.av) (ws.map TV.av):=by
 unfold A3 at h
 split at h
 ·rename_i t l e1 e2
  obtain ⟨h0,h⟩:=bN h
  have h0:=ax h0
  have key:∃t' l',((E.fs f).1 ((vs.take n).set i (.sl t l))).holds [.sl t' l']∧s=t'.size∧l.isEmpty=false∧ws=[.tu [],.sl t' l']:=by
   split at h
   ·rename_i t' l' hC
    obtain ⟨h1,h2,h3⟩:=bN h
    exact ⟨t',l',by rw [hC];rfl,ax h1,by simpa using h2,h3⟩
   ·rename_i p t' l' hC
    obtain ⟨h1,h2,h3⟩:=bN h
    rw [aa] at h2
    exact ⟨t',l',by rw [hC];exact ⟨h2.1,rfl⟩,ax h1,by simpa using h2.2,h3⟩
   ·exact h.elim
  obtain ⟨t',l',h1,h2,h3,rfl⟩:=key
  refine ⟨l.map t.av,l'.map t'.av,by rw [aI,e1,h0];rfl,?_,by rw [aI,e2];rfl,⟨_,[.sl t' l'],?_,?_,h1⟩,?_⟩
  ·intro e
   have:=List.map_eq_nil_iff.1 e
   rw [this] at h3;cases h3
  ·rw [List.map_set,List.map_take,h0];rfl
  ·rw [h2];rfl
  ·rw [h2];rfl
 ·exact h.elim
theorem Dx {f n bQ i k s:Nat} {vs ws:List TV} (h:(Bm (E.fs f).1 n bQ i s vs).holds ws):eo E.env (.oY f n bQ i k s) (vs.map TV.av) (ws.map TV.av):=by
 unfold Bm at h
 split at h
 ·rename_i t l e1 e2
  obtain ⟨h0,h⟩:=bN h
  have h0:=ax h0
  have key:∃outs,((E.fs f).1 ((vs.take n).set i (.sl t l))).holds outs∧outs.length=bQ∧ws=[cond (Nat.beq bQ 1) (outs.headD .dead) (.tu outs),.dead]:=by
   cases hC:(E.fs f).1 ((vs.take n).set i (.sl t l)) with
   | ok outs =>
    rw [hC] at h
    obtain ⟨h1,h2⟩:=bN h
    exact ⟨outs,rfl,ax h1,h2⟩
   | eS p outs =>
    rw [hC] at h
    obtain ⟨h1,h2⟩:=bN h
    exact ⟨outs,⟨h2.1,rfl⟩,ax h1,h2.2⟩
   | err=>rw [hC] at h;exact h.elim
  obtain ⟨outs,h1,h2,rfl⟩:=key
  refine ⟨l.map t.av,outs.map TV.av,by rw [aI,e1,h0];rfl,by rw [aI,e2];rfl,⟨_,outs,?_,rfl,h1⟩,by simpa using h2,by simp only [ah,aq,qF];rfl⟩
  rw [List.map_set,List.map_take,h0];rfl
 ·exact h.elim
theorem Dw {f n i k k':Nat} {vs ws:List TV} (h:(Bl (E.fs f).1 n i vs).holds ws):eo E.env (.mg f n i k k') (vs.map TV.av) (ws.map TV.av):=by
 unfold Bl at h
 split at h
 ·rename_i t l e1 e2
  obtain ⟨h0,h⟩:=bN h
  have h0:=(fX.wX h0 l).1
  obtain ⟨t',l',h1,h2,rfl⟩:=yM h
  obtain ⟨h3,h4⟩:=fX.wX h2 l'
  refine ⟨l.map t.av,l'.map t'.av,by rw [aI,e1];simp only [Option.map_some,TV.av,h0],by rw [aI,e2];rfl,⟨_,[.sl t' l'],?_,?_,h1⟩,h4,?_⟩
  ·rw [List.map_set,List.map_take];simp only [TV.av,h0]
  ·simp only [ah,aq,TV.av,h3]
  ·simp [TV.av,h3]
 ·exact h.elim
theorem IE {f:Nat} {x:Value} (h:LQ f x=true):x = .func (.func f) #[] #[]:=by
 unfold LQ at h
 split at h
 ·rw [ax h]
 ·cases h
theorem DH {f n bQ:Nat} {vs ws:List TV} (h:(BB (E.fs f).1 f bQ vs).holds ws):eo E.env (.rq f n bQ) (vs.map TV.av) (ws.map TV.av):=by
 unfold BB at h
 split at h
 ·rename_i x Jn
  obtain ⟨h0,h⟩:=bN h
  obtain ⟨outs,h1,h2,rfl⟩:=xa h
  have:=IE h0
  subst this
  exact ⟨Jn.map TV.av,outs.map TV.av,rfl,⟨Jn,outs,rfl,rfl,h1⟩,by simpa using h2,by simp only [ah,aq,qF]⟩
 ·exact h.elim
theorem BR {k:TK} {vs ws:List TV} (h:(uw E k vs).holds ws):eo E.env k.erase (vs.map TV.av) (ws.map TV.av):=by
 cases k with
 | k x =>
  by_cases hc:∃f c,x = .call f c
  ·obtain ⟨f,c,rfl⟩:=hc
   exact GY h
  ·cases x
   case call f c=>exact (hc ⟨_,_,rfl⟩).elim
   case pW f n bQ i k s=>exact CX h
   case qJ f n bQ i s=>exact CW h
   case pU f n bQ i m=>exact CR h
   case nP f n k=>exact DG h
   case oY f n bQ i k s=>exact Dx h
   case nN f n i k s=>exact C6 h
   case mg f n i k k'=>exact Dw h
   case rq f n bQ=>exact DH h
   all_goals exact HZ _ h
 | bl t n =>
  obtain ⟨h0,h⟩:=bN h
  obtain ⟨l,h1,h2,rfl⟩:=vV h
  have h0:=ax h0
  simp only [TK.erase,eo,List.map,TV.av,h1,aH]
  exact ⟨h0,h2,trivial⟩
 | blt t n d =>
  obtain ⟨h0,h⟩:=bN h
  obtain ⟨l,h1,h2,rfl⟩:=vV h
  have h0:=ax h0
  simp only [TK.erase,eo,List.map,TV.av,h1,aH,←List.map_take]
  exact ⟨h0,h2,trivial⟩
 | bd z pl =>
  simp only [uw] at h
  split at h
  ·rename_i cs e
   cases h
   simp only [TK.erase,eo,List.map,TV.av,TV.eZ]
   exact ⟨_,zQ e,rfl⟩
  ·exact h.elim
 | al m z ts =>
  simp only [uw] at h
  cases h
  simp only [TK.erase,eo,ah,TV.av,aW]
  rfl
 | mk d b t z =>
  simp only [uw] at h
  split at h
  ·obtain ⟨h1,rfl⟩:=h
   obtain ⟨h1,h2,h3,h4⟩:=jP.1 h1
   simp only [TK.erase,eo,List.map,TV.av]
   exact ⟨(fX.jj _ _).1,(fX.jj _ _).2,h1,h2,h3,h4,by simp⟩
  ·exact h.elim
 | nl t d =>
  simp only [uw] at h
  split at h
  ·cases h;rfl
  ·exact h.elim
 | C1 t d =>
  simp only [uw] at h
  split at h
  ·cases h;rfl
  ·exact h.elim
 | yY d b t z =>
  simp only [uw] at h
  split at h
  ·obtain ⟨h1,rfl⟩:=h
   obtain ⟨h1,h2,h3,h4⟩:=jP.1 h1
   simp only [TK.erase,eo,List.map,TV.av]
   exact ⟨(fX.jj _ _).1,(fX.jj _ _).2,h1,h2,h3,h4,by simp⟩
  ·exact h.elim
 | DJ t n d =>
  obtain ⟨h0,h⟩:=bN h
  split at h
  ·rename_i l e
   cases h
   obtain ⟨h1,h2⟩:=fX.Bq e
   have h0:=ax h0
   simp only [TK.erase,eo,List.map,TV.av,h1,aH,←List.map_take]
   exact ⟨h0,h2,trivial⟩
  ·exact h.elim
 | DV m ts =>
  simp only [uw] at h
  split at h
  ·obtain ⟨e,h⟩:=bN h
   cases h
   simp only [aa] at e
   obtain ⟨h1,h2⟩:=uL e.2
   simp only [TK.erase,eo,ah,TV.av,TV.eZ,TV.jX _ e.1]
   exact ⟨TV.lJ _ e.1,h1,by rw [h2];simp only [DC,aW];rfl⟩
  ·exact h.elim
 | DR m o n ts =>
  simp only [uw] at h
  split at h
  ·obtain ⟨e,h⟩:=bN h
   cases h
   simp only [aa] at e
   obtain ⟨⟨⟨e1,e2⟩,e3⟩,e4⟩:=e
   obtain ⟨h1,h2⟩:=uL e4
   rw [lD] at h1 h2
   simp only [TK.erase,eo,ah,TV.av,TV.eZ,TV.jX _ e1,aH]
   exact ⟨TV.lJ _ e1,ax e2,Nat.le_of_ble_eq_true e3,h1,by rw [h2];simp only [DC,aW];rfl⟩
  ·exact h.elim
theorem Ac:∀{l:List TV},(∀q,DF l=some q→q=true)→∀x∈l,∀q,x.Ks=some q→q=true
 | [],_,_,hx,_,_=>by cases hx
 | y :: r,h,x,hx,q,hq=>by
  simp only [DF] at h
  rcases bm.1 hx with rfl | hx
  ·rw [hq] at h
   cases e:DF r with
   | none=>rw [e] at h;exact h _ rfl
   | some p=>rw [e] at h;exact (Bool.and_eq_true_iff.1 (h _ rfl)).1
  ·refine Ac (l:=r) ?_ x hx q hq
   intro p hp
   rw [hp] at h
   cases e:y.Ks with
   | none=>rw [e] at h;exact h _ rfl
   | some p'=>rw [e] at h;exact (Bool.and_eq_true_iff.1 (h _ rfl)).2
theorem ym {c:Bool} {q:Option Bool} {r:j5} {ws:List TV} (h:(Ax c q r).holds ws) (hc:c=true):∃vs,r.holds vs∧ws=vs.map (.gd c)∧∀p,q=some p→p=true:=by
 subst hc
 cases r <;> cases q
 ·exact ⟨_,rfl,h,by simp⟩
 ·rename_i vs q
  obtain ⟨h1,rfl⟩:=h
  exact ⟨vs,rfl,rfl,by rintro _ ⟨⟩;simpa using h1⟩
 ·rename_i p vs
  obtain ⟨h1,rfl⟩:=h
  exact ⟨vs,⟨by simpa using h1,rfl⟩,rfl,by simp⟩
 ·rename_i p vs q
  obtain ⟨h1,rfl⟩:=h
  simp at h1
  exact ⟨vs,⟨h1.2,rfl⟩,rfl,by rintro _ ⟨⟩;exact h1.1⟩
 ·exact h.elim
 ·exact h.elim
theorem wK {c:Bool} {q:Option Bool} {r:j5} {ws:List TV} (h:(Ax c q r).holds ws):∃vs:List TV,ws=vs.map (.gd c):=by
 cases r <;> cases q <;> first | exact ⟨_,h⟩ | exact ⟨_,h.2⟩ | exact h.elim
theorem uU {n:Nat} {r:j5} {ws:List TV} (h:(LF n r).holds ws):r.holds ws∧ws.length=n:=by
 cases r with
 | ok vs=>obtain ⟨h1,h2⟩:=bN h;cases h2;exact ⟨rfl,ax h1⟩
 | eS p vs=>obtain ⟨h1,h2⟩:=bN h;obtain ⟨h2,rfl⟩:=h2;exact ⟨⟨h2,rfl⟩,ax h1⟩
 | err=>exact h.elim
theorem Du {τ:TS} {t:Nat} {b c:Bool} (h:xD τ t b=some c):mE τ.av (some (t,b))=some c:=by
 unfold xD at h
 simp only [mE,TS.av]
 split at h
 ·rename_i x e;cases h;rw [e];cases b <;> cases x <;> rfl
 ·rename_i q x e;cases h;rw [e];cases q <;> cases b <;> cases x <;> rfl
 ·cases h
theorem Hd {k:TK} {vs:List TV} (h:∀p,MD k vs=some p→p=true):(He k vs).map TV.av=vs.map TV.av:=by
 have base:(∀p,DF vs=some p→p=true)→(vs.map TV.bare).map TV.av=vs.map TV.av:=fun h=>by
  rw [aW];exact List.map_congr_left fun x hx=>TV.CD (Ac h x hx)
 unfold MD at h
 unfold He
 split at h
 ·split at h
  ·simp only [ah];rw [TV.CD h]
  ·rfl
 ·exact base h
theorem yw {m:qo} {τ:TS} {ws:List TV} (h:(stepT E m τ).holds ws):Jt E.env m.erase τ.av (wW τ m.ds ws).av:=by
 unfold stepT at h
 have DT:∀l:List nW,(l.map nW.erase).map (cR.ev E.env τ.av)=(l.map (nW.ev E τ)).map TV.av:=by
  intro l;simp only [aW];exact List.map_congr_left fun x _=>nW.Kk E τ x
 cases hg:m.gd with
 | none =>
  rw [hg] at h
  obtain ⟨h1,h2⟩:=uU h
  refine ⟨ws.map TV.av,?_,by simpa [qo.erase] using h2,tM _ _ _⟩
  simp only [qo.erase,hg,mE,DT]
  exact BR h1
 | some q =>
  obtain ⟨t,b⟩:=q
  rw [hg] at h
  simp only at h
  cases hc:xD τ t b with
  | none=>rw [hc] at h;exact h.elim
  | some c =>
   rw [hc] at h
   obtain ⟨h1,h2⟩:=uU h
   refine ⟨ws.map TV.av,?_,by simpa [qo.erase] using h2,tM _ _ _⟩
   simp only [qo.erase,hg,Du hc]
   cases c with
   | true =>
    obtain ⟨vs,h3,rfl,h4⟩:=ym h1 rfl
    have e1:(vs.map (TV.gd true)).map TV.av=vs.map TV.av:=by simp only [aW];exact List.map_congr_left fun x _=>rfl
    have e2:=Hd h4
    simp only [DT,e1,←e2]
    exact BR h3
   | false =>
    obtain ⟨vs,rfl⟩:=wK h1
    simp only [aW]
    apply List.ext_getElem?
    intro i
    simp only [aH] at h2
    simp only [aI]
    by_cases hi:i<vs.length
    ·rw [aA hi,aA (by omega)];rfl
    ·rw [List.getElem?_eq_none (by omega),List.getElem?_eq_none (by omega)];rfl
theorem wY {R:Type} {r:R} {K:TS→Option R}:∀{ms:List qo} {τ:TS},runT E ms τ K=some r→∃iy:TS,EC E.env (ms.map qo.erase) τ.av iy.av∧K iy=some r
 | [],τ,h=>⟨τ,rfl,h⟩
 | m :: ms,τ,h=>by
  simp only [runT] at h
  cases hs:stepT E m τ with
  | ok ws =>
   rw [hs] at h
   obtain ⟨iy,h1,h2⟩:=wY h
   exact ⟨iy,⟨_,yw (ws:=ws) (by rw [hs];rfl),h1⟩,h2⟩
  | eS p ws =>
   rw [hs] at h
   obtain ⟨hp,h⟩:=I9.1 h
   obtain ⟨iy,h1,h2⟩:=wY h
   exact ⟨iy,⟨_,yw (ws:=ws) (by rw [hs];exact ⟨hp,rfl⟩),h1⟩,h2⟩
  | err=>rw [hs] at h;cases h
theorem EE (bM:Option (List Nat)) (τ:TS):Le (yH bM τ).av τ.av:=by
 cases bM with
 | none=>exact fun _ => .inl rfl
 | some ks =>
  intro k
  have:∀ks:List Nat,cP ks (ks.map τ) k=τ k∨cP ks (ks.map τ) k = .dead:=by
   intro ks
   induction ks with
   | nil=>exact .inr rfl
   | cons j ks ih =>
    simp only [cP,ah,wW] at ih ⊢
    cases h:Nat.beq k j with
    | true=>left;rw [ax h];rfl
    | false=>exact ih
  rcases this ks with e | e
  ·left;simp only [TS.av,yH,e]
  ·right;simp only [TS.av,yH,e];rfl
theorem rB (σ:Sg):∀bM:List Nat,Jj σ bM (bM.map σ)
 | []=>trivial
 | k :: ks=>⟨rfl,rB σ ks⟩
theorem P9 {R:Type} {r:R} {m:TM}:∀{τ:TS} {K:dF R},fM R E m τ K=some r→pN E.env m.erase (fun e σ=>∃iy:TS,σ=iy.av∧K e iy=some r) τ.av:=by
 induction m with
 | skip=>exact fun h=>⟨_,rfl,h⟩
 | eY ops =>
  intro τ K h
  obtain ⟨iy,h1,h2⟩:=wY (E:=E) h
  exact ⟨_,h1,iy,rfl,h2⟩
 | seq a bM b zh tS =>
  intro τ K h
  show pN E.env a.erase _ τ.av
  refine kG (m:=a.erase) (Q:=fun e σ=>∃iy:TS,σ=iy.av∧fk (fM R E b) bM K e iy=some r) (fun e σ q=>?_) (zh h)
  obtain ⟨iy,rfl,q⟩:=q
  cases e with
  | normal=>exact ⟨_,EE bM iy,tS q⟩
  | exit i=>exact ⟨iy,rfl,q⟩
  | ret=>exact ⟨iy,rfl,q⟩
 | cond x G a b zh tS =>
  intro τ K h
  have h:(match x.ev E τ with | .b t=>cond t (fM R E a τ K) (fM R E b τ K) | _=>none)=some r:=h
  split at h
  ·rename_i t e
   refine .inl ⟨t,by rw [nW.Kk,e];rfl,?_,?_⟩
   ·rintro rfl;exact zh h
   ·rintro rfl;exact tS h
  ·cases h
 | block id G b ih =>
  intro τ K h
  show pN E.env b.erase _ τ.av
  refine kG (m:=b.erase) (Q:=fun e σ=>∃iy:TS,σ=iy.av∧cE id K e iy=some r) (fun e σ q=>?_) (ih h)
  obtain ⟨iy,rfl,q⟩:=q
  cases e with
  | normal=>exact ⟨iy,rfl,q⟩
  | exit i =>
   simp only [cE] at q ⊢
   cases hb:Nat.beq i id with
   | true=>rw [hb] at q;rw [aG (ax hb)];exact ⟨iy,rfl,q⟩
   | false=>rw [hb] at q;rw [aE (Nat.ne_of_beq_eq_false hb)];exact ⟨iy,rfl,q⟩
  | ret=>exact ⟨iy,rfl,q⟩
 | loop bM G b ih =>
  intro τ K h
  have hl:=(iq (fun n r=>ga (Bp E b) n _ r)).1 h
  obtain ⟨n,hn⟩:=hl
  refine ⟨{ p:Nat × TS // kM (fM R E b) jF bM p.1 (cP bM (bM.map p.2)) K=some r },fun p=>bM.map p.1.2.av,fun p=>p.1.1,⟨(n,τ),hn⟩,rB _ bM,?_⟩
  rintro ⟨⟨n,τ⟩,hn⟩
  cases n with
  | zero=>cases hn
  | succ n =>
   simp only [kM] at hn
   have e:head bM (bM.map τ.av)=(cP bM (bM.map τ)).av:=by rw [oR,aW];rfl
   simp only
   rw [e]
   refine kG (fun e σ q=>?_) (ih hn)
   obtain ⟨iy,rfl,q⟩:=q
   cases e with
   | normal=>exact ⟨⟨(n,iy),q⟩,Nat.lt_succ_self n,rB _ bM⟩
   | exit i=>exact ⟨iy,rfl,q⟩
   | ret=>exact ⟨iy,rfl,q⟩
 | exit id=>exact fun h=>⟨_,rfl,h⟩
 | ret=>exact fun h=>⟨_,rfl,h⟩
 | sw k k' b ih =>
  intro τ K h
  show pN E.env b.erase _ τ.av
  refine kG (m:=b.erase) (Q:=fun e σ=>∃iy:TS,σ=iy.av∧MY k k' K e iy=some r) (fun e σ q=>?_) (ih h)
  obtain ⟨iy,rfl,q⟩:=q
  cases e with
  | normal=>exact ⟨Np k k' iy,(KK k k' iy).symm,q⟩
  | exit i=>exact ⟨iy,rfl,q⟩
  | ret=>exact ⟨iy,rfl,q⟩
 | Hx b ih=>exact fun h=>ih h
 | Hw b ih=>exact fun h=>ih h
 | Hy l bM G x b O3 tS =>
  intro τ K h
  have key:∀{e:MX} {iy:TS},gz (fM R E x) (Ba l) bM K e iy=some r→(e = .exit (gid l)∧∃n,kM (fM R E x) (Ba l) bM n (cP bM (bM.map iy)) K=some r)∨(e ≠ .exit (gid l)∧K e iy=some r):=by
   intro e iy q
   simp only [gz] at q
   cases ht:Ba l e with
   | true =>
    rw [ht] at q
    left
    cases e <;> simp only [Ba,aY] at ht
    exact ⟨by rw [ax ht],(iq (fun n r=>ga (Bp E x) n _ r)).1 q⟩
   | false =>
    rw [ht] at q
    refine .inr ⟨?_,q⟩
    rintro rfl
    simp [Ba] at ht
  refine ⟨{ p:Nat × TS // kM (fM R E x) (Ba l) bM p.1 (cP bM (bM.map p.2)) K=some r },fun p=>bM.map p.1.2.av,fun p=>p.1.1,?_,?_⟩
  ·refine kG (fun e σ q=>?_) (tS h)
   obtain ⟨iy,rfl,q⟩:=q
   rcases key q with ⟨rfl,n,hn⟩ | ⟨fO,q⟩
   ·simp only [if_true]
    exact ⟨⟨(n,iy),hn⟩,rB _ bM⟩
   ·cases e with
    | exit j =>
     have:j≠gid l:=fun e=>fO (by rw [e])
     simp only [this,if_false]
     exact ⟨iy,rfl,q⟩
    | normal=>exact ⟨iy,rfl,q⟩
    | ret=>exact ⟨iy,rfl,q⟩
  ·rintro ⟨⟨n,τ⟩,hn⟩
   cases n with
   | zero=>cases hn
   | succ n =>
    simp only [kM] at hn
    have e:head bM (bM.map τ.av)=(cP bM (bM.map τ)).av:=by rw [oR,aW];rfl
    simp only
    rw [e]
    refine kG (fun e σ q=>?_) (O3 hn)
    obtain ⟨iy,rfl,q⟩:=q
    cases ht:Ba l e with
    | true =>
     rw [ht] at q
     cases e <;> simp only [Ba,aY] at ht
     rw [ax ht]
     simp only [if_true]
     exact ⟨⟨(n,iy),q⟩,Nat.lt_succ_self n,rB _ bM⟩
    | false =>
     rw [ht] at q
     cases e with
     | exit j =>
      have:j≠gid l:=fun e=>by subst e;simp [Ba] at ht
      simp only [this,if_false]
      exact ⟨iy,rfl,q⟩
     | normal=>exact ⟨iy,rfl,q⟩
     | ret=>exact ⟨iy,rfl,q⟩
end
structure gQ where
 np:Nat
 m:TM
 ref:Option (Nat × Nat):=none
 fV:List (Nat × (Nat × Nat)):=[]
 res:List RV
 own:List (Nat × Nat):=[]
 new:Option (Nat × Nat):=none
 fL:List (Nat × Nat):=[]
 ps:Option (Nat × (Nat × Nat)):=none
def gQ.eu (d:gQ):List (Nat × (Nat × Nat)):=d.ps.toList.filter fun q=>q.2.1 == 999999
def gQ.erase (d:gQ):FD:={ np:=d.np,m:=d.m.erase,ref:=d.ref,fV:=d.fV,res:=d.res,own:=d.own,new:=d.new,fL:=d.fL,ps:=d.ps }
def RV.P7 (τ:TS):RV→Option TV
 | .t j=>some (τ j)
 | .c a m n agg=>match τ a,τ m with
  | .pt,.ag cs=>qK cs 0 n agg
  | _,_=>none
def B6 (τ:TS):List RV→Option (List TV)
 | []=>some []
 | r :: rs=>match r.P7 τ with
  | some x=>match B6 τ rs with
   | some l=>some (x :: l)
   | none=>none
  | none=>none
def TV.LN:TV→Bool
 | .sl _ _=>true
 | _=>false
def TV.LO:TV→Bool
 | .pt=>true
 | _=>false
def gQ.K3 (d:gQ) (τ:TS):Option (List TV) :=
 match B6 τ d.res with
 | some rs=>cond (d.own.all (fun q=>(rs.getD q.1 .dead).LN)&&d.new.toList.all (fun q=>(rs.getD q.1 .dead).LO)) (some (rs++d.new.toList.map (fun q=>τ q.2)++d.ref.toList.map (fun q=>τ q.2)++d.eu.map (fun q=>τ (lk q.2.1)))) none
 | none=>none
def gQ.wT (d:gQ) (ins:List TV):TS :=
 match d.ref with
 | none=>match d.ps with
  | none=>cP (List.range d.np) ins
  | some (i,k,_)=>cP (lk k :: List.range d.np) (ins.getD i .dead :: ins.set i .pt)
 | some (i,m)=>cP (m :: List.range d.np) (ins.getD i .dead :: ins.set i .pt)
def fC (d:gQ):dF (List TV):=fun e τ =>
 match e with
 | .exit _=>none
 | _=>d.K3 τ
noncomputable def gQ.run (E:eC) (d:gQ) (ins:List TV):Option (List TV):=ev (List TV) E d.m (d.wT ins) (fC d)
theorem yQ {τ:TS}:∀{rs:List RV} {xs:List TV},B6 τ rs=some xs→AX τ.av rs=some (xs.map TV.av)
 | [],xs,h=>by cases h;rfl
 | r :: rs,xs,h=>by
  simp only [B6] at h
  split at h
  ·rename_i x hx
   split at h
   ·rename_i l hl
    cases h
    have e:r.get τ.av=some x.av:=by
     cases r with
     | t j=>cases hx;rfl
     | c a m n agg =>
      simp only [RV.P7] at hx
      split at hx
      ·rename_i cs e1 e2
       simp only [RV.get,TS.av,e1,e2,TV.av,TV.eZ]
       exact mW hx
      ·cases hx
    simp only [AX,e,yQ hl]
    rfl
   ·cases h
  ·cases h
theorem B5 {d:gQ} {τ:TS} {outs:List TV} (h:d.K3 τ=some outs):d.erase.An τ.av (outs.map TV.av):=by
 unfold gQ.K3 at h
 split at h
 ·rename_i rs pH
  cases hc:(d.own.all (fun q=>(rs.getD q.1 .dead).LN)&&d.new.toList.all (fun q=>(rs.getD q.1 .dead).LO)) with
  | false=>rw [hc] at h;cases h
  | true =>
   rw [hc] at h
   cases h
   simp only [aa,aL] at hc
   refine ⟨rs.map TV.av,yQ pH,?_,?_,?_⟩
   ·intro q hq
    have:=hc.1 q hq
    rw [aI]
    rw [ak] at this
    cases e:rs[q.1]? with
    | none=>rw [e] at this;cases this
    | some x =>
     rw [e] at this
     cases x <;> simp [TV.LN] at this
     exact ⟨_,_,rfl⟩
   ·intro q hq
    have hq:d.new=some q:=hq
    have:=hc.2 q (by rw [hq];simp)
    rw [aI]
    rw [ak] at this
    cases e:rs[q.1]? with
    | none=>rw [e] at this;cases this
    | some x =>
     rw [e] at this
     cases x <;> simp [TV.LO] at this
     rfl
   ·simp only [List.map_append,aW]
    rfl
 ·cases h
theorem CM (d:gQ) (ins:List TV):(d.wT ins).av=d.erase.start (ins.map TV.av):=by
 unfold gQ.wT FD.start
 have:d.erase.ref=d.ref:=rfl
 rw [this]
 have:d.erase.ps=d.ps:=rfl
 rw [this]
 cases d.ref with
 | none =>
  cases d.ps with
  | none=>exact oR _ _
  | some q =>
   obtain ⟨i,k,s⟩:=q
   simp only [oR,ah,List.map_set]
   congr 2
   simp only [ak,aI]
   cases ins[i]? <;> rfl
 | some q =>
  obtain ⟨i,m⟩:=q
  simp only [oR,ah,List.map_set]
  congr 2
  simp only [ak,aI]
  cases ins[i]? <;> rfl
theorem KU {E:eC} {d:gQ} {ins outs:List TV} (h:d.run E ins=some outs):d.erase.runs E.env (ins.map TV.av) (outs.map TV.av):=by
 have h:ev (List TV) E d.m (d.wT ins) (fC d)=some outs:=h
 rw [←gT] at h
 have:=P9 h
 unfold FD.runs
 rw [←CM]
 refine kG (fun e σ q=>?_) this
 obtain ⟨iy,rfl,q⟩:=q
 cases e with
 | exit i=>cases q
 | normal=>exact B5 q
 | ret=>exact B5 q
theorem HS {P:Program} {E:eC} (hE:∀f,dK P E.env.gl f (fh.fs (E.fs f))) {f:Nat} {fn:Func} {d:gQ} (hf:P.funcs[f]?=some fn)
  (hc:Bz P (fun n=>(E.fs n).2) fn d.erase=true) {c:fh} (hG:∀ins outs,(c ins).holds outs→ins.length=d.np∧d.run E ins=some (outs++d.eu.map fun q=>ins.getD q.1 .dead)):dK P E.env.gl f (fh.fs (c,d.erase.sg)):=by
 refine BP (E:=E.env) (sg:=fun n=>(E.fs n).2) (fun n=>⟨hE n,rfl⟩) hf hc rfl ?_
 rintro ins outs ⟨ti,gg,rfl,rfl,h⟩
 obtain ⟨h1,h2⟩:=hG ti gg h
 refine ⟨by simpa [gQ.erase] using h1,?_⟩
 have:=KU h2
 rw [List.map_append,aW] at this
 have e:d.eu.map (TV.av ∘ fun q=>ti.getD q.1 .dead)=d.erase.eu.map fun q=>(ti.map TV.av).getD q.1 .dead:=by
  show _=d.eu.map _
  refine List.map_congr_left fun q _=>?_
  simp only [Function.comp_apply,ak,aI]
  cases ti[q.1]? <;> rfl
 rwa [e] at this
end Go.Eng
namespace Go.Eng
open Go.RowKit
def Old (w:World):Reach:=fun b _=>b<w.heap.size
theorem calls_of_spec {P:Program} {gl:Nat→AV} {f:Nat} {c:fh} {sg:c7} (JZ:sg={}) (h:dK P gl f (fh.fs (c,sg))) {ti:List TV} {xs:List Value} {w:World}
  (xx:∀n,Rep (Old w) w (gl n) (.pointer (some ⟨n,0,none⟩))) (hc:(c ti).holds [.b true]) (ha:fo (Old w) w (ti.map TV.av) xs) :
  Calls P f ⟨xs⟩ w fun e w'=>e = .returned (.bool true)∧Below w.heap.size w w':=by
 subst JZ
 refine (h.1 rfl w (Old w) (ti.map TV.av) [.v (.bool true)] xs ⟨ti,[.b true],rfl,rfl,hc⟩ (fun b o hb=>hb) xx ha).mono ?_
 rintro e w' ⟨x,R',rfl,hx,hr,ho⟩
 obtain ⟨rvs,tr,gg,tn,bn,br,cn,cr,h1,h2,h3,h4,_⟩:=ho
 refine ⟨?_,hx.os,hx.tape,hx.output,hx.size,fun k hk=>hx.heap k hk id⟩
 congr 1
 rw [h2]
 have h1:rvs.length=1:=h1
 match rvs,h1 with
 | [y],_ =>
  have h4:fo R' w' [.v (.bool true)] [y]:=h4
  cases h4 with
  | cons a _=>cases a;rfl
theorem Nn {n:Int} (h:(Lit.int .u8 n).wf=true):((UInt8.ofInt n).toNat:Int)=n:=by
 have hx:0≤n∧n≤255:=by simpa [Lit.wf,IntKind.min,IntKind.max,IntKind.signed,IntKind.bits] using h
 rw [uf,wrap_u8'];omega
def Fi:fh × c7:=(fun _ => .err,{})
theorem vU {P:Program} {gl:Nat→AV} {f:Nat}:dK P gl f (fh.fs Fi):=by
 refine ⟨fun _=>?_,fun i s je=>by cases je⟩
 intro w R ins outs xs hg
 obtain ⟨ti,gg,_,_,h⟩:=hg
 exact h.elim
def cV (gl:Nat→TV) (l:List (Nat × (fh × c7))):eC:=⟨fun n=>look l n,gl⟩
where look:List (Nat × (fh × c7))→Nat→fh × c7
 | [],_=>Fi
 | (k,c) :: r,n=>cond (Nat.beq n k) c (look r n)
theorem Mu {P:Program} {gl:Nat→TV} {l:List (Nat × (fh × c7))} (h:∀p∈l,dK P (fun n=>(gl n).av) p.1 (fh.fs p.2)):∀f,dK P (cV gl l).env.gl f (fh.fs ((cV gl l).fs f)):=by
 intro f
 show dK P (fun n=>(gl n).av) f (fh.fs (cV.look l f))
 induction l with
 | nil=>exact vU
 | cons p r ih =>
  obtain ⟨k,c⟩:=p
  simp only [cV.look]
  cases hb:Nat.beq f k with
  | true=>rw [ax hb];exact h (k,c) (List.mem_cons_self ..)
  | false=>exact ih fun q hq=>h q (List.mem_cons_of_mem _ hq)
theorem meets {P:Program} {gl:Nat→TV} {l:List (Nat × (fh × c7))} (hE:∀p∈l,dK P (fun n=>(gl n).av) p.1 (fh.fs p.2)) {f:Nat} {d:gQ}
  (hc:((P.funcs[f]?).any fun fn=>Bz P (fun n=>((cV gl l).fs n).2) fn d.erase)=true) {c:fh} (hG:∀ins outs,(c ins).holds outs→ins.length=d.np∧d.run (cV gl l) ins=some (outs++d.eu.map fun q=>ins.getD q.1 .dead)) :
  dK P (fun n=>(gl n).av) f (fh.fs (c,d.erase.sg)):=by
 cases hf:P.funcs[f]? with
 | none=>rw [hf] at hc;cases hc
 | some fn =>
  rw [hf] at hc
  exact HS (E:=cV gl l) (Mu hE) hf hc hG
theorem all_nil {A:Type} {p:A→Prop}:∀x∈([]:List A),p x:=fun _ h=>by cases h
theorem all_cons {A:Type} {p:A→Prop} {a:A} {l:List A} (h:p a) (t:∀x∈l,p x):∀x∈a :: l,p x:=fun x hx=>by
 rcases bm.1 hx with rfl | hx
 ·exact h
 ·exact t x hx
end Go.Eng
namespace Go.Eng
open Go.RowKit
theorem yy {P:Program} {gl:Nat→AV} {f:Nat} {sg:c7} {c':fh} (h:∀ti gg,(c' ti).holds gg→∃c:fh,dK P gl f (fh.fs (c,sg))∧(c ti).holds gg):dK P gl f (fh.fs (c',sg)):=by
 refine ⟨fun je w R ins outs xs hG h1 h2 h3=>?_,fun i s je=>⟨fun hi w R ins outs xs v es hG h1 h2 h3 h4 h5 h6 h7=>?_,fun hi=>⟨fun Ka w R ins outs xs v es hG h1 h2 h3 h4 h5 h6 h7=>?_,fun Ka w R ins fs xs v es hG h1 h2 h3 h4 h5 h6 h7 h8=>?_⟩⟩⟩
 ·obtain ⟨ti,gg,e1,e2,hc⟩:=hG
  obtain ⟨c,hs,hc⟩:=h ti gg hc
  exact hs.1 je w R ins outs xs ⟨ti,gg,e1,e2,hc⟩ h1 h2 h3
 ·obtain ⟨ti,gg,e1,e2,hc⟩:=hG
  obtain ⟨c,hs,hc⟩:=h ti gg hc
  exact (hs.2 i s je).1 hi w R ins outs xs v es ⟨ti,gg,e1,e2,hc⟩ h1 h2 h3 h4 h5 h6 h7
 ·obtain ⟨ti,gg,e1,e2,hc⟩:=hG
  obtain ⟨c,hs,hc⟩:=h ti gg hc
  exact ((hs.2 i s je).2 hi).1 Ka w R ins outs xs v es ⟨ti,gg,e1,e2,hc⟩ h1 h2 h3 h4 h5 h6 h7
 ·obtain ⟨ti,gg,e1,e2,hc⟩:=hG
  obtain ⟨c,hs,hc⟩:=h ti gg hc
  exact ((hs.2 i s je).2 hi).2 Ka w R ins fs xs v es ⟨ti,gg,e1,e2,hc⟩ h1 h2 h3 h4 h5 h6 h7 h8
theorem Oh (j k:Nat):(lk j=lk k)=(j=k):=propext ⟨fT,fun e=>by rw [e]⟩
theorem Og {k n:Nat} (h:n<1000000):(lk k=n)=False:=by have:=fN k;simp;omega
theorem LA {k n:Nat} (h:n<1000000):(n=lk k)=False:=by have:=fN k;simp;omega
section
variable {E:Env} {Q:MX→Sg→Prop} {σ:Sg}
theorem rg {m:pQ} {ms:List pQ} {ws:List AV} (hg:m.gd=none) (hs:eo E m.k (m.rs.map (cR.ev E σ)) ws) (hl:ws.length=m.ds.length) (h:pN E (.eY ms) Q (bP σ m.ds ws)):pN E (.eY (m :: ms)) Q σ:=by
 obtain ⟨dC,h1,h2⟩:=h
 refine ⟨dC,⟨bP σ m.ds ws,⟨ws,?_,hl,rfl⟩,h1⟩,h2⟩
 rw [hg];exact hs
theorem uC (h:Q .normal σ):pN E (.eY []) Q σ:=⟨σ,rfl,h⟩
theorem sq {a b:M} (h:pN E a (fun e dC=>match e with | .normal=>pN E b Q dC | e=>Q e dC) σ):pN E (.seq a b) Q σ:=by
 show pN E a _ σ
 refine kG (fun e dC q=>?_) h
 cases e with
 | normal=>exact ⟨dC,fun _ => .inl rfl,q⟩
 | exit i=>exact q
 | ret=>exact q
end
def ME (s:Nat):M := .seq (.eY [⟨.mv,[.s 0],[3],none⟩,⟨.Od,[.s 3],[4],none⟩]) (.cond (.s 4) [] (.seq (.eY [⟨.nl 101 s,[.s (lk 101)],[2,lk 101],none⟩]) .ret) .skip)
def GV (s b:Nat):M := .seq (.eY [⟨.blt s 0 102,[.s (lk 102)],[5,lk 102],none⟩,⟨.mv,[.s 0],[6],none⟩,
 ⟨.ap 102 103 s b,[.s 5,.s 6,.s (lk 102),.s (lk 103)],[7,lk 102,lk 103],none⟩,⟨.mv,[.s 7],[2],none⟩]) .ret
def vd (s b:Nat):FD:={ np:=1,m := .seq (.eY [⟨.mv,[.c (.sl s [])],[2],none⟩]) (.seq (ME s) (GV s b)),res:=[.t 2],own:=[(0,s)] }
theorem Bw (E:Env) (s b:Nat) (es:List AV) (hc:∀x∈es,x.cells.length=s) (h1:es.length≤maxLen) (h2:es.length * b≤140737488355328):(vd s b).runs E [.sl s es] [.sl s es]:=by
 have hB:∀σ:Sg,σ 0 = .sl s es→pN E (GV s b) (fun e σ=>match e with | .exit _=>False | _=>(vd s b).An σ [.sl s es]) σ:=by
  intro σ h0
  refine sq (rg (ws:=[.sl s [],.dead]) rfl ⟨rfl,fun x hx=>(by cases hx),rfl⟩ rfl ?_)
  refine rg (ws:=[.sl s es]) rfl (by simp [eo,cR.ev,bP,cI,Oh,Og,LA,h0]) rfl ?_
  refine rg (ws:=[.sl s es,.dead,.dead]) rfl ⟨rfl,rfl,hc,by simpa using h1,by simpa using h2,by simp⟩ rfl ?_
  refine rg (ws:=[.sl s es]) rfl rfl rfl ?_
  refine uC ?_
  exact ⟨[.sl s es],rfl,fun q hq=>(by simp [vd] at hq;subst hq;exact ⟨s,es,rfl⟩),fun q hq=>(by cases hq),rfl⟩
 refine sq (rg (ws:=[.sl s []]) rfl rfl rfl (uC ?_))
 refine sq ?_
 refine sq (rg (ws:=[.sl s es]) rfl rfl rfl ?_)
 cases es with
 | nil =>
  refine rg (ws:=[.ab]) rfl rfl rfl (uC ?_)
  refine .inr ⟨rfl,?_,?_⟩
  ·refine sq (rg (ws:=[.sl s [],.dead]) rfl rfl rfl (uC ?_))
   exact ⟨[.sl s []],rfl,fun q hq=>(by simp [vd] at hq;subst hq;exact ⟨s,[],rfl⟩),fun q hq=>(by cases hq),rfl⟩
  ·exact hB _ rfl
 | cons e es =>
  refine rg (ws:=[.v (.bool false)]) rfl rfl rfl (uC ?_)
  refine .inl ⟨false,rfl,fun h=>(by cases h),fun _=>?_⟩
  exact hB _ rfl
def xS (t:fX) (b:Nat):fh:=fun l=>match l with
 | [.sl t' l]=>if t'=t then .eS (jv l.length b) [.sl t' l] else .err
 | _ => .err
theorem fX.MK (t:fX) (l:List t.El):∀x∈l.map t.av,x.cells.length=t.size:=by
 intro x hx;obtain ⟨y,_,rfl⟩:=aP.1 hx;exact (t.jj y).2
theorem GU {P:Program} {gl:Nat→AV} {t:fX} {b f:Nat} (hc:((P.funcs[f]?).any fun fn=>Bz P (fun _=>{}) fn (vd t.size b))=true):dK P gl f (fh.fs (xS t b,{ own:=[(0,t.size)] })):=by
 cases hf:P.funcs[f]? with
 | none=>rw [hf] at hc;cases hc
 | some fn =>
  rw [hf] at hc
  refine BP (E:=⟨fun _=>fh.fs Fi,gl⟩) (sg:=fun _=>{}) (fun n=>⟨vU,rfl⟩) hf hc rfl ?_
  rintro ins outs ⟨ti,gg,rfl,rfl,h⟩
  replace h:(xS t b ti).holds gg:=h
  unfold xS at h
  split at h
  ·rename_i t' l
   split at h
   ·rename_i e
    subst e
    obtain ⟨h1,rfl⟩:=h
    obtain ⟨h1,h2⟩:=jk.1 h1
    refine ⟨rfl,?_⟩
    exact Bw _ _ _ _ (fX.MK _ l) (by simpa using h1) (by simpa using h2)
   ·exact h.elim
  ·exact h.elim
end Go.Eng
namespace Go.Eng
open Go.RowKit
def mo (P:Program) (n:Nat) (t:TypeId) (A:Type) (g:A→List AV):Prop :=
 ∀(H:Type) (enc:TypeId × Value→H) (w:World) (base:Nat) (spare:Nat→Bool) (held:Bool) (cs:List Value) (x:DataW H × List MemPlace),DataW.trod enc P w base spare held n t cs=some x→∃a:A,dz (Old w) w (g a) cs
section
variable {P:Program} {n:Nat} {t:TypeId}
theorem r8 {k:IntKind} (ht:P.underlying t=some (.int k)):mo P n t Int fun m=>[.v (.int k m)]:=by
 intro H enc w base spare held cs x h
 obtain ⟨m,rfl,_,_⟩:=DataW.trod_int ht h
 exact ⟨m,.cons rfl (.v _) .nil⟩
theorem D5 {n:Int} (h:(Lit.int .u64 n).wf=true):((UInt64.ofInt n).toNat:Int)=n:=by
 have hx:0≤n∧n≤18446744073709551615:=by simpa [Lit.wf,IntKind.min,IntKind.max,IntKind.signed,IntKind.bits] using h
 have e:IntKind.u64.wrap n=n % (18446744073709551616:Nat):=by simp [IntKind.wrap,IntKind.bits,IntKind.signed]
 rw [rN,e];omega
theorem pC (ht:P.underlying t=some (.int .u64)):mo P n t UInt64 fun m=>[jx m]:=by
 intro H enc w base spare held cs x h
 obtain ⟨m,rfl,_,hw⟩:=DataW.trod_int ht h
 refine ⟨UInt64.ofInt m,.cons rfl ?_ .nil⟩
 rw [jx,D5 hw];exact .v _
theorem ES (ht:P.underlying t=some (.int .u8)):mo P n t UInt8 fun m=>[fg m]:=by
 intro H enc w base spare held cs x h
 obtain ⟨m,rfl,_,hw⟩:=DataW.trod_int ht h
 refine ⟨UInt8.ofInt m,.cons rfl ?_ .nil⟩
 rw [fg,Nn hw];exact .v _
theorem pD (ht:P.underlying t=some .string):mo P n t bO fun m=>[gR m]:=by
 intro H enc w base spare held cs x h
 obtain ⟨m,rfl,_,_⟩:=DataW.trod_string ht h
 exact ⟨m.data.toList,.cons rfl (.v _) .nil⟩
theorem ow {e:TypeId} {A:Type} {av:A→AV} {s:Nat} (ht:P.underlying t=some (.slice e)) (hs:P.cellsOf e=s) (nT:0<s) (W3:∀a,(av a).cells.length=s) (he:∀m,m<n→mo P m e A fun a=>(av a).cells):mo P n t (List A) fun l=>[.sl s (l.map av)]:=by
 intro H enc w base spare held cs x h
 rcases DataW.trod_slice ht h with ⟨rfl,_⟩ | ⟨a,len,cap,elems,rest,m,rfl,rfl,_,_,h2,h3,h4,h5,_,_⟩
 ·exact ⟨[],.cons rfl (.nil _) .nil⟩
 ·by_cases h0:len=0
  ·subst h0;exact ⟨[],.cons rfl (.em _ h3) .nil⟩
  ·have get:∀i,i<len→∃ys,w.cells? base (a.add (i * s)) s=some ys∧∃y:A,dz (Old w) w (av y).cells ys:=fun i hi=>by
    have:=h5 i hi
    rw [hs] at this
    have eW:i<elems.length:=by omega
    rw [aA eW] at this
    obtain ⟨ys,h6,h7⟩:=bf.1 this
    exact ⟨ys,h6,he m (Nat.lt_succ_self m) H enc w base spare held ys _ h7⟩
   have JY:a.spot=none:=by
    obtain ⟨ys,h6,_⟩:=get 0 (by omega)
    obtain ⟨_,h7,h8⟩:=World.cells?_some h6
    have h9:=h8 0 nT
    cases hy:ys[0]? with
    | none=>rw [List.getElem?_eq_none_iff] at hy;omega
    | some y=>rw [hy] at h9;simpa [Addr.add] using World.cell?_spot h9
   obtain ⟨b,off,spot⟩:=a
   simp only at JY
   subst JY
   have key:∀k i,i+k=len→∃l:List A,l.length=k∧iw (Old w) w s (l.map av) b (off+i * s):=by
    intro k
    induction k with
    | zero=>exact fun i _=>⟨[],rfl,.nil _ _ _⟩
    | succ k ih =>
     intro i hi
     obtain ⟨l,hl,hE⟩:=ih (i+1) (by omega)
     obtain ⟨ys,h6,y,h7⟩:=get i (by omega)
     obtain ⟨_,h8,h9⟩:=World.cells?_some h6
     refine ⟨y :: l,by simp [hl],.cons (k0.write (W3 y) h7 (fun j hj=>?_) (fun j z hz=>?_)) ?_⟩
     ·have kP:=h9 j hj
      have WI:j<ys.length:=by omega
      rw [aA WI] at kP
      have eW:b<w.heap.size:=by
       by_cases eW:b<w.heap.size
       ·exact eW
       ·have:w.heap[b]?=none:=Array.getElem?_eq_none (by omega)
        rw [fJ,fJ] at kP
        simp only [World.cell?,this] at kP
        cases kP
      exact eW
     ·have hj:j<s:=by have:=(aF.1 hz).1;omega
      have kP:=h9 j hj
      rw [hz,fJ,fJ] at kP
      exact kP
     ·rw [show off+i * s+s=off+(i+1) * s by rw [Nat.succ_mul];omega];exact hE
   obtain ⟨l,hl,hE⟩:=key len 0 (by omega)
   refine ⟨l,.cons rfl (.sl (by simp [hl]) h2 h3 ?_) .nil⟩
   simpa using hE
def lS (P:Program) (n:Nat) (fs:List (TypeId × Nat)) (off:Nat) (A:Type) (g:A→List AV):Prop :=
 ∀(H:Type) (enc:TypeId × Value→H) (w:World) (base:Nat) (spare:Nat→Bool) (held:Bool) (cs:List Value),(∀f∈fs,∃x:DataW H × List MemPlace,DataW.trod enc P w base spare held n f.1 ((cs.drop f.2).take (P.cellsOf f.1))=some x)→cs.length=off+(fs.map fun f=>P.cellsOf f.1).sum→∃a:A,dz (Old w) w (g a) (cs.drop off)
theorem wZ {off:Nat}:lS P n [] off Unit fun _=>[]:=by
 intro H enc w base spare held cs _ hl
 refine ⟨(),?_⟩
 rw [bc (by simp at hl;omega)];exact .nil
theorem gb {t:TypeId} {fs:List (TypeId × Nat)} {off c:Nat} {A B:Type} {g:A→List AV} {g':B→List AV} (hc:P.cellsOf t=c) (h:mo P n t A g) (hr:lS P n fs (off+c) B g'):lS P n ((t,off) :: fs) off (A × B) fun p=>g p.1++g' p.2:=by
 subst hc
 intro H enc w base spare held cs hx hl
 obtain ⟨x,h1⟩:=hx (t,off) (List.mem_cons_self ..)
 obtain ⟨a,ha⟩:=h H enc w base spare held _ x h1
 obtain ⟨b,hb⟩:=hr H enc w base spare held cs (fun f' M6=>hx f' (List.mem_cons_of_mem _ M6)) (by simp only [ah,List.sum_cons] at hl;omega)
 refine ⟨(a,b),?_⟩
 have e:cs.drop off=(cs.drop off).take (P.cellsOf t)++cs.drop (off+P.cellsOf t):=by
  rw [←List.drop_drop];exact (List.take_append_drop _ _).symm
 rw [e];exact ha.append hb
theorem nw {fs:Array Field} {l:List (TypeId × Nat)} {A B:Type} {g:A→List AV} {g':B→List AV} (ht:P.underlying t=some (.struct fs)) (hl:(fs.toList.map fun f=>(f.type,f.offset))=l) (hc:P.cellsOf t=(l.map fun f=>P.cellsOf f.1).sum) (hr:∀m,m<n→lS P m l 0 A g) (f:A→B) (hf:∀a,g a=g' (f a)):mo P n t B g':=by
 intro H enc w base spare held cs x h
 obtain ⟨xs,m,rfl,_,h1,h2,h3⟩:=DataW.trod_struct ht h
 obtain ⟨a,ha⟩:=hr m (Nat.lt_succ_self m) H enc w base spare held cs (fun p hp=>by
  rw [←hl] at hp
  obtain ⟨f,hf,rfl⟩:=aP.1 hp
  obtain ⟨i,hi⟩:=bk hf
  have eW:=(aF.1 hi).1
  have:=h3 i f (by simpa using hi)
  have Bf:i<xs.length:=by rw [h2];simpa using eW
  rw [aA Bf] at this
  exact ⟨_,this⟩) (by rw [h1,hc];simp)
 exact ⟨f a,by rw [←hf];simpa using ha⟩
def fieldsOf (P:Program) (t:TypeId):Option (List (TypeId × Nat)):=match P.underlying t with
 | some (.struct fs)=>some (fs.toList.map fun f=>(f.type,f.offset))
 | _=>none
theorem mG {l:List (TypeId × Nat)} (h:fieldsOf P t=some l):∃fs,P.underlying t=some (.struct fs)∧(fs.toList.map fun f=>(f.type,f.offset))=l:=by
 unfold fieldsOf at h
 split at h
 ·rename_i fs e;cases h;exact ⟨fs,e,rfl⟩
 ·cases h
structure xX (P:Program) (tv tf tk ti tu ts tb ty:TypeId):Prop where
 v:fieldsOf P tv=some [(ti,0),(tu,1),(tu,2),(tu,3),(ts,4),(ts,5),(ti,6),(tb,7),(tk,8)]
 f:fieldsOf P tf=some [(ts,0),(tv,1)]
 k:P.underlying tk=some (.slice tf)
 i:P.underlying ti=some (.int .i64)
 u:P.underlying tu=some (.int .u64)
 s:P.underlying ts=some .string
 b:P.underlying tb=some (.slice ty)
 y:P.underlying ty=some (.int .u8)
 cv:P.cellsOf tv=9
 cf:P.cellsOf tf=10
 ck:P.cellsOf tk=1
 ci:P.cellsOf ti=1
 cu:P.cellsOf tu=1
 cs:P.cellsOf ts=1
 cb:P.cellsOf tb=1
 cy:P.cellsOf ty=1
def pr.BD (v:pr):List AV:=(pr.cells v).map TV.av
theorem sV {y:TypeId} (ht:P.underlying t=some (.slice y)) (hy:P.underlying y=some (.int .u8)) (hc:P.cellsOf y=1):mo P n t bO fun l=>[jY l] :=
 ow (av:=fg) ht hc (by omega) (fun _=>rfl) fun _ _=>ES hy
theorem xX.val {tv tf tk ti tu ts tb ty:TypeId} (T:xX P tv tf tk ti tu ts tb ty):∀n,mo P n tv pr pr.BD∧mo P n tf nh fun f=>(rf f).cells:=by
 intro n
 induction n using Nat.strongRecOn with
 | _ n ih =>
  have hv:∀m,m≤n→(∀k,k<m→mo P k tf nh fun f=>(rf f).cells)→mo P m tv pr pr.BD:=fun m hm V4=>by
   obtain ⟨fs,h1,h2⟩:=mG T.v
   have R:=fun (k:Nat) (hk:k<m)=>(gb (off:=0) T.ci (r8 T.i) (gb T.cu (pC T.u) (gb T.cu (pC T.u) (gb T.cu (pC T.u) (gb T.cs (pD T.s) (gb T.cs (pD T.s) (gb T.ci (r8 T.i) (gb T.cb (sV T.b T.y T.cy)
     (gb T.ck (ow (av:=rf) T.k T.cf (by omega) (fun f=>by cases f;rfl) fun j hj=>V4 j (by omega)) wZ)))))))):lS P k _ 0 _ _)
   exact nw h1 h2 (by simp [T.cv,T.ci,T.cu,T.cs,T.cb,T.ck]) R (fun a=>(⟨a.1,a.2.1,a.2.2.1,a.2.2.2.1,a.2.2.2.2.1,a.2.2.2.2.2.1,a.2.2.2.2.2.2.1,a.2.2.2.2.2.2.2.1,a.2.2.2.2.2.2.2.2.1⟩:pr)) (fun a=>rfl)
  refine ⟨hv n (Nat.le_refl n) fun k hk=>(ih k hk).2,?_⟩
  obtain ⟨fs,h1,h2⟩:=mG T.f
  have R:=fun (k:Nat) (hk:k<n)=>(gb (off:=0) T.cs (pD T.s) (gb T.cv (hv k (by omega) fun j hj=>(ih j (by omega)).2) wZ):lS P k _ 0 _ _)
  exact nw h1 h2 (by simp [T.cf,T.cv,T.cs]) R (fun a=>nh.of a.1 a.2.1) (fun a=>by
   simp [rf,nh.of,AV.cells,pr.BD,pr.cells,TV.av,nK,fX.size,fX.av,gR,wo,jx,jY])
theorem xX.rep {tv tf tk ti tu ts tb ty:TypeId} (T:xX P tv tf tk ti tu ts tb ty) {H:Type} {enc:TypeId × Value→H} {w:World} {base:Nat} {spare:Nat→Bool} {held:Bool} {cs:Array Value} {d:DataW H} {p:List MemPlace} (h:DataW.Trod enc P w base spare held tv (.agg cs) d p) :
  ∃v:pr,Rep (Old w) w (TV.av (.ag (pr.cells v))) (.agg cs):=by
 obtain ⟨n,h⟩:=h
 obtain ⟨v,hv⟩:=(T.val n).1 H enc w base spare held _ _ h
 refine ⟨v,?_⟩
 simp only [TV.av,TV.eZ]
 exact .ag (by have hv:dz (Old w) w (v.cells.map TV.av) _:=hv;simpa [Value.cells] using hv)
end
end Go.Eng
namespace Go.Eng
open Go.RowKit
theorem sI {w w':World} {R:Reach} (hR:∀b o,R b o→b<w.heap.size) (h:Below w.heap.size w w'):Ext w R (fun _=>False) w' R :=
 ⟨h.os,h.tape,h.output,h.size,fun b hb _=>h.block b hb,fun b o hr=>⟨hr,by simp only [World.cell?,h.block b (hR b o hr)]⟩,fun b o hr => .inl hr⟩
theorem kh {P:Program} {gl:Nat→AV} {f:Nat} {c:fh} (h:∀(ti gg:List TV) (w:World) (R:Reach) (xs:List Value),(c ti).holds gg→fo R w (ti.map TV.av) xs→(∀b o,R b o→b<w.heap.size)→(∀n,Rep R w (gl n) (.pointer (some ⟨n,0,none⟩))) →
  Calls P f ⟨xs⟩ w fun e w'=>∃x,e = .returned x∧Below w.heap.size w w'∧∀R w',fo R w' (gg.map TV.av) [x]):dK P gl f (fh.fs (c,{})):=by
 refine ⟨fun _ w R ins outs xs hG hR xx ha=>?_,fun _ _ h=>by cases h⟩
 obtain ⟨ti,gg,rfl,rfl,hc⟩:=hG
 refine (h ti gg w R xs hc ha hR xx).mono ?_
 rintro e w' ⟨x,rfl,hb,hx⟩
 refine ⟨x,R,rfl,sI hR hb,fun b o hr=>Nat.lt_of_lt_of_le (hR b o hr) hb.size,?_⟩
 have hl:gg.length=1:=by
  have:=(hx R w').length
  simpa using this
 refine ⟨[x],[],[],[],0,0,[],[],rfl,rfl,by simp [hl,fh.fs],?_,fun j hj=>by simp [fh.fs] at hj,fun j hj=>by simp [fh.fs] at hj,rfl,rfl,rfl,?_,?_,?_,?_,?_,?_⟩
 ·have e:(List.mapIdx (fun i y=>if (fh.fs (c,{})).sg.new=some i then AV.pt else y) ((gg.map TV.av).take (fh.fs (c,{})).sg.bQ))=gg.map TV.av:=by
   match gg,hl with
   | [a],_=>rfl
  rw [e];exact hx R w'
 all_goals intros
 all_goals simp_all [fh.fs,kj]
section
variable {R:Reach} {w:World}
end
structure xZ (P:Program) (t tk ti tu ts tb ty:TypeId):Prop where
 v:fieldsOf P t=some [(ti,0),(tu,1),(tb,2),(ts,3),(tk,4)]
 k:P.underlying tk=some (.slice t)
 i:P.underlying ti=some (.int .i64)
 u:P.underlying tu=some (.int .u64)
 s:P.underlying ts=some .string
 b:P.underlying tb=some (.slice ty)
 y:P.underlying ty=some (.int .u8)
 cv:P.cellsOf t=5
 ck:P.cellsOf tk=1
 ci:P.cellsOf ti=1
 cu:P.cellsOf tu=1
 cs:P.cellsOf ts=1
 cb:P.cellsOf tb=1
 cy:P.cellsOf ty=1
section
variable {P:Program} {t tk ti tu ts tb ty:TypeId}
theorem xZ.VY (T:xZ P t tk ti tu ts tb ty):∀n,mo P n t nQ fun f=>(oF f).cells:=by
 intro n
 induction n using Nat.strongRecOn with
 | _ n ih =>
  obtain ⟨fs,h1,h2⟩:=mG T.v
  have R:=fun (k:Nat) (hk:k<n)=>(gb (off:=0) T.ci (r8 T.i) (gb T.cu (pC T.u) (gb T.cb (sV T.b T.y T.cy) (gb T.cs (pD T.s)
   (gb T.ck (ow (av:=oF) T.k T.cv (by omega) (fun f=>by cases f;rfl) fun j hj=>ih j (by omega)) wZ)))):lS P k _ 0 _ _)
  exact nw h1 h2 (by simp [T.cv,T.ci,T.cu,T.cs,T.cb,T.ck]) R (fun a=>nQ.mk a.1 a.2.1 a.2.2.1 a.2.2.2.1 a.2.2.2.2.1) (fun a=>by
   simp [oF,AV.cells,lN,gR,wo,jx,jY])
theorem xZ.rep (T:xZ P t tk ti tu ts tb ty) {H:Type} {enc:TypeId × Value→H} {w:World} {base:Nat} {spare:Nat→Bool} {held:Bool} {cs:Array Value} {d:DataW H} {p:List MemPlace} (h:DataW.Trod enc P w base spare held t (.agg cs) d p) :
  ∃v:MT,Rep (Old w) w (TV.av (.ag (MT.cells v))) (.agg cs):=by
 obtain ⟨n,h⟩:=h
 obtain ⟨v,hv⟩:=T.VY n H enc w base spare held _ _ h
 refine ⟨v.val,?_⟩
 cases v with | mk k n b s ks =>
 simp only [TV.av,TV.eZ,MT.cells,nQ.val,nQ.kind,nQ.n,nQ.bytes,nQ.text,nQ.kids,ah,aq,fX.size,fX.av]
 refine .ag ?_
 have hv:dz (Old w) w (oF (nQ.mk k n b s ks)).cells _:=hv
 show dz (Old w) w [wo k,jx n,jY b,gR s,.sl 5 (ks.map oF)] _
 simpa [oF,AV.cells,lN,gR,wo,jx,jY,Value.cells] using hv
end
theorem rep_u64 {R:Reach} {w:World} {n:Int} (h:(Lit.int .u64 n).wf=true):Rep R w (TV.av (.u64 (UInt64.ofInt n))) (.int .u64 n):=by
 have e:TV.av (.u64 (UInt64.ofInt n)) = .v (.int .u64 ((UInt64.ofInt n).toNat:Int)):=rfl
 rw [e,D5 h];exact .v _
end Go.Eng
namespace Go.Eng
open Go.RowKit Go.Sort
def Mq:List (Nat × TV)→Nat→TV
 | [],_ => .dead
 | (k,v) :: r,n=>cond (Nat.beq n k) v (Mq r n)
def vx (k:IntKind) (zs:List Int):TV := .gv (zs.map fun z=>Value.int k z)
theorem wu {P:Program} {w:World} {name:String} {k:IntKind} {zs:List Int} {g:Nat} (h:Lib.TabIs P w name k zs) (hg:P.globalNamed name=some g):Rep (Old w) w (vx k zs).av (.pointer (some ⟨g,0,none⟩)):=by
 have hs:g<w.heap.size:=by
  unfold Lib.TabIs World.var? at h
  rw [hg] at h
  simp only [Option.bind_some] at h
  cases hh:w.heap[g]? with
  | none=>rw [hh] at h;cases h
  | some x=>exact (Array.getElem?_eq_some_iff.1 hh).1
 exact .gv (fun _=>hs) (fun o=>by have:=World.var?_cell hg h o;simpa using this)
theorem vR {P:Program} {R:Reach} {w:World} {name:String} {k:IntKind} {z:Int} {zs:List Int} {g:Nat} (h:Rep R w (vx k (z :: zs)).av (.pointer (some ⟨g,0,none⟩))) (hg:P.globalNamed name=some g):Lib.TabIs P w name k (z :: zs):=by
 have h:Rep R w (.gv ((z :: zs).map fun z=>Value.int k z)) (.pointer (some ⟨g,0,none⟩)):=h
 cases h with
 | gv h1 h2 =>
  have h0:=h2 0
  unfold Lib.TabIs World.var?
  rw [hg]
  simp only [Option.bind_some]
  simp only [World.cell?] at h0 h2
  cases hh:w.heap[g]? with
  | none=>rw [hh] at h0;cases h0
  | some x =>
   rw [hh] at h0 h2
   cases x with
   | cells cs e f =>
    simp only at h2 ⊢
    congr 1
    apply Array.ext_getElem?
    intro i
    have:=h2 i
    simp only [Option.isSome_none,aY,if_false] at this
    rw [this]
    simp
   | _=>cases h0
theorem Mp {P:Program} {w:World} {name:String} {k:IntKind} {zs:List Int} {g:Nat} (h:Lib.TabIs P w name k zs) (hg:P.globalNamed name=some g):∀n,Rep (Old w) w ((Mq [(g,vx k zs)] n).av) (.pointer (some ⟨n,0,none⟩)):=by
 intro n
 unfold Mq
 cases hb:Nat.beq n g with
 | true=>rw [ax hb];exact wu h hg
 | false=>exact .dead _
theorem qn (w:World) (k:Nat) (os:Array Obj):Below w.heap.size w (grow (w.drewN k) os) :=
 ⟨rfl,rfl,rfl,by show w.heap.size≤(w.heap++os).size;simp,fun i hi=>heap_grow_old (w.drewN k) os hi⟩
def JV:fh:=fun l=>match l with
 | [.i .i64 n] => .eS (decide (-9223372036854775808≤n∧n≤9223372036854775807)) [.s (Lib.itoa n)]
 | _ => .err
theorem nG {P:Program} {gl:Nat→TV} {f g:Nat} {k:IntKind} {z:Int} {zs:List Int} (xx:(gl g)=vx k (z :: zs))
  (h:∃name,P.globalNamed name=some g∧∀(n:Int),-9223372036854775808≤n→n≤9223372036854775807→∀w:World,Lib.TabIs P w name k (z :: zs)→Calls P f #[.int .i64 n] w fun e w'=>e = .returned (.string ⟨(Lib.itoa n).toArray⟩)∧∃k os,w'=grow (w.drewN k) os) :
  dK P (fun n=>(gl n).av) f (fh.fs (JV,{})):=by
 obtain ⟨name,hg,h⟩:=h
 refine kh fun ti gg w R xs hc ha hR hG=>?_
 unfold JV at hc
 split at hc
 ·rename_i n
  obtain ⟨hp,rfl⟩:=hc
  have hp:=aM hp
  have e:xs=[.int .i64 n]:=by
   have ha:fo R w [.v (.int .i64 n)] xs:=ha
   cases ha with
   | cons a b=>cases a;cases b;rfl
  subst e
  have kn:=hG g
  rw [xx] at kn
  refine (h n hp.1 hp.2 w (vR kn hg)).mono ?_
  rintro e w' ⟨rfl,q,os,rfl⟩
  refine ⟨_,rfl,qn _ _ _,fun R w'=>?_⟩
  have:Rep R w' (.v (.string ⟨⟨Lib.itoa n⟩⟩)) (.string ⟨(Lib.itoa n).toArray⟩) := .v _
  exact .cons this .nil
 ·exact hc.elim
def ie (n:Nat):bO:=if h:n<10 then [UInt8.ofNat (48+n)] else ie (n / 10)++[UInt8.ofNat (48+n % 10)]
termination_by n
decreasing_by omega
end Go.Eng
namespace Go.Eng
open Ieee
namespace Fl
def pr (m:Nat) (p:Int) (N:Nat):Prop:=m * 2 ^ p.toNat=N * 2 ^ (-p).toNat
def W (b:Nat) (n:Int):Prop:=∃s m p,double.read b = .number s m p∧pr m p n.natAbs∧(n<0→s=true)∧(0<n→s=false)
theorem wB (s:Bool) (k d:Nat) (h:d≤(k * 2 ^ d).log2+2):Toward.even.cut s (k * 2 ^ d) d=k:=by
 unfold Toward.cut
 rw [Nat.min_eq_left h,Nat.one_shiftLeft]
 have hp:0<2 ^ d:=Nat.two_pow_pos d
 have h1:k * 2 ^ d / 2 ^ d=k:=Nat.mul_div_cancel k hp
 have h2:k * 2 ^ d % 2 ^ d=0:=Nat.mul_mod_left k (2 ^ d)
 simp only [h1,h2]
 have h3:¬(2 ^ d<2 * 0):=by omega
 have h4:(2 ^ d == 2 * 0)=false:=by rw [beq_eq_false_iff_ne];omega
 simp [h3,h4]
theorem Tz (s:Bool) (n:Nat):Toward.even.cut s n 0=n:=by
 have:=wB s n 0 (Nat.zero_le _)
 rwa [Nat.pow_zero,Nat.mul_one] at this
theorem nF (N k:Nat) (h:N≠0):(N * 2 ^ k).log2=N.log2+k:=by
 have hp:0<2 ^ k:=Nat.two_pow_pos k
 have hn:N * 2 ^ k≠0:=Nat.mul_ne_zero h (by omega)
 refine (Nat.log2_eq_iff hn).2 ⟨?_,?_⟩
 ·rw [Nat.pow_add];exact ar _ (Nat.log2_self_le h)
 ·rw [show N.log2+k+1=N.log2+1+k by omega,Nat.pow_add]
  exact Nat.mul_lt_mul_of_pos_right Nat.lt_log2_self hp
set_option maxRecDepth 10000 in
theorem yi (s:Bool) (m:Nat) (p:Int) (N:Nat) (hN:N≤9007199254740992) (hv:pr m p N):∃K q,double.read (double.write (.number s m p)) = .number s K q∧pr K q N:=by
 have hw:double.signWeight=2 ^ 63:=rfl
 have hB:double.binade=4503599627370496:=rfl
 have hI:double.infRung=2047 * 4503599627370496:=rfl
 have QV:double.leastPlace=-1074:=by decide
 have J1:∀oh,oh<2 ^ 63→double.read (double.word s oh)=(if oh<4503599627370496 then .number s oh (-1074) else if oh<2047 * 4503599627370496 then .number s (4503599627370496+oh % 4503599627370496) (-1074+(oh / 4503599627370496 - 1:Nat)) else if oh=2047 * 4503599627370496 then .infinity s else .nan s (oh - 2047 * 4503599627370496)):=by
  intro oh hr
  unfold Format.read Format.word
  simp only [hw,hB,hI,QV]
  have e1:(if s=true then 2 ^ 63+oh else oh) % 2 ^ 63=oh:=by cases s <;> simp <;> omega
  have e2:((if s=true then 2 ^ 63+oh else oh) / 2 ^ 63 % 2 == 1)=s:=by
   cases s
   ·have:oh / 2 ^ 63=0:=Nat.div_eq_of_lt hr
    simp only [aY,if_false];rw [this];rfl
   ·have:(2 ^ 63+oh) / 2 ^ 63=1:=by rw [Nat.add_div_left _ (by decide),Nat.div_eq_of_lt hr]
    simp only [if_true];rw [this];rfl
  rw [e1,e2]
 by_cases hm:m=0
 ·subst hm
  refine ⟨0,-1074,?_,?_⟩
  ·unfold Format.write Format.nearest
   simp only [if_true]
   rw [J1 0 (by decide),aG (by decide)]
  ·unfold pr at hv ⊢
   have P3:N=0:=by
    rw [Nat.zero_mul] at hv
    rcases Nat.mul_eq_zero.1 hv.symm with h | h
    ·exact h
    ·exact absurd h (Nat.pos_iff_ne_zero.1 (Nat.two_pow_pos _))
   rw [P3,Nat.zero_mul,Nat.zero_mul]
 ·have P3:N≠0:=fun h=>by
   unfold pr at hv
   rw [h,Nat.zero_mul] at hv
   rcases Nat.mul_eq_zero.1 hv with h | h
   ·exact hm h
   ·exact absurd h (Nat.pos_iff_ne_zero.1 (Nat.two_pow_pos _))
  -- where the digits YX
  have WA:p+m.log2=N.log2:=by
   unfold pr at hv
   have h1:=nF m p.toNat hm
   have h2:=nF N (-p).toNat P3
   rw [hv] at h1
   omega
  have hl:N.log2≤53:=by
   have:=Nat.log2_self_le P3
   have h3:2 ^ N.log2<2 ^ 54:=by omega
   have:=(Nat.pow_lt_pow_iff_right (show 1<2 by decide)).1 h3
   omega
  have J4:=Nat.log2_self_le P3
  have qV:N<2 ^ (N.log2+1):=Nat.lt_log2_self
  obtain ⟨L,hL⟩:∃L:Int,L=(N.log2:Int) - 52:=⟨_,rfl⟩
  obtain ⟨K,k1,k2,k3,k4,k5⟩:∃K:Nat,pr K L N∧4503599627370496≤K∧K<9007199254740992∧(L≤p→m * 2 ^ (p - L).toNat=K)∧(p<L→m=K * 2 ^ (L - p).toNat):=by
   unfold pr at hv
   by_cases hc:N.log2≤52
   ·have eL:L.toNat=0:=by omega
    have Xx:(-L).toNat=52 - N.log2:=by omega
    refine ⟨N * 2 ^ (52 - N.log2),?_,?_,?_,fun h=>?_,fun h=>?_⟩
    ·unfold pr;rw [eL,Xx,Nat.pow_zero,Nat.mul_one]
    ·have:=ar (2 ^ (52 - N.log2)) J4
     rw [←Nat.pow_add,show N.log2+(52 - N.log2)=52 by omega] at this
     exact this
    ·have:=Nat.mul_lt_mul_of_pos_right qV (Nat.two_pow_pos (52 - N.log2))
     rw [←Nat.pow_add,show N.log2+1+(52 - N.log2)=53 by omega] at this
     exact this
    ·by_cases h0:0≤p
     ·rw [show (-p).toNat=0 by omega,Nat.pow_zero,Nat.mul_one] at hv
      rw [show (p - L).toNat=p.toNat+(52 - N.log2) by omega,Nat.pow_add,←Nat.mul_assoc,hv]
     ·rw [show p.toNat=0 by omega,Nat.pow_zero,Nat.mul_one] at hv
      rw [hv,Nat.mul_assoc,←Nat.pow_add,show (-p).toNat+(p - L).toNat=52 - N.log2 by omega]
    ·rw [show p.toNat=0 by omega,Nat.pow_zero,Nat.mul_one] at hv
     rw [hv,Nat.mul_assoc,←Nat.pow_add,show 52 - N.log2+(L - p).toNat=(-p).toNat by omega]
   ·have Xy:N.log2=53:=by omega
    have eN:N=9007199254740992:=by
     rw [Xy] at J4
     omega
    have eL:L=1:=by omega
    subst eL
    refine ⟨4503599627370496,?_,by decide,by decide,fun h=>?_,fun h=>?_⟩
    ·unfold pr;rw [eN];rfl
    ·rw [show (-p).toNat=0 by omega,Nat.pow_zero,Nat.mul_one,show p.toNat=(p - 1).toNat+1 by omega,Nat.pow_succ,eN,←Nat.mul_assoc] at hv
     omega
    ·rw [show p.toNat=0 by omega,Nat.pow_zero,Nat.mul_one,eN] at hv
     rw [hv,show (1 - p).toNat=(-p).toNat+1 by omega,Nat.pow_succ]
     omega
  have PF:Toward.even.cut s (m <<< (p - L).toNat) (L - p).toNat=K:=by
   rw [Nat.shiftLeft_eq]
   by_cases h:L≤p
   ·rw [k4 h,show (L - p).toNat=0 by omega];exact Tz s K
   ·have e:=k5 (by omega)
    rw [show (p - L).toNat=0 by omega,Nat.pow_zero,Nat.mul_one,e]
    refine wB s K _ ?_
    rw [←e];omega
  have Y2:(L+1074).toNat * 4503599627370496+K<2047 * 4503599627370496:=by omega
  refine ⟨K,L,?_,k1⟩
  unfold Format.write Format.nearest
  simp only [aE hm,hB,hI,QV,show double.fractionBits=52 from rfl]
  rw [show max (p+(m.log2:Int) - ((52:Nat):Int)) (-1074)=L by omega,PF,show L - -1074=L+1074 by omega,Nat.min_eq_left (by omega),J1 _ (by omega),aE (by omega),aG (by omega)]
  have r1:((L+1074).toNat * 4503599627370496+K) % 4503599627370496=K - 4503599627370496:=by omega
  have r2:((L+1074).toNat * 4503599627370496+K) / 4503599627370496=(L+1074).toNat+1:=by omega
  have r3:4503599627370496+(K - 4503599627370496)=K:=by omega
  have r4 : -1074+(((L+1074).toNat+1 - 1:Nat):Int)=L:=by omega
  rw [r1,r2,r3,r4]
def WD (d:Datum) (n:Int):Prop:=∃s m p,d = .number s m p∧pr m p n.natAbs∧(n<0→s=true)∧(0<n→s=false)
theorem WD.write {d:Datum} {n:Int} (h:WD d n) (hn:n.natAbs≤9007199254740992):W (double.write d) n:=by
 obtain ⟨s,m,p,rfl,hv,h1,h2⟩:=h
 obtain ⟨K,q,hr,hk⟩:=yi s m p n.natAbs hn hv
 exact ⟨s,K,q,hr,hk,h1,h2⟩
theorem W.map {d:Datum} {n:Int} {o:Option Datum} (ho:o=some d) (h:WD d n) (hn:n.natAbs≤9007199254740992):∃r,o.map double.write=some r∧W r n:=⟨_,by rw [ho];rfl,h.write hn⟩
theorem WD.product {d e:Datum} {x y:Int} (hx:WD d x) (hy:WD e y):∃r,d.product e=some r∧WD r (x * y):=by
 obtain ⟨s,m,i,rfl,hv,h1,h2⟩:=hx
 obtain ⟨t,n,j,rfl,hw,g1,g2⟩:=hy
 refine ⟨_,rfl,_,_,_,rfl,?_,?_,?_⟩
 ·unfold pr at *
  rw [Int.natAbs_mul]
  obtain ⟨c,xA,IW⟩:∃c:Nat,i.toNat+j.toNat=(i+j).toNat+c∧(-i).toNat+(-j).toNat=(-(i+j)).toNat+c:=by
   refine ⟨i.toNat+j.toNat - (i+j).toNat,?_,?_⟩ <;> omega
  have h:m * n * 2 ^ (i.toNat+j.toNat)=x.natAbs * y.natAbs * 2 ^ ((-i).toNat+(-j).toNat):=by
   rw [Nat.pow_add,Nat.pow_add]
   calc m * n * (2 ^ i.toNat * 2 ^ j.toNat)=(m * 2 ^ i.toNat) * (n * 2 ^ j.toNat):=by ac_rfl
    _=(x.natAbs * 2 ^ (-i).toNat) * (y.natAbs * 2 ^ (-j).toNat):=by rw [hv,hw]
    _=x.natAbs * y.natAbs * (2 ^ (-i).toNat * 2 ^ (-j).toNat):=by ac_rfl
  rw [xA,IW,Nat.pow_add,Nat.pow_add,←Nat.mul_assoc,←Nat.mul_assoc] at h
  exact Nat.eq_of_mul_eq_mul_right (Nat.two_pow_pos c) h
 ·intro h
  rcases Int.lt_or_lt_of_ne (show x≠0 from fun e=>by rw [e,Int.zero_mul] at h;omega) with a | a
  ·have:0<y:=by
    rcases Int.lt_or_lt_of_ne (show y≠0 from fun e=>by rw [e,Int.mul_zero] at h;omega) with b | b
    ·have:=Int.mul_pos_of_neg_of_neg a b;omega
    ·exact b
   rw [h1 a,g2 this];rfl
  ·have:y<0:=by
    rcases Int.lt_or_lt_of_ne (show y≠0 from fun e=>by rw [e,Int.mul_zero] at h;omega) with b | b
    ·exact b
    ·have:=Int.mul_pos a b;omega
   rw [h2 a,g1 this];rfl
 ·intro h
  rcases Int.lt_or_lt_of_ne (show x≠0 from fun e=>by rw [e,Int.zero_mul] at h;omega) with a | a
  ·have:y<0:=by
    rcases Int.lt_or_lt_of_ne (show y≠0 from fun e=>by rw [e,Int.mul_zero] at h;omega) with b | b
    ·exact b
    ·have:=Int.mul_neg_of_neg_of_pos a b;omega
   rw [h1 a,g1 this];rfl
  ·have:0<y:=by
    rcases Int.lt_or_lt_of_ne (show y≠0 from fun e=>by rw [e,Int.mul_zero] at h;omega) with b | b
    ·have:=Int.mul_neg_of_pos_of_neg a b;omega
    ·exact b
   rw [h2 a,g2 this];rfl
theorem lF {s:Bool} {m:Nat} {i base:Int} {x:Int} (hv:pr m i x.natAbs) (h1:x<0→s=true) (h2:0<x→s=false) (hb:base≤i):Ieee.signed s m (i - base).toNat * (2:Int) ^ base.toNat=x * (2:Int) ^ (-base).toNat:=by
 unfold pr at hv
 have hN:m * 2 ^ (i - base).toNat * 2 ^ base.toNat=x.natAbs * 2 ^ (-base).toNat:=by
  obtain ⟨c,xA,IW⟩:∃c:Nat,(i - base).toNat+base.toNat+c=i.toNat+((i - base).toNat+base.toNat+c - i.toNat)∧c=(-i).toNat:=⟨_,by omega,rfl⟩
  have e1:(i - base).toNat+base.toNat+(-i).toNat=i.toNat+(-base).toNat:=by omega
  have h:m * 2 ^ (i - base).toNat * 2 ^ base.toNat * 2 ^ (-i).toNat=x.natAbs * 2 ^ (-base).toNat * 2 ^ (-i).toNat:=by
   calc m * 2 ^ (i - base).toNat * 2 ^ base.toNat * 2 ^ (-i).toNat=m * 2 ^ ((i - base).toNat+base.toNat+(-i).toNat):=by rw [Nat.pow_add,Nat.pow_add];ac_rfl
    _=m * 2 ^ i.toNat * 2 ^ (-base).toNat:=by rw [e1,Nat.pow_add];ac_rfl
    _=x.natAbs * 2 ^ (-base).toNat * 2 ^ (-i).toNat:=by rw [hv];ac_rfl
  exact Nat.eq_of_mul_eq_mul_right (Nat.two_pow_pos _) h
 have hZ:((m * 2 ^ (i - base).toNat:Nat):Int) * (2:Int) ^ base.toNat=(x.natAbs:Int) * (2:Int) ^ (-base).toNat:=by
  have:=congrArg (Nat.cast (R:=Int)) hN
  simpa using this
 unfold Ieee.signed
 rw [Nat.shiftLeft_eq]
 rcases Int.lt_trichotomy x 0 with a | a | a
 ·rw [h1 a,aG rfl,Int.neg_mul,hZ,show (x.natAbs:Int)=-x by omega,Int.neg_mul,Int.neg_neg]
 ·subst a
  have h0:((m * 2 ^ (i - base).toNat:Nat):Int) * (2:Int) ^ base.toNat=0:=by rw [hZ];simp
  cases s
  ·rw [aE (by decide),h0];simp
  ·rw [aG rfl,Int.neg_mul,h0];simp
 ·rw [h2 a,aE (by decide),hZ,show (x.natAbs:Int)=x by omega]
theorem WD.sum {d e:Datum} {x y:Int} (hx:WD d x) (hy:WD e y):∃r,d.sum e=some r∧WD r (x+y):=by
 obtain ⟨s,m,i,rfl,hv,h1,h2⟩:=hx
 obtain ⟨t,n,j,rfl,hw,g1,g2⟩:=hy
 have e1:=lF hv h1 h2 (show min i j≤i by omega)
 have e2:=lF hw g1 g2 (show min i j≤j by omega)
 refine ⟨_,rfl,_,_,_,rfl,?_,?_,?_⟩
 all_goals generalize min i j=base at e1 e2 ⊢
 all_goals
  have e3:(Ieee.signed s m (i - base).toNat+Ieee.signed t n (j - base).toNat) * (2:Int) ^ base.toNat=(x+y) * (2:Int) ^ (-base).toNat:=by rw [Int.add_mul,Int.add_mul,e1,e2]
  generalize Ieee.signed s m (i - base).toNat+Ieee.signed t n (j - base).toNat=T at e3 ⊢
  have p1:(0:Int)<(2:Int) ^ base.toNat:=by exact_mod_cast Nat.two_pow_pos base.toNat
  have p2:(0:Int)<(2:Int) ^ (-base).toNat:=by exact_mod_cast Nat.two_pow_pos (-base).toNat
 ·unfold pr
  have:=congrArg Int.natAbs e3
  rw [Int.natAbs_mul,Int.natAbs_mul,Int.natAbs_pow,Int.natAbs_pow] at this
  exact this
 ·intro h
  have hT:T<0:=by
   have h3:=Int.mul_neg_of_neg_of_pos h p2
   rw [←e3] at h3
   exact Int.not_le.1 fun yf=>by have:=Int.mul_nonneg yf (Int.le_of_lt p1);omega
  rw [aE (by omega)];exact ae hT
 ·intro h
  have hT:0<T:=by
   have h3:=Int.mul_pos h p2
   rw [←e3] at h3
   exact Int.not_le.1 fun yf=>by have:=Int.mul_nonneg (show 0≤-T by omega) (Int.le_of_lt p1);rw [Int.neg_mul] at this;omega
  rw [aE (by omega)];exact af (by omega)
theorem WD.opposite {d:Datum} {x:Int} (hx:WD d x):WD d.opposite (-x):=by
 obtain ⟨s,m,i,rfl,hv,h1,h2⟩:=hx
 exact ⟨!s,m,i,rfl,by rw [Int.natAbs_neg];exact hv,fun h=>by rw [h2 (by omega)];rfl,fun h=>by rw [h1 (by omega)];rfl⟩
theorem DL {a b:Nat} {x y:Int} (ha:W a x) (hb:W b y) (h:(x+y).natAbs≤9007199254740992):∃r,double.add a b=some r∧W r (x+y):=by
 obtain ⟨d,e,hd⟩:=WD.sum ha hb
 exact W.map e hd h
theorem CL {a b:Nat} {x y:Int} (ha:W a x) (hb:W b y) (h:(x - y).natAbs≤9007199254740992):∃r,double.sub a b=some r∧W r (x - y):=by
 obtain ⟨d,e,hd⟩:=WD.sum ha (WD.opposite hb)
 exact W.map e hd h
theorem C4 {a b:Nat} {x y:Int} (ha:W a x) (hb:W b y) (h:(x * y).natAbs≤9007199254740992):∃r,double.mul a b=some r∧W r (x * y):=by
 obtain ⟨d,e,hd⟩:=WD.product ha hb
 exact W.map e hd h
theorem yT (n:Int) (h:n.natAbs≤9007199254740992):W (double.write (.number (n<0) n.natAbs 0)) n :=
 WD.write ⟨_,_,_,rfl,by unfold pr;simp,fun h=>ae h,fun h=>af (by omega)⟩ h
theorem jz {a b:Nat} {x y:Int} (ha:W a x) (hb:W b y):double.order a b=some (compare x y):=by
 obtain ⟨s,m,i,hr,hv,h1,h2⟩:=ha
 obtain ⟨t,n,j,hq,hw,g1,g2⟩:=hb
 have e1:=lF hv h1 h2 (show min i j≤i by omega)
 have e2:=lF hw g1 g2 (show min i j≤j by omega)
 unfold Format.order
 rw [hr,hq]
 show some (compare (Ieee.signed s m (i - min i j).toNat) (Ieee.signed t n (j - min i j).toNat))=_
 generalize min i j=base at e1 e2 ⊢
 have p1:(0:Int)<(2:Int) ^ base.toNat:=by exact_mod_cast Nat.two_pow_pos base.toNat
 have p2:(0:Int)<(2:Int) ^ (-base).toNat:=by exact_mod_cast Nat.two_pow_pos (-base).toNat
 generalize Ieee.signed s m (i - base).toNat=A at e1 ⊢
 generalize Ieee.signed t n (j - base).toNat=B at e2 ⊢
 congr 1
 rcases Int.lt_trichotomy x y with c | c | c
 ·have h3:=Int.mul_lt_mul_of_pos_right c p2
  rw [←e1,←e2] at h3
  have h4:A<B:=Int.lt_of_mul_lt_mul_right h3 (Int.le_of_lt p1)
  rw [Int.compare_eq_lt.2 h4,Int.compare_eq_lt.2 c]
 ·subst c
  rw [←e2] at e1
  have h4:A=B:=Int.eq_of_mul_eq_mul_right (by omega) e1
  rw [h4];simp
 ·have h3:=Int.mul_lt_mul_of_pos_right c p2
  rw [←e1,←e2] at h3
  have h4:B<A:=Int.lt_of_mul_lt_mul_right h3 (Int.le_of_lt p1)
  rw [Int.compare_eq_gt.2 h4,Int.compare_eq_gt.2 c]
end Fl
end Go.Eng
namespace Go.Eng
open Go.IntWalk
theorem bE {R:Type} {p:Bool} {x:Option R} (h:p=true):ck p x=x:=by rw [h];rfl
theorem iY:maxLen=9223372036854775807:=by decide
theorem ig {n b:Nat} (h:n * b≤140737488355328) (h2:n≤140737488355328):jv n b=true:=jk.2 ⟨by rw [iY];omega,h⟩
theorem cQ {n:Int} {l:Nat} (h0:0≤n) (h1:n<l):cz n l=true:=iz.2 ⟨h0,h1⟩
theorem ju {a b:Int} {l:Nat} (h0:0≤a) (h1:a≤b) (h2:b≤l):gx a b l=true:=jE.2 ⟨h0,h1,h2⟩
theorem ov {a b k:Nat} (hb:b<2 ^ k):(a * 2 ^ k) ||| b=a * 2 ^ k+b:=by
 rw [←Nat.shiftLeft_eq,Nat.shiftLeft_add_eq_or_of_lt hb]
theorem drop_cons {α:Type} {l:List α} {i:Nat} (hi:i<l.length) (d:α):l.drop i=l.getD i d :: l.drop (i+1):=by
 rw [List.drop_eq_getElem_cons hi,ak,aA hi];rfl
theorem tG (n:Nat):(UInt64.ofInt (n:Int)).toNat=n % 18446744073709551616:=by
 have h:=rN (n:Int)
 rw [jw] at h;omega
theorem Ay (n:Nat):(UInt8.ofInt (n:Int)).toNat=n % 256:=by
 have h:=uf (n:Int)
 rw [wrap_u8'] at h;omega
end Go.Eng
namespace Go.Eng
namespace Nt
def val:List UInt16→Nat
 | []=>0
 | d :: r=>d.toNat+65536 * val r
def fix:Nat→Nat→List UInt16
 | 0,_=>[]
 | k+1,n=>UInt16.ofNat n :: fix k (n / 65536)
def of (n:Nat):List UInt16:=if n=0 then [] else UInt16.ofNat n :: of (n / 65536)
termination_by n
decreasing_by exact Nat.div_lt_self (by omega) (by omega)
def norm (a:List UInt16):Bool:=decide (a.getLast?≠some 0)
def is (a:List UInt16):Bool:=decide (a.length≤256)&&norm a
def bits (n:Nat):Nat:=if n=0 then 0 else n.log2+1
def cmp (a b:Nat):Int:=if a<b then -1 else if a=b then 0 else 1
end Nt
namespace Gz
def Nk:List Cx:=[(4607182418800017408,0),(0,4607182418800017408),(13830554455654793216,0),(0,13830554455654793216)]
def mul (z w:Cx):Cx:=(Fl.sF z.1 z.2 w.1 w.2,Fl.sG z.1 z.2 w.1 w.2)
def add (z w:Cx):Cx:=(Fl.add z.1 w.1,Fl.add z.2 w.2)
def unit (k:Int):Cx:=Nk.getD (k % 4).toNat (0,0)
def tm (z:Cx) (k:Int):Cx:=mul z (unit k)
def part (l:Qd) (way:Int) (k:Nat):Nat→Cx
 | 0=>(0,0)
 | j+1=>add (part l way k j) (tm (l.get j) (j * k * way))
def mq (l:Qd) (way:Int):Qd:=⟨part l way 0 4,part l way 1 4,part l way 2 4,part l way 3 4⟩
def quarter (z:Cx):Cx:=(Fl.ofInt ((Fl.toInt z.1).tdiv 4),Fl.ofInt ((Fl.toInt z.2).tdiv 4))
def back (l:Qd):Qd:=⟨quarter (part l (-1) 0 4),quarter (part l (-1) 1 4),quarter (part l (-1) 2 4),quarter (part l (-1) 3 4)⟩
def yc (n:Int):Cx:=(Fl.ofInt n,Fl.ofInt 0)
def gy:List Int→List Qd
 | []=>[]
 | [a]=>[mq ⟨yc a,(0,0),(0,0),(0,0)⟩ 1]
 | a :: b :: r=>mq ⟨yc a,yc b,(0,0),(0,0)⟩ 1 :: gy r
def Is (z:Cx) (x y:Int):Prop:=Fl.W z.1 x∧Fl.W z.2 y
def In (z:Cx) (M:Nat):Prop:=∃x y:Int,Is z x y∧x.natAbs≤M∧y.natAbs≤M
def KB (l:Qd) (M:Nat):Prop:=In l.c0 M∧In l.c1 M∧In l.c2 M∧In l.c3 M
def Vc (z:Cx):Prop:=∃x y:Int,Is z (4 * x) (4 * y)∧x.natAbs≤562949953421312∧y.natAbs≤562949953421312
open Classical in
noncomputable def s9 (z:Cx) (M:Nat):Bool:=decide (In z M)
open Classical in
noncomputable def vo (l:Qd) (M:Nat):Bool:=decide (KB l M)
open Classical in
noncomputable def JX (l:Qd):Bool:=decide (∀k,k<4→Vc (part l (-1) k 4))
open Classical in
noncomputable def LR (z:Cx) (b:Nat):Bool:=decide (∃x y m:Int,Is z x y∧Fl.W b m∧(x.natAbs:Int)≤m∧(y.natAbs:Int)≤m∧m≤9007199254740992)
open Classical in
noncomputable def IG (b:Nat):Bool:=decide (∃n:Int,Fl.W b n∧n.natAbs≤1125899906842624)
def DE (a b:List Int) (m:Nat):Int:=(List.range (m+1)).foldl (fun s i=>s+a.getD i 0 * b.getD (m - i) 0) 0
def conv (a b:List Int):List Int:=if a=[]∨b=[] then [] else (List.range (a.length+b.length - 1)).map (DE a b)
def ie (a:List Int):Bool:=a.all fun x=>decide (0≤x∧x≤65535)
end Gz
namespace Nr
def eE (c:UInt8):Bool:=decide (48≤c∧c≤57)
def num (d:bO):Nat:=d.foldl (fun n c=>10 * n+(c.toNat - 48)) 0
def dec (n:Nat):bO:=if n<10 then [UInt8.ofNat (48+n)] else dec (n / 10)++[UInt8.ofNat (48+n % 10)]
termination_by n
decreasing_by exact Nat.div_lt_self (by omega) (by omega)
noncomputable def JU:{f:Int→bO // ∀v,f v=if v<0 then 45 :: dec v.natAbs else dec v.natAbs}:=Classical.choice ⟨⟨fun v=>if v<0 then 45 :: dec v.natAbs else dec v.natAbs,fun _=>rfl⟩⟩
noncomputable def itoa (v:Int):bO:=JU.1 v
theorem xn (v:Int):itoa v=if v<0 then 45 :: dec v.natAbs else dec v.natAbs:=JU.2 v
def cW (d:bO):bO:=(d.reverse.dropWhile (· == 48)).reverse
def uQ (d:bO):bO:=d.dropWhile (· == 48)
def iI (p:Nat):Nat:=if p<4503599627370496 then p else p % 4503599627370496+4503599627370496
def sh (p:Nat):Nat:=p / 4503599627370496 - 1
def nC (p:Nat):Nat:=(2 * iI p+1) * 2 ^ sh p
def fW:Nat:=2 * 2 ^ 1074
def fK (a b p:Nat):Prop:=nC p * b<a * fW∨(nC p * b=a * fW∧p % 2=1)
def top:Nat:=9218868437227405311
open Classical in
noncomputable def gq (a b:Nat):Option Nat:=if h:∃p,p≤top∧¬fK a b p∧∀q,q<p→fK a b q then some h.choose else none
def valid (d:bO):Bool:=decide (1≤d.length∧d.length≤300)&&d.all eE
noncomputable def rd (n:Nat) (k:Int):Option Nat:=gq (n * 10 ^ k.toNat) (10 ^ (-k).toNat)
noncomputable def read (d:bO) (x:Int):Option Nat:=if valid d then rd (num d) (x - d.length) else none
noncomputable def pat (r:Option Nat):UInt64:=UInt64.ofNat (r.getD 0)
def split (b:UInt64):Int × Bool × UInt64 × Int :=
 let x:=b.toNat / 4503599627370496 % 2048
 let f:=b.toNat % 4503599627370496
 let neg:=decide (9223372036854775808≤b.toNat)
 if x=2047 then (if f=0 then (3,neg,0,0) else (4,neg,0,0))
 else if x=0 then (if f=0 then (1,neg,0,0) else (2,neg,UInt64.ofNat f,-1074))
 else (2,neg,UInt64.ofNat (4503599627370496+f),x - 1075)
def DB (m:Nat) (e:Int):Nat:=m * 2 ^ e.toNat * 5 ^ (-e).toNat
def vI (m:Nat) (e:Int):bO:=cW (dec (DB m e))
def xJ (m:Nat) (e:Int):Int:=(dec (DB m e)).length+min e 0
def times:List UInt64→UInt64→UInt64→List UInt64
 | [],_,c=>if c > 0 then [c] else []
 | a :: r,b,c=>(c+a * b) % 100000000 :: times r b ((c+a * b) / 100000000)
def gf (a:bO) (x:Int) (b:bO) (y:Int):Int:=if decide (x<y) || (decide (x=y)&&Op.bytesLess a b) then -1 else if decide (x=y)&&decide (a=b) then 0 else 1
def uB (a b:Nat):Nat:=if b<2 * (a % b)∨(b=2 * (a % b)∧a / b % 2=1) then a / b+1 else a / b
def lG (a b:Nat):Bool:=decide (uB a b=a / b+1∧uB a b=9007199254740992)
def iW (a:Nat) (e:Int):Nat:=a * 2 ^ (-e).toNat
def iH (b:Nat) (e:Int):Nat:=b * 2 ^ e.toNat
def run (s:bO):Nat:=(s.takeWhile eE).length
def A6 (s:bO) (k:Int):Int :=
 match s with
 | []=>k
 | c :: r=>if c=101∨c=69 then
   let r:=match r with | d :: q=>if d=43∨d=45 then q else r | []=>r
   if run r=0∨run r<r.length then 0 else 2
  else 0
def Cf (s:bO):Int :=
 match s with
 | 46 :: r=>if run r=0 then 0 else A6 (r.drop (run r)) 2
 | s=>A6 s 1
def LD (s:bO):Int :=
 let t:=match s with | 45 :: r=>r | s=>s
 if run t=0∨(t.getD 0 0=48∧1<run t) then 0 else Cf (t.drop (run t))
open Classical in
noncomputable def i64 (v:Int):Bool:=decide (-9223372036854775808≤v∧v≤9223372036854775807)
theorem Bc {v:Int} (h:i64 v=true):decide (-9223372036854775808≤v∧v≤9223372036854775807)=true:=ae (aM h)
def signed (s:bO):bO:=match s with | c :: r=>if c=43∨c=45 then r else s | []=>[]
def zY (s:bO):Int :=
 let n:Nat:=num (signed s)
 if s.getD 0 0=45 then -(n:Int) else n
def body (s:bO):bO:=match s with | 45 :: r=>r | s=>s
def JW (c:UInt8):Bool:=decide (c=101∨c=69)
def Im (s:bO):bO:=(body s).takeWhile fun c=>!JW c
def tail (s:bO):bO:=((body s).dropWhile fun c=>!JW c).drop 1
def ahead (s:bO):bO:=(Im s).takeWhile (· != 46)
def behind (s:bO):bO:=((Im s).dropWhile (· != 46)).drop 1
open Classical in
noncomputable def join (neg:Bool) (m:Nat) (e:Int):Option Nat :=
 if h:∃p,p≤top∧iI p * 2 ^ sh p * 2 ^ (-(e+1074)).toNat=m * 2 ^ (e+1074).toNat then some (h.choose+if neg then 9223372036854775808 else 0) else none
noncomputable def Lv:{f:Int→Option Nat // ∀v,f v=join (decide (v<0)) v.natAbs 0}:=Classical.choice ⟨⟨fun v=>join (decide (v<0)) v.natAbs 0,fun _=>rfl⟩⟩
noncomputable def ofInt (v:Int):Option Nat:=Lv.1 v
end Nr
end Go.Eng
namespace Go.Eng
namespace Sh
def tA (a:Nat) (k:Int):Nat:=a * 10 ^ k.toNat
def tB (b:Nat) (k:Int):Nat:=b * 10 ^ (-k).toNat
open Classical in
noncomputable def reads (p N:Nat) (k:Int):Option (bO × Int):=if Nr.rd N k=some p then some (Nr.cW (Nr.dec N),(Nr.dec N).length+k) else none
noncomputable def some_ (p a b:Nat) (x n:Int):Option (bO × Int) :=
 let P:=tA a (n - x)
 let Q:=tB b (n - x)
 let u:=reads p (P / Q) (x - n)
 let o:=reads p (P / Q+1) (x - n)
 if u.isSome=true∧(o.isSome=false∨2 * (P % Q)<Q∨(2 * (P % Q)=Q∧P / Q % 2=0)) then u else o
def gN (p:Nat):Nat:=Nr.iI p * 2 ^ ((Nr.sh p:Int) - 1074).toNat
def fq (p:Nat):Nat:=2 ^ (-((Nr.sh p:Int) - 1074)).toNat
def dx (p:Nat):Int:=Nr.xJ (Nr.iI p) ((Nr.sh p:Int) - 1074)
noncomputable def go (p:Nat):Nat→Nat→bO × Int
 | 0,_=>([],0)
 | f+1,i=>(some_ p (gN p) (fq p) (dx p) i).getD (go p f (i+1))
theorem go_succ (p f i:Nat):go p (f+1) i=(some_ p (gN p) (fq p) (dx p) i).getD (go p f (i+1)):=rfl
noncomputable def digits (p:Nat):bO × Int:=go p 17 1
def iJ (b:UInt64):Nat:=b.toNat % 9223372036854775808
noncomputable def Q0 (b:UInt64):bO × Int × Bool:=if (Nr.split b).1=2 then ((digits (iJ b)).1,(digits (iJ b)).2,true) else ([],0,false)
noncomputable def UQ:{f:UInt64→bO × Int × Bool // ∀b,f b=Q0 b}:=Classical.choice ⟨⟨Q0,fun _=>rfl⟩⟩
noncomputable def dg (b:UInt64):bO × Int × Bool:=UQ.1 b
theorem Kp (b:UInt64):dg b=Q0 b:=UQ.2 b
def eP (n:Int):bO:=List.replicate n.toNat 48
noncomputable def laid (d:bO) (x:Int):bO :=
 if 1≤x∧x≤21∧(d.length:Int)≤x then d++eP (x - d.length)
 else if 1≤x∧x≤21 then d.take x.toNat++([46]++d.drop x.toNat)
 else if -5≤x∧x≤0 then [48,46]++(eP (-x)++d)
 else (d.take 1++(if 1<d.length then 46 :: d.drop 1 else []))++(if x<1 then [101,45]++Nr.itoa (1 - x) else [101,43]++Nr.itoa (x - 1))
def wi (p:Nat) (below Hm:Int):Bool:=if p % 2=0 then decide (0≤below)&&decide (Hm≤0) else decide (0<below)&&decide (Hm<0)
def more (d:bO) (x:Int):bO × Int :=
 let s:=(d.reverse.dropWhile (· == 57)).reverse
 if s=[] then ([49],x+1) else (s.dropLast++[s.getLast?.getD 0+1],x)
noncomputable def BM:{f:Nat→bO // ∀n,f n=Nr.dec n}:=Classical.choice ⟨⟨Nr.dec,fun _=>rfl⟩⟩
noncomputable def qc (n:Nat):bO:=BM.1 n
theorem vP (n:Nat):qc n=Nr.dec n:=BM.2 n
noncomputable def BU:{f:Nat→Nat→Int→Option (bO × Int) // ∀p N k,f p N k=reads p N k}:=Classical.choice ⟨⟨reads,fun _ _ _=>rfl⟩⟩
noncomputable def jc (p N:Nat) (k:Int):Option (bO × Int):=BU.1 p N k
theorem vX (p N:Nat) (k:Int):jc p N k=reads p N k:=BU.2 p N k
noncomputable def Ek:{f:Nat→Nat→Nat→Int→Int→Option (bO × Int) // ∀p a b x n,f p a b x n=some_ p a b x n}:=Classical.choice ⟨⟨some_,fun _ _ _ _ _=>rfl⟩⟩
noncomputable def mR (p a b:Nat) (x n:Int):Option (bO × Int):=Ek.1 p a b x n
theorem ur (p a b:Nat) (x n:Int):mR p a b x n=some_ p a b x n:=Ek.2 p a b x n
open Classical in
noncomputable def nu (a b:Nat) (x n:Int):Bool:=decide (1≤n∧n≤17∧-380≤x∧x≤380∧0<a∧a<2 ^ 1100∧0<b∧b<2 ^ 1100∧tB b (n - x)≤tA a (n - x)∧tA a (n - x)<10 ^ 17 * tB b (n - x))
noncomputable def FE:{f:bO→Int→bO // ∀d x,f d x=laid d x}:=Classical.choice ⟨⟨laid,fun _ _=>rfl⟩⟩
noncomputable def zd (d:bO) (x:Int):bO:=FE.1 d x
theorem zb (d:bO) (x:Int):zd d x=laid d x:=FE.2 d x
def sign (b:UInt64):bO:=if (Nr.split b).2.1 then [45] else []
noncomputable def uj (b:UInt64):bO :=
 if (Nr.split b).1=4 then [78,97,78]
 else if (Nr.split b).1=3 then sign b++[73,110,102,105,110,105,116,121]
 else if (Nr.split b).1=1 then sign b++[48]
 else sign b++laid (dg b).1 (dg b).2.1
noncomputable def Eb:{f:UInt64→bO // ∀b,f b=uj b}:=Classical.choice ⟨⟨uj,fun _=>rfl⟩⟩
noncomputable def text (b:UInt64):bO:=Eb.1 b
theorem tI (b:UInt64):text b=uj b:=Eb.2 b
end Sh
end Go.Eng
