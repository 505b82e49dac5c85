/- Texts of my own, one behind the other: EngP, EngQ, EngQa, EngQb, EngQc, EngQd, EngQe, EngQf, EngQg, EngQh, EngQi, EngQj, EngQk, EngQl, EngQm, EngQn, EngQo, EngR, EngS, EngT. -/
import Derived.Test.YtfomkedednklbaaGreatDoorT1
import Derived.Lib.SliceRun
import Derived.Laws.Externs
set_option linter.unusedVariables false
set_option linter.unusedSimpArgs false
namespace Go.Eng
open Go.RowKit
section
variable {C:Ctx} {sg:Nat→c7}
theorem ma {D:j0} {σ:Sg} {γ:Ga} {a:Act} {w:World} (h:cL C D σ γ a w) {x:Operand} {r:cO} {k:IntKind} {i:Int} (hx:bS x r=true) (hs:small C.nt [x]=true) (hr:r.ev C.E σ = .v (.int k i)):a.eval x = .int k i:=by
 have e1:=(h.gy hx hs).rep (by rw [hr];simp)
 rw [hr] at e1
 exact e1.fw
theorem pR {r:cO} {m:Nat} (h:(match r with | cO.s t=>some t | _=>none)=some m):r = .s m:=by
 cases r <;> simp at h;subst h;rfl
theorem lu:∀{rs:List cO} {ks:List Nat},(rs.map fun r=>match r with | cO.s t=>some t | _=>none)=ks.map some→rs=ks.map cO.s
 | [],[],_=>rfl
 | r :: rs,k :: ks,h=>by
  simp only [ah,aj] at h
  rw [pR h.1,lu h.2];rfl
 | [],_ :: _,h=>by simp at h
 | _ :: _,[],h=>by simp at h
theorem Rk {s:Nat} {lo hi:Bool}:cC C sg (.sc s lo hi):=by
 intro D σ γ a w dst op ty pos after guard rs ds gd ws gs K' Q h ho hk c8 hs hg hK
 obtain ⟨d,rfl,hl,rfl⟩:=ez (l:=[]) hk
 simp only [dt,aB] at hg
 subst hg
 simp only [dX] at ho
 split at ho
 ·rename_i t x l u
  simp only [aa,beq_iff_eq] at ho
  obtain ⟨⟨⟨ht,h1⟩,h2⟩,ho⟩:=ho
  obtain ⟨e,i,q1,q2,q3,q4⟩:=kp ht
  subst h1;subst h2
  cases l with
  | none =>
   cases u with
   | none =>
    obtain ⟨r,rfl,hx⟩:=jZ ho
    simp only [Option.isSome_none,ah,ao,eh] at hs
    split at hs
    ·rename_i s' es heq
     simp only [aj,and_true] at heq
     obtain ⟨rfl,rfl⟩:=hs
     exact BX (l:=0) (u:=es.length) h rfl hl rfl q1 q2 q3 hx (bH c8 (by simp [Op.operands])) heq (.inl ⟨rfl,rfl⟩) (.inl ⟨rfl,rfl⟩) (by omega) (by omega) (by simpa [bN] using hK)
    ·cases hs
   | some y =>
    obtain ⟨r,q,rfl,hx,hy⟩:=iz ho
    simp only [Option.isSome_none,Option.isSome_some,ah,ao,eh] at hs
    split at hs
    ·rename_i s' es k b heq
     simp only [aj,and_true] at heq
     obtain ⟨rfl,p1,p2,rfl⟩:=hs
     have hb:=ma h hy (bH c8 (by simp [Op.operands])) heq.2
     exact BX (l:=0) (u:=b.toNat) h rfl hl rfl q1 q2 q3 hx (bH c8 (by simp [Op.operands])) heq.1 (.inl ⟨rfl,rfl⟩) (.inr ⟨y,k,rfl,by rw [hb];congr 1;omega⟩) (by omega) (by omega) (by simpa [bN] using hK)
    ·cases hs
  | some y =>
   cases u with
   | none =>
    obtain ⟨r,q,rfl,hx,hy⟩:=iz ho
    simp only [Option.isSome_none,Option.isSome_some,ah,ao,eh] at hs
    split at hs
    ·rename_i s' es k b heq
     simp only [aj,and_true] at heq
     obtain ⟨rfl,p1,p2,rfl⟩:=hs
     have hb:=ma h hy (bH c8 (by simp [Op.operands])) heq.2
     exact BX (l:=b.toNat) (u:=es.length) h rfl hl rfl q1 q2 q3 hx (bH c8 (by simp [Op.operands])) heq.1 (.inr ⟨y,k,rfl,by rw [hb];congr 1;omega⟩) (.inl ⟨rfl,rfl⟩) (by omega) (by omega) (by simpa [bN] using hK)
    ·cases hs
   | some z =>
    obtain ⟨r,q,q',rfl,hx,hy,hz⟩:=EK ho
    simp only [Option.isSome_some,ah,ao,eh] at hs
    split at hs
    ·rename_i s' es k b k' c heq
     simp only [aj,and_true] at heq
     obtain ⟨rfl,p1,p2,p3,rfl⟩:=hs
     have hb:=ma h hy (bH c8 (by simp [Op.operands])) heq.2.1
     have hc:=ma h hz (bH c8 (by simp [Op.operands])) heq.2.2
     exact BX (l:=b.toNat) (u:=c.toNat) h rfl hl rfl q1 q2 q3 hx (bH c8 (by simp [Op.operands])) heq.1 (.inr ⟨y,k,rfl,by rw [hb];congr 1;omega⟩) (.inr ⟨z,k',rfl,by rw [hc];congr 1;omega⟩) (by omega) (by omega) hK
    ·cases hs
 ·cases ho
theorem Ri {lo hi:Bool}:cC C sg (.ss lo hi):=by
 intro D σ γ a w dst op ty pos after guard rs ds gd ws gs K' Q h ho hk c8 hs hg hK
 obtain ⟨d,rfl,hl,rfl⟩:=ez (l:=[]) hk
 simp only [dt,aB] at hg
 subst hg
 simp only [dX] at ho
 split at ho
 ·rename_i t x l u
  simp only [aa,beq_iff_eq] at ho
  obtain ⟨⟨⟨ht,h1⟩,h2⟩,ho⟩:=ho
  have q1:=ga ht
  subst h1;subst h2
  cases l with
  | none =>
   cases u with
   | none =>
    obtain ⟨r,rfl,hx⟩:=jZ ho
    simp only [Option.isSome_none,ah,ao,eh] at hs
    split at hs
    ·rename_i b heq
     simp only [aj,and_true] at heq
     subst hs
     have e:(⟨⟨(b.data.toList.take b.data.toList.length).drop 0⟩⟩:ByteArray)=b:=by cases b with | mk t=>cases t;simp
     exact BW (l:=0) (u:=b.data.toList.length) h rfl hl rfl q1 hx (bH c8 (by simp [Op.operands])) heq (.inl ⟨rfl,rfl⟩) (.inl ⟨rfl,rfl⟩) (by omega) (by omega) (by rw [e];exact hK)
    ·cases hs
   | some y =>
    obtain ⟨r,q,rfl,hx,hy⟩:=iz ho
    simp only [Option.isSome_none,Option.isSome_some,ah,ao,eh] at hs
    split at hs
    ·rename_i b k c heq
     simp only [aj,and_true] at heq
     obtain ⟨p1,p2,rfl⟩:=hs
     have hb:=ma h hy (bH c8 (by simp [Op.operands])) heq.2
     exact BW (l:=0) (u:=c.toNat) h rfl hl rfl q1 hx (bH c8 (by simp [Op.operands])) heq.1 (.inl ⟨rfl,rfl⟩) (.inr ⟨y,k,rfl,by rw [hb];congr 1;omega⟩) (by omega) (by omega) (by simpa [bN] using hK)
    ·cases hs
  | some y =>
   cases u with
   | none =>
    obtain ⟨r,q,rfl,hx,hy⟩:=iz ho
    simp only [Option.isSome_none,Option.isSome_some,ah,ao,eh] at hs
    split at hs
    ·rename_i b k c heq
     simp only [aj,and_true] at heq
     obtain ⟨p1,p2,rfl⟩:=hs
     have hb:=ma h hy (bH c8 (by simp [Op.operands])) heq.2
     exact BW (l:=c.toNat) (u:=b.data.toList.length) h rfl hl rfl q1 hx (bH c8 (by simp [Op.operands])) heq.1 (.inr ⟨y,k,rfl,by rw [hb];congr 1;omega⟩) (.inl ⟨rfl,rfl⟩) (by omega) (by omega) (by rw [List.take_length];exact hK)
    ·cases hs
   | some z =>
    obtain ⟨r,q,q',rfl,hx,hy,hz⟩:=EK ho
    simp only [Option.isSome_some,ah,ao,eh] at hs
    split at hs
    ·rename_i b k c k' e heq
     simp only [aj,and_true] at heq
     obtain ⟨p1,p2,p3,rfl⟩:=hs
     have hb:=ma h hy (bH c8 (by simp [Op.operands])) heq.2.1
     have hc:=ma h hz (bH c8 (by simp [Op.operands])) heq.2.2
     exact BW (l:=c.toNat) (u:=e.toNat) h rfl hl rfl q1 hx (bH c8 (by simp [Op.operands])) heq.1 (.inr ⟨y,k,rfl,by rw [hb];congr 1;omega⟩) (.inr ⟨z,k',rfl,by rw [hc];congr 1;omega⟩) (by omega) (by omega) hK
    ·cases hs
 ·cases ho
theorem RM {s n:Nat}:cC C sg (.bl s n):=by
 intro D σ γ a w dst op ty pos after guard rs ds gd ws gs K' Q h ho hk c8 hs hg hK
 obtain ⟨d,rfl,hl,rfl⟩:=ez (l:=[]) hk
 simp only [dt,aB] at hg
 subst hg
 simp only [dX] at ho
 split at ho
 ·simp only [aa,beq_iff_eq,ay] at ho
  obtain ⟨⟨⟨⟨h1,rfl⟩,h3⟩,h4⟩,h5⟩:=ho
  simp only [eh] at hs
  obtain ⟨p1,p2,rfl⟩:=hs
  exact NU h rfl hl rfl h1 h3 h4 h5 (gb c8 (by simp [Op.operands])) p2 hK
 ·cases ho
theorem OK {s n k:Nat}:cC C sg (.blt s n k):=by
 intro D σ γ a w dst op ty pos after guard rs ds gd ws gs K' Q h ho hk c8 hs hg hK
 simp only [cj,aa] at hk
 obtain ⟨⟨jW,eE⟩,gH⟩:=hk
 obtain ⟨d,rfl,hl,rfl⟩:=ez gH
 simp only [dX] at ho
 split at ho
 ·rename_i t len parts
  simp only [aa,beq_iff_eq,ay] at ho
  obtain ⟨⟨⟨⟨⟨h1,rfl⟩,h3⟩,h4⟩,h5⟩,h6⟩:=ho
  simp only [eh] at hs
  obtain ⟨p1,p2,rfl⟩:=hs
  simp only [dt] at hg
  split at hg
  ·rename_i jP
   cases hg
   rw [←List.map_drop] at jP
   have F2:(rs.drop len).length=1:=by simp;omega
   obtain ⟨q,hq⟩:=ka F2
   rw [hq] at jP eE
   simp only [ah,ao,aj,and_true] at jP
   simp only [ah,ao,beq_iff_eq,aj,and_true] at eE
   have Ai:=pR eE
   subst Ai
   rw [←List.map_take] at p2
   simp only [←List.map_take] at hK
   exact Li h rfl hl rfl h1 h3 h4 h5 (gb c8 (by simp [Op.operands])) p2 jP hK
  ·cases hg
 ·cases ho
theorem RO {z:List AV} {pl:List (Nat × Nat)}:cC C sg (.bd z pl):=by
 intro D σ γ a w dst op ty pos after guard rs ds gd ws gs K' Q h ho hk c8 hs hg hK
 obtain ⟨d,rfl,hl,rfl⟩:=ez (l:=[]) hk
 simp only [dt,aB] at hg
 subst hg
 simp only [dX] at ho
 split at ho
 ·simp only [aa] at ho
  obtain ⟨⟨h1,h2⟩,h3⟩:=ho
  simp only [eh] at hs
  obtain ⟨cs,p1,rfl⟩:=hs
  exact NW h rfl hl rfl h1 h2 h3 (gb c8 (by simp [Op.operands])) p1 hK
 ·cases ho
theorem RR {m:Nat} {z:List AV} {ts:List (Nat × (Nat × Nat))}:cC C sg (.al m z ts):=by
 intro D σ γ a w dst op ty pos after guard rs ds gd ws gs K' Q h ho hk c8 hs hg hK
 simp only [cj,aa,ay,beq_iff_eq,aS,Nat.zero_add] at hk
 obtain ⟨⟨⟨ve,xk⟩,jW,eE⟩,gH⟩:=hk
 obtain ⟨d,rfl,hl,rfl⟩:=ez gH
 simp only [dX] at ho
 split at ho
 ·simp only [aa] at ho
  obtain ⟨h1,h2⟩:=ho
  simp only [eh] at hs
  subst hs
  simp only [dt] at hg
  split at hg
  ·rename_i hc
   cases hg
   obtain ⟨c1,c2,c3⟩:=hc
   have pD:=lu eE
   subst pD
   simp only [aW,aL,aO,ay] at c2
   refine NY h rfl hl rfl h1 (fun q hq=>?_) (c2 _ ⟨m,by simp,rfl⟩) ve xk (fun t ht=>c2 _ ⟨lk t.2.1,bh.2 (.inr (aO.2 ⟨t,ht,rfl⟩)),rfl⟩) c3 hK
   have:=aL.1 h2 q hq
   split at this
   ·exact ⟨_,‹_›⟩
   ·cases this
  ·cases hg
 ·cases ho
theorem RJ {m:Nat}:cC C sg (.bx m):=by
 intro D σ γ a w dst op ty pos after guard rs ds gd ws gs K' Q h ho hk c8 hs hg hK
 simp only [cj,aa,ay,beq_iff_eq] at hk
 obtain ⟨⟨⟨ve,xk⟩,jW,eE⟩,gH⟩:=hk
 obtain ⟨d,rfl,hl,rfl⟩:=ez gH
 simp only [dX] at ho
 split at ho
 ·rename_i t x r rest
  simp at jW
  obtain ⟨q,rfl⟩:=ka jW
  simp only [List.drop_succ_cons,aS,ah,ao,aj,and_true] at eE
  have hq:=pR eE
  subst hq
  simp only [ah,ao,eh] at hs
  obtain ⟨p1,rfl⟩:=hs
  simp only [ah,ao,dt] at hg
  split at hg
  ·rename_i g heq
   simp only [aj,and_true,cO.gh] at heq
   cases hg
   exact Jx h rfl hl rfl ho (bH c8 (by simp [Op.operands])) p1 heq.2 ve xk hK
  ·cases hg
 ·cases ho
theorem k_ld {m o' n:Nat} {agg:Bool}:cC C sg (.ld m o' n agg):=by
 intro D σ γ a w dst op ty pos after guard rs ds gd ws gs K' Q h ho hk c8 hs hg hK
 simp only [cj,aa,ay,beq_iff_eq] at hk
 obtain ⟨⟨⟨ve,xk⟩,jW,eE⟩,gH⟩:=hk
 obtain ⟨d,rfl,hl,rfl⟩:=ez (l:=[]) gH
 simp only [dX] at ho
 split at ho
 ·rename_i t x r rest
  simp at jW
  obtain ⟨q,rfl⟩:=ka jW
  simp only [List.drop_succ_cons,aS,ah,ao,aj,and_true] at eE
  have hq:=pR eE
  subst hq
  simp only [aa] at ho
  obtain ⟨ht,ho⟩:=ho
  obtain ⟨inf,h1,h2,h3,h4⟩:=gw ht
  simp only [ah,ao,eh] at hs
  split at hs
  ·rename_i cs heq
   simp only [aj,and_true,cO.ev] at heq
   obtain ⟨x',p1,rfl⟩:=hs
   simp only [ah,ao,dt] at hg
   split at hg
   ·rename_i m' MS ts dp
    simp only [aj,and_true,cO.gh] at dp
    split at hg
    ·rename_i hc
     obtain ⟨rfl,rfl⟩:=hc
     cases hg
     exact Jw h rfl hl rfl h1 h2 h3 h4 ho (bH c8 (by simp [Op.operands])) heq.1 dp.1 dp.2 heq.2 p1 hK
    ·cases hg
   ·cases hg
  ·cases hs
 ·cases ho
theorem Rh {m o' n:Nat}:cC C sg (.st m o' n):=by
 intro D σ γ a w dst op ty pos after guard rs ds gd ws gs K' Q h ho hk c8 hs hg hK
 simp only [cj,aa,ay,beq_iff_eq,Option.isNone_iff_eq_none] at hk
 obtain ⟨⟨⟨⟨ve,xk⟩,rfl⟩,rfl⟩,eE⟩:=hk
 simp only [dX] at ho
 split at ho
 ·rename_i t x v p q r
  simp only [aa,beq_iff_eq] at ho
  obtain ⟨⟨ht,hx⟩,hv⟩:=ho
  obtain ⟨inf,h1,h2⟩:=fV ht
  cases q with
  | s j =>
   simp at eE
   subst eE
   simp only [ah,ao,eh] at hs
   split at hs
   ·rename_i cs y heq
    simp only [aj,and_true,cO.ev] at heq
    obtain ⟨e1,e2,e3⟩:=heq
    obtain ⟨p1,p2,p3,rfl⟩:=hs
    subst e3
    simp only [ah,ao,dt] at hg
    split at hg
    ·rename_i m' MS ts g dp
     simp only [aj,and_true,cO.gh] at dp
     obtain ⟨f1,f2,f3⟩:=dp
     subst f3
     split at hg
     ·rename_i hc
      obtain ⟨rfl,rfl⟩:=hc
      cases hg
      exact Jt h rfl rfl h1 h2 hx (bH c8 (by simp [Op.operands])) hv (bH c8 (by simp [Op.operands])) e1 f1 f2 e2 p1 p2 p3 hK
     ·cases hg
    ·cases hg
   ·cases hs
  | c=>simp at eE
  | g=>simp at eE
 ·cases ho
theorem RC {m o' dd:Nat}:cC C sg (.fa m o' dd):=by
 intro D σ γ a w dst op ty pos after guard rs ds gd ws gs K' Q h ho hk c8 hs hg hK
 obtain ⟨d,rfl,hl,rfl⟩:=ez (l:=[]) hk
 simp only [dX] at ho
 split at ho
 ·rename_i t x f r
  simp only [aa] at ho
  obtain ⟨ht,hx⟩:=ho
  cases hf:mz C.P t f with
  | none=>simp [hf] at ht
  | some fl =>
   simp only [hf,Option.any_some,aa,beq_iff_eq] at ht
   obtain ⟨h0,ht⟩:=ht
   cases hz:gU C.P fl.type with
   | none=>simp [hz] at ht
   | some n =>
    simp [hz] at ht
    obtain ⟨inf,h1,h2⟩:=fV hz
    obtain ⟨fs,hu,qj⟩:=l0 hf
    simp only [ah,ao,eh] at hs
    split at hs
    ·rename_i heq
     simp only [aj,and_true] at heq
     subst hs
     simp only [ah,ao,dt] at hg
     split at hg
     ·rename_i m' MS dp
      simp only [aj,and_true] at dp
      split at hg
      ·rename_i hc
       obtain ⟨rfl,rfl⟩:=hc
       cases hg
       exact NM h rfl hl rfl hu qj h0 h1 (by omega) hx (bH c8 (by simp [Op.operands])) heq dp hK
      ·cases hg
     ·cases hg
    ·cases hs
 ·cases ho
theorem Rz {o' n:Nat} {agg:Bool}:cC C sg (.fr o' n agg):=by
 intro D σ γ a w dst op ty pos after guard rs ds gd ws gs K' Q h ho hk c8 hs hg hK
 obtain ⟨d,rfl,hl,rfl⟩:=ez (l:=[]) hk
 simp only [dt,aB] at hg
 subst hg
 simp only [dX] at ho
 split at ho
 ·rename_i t x f r
  simp only [aa] at ho
  obtain ⟨ht,hx⟩:=ho
  cases hf:mz C.P t f with
  | none=>simp [hf] at ht
  | some fl =>
   simp only [hf,Option.any_some,aa,beq_iff_eq,ay] at ht
   obtain ⟨⟨h0,ht⟩,hn⟩:=ht
   obtain ⟨inf,h1,h2,h3,h4⟩:=gw ht
   obtain ⟨fs,hu,qj⟩:=l0 hf
   simp only [ah,ao,eh] at hs
   split at hs
   ·rename_i cs heq
    simp only [aj,and_true] at heq
    obtain ⟨x',p1,rfl⟩:=hs
    exact NJ h rfl hl rfl hu qj h0 h1 h2 hn h4 hx (bH c8 (by simp [Op.operands])) heq p1 hK
   ·cases hs
 ·cases ho
theorem Ro {m o':Nat}:cC C sg (.nc m o'):=by
 intro D σ γ a w dst op ty pos after guard rs ds gd ws gs K' Q h ho hk c8 hs hg hK
 obtain ⟨d,rfl,hl,rfl⟩:=ez (l:=[]) hk
 simp only [dX] at ho
 split at ho
 ·simp only [ah,ao,eh] at hs
  split at hs
  ·rename_i heq
   simp only [aj,and_true] at heq
   subst hs
   simp only [ah,ao,dt] at hg
   split at hg
   ·rename_i m' MS dp
    simp only [aj,and_true] at dp
    split at hg
    ·rename_i hc
     obtain ⟨rfl,rfl⟩:=hc
     cases hg
     exact NA h rfl hl rfl ho (bH c8 (by simp [Op.operands])) heq dp hK
    ·cases hg
   ·cases hg
  ·cases hs
 ·cases ho
end
end Go.Eng
namespace Go.Eng
open Go.RowKit
section
variable {C:Ctx} {sg:Nat→c7}
theorem pF {P:Program} {pf:Array TypeId} {s b:Nat} (h1:pf.toList.length=2) (h2:(pf.toList.all fun t=>iy P t s b)=true) :
  ∃t u e i z du,pf=#[t,u]∧P.underlying t=some (.slice e)∧P.info? e=some i∧i.size=s∧i.bytes=b∧i.zero=some z∧z.cells.size=i.size∧P.underlying u=some du∧(∀k,du ≠ .int k):=by
 obtain ⟨t,u,h⟩:=uL h1
 rw [h] at h2
 simp only [List.all_cons,List.all_nil,Bool.and_true,aa] at h2
 obtain ⟨e,i,z,q1,q2,q3,q4,q5,q6,q7⟩:=jG h2.1
 obtain ⟨e',i',z',r1,_⟩:=jG h2.2
 exact ⟨t,u,e,i,z,_,ri h,q1,q2,q3,q4,q5,q6.trans q3.symm,r1,by simp⟩
theorem zZ {P:Program} {pf:Array TypeId} {b:Nat} (h2:(match pf.toList with | [t,u]=>iy P t 1 b&&jM P t&&jL P u | _=>false)=true) :
  ∃t u e i z du,pf=#[t,u]∧P.underlying t=some (.slice e)∧P.info? e=some i∧i.size=1∧i.bytes=b∧i.zero=some z∧z.cells.size=i.size∧P.underlying u=some du∧(∀k,du ≠ .int k):=by
 split at h2
 ·rename_i t u h
  simp only [aa] at h2
  obtain ⟨e,i,z,q1,q2,q3,q4,q5,q6,q7⟩:=jG h2.1.1
  exact ⟨t,u,e,i,z,_,ri h,q1,q2,q3,q4,q5,q6.trans q3.symm,ga h2.2,by simp⟩
 ·cases h2
theorem tZ {rs:List cO} {n a b:Nat} (h:(rs.drop n).map (fun r=>match r with | cO.s t=>some t | _=>none)=[some a,some b]):rs.drop n=[.s a,.s b] :=
 lu (ks:=[a,b]) h
theorem RP {k d' s b:Nat}:cC C sg (.ap k d' s b):=by
 intro D σ γ a w dst op ty pos after guard rs ds gd ws gs K' Q h ho hk c8 hs hg hK
 simp only [cj,aa,beq_iff_eq,ah,ao] at hk
 obtain ⟨⟨jW,eE⟩,gH⟩:=hk
 obtain ⟨d,rfl,hl,rfl⟩:=ez gH
 simp only [dX] at ho
 split at ho
 ·rename_i args pf r q r3 r4
  simp only [aa,beq_iff_eq] at ho
  obtain ⟨⟨ho,h1⟩,h2⟩:=ho
  obtain ⟨t,u,e,i,z,du,rfl,q1,q2,q3,q4,q5,q6,q7,q8⟩:=pF h1 h2
  have ht:=tZ eE
  simp only [List.drop_succ_cons,aS,aj,and_true] at ht
  obtain ⟨rfl,rfl⟩:=ht
  obtain ⟨x,y,kO⟩:=uL (l:=args.toList) (by rw [fi ho];rfl)
  rw [kO] at ho
  obtain ⟨r',q',sX,hx,hy⟩:=iz ho
  simp only [aj,and_true] at sX
  obtain ⟨rfl,rfl⟩:=sX
  have ea:=ri kO
  subst ea
  simp only [ah,ao,eh] at hs
  split at hs
  ·rename_i s' es lY fs v1 v2 heq
   simp only [aj,and_true] at heq
   obtain ⟨e1,e2,_⟩:=heq
   obtain ⟨rfl,rfl,p1,p2,p3,rfl⟩:=hs
   simp only [ah,ao,dt] at hg
   split at hg
   ·rename_i k1 s1 g s2 dp
    simp only [aj,and_true,cO.gh] at dp
    obtain ⟨g1,g2,g3,g4⟩:=dp
    split at hg
    ·rename_i hc
     obtain ⟨rfl,rfl,rfl,fI⟩:=hc
     cases hg
     have ic:=(h.gy hy (bH c8 (by simp [Op.operands,Call.operands]))).rep (by rw [e2];simp)
     rw [e2] at ic
     obtain ⟨news,n1,n2,n3⟩:=Source.yI (P:=C.P) ic
     exact E1 (q:=q) h rfl hl rfl q1 q2 q5 q6 q7 q8 q3 hx (bH c8 (by simp [Op.operands,Call.operands])) e1 g1 g3 g4 fI n1 n2 p1 p2 (by rw [q4];exact p3) hK
    ·cases hg
   ·cases hg
  ·cases hs
 ·cases ho
theorem OO {k d' b:Nat}:cC C sg (.Kj k d' b):=by
 intro D σ γ a w dst op ty pos after guard rs ds gd ws gs K' Q h ho hk c8 hs hg hK
 simp only [cj,aa,beq_iff_eq,ah,ao] at hk
 obtain ⟨⟨jW,eE⟩,gH⟩:=hk
 obtain ⟨d,rfl,hl,rfl⟩:=ez gH
 simp only [dX] at ho
 split at ho
 ·rename_i args pf r q r3 r4
  simp only [aa] at ho
  obtain ⟨ho,h2⟩:=ho
  obtain ⟨t,u,e,i,z,du,rfl,q1,q2,q3,q4,q5,q6,q7,q8⟩:=zZ h2
  have ht:=tZ eE
  simp only [List.drop_succ_cons,aS,aj,and_true] at ht
  obtain ⟨rfl,rfl⟩:=ht
  obtain ⟨x,y,kO⟩:=uL (l:=args.toList) (by rw [fi ho];rfl)
  rw [kO] at ho
  obtain ⟨r',q',sX,hx,hy⟩:=iz ho
  simp only [aj,and_true] at sX
  obtain ⟨rfl,rfl⟩:=sX
  have ea:=ri kO
  subst ea
  simp only [ah,ao,eh] at hs
  split at hs
  ·rename_i s' es bb v1 v2 heq
   simp only [aj,and_true] at heq
   obtain ⟨e1,e2,_⟩:=heq
   obtain ⟨rfl,p2,p3,rfl⟩:=hs
   simp only [ah,ao,dt] at hg
   split at hg
   ·rename_i k1 s1 g s2 dp
    simp only [aj,and_true,cO.gh] at dp
    obtain ⟨g1,g2,g3,g4⟩:=dp
    split at hg
    ·rename_i hc
     obtain ⟨rfl,rfl,rfl,fI⟩:=hc
     cases hg
     have ic:=(h.gy hy (bH c8 (by simp [Op.operands,Call.operands]))).rep (by rw [e2];simp)
     rw [e2] at ic
     have r8:Source C.P w 1 (a.eval y) (bb.data.toList.map eS).length (bb.data.toList.map fun b => .int .u8 b.toNat):=by
      rw [ic.fw,aG];exact Source.of_string bb
     exact E1 (q:=q) h rfl hl rfl q1 q2 q5 q6 q7 q8 q3 hx (bH c8 (by simp [Op.operands,Call.operands])) e1 g1 g3 g4 fI r8 (by rw [kI];exact nH _)
      (fun e he=>by obtain ⟨x,_,rfl⟩:=aO.1 he;rfl) (by rw [aG];exact p2) (by rw [aG,q4];exact p3) hK
    ·cases hg
   ·cases hg
  ·cases hs
 ·cases ho
theorem Fa {args:List Operand} {q:cO} (h:(match args with | [.const (.slice none 0 0),x]=>bS x q | _=>false)=true):∃x,args=[.const (.slice none 0 0),x]∧bS x q=true:=by
 split at h
 ·exact ⟨_,rfl,h⟩
 ·cases h
theorem RQ {d' s b:Nat}:cC C sg (.an d' s b):=by
 intro D σ γ a w dst op ty pos after guard rs ds gd ws gs K' Q h ho hk c8 hs hg hK
 simp only [cj,aa,beq_iff_eq,ah,ao] at hk
 obtain ⟨⟨jW,eE⟩,gH⟩:=hk
 obtain ⟨d,rfl,hl,rfl⟩:=ez gH
 simp only [dX] at ho
 split at ho
 ·rename_i args pf q r2
  simp only [aa,beq_iff_eq] at ho
  obtain ⟨⟨ho,h1⟩,h2⟩:=ho
  obtain ⟨t,u,e,i,z,du,rfl,q1,q2,q3,q4,q5,q6,q7,q8⟩:=pF h1 h2
  simp only [List.drop_succ_cons,aS,ah,ao,aj,and_true] at eE
  have hq:=pR eE
  subst hq
  obtain ⟨y,R3,hy⟩:=Fa ho
  have ea:=ri R3
  subst ea
  simp only [ah,ao,eh] at hs
  split at hs
  ·rename_i lY fs v1 heq
   simp only [aj,and_true] at heq
   obtain ⟨rfl,p1,p2,p3,rfl⟩:=hs
   simp only [ah,ao,dt] at hg
   split at hg
   ·rename_i g dp
    simp only [aj,and_true,cO.gh] at dp
    cases hg
    have ic:=(h.gy hy (bH c8 (by simp [Op.operands,Call.operands]))).rep (by rw [heq.1];simp)
    rw [heq.1] at ic
    obtain ⟨news,n1,n2,n3⟩:=Source.yI (P:=C.P) ic
    exact Jy h rfl hl rfl q1 q2 q5 q6 q7 q8 q3 dp.2 n1 n2 p1 p2 (by rw [q4];exact p3) hK
   ·cases hg
  ·cases hs
 ·cases ho
theorem OQ {d' b:Nat}:cC C sg (.Kl d' b):=by
 intro D σ γ a w dst op ty pos after guard rs ds gd ws gs K' Q h ho hk c8 hs hg hK
 simp only [cj,aa,beq_iff_eq,ah,ao] at hk
 obtain ⟨⟨jW,eE⟩,gH⟩:=hk
 obtain ⟨d,rfl,hl,rfl⟩:=ez gH
 simp only [dX] at ho
 split at ho
 ·rename_i args pf q r2
  simp only [aa] at ho
  obtain ⟨ho,h2⟩:=ho
  obtain ⟨t,u,e,i,z,du,rfl,q1,q2,q3,q4,q5,q6,q7,q8⟩:=zZ h2
  simp only [List.drop_succ_cons,aS,ah,ao,aj,and_true] at eE
  have hq:=pR eE
  subst hq
  obtain ⟨y,R3,hy⟩:=Fa ho
  have ea:=ri R3
  subst ea
  simp only [ah,ao,eh] at hs
  split at hs
  ·rename_i bb v1 heq
   simp only [aj,and_true] at heq
   obtain ⟨p2,p3,rfl⟩:=hs
   simp only [ah,ao,dt] at hg
   split at hg
   ·rename_i g dp
    simp only [aj,and_true,cO.gh] at dp
    cases hg
    have ic:=(h.gy hy (bH c8 (by simp [Op.operands,Call.operands]))).rep (by rw [heq.1];simp)
    rw [heq.1] at ic
    have r8:Source C.P w 1 (a.eval y) (bb.data.toList.map eS).length (bb.data.toList.map fun b => .int .u8 b.toNat):=by
     rw [ic.fw,aG];exact Source.of_string bb
    exact Jy h rfl hl rfl q1 q2 q5 q6 q7 q8 q3 dp.2 r8 (by rw [kI];exact nH _)
     (fun e he=>by obtain ⟨x,_,rfl⟩:=aO.1 he;rfl) (by rw [aG];exact p2) (by rw [aG,q4];exact p3) hK
   ·cases hg
  ·cases hs
 ·cases ho
theorem Rs {d' s b:Nat} {z:AV}:cC C sg (.mk d' s b z):=by
 intro D σ γ a w dst op ty pos after guard rs ds gd ws gs K' Q h ho hk c8 hs hg hK
 simp only [cj,aa,beq_iff_eq,ah,ao] at hk
 obtain ⟨⟨jW,eE⟩,gH⟩:=hk
 obtain ⟨d,rfl,hl,rfl⟩:=ez gH
 simp only [dX] at ho
 split at ho
 ·rename_i t l c r q r3
  simp only [aa] at ho
  obtain ⟨⟨ht,ho⟩,hz⟩:=ho
  obtain ⟨e,i,zv,q1,q2,q3,q4,q5,q6,q7⟩:=jG ht
  obtain ⟨r',q',sX,hx,hy⟩:=iz ho
  simp only [aj,and_true] at sX
  obtain ⟨rfl,rfl⟩:=sX
  simp only [List.drop_succ_cons,aS,ah,ao,aj,and_true] at eE
  have hq:=pR eE
  subst hq
  have he:jy C.P t=some e:=by unfold jy;rw [q1];rfl
  rw [he] at hz
  simp only [Option.any_some,aa] at hz
  obtain ⟨i',Vp,z1,z2,z3⟩:=lQ hz.1
  rw [q2] at z1
  cases z1
  rw [q5] at z2
  cases z2
  simp only [ah,ao,eh] at hs
  split at hs
  ·rename_i ll cc v1 heq
   simp only [aj,and_true] at heq
   obtain ⟨p1,p2,p3,p4,p5,p6,rfl⟩:=hs
   simp only [ah,ao,dt] at hg
   split at hg
   ·rename_i g1 g2 dp
    simp only [aj,and_true,cO.gh] at dp
    cases hg
    exact NB h rfl hl rfl q1 q2 q3 q5 q6 q7 z3 hx hy (bH c8 (by simp [Op.operands])) (bH c8 (by simp [Op.operands])) heq.1 heq.2.1 p2 p3 p4 (by rw [q4];exact p5) p6 dp.2.2 hK
   ·cases hg
  ·cases hs
 ·cases ho
end
end Go.Eng
namespace Go.Eng
open Go.RowKit
theorem zA {s:Nat}:∀{es:List AV} {i:Nat} {e:AV},(∀x∈es,x.cells.length=s)→es[i]?=some e→((es.flatMap AV.cells).drop (i * s)).take s=e.cells
 | x :: es,0,e,h,he=>by
  simp at he;subst he
  have:=h x (by simp)
  simp [←this]
 | x :: es,i+1,e,h,he=>by
  have hx:=h x (by simp)
  have ih:=zA (es:=es) (i:=i) (e:=e) (fun y hy=>h y (by simp [hy])) (by simpa using he)
  simp only [List.flatMap_cons]
  rw [show (i+1) * s=x.cells.length+i * s by rw [hx,Nat.succ_mul];omega,←List.drop_drop,List.drop_left]
  exact ih
 | [],_,_,_,he=>by simp at he
theorem xx {s:Nat}:∀{es:List AV},(∀x∈es,x.cells.length=s)→(es.flatMap AV.cells).length=es.length * s
 | [],_=>by simp
 | x :: es,h=>by
  have h1:=h x (by simp)
  have h2:=xx (es:=es) (fun y hy=>h y (List.mem_cons_of_mem _ hy))
  simp only [List.flatMap_cons,aq,aP,Nat.succ_mul,h1,h2]
  omega
theorem zz {s o:Nat}:∀{es:List AV} {i:Nat} {e e':AV} {xs:List AV},(∀x∈es,x.cells.length=s)→es[i]?=some e→e'.cells=eH e.cells o xs→o+xs.length≤s →
  (es.set i e').flatMap AV.cells=eH (es.flatMap AV.cells) (i * s+o) xs
 | x :: es,0,e,e',xs,h,he,h',hl=>by
  simp at he;subst he
  have hx:=h x (by simp)
  simp only [List.set_cons_zero,List.flatMap_cons,h',eH,Nat.zero_mul,Nat.zero_add]
  rw [List.take_append_of_le_length (by omega),List.drop_append_of_le_length (by omega)]
  simp
 | x :: es,i+1,e,e',xs,h,he,h',hl=>by
  have hx:=h x (by simp)
  have ih:=zz (es:=es) (i:=i) (e:=e) (fun y hy=>h y (by simp [hy])) (by simpa using he) h' hl
  simp only [List.set_cons_succ,List.flatMap_cons,ih,eH]
  have e1:(i+1) * s+o=x.cells.length+(i * s+o):=by rw [hx,Nat.succ_mul];omega
  rw [e1,show x.cells.length+(i * s+o)+xs.length=x.cells.length+(i * s+o+xs.length) by omega]
  simp [List.take_append,List.drop_append,List.take_of_length_le,bc]
 | [],_,_,_,_,_,he,_,_=>by simp at he
theorem wW {e x:AV} {o n:Nat} {agg:Bool} (h:pZ e o n agg=some x):fJ e.cells o n agg=some x:=by
 unfold pZ at h
 split at h
 ·exact h
 ·rename_i fI
  rw [aC] at h
  obtain ⟨⟨rfl,rfl,rfl⟩,h⟩:=h
  cases h
  have:e.cells=[e]:=by cases e <;> first | rfl | exact (fI _ rfl).elim
  simp [fJ,this]
theorem yA {e e' x:AV} {o:Nat} (h:uu e o x=some e'):e'.cells=eH e.cells o x.cells∧o+x.cells.length≤e.cells.length:=by
 unfold uu at h
 split at h
 ·rw [aC] at h
  obtain ⟨h1,h⟩:=h
  cases h
  exact ⟨rfl,h1⟩
 ·rename_i fI
  rw [aC] at h
  obtain ⟨⟨rfl,hx⟩,h⟩:=h
  obtain rfl:=Option.some.inj h
  have h1:e.cells=[e]:=by cases e <;> first | rfl | exact (fI _ rfl).elim
  have h2:x.cells=[x]:=by cases x <;> first | rfl | cases hx
  rw [h1,h2]
  exact ⟨by simp [eH],by simp⟩
section
variable {C:Ctx} {D:j0} {σ:Sg} {γ:Ga} {a:Act} {w:World}
theorem cL.qA (h:cL C D σ γ a w) {key s:Nat} (hk:γ key = .pv s):fg D.R w (D.τ key) s∧fL D.R w (D.τ key) s (σ key):=⟨(h.ps key s (by rw [hk];rfl)).1,(h.ps key s (by rw [hk];rfl)).2.1⟩
theorem cL.sK (h:cL C D σ γ a w) {key gE s g:Nat} (hk:γ key = .pv s) (h1:eI D γ key=some g) (h2:eI D γ gE=some g):gE=key:=by
 rcases h.sep key gE g h1 h2 with e | e | e
 ·exact e.symm
 ·rw [hk] at e;cases e
 ·cases hg:γ gE <;> rw [hg] at e <;> first | (cases e;done) | skip
  cases e
  have:=h.inv gE
  rw [hg] at this
  rcases this with e | ⟨s',e⟩ <;> rw [hk] at e <;> cases e
theorem cL.Jh (h:cL C D σ γ a w) {key s g:Nat} (hk:γ key = .pv s) (hg:(D.τ key).ownBlock=some g) {w':World} (os:w'.os=w.os) (tape:w'.tape=w.tape) (out:w'.output=w.output) (size:w'.heap.size=w.heap.size)
  (hh:∀b,b≠g→w'.heap[b]?=w.heap[b]?) {x:AV} (ht:fg D.R w' (D.τ key) s) (hp:fL D.R w' (D.τ key) s x):cL C D (cF σ key x) γ a w':=by
 have oJ:eI D γ key=some g:=(fN (by rw [hk];rfl)).trans hg
 have nP:∀o,¬D.R g o:=(h.qA hk).2.1 g hg
 have bL:fh D.R w D.R w':=fun b o hr=>⟨hr,World.cell?_of_block (w:=w) (hh b (fun e=>nP o (e ▸ hr)))⟩
 have kG:1000000≤key:=h.kL key (by rw [hk];rfl)
 have fI:∀gE g',gE≠key→eI D γ gE=some g'→g'≠g:=fun gE g' hn hb e=>hn (h.sK hk oJ (e ▸ hb))
 refine ⟨h.size,h.defers,h.iB,h.oe,h.kL,fun t tg=>?_,fun m ts hm=>?_,fun gE s' jx=>?_,fun gE s' hs=>?_,h.sep,h.own,h.inv,?_,fun b o hr=>by rw [size];exact h.jT b o hr,fun n=>(h.gl n).mono bL,h.fix⟩
 ·have e:t≠key:=by have:=h.iB;omega
  rw [bF _ _ e]
  exact (h.slot t tg).imp id fun ⟨r,g⟩=>⟨r.mono bL,g⟩
 ·have e:m≠key:=fun e=>by subst e;rw [hk] at hm;cases hm
  rw [bF _ _ e]
  obtain ⟨cs,hv,nM⟩:=h.mem m ts hm
  exact ⟨cs,hv.bL bL (hh _ (fI m _ e (gP hm))) hv.CR,nM⟩
 ·have e:gE≠key:=fun e=>by subst e;rw [hk] at jx;cases jx
  exact (h.cB gE s' jx).bL fun g' kb=>⟨hh g' (fI gE g' e ((gA jx).trans kb)),fun _ hr=>hr⟩
 ·have qM:va (cF σ key x) γ gE:=fun d s1 s2 e1 e2=>by
   by_cases e:gE=key
   ·subst e;rw [hk] at e1;cases e1
   ·have e':d≠key:=fun e'=>by subst e';rw [hk] at e2;cases e2
    rw [bF _ _ e,bF _ _ e'];exact (h.ps gE s' hs).2.2 d s1 s2 e1 e2
  by_cases e:gE=key
  ·subst e
   rw [hk] at hs
   cases hs
   rw [bE]
   exact ⟨ht,hp,qM⟩
  ·rw [bF _ _ e]
   obtain ⟨h1,h2,_⟩:=h.ps gE s' hs
   have hb:=fun g' kb=>fI gE g' e ((fN (Gh.qB hs)).trans kb)
   exact ⟨h1.bL fun g' kb=>⟨hh g' (hb g' kb),fun _ hr=>hr⟩,h2.bL bL fun g' kb=>⟨hh g' (hb g' kb),fun _ hr=>hr⟩,qM⟩
 ·have pT:=h.own key g oJ
  refine ⟨os.trans h.ext.os,tape.trans h.ext.tape,out.trans h.ext.output,by rw [size];exact h.ext.size,fun b hb hn=>?_,h.ext.bL.trans bL,h.ext.qx⟩
  refine (hh b fun e=>?_).trans (h.ext.heap b hb hn)
  subst e
  rcases pT with jC | jC
  ·exact hn jC
  ·omega
theorem cL.kW (h:cL C D σ γ a w) {d k s:Nat} {v:Value} {x:AV} (hd:d<C.nt) (hk:γ (lk k) = .no) (ht:fg D.R w v s) (hp:fL D.R w v s x) (hg:∀g,v.ownBlock=some g→C.kY g∧∀key,eI D γ key≠some g) :
  cL C { D with τ:=cF D.τ (lk k) v } (bN σ [d,lk k] [.pt,x]) (bN γ [d,lk k] [.cB k s,.pv s]) (a.put (some d) v) w:=by
 have h1:=h.wY hk ht hg
 -- from a cB to a private slice
 have h2:cL C { D with τ:=cF D.τ (lk k) v } (cF σ (lk k) x) (cF γ (lk k) (.pv s)) a w:=by
  have sU:∀j,j≠lk k→cF γ (lk k) (.pv s) j=cF γ (lk k) (.live s) j:=fun j hj=>by rw [bF _ _ hj,bF _ _ hj]
  have hb:∀key,eI { D with τ:=cF D.τ (lk k) v } (cF γ (lk k) (.pv s)) key=eI { D with τ:=cF D.τ (lk k) v } (cF γ (lk k) (.live s)) key:=fun key=>by
   unfold eI
   by_cases e:key=lk k
   ·subst e;rw [bE,bE]
   ·rw [sU _ e]
  have mm:∀key,(cF γ (lk k) (.pv s) key).par=(cF γ (lk k) (.live s) key).par:=fun key=>by
   by_cases e:key=lk k
   ·subst e;rw [bE,bE];rfl
   ·rw [sU _ e]
  have ja:∀key,(cF γ (lk k) (.pv s) key).eQ=(cF γ (lk k) (.live s) key).eQ:=fun key=>by
   by_cases e:key=lk k
   ·subst e;rw [bE,bE];rfl
   ·rw [sU _ e]
  have kG:∀key,(cF γ (lk k) (.pv s) key).ej=(cF γ (lk k) (.live s) key).ej:=fun key=>by
   by_cases e:key=lk k
   ·subst e;rw [bE,bE];rfl
   ·rw [sU _ e]
  have hM:∀g,eK (cF γ (lk k) (.live s)) g→eK (cF γ (lk k) (.pv s)) g:=fun g hg=>by
   cases g <;> simp only [eK,ja,kG] at hg ⊢ <;> first | exact hg | skip
   rename_i q s'
   have e:q≠lk k:=fun e=>by subst e;rw [bE] at hg;rcases hg with e | ⟨_,e⟩ <;> cases e
   rw [sU _ e];exact hg
  have eO:lk k<C.nt→False:=fun hl=>by have:=fH k;have:=h.iB;omega
  refine ⟨h1.size,h1.defers,h1.iB,fun m hm=>h1.oe m (by rwa [ja] at hm),fun m hm=>h1.kL m (by rwa [kG] at hm),fun t tg=>?_,fun m ts hm=>?_,fun key s' jx=>?_,fun key s' hs=>?_,fun p q g jB hq=>(by rw [mm,mm];exact h1.sep p q g (by rwa [hb] at jB) (by rwa [hb] at hq)),fun p g jB=>h1.own p g (by rwa [hb] at jB),fun key=>?_,h1.ext,h1.jT,h1.gl,h1.fix.of rfl (fun jB=>by
   have e:lk 999999≠lk k:=fun e=>by rw [e,bE] at jB;cases jB
   rw [sU _ e];exact ⟨jB,rfl⟩)⟩
  ·have e:t≠lk k:=fun e=>eO (e ▸ tg)
   rw [bF _ _ e,sU _ e];exact h1.slot t tg
  ·have e:m≠lk k:=fun e=>by subst e;rw [bE] at hm;cases hm
   rw [sU _ e] at hm
   rw [bF _ _ e];exact h1.mem m ts hm
  ·have e:key≠lk k:=fun e=>by subst e;rw [bE] at jx;cases jx
   rw [sU _ e] at jx;exact h1.cB key s' jx
  ·have qM:va (cF σ (lk k) x) (cF γ (lk k) (.pv s)) key:=fun d s1 s2 e1 e2=>by
    have e:key≠lk k:=fun e=>by subst e;rw [bE] at e1;cases e1
    have e':d≠lk k:=fun e'=>by subst e';rw [bE] at e2;cases e2
    rw [sU _ e] at e1;rw [sU _ e'] at e2
    rw [bF _ _ e,bF _ _ e'];exact (h1.ps key s1 (by rw [e1];rfl)).2.2 d s1 s2 e1 e2
   by_cases e:key=lk k
   ·subst e
    rw [bE] at hs
    cases hs
    simp only [bE]
    exact ⟨ht,hp,qM⟩
   ·rw [sU _ e] at hs
    rw [bF _ _ e];exact ⟨(h1.ps key s' hs).1,(h1.ps key s' hs).2.1,qM⟩
  ·by_cases e:key=lk k
   ·subst e;rw [bE];trivial
   ·rw [sU _ e];exact hM _ (h1.inv key)
 refine h2.put (g := .cB k s) hd (.inr ⟨.pt _,?_⟩) rfl rfl ?_
 ·intro _;show v=cF D.τ (lk k) v (lk k)∧v.oneCell'=true
  rw [bE]
  exact ⟨rfl,by rcases ht with rfl | ⟨_,_,_,_,_,_,rfl,_⟩ <;> rfl⟩
 ·show (cF γ (lk k) (.pv s) (lk k)).ej=true
  rw [bE];rfl
end
end Go.Eng
namespace Go.Eng
open Go.RowKit
theorem n8 {cur:Array Value} {ys:List Value} (h:∀(j:Nat) (y:Value),ys[j]?=some y→cur[j]?=some y):cur.toList.take ys.length=ys:=by
 apply List.ext_getElem?
 intro j
 rw [aM]
 split
 ·rename_i hj
  have:=h j ys[j] (aA hj)
  rw [aA hj]
  simpa using this
 ·rename_i hj
  exact (List.getElem?_eq_none (by omega)).symm
section
variable {C:Ctx} {D:j0} {σ:Sg} {γ:Ga} {a:Act} {w:World} {o:Oper} {d:Nat} {K:Act→World→Prop} {Q:Exit→Act→World→Prop}
theorem cL.Kx (h:cL C D σ γ a w) {k s:Nat} {es:List AV} (h9:k≠999999) (hk:γ (lk k) = .pv s) (hx:σ (lk k) = .sl s es) :
  ∃R',cL C { D with R:=R' } (cF σ (lk k) .dead) (cF γ (lk k) (.live s)) a w∧Rep R' w (.sl s es) (D.τ (lk k))∧fh D.R w R' w:=by
 obtain ⟨ht,JW,qN⟩:=h.qA hk
 rw [hx] at qN
 have qN:=qN.resolve_left (by simp)
 obtain ⟨Ke,he,qk,hp⟩:=qN
 cases he
 have oJ:eI D γ (lk k)=(D.τ (lk k)).ownBlock:=fN (by rw [hk];rfl)
 let R':Reach:=fun b o=>D.R b o∨((D.τ (lk k)).ownBlock=some b∧o<es.length * s)
 have bL:fh D.R w R' w:=fun b o hr=>⟨.inl hr,rfl⟩
 have fI:∀gE g,gE≠lk k→eI D γ gE=some g→∀o,R' g o→D.R g o:=fun gE g hn hb o hr=>by
  rcases hr with hr | ⟨hr,_⟩
  ·exact hr
  ·exact (hn (h.sK hk (oJ.trans hr) hb)).elim
 have sU:∀j,j≠lk k→cF γ (lk k) (.live s) j=γ j:=fun j hj=>bF _ _ hj
 have hb:∀key,eI { D with R:=R' } (cF γ (lk k) (.live s)) key=eI D γ key:=fun key=>by
  unfold eI
  by_cases e:key=lk k
  ·subst e;rw [bE,hk]
  ·rw [sU _ e]
 have mm:∀key,(cF γ (lk k) (.live s) key).par=(γ key).par:=fun key=>by
  by_cases e:key=lk k
  ·subst e;rw [bE,hk];rfl
  ·rw [sU _ e]
 have ja:∀key,(cF γ (lk k) (.live s) key).eQ=(γ key).eQ:=fun key=>by
  by_cases e:key=lk k
  ·subst e;rw [bE,hk];rfl
  ·rw [sU _ e]
 have kG:∀key,(cF γ (lk k) (.live s) key).ej=(γ key).ej:=fun key=>by
  by_cases e:key=lk k
  ·subst e;rw [bE,hk];rfl
  ·rw [sU _ e]
 have hM:∀g,eK γ g→eK (cF γ (lk k) (.live s)) g:=fun g hg=>by
  cases g <;> simp only [eK,ja,kG] at hg ⊢ <;> first | exact hg | skip
  rename_i q s'
  have e:q≠lk k:=fun e=>by subst e;rcases hg with e | ⟨_,e⟩ <;> rw [hk] at e <;> cases e
  rw [sU _ e];exact hg
 have eO:lk k<C.nt→False:=fun hl=>by have:=fH k;have:=h.iB;omega
 refine ⟨R',⟨h.size,h.defers,h.iB,fun m hm=>h.oe m (by rwa [ja] at hm),fun m hm=>h.kL m (by rwa [kG] at hm),fun t tg=>?_,fun m ts hm=>?_,fun key s' jx=>?_,fun key s' hs=>?_,fun p q g jB hq=>(by rw [mm,mm];exact h.sep p q g (by rwa [hb] at jB) (by rwa [hb] at hq)),fun p g jB=>h.own p g (by rwa [hb] at jB),fun key=>?_,?_,fun b o hr=>?_,fun n=>(h.gl n).mono bL,h.fix.of rfl (fun hp=>by
  have e:lk 999999≠lk k:=fun e=>h9 (fO e).symm
  rw [bF _ _ e];exact ⟨hp,rfl⟩)⟩,?_,bL⟩
 ·have e:t≠lk k:=fun e=>eO (e ▸ tg)
  rw [bF _ _ e,sU _ e]
  exact (h.slot t tg).imp id fun ⟨r,g⟩=>⟨r.mono bL,fun hs=>by have g:=g hs;cases hg:γ t <;> rw [hg] at g <;> exact g⟩
 ·have e:m≠lk k:=fun e=>by subst e;rw [bE] at hm;cases hm
  rw [sU _ e] at hm
  rw [bF _ _ e]
  obtain ⟨cs,hv,nM⟩:=h.mem m ts hm
  exact ⟨cs,hv.bL bL rfl (fun o hr=>hv.CR o (fI m _ e (gP hm) o hr)),nM⟩
 ·by_cases e:key=lk k
  ·subst e
   rw [bE] at jx
   cases jx
   rcases hp with ⟨rfl,e0⟩ | ⟨g,cap,cur,e,fz,e0,hg,hL⟩
   ·exact .inl e0
   ·rcases ht with e1 | ⟨g',n,sz,mA,e',M4,e1,h1,h2,h3,h4,h5,h6⟩
    ·rw [e0] at e1;cases e1
    ·refine .inr ⟨g',n,sz,mA,e',M4,e1,h1,h2,h3,h4,h5,fun o ho hr=>?_⟩
     rcases hr with hr | ⟨_,hr⟩
     ·exact h6 o ho hr
     ·rw [e0] at e1;cases e1;omega
  ·rw [sU _ e] at jx
   exact (h.cB key s' jx).bL fun g hg=>⟨rfl,fI key g e ((gA jx).trans hg)⟩
 ·have e:key≠lk k:=fun e=>by subst e;rw [bE] at hs;cases hs
  rw [sU _ e] at hs
  rw [bF _ _ e]
  obtain ⟨h1,h2,h3⟩:=h.ps key s' hs
  have zk:=fun g hg=>fI key g e ((fN (Gh.qB hs)).trans hg)
  refine ⟨h1.bL fun g hg=>⟨rfl,zk g hg⟩,h2.bL bL fun g hg=>⟨rfl,zk g hg⟩,fun d s1 s2 e1 e2=>?_⟩
  have e':d≠lk k:=fun e'=>by subst e';rw [bE] at e2;cases e2
  rw [sU _ e] at e1;rw [sU _ e'] at e2
  rw [bF _ _ e,bF _ _ e'];exact h3 d s1 s2 e1 e2
 ·by_cases e:key=lk k
  ·subst e;rw [bE];trivial
  ·rw [sU _ e];exact hM _ (h.inv key)
 ·refine ⟨h.ext.os,h.ext.tape,h.ext.output,h.ext.size,h.ext.heap,h.ext.bL.trans bL,fun b o hr=>?_⟩
  rcases hr with hr | ⟨hr,_⟩
  ·exact h.ext.qx b o hr
  ·rcases h.own (lk k) b (oJ.trans hr) with e | e
   ·exact .inr (.inr e)
   ·exact .inr (.inl e)
 ·rcases hr with hr | ⟨hr,_⟩
  ·exact h.jT b o hr
  ·exact ht.lt hr
 ·rcases hp with ⟨rfl,e0⟩ | ⟨g,cap,cur,e,fz,e0,hg,hL⟩
  ·rw [e0];exact .nil s
  ·have qQ:es.length≤cap∧cap≤maxLen∧cur.size=cap * s:=by
    rcases ht with e1 | ⟨g',n,sz,mA,e',M4,e1,h1,h2,h3,h4,h5,h6⟩
    ·rw [e0] at e1;cases e1
    ·rw [e0] at e1;cases e1
     rw [hg] at h1;cases h1
     exact ⟨h4,h5,h3⟩
   have hle:es.length * s≤cap * s:=ar _ qQ.1
   rw [e0]
   refine .sl rfl qQ.1 qQ.2.1 (ij.write qk (hL.mono bL) (fun j hj => .inr ⟨by rw [e0];rfl,by omega⟩) fun j y hy=>?_)
   rw [aM] at hy
   split at hy
   ·simp only [World.cell?,hg,Nat.zero_add]
    simpa using hy
   ·cases hy
variable (h:cL C D σ γ a w) (hl:d<C.nt)
include h
theorem K2 (hd:o.dst=some d) (hl:d<C.nt) {x:Operand} {r:cO} {t u e:TypeId} {b:ByteArray} {k:Nat} (ho:o.op = .convert t u x) (ht:C.P.underlying t=some .string) (hu:C.P.underlying u=some (.slice e)) (he:C.P.underlying e=some (.int .u8))
  (hx:bS x r=true) (fq:small C.nt [x]=true) (hr:r.ev C.E σ = .v (.string b)) (hb:b.data.toList.length≤maxLen) (hk:γ (lk k) = .no)
  (hK:∀D' a' w',cL C D' (bN σ [d,lk k] [.pt,.sl 1 (b.data.toList.map eS)]) (bN γ [d,lk k] [.cB k 1,.pv 1]) a' w'→K a' w'):o.wp C.P a w K Q:=by
 have e1:=(h.gy hx fq).rep (by rw [hr];simp)
 rw [hr] at e1
 have cK:=run_bytes_of_string (P:=C.P) w t u e b ht hu he
 have xV:=grownCap_ge w b.size 0 e
 have hle:=grownCap_le_maxLen w b.size 0 e (by rwa [bsize] at hb)
 let cur:=bytesRow b (grownCap w b.size 0 e)
 let w1:World:=w.drew.alloc (.cells cur e (cur.size,cur.size+1))
 have gR:w1.heap[w.heap.size]?=some (.cells cur e (cur.size,cur.size+1)):=by
  show (w.heap.push _)[w.heap.size]?=_
  simp
 have hold:∀c,c<w.heap.size→w1.heap[c]?=w.heap[c]?:=fun c hc=>by
  show (w.heap.push _)[c]?=_
  rw [Array.getElem?_push,aD (by omega)]
 have hS:cL C { D with R:=D.R } σ γ a w1:=h.grow (w':=w1) (R':=D.R) rfl rfl rfl (by show _≤(w.heap.push _).size;simp) hold (fun _ _ h=>h) (fun _ _ h => .inl h) (fun c q hr=>by
  show c<(w.heap.push _).size
  have:=h.jT c q hr
  simp;omega)
 have nP:∀q,¬D.R w.heap.size q:=fun q hr=>by have:=h.jT _ q hr;omega
 have kZ:cur.size=grownCap w b.size 0 e * 1:=by
  have:b.data.size=b.size:=rfl
  simp only [cur,bytesRow,Array.size_append,Array.size_map,Array.size_replicate,this];omega
 have A8:cur.toList.take (b.data.toList.map eS).length=b.data.toList.map fun x => .int .u8 x.toNat:=by
  have:=n8 (cur:=cur) (ys:=b.data.toList.map fun x => .int .u8 x.toNat) (fun j y hj=>by
   have eO:=(aE.1 hj).1
   simp only [cur]
   unfold bytesRow
   rw [Array.getElem?_append_left (by simp at eO ⊢;exact eO)]
   simpa using hj)
  simpa using this
 unfold Oper.wp
 rw [show (execOp a.eval o).run C.P w = .ok (.value (.slice (some ⟨w.heap.size,0,none⟩) b.size (grownCap w b.size 0 e))) w1 by simp only [execOp,ho,e1.fw,Sem.run_bind,cK,Result.andThen_ok,Sem.run_pure];rfl,Oper.upon_value,hd]
 refine hK _ _ _ (cL.kW hS hl hk (.inr ⟨_,_,_,_,_,_,rfl,gR,by simp only;intro q hq;omega,kZ,xV,hle,fun q _=>nP q⟩) ⟨fun g hg q=>?_,.inr ⟨_,rfl,?_,.inr ⟨w.heap.size,grownCap w b.size 0 e,cur,e,(cur.size,cur.size+1),by rw [aG,bsize],gR,?_⟩⟩⟩ fun g hg=>?_)
 ·simp [Value.ownBlock] at hg;subst hg;exact nP q
 ·intro x hx;obtain ⟨y,_,rfl⟩:=aO.1 hx;rfl
 ·rw [Nat.mul_one,A8,kI];exact nH _
 ·simp [Value.ownBlock] at hg
  subst hg
  exact ⟨.inr h.ext.size,fun key hk=>by have:=h.lt hk;omega⟩
omit hl in
theorem cL.Ev {j:Nat} {s:AV} {g:Gh} (hj:j<C.nt) (hs:lM D w s g (a.tmps.getD j undef)) (g1:g.eQ=false) (g2:g.ej=false) (gm:eK γ g):cL C D (cF σ j s) (cF γ j g) a w:=by
 have:=h.put hj hs g1 g2 gm
 have kZ:j<a.tmps.size:=by rw [h.size];exact hj
 have e:a.put (some j) (a.tmps.getD j undef)=a:=by
  unfold Act.put
  simp only
  have:a.tmps.setIfInBounds j (a.tmps.getD j undef)=a.tmps:=by
   apply Array.ext
   ·simp
   ·intro i h1 h2
    rw [Array.getElem_setIfInBounds h2]
    split
    ·rename_i e;subst e;simp [Array.getD,kZ]
    ·rfl
  rw [this]
 rwa [e] at this
theorem K9 {k:Nat} (h9:k≠999999) (hd:o.dst=some d) (hl:d<C.nt) {x:Operand} {j s s0:Nat} {es:List AV} (ho:o.op = .move x∨o.op = .assign x) (hx:bS x (.s j)=true) (hj:j<C.nt) (hr:σ j = .pt) (hg:γ j = .cB k s0)
  (hk:γ (lk k) = .pv s) (jO:σ (lk k) = .sl s es) (hK:∀D' a' w',cL C D' (bN σ [d,j,lk k] [.sl s es,.sl s es,.dead]) (bN γ [d,j,lk k] [.cB k s,.cB k s,.live s]) a' w'→K a' w'):o.wp C.P a w K Q:=by
 have TX:x = .tmp j:=by cases x <;> simp [bS] at hx;rw [hx]
 have fq:small C.nt [x]=true:=by rw [TX];simp [small,hj]
 have e0:=h.gy hx fq
 have hv:=e0.gh (by simp only [cO.ev];rw [hr];simp) (by simp only [cO.ev];rw [hr];simp)
 simp only [cO.gh] at hv
 rw [hg] at hv
 obtain ⟨hv1,hv2⟩:=hv
 have DL:a.eval x=a.tmps.getD j undef:=by rw [TX];rfl
 have cK:(execOp a.eval o).run C.P w = .ok (.value (a.eval x)) w:=by rcases ho with e | e <;> simp [execOp,e]
 obtain ⟨R',hS,hR,_⟩:=h.Kx h9 hk jO
 have II:(cF γ (lk k) (.live s) (lk k)).ej=true:=by rw [bE];rfl
 have F6:=hS.Ev (g := .cB k s) hj (.inr ⟨by rw [←DL,hv1];exact hR,fun _=>⟨DL ▸ hv1,DL ▸ hv2⟩⟩) rfl rfl II
 have PB:lk k≠j:=by have:=fH k;have:=h.iB;omega
 unfold Oper.wp
 rw [cK,Oper.upon_value,hd]
 refine hK _ _ _ (F6.put (g := .cB k s) hl (.inr ⟨by rw [hv1];exact hR,fun _=>⟨hv1,hv2⟩⟩) rfl rfl ?_)
 show (cF (cF γ (lk k) (.live s)) j (.cB k s) (lk k)).ej=true
 rw [bF _ _ PB];exact II
theorem K6 (hd:o.dst=some d) (hl:d<C.nt) {x:Operand} {r:cO} {t e:TypeId} {k s s' s0:Nat} {es:List AV} (ho:o.op = .call { callee := .builtin .len,args:=#[x],argTypes:=#[t] }) (ht:C.P.underlying t=some (.slice e)) (hx:bS x r=true) (fq:small C.nt [x]=true)
  (hr:r.ev C.E σ = .pt) (hg:r.gh γ = .cB k s0) (hk:γ (lk k) = .pv s) (jO:σ (lk k) = .sl s' es) (hK:∀D' a' w',cL C D' (cF σ d (.v (.int .i64 es.length))) (cF γ d .no) a' w'→K a' w'):o.wp C.P a w K Q:=by
 have e0:=h.gy hx fq
 have hv:=e0.gh (by rw [hr];simp) (by rw [hr];simp)
 rw [hg] at hv
 obtain ⟨_,_,qN⟩:=h.qA hk
 rw [jO] at qN
 obtain ⟨Ke,he,_,hp⟩:=qN.resolve_left (by simp)
 cases he
 have hval:∃q cap,a.eval x = .slice q es.length cap:=by
  rw [hv.1]
  rcases hp with ⟨rfl,e0⟩ | ⟨g,cap,cur,e,fz,e0,_⟩
  ·exact ⟨_,_,e0⟩
  ·exact ⟨_,_,e0⟩
 obtain ⟨q,cap,hval⟩:=hval
 have cK:(execOp a.eval o).run C.P w = .ok (.value (.int .i64 es.length)) w:=by
  simp [execOp,ho,hval,resolve,invoke,builtin,Builtin.len_,run_underlying ht,goInt]
 exact h.fM hd hl cK (.v _) hK
omit h hl in
theorem Rep.xC {R:Reach} {w:World} {i s o:Nat} {y:Value} (h:Rep R w (.el i s o) y):∃b,y = .pointer (some ⟨b,i * s+o,none⟩):=by
 cases h with
 | el _ _ _ b=>exact ⟨b,rfl⟩
theorem K8 (hd:o.dst=some d) (hl:d<C.nt) {x y:Operand} {r q:cO} {t e:TypeId} {inf:TypeInfo} {s s0:Nat} {es:List AV} {k:Nat} {ik:IntKind} {i:Int} (ho:o.op = .indexAddr t x y) (ht:C.P.underlying t=some (.slice e)) (hi:C.P.info? e=some inf) (hz:inf.size=s)
  (hx:bS x r=true) (hy:bS y q=true) (fq:small C.nt [x]=true) (lj:small C.nt [y]=true)
  (hr:r.ev C.E σ = .pt) (hg:r.gh γ = .cB k s0) (hk:γ (lk k) = .pv s) (jO:σ (lk k) = .sl s es) (hq:q.ev C.E σ = .v (.int ik i)) (h0:0≤i) (eO:i.toNat<es.length)
  (hK:∀D' a' w',cL C D' (cF σ d (.el i.toNat s 0)) (cF γ d (.pe k)) a' w'→K a' w'):o.wp C.P a w K Q:=by
 have e0:=h.gy hx fq
 have hv:=e0.gh (by rw [hr];simp) (by rw [hr];simp)
 rw [hg] at hv
 have e2:=(h.gy hy lj).rep (by rw [hq];simp)
 rw [hq] at e2
 obtain ⟨_,_,qN⟩:=h.qA hk
 rw [jO] at qN
 obtain ⟨Ke,he,_,hp⟩:=qN.resolve_left (by simp)
 cases he
 rcases hp with ⟨rfl,_⟩ | ⟨g,cap,cur,e',fz,e1,_⟩
 ·simp at eO
 ·have hval:a.eval x = .slice (some ⟨g,0,none⟩) es.length cap:=hv.1.trans e1
  have cK:(execOp a.eval o).run C.P w = .ok (.value (.pointer (some ⟨g,i.toNat * s,none⟩))) w:=by
   simp [execOp,ho,hval,e2.fw,Instr.indexAt,asIntOf,run_underlying ht,run_sizeOf hi,hz,h0,fB]
   omega
  refine h.val (g := .pe k) hd hl cK (.inr ⟨.el _ _ 0 _,fun _=>⟨g,_,_,_,e1,rfl⟩⟩) rfl rfl ?_ hK
  show (γ (lk k)).ej=true
  rw [hk];rfl
theorem La (hd:o.dst=some d) (hl:d<C.nt) {x:Operand} {r:cO} {t:TypeId} {f k i s o' dd:Nat} {fs:Array Field} {fl:Field} {inf:TypeInfo} (ho:o.op = .fieldAddr t x f) (ht:C.P.underlying t=some (.struct fs)) (hf:fs[f]?=some fl) (zd:fl.offset=dd) (hi:C.P.info? fl.type=some inf) (hn:0<inf.size)
  (hx:bS x r=true) (fq:small C.nt [x]=true) (hr:r.ev C.E σ = .el i s o') (hg:r.gh γ = .pe k) (hK:∀D' a' w',cL C D' (cF σ d (.el i s (o'+dd))) (cF γ d (.pe k)) a' w'→K a' w'):o.wp C.P a w K Q:=by
 have e0:=h.gy hx fq
 have e1:=e0.rep (by rw [hr];simp)
 have hv:=e0.gh (by rw [hr];simp) (by rw [hr];simp)
 rw [hr] at e1
 rw [hg] at hv
 obtain ⟨b,hb⟩:=Rep.xC e1
 obtain ⟨g,n,cap,q,pJ,kb⟩:=hv
 rw [hb] at kb
 cases kb
 have fI:inf.size≠0:=by omega
 have cK:(execOp a.eval o).run C.P w = .ok (.value (.pointer (some ⟨b,i * s+(o'+dd),none⟩))) w:=by
  simp [execOp,ho,hb,Instr.fieldAt,Instr.sureAddr,run_underlying ht,hf,fieldPlace,run_sizeOf hi,fI,fB,zd,Nat.add_assoc]
 have hm:=h.lE r
 rw [hg] at hm
 exact h.val (g := .pe k) hd hl cK (.inr ⟨.el _ _ _ _,fun _=>⟨_,_,_,_,pJ,rfl⟩⟩) rfl rfl hm hK
omit hl in
theorem cL.P4 {x:Operand} {r:cO} {k i s o':Nat} {es:List AV} {e:AV} (hx:bS x r=true) (fq:small C.nt [x]=true) (hr:r.ev C.E σ = .el i s o') (hg:r.gh γ = .pe k) (hk:γ (lk k) = .pv s) (jO:σ (lk k) = .sl s es) (he:es[i]?=some e) :
  ∃g cap cur ce fz,D.τ (lk k) = .slice (some ⟨g,0,none⟩) es.length cap∧a.eval x = .pointer (some ⟨g,i * s+o',none⟩)∧w.heap[g]?=some (.cells cur ce fz)∧(∀o,o<cur.size→¬(fz.1≤o∧o<fz.2))∧cur.size=cap * s∧es.length≤cap ∧
   (∀e∈es,e.cells.length=s)∧dw D.R w (es.flatMap AV.cells) (cur.toList.take (es.length * s))∧cap≤maxLen∧(∀o,¬D.R g o):=by
 have e0:=h.gy hx fq
 have e1:=e0.rep (by rw [hr];simp)
 have hv:=e0.gh (by rw [hr];simp) (by rw [hr];simp)
 rw [hr] at e1
 rw [hg] at hv
 obtain ⟨b,hb⟩:=Rep.xC e1
 obtain ⟨g,n,cap,q,pJ,kb⟩:=hv
 rw [hb] at kb
 cases kb
 obtain ⟨ht,JW,qN⟩:=h.qA hk
 rw [jO] at qN
 obtain ⟨Ke,WH,qk,hp⟩:=qN.resolve_left (by simp)
 cases WH
 rcases hp with ⟨rfl,_⟩ | ⟨g',sz,cur,ce,fz,e2,hh,hL⟩
 ·simp at he
 ·rw [pJ] at e2
  cases e2
  rcases ht with e3 | ⟨g',n',sz,mA,Zo,M4,e3,h1,h2,h3,h4,h5,h6⟩
  ·rw [pJ] at e3;cases e3
  ·rw [pJ] at e3
   cases e3
   rw [hh] at h1
   cases h1
   exact ⟨b,cap,cur,ce,fz,pJ,hb,hh,h2,h3,h4,qk,hL,h5,JW b (by rw [pJ];rfl)⟩
theorem K7 (hd:o.dst=some d) (hl:d<C.nt) {x:Operand} {r:cO} {t:TypeId} {inf:TypeInfo} {k i s o' n:Nat} {agg:Bool} {es:List AV} {e y:AV} (ho:o.op = .load t x) (hi:C.P.info? t=some inf) (hz:inf.size=n) (ha:jN C.P t=some agg) (h1:agg=true∨n=1)
  (hx:bS x r=true) (fq:small C.nt [x]=true) (hr:r.ev C.E σ = .el i s o') (hg:r.gh γ = .pe k) (hk:γ (lk k) = .pv s) (jO:σ (lk k) = .sl s es) (he:es[i]?=some e) (hp:pZ e o' n agg=some y)
  (hK:∀D' a' w',cL C D' (cF σ d y) (cF γ d .no) a' w'→K a' w'):o.wp C.P a w K Q:=by
 obtain ⟨g,cap,cur,ce,fz,_,hv,hh,_,kZ,hle,qk,hL,_⟩:=h.P4 hx fq hr hg hk jO he
 have eO:=(aE.1 he).1
 have W4:dw D.R w e.cells (((cur.toList.take (es.length * s)).drop (i * s)).take s):=by
  have:=(hL.drop (i * s)).take s
  rwa [zA qk he] at this
 obtain ⟨hlen,ic⟩:=mN W4 (wW hp) h1
 have hc:∀j y,(((((cur.toList.take (es.length * s)).drop (i * s)).take s).drop o').take n)[j]?=some y→w.cell? ⟨g,i * s+o'+j,none⟩=some y:=by
  intro j y hj
  simp only [World.cell?,hh]
  rw [aM] at hj
  split at hj
  ·rw [List.getElem?_drop,aM] at hj
   split at hj
   ·rw [List.getElem?_drop,aM] at hj
    split at hj
    ·rw [show i * s+o'+j=i * s+(o'+j) by omega];simpa using hj
    ·cases hj
   ·cases hj
  ·cases hj
 have cK:=kD (P:=C.P) hi ha (hz ▸ h1) (hlen.trans hz.symm) hc
 refine h.fM hd hl (?_:(execOp a.eval o).run C.P w = .ok (.value _) w) ic hK
 simp only [execOp,ho,hv,Instr.loadAt,Instr.sureAddr,Sem.run_bind,Sem.run_pure,Result.andThen_ok,cK]
omit hl in
theorem K1 {x v:Operand} {r q:cO} {t:TypeId} {inf:TypeInfo} {k i s o' n:Nat} {es:List AV} {e e':AV} (hd:o.dst=none) (ho:o.op = .store t x v) (hi:C.P.info? t=some inf) (hz:inf.size=n)
  (hx:bS x r=true) (fq:small C.nt [x]=true) (hv:bS v q=true) (lj:small C.nt [v]=true) (hr:r.ev C.E σ = .el i s o') (hg:r.gh γ = .pe k) (hk:γ (lk k) = .pv s) (jO:σ (lk k) = .sl s es) (he:es[i]?=some e)
  (hp:(q.ev C.E σ).plain=true) (hn:(q.ev C.E σ).cells.length=n) (QA:uu e o' (q.ev C.E σ)=some e')
  (hK:∀D' a' w',cL C D' (cF σ (lk k) (.sl s (es.set i e'))) (cF γ (lk k) (.pv s)) a' w'→K a' w'):o.wp C.P a w K Q:=by
 obtain ⟨g,cap,cur,ce,fz,pJ,V0,hh,hfz,kZ,hle,qk,hL,vu,nP⟩:=h.P4 hx fq hr hg hk jO he
 have eO:=(aE.1 he).1
 have q0:=h.gy hv lj
 have JV:q.ev C.E σ ≠ .dead:=by intro e;rw [e] at hp;cases hp
 have S8:=lg (q0.rep JV) hp
 have hlen:=S8.length
 obtain ⟨xp,IK⟩:=yA QA
 have Dg:=qk e (aT he)
 have R9:(a.eval v).cells.toList.length=n:=hlen.symm.trans hn
 have SV:(a.eval v).cells.size=n:=by simpa using R9
 have SY:(i+1) * s≤es.length * s:=ar _ eO
 have Uf:es.length * s≤cap * s:=ar _ hle
 rw [Nat.succ_mul] at SY
 have vo:=iW (P:=C.P) g (i * s+o') ce fz (a.eval v).cells.toList 0 cur w hh (by rw [R9];omega) hfz S8.one
 simp only [Nat.add_zero] at vo
 let new:Array Value:=(cur.toList.take (i * s+o')++(a.eval v).cells.toList++cur.toList.drop (i * s+o'+(a.eval v).cells.toList.length)).toArray
 have cK:(execOp a.eval o).run C.P w = .ok .skip (w.setRow g new):=by
  have:¬((a.eval v).cells.size≠n):=by omega
  simp only [execOp,ho,V0,Instr.storeAt,Instr.sureAddr,Sem.run_bind,Sem.run_pure,Result.andThen_ok,storeVar,run_sizeOf hi,hz,Sem.run_ite,this,if_false,vo]
  rfl
 have Ch:=setRow_heap w g cur new ce fz hh
 have St:new.size=cur.size:=by simp [new];omega
 have bL:fh D.R w D.R (w.setRow g new):=fun b o hr=>⟨hr,cell_setRow_other w g _ ⟨b,o,none⟩ (fun e=>nP o (by have:b=g:=e;rw [←this];exact hr))⟩
 have FO:(D.τ (lk k)).ownBlock=some g:=by rw [pJ];rfl
 have SP:∀y∈es.set i e',y.cells.length=s:=fun y hy=>by
  rcases List.mem_or_eq_of_mem_set hy with hy | rfl
  ·exact qk y hy
  ·rw [xp];simp [eH];omega
 have hS:=h.Jh hk FO (w':=w.setRow g new) rfl rfl rfl (by simp) (fun b hb=>setRow_other w g b _ hb) (x := .sl s (es.set i e'))
  (.inr ⟨g,es.length,cap,new,ce,fz,pJ,Ch,fun o ho=>hfz o (by omega),St.trans kZ,hle,vu,fun o _=>nP o⟩)
  ⟨fun g' kb o=>by rw [FO] at kb;cases kb;exact nP o,.inr ⟨_,rfl,SP,.inr ⟨g,cap,new,ce,fz,by rw [List.length_set];exact pJ,Ch,by
   rw [List.length_set,zz qk he xp (by omega)]
   have FP:new.toList.take (es.length * s)=(cur.toList.take (es.length * s)).take (i * s+o')++(a.eval v).cells.toList++(cur.toList.take (es.length * s)).drop (i * s+o'+(a.eval v).cells.toList.length):=by
    have ja:cur.toList.length=cap * s:=by simpa using kZ
    apply List.ext_getElem?
    intro j
    simp only [new,aM,List.getElem?_append,aq,aK,List.getElem?_drop,R9,ja]
    have e1:min (i * s+o') (cap * s)=i * s+o':=by omega
    have e2:min (i * s+o') (min (es.length * s) (cap * s))=i * s+o':=by omega
    simp only [e1,e2]
    by_cases c1:j<es.length * s
    ·by_cases c2:j<i * s+o'
     ·simp [c1,c2,show j<i * s+o'+n by omega]
     ·by_cases c3:j<i * s+o'+n
      ·simp [c1,c2,c3]
      ·simp [c1,c2,c3,show i * s+o'+n+(j - (i * s+o'+n))<es.length * s by omega]
    ·have c2:¬j<i * s+o':=by omega
     have c3:¬j<i * s+o'+n:=by omega
     simp [c1,c3,show ¬i * s+o'+n+(j - (i * s+o'+n))<es.length * s by omega]
   rw [FP]
   simp only [eH,hlen]
   exact (((hL.take _).append S8).append (hL.drop _)).mono bL⟩⟩⟩
 have zG:cF γ (lk k) (.pv s)=γ:=by
  funext j
  by_cases e:j=lk k
  ·subst e;rw [bE,hk]
  ·rw [bF _ _ e]
 unfold Oper.wp
 rw [cK,Oper.upon_skip,hd]
 rw [zG] at hK
 exact hK _ _ _ (by simpa [Act.put] using hS)
end
end Go.Eng
namespace Go.Eng
open Go.RowKit
section
variable {C:Ctx} {sg:Nat→c7}
theorem Om {k:Nat}:cC C sg (.HZ k):=by
 intro D σ γ a w dst op ty pos after guard rs ds gd ws gs K' Q h ho hk c8 hs hg hK
 simp only [cj,aa] at hk
 obtain ⟨⟨jW,eE⟩,gH⟩:=hk
 obtain ⟨d,rfl,hl,rfl⟩:=ez gH
 simp only [dX] at ho
 split at ho
 ·rename_i s u x r rest _ _
  simp only [aa] at ho
  obtain ⟨⟨ht,hu⟩,ho⟩:=ho
  obtain ⟨e,O6,O5⟩:=ku hu
  simp at jW
  obtain ⟨q,rfl⟩:=ka jW
  cases q <;> simp at eE
  subst eE
  simp only [ah,ao,eh] at hs
  simp only [ah,ao,dt] at hg
  split at hs
  ·rename_i b y heq
   simp only [aj,and_true] at heq
   obtain ⟨hb,rfl⟩:=hs
   split at hg
   ·rename_i g dp
    simp only [aj,and_true,cO.gh] at dp
    cases hg
    exact K2 h rfl hl rfl (ga ht) O6 O5 ho (bH c8 (by simp [Op.operands])) heq.1 hb dp.2 hK
   ·cases hg
  ·cases hs
 ·cases ho
theorem Ox {k s:Nat}:cC C sg (.sM k s):=by
 intro D σ γ a w dst op ty pos after guard rs ds gd ws gs K' Q h ho hk c8 hs hg hK
 simp only [cj,aa] at hk
 obtain ⟨⟨h9,jW,eE⟩,gH⟩:=hk
 simp only [ay] at h9
 have main:∀{x:Operand} {r q:cO},(op = .move x∨op = .assign x)→rs=[r,q]→bS x r=true→(⟨dst,op,ty,pos,after,guard⟩:Oper).wp C.P a w K' Q:=by
  intro x r q QB pD hx
  subst pD
  cases q <;> simp at eE
  subst eE
  cases r with
  | s j =>
   simp only [aa,ay] at gH
   obtain ⟨hj,gH⟩:=gH
   obtain ⟨d,rfl,hl,rfl⟩:=ez gH
   simp only [ah,ao,eh] at hs
   simp only [ah,ao,dt] at hg
   split at hs
   ·rename_i s' es heq
    simp only [aj,and_true,cO.ev] at heq
    obtain ⟨rfl,rfl⟩:=hs
    split at hg
    ·rename_i k' s0 s1 dp
     simp only [aj,and_true,cO.gh] at dp
     split at hg
     ·rename_i hc
      obtain ⟨rfl,rfl⟩:=hc
      cases hg
      exact K9 h h9 rfl hl QB hx hj heq.1 dp.1 dp.2 heq.2 hK
     ·cases hg
    ·cases hg
   ·cases hs
  | c x=>simp at gH
  | g n=>simp at gH
 simp only [dX] at ho
 split at ho
 ·exact main (.inl rfl) rfl ho
 ·exact main (.inr rfl) rfl ho
 ·cases ho
theorem Ou {k:Nat}:cC C sg (.yE k):=by
 intro D σ γ a w dst op ty pos after guard rs ds gd ws gs K' Q h ho hk c8 hs hg hK
 simp only [cj,aa] at hk
 obtain ⟨⟨jW,eE⟩,gH⟩:=hk
 obtain ⟨d,rfl,hl,rfl⟩:=ez (l:=[]) gH
 simp only [dX] at ho
 split at ho
 ·rename_i args pf r rest
  simp only [aa,beq_iff_eq] at ho
  obtain ⟨⟨h1,h2⟩,ho⟩:=ho
  simp at jW
  obtain ⟨q,rfl⟩:=ka jW
  cases q <;> simp at eE
  subst eE
  obtain ⟨t,ht⟩:=ka h1
  rw [ht] at h2
  simp only [List.all_cons,List.all_nil,Bool.and_true] at h2
  obtain ⟨x,kO⟩:=ka (fi ho)
  rw [kO] at ho
  obtain ⟨r',e,hx⟩:=jZ ho
  cases e
  have ea:=DC kO
  have et:=DC ht
  subst ea;subst et
  obtain ⟨e,he⟩:=Option.isSome_iff_exists.1 h2
  simp only [ah,ao,eh] at hs
  simp only [ah,ao,dt] at hg
  split at hs
  ·rename_i s' es heq
   simp only [aj,and_true,cO.ev] at heq
   subst hs
   split at hg
   ·rename_i k' s0 s1 dp
    simp only [aj,and_true,cO.gh] at dp
    split at hg
    ·rename_i hc
     subst hc
     cases hg
     exact K6 h rfl hl rfl (gF he) hx (bH c8 (by simp [Op.operands,Call.operands])) heq.1 dp.1 dp.2 heq.2 hK
    ·cases hg
   ·cases hg
  ·cases hs
 ·cases ho
theorem Ow {k s:Nat}:cC C sg (.lP k s):=by
 intro D σ γ a w dst op ty pos after guard rs ds gd ws gs K' Q h ho hk c8 hs hg hK
 simp only [cj,aa] at hk
 obtain ⟨⟨jW,eE⟩,gH⟩:=hk
 obtain ⟨d,rfl,hl,rfl⟩:=ez (l:=[]) gH
 simp only [dX] at ho
 split at ho
 ·rename_i t x y r q z
  simp only [aa] at ho
  obtain ⟨ht,ho⟩:=ho
  obtain ⟨e,inf,h1,h2,h3,h4⟩:=kp ht
  obtain ⟨r',q',e',hx,hy⟩:=iz ho
  cases e'
  cases z <;> simp at eE
  subst eE
  simp only [ah,ao,eh] at hs
  simp only [ah,ao,dt] at hg
  split at hs
  ·rename_i ik i s' es heq
   simp only [aj,and_true,cO.ev] at heq
   obtain ⟨rfl,h0,eO,rfl⟩:=hs
   split at hg
   ·rename_i k' s0 g0 s1 dp
    simp only [aj,and_true,cO.gh] at dp
    split at hg
    ·rename_i hc
     obtain ⟨rfl,rfl⟩:=hc
     cases hg
     exact K8 h rfl hl rfl h1 h2 h3 hx hy (bH c8 (by simp [Op.operands])) (bH c8 (by simp [Op.operands])) heq.1 dp.1 dp.2.2 heq.2.2 heq.2.1 h0 eO hK
    ·cases hg
   ·cases hg
  ·cases hs
 ·cases ho
theorem Oy {k dd:Nat}:cC C sg (.KU k dd):=by
 intro D σ γ a w dst op ty pos after guard rs ds gd ws gs K' Q h ho hk c8 hs hg hK
 obtain ⟨d,rfl,hl,rfl⟩:=ez (l:=[]) hk
 simp only [dX] at ho
 split at ho
 ·rename_i t x f r
  simp only [aa] at ho
  obtain ⟨ht,hx⟩:=ho
  cases hf:mz C.P t f with
  | none=>simp [hf] at ht
  | some fl =>
   simp only [hf,Option.any_some,aa,beq_iff_eq] at ht
   obtain ⟨h0,ht⟩:=ht
   cases hz:gU C.P fl.type with
   | none=>simp [hz] at ht
   | some n =>
    simp [hz] at ht
    obtain ⟨inf,h1,h2⟩:=fV hz
    obtain ⟨fs,hu,qj⟩:=l0 hf
    simp only [ah,ao,eh] at hs
    split at hs
    ·rename_i i s o' heq
     simp only [aj,and_true] at heq
     subst hs
     simp only [ah,ao,dt] at hg
     split at hg
     ·rename_i k' dp
      simp only [aj,and_true] at dp
      split at hg
      ·rename_i hc
       subst hc
       cases hg
       exact La h rfl hl rfl hu qj h0 h1 (by omega) hx (bH c8 (by simp [Op.operands])) heq dp hK
      ·cases hg
     ·cases hg
    ·cases hs
 ·cases ho
theorem Ov {k s n:Nat} {agg:Bool}:cC C sg (.rQ k s n agg):=by
 intro D σ γ a w dst op ty pos after guard rs ds gd ws gs K' Q h ho hk c8 hs hg hK
 simp only [cj,aa] at hk
 obtain ⟨⟨jW,eE⟩,gH⟩:=hk
 obtain ⟨d,rfl,hl,rfl⟩:=ez (l:=[]) gH
 simp only [dX] at ho
 split at ho
 ·rename_i t x r rest
  simp at jW
  obtain ⟨q,rfl⟩:=ka jW
  cases q <;> simp at eE
  subst eE
  simp only [aa] at ho
  obtain ⟨ht,ho⟩:=ho
  obtain ⟨inf,h1,h2,h3,h4⟩:=gw ht
  simp only [ah,ao,eh] at hs
  split at hs
  ·rename_i i s' o' lY es heq
   simp only [aj,and_true,cO.ev] at heq
   obtain ⟨e,y,rfl,rfl,he,hp,rfl⟩:=hs
   simp only [ah,ao,dt] at hg
   split at hg
   ·rename_i k' s1 dp
    simp only [aj,and_true,cO.gh] at dp
    split at hg
    ·rename_i hc
     obtain ⟨rfl,rfl⟩:=hc
     cases hg
     exact K7 h rfl hl rfl h1 h2 h3 h4 ho (bH c8 (by simp [Op.operands])) heq.1 dp.1 dp.2 heq.2 he hp hK
    ·cases hg
   ·cases hg
  ·cases hs
 ·cases ho
theorem Ol {k s n:Nat}:cC C sg (.sL k s n):=by
 intro D σ γ a w dst op ty pos after guard rs ds gd ws gs K' Q h ho hk c8 hs hg hK
 simp only [cj,aa,beq_iff_eq,Option.isNone_iff_eq_none] at hk
 obtain ⟨⟨rfl,rfl⟩,eE⟩:=hk
 simp only [dX] at ho
 split at ho
 ·rename_i t x v p q r
  simp only [aa,beq_iff_eq] at ho
  obtain ⟨⟨ht,hx⟩,hv⟩:=ho
  obtain ⟨inf,h1,h2⟩:=fV ht
  cases q with
  | s j =>
   simp at eE
   subst eE
   simp only [ah,ao,eh] at hs
   split at hs
   ·rename_i i s' o' lY es y heq
    simp only [aj,and_true,cO.ev] at heq
    obtain ⟨e1,e2,e3⟩:=heq
    obtain ⟨e,e',rfl,rfl,he,p1,p2,p3,rfl⟩:=hs
    subst e3
    simp only [ah,ao,dt] at hg
    split at hg
    ·rename_i k' s1 g dp
     simp only [aj,and_true,cO.gh] at dp
     split at hg
     ·rename_i hc
      obtain ⟨rfl,rfl⟩:=hc
      cases hg
      exact K1 h rfl rfl h1 h2 hx (bH c8 (by simp [Op.operands])) hv (bH c8 (by simp [Op.operands])) e1 dp.1 dp.2.1 e2 he p1 p2 p3 hK
     ·cases hg
    ·cases hg
   ·cases hs
  | c x=>simp at eE
  | g n=>simp at eE
 ·cases ho
end
end Go.Eng
namespace Go.Eng
open Go.RowKit
section
variable {C:Ctx} {D:j0} {σ:Sg} {γ:Ga} {a:Act} {w:World}
theorem cL.Qc (h : cL C D σ γ a w) {k s : Nat} {es : List AV} (hk : γ (lk k) = .pv s ∨ γ (lk k) = .pc s) (jO : σ (lk k) = .sl s es) {R' : Reach} {w' : World} (he : Ext w D.R (fun c => (D.τ (lk k)).ownBlock = some c) w' R')
    (eO : ∀ b o, R' b o → b < w'.heap.size) (ht : fg R' w' (D.τ (lk k)) s) (hp : fL R' w' (D.τ (lk k)) s (.sl s es)) : cL C { D with R := R' } σ γ a w' := by
  have PA : (γ (lk k)).td = true := by rcases hk with e | e <;> rw [e] <;> rfl
  have Pu : (γ (lk k)).par = none := by rcases hk with e | e <;> rw [e] <;> rfl
  have Pt : (γ (lk k)).CL = some s := by rcases hk with e | e <;> rw [e] <;> rfl
  have oJ : eI D γ (lk k) = (D.τ (lk k)).ownBlock := fN PA
  -- another Qq block is another one, but a Ns
  have r9 : ∀ key g, key ≠ lk k → (γ key).par ≠ some (lk k) → eI D γ key = some g → (D.τ (lk k)).ownBlock ≠ some g := by
    intro key g h1 h2 h3 h4
    rcases h.sep key (lk k) g h3 (oJ.trans h4) with e | e | e
    · exact h1 e
    · exact h2 e
    · rw [Pu] at e; cases e
  have F0 : ∀ key g, key ≠ lk k → (γ key).par ≠ some (lk k) → eI D γ key = some g → w'.heap[g]? = w.heap[g]? ∧ ∀ o, R' g o → D.R g o := by
    intro key g h1 h2 h3
    have fI := r9 key g h1 h2 h3
    refine ⟨he.heap g (h.lt h3) fI, fun o hr => ?_⟩
    rcases he.qx g o hr with e | e | e
    · exact e
    · have := h.lt h3; omega
    · exact (fI e).elim
  refine ⟨h.size, h.defers, h.iB, h.oe, h.kL, fun t tg => ?_, fun m ts hm => ?_, fun key s' jx => ?_, fun key s' hs => ?_, h.sep, h.own, h.inv, ?_, eO, fun n => (h.gl n).mono he.bL, h.fix⟩
  · exact (h.slot t tg).imp id fun ⟨r, g⟩ => ⟨r.mono he.bL, fun hs => by have g := g hs; cases hg : γ t <;> rw [hg] at g <;> exact g⟩
  · obtain ⟨cs, hv, nM⟩ := h.mem m ts hm
    have h1 : m ≠ lk k := fun e => by subst e; rw [hm] at PA; cases PA
    obtain ⟨q1, q2⟩ := F0 m (D.β m) h1 (by rw [hm]; simp [Gh.par]) (gP hm)
    exact ⟨cs, hv.bL he.bL q1 (fun o hr => hv.CR o (q2 o hr)), nM⟩
  · have h1 : key ≠ lk k := fun e => by subst e; rw [jx] at PA; cases PA
    exact (h.cB key s' jx).bL fun g hg => F0 key g h1 (by rw [jx]; simp [Gh.par]) ((gA jx).trans hg)
  · by_cases e : key = lk k
    · subst e
      rw [Pt] at hs
      cases hs
      rw [jO]
      exact ⟨ht, hp, (h.ps _ _ Pt).2.2⟩
    · obtain ⟨h1, h2, h3⟩ := h.ps key s' hs
      refine ⟨?_, ?_, h3⟩
      all_goals
        by_cases FK : ∃ g, (D.τ key).ownBlock = some g ∧ (D.τ (lk k)).ownBlock = some g
        all_goals try exact (h1.bL fun g hg => ⟨he.heap g (h1.lt hg) (fun e' => FK ⟨g, hg, e'⟩), fun o hr => (he.qx g o hr).elim id fun e' => e'.elim (fun e' => absurd (h1.lt hg) (by omega)) fun e' => (FK ⟨g, hg, e'⟩).elim⟩)
        all_goals try exact (h2.bL he.bL fun g hg => ⟨he.heap g (h1.lt hg) (fun e' => FK ⟨g, hg, e'⟩), fun o hr => (he.qx g o hr).elim id fun e' => e'.elim (fun e' => absurd (h1.lt hg) (by omega)) fun e' => (FK ⟨g, hg, e'⟩).elim⟩)
        obtain ⟨g, hg1, hg2⟩ := FK
        have mm : (γ key).par = some (lk k) := by
          by_cases mm : (γ key).par = some (lk k)
          · exact mm
          · exact (r9 key g e mm ((fN (Gh.qB hs)).trans hg1) hg2).elim
        have Pa : γ key = .mX (lk k) s' := by
          cases hg : γ key <;> rw [hg] at mm hs <;> simp [Gh.par, Gh.CL] at mm hs
          rw [mm, hs]
        have Wj : γ (lk k) = .pc s := by
          have := h.inv key
          rw [Pa] at this
          rcases hk with e' | e'
          · rcases this with Tn | ⟨_, Tn⟩ <;> rw [e'] at Tn <;> cases Tn
          · exact e'
        -- the child, ahead and behind
        obtain ⟨ct, cp, _⟩ := h.ps _ _ Pt
        rcases ct with e1 | ⟨gc, nc, Xy, Xu, ec, Zg, e1, c1, c2, c3, c4, c5, c6⟩
        · rw [e1] at hg2; cases hg2
        have Xm : gc = g := by rw [e1] at hg2; simpa [Value.ownBlock] using hg2
        subst Xm
        rcases ht with e2 | ⟨Ze, YJ, UG, Kg, UD, P1, e2, d1, d2, d3, d4, d5, d6⟩
        · rw [e1] at e2; cases e2
        rw [e1] at e2
        cases e2
        rcases h1 with e3 | ⟨gp, np, Qb, Xt, ep, Zf, e3, p1, p2, p3, p4, p5, p6⟩
        · rw [e3] at hg1; cases hg1
        have Xl : gp = gc := by rw [e3] at hg1; simpa [Value.ownBlock] using hg1
        subst Xl
        rw [c1] at p1
        cases p1
        first
        | exact .inr ⟨gp, np, Qb, Kg, UD, P1, e3, d1, d2, (d3.trans c3.symm).trans p3, p4, p5, fun o _ => hp.1 gp hg2 o⟩
        | refine ⟨fun g' kb o => by rw [hg1] at kb; cases kb; exact hp.1 gp hg2 o, ?_⟩
          rcases h3 _ _ _ Pa Wj with e4 | e4 | ⟨Ti, more, e4, e5⟩
          · exact .inl e4
          · rw [jO] at e4; cases e4
          · right
            rw [jO] at e5
            cases e5
            rcases h2.2 with e6 | ⟨Zk, e6, h7, h8⟩
            · rw [e4] at e6; cases e6
            rw [e4] at e6
            cases e6
            refine ⟨Ti, e4, h7, ?_⟩
            rcases h8 with ⟨_, e8⟩ | ⟨g8, Tr, Tq, Xi, Xe, e8, _, _⟩
            · rw [e3] at e8; cases e8
            rw [e3] at e8
            cases e8
            refine .inr ⟨gp, Qb, Kg, UD, P1, by rw [e3], d1, ?_⟩
            obtain ⟨Zj, e9, _, h9⟩ := hp.2.resolve_left (by simp)
            cases e9
            rcases h9 with ⟨_, xX⟩ | ⟨g9, Xz, Xv, Zl, Zh, xX, q1, q2⟩
            · rw [e1] at xX; cases xX
            rw [e1] at xX
            cases xX
            rw [d1] at q1
            cases q1
            have MV := xx (s := s) (es := Ti) h7
            have := q2.take (Ti.length * s)
            rw [List.flatMap_append, List.take_append_of_le_length (by omega), List.take_of_length_le (by omega), List.take_take, aq, Nat.add_mul] at this
            rwa [Nat.min_eq_left (by omega)] at this
  · exact h.ext.trans he fun b hb => h.own (lk k) b (oJ.trans hb)
theorem uy {l:List Operand} {rs:List cO} {i:Nat} (h:cL C D σ γ a w) (hx:bV l rs=true) (hs:small C.nt l=true) {x:AV} (he:(rs.map (cO.ev C.E σ))[i]?=some x) (hd:x ≠ .dead) (hk:x ≠ .sk) :
  ∃v,(l.map a.eval)[i]?=some v∧Rep D.R w x v∧∀g,(rs.map (cO.gh γ))[i]?=some g→iw D g v:=by
 induction l generalizing rs i with
 | nil=>cases rs with
  | nil=>simp at he
  | cons=>simp [bV] at hx
 | cons y l ih =>
  cases rs with
  | nil=>simp [bV] at hx
  | cons q qs =>
   simp [bV] at hx
   have s1:small C.nt [y]=true:=by simp [small] at hs ⊢;exact hs.1
   have s2:small C.nt l=true:=by simp only [small,List.all_cons,aa] at hs;exact hs.2
   cases i with
   | zero =>
    simp at he
    have h0:=h.gy hx.1 s1
    refine ⟨a.eval y,rfl,he ▸ h0.rep (by rw [he];exact hd),fun g hg=>?_⟩
    simp at hg
    exact hg ▸ h0.gh (by rw [he];exact hd) (by rw [he];exact hk)
   | succ i=>simpa using ih hx.2 s2 (by simpa using he)
variable {o:Oper} {d:Nat} {K:Act→World→Prop} {Q:Exit→Act→World→Prop} (h:cL C D σ γ a w)
include h
omit h in
theorem cL.rP {D':j0} {w':World} (hS:cL C D' σ γ a w') (hl:d<C.nt) {n:Nat} {rvs:List Value} {outs:List AV} {x:Value} (h1:rvs.length=n) (h2:x=(if n=1 then rvs.headD undef else .tuple ⟨rvs⟩)) (h3:eY D'.R w' outs rvs) (rp:outs.length=n) :
  cL C D' (cF σ d (if n=1 then outs.headD .dead else .tu outs)) (cF γ d .no) (a.put (some d) x) w':=by
 refine hS.put hl (.plain ?_) rfl rfl trivial
 by_cases e:n=1
 ·rw [aH e] at h2 ⊢
  subst h2
  rw [e] at h1
  match rvs,h1 with
  | [y],_=>cases h3 with
   | cons h1 _=>exact h1
 ·rw [aD e] at h2 ⊢
  subst h2
  exact .tu h3
theorem EP (hd:o.dst=some d) (hl:d<C.nt) {f n i k s:Nat} {args:Array Operand} {ts:Array TypeId} {rs:List cO} {es:List AV} {outs:List AV} (ho:o.op = .call { callee := .value (.func f),args,argTypes:=ts }) (hp:fA C.P f=true)
  {S:FS} (hS:dH C.P C.E.gl f S) (iZ:S.sg.ps=some (i,s)) (Dd:i<1000) (hn:S.sg.bO=n) (hx:bV args.toList rs=true) (c8:small C.nt args.toList=true)
  (tJ:(rs.map (cO.ev C.E σ))[i]?=some .pt) (De:(rs.map (cO.gh γ))[i]?=some (.cB k s)) (hk:γ (lk k) = .pv s∨γ (lk k) = .pc s) (jO:σ (lk k) = .sl s es)
  (hG:S.G ((rs.map (cO.ev C.E σ)).set i (.sl s es)) outs) (rp:outs.length=n)
  (hK:∀D' a' w',cL C D' (cF σ d (if n=1 then outs.headD .dead else .tu outs)) (cF γ d .no) a' w'→K a' w'):o.wp C.P a w K Q:=by
 have Pt:(γ (lk k)).CL=some s:=by rcases hk with e | e <;> rw [e] <;> rfl
 obtain ⟨ht,vq,_⟩:=h.ps _ _ Pt
 obtain ⟨v,hv1,_,hv2⟩:=uy h hx c8 tJ (by simp) (by simp)
 have hv3:=(hv2 _ De).1
 subst hv3
 have hT:=h.qE hx c8
 have xl:=(aE.1 tJ).1
 have qL:((rs.map (cO.ev C.E σ)).set i (.sl s es)).set i .pt=rs.map (cO.ev C.E σ):=by rw [List.set_set,nh tJ]
 unfold Oper.wp
 rw [kH ho hp,Oper.upon_enter]
 have:=(hS.2 i s iZ).1 Dd w D.R _ outs (args.toList.map a.eval) _ es hG h.jT h.gl hv1 (List.getElem?_set_self xl) ht (jO ▸ vq) (by rw [qL];exact hT)
 have e:(⟨args.toList.map a.eval⟩:Array Value)=args.map a.eval:=by apply Array.ext';simp
 rw [e] at this
 refine this.mono ?_
 rintro e w' ⟨x,R',rvs,rfl,h1,h2,h3,h4,h5,h6,h7⟩
 simp only
 rw [hd]
 exact hK _ _ _ (cL.rP (h.Qc hk jO h1 h2 h6 h7) hl (h3.trans hn) (by rw [←hn];exact h4) h5 rp)
theorem EO (hd:o.dst=some d) (hl:d<C.nt) {f n i s:Nat} {args:Array Operand} {ts:Array TypeId} {rs:List cO} {outs:List AV} (ho:o.op = .call { callee := .value (.func f),args,argTypes:=ts }) (hp:fA C.P f=true)
  {S:FS} (hS:dH C.P C.E.gl f S) (iZ:S.sg.ps=some (i,s)) (Dd:i<1000) (hn:S.sg.bO=n) (hx:bV args.toList rs=true) (c8:small C.nt args.toList=true)
  (hi:args.toList[i]?=some (.const (.slice none 0 0))) (hv:(rs.map (cO.ev C.E σ))[i]?=some (.sl s [])) (hG:S.G (rs.map (cO.ev C.E σ)) outs) (rp:outs.length=n)
  (hK:∀D' a' w',cL C D' (cF σ d (if n=1 then outs.headD .dead else .tu outs)) (cF γ d .no) a' w'→K a' w'):o.wp C.P a w K Q:=by
 have hT:=h.qE hx c8
 have hv1:(args.toList.map a.eval)[i]?=some (.slice none 0 0):=by rw [aI,hi];rfl
 have PU:eY D.R w ((rs.map (cO.ev C.E σ)).set i .pt) (args.toList.map a.eval):=by
  have:∀{l:List AV} {ys:List Value} {i:Nat},eY D.R w l ys→eY D.R w (l.set i .pt) ys:=by
   intro l ys i hr
   induction i generalizing l ys with
   | zero=>cases hr with
    | nil=>exact .nil
    | cons a b=>exact .cons (.pt _) b
   | succ i ih=>cases hr with
    | nil=>exact .nil
    | cons a b=>exact .cons a (ih b)
  exact this hT
 unfold Oper.wp
 rw [kH ho hp,Oper.upon_enter]
 have:=(hS.2 i s iZ).1 Dd w D.R _ outs (args.toList.map a.eval) _ [] hG h.jT h.gl hv1 hv (.inl rfl) ⟨by simp [Value.ownBlock],.inr ⟨[],rfl,by simp,.inl ⟨rfl,rfl⟩⟩⟩ PU
 have e:(⟨args.toList.map a.eval⟩:Array Value)=args.map a.eval:=by apply Array.ext';simp
 rw [e] at this
 refine this.mono ?_
 rintro e w' ⟨x,R',rvs,rfl,h1,h2,h3,h4,h5,h6,h7⟩
 simp only
 rw [hd]
 have Pg:=h.uU (w':=w') (R':=R') (by
  have:(fun c=>(Value.slice none 0 0).ownBlock=some c)=fun _=>False:=by funext c;simp [Value.ownBlock]
  rwa [this] at h1) h2
 exact hK _ _ _ (cL.rP Pg hl (h3.trans hn) (by rw [←hn];exact h4) h5 rp)
theorem EN (hd:o.dst=some d) (hl:d<C.nt) {x:Operand} {r:cO} {t e y:TypeId} {k s s0:Nat} {es:List AV} (ho:o.op = .binOp .eql t x (.const (.slice none 0 0)) y) (ht:C.P.underlying t=some (.slice e)) (hx:bS x r=true) (fq:small C.nt [x]=true)
  (hr:r.ev C.E σ = .pt) (hg:r.gh γ = .cB k s0) {s1:Nat} (hk:γ (lk k) = .pv s) (jO:σ (lk k) = .sl s1 es) (hK:∀D' a' w',cL C D' (cF σ d (match es with | [] => .ab | _ :: _ => .v (.bool false))) (cF γ d .no) a' w'→K a' w'):o.wp C.P a w K Q:=by
 have e0:=h.gy hx fq
 have hv:=e0.gh (by rw [hr];simp) (by rw [hr];simp)
 rw [hg] at hv
 obtain ⟨_,_,qN⟩:=h.qA hk
 rw [jO] at qN
 obtain ⟨Ke,he,_,hp⟩:=qN.resolve_left (by simp)
 cases he
 have hc:a.eval (.const (.slice none 0 0)) = .slice none 0 0:=rfl
 rcases hp with ⟨rfl,e1⟩ | ⟨g,cap,cur,ce,fz,e1,_⟩
 ·have hval:a.eval x = .slice none 0 0:=hv.1.trans e1
  have cK:(execOp a.eval o).run C.P w = .ok (.value (.bool true)) w:=by
   simp only [execOp,ho,hval,hc,eqGuard,Sem.run_bind,Sem.run_pure,Sem.run_ite,Result.andThen_ok]
   simp only [a8,aY,if_false,Sem.run_pure,Result.andThen_ok]
   rw [Lib.run_eql_slice_nil w t e _ _ _ _ _ ht]
   rfl
  exact h.fM hd hl cK (.ab _) hK
 ·have hval:a.eval x = .slice (some ⟨g,0,none⟩) es.length cap:=hv.1.trans e1
  have cK:(execOp a.eval o).run C.P w = .ok (.value (.bool false)) w:=by
   simp only [execOp,ho,hval,hc,eqGuard,Sem.run_bind,Sem.run_pure,Sem.run_ite,Result.andThen_ok]
   simp only [a8,aY,if_false,Sem.run_pure,Result.andThen_ok]
   rw [Lib.run_eql_slice_nil w t e _ _ _ _ _ ht]
   rfl
  cases es with
  | nil=>exact h.fM hd hl cK (.ab _) hK
  | cons _ _=>exact h.fM hd hl cK (.v _) hK
theorem NG (hd:o.dst=some d) (hl:d<C.nt) {x y:Operand} {r q:cO} {t e:TypeId} {inf:TypeInfo} {m n s:Nat} {ts:List (Nat × (Nat × Nat))} {ik:IntKind} {i:Int} (ho:o.op = .indexAddr t x y) (ht:C.P.underlying t=some (.array n e)) (hi:C.P.info? e=some inf) (hz:inf.size=s)
  (hx:bS x r=true) (hy:bS y q=true) (fq:small C.nt [x]=true) (lj:small C.nt [y]=true)
  (hr:r.ev C.E σ = .pt) (hg:r.gh γ = .ptr m 0) (hm:γ m = .cl ts) (hq:q.ev C.E σ = .v (.int ik i)) (h0:0≤i) (eO:i<n)
  (hK:∀D' a' w',cL C D' (cF σ d (.el i.toNat s 0)) (cF γ d (.pm m)) a' w'→K a' w'):o.wp C.P a w K Q:=by
 have e0:=h.gy hx fq
 have hv:=e0.gh (by rw [hr];simp) (by rw [hr];simp)
 rw [hg] at hv
 simp only [iw] at hv
 have e2:=(h.gy hy lj).rep (by rw [hq];simp)
 rw [hq] at e2
 have cK:(execOp a.eval o).run C.P w = .ok (.value (.pointer (some ⟨D.β m,i.toNat * s,none⟩))) w:=by
  simp [execOp,ho,hv,e2.fw,Instr.indexAt,Instr.sureAddr,asIntOf,run_underlying ht,run_sizeOf hi,hz,h0,eO,fB]
 refine h.val (g := .pm m) hd hl cK (.inr ⟨.el _ _ 0 _,fun _=>⟨_,rfl⟩⟩) rfl rfl ?_ hK
 show (γ m).eQ=true
 rw [hm];rfl
theorem NF (hd:o.dst=some d) (hl:d<C.nt) {x:Operand} {r:cO} {t:TypeId} {inf:TypeInfo} {m i s o':Nat} {cs:List AV} {ts:List (Nat × (Nat × Nat))} {y:AV} (ho:o.op = .load t x) (hi:C.P.info? t=some inf) (hz:inf.size=1) (ha:jN C.P t=some false)
  (hx:bS x r=true) (fq:small C.nt [x]=true) (hr:r.ev C.E σ = .el i s o') (hg:r.gh γ = .pm m) (hm:γ m = .cl ts) (jO:σ m = .ag cs) (hp:fJ cs (i * s+o') 1 false=some y)
  (hK:∀D' a' w',cL C D' (cF σ d y) (cF γ d .no) a' w'→K a' w'):o.wp C.P a w K Q:=by
 have e0:=h.gy hx fq
 have e1:=e0.rep (by rw [hr];simp)
 have hv:=e0.gh (by rw [hr];simp) (by rw [hr];simp)
 rw [hr] at e1
 rw [hg] at hv
 obtain ⟨b,hb⟩:=Rep.xC e1
 obtain ⟨q,hq⟩:=hv
 rw [hb] at hq
 cases hq
 obtain ⟨ws,tj,_⟩:=h.mem m ts hm
 rw [jO] at tj
 obtain ⟨elem,hh,hL⟩:=tj.ag
 obtain ⟨hlen,ic⟩:=mN hL hp (.inr rfl)
 have hc:∀j y,(((ws.take cs.length).drop (i * s+o')).take 1)[j]?=some y→w.cell? ⟨D.β m,i * s+o'+j,none⟩=some y:=by
  intro j y hj
  simp only [World.cell?,hh]
  rw [aM] at hj
  split at hj
  ·rw [List.getElem?_drop,aM] at hj
   split at hj
   ·simpa using hj
   ·cases hj
  ·cases hj
 have cK:=kD (P:=C.P) hi ha (.inr hz) (hlen.trans hz.symm) hc
 refine h.fM hd hl (?_:(execOp a.eval o).run C.P w = .ok (.value _) w) ic hK
 simp only [execOp,ho,hb,Instr.loadAt,Instr.sureAddr,Sem.run_bind,Sem.run_pure,Result.andThen_ok,cK]
end
end Go.Eng
namespace Go.Eng
open Go.RowKit
section
variable {P:Program} {w:World}
theorem kK {R:Reach} {t u ty e:TypeId} {i:TypeInfo} {z:Value} {du:TypeDesc} (ht:P.underlying t=some (.slice e)) (hi:P.info? e=some i) (hz:i.zero=some z) (y7:z.cells.size=i.size) (hu:P.underlying u=some du) (vt:∀k,du ≠ .int k)
  {x0 x:Value} {es fs:List AV} {news:List Value} (hT:fg R w x0 i.size) (hP:fL R w x0 i.size (.sl i.size es)) (eO:∀b o,R b o→b<w.heap.size)
  (hx:Source P w i.size x fs.length news) (hL:dw R w (fs.flatMap AV.cells) news) (qj:∀e∈fs,e.cells.length=i.size) (zl:es.length+fs.length≤maxLen) (hb:(es.length+fs.length) * i.bytes≤140737488355328) :
  ∃v w',(Builtin.append_ #[t,u] ty #[x0,x]).run P w = .ok v w'∧w'.os=w.os∧w'.tape=w.tape∧w'.output=w.output∧w.heap.size≤w'.heap.size ∧
   (∀b,b<w.heap.size→x0.ownBlock≠some b→w'.heap[b]?=w.heap[b]?)∧fg R w' x0 i.size∧fL R w' x0 i.size (.sl i.size es) ∧
   fg R w' v i.size∧fL R w' v i.size (.sl i.size (es++fs))∧(∀g,v.ownBlock=some g→x0.ownBlock=some g∨w.heap.size≤g):=by
 have ze:=hx.2.2.1
 obtain ⟨J8,Me⟩:=hP
 obtain ⟨Ke,WJ,qk,W3⟩:=Me.resolve_left (by simp)
 cases WJ
 have J5:∀e∈es++fs,e.cells.length=i.size:=fun e he=>by
  rcases List.mem_append.1 he with he | he
  ·exact qk e he
  ·exact qj e he
 -- the row PY
 have grow:∀(q:Option Addr) (cap:Nat) (mi:List Value),x0 = .slice q es.length cap→cap<es.length+fs.length→(∀w':World,w'.heap=w.heap→(Builtin.firstCells i.size es.length (.slice q es.length cap)).run P w' = .ok ⟨mi⟩ w') →
   dw R w (es.flatMap AV.cells) mi→mi.length=es.length * i.size →
   ∃v w',(Builtin.append_ #[t,u] ty #[x0,x]).run P w = .ok v w'∧w'.os=w.os∧w'.tape=w.tape∧w'.output=w.output∧w.heap.size≤w'.heap.size ∧
   (∀b,b<w.heap.size→x0.ownBlock≠some b→w'.heap[b]?=w.heap[b]?)∧fg R w' x0 i.size∧fL R w' x0 i.size (.sl i.size es) ∧
   fg R w' v i.size∧fL R w' v i.size (.sl i.size (es++fs))∧(∀g,v.ownBlock=some g→x0.ownBlock=some g∨w.heap.size≤g):=by
  intro q cap mi kO SD ho IM qi
  have cK:=mM (ty:=ty) ht hi hz hu vt ho hx SD zl hb
  have xV:=grownCap_ge w (es.length+fs.length) cap e
  have hle:=grownCap_le_maxLen w (es.length+fs.length) cap e zl
  let row:Array Value:=(⟨mi⟩:Array Value)++⟨news⟩++Builtin.zeroCells z.cells (grownCap w (es.length+fs.length) cap e - (es.length+fs.length))
  let w1:World:=w.drew.alloc (.cells row e)
  have gR:w1.heap[w.heap.size]?=some (.cells row e (0,0)):=by
   show (w.heap.push _)[w.heap.size]?=_
   simp
  have hold:∀c,c<w.heap.size→w1.heap[c]?=w.heap[c]?:=fun c hc=>by
   show (w.heap.push _)[c]?=_
   rw [Array.getElem?_push,aD (by omega)]
  have pD:row.size=grownCap w (es.length+fs.length) cap e * i.size:=by
   simp only [row,Array.size_append,List.size_toArray,size_zeroCells,y7,qi,ze,←Nat.add_mul]
   congr 1;omega
  have nP:∀q,¬R w.heap.size q:=fun q hr=>by have:=eO _ q hr;omega
  have bL:fh R w R w1:=fun b o hr=>⟨hr,World.cell?_of_block (w:=w) (hold b (eO b o hr))⟩
  have Qx:row.toList.take ((es++fs).length * i.size)=mi++news:=by
   have:(es++fs).length * i.size=(mi++news).length:=by rw [aq,aq,Nat.add_mul,qi,ze]
   rw [this]
   have Se:row.toList=(mi++news)++(Builtin.zeroCells z.cells (grownCap w (es.length+fs.length) cap e - (es.length+fs.length))).toList:=by simp [row]
   rw [Se,List.take_left]
  refine ⟨_,w1,by rw [kO];exact cK,rfl,rfl,rfl,by show _≤(w.heap.push _).size;simp,fun b zk _=>hold b zk,hT.bL fun g hg=>⟨hold g (hT.lt hg),fun _ hr=>hr⟩,
   fL.bL ⟨J8,Me⟩ bL fun g hg=>⟨hold g (hT.lt hg),fun _ hr=>hr⟩,.inr ⟨_,_,_,_,_,_,rfl,gR,by simp,pD,xV,hle,fun q _=>nP q⟩,
   ⟨fun g hg q=>?_,.inr ⟨_,rfl,J5,.inr ⟨w.heap.size,grownCap w (es.length+fs.length) cap e,row,e,(0,0),by rw [aq],gR,?_⟩⟩⟩,fun g hg=>?_⟩
  ·simp [Value.ownBlock] at hg;subst hg;exact nP q
  ·rw [Qx,List.flatMap_append]
   exact (IM.append hL).mono bL
  ·simp [Value.ownBlock] at hg
   exact .inr (by omega)
 rcases W3 with ⟨rfl,e0⟩ | ⟨g,cap,cur,ce,fz,e0,hg,IM⟩
 ·by_cases hm:fs.length=0
  ·have L4:fs=[]:=aR hm
   subst L4
   refine ⟨.slice none 0 0,w,?_,rfl,rfl,rfl,Nat.le_refl _,fun _ _ _=>rfl,hT,⟨J8,Me⟩,.inl rfl,⟨by simp [Value.ownBlock],.inr ⟨[],rfl,by simp,.inl ⟨rfl,rfl⟩⟩⟩,by simp [Value.ownBlock]⟩
   obtain ⟨h1,h2,h3,h4⟩:=hx
   have PH:(match du with | .int _=>true | _=>false)=false:=by cases du <;> first | rfl | exact (vt _ rfl).elim
   have Ck:=h2 w rfl
   simp only [aZ] at h1 Ck
   rw [e0]
   simp [Builtin.append_,run_underlying ht,run_underlying hu,PH,sizeOf,typeInfo,hi,h1,Ck]
  ·exact grow none 0 [] e0 (by simp;omega) (fun _ _=>rfl) .nil (by simp)
 ·rcases hT with e1 | ⟨g1,n1,XA,Xw,Zn,Zi,e1,hg1,hfz,xn,Pm,vu,nP⟩
  ·rw [e0] at e1;cases e1
  rw [e0] at e1
  cases e1
  rw [hg] at hg1
  cases hg1
  have FO:x0.ownBlock=some g:=by rw [e0];rfl
  have ja:es.length * i.size≤cap * i.size:=ar _ Pm
  have qi:(cur.toList.take (es.length * i.size)).length=es.length * i.size:=by simp;omega
  by_cases oy:es.length+fs.length≤cap
  ·have cK:=mL (ty:=ty) ht hi hu vt hg hfz hx oy xn
   have hle:(es.length+fs.length) * i.size≤cap * i.size:=ar _ oy
   rw [Nat.add_mul] at hle
   let new:Array Value:=(cur.toList.take (es.length * i.size)++news++cur.toList.drop (es.length * i.size+news.length)).toArray
   let w1:World:=w.setRow g new
   have Ch:w1.heap[g]?=some (.cells new ce fz):=setRow_heap w g cur new ce fz hg
   have hold:∀b,b≠g→w1.heap[b]?=w.heap[b]?:=fun b hb=>setRow_other w g b _ hb
   have T2:new.size=cur.size:=by simp [new];omega
   have bL:fh R w R w1:=fun b o hr=>⟨hr,World.cell?_of_block (w:=w) (hold b (fun e=>J8 g FO o (e ▸ hr)))⟩
   have ht1:new.toList.take (es.length * i.size)=cur.toList.take (es.length * i.size):=by
    show (cur.toList.take (es.length * i.size)++news++_).take (es.length * i.size)=_
    rw [aQ,List.take_append_of_le_length (by omega),List.take_take,Nat.min_self]
   have ht2:new.toList.take ((es++fs).length * i.size)=cur.toList.take (es.length * i.size)++news:=by
    have:(es++fs).length * i.size=(cur.toList.take (es.length * i.size)++news).length:=by rw [aq,aq,Nat.add_mul,qi,ze]
    show (cur.toList.take (es.length * i.size)++news++_).take _=_
    rw [this,List.take_left]
   refine ⟨_,w1,by rw [e0];exact cK,rfl,rfl,rfl,by simp [w1],fun b zk fI=>hold b (fun e=>fI (by rw [FO,e])),.inr ⟨g,_,_,new,ce,fz,e0,Ch,fun o ho=>hfz o (by omega),T2.trans xn,Pm,vu,fun o _=>J8 g FO o⟩,
    ⟨J8,.inr ⟨es,rfl,qk,.inr ⟨g,cap,new,ce,fz,e0,Ch,by rw [ht1];exact IM.mono bL⟩⟩⟩,.inr ⟨g,_,_,new,ce,fz,rfl,Ch,fun o ho=>hfz o (by omega),T2.trans xn,oy,vu,fun o _=>J8 g FO o⟩,
    ⟨fun g' kb o=>by simp [Value.ownBlock] at kb;subst kb;exact J8 _ FO o,.inr ⟨_,rfl,J5,.inr ⟨g,cap,new,ce,fz,by rw [aq],Ch,?_⟩⟩⟩,fun g' kb=>?_⟩
   ·rw [ht2,List.flatMap_append]
    exact (IM.append hL).mono bL
   ·simp [Value.ownBlock] at kb
    subst kb
    exact .inl FO
  ·exact grow (some ⟨g,0,none⟩) cap (cur.toList.take (es.length * i.size)) e0 (by omega) (fun w' hw=>run_firstCells_some (P:=P) w' i.size es.length ⟨g,0,none⟩ es.length cap _ qi (fun j v hj=>by
    rw [fB,World.cell?_of_block (w:=w) (by rw [hw])]
    rw [aM] at hj
    split at hj
    ·simp only [World.cell?,hg,Nat.zero_add];simpa using hj
    ·cases hj)) IM qi
end
section
variable {C:Ctx} {D:j0} {σ:Sg} {γ:Ga} {a:Act} {w:World}
theorem cL.PZ (h:cL C D σ γ a w) {k j s:Nat} (hk:γ (lk k) = .pv s) (hj:γ (lk j) = .no) {w':World} (os:w'.os=w.os) (tape:w'.tape=w.tape) (out:w'.output=w.output) (size:w.heap.size≤w'.heap.size)
  (hh:∀b,b<w.heap.size→(D.τ (lk k)).ownBlock≠some b→w'.heap[b]?=w.heap[b]?) {v:Value} {es more:List AV} (jO:σ (lk k) = .sl s es)
  (pt:fg D.R w' (D.τ (lk k)) s) (pp:fL D.R w' (D.τ (lk k)) s (.sl s es)) (ct:fg D.R w' v s) (cp:fL D.R w' v s (.sl s (es++more))) (hv:∀g,v.ownBlock=some g→(D.τ (lk k)).ownBlock=some g∨w.heap.size≤g) :
  cL C { D with τ:=cF D.τ (lk j) v } (bN σ [lk k,lk j] [.sl s es,.sl s (es++more)]) (bN γ [lk k,lk j] [.mX (lk j) s,.pc s]) a w':=by
 have fI:lk k≠lk j:=fun e=>by rw [e,hj] at hk;cases hk
 have oJ:eI D γ (lk k)=(D.τ (lk k)).ownBlock:=fN (by rw [hk];rfl)
 have vq:=(h.qA hk).2.1
 have bL:fh D.R w D.R w':=fun b o hr=>⟨hr,World.cell?_of_block (w:=w) (hh b (h.jT b o hr) (fun e=>vq b e o hr))⟩
 have Dr:bN σ [lk k,lk j] [.sl s es,.sl s (es++more)]=cF (cF σ (lk j) (.sl s (es++more))) (lk k) (.sl s es):=rfl
 have zG:bN γ [lk k,lk j] [Gh.mX (lk j) s,.pc s]=cF (cF γ (lk j) (.pc s)) (lk k) (.mX (lk j) s):=rfl
 rw [Dr,zG]
 generalize LM:cF (cF γ (lk j) (.pc s)) (lk k) (.mX (lk j) s)=nT
 generalize LL:cF (cF σ (lk j) (.sl s (es++more))) (lk k) (.sl s es)=dz
 have g1:nT (lk k) = .mX (lk j) s:=by rw [←LM,bE]
 have g2:nT (lk j) = .pc s:=by rw [←LM,bF _ _ fI.symm,bE]
 have g3:∀x,x≠lk k→x≠lk j→nT x=γ x:=fun x h1 h2=>by rw [←LM,bF _ _ h1,bF _ _ h2]
 have s1:dz (lk k) = .sl s es:=by rw [←LL,bE]
 have s2:dz (lk j) = .sl s (es++more):=by rw [←LL,bF _ _ fI.symm,bE]
 have s3:∀x,x≠lk k→x≠lk j→dz x=σ x:=fun x h1 h2=>by rw [←LL,bF _ _ h1,bF _ _ h2]
 have ja:∀m,(nT m).eQ=(γ m).eQ:=fun m=>by
  by_cases e1:m=lk k
  ·subst e1;rw [g1,hk];rfl
  ·by_cases e2:m=lk j
   ·subst e2;rw [g2,hj];rfl
   ·rw [g3 m e1 e2]
 have kG:∀m,(γ m).ej=true→(nT m).ej=true:=fun m hm=>by
  by_cases e1:m=lk k
  ·subst e1;rw [g1];rfl
  ·by_cases e2:m=lk j
   ·subst e2;rw [g2];rfl
   ·rw [g3 m e1 e2];exact hm
 have Wt:∀m,(γ m).ej=true→m≠lk j:=fun m hm e=>by subst e;rw [hj] at hm;cases hm
 have pJ:∀m,(γ m).ej=true→cF D.τ (lk j) v m=D.τ m:=fun m hm=>bF _ _ (Wt m hm)
 have hM:∀g,eK γ g→eK nT g:=fun g hg=>by
  cases g with
  | ptr m o=>simp only [eK,ja] at hg ⊢;exact hg
  | pm m=>simp only [eK,ja] at hg ⊢;exact hg
  | cB q s'=>exact kG _ hg
  | pe q=>exact kG _ hg
  | cl ts=>exact fun t ht=>kG _ (hg t ht)
  | xR ts p=>exact ⟨fun t ht=>kG _ (hg.1 t ht),fun q hq=>by rw [ja];exact hg.2 q hq⟩
  | mX q s' =>
   have h1:q≠lk k:=fun e=>by subst e;rcases hg with e | ⟨_,e⟩ <;> rw [hk] at e <;> cases e
   have h2:q≠lk j:=fun e=>by subst e;rcases hg with e | ⟨_,e⟩ <;> rw [hj] at e <;> cases e
   simp only [eK,g3 q h1 h2];exact hg
  | _=>trivial
 have FP:∀t q,t<C.nt→t≠lk q:=fun t q ht e=>by have:=fH q;have:=h.iB;omega
 -- other Qp blocks
 have LX:∀key g,key≠lk k→eI D γ key=some g→w'.heap[g]?=w.heap[g]?:=fun key g hn hb=>hh g (h.lt hb) (fun e=>hn (h.sK hk (oJ.trans e) hb))
 have zk:∀key,eI { D with τ:=cF D.τ (lk j) v } nT key=if key=lk j then v.ownBlock else eI D γ key:=fun key=>by
  by_cases e2:key=lk j
  ·subst e2;rw [aH rfl,fN (by rw [g2];rfl)];simp only [bE]
  ·rw [aD e2]
   by_cases e1:key=lk k
   ·subst e1;rw [fN (by rw [g1];rfl),fN (by rw [hk];rfl)];simp only [bF _ _ e2]
   ·unfold eI
    rw [g3 key e1 e2]
    simp only [bF _ _ e2]
 have Ma:∀key g,key≠lk j→eI D γ key=some g→v.ownBlock=some g→key=lk k:=fun key g _ hb hg=>by
  rcases hv g hg with e | e
  ·exact h.sK hk (oJ.trans e) hb
  ·have:=h.lt hb;omega
 have mm:∀key,key≠lk k→key≠lk j→(nT key).par=(γ key).par:=fun key h1 h2=>by rw [g3 key h1 h2]
 refine ⟨h.size,h.defers,h.iB,fun m hm=>h.oe m (by rwa [ja] at hm),fun m hm=>?_,fun t ht=>?_,fun m ts hm=>?_,fun key s' hs=>?_,fun key s' hs=>?_,fun p q g hp hq=>?_,fun p g hp=>?_,fun key=>?_,?_,fun b o hr=>Nat.lt_of_lt_of_le (h.jT b o hr) size,fun n=>(h.gl n).mono bL,h.fix.of rfl (fun hp=>?_)⟩
 ·by_cases e1:m=lk k
  ·subst e1;exact fH _
  ·by_cases e2:m=lk j
   ·subst e2;exact fH _
   ·rw [g3 m e1 e2] at hm;exact h.kL m hm
 ·rw [s3 t (FP t k ht) (FP t j ht),g3 t (FP t k ht) (FP t j ht)]
  exact (h.slot t ht).imp id fun ⟨r,g⟩=>⟨r.mono bL,fun hs=>iw.congr (D:=D) (h.inv t) (fun _ _=>rfl) (fun q hq=>pJ _ hq) (g hs)⟩
 ·have e1:m≠lk k:=fun e=>by subst e;rw [g1] at hm;cases hm
  have e2:m≠lk j:=fun e=>by subst e;rw [g2] at hm;cases hm
  rw [g3 m e1 e2] at hm
  rw [s3 m e1 e2]
  obtain ⟨cs,hV,nM⟩:=h.mem m ts hm
  have hi:=h.inv m
  rw [hm] at hi
  exact ⟨cs,hV.bL bL (LX m _ e1 (gP hm)) hV.CR,fun t ht=>by show cs[t.1]?=some (cF D.τ (lk j) v (lk t.2.1));rw [pJ _ (hi t ht)];exact nM t ht⟩
 ·have e1:key≠lk k:=fun e=>by subst e;rw [g1] at hs;cases hs
  have e2:key≠lk j:=fun e=>by subst e;rw [g2] at hs;cases hs
  rw [g3 key e1 e2] at hs
  simp only [bF _ _ e2]
  exact (h.cB key s' hs).bL fun g hg=>⟨LX key g e1 ((gA hs).trans hg),fun _ hr=>hr⟩
 ·have qM:key≠lk k→va dz nT key:=fun e1 d Q5 s4 f1 f2=>by
   have e2:key≠lk j:=fun e=>by subst e;rw [g2] at f1;cases f1
   rw [g3 key e1 e2] at f1
   have hi:=h.inv key
   rw [f1] at hi
   have d1:d≠lk k:=fun e=>by subst e;rw [g1] at f2;cases f2
   have d2:d≠lk j:=fun e=>by subst e;rcases hi with e | ⟨_,e⟩ <;> rw [hj] at e <;> cases e
   rw [g3 d d1 d2] at f2
   rw [s3 key e1 e2,s3 d d1 d2]
   exact (h.ps key Q5 (by rw [f1];rfl)).2.2 d Q5 s4 f1 f2
  by_cases e1:key=lk k
  ·subst e1
   rw [g1] at hs
   cases hs
   rw [s1]
   simp only [bF _ _ fI]
   exact ⟨pt,pp,fun d Q5 s4 f1 f2=>by rw [g1] at f1;cases f1;exact .inr (.inr ⟨es,more,s1,s2⟩)⟩
  ·by_cases e2:key=lk j
   ·subst e2
    rw [g2] at hs
    cases hs
    rw [s2]
    simp only [bE]
    exact ⟨ct,cp,qM e1⟩
   ·have JS:=hs
    rw [g3 key e1 e2] at JS
    rw [s3 key e1 e2]
    simp only [bF _ _ e2]
    obtain ⟨q1,q2,_⟩:=h.ps key s' JS
    have hb:=fun g hg=>LX key g e1 ((fN (Gh.qB JS)).trans hg)
    exact ⟨q1.bL fun g hg=>⟨hb g hg,fun _ hr=>hr⟩,q2.bL bL fun g hg=>⟨hb g hg,fun _ hr=>hr⟩,qM e1⟩
 ·rw [zk] at hp hq
  by_cases p2:p=lk j
  ·by_cases q2:q=lk j
   ·exact .inl (p2.trans q2.symm)
   ·rw [aH p2] at hp
    rw [aD q2] at hq
    have:=Ma q g q2 hq hp
    subst this
    right;right
    rw [g1,p2];rfl
  ·rw [aD p2] at hp
   by_cases q2:q=lk j
   ·rw [aH q2] at hq
    have:=Ma p g p2 hp hq
    subst this
    right;left
    rw [g1,q2];rfl
   ·rw [aD q2] at hq
    rcases h.sep p q g hp hq with e | e | e
    ·exact .inl e
    ·have p1:p≠lk k:=fun e'=>by subst e';rw [hk] at e;cases e
     right;left;rw [mm p p1 p2];exact e
    ·have q1:q≠lk k:=fun e'=>by subst e';rw [hk] at e;cases e
     right;right;rw [mm q q1 q2];exact e
 ·rw [zk] at hp
  by_cases p2:p=lk j
  ·rw [aH p2] at hp
   rcases hv g hp with e | e
   ·exact h.own (lk k) g (oJ.trans e)
   ·exact .inr (Nat.le_trans h.ext.size e)
  ·rw [aD p2] at hp;exact h.own p g hp
 ·by_cases e1:key=lk k
  ·subst e1;rw [g1];exact .inr ⟨s,g2⟩
  ·by_cases e2:key=lk j
   ·subst e2;rw [g2];trivial
   ·rw [g3 key e1 e2];exact hM _ (h.inv key)
 ·refine ⟨os.trans h.ext.os,tape.trans h.ext.tape,out.trans h.ext.output,Nat.le_trans h.ext.size size,fun b hb hn=>?_,h.ext.bL.trans bL,h.ext.qx⟩
  refine (hh b (Nat.lt_of_lt_of_le hb h.ext.size) fun e=>?_).trans (h.ext.heap b hb hn)
  rcases h.own (lk k) b (oJ.trans e) with e | e
  ·exact hn e
  ·omega
 ·have e2:lk 999999≠lk j:=fun e=>by rw [e,hj] at hp;cases hp
  refine ⟨?_,bF _ _ e2⟩
  by_cases e1:lk 999999=lk k
  ·rw [e1,g1];rfl
  ·rw [g3 _ e1 e2];exact hp
variable {o:Oper} {d:Nat} {K:Act→World→Prop} {Q:Exit→Act→World→Prop} (h:cL C D σ γ a w)
include h
theorem K5 (hd:o.dst=some d) (hl:d<C.nt) {x y:Operand} {r q:cO} {t u e:TypeId} {i:TypeInfo} {z:Value} {du:TypeDesc} {k j s:Nat} {es fs:List AV} (ho:o.op = .call { callee := .builtin .append,args:=#[x,y],argTypes:=#[t,u] })
  (ht:C.P.underlying t=some (.slice e)) (hi:C.P.info? e=some i) (hz:i.zero=some z) (y7:z.cells.size=i.size) (hu:C.P.underlying u=some du) (vt:∀k,du ≠ .int k) (hs:i.size=s)
  (hx:bS x r=true) (fq:small C.nt [x]=true) (hy:bS y q=true) (lj:small C.nt [y]=true) (hr:r.ev C.E σ = .pt) (hg:r.gh γ = .cB k s) (hk:γ (lk k) = .pv s) (jO:σ (lk k) = .sl s es) (hj:γ (lk j) = .no)
  (hq:q.ev C.E σ = .sl s fs) (zl:es.length+fs.length≤maxLen) (hb:(es.length+fs.length) * i.bytes≤140737488355328)
  (hK:∀D' a' w',cL C D' (bN σ [d,lk k,lk j] [.pt,.sl s es,.sl s (es++fs)]) (bN γ [d,lk k,lk j] [.cB j s,.mX (lk j) s,.pc s]) a' w'→K a' w'):o.wp C.P a w K Q:=by
 subst hs
 have e0:=h.gy hx fq
 have hv:=e0.gh (by rw [hr];simp) (by rw [hr];simp)
 rw [hg] at hv
 have e2:=(h.gy hy lj).rep (by rw [hq];simp)
 rw [hq] at e2
 obtain ⟨hT,hP⟩:=h.qA hk
 rw [jO] at hP
 obtain ⟨news,r8,hL,qj⟩:=Source.yI (P:=C.P) e2
 obtain ⟨v,w',cK,os,tape,out,size,hh,pt,pp,ct,cp,LN⟩:=kK (ty:=o.type) ht hi hz y7 hu vt hT hP h.jT r8 hL qj zl hb
 have hS:=h.PZ hk hj os tape out size hh jO pt pp ct cp LN
 unfold Oper.wp
 rw [show (execOp a.eval o).run C.P w = .ok (.value v) w' by simp [execOp,ho,resolve,invoke,builtin,hv.1,cK],Oper.upon_value,hd]
 have Wz:(bN γ [lk k,lk j] [Gh.mX (lk j) i.size,.pc i.size]) (lk j) = .pc i.size:=by
  have fI:lk k≠lk j:=fun e=>by rw [e,hj] at hk;cases hk
  simp only [bN]
  rw [bF _ _ fI.symm,bE]
 refine hK _ _ _ (hS.put (g := .cB j i.size) hl (.inr ⟨.pt _,fun _=>?_⟩) rfl rfl ?_)
 ·show v=cF D.τ (lk j) v (lk j)∧v.oneCell'=true
  rw [bE]
  exact ⟨rfl,by rcases ct with rfl | ⟨_,_,_,_,_,_,rfl,_⟩ <;> rfl⟩
 ·show ((bN γ [lk k,lk j] [Gh.mX (lk j) i.size,.pc i.size]) (lk j)).ej=true
  rw [Wz];rfl
theorem cL.AG {x:Operand} {r:cO} {k s s0:Nat} {fs:List AV} (hx:bS x r=true) (fq:small C.nt [x]=true) (hr:r.ev C.E σ = .pt) (hg:r.gh γ = .cB k s0) (hk:γ (lk k) = .pv s) (jO:σ (lk k) = .sl s fs) :
  ∃news,Source C.P w s (a.eval x) fs.length news∧dw D.R w (fs.flatMap AV.cells) news∧∀e∈fs,e.cells.length=s:=by
 have e0:=h.gy hx fq
 have hv:=e0.gh (by rw [hr];simp) (by rw [hr];simp)
 rw [hg] at hv
 obtain ⟨hT,J8,Me⟩:=h.qA hk
 rw [jO] at Me
 obtain ⟨es,he,qk,hP⟩:=Me.resolve_left (by simp)
 cases he
 rcases hP with ⟨rfl,e1⟩ | ⟨g,cap,cur,ce,fz,e1,hg1,hL⟩
 ·refine ⟨[],⟨fun _=>?_,fun _ _=>?_,by simp,by simp⟩,.nil,by simp⟩
  ·rw [hv.1,e1];rfl
  ·rw [hv.1,e1];rfl
 ·have qQ:fs.length≤cap∧cur.size=cap * s:=by
   rcases hT with e2 | ⟨g',n,sz,mA,e',M4,e2,h1,h2,h3,h4,h5,h6⟩
   ·rw [e1] at e2;cases e2
   ·rw [e1] at e2;cases e2
    rw [hg1] at h1;cases h1
    exact ⟨h4,h3⟩
  have hle:fs.length * s≤cap * s:=ar _ qQ.1
  have qi:(cur.toList.take (fs.length * s)).length=fs.length * s:=by simp;omega
  refine ⟨_,⟨fun _=>?_,fun w' hw=>?_,qi,hL.one⟩,hL,qk⟩
  ·rw [hv.1,e1];rfl
  ·rw [hv.1,e1]
   exact run_firstCells_some (P:=C.P) w' s fs.length ⟨g,0,none⟩ fs.length cap _ qi (fun j v hj=>by
    rw [fB,World.cell?_of_block (w:=w) (by rw [hw])]
    rw [aM] at hj
    split at hj
    ·simp only [World.cell?,hg1,Nat.zero_add];simpa using hj
    ·cases hj)
end
end Go.Eng
namespace Go.Eng
open Go.RowKit
section
variable {C:Ctx} {sg:Nat→c7}
theorem Oq {k d' s b:Nat}:cC C sg (.Jr k d' s b):=by
 intro D σ γ a w dst op ty pos after guard rs ds gd ws gs K' Q h ho hk c8 hs hg hK
 simp only [cj,aa,beq_iff_eq,ah,ao] at hk
 obtain ⟨⟨jW,eE⟩,gH⟩:=hk
 obtain ⟨d,rfl,hl,rfl⟩:=ez gH
 simp only [dX] at ho
 split at ho
 ·rename_i args pf r q r3 r4
  simp only [aa,beq_iff_eq] at ho
  obtain ⟨⟨ho,h1⟩,h2⟩:=ho
  obtain ⟨t,u,e,i,z,du,rfl,q1,q2,q3,q4,q5,q6,q7,q8⟩:=pF h1 h2
  have ht:=tZ eE
  simp only [List.drop_succ_cons,aS,aj,and_true] at ht
  obtain ⟨rfl,rfl⟩:=ht
  obtain ⟨x,y,kO⟩:=uL (l:=args.toList) (by rw [fi ho];rfl)
  rw [kO] at ho
  obtain ⟨r',q',sX,hx,hy⟩:=iz ho
  simp only [aj,and_true] at sX
  obtain ⟨rfl,rfl⟩:=sX
  have ea:=ri kO
  subst ea
  simp only [ah,ao,eh] at hs
  split at hs
  ·rename_i lY fs s' es v2 heq
   simp only [aj,and_true,cO.ev] at heq
   obtain ⟨e1,e2,e3,_⟩:=heq
   obtain ⟨rfl,rfl,p2,p3,rfl⟩:=hs
   simp only [ah,ao,dt] at hg
   split at hg
   ·rename_i k1 s1 g s2 dp
    simp only [aj,and_true,cO.gh] at dp
    obtain ⟨g1,g2,g3,g4⟩:=dp
    split at hg
    ·rename_i hc
     obtain ⟨rfl,rfl,rfl,fI⟩:=hc
     cases hg
     exact K5 h rfl hl rfl q1 q2 q5 q6 q7 q8 q3 hx (bH c8 (by simp [Op.operands,Call.operands])) hy (bH c8 (by simp [Op.operands,Call.operands])) e1 g1 g3 e3 g4 e2 p2 (by rw [q4];exact p3) hK
    ·cases hg
   ·cases hg
  ·cases hs
 ·cases ho
theorem Nh {rs:List cO} {n a b c:Nat} (h:(rs.drop n).map (fun r=>match r with | cO.s t=>some t | _=>none)=[some a,some b,some c]):rs.drop n=[.s a,.s b,.s c] :=
 lu (ks:=[a,b,c]) h
theorem OP {k d' q0 s b:Nat}:cC C sg (.Kk k d' q0 s b):=by
 intro D σ γ a w dst op ty pos after guard rs ds gd ws gs K' Q h ho hk c8 hs hg hK
 simp only [cj,aa,beq_iff_eq,ah,ao] at hk
 obtain ⟨⟨jW,eE⟩,gH⟩:=hk
 obtain ⟨d,rfl,hl,rfl⟩:=ez gH
 simp only [dX] at ho
 split at ho
 ·rename_i args pf r q r3 r4 r5
  simp only [aa,beq_iff_eq] at ho
  obtain ⟨⟨ho,h1⟩,h2⟩:=ho
  obtain ⟨t,u,e,i,z,du,rfl,q1,q2,q3,q4,q5,q6,q7,q8⟩:=pF h1 h2
  have ht:=Nh eE
  simp only [List.drop_succ_cons,aS,aj,and_true] at ht
  obtain ⟨rfl,rfl,rfl⟩:=ht
  obtain ⟨x,y,kO⟩:=uL (l:=args.toList) (by rw [fi ho];rfl)
  rw [kO] at ho
  obtain ⟨r',q',sX,hx,hy⟩:=iz ho
  simp only [aj,and_true] at sX
  obtain ⟨rfl,rfl⟩:=sX
  have ea:=ri kO
  subst ea
  simp only [ah,ao,eh] at hs
  split at hs
  ·rename_i s' es v1 v2 lY fs heq
   simp only [aj,and_true,cO.ev] at heq
   obtain ⟨e1,e2,_,_,e5⟩:=heq
   obtain ⟨rfl,rfl,p2,p3,rfl⟩:=hs
   simp only [ah,ao,dt] at hg
   split at hg
   ·rename_i k1 s1 k2 s2 s3 s4 dp
    simp only [aj,and_true,cO.gh] at dp
    obtain ⟨g1,g2,g3,g4,g5⟩:=dp
    split at hg
    ·rename_i hc
     obtain ⟨rfl,rfl,rfl,fI,rfl,rfl,rfl⟩:=hc
     cases hg
     obtain ⟨news,n1,n2,n3⟩:=h.AG hy (bH c8 (by simp [Op.operands,Call.operands])) e2 g2 g5 e5
     exact E1 (q:=q) h rfl hl rfl q1 q2 q5 q6 q7 q8 q3 hx (bH c8 (by simp [Op.operands,Call.operands])) e1 g1 g3 g4 fI n1 n2 n3 p2 (by rw [q4];exact p3) hK
    ·cases hg
   ·cases hg
  ·cases hs
 ·cases ho
theorem Ot {k:Nat}:cC C sg (.KT k):=by
 intro D σ γ a w dst op ty pos after guard rs ds gd ws gs K' Q h ho hk c8 hs hg hK
 simp only [cj,aa] at hk
 obtain ⟨⟨jW,eE⟩,gH⟩:=hk
 obtain ⟨d,rfl,hl,rfl⟩:=ez (l:=[]) gH
 simp only [dX] at ho
 split at ho
 ·rename_i t x y r q
  simp only [aa] at ho
  obtain ⟨hx,he⟩:=ho
  obtain ⟨e,he⟩:=Option.isSome_iff_exists.1 he
  cases q <;> simp at eE
  subst eE
  simp only [ah,ao,eh] at hs
  simp only [ah,ao,dt] at hg
  split at hg
  ·rename_i k' s0 s1 dp
   simp only [aj,and_true,cO.gh] at dp
   split at hg
   ·rename_i hc
    subst hc
    cases hg
    split at hs
    ·rename_i s' heq
     simp only [aj,and_true,cO.ev] at heq
     subst hs
     exact EN h rfl hl rfl (gF he) hx (bH c8 (by simp [Op.operands])) heq.1 dp.1 dp.2 heq.2 hK
    ·rename_i s' e1 e2 heq
     simp only [aj,and_true,cO.ev] at heq
     subst hs
     exact EN h rfl hl rfl (gF he) hx (bH c8 (by simp [Op.operands])) heq.1 dp.1 dp.2 heq.2 hK
    ·cases hs
   ·cases hg
  ·cases hg
 ·cases ho
theorem Rw {m n s:Nat}:cC C sg (.la m n s):=by
 intro D σ γ a w dst op ty pos after guard rs ds gd ws gs K' Q h ho hk c8 hs hg hK
 simp only [cj,aa] at hk
 obtain ⟨⟨_,jW,eE⟩,gH⟩:=hk
 obtain ⟨d,rfl,hl,rfl⟩:=ez (l:=[]) gH
 simp only [dX] at ho
 split at ho
 ·rename_i t x y r q z
  simp only [aa] at ho
  obtain ⟨ht,ho⟩:=ho
  split at ht
  ·rename_i n' e he
   simp only [aa,beq_iff_eq] at ht
   obtain ⟨rfl,ht⟩:=ht
   obtain ⟨inf,h1,h2⟩:=fV ht
   obtain ⟨r',q',e',hx,hy⟩:=iz ho
   cases e'
   cases z <;> simp at eE
   subst eE
   simp only [ah,ao,eh] at hs
   simp only [ah,ao,dt] at hg
   split at hs
   ·rename_i ik i cs heq
    simp only [aj,and_true,cO.ev] at heq
    obtain ⟨h0,eO,rfl⟩:=hs
    split at hg
    ·rename_i m' o' g0 ts dp
     simp only [aj,and_true,cO.gh] at dp
     split at hg
     ·rename_i hc
      obtain ⟨rfl,rfl,_⟩:=hc
      cases hg
      exact NG h rfl hl rfl he h1 h2 hx hy (bH c8 (by simp [Op.operands])) (bH c8 (by simp [Op.operands])) heq.1 dp.1 dp.2.2 heq.2.1 h0 eO hK
     ·cases hg
    ·cases hg
   ·cases hs
  ·cases ht
 ·cases ho
theorem Rv {m s:Nat}:cC C sg (.ll m s):=by
 intro D σ γ a w dst op ty pos after guard rs ds gd ws gs K' Q h ho hk c8 hs hg hK
 simp only [cj,aa] at hk
 obtain ⟨⟨_,jW,eE⟩,gH⟩:=hk
 obtain ⟨d,rfl,hl,rfl⟩:=ez (l:=[]) gH
 simp only [dX] at ho
 split at ho
 ·rename_i t x r rest
  simp at jW
  obtain ⟨q,rfl⟩:=ka jW
  cases q <;> simp at eE
  subst eE
  simp only [aa] at ho
  obtain ⟨ht,ho⟩:=ho
  obtain ⟨inf,h1,h2,h3,h4⟩:=gw ht
  simp only [ah,ao,eh] at hs
  split at hs
  ·rename_i i s' o' cs heq
   simp only [aj,and_true,cO.ev] at heq
   obtain ⟨y,rfl,hp,rfl⟩:=hs
   simp only [ah,ao,dt] at hg
   split at hg
   ·rename_i m' ts dp
    simp only [aj,and_true,cO.gh] at dp
    split at hg
    ·rename_i hc
     obtain ⟨rfl,rfl⟩:=hc
     cases hg
     exact NF h rfl hl rfl h1 h2 h3 ho (bH c8 (by simp [Op.operands])) heq.1 dp.1 dp.2 heq.2 hp hK
    ·cases hg
   ·cases hg
  ·cases hs
 ·cases ho
theorem Iq (hE:∀f,dH C.P C.E.gl f (C.E.fs f)∧(C.E.fs f).sg=sg f) {f n bO i k s:Nat}:cC C sg (.pQ f n bO i k s):=by
 intro D σ γ a w dst op ty pos after guard rs ds gd ws gs K' Q h ho hk c8 hs hg hK
 simp only [cj,aa,beq_iff_eq,ah,ao] at hk
 obtain ⟨⟨jW,eE⟩,gH⟩:=hk
 obtain ⟨d,rfl,hl,rfl⟩:=ez (l:=[]) gH
 simp only [dX] at ho
 split at ho
 ·rename_i g args pf
  simp only [aa,beq_iff_eq,ay] at ho
  obtain ⟨⟨⟨⟨⟨rfl,xU⟩,iZ,hn⟩,hx⟩,kZ⟩,th,Dd⟩:=ho
  rw [←(hE f).2] at iZ hn
  have sW:(rs.take n).length=n:=by rw [←fi hx];simpa using kZ
  have nN:small C.nt args.toList=true:=gb c8 (fun x hx=>by
   have:x∈args:=by simpa using hx
   simp only [Op.operands,Call.operands,Array.toList_append,List.mem_append]
   exact .inr hx)
  have jc:rs.drop n=[.s (lk k)]:=by
   simp only [aP,aZ] at jW
   obtain ⟨q,hq⟩:=ka (l:=rs.drop n) (by rw [bm];omega)
   rw [hq] at eE ⊢
   cases q <;> simp at eE
   rw [eE]
  have pD:rs=rs.take n++[.s (lk k)]:=by rw [←jc,List.take_append_drop]
  simp only [eh] at hs
  obtain ⟨es,outs,v1,v2,hG,rp,rfl⟩:=hs
  simp only [dt] at hg
  rw [aC] at hg
  obtain ⟨⟨g1,g2⟩,hg⟩:=hg
  cases hg
  have qP:∀{X:Type} (F:cO→X),(rs.map F)[n]?=some (F (.s (lk k))):=fun F=>by
   have h1:rs[n]?=some (.s (lk k)):=by rw [pD,aJ (by omega),sW];simp
   rw [aI,h1];rfl
  rw [qP] at v1 g2
  simp only [cO.ev,cO.gh,aB] at v1 g2
  have hi:∀{X:Type} (F:cO→X),((rs.take n).map F)[i]?=(rs.map F)[i]?:=fun F=>by
   rw [List.map_take,aM,aH th]
  rw [←hi] at v2 g1
  rw [←List.map_take] at hG
  exact EP h rfl hl rfl xU (hE f).1 iZ Dd hn hx nN v2 g1 g2 v1 hG rp hK
 ·cases ho
theorem Ip (hE:∀f,dH C.P C.E.gl f (C.E.fs f)∧(C.E.fs f).sg=sg f) {f n bO i s:Nat}:cC C sg (.qC f n bO i s):=by
 intro D σ γ a w dst op ty pos after guard rs ds gd ws gs K' Q h ho hk c8 hs hg hK
 simp only [cj,aa] at hk
 obtain ⟨jW,gH⟩:=hk
 obtain ⟨d,rfl,hl,rfl⟩:=ez (l:=[]) gH
 simp only [dX] at ho
 split at ho
 ·rename_i g args pf
  simp only [aa,beq_iff_eq,ay] at ho
  obtain ⟨⟨⟨⟨⟨⟨rfl,xU⟩,iZ,hn⟩,hx⟩,kZ⟩,Dd⟩,A4⟩:=ho
  rw [←(hE f).2] at iZ hn
  have nN:small C.nt args.toList=true:=gb c8 (fun x hx=>by
   have:x∈args:=by simpa using hx
   simp only [Op.operands,Call.operands,Array.toList_append,List.mem_append]
   exact .inr hx)
  simp only [eh] at hs
  obtain ⟨outs,v1,hG,rp,rfl⟩:=hs
  simp only [dt,aB] at hg
  subst hg
  split at A4
  ·rename_i hi
   exact EO h rfl hl rfl xU (hE f).1 iZ Dd hn hx nN hi v1 hG rp hK
  ·cases A4
 ·cases ho
end
end Go.Eng
namespace Go.Eng
open Go.RowKit
theorem zL {fn:Func} (h:fn.name=nC):Extern.find fn=some Extern.BytealgIndexByte.indexByte:=by
 have e1:(Extern.allGenericRows.lookup nC)=none:=by kernel_rfl
 have e2:(Extern.allTypedRows.lookup nC)=none:=by kernel_rfl
 have e3:(Extern.allRows.lookup nC)=some Extern.BytealgIndexByte.indexByte:=by kernel_rfl
 unfold Extern.find
 simp only [h,e1,e2,e3]
 rfl
theorem zK {fn:Func} (h:fn.name=nC) (h2:fn.origin = "" ∨ fn.origin=nC):Extern.findNext fn=none:=by
 have e1:(Extern.allNextRows.lookup nC)=none:=by kernel_rfl
 have e2:(Extern.allNextRows.lookup "")=none:=by kernel_rfl
 unfold Extern.findNext
 rcases h2 with h2 | h2 <;> simp only [h,h2,e1,e2] <;> rfl
section
variable {C:Ctx} {D:j0} {σ:Sg} {γ:Ga} {a:Act} {w:World}
variable {o:Oper} {d:Nat} {K:Act→World→Prop} {Q:Exit→Act→World→Prop} (h:cL C D σ γ a w)
include h
theorem ES (hd:o.dst=some d) (hl:d<C.nt) {x:Operand} {r:cO} {t e y:TypeId} {s:Nat} {es:List AV} (ho:o.op = .binOp .eql t x (.const (.slice none 0 0)) y) (ht:C.P.underlying t=some (.slice e)) (hx:bS x r=true) (fq:small C.nt [x]=true)
  (hr:r.ev C.E σ = .sl s es) (hK:∀D' a' w',cL C D' (cF σ d (match es with | [] => .ab | _ :: _ => .v (.bool false))) (cF γ d .no) a' w'→K a' w'):o.wp C.P a w K Q:=by
 have e0:=(h.gy hx fq).rep (by rw [hr];simp)
 rw [hr] at e0
 have hc:a.eval (.const (.slice none 0 0)) = .slice none 0 0:=rfl
 have cK:∀{q:Option Addr} {n c:Nat},a.eval x = .slice q n c→(execOp a.eval o).run C.P w = .ok (.value (.bool q.isNone)) w:=fun {q n c} hval=>by
  simp only [execOp,ho,hval,hc,eqGuard,Sem.run_bind,Sem.run_pure,Sem.run_ite,Result.andThen_ok]
  simp only [a8,aY,if_false,Sem.run_pure,Result.andThen_ok]
  rw [Lib.run_eql_slice_nil w t e _ _ _ _ _ ht]
  rfl
 cases es with
 | nil =>
  obtain ⟨q,cap,hq⟩:=e0.Ed
  exact h.fM hd hl (cK hq) (.ab _) hK
 | cons z zs =>
  generalize hv:a.eval x=v at e0
  cases e0 with
  | sl a b c d=>exact h.fM hd hl (cK hv) (.v _) hK
theorem KX (hd:o.dst=some d) (hl:d<C.nt) {x y:Operand} {r q:cO} {f:Nat} {ts:Array TypeId} {b:ByteArray} {c:Int} (ho:o.op = .call { callee := .value (.func f),args:=#[x,y],argTypes:=ts }) (hf:mT C.P f nC=true)
  (hx:bS x r=true) (fq:small C.nt [x]=true) (hy:bS y q=true) (lj:small C.nt [y]=true) (hr:r.ev C.E σ = .v (.string b)) (hq:q.ev C.E σ = .v (.int .u8 c))
  (hK:∀D' a' w',cL C D' (cF σ d (.v (.int .i64 (Lib.indexByte b.data.toList c.toNat.toUInt8)))) (cF γ d .no) a' w'→K a' w'):o.wp C.P a w K Q:=by
 have e1:=(h.gy hx fq).rep (by rw [hr];simp)
 rw [hr] at e1
 have e2:=(h.gy hy lj).rep (by rw [hq];simp)
 rw [hq] at e2
 unfold mT at hf
 cases hfn:C.P.funcs[f]? with
 | none=>simp [hfn] at hf
 | some fn =>
  simp only [hfn,Option.any_some,aa,beq_iff_eq,Bool.or_eq_true] at hf
  obtain ⟨⟨hn,hb⟩,C6⟩:=hf
  have zi:=run_callFunc_extern (P:=C.P) hfn (by rw [hn];decide +kernel) hb (zK hn C6) (zL hn) #[.string b,.int .u8 c] w
  rw [Lib.run_indexByteString] at zi
  have cK:(execOp a.eval o).run C.P w = .ok (.value (.int .i64 (Lib.indexByte b.data.toList c.toNat.toUInt8))) w:=by
   have he:a.eval (.func f) = .func (.func f) #[] #[]:=rfl
   simp only [execOp,ho,resolve,Deferred.ofValue,he,invoke]
   simpa [e1.fw,e2.fw,resolve,Deferred.ofValue,invoke] using zi
  exact h.fM hd hl cK (.v _) hK
end
section
variable {C:Ctx} {sg:Nat→c7}
theorem OA:cC C sg .N7:=by
 intro D σ γ a w dst op ty pos after guard rs ds gd ws gs K' Q h ho hk c8 hs hg hK
 simp only [dt,aB] at hg
 subst hg
 obtain ⟨d,rfl,hl,rfl⟩:=ez (l:=[]) hk
 simp only [dX] at ho
 split at ho
 ·rename_i t x y r
  simp only [aa] at ho
  obtain ⟨hx,he⟩:=ho
  obtain ⟨e,he⟩:=Option.isSome_iff_exists.1 he
  simp only [ah,ao,eh] at hs
  split at hs
  ·rename_i s' heq
   simp only [aj,and_true,cO.ev] at heq
   subst hs
   exact ES h rfl hl rfl (gF he) hx (bH c8 (by simp [Op.operands])) heq hK
  ·rename_i s' e1 e2 heq
   simp only [aj,and_true,cO.ev] at heq
   subst hs
   exact ES h rfl hl rfl (gF he) hx (bH c8 (by simp [Op.operands])) heq hK
  ·cases hs
 ·cases ho
theorem Oh:cC C sg .Nb:=by
 intro D σ γ a w dst op ty pos after guard rs ds gd ws gs K' Q h ho hk c8 hs hg hK
 simp only [dt,aB] at hg
 subst hg
 obtain ⟨d,rfl,hl,rfl⟩:=ez (l:=[]) hk
 simp only [dX] at ho
 split at ho
 ·rename_i g args pf
  simp only [aa,beq_iff_eq] at ho
  obtain ⟨⟨hf,hx⟩,kZ⟩:=ho
  obtain ⟨x,y,kO⟩:=uL (l:=args.toList) (by simpa using kZ)
  rw [kO] at hx
  obtain ⟨r,q,rfl,hx,hy⟩:=iz hx
  have ea:=ri kO
  subst ea
  simp only [ah,ao,eh] at hs
  split at hs
  ·rename_i b c heq
   simp only [aj,and_true,cO.ev] at heq
   subst hs
   exact KX h rfl hl rfl hf hx (bH c8 (by simp [Op.operands,Call.operands])) hy (bH c8 (by simp [Op.operands,Call.operands])) heq.1 heq.2 hK
  ·cases hs
 ·cases ho
end
end Go.Eng
namespace Go.Eng
open Go.RowKit
theorem dw.set {R:Reach} {w:World} {x:AV} {y:Value} (hx:Rep R w x y):∀{xs:List AV} {ys:List Value} {i:Nat},dw R w xs ys→ys[i]?=some y→dw R w (xs.set i x) ys
 | _,_,0,.cons a _ t,e=>by simp at e;subst e;exact .cons a hx t
 | _,_,i+1,.cons a h t,e => .cons a h (dw.set hx t (by simpa using e))
 | _,_,i,.nil,e=>by simp at e
theorem vQ (cs:List AV):∀ts:List (Nat × (Nat × Nat)),(kN cs ts).length=cs.length
 | []=>rfl
 | t :: ts=>by simp [kN,vQ cs ts]
theorem dw.kN {R:Reach} {w:World} {xs:List AV} {ys:List Value} (h:dw R w xs ys):∀{ts:List (Nat × (Nat × Nat))},(∀t∈ts,ys[t.1]?=some (.slice none 0 0))→dw R w (Eng.kN xs ts) ys
 | [],_=>h
 | t :: ts,hn=>dw.set (.nil _) (dw.kN h fun u hu=>hn u (List.mem_cons_of_mem _ hu)) (hn t (List.mem_cons_self ..))
section
variable {C:Ctx} {D:j0} {σ:Sg} {γ:Ga} {a:Act} {w:World}
theorem cL.Jo (h:cL C D σ γ a w) {m:Nat} {us us' ts:List (Nat × (Nat × Nat))} {cs:List AV} (hm:γ m = .cl us) (jO:σ m = .ag cs) (FI:∀t∈us',t∈us) (nM:∀t∈ts,cs[t.1]?=some .nil)
  (jP:∀t∈ts,γ (lk t.2.1) = .no) (hnd:(ts.map (·.2.1)).Nodup) :
  ∃D',cL C D' (cF (bN σ (ts.map fun t=>lk t.2.1) (ts.map fun _ => .dead)) m (.ag (Eng.kN cs ts))) (cF (bN γ (ts.map fun t=>lk t.2.1) (ts.map fun t => .live t.2.2)) m (.cl (us'++ts))) a w:=by
 obtain ⟨vs,tj,hc⟩:=h.mem m us hm
 rw [jO] at tj
 have nP:=tj.CR
 obtain ⟨elem,hh,hL⟩:=tj.ag
 obtain ⟨D1,h1,hR,_,_,ht1,eE,IB,IC⟩:=h.B0 ts jP hnd
 have Sx:m<1000000:=(h.oe m (by rw [hm];rfl)).2
 have FU:∀t∈ts,m≠lk t.2.1:=fun t _=>by have:=fH t.2.1;omega
 have ve:bN γ (ts.map fun t=>lk t.2.1) (ts.map fun t => .live t.2.2) m = .cl us:=by rw [eE m FU];exact hm
 have A4:∀t∈ts,vs[t.1]?=some (.slice none 0 0):=fun t ht=>by
  obtain ⟨y,vX,_,Hu⟩:=hL.get t.1 _ (nM t ht)
  rw [aM] at vX
  split at vX
  ·rw [vX,Hu.fw]
  ·cases vX
 have QL:dw D.R w (Eng.kN cs ts) (vs.take (Eng.kN cs ts).length):=by
  rw [vQ]
  refine dw.kN hL fun t ht=>?_
  have:=(aE.1 (nM t ht)).1
  rw [aM,aH this]
  exact A4 t ht
 have zf:=h.inv m
 rw [hm] at zf
 refine ⟨D1,h1.store (us:=us'++ts) (cs:=vs) ve (w':=w) rfl rfl rfl rfl (fun _ _=>rfl) ?_ fun t ht=>?_⟩
 ·rw [hR,IC];exact ⟨elem,hh,.inr ⟨_,rfl,QL⟩,nP⟩
 ·rcases List.mem_append.1 ht with ht | ht
  ·have ht:=FI t ht
   have kG:=zf t ht
   by_cases hx:∃u∈ts,lk t.2.1=lk u.2.1
   ·obtain ⟨u,hu,e⟩:=hx
    rw [e,jP u hu] at kG;cases kG
   ·have hx:∀u∈ts,lk t.2.1≠lk u.2.1:=fun u hu e=>hx ⟨u,hu,e⟩
    rw [eE _ hx,IB _ hx];exact ⟨kG,hc t ht⟩
  ·exact ⟨(ht1 t ht).2,by rw [(ht1 t ht).1];exact A4 t ht⟩
variable {o:Oper} {d:Nat} {K:Act→World→Prop} {Q:Exit→Act→World→Prop} (h:cL C D σ γ a w)
include h
theorem Lg {x:Operand} {r:cO} {t:TypeId} {m:Nat} {ts:List (Nat × (Nat × Nat))} (hd:o.dst=some d) (hl:d<C.nt) (ho:o.op = .box t x) (hx:bS x r=true) (fq:small C.nt [x]=true) (hp:(r.ev C.E σ).plain=true) (hm:γ m = .no) (h1:C.nt≤m) (h2:m<999999)
  (nM:∀t∈ts,(r.ev C.E σ).cells[t.1]?=some .nil) (jP:∀t∈ts,γ (lk t.2.1) = .no) (hnd:(ts.map (·.2.1)).Nodup)
  (hK:∀D' a' w',cL C D' (bN σ (d :: m :: ts.map fun t=>lk t.2.1) (.pt :: .ag (Eng.kN (r.ev C.E σ).cells ts) :: ts.map fun _ => .dead)) (bN γ (d :: m :: ts.map fun t=>lk t.2.1) (.ptr m 0 :: .cl ts :: ts.map fun t => .live t.2.2)) a' w'→K a' w'):o.wp C.P a w K Q:=by
 have Dh:m≠d:=by omega
 have FP:=h.iB
 refine Jx h hd hl ho hx fq hp hm h1 h2 fun D' a' w' hS=>?_
 simp only [bN] at hS
 have Pz:∀k∈ts.map fun t=>lk t.2.1,d≠k:=fun k hk=>by obtain ⟨t,_,rfl⟩:=aO.1 hk;have:=fH t.2.1;omega
 have T7:d ∉ ts.map fun t=>lk t.2.1:=fun hk=>Pz _ hk rfl
 have FZ:∀k∈ts.map fun t=>lk t.2.1,m≠k:=fun k hk=>by obtain ⟨t,_,rfl⟩:=aO.1 hk;have:=fH t.2.1;omega
 have Px:m ∉ ts.map fun t=>lk t.2.1:=fun hk=>FZ _ hk rfl
 obtain ⟨D2,h2⟩:=hS.Jo (m:=m) (us:=[]) (us':=[]) (ts:=ts) (by rw [bF _ _ Dh,bE]) (by rw [bF _ _ Dh,bE]) (by simp) nM (fun t ht=>by
  have e1:=Pz _ (aO.2 ⟨t,ht,rfl⟩)
  have e2:=FZ _ (aO.2 ⟨t,ht,rfl⟩)
  rw [bF _ _ e1.symm,bF _ _ e2.symm];exact jP t ht) hnd
 refine hK D2 a' w' ?_
 rw [ia T7,ia Px,ia T7,ia Px,gq _ _ _ Dh,gq _ _ _ Dh,pq,pq] at h2
 simp only [bN]
 have c1:∀{X:Type} (f:Nat→X) (p q:X),cF (cF f m p) d q=cF (cF f d q) m p:=fun f p q=>gq _ _ _ Dh
 rw [c1,c1]
 exact h2
theorem KY {x v:Operand} {r q:cO} {t:TypeId} {inf:TypeInfo} {m o' n:Nat} {cs:List AV} {us ts:List (Nat × (Nat × Nat))} (hd:o.dst=none) (ho:o.op = .store t x v) (hi:C.P.info? t=some inf) (hz:inf.size=n)
  (hx:bS x r=true) (fq:small C.nt [x]=true) (hv:bS v q=true) (lj:small C.nt [v]=true) (hr:r.ev C.E σ = .pt) (hg:r.gh γ = .ptr m o') (hm:γ m = .cl us) (jO:σ m = .ag cs)
  (hp:(q.ev C.E σ).plain=true) (hn:(q.ev C.E σ).cells.length=n) (nQ:o'+n≤cs.length)
  (nM:∀t∈ts,(eH cs o' (q.ev C.E σ).cells)[t.1]?=some .nil) (jP:∀t∈ts,γ (lk t.2.1) = .no) (hnd:(ts.map (·.2.1)).Nodup)
  (hK:∀D' a' w',cL C D' (bN σ (m :: ts.map fun t=>lk t.2.1) (.ag (Eng.kN (eH cs o' (q.ev C.E σ).cells) ts) :: ts.map fun _ => .dead)) (bN γ (m :: ts.map fun t=>lk t.2.1) (.cl (us.filter (fun t=>t.1<o' || o'+n≤t.1)++ts) :: ts.map fun t => .live t.2.2)) a' w'→K a' w'):o.wp C.P a w K Q:=by
 have Sx:m<1000000:=(h.oe m (by rw [hm];rfl)).2
 have FZ:∀k∈ts.map fun t=>lk t.2.1,m≠k:=fun k hk=>by obtain ⟨t,_,rfl⟩:=aO.1 hk;have:=fH t.2.1;omega
 have Px:m ∉ ts.map fun t=>lk t.2.1:=fun hk=>FZ _ hk rfl
 refine Jt h hd ho hi hz hx fq hv lj hr hg hm jO hp hn nQ fun D' a' w' hS=>?_
 obtain ⟨D2,h2⟩:=hS.Jo (m:=m) (us':=us.filter (fun t=>t.1<o' || o'+n≤t.1)) (ts:=ts) (by rw [bE]) (by rw [bE]) (fun t ht=>List.mem_append.2 (.inl ht)) nM (fun t ht=>by
  have e2:=FZ _ (aO.2 ⟨t,ht,rfl⟩)
  rw [bF _ _ e2.symm];exact jP t ht) hnd
 refine hK D2 a' w' ?_
 rw [ia Px,ia Px,pq,pq] at h2
 exact h2
end
section
variable {C:Ctx} {sg:Nat→c7}
theorem OI {m:Nat} {ts:List (Nat × (Nat × Nat))}:cC C sg (.DN m ts):=by
 intro D σ γ a w dst op ty pos after guard rs ds gd ws gs K' Q h ho hk c8 hs hg hK
 simp only [cj,aa,ay,beq_iff_eq] at hk
 obtain ⟨⟨⟨ve,xk⟩,jW,eE⟩,gH⟩:=hk
 obtain ⟨d,rfl,hl,rfl⟩:=ez gH
 simp only [dX] at ho
 split at ho
 ·rename_i t x r rest
  simp only [List.drop_succ_cons,aS] at eE
  have pD:=lu eE
  subst pD
  simp only [ah,eh] at hs
  obtain ⟨p1,p2,rfl⟩:=hs
  simp only [ah,dt] at hg
  rw [aC] at hg
  obtain ⟨⟨c1,c2,c3⟩,hg⟩:=hg
  cases hg
  simp only [List.all_cons,aa,ay,aW,aL,aO] at c2
  refine Lg h rfl hl rfl ho (bH c8 (by simp [Op.operands])) p1 c2.1 ve xk p2 (fun t ht=>c2.2 _ ⟨t,ht,rfl⟩) c3 hK
 ·cases ho
theorem Oi {m o' n:Nat} {ts:List (Nat × (Nat × Nat))}:cC C sg (.DJ m o' n ts):=by
 intro D σ γ a w dst op ty pos after guard rs ds gd ws gs K' Q h ho hk c8 hs hg hK
 simp only [cj,aa,ay,beq_iff_eq,Option.isNone_iff_eq_none] at hk
 obtain ⟨⟨⟨⟨ve,rfl⟩,rfl⟩,jW,eE⟩,QE⟩:=hk
 simp only [dX] at ho
 split at ho
 ·rename_i t x v p q r rest
  simp only [aa,beq_iff_eq] at ho
  obtain ⟨⟨⟨ht,hx⟩,hv⟩,_⟩:=ho
  obtain ⟨inf,h1,h2⟩:=fV ht
  cases q with
  | s j =>
   simp at QE
   subst QE
   simp only [List.drop_succ_cons,aS] at eE
   have pD:=lu eE
   subst pD
   simp only [ah,eh] at hs
   split at hs
   ·rename_i cs y Ex heq
    simp only [aj,cO.ev] at heq
    obtain ⟨e1,e2,e3,e4⟩:=heq
    obtain ⟨p1,p2,p3,p4,rfl⟩:=hs
    subst e3
    simp only [ah,dt] at hg
    split at hg
    ·rename_i m' MS us g Q6 dp
     simp only [aj,cO.gh] at dp
     obtain ⟨f1,f2,f3,f4⟩:=dp
     subst f4
     rw [aC] at hg
     obtain ⟨⟨rfl,rfl,_,c2,c3⟩,hg⟩:=hg
     cases hg
     simp only [aW,aL,aO,ay] at c2
     exact KY h rfl rfl h1 h2 hx (bH c8 (by simp [Op.operands])) hv (bH c8 (by simp [Op.operands])) e1 f1 f2 e2 p1 p2 p3 p4 (fun t ht=>c2 _ ⟨t,ht,rfl⟩) c3 hK
    ·cases hg
   ·cases hs
  | c=>simp at QE
  | g=>simp at QE
 ·cases ho
end
end Go.Eng
namespace Go.Eng
open Go.RowKit
theorem c7.uw {g:c7} (h:g.plain=true):g.ref=none∧g.fR=[]∧g.own=[]∧g.new=none∧g.fD=[]∧g.ps=none:=by
 simp only [c7.plain,aa,Option.isNone_iff_eq_none,List.isEmpty_iff] at h
 obtain ⟨⟨⟨⟨⟨h1,h2⟩,h3⟩,h4⟩,h5⟩,h6⟩:=h
 exact ⟨h1,h2,h3,h4,h5,h6⟩
theorem eY.set {R:Reach} {w:World} {x:AV} {y:Value} (hx:Rep R w x y):∀{xs:List AV} {ys:List Value} {i:Nat},eY R w xs ys→ys[i]?=some y→eY R w (xs.set i x) ys
 | _,_,0,.cons _ t,e=>by simp at e;subst e;exact .cons hx t
 | _,_,i+1,.cons h t,e => .cons h (eY.set hx t (by simpa using e))
 | _,_,i,.nil,e=>by simp at e
theorem eY.xM {R R':Reach} {w w':World}:∀{xs:List AV} {ys:List Value},eY R w xs ys→(∀x∈xs,∃y,x = .v y)→eY R' w' xs ys
 | _,_,.nil,_ => .nil
 | _,_,.cons h t,hv=>by
  obtain ⟨y,rfl⟩:=hv _ (List.mem_cons_self ..)
  cases h
  exact .cons (.v _) (t.xM fun x hx=>hv x (List.mem_cons_of_mem _ hx))
section
variable {C:Ctx} {D:j0} {σ:Sg} {γ:Ga} {a:Act} {w:World}
variable {o:Oper} {d:Nat} {K:Act→World→Prop} {Q:Exit→Act→World→Prop} (h:cL C D σ γ a w)
include h
theorem EM (hd:o.dst=some d) (hl:d<C.nt) {f n i m:Nat} {args:Array Operand} {ts:Array TypeId} {rs:List cO} {cs outs:List AV} {us:List (Nat × (Nat × Nat))} (ho:o.op = .call { callee := .value (.func f),args,argTypes:=ts }) (hp:fA C.P f=true)
  {S:FS} (hS:dH C.P C.E.gl f S) (IF:S.sg.plain=true) (hn:S.sg.bO=n) (hx:bV args.toList rs=true) (c8:small C.nt args.toList=true)
  (tJ:(rs.map (cO.ev C.E σ))[i]?=some .pt) (De:(rs.map (cO.gh γ))[i]?=some (.ptr m 0)) (hm:γ m = .cl us) (jO:σ m = .ag cs)
  (hG:S.G ((rs.map (cO.ev C.E σ)).set i (.ro (.ag cs))) outs) (rp:outs.length=n) (Sq:∀x∈outs,∃y,x = .v y)
  (hK:∀D' a' w',cL C D' (cF σ d (if n=1 then outs.headD .dead else .tu outs)) (cF γ d .no) a' w'→K a' w'):o.wp C.P a w K Q:=by
 obtain ⟨p1,p2,p3,p4,p5,p6⟩:=c7.uw IF
 obtain ⟨vs,tj,_⟩:=h.mem m us hm
 rw [jO] at tj
 have nP:=tj.CR
 have eO:=tj.lt
 obtain ⟨elem,hh,hL⟩:=tj.ag
 obtain ⟨v,hv1,_,hv2⟩:=uy h hx c8 tJ (by simp) (by simp)
 have hv3:v = .pointer (some ⟨D.β m,0,none⟩):=hv2 _ De
 subst hv3
 have hT:=h.qE hx c8
 let R1:Reach:=fun b o=>D.R b o∨(b=D.β m∧o<cs.length)
 have k1:fh D.R w R1 w:=fun b o hr=>⟨.inl hr,rfl⟩
 have hle:cs.length≤vs.length:=by have:=hL.length;simp at this;omega
 have Wg:Rep R1 w (.ro (.ag cs)) (.pointer (some ⟨D.β m,0,none⟩)):=by
  refine .ro (.ag rfl (jY.write (hL.mono k1) (fun j hj => .inr ⟨rfl,by simp at hj;omega⟩) (fun j y hy=>?_)))
  rw [aM] at hy
  split at hy
  ·simp only [World.cell?,hh];simpa using hy
  ·cases hy
 have hA:km S.sg R1 w ((rs.map (cO.ev C.E σ)).set i (.ro (.ag cs))) (args.toList.map a.eval):=by
  unfold km
  rw [p1]
  exact eY.set Wg (hT.mono k1) hv1
 unfold Oper.wp
 rw [kH ho hp,Oper.upon_enter]
 have:=hS.1 p6 w R1 _ outs (args.toList.map a.eval) hG (fun b o hr=>by
  rcases hr with hr | ⟨rfl,_⟩
  ·exact h.jT b o hr
  ·exact eO) (fun n=>(h.gl n).mono k1) hA
 have e:(⟨args.toList.map a.eval⟩:Array Value)=args.map a.eval:=by apply Array.ext';simp
 rw [e] at this
 refine this.mono ?_
 rintro e w' ⟨x,R',rfl,h1,h2,h3⟩
 simp only
 rw [hd]
 obtain ⟨rvs,tr,fZ,tn,bn,br,cn,cr,q1,q2,q3,q4,_⟩:=h3
 have vf:∀b,¬ny S.sg w (args.toList.map a.eval) b:=fun b hb=>by unfold ny at hb;rw [p1] at hb;exact hb
 have hg:=h.grow (w':=w') (R':=D.R) h1.os h1.tape h1.output h1.size (fun b hb=>h1.heap b hb (vf b)) (fun _ _ h=>h) (fun _ _ h => .inl h) (fun b o hr=>Nat.lt_of_lt_of_le (h.jT b o hr) h1.size)
 have e1:(outs.take S.sg.bO).mapIdx (fun i y=>if S.sg.new=some i then AV.pt else y)=outs:=by
  rw [p4,List.take_of_length_le (by omega)]
  apply List.ext_getElem?
  intro j
  simp
 rw [e1] at q4
 exact hK _ _ _ (cL.rP hg hl (q1.trans hn) (by rw [←hn];exact q2) (q4.xM Sq) rp)
end
section
variable {C:Ctx} {sg:Nat→c7}
theorem Io (hE:∀f,dH C.P C.E.gl f (C.E.fs f)∧(C.E.fs f).sg=sg f) {f n bO i m:Nat}:cC C sg (.pO f n bO i m):=by
 intro D σ γ a w dst op ty pos after guard rs ds gd ws gs K' Q h ho hk c8 hs hg hK
 simp only [cj,aa,ay,beq_iff_eq,ah,ao] at hk
 obtain ⟨⟨_,jW,eE⟩,gH⟩:=hk
 obtain ⟨d,rfl,hl,rfl⟩:=ez (l:=[]) gH
 simp only [dX] at ho
 split at ho
 ·rename_i g args pf
  simp only [aa,beq_iff_eq,ay] at ho
  obtain ⟨⟨⟨⟨⟨rfl,xU⟩,iZ,hn⟩,hx⟩,kZ⟩,th⟩:=ho
  rw [←(hE f).2] at iZ hn
  have sW:(rs.take n).length=n:=by rw [←fi hx];simpa using kZ
  have nN:small C.nt args.toList=true:=gb c8 (fun x hx=>by
   have:x∈args:=by simpa using hx
   simp only [Op.operands,Call.operands,Array.toList_append,List.mem_append]
   exact .inr hx)
  have jc:rs.drop n=[.s m]:=by
   simp only [aP,aZ] at jW
   obtain ⟨q,hq⟩:=ka (l:=rs.drop n) (by rw [bm];omega)
   rw [hq] at eE ⊢
   cases q <;> simp at eE
   rw [eE]
  have pD:rs=rs.take n++[.s m]:=by rw [←jc,List.take_append_drop]
  simp only [eh] at hs
  obtain ⟨cs,outs,v1,v2,hG,rp,Sq,rfl⟩:=hs
  have qP:∀{X:Type} (F:cO→X),(rs.map F)[n]?=some (F (.s m)):=fun F=>by
   have h1:rs[n]?=some (.s m):=by rw [pD,aJ (by omega),sW];simp
   rw [aI,h1];rfl
  have hi:∀{X:Type} (F:cO→X),((rs.take n).map F)[i]?=(rs.map F)[i]?:=fun F=>by
   rw [List.map_take,aM,aH th]
  simp only [dt] at hg
  split at hg
  ·rename_i us g2
   rw [aC] at hg
   obtain ⟨g1,hg⟩:=hg
   cases hg
   rw [qP] at v1 g2
   simp only [cO.ev,cO.gh,aB] at v1 g2
   rw [←hi] at v2 g1
   rw [←List.map_take] at hG
   exact EM h rfl hl rfl xU (hE f).1 iZ hn hx nN v2 g1 g2 v1 hG rp Sq hK
  ·cases hg
 ·cases ho
end
end Go.Eng
namespace Go.Eng
open Go.RowKit
section
variable {C:Ctx} {D:j0} {σ:Sg} {γ:Ga} {a:Act} {w:World}
variable {o:Oper} {d:Nat} {K:Act→World→Prop} {Q:Exit→Act→World→Prop} (h:cL C D σ γ a w)
include h
theorem Lk (hd:o.dst=some d) (hl:d<C.nt) {x y:Operand} {r q:cO} {t u e:TypeId} {i:TypeInfo} {z:Value} {du:TypeDesc} {k k' s:Nat} {fs:List AV} (ho:o.op = .call { callee := .builtin .append,args:=#[x,y],argTypes:=#[t,u] })
  (ht:C.P.underlying t=some (.slice e)) (hi:C.P.info? e=some i) (hz:i.zero=some z) (y7:z.cells.size=i.size) (hu:C.P.underlying u=some du) (vt:∀k,du ≠ .int k) (hs:i.size=s)
  (hx:bS x r=true) (fq:small C.nt [x]=true) (hr:r.ev C.E σ = .sl s []) (hg:r.gh γ = .cB k s) (kG:γ (lk k) = .live s) (jP:γ (lk k') = .no) (fI:k≠k')
  {news:List Value} (r8:Source C.P w s (a.eval y) fs.length news) (hL:dw D.R w (fs.flatMap AV.cells) news) (qj:∀e∈fs,e.cells.length=s) (zl:fs.length≤maxLen) (hb:fs.length * i.bytes≤140737488355328)
  (hK:∀D' a' w',cL C D' (bN σ [d,lk k,lk k'] [.pt,.dead,.sl s fs]) (bN γ [d,lk k,lk k'] [.cB k' s,.used,.pv s]) a' w'→K a' w'):o.wp C.P a w K Q:=by
 subst hs
 have e0:=h.gy hx fq
 have e1:=e0.rep (by rw [hr];simp)
 have e2:=e0.gh (by rw [hr];simp) (by rw [hr];simp)
 rw [hr] at e1
 rw [hg] at e2
 simp only [iw] at e2
 replace e2:=e2.1
 have hT:=h.cB _ _ kG
 rw [←e2] at hT
 have h1:=h.kill kG
 have oJ:eI D γ (lk k)=(a.eval x).ownBlock:=by rw [gA kG,←e2]
 have oz:∀g,(a.eval x).ownBlock=some g→C.kY g∧∀key,eI D (cF γ (lk k) .used) key≠some g:=fun g kb=>by
  refine ⟨h.own (lk k) g (oJ.trans kb),fun key jb=>?_⟩
  by_cases e:key=lk k
  ·subst e;simp [eI,bE] at jb
  ·have:eI D γ key=some g:=by unfold eI at jb ⊢;rwa [bF _ _ e] at jb
   exact e (h.rI (key:=lk k) (by rw [kG];rfl) (oJ.trans kb) this).symm
 have hP:fL D.R w (a.eval x) i.size (.sl i.size []):=by
  rcases hT with e | ⟨g,n,cap,cur,ce,fz,e,hg1,hfz,xn,hn,vu,nP⟩
  ·rw [e];exact ⟨fun g hg=>by simp [Value.ownBlock] at hg,.inr ⟨[],rfl,by simp,.inl ⟨rfl,rfl⟩⟩⟩
  ·have QC:n=0:=by
    rw [e] at e1
    rcases e1.mg with ⟨_,hv⟩ | ⟨b,off,c',hv,_⟩ | ⟨_,ad,c',hv,_⟩ <;> cases hv <;> rfl
   subst QC
   rw [e]
   refine ⟨fun g' kb o=>?_,.inr ⟨[],rfl,by simp,.inr ⟨g,cap,cur,ce,fz,rfl,hg1,?_⟩⟩⟩
   ·simp [Value.ownBlock] at kb;subst kb;exact nP o (by omega)
   ·simp only [List.flatMap_nil,aZ,Nat.zero_mul,List.take_zero];exact .nil
 obtain ⟨v,w',cK,os,tape,out,size,hh,_,_,ct,cp,LN⟩:=kK (ty:=o.type) (es:=[]) ht hi hz y7 hu vt hT hP h.jT r8 hL qj (by simpa using zl) (by simpa using hb)
 rw [bj] at cp
 have bL:fh D.R w D.R w':=fun b o hr=>⟨hr,World.cell?_of_block (w:=w) (hh b (h.jT b o hr) (fun e=>hP.1 b e o hr))⟩
 have hS:=h1.world (w':=w') (R':=D.R) os tape out size (fun b hb C6=>hh b hb (fun e=>by
  obtain ⟨m1,m2⟩:=oz b e
  rcases C6 with ⟨key,hk⟩ | hm
  ·exact m2 key hk
  ·exact hm m1)) bL (fun b o hr => .inl hr) (fun b o hr=>Nat.lt_of_lt_of_le (h.jT b o hr) size)
 unfold Oper.wp
 rw [show (execOp a.eval o).run C.P w = .ok (.value v) w' by simp [execOp,ho,resolve,invoke,builtin,cK],Oper.upon_value,hd]
 have vr:cF γ (lk k) .used (lk k') = .no:=by rw [bF _ _ (fun e=>fI (fO e).symm)];exact jP
 have hF:=(hS.dead (k:=lk k) (by rw [bE];rfl)).kW hl vr ct cp (fun g hg=>by
  rcases LN g hg with e | e
  ·exact oz g e
  ·exact ⟨.inr (Nat.le_trans h.ext.size e),fun key hk=>by have:=h1.lt hk;omega⟩)
 have hc:lk k'≠lk k:=fun e=>fI (fO e).symm
 have Dr:bN σ [d,lk k,lk k'] [.pt,.dead,.sl i.size fs]=bN (cF σ (lk k) .dead) [d,lk k'] [.pt,.sl i.size fs]:=by
  simp only [bN];rw [gq σ _ _ hc]
 have zG:bN γ [d,lk k,lk k'] [.cB k' i.size,.used,.pv i.size]=bN (cF γ (lk k) .used) [d,lk k'] [.cB k' i.size,.pv i.size]:=by
  simp only [bN];rw [gq γ _ _ hc]
 rw [Dr,zG] at hK
 exact hK _ _ _ hF
theorem Lc {k:Nat} (h9:k≠999999) (hd:o.dst=some d) (hl:d<C.nt) {x:Operand} {r:cO} {j s s0:Nat} {es:List AV} (ho:o.op = .move x∨o.op = .assign x) (hx:bS x r=true) (fq:small C.nt [x]=true) (hj:j<C.nt) (Si:r ≠ .s j) (hr:σ j = .pt) (hg:γ j = .cB k s0)
  (hk:γ (lk k) = .pv s) (jO:σ (lk k) = .sl s es) (hK:∀D' a' w',cL C D' (bN σ [d,j,lk k] [r.ev C.E σ,.sl s es,.dead]) (bN γ [d,j,lk k] [(r.gh γ).strip,.cB k s,.live s]) a' w'→K a' w'):o.wp C.P a w K Q:=by
 have Wc:small C.nt [.tmp j]=true:=by simp [small,hj]
 have e0:=h.gy (x := .tmp j) (r := .s j) (by simp [bS]) Wc
 have hv:=e0.gh (by simp only [cO.ev];rw [hr];simp) (by simp only [cO.ev];rw [hr];simp)
 simp only [cO.gh] at hv
 rw [hg] at hv
 obtain ⟨hv1,hv2⟩:=hv
 have DL:a.eval (.tmp j)=a.tmps.getD j undef:=rfl
 have cK:(execOp a.eval o).run C.P w = .ok (.value (a.eval x)) w:=by rcases ho with e | e <;> simp [execOp,e]
 obtain ⟨R',hS,hR,_⟩:=h.Kx h9 hk jO
 have II:(cF γ (lk k) (.live s) (lk k)).ej=true:=by rw [bE];rfl
 have F6:=hS.Ev (g := .cB k s) hj (.inr ⟨by rw [←DL,hv1];exact hR,fun _=>⟨DL ▸ hv1,DL ▸ hv2⟩⟩) rfl rfl II
 have PB:lk k≠j:=by have:=fH k;have:=h.iB;omega
 have LR:r.ev C.E (cF (cF σ (lk k) .dead) j (.sl s es))=r.ev C.E σ∧r.gh (cF (cF γ (lk k) (.live s)) j (.cB k s))=r.gh γ:=by
  cases r with
  | s t =>
   have h1:t≠j:=fun e=>Si (by rw [e])
   have h2:t≠lk k:=fun e=>by
    have ht:t<C.nt:=by cases x <;> simp [bS] at hx;subst hx;simpa [small] using fq
    have:=fH k;have:=h.iB;omega
   exact ⟨by simp only [cO.ev];rw [bF _ _ h1,bF _ _ h2],by simp only [cO.gh];rw [bF _ _ h1,bF _ _ h2]⟩
  | _=>exact ⟨rfl,rfl⟩
 have e1:=F6.gy hx fq
 have em:=(F6.lE r).strip
 rw [LR.1,LR.2] at e1
 rw [LR.2] at em
 unfold Oper.wp
 rw [cK,Oper.upon_value,hd]
 refine hK _ _ _ (F6.put (g:=(r.gh γ).strip) hl ?_ ?_ ?_ em)
 ·rcases e1 with e | ⟨q1,q2⟩
  ·exact .inl e
  ·exact .inr ⟨q1,by cases hg:r.gh γ <;> rw [hg] at q2 <;> first | exact q2 | trivial⟩
 ·cases r.gh γ <;> rfl
 ·cases r.gh γ <;> rfl
end
section
variable {C:Ctx} {sg:Nat→c7}
theorem OM {k d' s b:Nat}:cC C sg (.Ki k d' s b):=by
 intro D σ γ a w dst op ty pos after guard rs ds gd ws gs K' Q h ho hk c8 hs hg hK
 simp only [cj,aa,beq_iff_eq,ah,ao] at hk
 obtain ⟨⟨jW,eE⟩,gH⟩:=hk
 obtain ⟨d,rfl,hl,rfl⟩:=ez gH
 simp only [dX] at ho
 split at ho
 ·rename_i args pf r q r3 r4
  simp only [aa,beq_iff_eq] at ho
  obtain ⟨⟨ho,h1⟩,h2⟩:=ho
  obtain ⟨t,u,e,i,z,du,rfl,q1,q2,q3,q4,q5,q6,q7,q8⟩:=pF h1 h2
  have ht:=tZ eE
  simp only [List.drop_succ_cons,aS,aj,and_true] at ht
  obtain ⟨rfl,rfl⟩:=ht
  obtain ⟨x,y,kO⟩:=uL (l:=args.toList) (by rw [fi ho];rfl)
  rw [kO] at ho
  obtain ⟨r',q',sX,hx,hy⟩:=iz ho
  simp only [aj,and_true] at sX
  obtain ⟨rfl,rfl⟩:=sX
  have ea:=ri kO
  subst ea
  simp only [ah,ao,eh] at hs
  split at hs
  ·rename_i s' lY fs v1 v2 heq
   simp only [aj,and_true] at heq
   obtain ⟨e1,e2,_⟩:=heq
   obtain ⟨rfl,rfl,p1,p2,p3,rfl⟩:=hs
   simp only [ah,ao,dt] at hg
   split at hg
   ·rename_i k1 s1 g s2 dp
    simp only [aj,and_true,cO.gh] at dp
    obtain ⟨g1,g2,g3,g4⟩:=dp
    split at hg
    ·rename_i hc
     obtain ⟨rfl,rfl,rfl,fI⟩:=hc
     cases hg
     have ic:=(h.gy hy (bH c8 (by simp [Op.operands,Call.operands]))).rep (by rw [e2];simp)
     rw [e2] at ic
     obtain ⟨news,n1,n2,n3⟩:=Source.yI (P:=C.P) ic
     exact Lk (q:=q) h rfl hl rfl q1 q2 q5 q6 q7 q8 q3 hx (bH c8 (by simp [Op.operands,Call.operands])) e1 g1 g3 g4 fI n1 n2 p1 p2 (by rw [q4];exact p3) hK
    ·cases hg
   ·cases hg
  ·cases hs
 ·cases ho
theorem OC {k s:Nat}:cC C sg (.Jz k s):=by
 intro D σ γ a w dst op ty pos after guard rs ds gd ws gs K' Q h ho hk c8 hs hg hK
 simp only [cj,aa] at hk
 obtain ⟨⟨h9,jW,eE⟩,gH⟩:=hk
 simp only [ay] at h9
 have main:∀{x:Operand} {r p q:cO},(op = .move x∨op = .assign x)→rs=[r,p,q]→bS x r=true→(⟨dst,op,ty,pos,after,guard⟩:Oper).wp C.P a w K' Q:=by
  intro x r p q QB pD hx
  subst pD
  cases q <;> simp at eE
  subst eE
  cases p with
  | s j =>
   simp only [aa,ay] at gH
   obtain ⟨⟨hj,Sf⟩,gH⟩:=gH
   have Si:r ≠ .s j:=fun e=>by subst e;simp at Sf
   obtain ⟨d,rfl,hl,rfl⟩:=ez gH
   simp only [ah,ao,eh] at hs
   simp only [ah,ao,dt] at hg
   split at hs
   ·rename_i y s' es heq
    simp only [aj,and_true] at heq
    obtain ⟨rfl,e2,e3⟩:=heq
    obtain ⟨rfl,rfl⟩:=hs
    split at hg
    ·rename_i g k' s0 s1 dp
     simp only [aj,and_true] at dp
     obtain ⟨rfl,g2,g3⟩:=dp
     split at hg
     ·rename_i hc
      obtain ⟨rfl,rfl⟩:=hc
      cases hg
      exact Lc h h9 rfl hl QB hx (bH c8 (by rcases QB with rfl | rfl <;> simp [Op.operands])) hj Si e2 g2 g3 e3 hK
     ·cases hg
    ·cases hg
   ·cases hs
  | _=>cases gH
 simp only [dX] at ho
 split at ho
 ·exact main (.inl rfl) rfl ho
 ·exact main (.inr rfl) rfl ho
 ·cases ho
end
end Go.Eng
namespace Go.Eng
open Go.RowKit
theorem dw.setAt {R:Reach} {w:World}:∀{xs:List AV} {ys:List Value} (c:Nat) {x:AV} {y:Value},dw R w xs ys→ys[c]?=some y→Rep R w x y→dw R w (xs.set c x) ys
 | [],_,c,x,y,h,_,_=>by simpa using h
 | _ :: _,_,0,x,y,h,hy,hx=>by
  cases h with | cons a b r =>
  simp at hy
  subst hy
  exact .cons a hx r
 | _ :: _,_,c+1,x,y,h,hy,hx=>by
  cases h with | cons a b r =>
  exact .cons a b (dw.setAt c r (by simpa using hy) hx)
section
variable {C:Ctx} {D:j0} {σ:Sg} {γ:Ga} {a:Act} {w:World}
theorem cL.Np (h:cL C D σ γ a w) {m:Nat} {ts:List (Nat × (Nat × Nat))} (hm:γ m = .cl ts) {x:AV} (hV:∀cs,iP D.R w (σ m) (D.β m) cs→(∀t∈ts,cs[t.1]?=some (D.τ (lk t.2.1)))→iP D.R w x (D.β m) cs):cL C D (cF σ m x) γ a w:=by
 have hr:=h.oe m (by rw [hm];rfl)
 refine ⟨h.size,h.defers,h.iB,h.oe,h.kL,fun t ht=>?_,fun m' Vw jC=>?_,h.cB,fun key s hs=>?_,h.sep,h.own,h.inv,h.ext,h.jT,h.gl,h.fix⟩
 ·rw [bF _ _ (show t≠m by omega)];exact h.slot t ht
 ·by_cases e:m'=m
  ·subst e
   rw [bE]
   rw [hm] at jC
   cases jC
   obtain ⟨cs,hv,ht⟩:=h.mem m' ts hm
   exact ⟨cs,hV cs hv ht,ht⟩
  ·rw [bF _ _ e];exact h.mem m' Vw jC
 ·have e:key≠m:=fun e=>by subst e;rw [hm] at hs;cases hs
  obtain ⟨h1,h2,h3⟩:=h.ps key s hs
  rw [bF _ _ e]
  exact ⟨h1,h2,fun d s1 s' e1 e2=>by
   have e':d≠m:=fun e'=>by subst e';rw [hm] at e2;cases e2
   rw [bF _ _ e,bF _ _ e'];exact h3 d s1 s' e1 e2⟩
variable {o:Oper} {d:Nat} {K:Act→World→Prop} {Q:Exit→Act→World→Prop} (h:cL C D σ γ a w)
include h
theorem KZ {x v:Operand} {r q:cO} {t:TypeId} {inf:TypeInfo} {m o':Nat} {cs:List AV} {ts:List (Nat × (Nat × Nat))} {k s:Nat} (hd:o.dst=none) (ho:o.op = .store t x v) (hi:C.P.info? t=some inf) (hz:inf.size=1)
  (hx:bS x r=true) (fq:small C.nt [x]=true) (hv:bS v q=true) (lj:small C.nt [v]=true) (hr:r.ev C.E σ = .pt) (hg:r.gh γ = .ptr m o') (hm:γ m = .cl ts) (jO:σ m = .ag cs)
  (hq:q.ev C.E σ = .pt) (PF:q.gh γ = .cB k s) (nQ:o'+1≤cs.length)
  (hK:∀D' a' w',cL C D' (cF σ m (.ag (eH cs o' [.pt]))) (cF γ m (.cl (ts.filter (fun t=>t.1<o' || o'+1≤t.1)++[(o',k,s)]))) a' w'→K a' w'):o.wp C.P a w K Q:=by
 have q0:=h.gy hv lj
 have J3:=q0.gh (by rw [hq];simp) (by rw [hq];simp)
 rw [PF] at J3
 simp only [iw] at J3
 have hL:dw D.R w [.pt] (a.eval v).cells.toList:=by
  have xp:(a.eval v).cells.toList=[a.eval v]:=by
   have e2:=J3.2
   generalize a.eval v=y at e2
   cases y <;> first | rfl | (simp [Value.oneCell'] at e2)
  rw [xp];exact .cons J3.2 (.pt _) .nil
 refine EL h hd ho hi hz hx fq hv lj hr hg hm jO (by rw [hq];simp) (by rw [hq];simp) hL rfl nQ ?_
 rw [PF]
 simpa using hK
theorem Lf {k:Nat} (h9:k≠999999) (hd:o.dst=some d) (hl:d<C.nt) {x:Operand} {r:cO} {t:TypeId} {m o' n c s:Nat} {inf:TypeInfo} {cs:List AV} {ts:List (Nat × (Nat × Nat))} {es:List AV} {sv:AV} (ho:o.op = .load t x) (hi:C.P.info? t=some inf) (hz:inf.size=n) (ha:jN C.P t=some true)
  (hx:bS x r=true) (fq:small C.nt [x]=true) (hr:r.ev C.E σ = .pt) (hg:r.gh γ = .ptr m o') (hm:γ m = .cl ts) (jO:σ m = .ag cs) (hc:(c,k,s)∈ts) (xn:c<cs.length) (hk:γ (lk k) = .pv s) (RW:σ (lk k) = .sl s es)
  (hp:fJ (cs.set c (.sl s es)) o' n true=some sv) (hK:∀D' a' w',cL C D' (bN σ [d,m,lk k] [sv,.ag (cs.set c (.sl s es)),.dead]) (bN γ [d,m,lk k] [.no,.cl ts,.live s]) a' w'→K a' w'):o.wp C.P a w K Q:=by
 obtain ⟨R',hS,hR,_⟩:=h.Kx h9 hk RW
 have fI:m≠lk k:=fun e=>by rw [e,hk] at hm;cases hm
 have jC:cF γ (lk k) (.live s) m = .cl ts:=by rw [bF _ _ fI];exact hm
 have F6:=hS.Np jC (x := .ag (cs.set c (.sl s es))) (fun vs hv nM=>by
  rw [bF _ _ fI,jO] at hv
  have Su:=hv.CR
  obtain ⟨elem,hh,hL⟩:=hv.ag
  refine ⟨elem,hh,.inr ⟨_,rfl,?_⟩,Su⟩
  rw [List.length_set]
  have h1:=nM _ hc
  exact hL.setAt c (by rw [aM,aH xn];exact h1) hR)
 have LR:r.ev C.E (cF (cF σ (lk k) .dead) m (.ag (cs.set c (.sl s es))))=r.ev C.E σ∧r.gh (cF γ (lk k) (.live s))=r.gh γ:=by
  cases r with
  | s t =>
   have ht:t<C.nt:=by cases x <;> simp [bS] at hx;subst hx;simpa [small] using fq
   have h2:t≠lk k:=by have:=fH k;have:=h.iB;omega
   have h1:t≠m:=by have:=h.oe m (by rw [hm];rfl);omega
   exact ⟨by simp only [cO.ev];rw [bF _ _ h1,bF _ _ h2],by simp only [cO.gh];rw [bF _ _ h2]⟩
  | _=>exact ⟨rfl,rfl⟩
 refine Jw F6 hd hl ho hi hz ha (.inl rfl) hx fq (by rw [LR.1];exact hr) (by rw [LR.2];exact hg) jC (by rw [bE]) hp ?_
 intro D' a' w' hF
 have zG:bN γ [d,m,lk k] [.no,.cl ts,.live s]=cF (cF γ (lk k) (.live s)) d .no:=by
  simp only [bN]
  congr 1
  funext j
  by_cases e:j=m
  ·subst e;rw [bE,jC]
  ·rw [bF _ _ e]
 refine hK D' a' w' ?_
 rw [zG]
 exact hF
end
section
variable {C:Ctx} {sg:Nat→c7}
theorem Oj {m o':Nat}:cC C sg (.Jl m o'):=by
 intro D σ γ a w dst op ty pos after guard rs ds gd ws gs K' Q h ho hk c8 hs hg hK
 simp only [cj,aa,ay,beq_iff_eq,Option.isNone_iff_eq_none] at hk
 obtain ⟨⟨⟨⟨ve,xk⟩,rfl⟩,rfl⟩,eE⟩:=hk
 simp only [dX] at ho
 split at ho
 ·rename_i t x v p q r
  simp only [aa,beq_iff_eq] at ho
  obtain ⟨⟨ht,hx⟩,hv⟩:=ho
  obtain ⟨inf,h1,h2⟩:=fV ht
  cases q with
  | s j =>
   simp at eE
   subst eE
   simp only [ah,ao,eh] at hs
   split at hs
   ·rename_i cs heq
    simp only [aj,and_true,cO.ev] at heq
    obtain ⟨e1,e2,e3⟩:=heq
    obtain ⟨p3,rfl⟩:=hs
    simp only [ah,ao,dt] at hg
    split at hg
    ·rename_i m' MS ts k s dp
     simp only [aj,and_true,cO.gh] at dp
     obtain ⟨f1,f2,f3⟩:=dp
     split at hg
     ·rename_i hc
      obtain ⟨rfl,rfl⟩:=hc
      cases hg
      exact KZ h rfl rfl h1 h2 hx (bH c8 (by simp [Op.operands])) hv (bH c8 (by simp [Op.operands])) e1 f1 f2 e2 e3 f3 p3 hK
     ·cases hg
    ·cases hg
   ·cases hs
  | c=>simp at eE
  | g=>simp at eE
 ·cases ho
theorem OH {m o' n c k s:Nat}:cC C sg (.JA m o' n c k s):=by
 intro D σ γ a w dst op ty pos after guard rs ds gd ws gs K' Q h ho hk c8 hs hg hK
 simp only [cj,aa,ay,beq_iff_eq] at hk
 obtain ⟨⟨⟨h9,ve,xk⟩,jW,eE⟩,gH⟩:=hk
 obtain ⟨d,rfl,hl,rfl⟩:=ez gH
 simp only [dX] at ho
 split at ho
 ·rename_i t x r rest
  have ht2:=tZ eE
  simp only [List.drop_succ_cons,aS] at ht2
  subst ht2
  simp only [aa] at ho
  obtain ⟨ht,ho⟩:=ho
  obtain ⟨inf,h1,h2,h3,h4⟩:=gw ht
  simp only [ah,ao,eh] at hs
  split at hs
  ·rename_i cs s' es heq
   simp only [aj,and_true,cO.ev] at heq
   obtain ⟨x',rfl,p0,p1,rfl⟩:=hs
   simp only [ah,ao,dt] at hg
   split at hg
   ·rename_i m' MS ts s2 dp
    simp only [aj,and_true,cO.gh] at dp
    split at hg
    ·rename_i hc
     obtain ⟨rfl,rfl,rfl,th⟩:=hc
     cases hg
     exact Lf h h9 rfl hl rfl h1 h2 h3 ho (bH c8 (by simp [Op.operands])) heq.1 dp.1 dp.2.1 heq.2.1 th p0 dp.2.2 heq.2.2 p1 hK
    ·cases hg
   ·cases hg
  ·cases hs
 ·cases ho
end
end Go.Eng
namespace Go.Eng
open Go.RowKit
theorem HV (a:Array TypeId) (b:TypeId) (k:FloatKind) (p q:Nat):Builtin.real_ a b #[.complex k p q]=pure (.float k p):=rfl
theorem IA (a:Array TypeId) (b:TypeId) (k:FloatKind) (p q:Nat):Builtin.imag_ a b #[.complex k p q]=pure (.float k q):=rfl
theorem Bj (a:Array TypeId) (b:TypeId) (p q:Nat):Builtin.complex_ a b #[.float .f64 p,.float .f64 q]=pure (.complex .f64 p q):=rfl
theorem DX {P:Program} {w:World} {nm:String} {b:Nat} (hb:Fl.num b=true):(Extern.MathFloor.toIntegral nm .zero #[.float .f64 b]).run P w = .ok (.float .f64 (Fl.iH b)) w:=by
 unfold Fl.num at hb
 have e:Extern.MathFloor.toIntegral nm .zero #[.float .f64 b]=(match FloatKind.f64.decode b with
  | .nan s t =>
   if FloatKind.f64.format.quiet t=t then pure (.float .f64 b) else do
   let kept ←choose (.extern "math.Floor,Ceil,Trunc,RoundToEven.signallingNaN kept" 2)
   pure (.float .f64 (if kept == 1 then b else FloatKind.f64.encode (.nan s (FloatKind.f64.format.quiet t))))
  | d=>pure (.float .f64 (FloatKind.f64.encode (d.integral .zero)))):=rfl
 rw [e]
 unfold Fl.iH
 cases hd:FloatKind.f64.decode b with
 | nan s t=>rw [hd] at hb;cases hb
 | number s m e=>rfl
 | infinity s=>rfl
theorem zJ {fn:Func} (h:fn.name = "math.archTrunc"):Extern.find fn=some (Extern.MathFloor.toIntegral "math.archTrunc" .zero):=by
 have e1:(Extern.allGenericRows.lookup "math.archTrunc")=none:=by kernel_rfl
 have e2:(Extern.allTypedRows.lookup "math.archTrunc")=none:=by kernel_rfl
 have e3:(Extern.allRows.lookup "math.archTrunc")=some (Extern.MathFloor.toIntegral "math.archTrunc" .zero):=by kernel_rfl
 unfold Extern.find
 simp only [h,e1,e2,e3]
 rfl
theorem zH {fn:Func} (h:fn.name = "math.archTrunc") (h2:fn.origin = "" ∨ fn.origin = "math.archTrunc"):Extern.findNext fn=none:=by
 have e1:(Extern.allNextRows.lookup "math.archTrunc")=none:=by kernel_rfl
 have e2:(Extern.allNextRows.lookup "")=none:=by kernel_rfl
 unfold Extern.findNext
 rcases h2 with h2 | h2 <;> simp only [h,h2,e1,e2] <;> rfl
section
variable {C:Ctx} {D:j0} {σ:Sg} {γ:Ga} {a:Act} {w:World}
variable {o:Oper} {d:Nat} {K:Act→World→Prop} {Q:Exit→Act→World→Prop} (h:cL C D σ γ a w)
include h
theorem Nz (hd:o.dst=some d) (hl:d<C.nt) {x:Operand} {r:cO} {ts:Array TypeId} {k:FloatKind} {p q:Nat} (ho:o.op = .call { callee := .builtin .real,args:=#[x],argTypes:=ts }) (hx:bS x r=true) (fq:small C.nt [x]=true) (hr:r.ev C.E σ = .v (.complex k p q))
  (hK:∀D' a' w',cL C D' (cF σ d (.v (.float k p))) (cF γ d .no) a' w'→K a' w'):o.wp C.P a w K Q:=by
 have e1:=(h.gy hx fq).rep (by rw [hr];simp)
 rw [hr] at e1
 have cK:(execOp a.eval o).run C.P w = .ok (.value (.float k p)) w:=by
  simp [execOp,ho,e1.fw,resolve,invoke,builtin,HV]
 exact h.fM hd hl cK (.v _) hK
theorem NI (hd:o.dst=some d) (hl:d<C.nt) {x:Operand} {r:cO} {ts:Array TypeId} {k:FloatKind} {p q:Nat} (ho:o.op = .call { callee := .builtin .imag,args:=#[x],argTypes:=ts }) (hx:bS x r=true) (fq:small C.nt [x]=true) (hr:r.ev C.E σ = .v (.complex k p q))
  (hK:∀D' a' w',cL C D' (cF σ d (.v (.float k q))) (cF γ d .no) a' w'→K a' w'):o.wp C.P a w K Q:=by
 have e1:=(h.gy hx fq).rep (by rw [hr];simp)
 rw [hr] at e1
 have cK:(execOp a.eval o).run C.P w = .ok (.value (.float k q)) w:=by
  simp [execOp,ho,e1.fw,resolve,invoke,builtin,IA]
 exact h.fM hd hl cK (.v _) hK
theorem NP (hd:o.dst=some d) (hl:d<C.nt) {x y:Operand} {r q:cO} {ts:Array TypeId} {m n:Nat} (ho:o.op = .call { callee := .builtin .complex,args:=#[x,y],argTypes:=ts }) (hx:bS x r=true) (fq:small C.nt [x]=true) (hy:bS y q=true) (lj:small C.nt [y]=true)
  (hr:r.ev C.E σ = .v (.float .f64 m)) (hq:q.ev C.E σ = .v (.float .f64 n)) (hK:∀D' a' w',cL C D' (cF σ d (.v (.complex .f64 m n))) (cF γ d .no) a' w'→K a' w'):o.wp C.P a w K Q:=by
 have e1:=(h.gy hx fq).rep (by rw [hr];simp)
 rw [hr] at e1
 have e2:=(h.gy hy lj).rep (by rw [hq];simp)
 rw [hq] at e2
 have cK:(execOp a.eval o).run C.P w = .ok (.value (.complex .f64 m n)) w:=by
  simp [execOp,ho,e1.fw,e2.fw,resolve,invoke,builtin,Bj]
 exact h.fM hd hl cK (.v _) hK
theorem NS (hd:o.dst=some d) (hl:d<C.nt) {x:Operand} {r:cO} {t u:TypeId} {k:IntKind} {n:Int} (ho:o.op = .convert t u x) (ht:(C.P.underlying t).isSome=true) (hu:C.P.underlying u=some (.float .f64)) (hx:bS x r=true) (fq:small C.nt [x]=true) (hr:r.ev C.E σ = .v (.int k n))
  (hK:∀D' a' w',cL C D' (cF σ d (.v (.float .f64 (Fl.ofInt n)))) (cF γ d .no) a' w'→K a' w'):o.wp C.P a w K Q:=by
 have e1:=(h.gy hx fq).rep (by rw [hr];simp)
 rw [hr] at e1
 have cK:(execOp a.eval o).run C.P w = .ok (.value (.float .f64 (Fl.ofInt n))) w:=by
  simp only [execOp,ho,e1.fw,Sem.run_bind,run_convert_int_float w t u k .f64 n ht hu,Result.andThen_ok,Sem.run_pure]
  rfl
 exact h.fM hd hl cK (.v _) hK
theorem NL (hd:o.dst=some d) (hl:d<C.nt) {x:Operand} {r:cO} {t u:TypeId} {b:Nat} (ho:o.op = .convert t u x) (ht:(C.P.underlying t).isSome=true) (hu:C.P.underlying u=some (.int .i64)) (hx:bS x r=true) (fq:small C.nt [x]=true) (hr:r.ev C.E σ = .v (.float .f64 b)) (hb:Fl.lR b=true)
  (hK:∀D' a' w',cL C D' (cF σ d (.v (.int .i64 (Fl.toInt b)))) (cF γ d .no) a' w'→K a' w'):o.wp C.P a w K Q:=by
 have e1:=(h.gy hx fq).rep (by rw [hr];simp)
 rw [hr] at e1
 have hn:floatToIntVal .f64 b .i64=some (Fl.toInt b):=by
  unfold Fl.lR at hb
  obtain ⟨x,hx⟩:=Option.isSome_iff_exists.1 hb
  unfold Fl.toInt;rw [hx];rfl
 have cK:(execOp a.eval o).run C.P w = .ok (.value (.int .i64 (Fl.toInt b))) w:=by
  simp only [execOp,ho,e1.fw,Sem.run_bind,run_convert_float_int w t u .f64 .i64 b _ ht hu hn,Result.andThen_ok,Sem.run_pure]
 exact h.fM hd hl cK (.v _) hK
theorem KW (hd:o.dst=some d) (hl:d<C.nt) {x:Operand} {r:cO} {f:Nat} {ts:Array TypeId} {b:Nat} (ho:o.op = .call { callee := .value (.func f),args:=#[x],argTypes:=ts }) (hf:mT C.P f "math.archTrunc" = true)
  (hx:bS x r=true) (fq:small C.nt [x]=true) (hr:r.ev C.E σ = .v (.float .f64 b)) (hb:Fl.num b=true)
  (hK:∀D' a' w',cL C D' (cF σ d (.v (.float .f64 (Fl.iH b)))) (cF γ d .no) a' w'→K a' w'):o.wp C.P a w K Q:=by
 have e1:=(h.gy hx fq).rep (by rw [hr];simp)
 rw [hr] at e1
 unfold mT at hf
 cases hfn:C.P.funcs[f]? with
 | none=>simp [hfn] at hf
 | some fn =>
  simp only [hfn,Option.any_some,aa,beq_iff_eq,Bool.or_eq_true] at hf
  obtain ⟨⟨hn,QI⟩,C6⟩:=hf
  have zi:=run_callFunc_extern (P:=C.P) hfn (by rw [hn];decide +kernel) QI (zH hn C6) (zJ hn) #[.float .f64 b] w
  have V9:(Extern.MathFloor.toIntegral "math.archTrunc" .zero #[.float .f64 b]).run C.P w = .ok (.float .f64 (Fl.iH b)) w:=DX hb
  rw [V9] at zi
  have cK:(execOp a.eval o).run C.P w = .ok (.value (.float .f64 (Fl.iH b))) w:=by
   have he:a.eval (.func f) = .func (.func f) #[] #[]:=rfl
   simp only [execOp,ho,resolve,Deferred.ofValue,he,invoke]
   simpa [e1.fw,resolve,Deferred.ofValue,invoke] using zi
  exact h.fM hd hl cK (.v _) hK
end
section
variable {C:Ctx} {sg:Nat→c7}
theorem Rm:cC C sg .rl:=by
 intro D σ γ a w dst op ty pos after guard rs ds gd ws gs K' Q h ho hk c8 hs hg hK
 simp only [dt,aB] at hg
 subst hg
 obtain ⟨d,rfl,hl,rfl⟩:=ez (l:=[]) hk
 simp only [dX] at ho
 split at ho
 ·rename_i args pf
  simp only [aa,beq_iff_eq] at ho
  obtain ⟨hx,kZ⟩:=ho
  obtain ⟨x,kO⟩:=ka (l:=args.toList) (by simpa using kZ)
  rw [kO] at hx
  obtain ⟨r,rfl,xT⟩:=jZ hx
  have ea:args=#[x]:=by rw [←Array.toArray_toList (xs:=args),kO]
  subst ea
  simp only [ah,ao,eh] at hs
  split at hs
  ·rename_i k p q heq
   simp only [aj,and_true,cO.ev] at heq
   subst hs
   exact Nz h rfl hl rfl xT (bH c8 (by simp [Op.operands,Call.operands])) heq hK
  ·cases hs
 ·cases ho
theorem Ry:cC C sg .im:=by
 intro D σ γ a w dst op ty pos after guard rs ds gd ws gs K' Q h ho hk c8 hs hg hK
 simp only [dt,aB] at hg
 subst hg
 obtain ⟨d,rfl,hl,rfl⟩:=ez (l:=[]) hk
 simp only [dX] at ho
 split at ho
 ·rename_i args pf
  simp only [aa,beq_iff_eq] at ho
  obtain ⟨hx,kZ⟩:=ho
  obtain ⟨x,kO⟩:=ka (l:=args.toList) (by simpa using kZ)
  rw [kO] at hx
  obtain ⟨r,rfl,xT⟩:=jZ hx
  have ea:args=#[x]:=by rw [←Array.toArray_toList (xs:=args),kO]
  subst ea
  simp only [ah,ao,eh] at hs
  split at hs
  ·rename_i k p q heq
   simp only [aj,and_true,cO.ev] at heq
   subst hs
   exact NI h rfl hl rfl xT (bH c8 (by simp [Op.operands,Call.operands])) heq hK
  ·cases hs
 ·cases ho
theorem RE:cC C sg .cx:=by
 intro D σ γ a w dst op ty pos after guard rs ds gd ws gs K' Q h ho hk c8 hs hg hK
 simp only [dt,aB] at hg
 subst hg
 obtain ⟨d,rfl,hl,rfl⟩:=ez (l:=[]) hk
 simp only [dX] at ho
 split at ho
 ·rename_i args pf
  simp only [aa,beq_iff_eq] at ho
  obtain ⟨hx,kZ⟩:=ho
  obtain ⟨x,y,kO⟩:=uL (l:=args.toList) (by simpa using kZ)
  rw [kO] at hx
  obtain ⟨r,q,rfl,xT,hy⟩:=iz hx
  have ea:=ri kO
  subst ea
  simp only [ah,ao,eh] at hs
  split at hs
  ·rename_i m n heq
   simp only [aj,and_true,cO.ev] at heq
   subst hs
   exact NP h rfl hl rfl xT (bH c8 (by simp [Op.operands,Call.operands])) hy (bH c8 (by simp [Op.operands,Call.operands])) heq.1 heq.2 hK
  ·cases hs
 ·cases ho
theorem RI:cC C sg .cf:=by
 intro D σ γ a w dst op ty pos after guard rs ds gd ws gs K' Q h ho hk c8 hs hg hK
 simp only [dt,aB] at hg
 subst hg
 obtain ⟨d,rfl,hl,rfl⟩:=ez (l:=[]) hk
 simp only [dX] at ho
 split at ho
 ·rename_i t u x
  simp only [aa] at ho
  obtain ⟨⟨h1,h2⟩,hx⟩:=ho
  obtain ⟨r,rfl,xT⟩:=jZ hx
  have h2:C.P.underlying u=some (.float .f64):=by
   split at h2
   ·assumption
   ·cases h2
  simp only [ah,ao,eh] at hs
  split at hs
  ·rename_i k n heq
   simp only [aj,and_true,cO.ev] at heq
   subst hs
   exact NS h rfl hl rfl h1 h2 xT (bH c8 (by simp [Op.operands])) heq hK
  ·cases hs
 ·cases ho
theorem RB:cC C sg .fc:=by
 intro D σ γ a w dst op ty pos after guard rs ds gd ws gs K' Q h ho hk c8 hs hg hK
 simp only [dt,aB] at hg
 subst hg
 obtain ⟨d,rfl,hl,rfl⟩:=ez (l:=[]) hk
 simp only [dX] at ho
 split at ho
 ·rename_i t u x
  simp only [aa] at ho
  obtain ⟨⟨h1,h2⟩,hx⟩:=ho
  obtain ⟨r,rfl,xT⟩:=jZ hx
  have h2:C.P.underlying u=some (.int .i64):=by
   split at h2
   ·assumption
   ·cases h2
  simp only [ah,ao,eh] at hs
  split at hs
  ·rename_i b heq
   simp only [aj,and_true,cO.ev] at heq
   obtain ⟨hb,rfl⟩:=hs
   exact NL h rfl hl rfl h1 h2 xT (bH c8 (by simp [Op.operands])) heq hb hK
  ·cases hs
 ·cases ho
theorem Og:cC C sg .MP:=by
 intro D σ γ a w dst op ty pos after guard rs ds gd ws gs K' Q h ho hk c8 hs hg hK
 simp only [dt,aB] at hg
 subst hg
 obtain ⟨d,rfl,hl,rfl⟩:=ez (l:=[]) hk
 simp only [dX] at ho
 split at ho
 ·rename_i g args pf
  simp only [aa,beq_iff_eq] at ho
  obtain ⟨⟨hf,hx⟩,kZ⟩:=ho
  obtain ⟨x,kO⟩:=ka (l:=args.toList) (by simpa using kZ)
  rw [kO] at hx
  obtain ⟨r,rfl,xT⟩:=jZ hx
  have ea:args=#[x]:=by rw [←Array.toArray_toList (xs:=args),kO]
  subst ea
  simp only [ah,ao,eh] at hs
  split at hs
  ·rename_i b heq
   simp only [aj,and_true,cO.ev] at heq
   obtain ⟨hb,rfl⟩:=hs
   exact KW h rfl hl rfl hf xT (bH c8 (by simp [Op.operands,Call.operands])) heq hb hK
  ·cases hs
 ·cases ho
end
end Go.Eng
namespace Go.Eng
open Go.RowKit
theorem Ext.shrink {w w':World} {R R':Reach} {io:Nat→Prop} (h:Ext w R io w' R'):Ext w R io w' R :=
 ⟨h.os,h.tape,h.output,h.size,h.heap,fun b o hr=>⟨hr,(h.bL b o hr).2⟩,fun _ _ hr => .inl hr⟩
theorem dw.yu {R R':Reach} {w w':World}:∀{es:List AV} {ys:List Value},(∀e∈es,∃x,e = .v x)→dw R w es ys→dw R' w' es ys
 | _,_,_,.nil => .nil
 | _,_,hv,.cons a h t=>by
  obtain ⟨y,rfl⟩:=hv _ (List.mem_cons_self ..)
  cases h
  exact .cons a (.v _) (t.yu fun x hx=>hv x (List.mem_cons_of_mem _ hx))
theorem Ay {es:List AV} (hv:∀e∈es,∃x,e = .v x):es.flatMap AV.cells=es∧∀e∈es,e.cells.length=1:=by
 refine ⟨?_,fun e he=>by obtain ⟨x,rfl⟩:=hv e he;rfl⟩
 induction es with
 | nil=>rfl
 | cons e es ih =>
  obtain ⟨x,rfl⟩:=hv e (List.mem_cons_self ..)
  rw [List.flatMap_cons,ih fun y hy=>hv y (List.mem_cons_of_mem _ hy)]
  rfl
section
variable {C:Ctx} {D:j0} {σ:Sg} {γ:Ga} {a:Act} {w:World}
theorem cL.Fj (h:cL C D σ γ a w) {k s:Nat} (h9:k≠999999) (hk:γ (lk k) = .pv s):cL C D (cF σ (lk k) .dead) (cF γ (lk k) .used) a w:=by
 have Wv:=h.kL (lk k) (by rw [hk];rfl)
 have kG:∀m,(cF γ (lk k) .used m).ej=(γ m).ej:=fun m=>by
  by_cases e:m=lk k
  ·subst e;rw [bE,hk];rfl
  ·rw [bF _ _ e]
 have ja:∀m,(cF γ (lk k) .used m).eQ=(γ m).eQ:=fun m=>by
  by_cases e:m=lk k
  ·subst e;rw [bE,hk];rfl
  ·rw [bF _ _ e]
 have mm:∀m,(cF γ (lk k) .used m).par=(γ m).par:=fun m=>by
  by_cases e:m=lk k
  ·subst e;rw [bE,hk];rfl
  ·rw [bF _ _ e]
 have hm:∀g,eK γ g→eK (cF γ (lk k) .used) g:=fun g hg=>by
  cases g <;> simp only [eK,kG,ja] at hg ⊢ <;> first | exact hg | skip
  rename_i d s'
  have hd:d≠lk k:=fun e=>by subst e;rcases hg with e | ⟨lY,e⟩ <;> rw [hk] at e <;> cases e
  rw [bF _ _ hd];exact hg
 have hb:∀key g,eI D (cF γ (lk k) .used) key=some g→eI D γ key=some g:=fun key g hg=>by
  unfold eI at hg ⊢
  by_cases e:key=lk k
  ·subst e;rw [bE] at hg;cases hg
  ·rw [bF _ _ e] at hg;exact hg
 refine ⟨h.size,h.defers,h.iB,fun m hm=>h.oe m (by rwa [ja] at hm),fun m hm=>h.kL m (by rwa [kG] at hm),fun t ht=>?_,fun m ts jC=>?_,fun key s' jx=>?_,h.ps.same rfl (fun key hp=>?_),fun p q g hp hq=>(by rw [mm,mm];exact h.sep p q g (hb p g hp) (hb q g hq)),fun p g hp=>h.own p g (hb p g hp),fun key=>?_,h.ext,h.jT,h.gl,h.fix.of rfl (fun hp=>by
  have e:lk 999999≠lk k:=fun e=>h9 (fO e).symm
  rw [bF _ _ e];exact ⟨hp,rfl⟩)⟩
 ·have e:t≠lk k:=by have:=h.iB;omega
  rw [bF _ _ e,bF _ _ e];exact h.slot t ht
 ·have e:m≠lk k:=fun e=>by subst e;rw [bE] at jC;cases jC
  rw [bF _ _ e] at jC
  rw [bF _ _ e];exact h.mem m ts jC
 ·have e:key≠lk k:=fun e=>by subst e;rw [bE] at jx;cases jx
  rw [bF _ _ e] at jx;exact h.cB key s' jx
 ·have e:key≠lk k:=fun e=>by subst e;rw [bE] at hp;cases hp
  rw [bF _ _ e,bF _ _ e];exact ⟨rfl,rfl,rfl⟩
 ·by_cases e:key=lk k
  ·subst e;rw [bE];trivial
  ·rw [bF _ _ e];exact hm _ (h.inv key)
theorem cL.given (h:cL C D σ γ a w) {k s:Nat} (h9:k≠999999) (hk:γ (lk k) = .pv s) {R':Reach} {w':World} (he:Ext w D.R (fun c=>(D.τ (lk k)).ownBlock=some c) w' R') (eO:∀b o,R' b o→b<w'.heap.size) :
  cL C { D with R:=R' } (cF σ (lk k) .dead) (cF γ (lk k) .used) a w':=by
 have oJ:eI D γ (lk k)=(D.τ (lk k)).ownBlock:=fN (by rw [hk];rfl)
 have oF:∀b,(D.τ (lk k)).ownBlock=some b→∀key,eI D (cF γ (lk k) .used) key≠some b:=fun b hb key jb=>by
  by_cases e:key=lk k
  ·subst e;simp [eI,bE] at jb
  ·have:eI D γ key=some b:=by unfold eI at jb ⊢;rwa [bF _ _ e] at jb
   exact e (h.sK hk (oJ.trans hb) this)
 have h1:=h.Fj h9 hk
 refine h1.world he.os he.tape he.output he.size (fun b hb C6=>he.heap b hb fun e=>?_) he.bL (fun b o hr=>?_) eO
 ·rcases C6 with ⟨key,jx⟩ | hm
  ·exact oF b e key jx
  ·exact hm (h.own (lk k) b (oJ.trans e))
 ·rcases he.qx b o hr with e | e | e
  ·exact .inl e
  ·exact .inr ⟨.inr (Nat.le_trans h.ext.size e),fun key jx=>by have:=h1.lt jx;omega⟩
  ·exact .inr ⟨h.own (lk k) b (oJ.trans e),oF b e⟩
theorem BO {R R':Reach} {w':World} {x:Value} {es:List AV} (hv:∀e∈es,∃y,e = .v y) (hr:Rep R' w' (.sl 1 es) x) (ht:fg R' w' x 1) (hn:∀g,x.ownBlock=some g→∀o,¬R g o) :
  fg R w' x 1∧fL R w' x 1 (.sl 1 es):=by
 obtain ⟨c1,c2⟩:=Ay hv
 rcases ht with rfl | ⟨g,n,cap,cur,e,fz,rfl,h1,h2,h3,h4,h5,h6⟩
 ·refine ⟨.inl rfl,hn,.inr ⟨es,rfl,c2,.inl ⟨?_,rfl⟩⟩⟩
  rcases hr.mg with ⟨rfl,_⟩ | ⟨b,off,cap,te,_⟩ | ⟨rfl,_⟩
  ·rfl
  ·cases te
  ·rfl
 ·have hg:=hn g rfl
  refine ⟨.inr ⟨g,n,cap,cur,e,fz,rfl,h1,h2,h3,h4,h5,fun o _=>hg o⟩,hn,.inr ⟨es,rfl,c2,.inr ⟨g,cap,cur,e,fz,?_,h1,?_⟩⟩⟩
  ·rcases hr.mg with ⟨rfl,te⟩ | ⟨b,off,sz,te,_⟩ | ⟨rfl,ad,sz,te,_⟩
   ·cases te
   ·cases te;rfl
   ·cases te;rfl
  ·rcases hr.mg with ⟨rfl,te⟩ | ⟨b,off,sz,te,qQ,_,hE⟩ | ⟨rfl,ad,sz,te,_⟩
   ·cases te
   ·cases te
    obtain ⟨ys,y1,y2,y3,_⟩:=hE.cells
    rw [c1] at y3 ⊢
    have:cur.toList.take (es.length * 1)=ys:=by
     rw [←y1]
     refine n8 fun j y hj=>?_
     have:=y2 j y hj
     simp only [World.cell?,h1,Nat.zero_add] at this
     simpa using this
    rw [this]
    exact y3.yu hv
   ·simp only [List.flatMap_nil,aZ,Nat.zero_mul,List.take_zero];exact .nil
variable {o:Oper} {d:Nat} {K:Act→World→Prop} {Q:Exit→Act→World→Prop} (h:cL C D σ γ a w) (hd:o.dst=some d) (hl:d<C.nt)
theorem cL.zp (h:cL C D σ γ a w) {d:Nat} (hl:d<C.nt) {k s n cap:Nat} {cur:Array Value} {e:TypeId} {es:List AV} (hk:γ (lk k) = .no) (hlen:es.length=n) (qk:∀x∈es,x.cells.length=s) (qQ:n≤cap) (vu:cap≤maxLen) (kZ:cur.size=cap * s)
  (hL:dw D.R w (es.flatMap AV.cells) (cur.toList.take (es.length * s))) :
  ∃D',cL C D' (bN σ [d,lk k] [.pt,.sl s es]) (bN γ [d,lk k] [.cB k s,.pv s]) (a.put (some d) (.slice (some ⟨w.heap.size,0,none⟩) n cap)) { w with heap:=w.heap.push (.cells cur e) }:=by
 have gR:(w.heap.push (Obj.cells cur e))[w.heap.size]?=some (.cells cur e):=by simp
 have hold:∀c,c<w.heap.size→(w.heap.push (Obj.cells cur e))[c]?=w.heap[c]?:=fun c hc=>by
  rw [Array.getElem?_push,aD (by omega)]
 have hS:cL C { D with R:=D.R } σ γ a { w with heap:=w.heap.push (.cells cur e) }:=h.grow (R':=D.R) rfl rfl rfl (by show _≤(w.heap.push _).size;simp) hold (fun _ _ h=>h) (fun _ _ h => .inl h) (fun c q hr=>by
  show c<(w.heap.push _).size
  have:=h.jT c q hr
  simp;omega)
 have bL:fh D.R w D.R { w with heap:=w.heap.push (.cells cur e) }:=fun b o hr=>⟨hr,World.cell?_of_block (w:=w) (hold b (h.jT b o hr))⟩
 have nP:∀q,¬D.R w.heap.size q:=fun q hr=>by have:=h.jT _ q hr;omega
 refine ⟨_,cL.kW hS hl hk (.inr ⟨w.heap.size,n,cap,cur,e,(0,0),rfl,gR,by simp,kZ,qQ,vu,fun q _=>nP q⟩) ⟨fun g hg q=>?_,.inr ⟨es,rfl,qk,.inr ⟨w.heap.size,cap,cur,e,(0,0),by rw [hlen],gR,hL.mono bL⟩⟩⟩ fun g hg=>?_⟩
 ·simp [Value.ownBlock] at hg;subst hg;exact nP q
 ·simp [Value.ownBlock] at hg
  subst hg
  exact ⟨.inr h.ext.size,fun key hk=>by have:=h.lt hk;omega⟩
include h hd hl
theorem Ld {t e:TypeId} {x y:Operand} {r q:cO} {i:TypeInfo} {zv:Value} {k s:Nat} {z:AV} {l c:Int} (ho:o.op = .makeSlice t x y) (ht:C.P.underlying t=some (.slice e)) (hi:C.P.info? e=some i) (hz:i.size=s) (DK:i.zero=some zv) (y7:zv.cells.size=s) (Xd:0<s)
  (OZ:fk zv.cells.toList z.cells=true) (hx:bS x r=true) (hy:bS y q=true) (fq:small C.nt [x]=true) (lj:small C.nt [y]=true) (hr:r.ev C.E σ = .v (.int .i64 l)) (hq:q.ev C.E σ = .v (.int .i64 c))
  (hp:z.cells.length=s) (h0:0≤l) (SE:l≤c) (hb:c * i.bytes≤140737488355328) (vu:c≤maxLen) (hk:γ (lk k) = .no)
  (hK:∀D' a' w',cL C D' (bN σ [d,lk k] [.pt,.sl s (List.replicate l.toNat z)]) (bN γ [d,lk k] [.cB k s,.pv s]) a' w'→K a' w'):o.wp C.P a w K Q:=by
 have e1:=(h.gy hx fq).rep (by rw [hr];simp)
 have e2:=(h.gy hy lj).rep (by rw [hq];simp)
 rw [hr] at e1;rw [hq] at e2
 have Sy:=run_make (P:=C.P) w t e i zv ht hi DK .i64 .i64 l c h0 SE (by rw [Int.mul_comm];omega) (by simp only [maxLen] at vu;omega)
 have cK:(execOp a.eval o).run C.P w = .ok (.value (.slice (some ⟨w.heap.size,0,none⟩) l.toNat c.toNat)) (w.alloc (.cells (madeCells zv.cells (c.toNat * i.size)) e)):=by
  simp only [execOp,ho,e1.fw,e2.fw,Sem.run_bind,Sy,Result.andThen_ok,Sem.run_pure]
 have hL:dw D.R w z.cells zv.cells.toList:=gO OZ
 have SO:(List.replicate l.toNat z).flatMap AV.cells=(List.replicate l.toNat z.cells).flatten:=by rw [List.flatMap_def,List.map_replicate]
 have Db:l.toNat≤c.toNat:=by omega
 have A8:(madeCells zv.cells (c.toNat * i.size)).toList.take ((List.replicate l.toNat z).length * s)=(List.replicate l.toNat zv.cells.toList).flatten:=by
  have Ci:(List.replicate l.toNat zv.cells.toList).flatten.length=l.toNat * s:=by simp [y7]
  rw [List.length_replicate,←Ci]
  refine n8 fun j y hj=>?_
  have h1:=oQ (by simp;omega) _ _ _ hj
  have eO:=(aE.1 hj).1
  rw [Ci] at eO
  have hle:l.toNat * s≤c.toNat * s:=ar _ Db
  have hm:j<c.toNat * i.size:=by rw [hz];omega
  simp only [madeCells,Array.getElem?_map,Array.getElem?_range,hm,if_true,Option.map_some]
  simp only [Array.length_toList,Array.getElem?_toList] at h1
  rw [getElem!_def,h1]
 obtain ⟨D',hS⟩:=h.zp (d:=d) hl (k:=k) (s:=s) (n:=l.toNat) (cap:=c.toNat) (cur:=madeCells zv.cells (c.toNat * i.size)) (e:=e) (es:=List.replicate l.toNat z) hk (by simp) (fun x hx=>by rw [List.eq_of_mem_replicate hx];exact hp) Db (by omega)
  (by rw [size_madeCells,hz]) (by rw [A8,SO];exact lA hL _)
 unfold Oper.wp
 rw [cK,Oper.upon_value,hd]
 exact hK _ _ _ hS
theorem Lh {t:TypeId} {s n k:Nat} {parts:Array (Nat × Operand)} {rs:List cO} (ho:o.op = .buildSlice t n parts) (ht:kB C.P t s=true) (FR:n * s≤2 ^ 24)
  (vq:parts.toList.map (·.1)=List.range n) (hx:bV (parts.toList.map (·.2)) rs=true) (c8:small C.nt (parts.toList.map (·.2))=true) (vd:∀x∈rs.map (cO.ev C.E σ),x.plain=true∧x.cells.length=s) (hk:γ (lk k) = .no)
  (hK:∀D' a' w',cL C D' (bN σ [d,lk k] [.pt,.sl s (rs.map (cO.ev C.E σ))]) (bN γ [d,lk k] [.cB k s,.pv s]) a' w'→K a' w'):o.wp C.P a w K Q:=by
 obtain ⟨e,inf,zv,ht,hi,hz,DK,h5⟩:=mf ht
 have FQ:n≤maxLen:=by
  have:n≤n * s:=Nat.le_mul_of_pos_right n h5
  simp only [maxLen];omega
 have hT:=h.qE hx c8
 obtain ⟨hL,kZ⟩:=rM hT vd
 have hlen:parts.toList.length=n:=by have:=congrArg List.length vq;simpa using this
 have Ps:parts.size=n:=by simpa using hlen
 have pD:(rs.map (cO.ev C.E σ)).length=n:=by have:=hT.length;simp at this ⊢;omega
 have hp:(parts.map fun p=>(p.1,a.eval p.2)).toList=((((parts.toList.map (·.2)).map a.eval).zipIdx 0).map fun p=>(p.2,p.1)):=by
  have e:=rN ((parts.map fun p=>(p.1,a.eval p.2)).toList) 0 (by simp only [Array.toList_map,aW,aG,hlen];rw [←List.range_eq_range',←vq];rfl)
  rw [e]
  simp [Function.comp_def]
 let zc:Array Value:=if n * s=0 then #[] else zv.cells
 let c0:Array Value:=(Array.range (n * s)).map (zc[· % zc.size]!)
 obtain ⟨fv,hf,L9⟩:=se s ((parts.toList.map (·.2)).map a.eval) 0 c0 kZ (by simp [c0,hlen])
 simp only [Nat.zero_mul,List.take_zero,bj] at L9
 have cK:(Instr.buildSlice t n (parts.map fun p=>(p.1,a.eval p.2))).run C.P w = .ok (.slice (some ⟨w.heap.size,0,none⟩) n n) { w with heap:=w.heap.push (.cells fv e) }:=by
  have Td:¬(n * s > 2 ^ 24):=by omega
  rw [←hp] at hf
  simp only [c0,zc] at hf
  simp only [Instr.buildSlice,Sem.run_bind,run_underlying ht,Result.andThen_ok,run_sizeOf hi,hz,Td,if_false,Sem.run_pure]
  by_cases h0:n * s=0
  ·rw [aH h0] at hf ⊢
   simp only [Sem.run_bind,Sem.run_pure,Result.andThen_ok]
   rw [hf]
   simp [Go.newRow]
  ·rw [aD h0] at hf ⊢
   simp only [Sem.run_bind,Sem.run_pure,Result.andThen_ok,oc hi DK]
   rw [hf]
   simp [Go.newRow]
 have xn:fv.size=n * s:=by
  rw [←Array.length_toList,L9,←hL.length,qV vd,pD]
 obtain ⟨D',hS⟩:=h.zp (d:=d) hl (k:=k) (s:=s) (n:=n) (cap:=n) (cur:=fv) (e:=e) (es:=rs.map (cO.ev C.E σ)) hk pD (fun x hx=>(vd x hx).2) (Nat.le_refl _) FQ xn
  (by rw [L9,List.take_of_length_le (by rw [←hL.length,qV vd];omega)];exact hL)
 unfold Oper.wp
 rw [show (execOp a.eval o).run C.P w = .ok (.value (.slice (some ⟨w.heap.size,0,none⟩) n n)) { w with heap:=w.heap.push (.cells fv e) } by simp only [execOp,ho,Sem.run_bind,cK,Result.andThen_ok,Sem.run_pure],Oper.upon_value,hd]
 exact hK _ _ _ hS
theorem K3 {x y:Operand} {r q:cO} {t e:TypeId} {inf:TypeInfo} {k k' s:Nat} {es:List AV} {ik:IntKind} {u:Int} (ho:o.op = .slice t x none (some y) none) (ht:C.P.underlying t=some (.slice e)) (A6:C.P.info? e=some inf) (hz:inf.size=s) (h9:k≠999999)
  (hx:bS x r=true) (fq:small C.nt [x]=true) (hy:bS y q=true) (lj:small C.nt [y]=true) (hr:r.ev C.E σ = .pt) (hg:r.gh γ = .cB k s) (hk:γ (lk k) = .pv s) (jO:σ (lk k) = .sl s es) (jP:γ (lk k') = .no) (fI:k≠k')
  (hq:q.ev C.E σ = .v (.int ik u)) (h0:0≤u) (h2:u.toNat≤es.length)
  (hK:∀D' a' w',cL C D' (bN σ [d,lk k,lk k'] [.pt,.dead,.sl s (es.take u.toNat)]) (bN γ [d,lk k,lk k'] [.cB k' s,.used,.pv s]) a' w'→K a' w'):o.wp C.P a w K Q:=by
 have e0:=h.gy hx fq
 have hv:=e0.gh (by rw [hr];simp) (by rw [hr];simp)
 rw [hg] at hv
 obtain ⟨hv,_⟩:=hv
 have e2:=(h.gy hy lj).rep (by rw [hq];simp)
 rw [hq] at e2
 obtain ⟨tg,hn,hp⟩:=h.qA hk
 rw [jO] at hp
 obtain ⟨Ke,he,qk,hp⟩:=hp.resolve_left (by simp)
 cases he
 have oJ:eI D γ (lk k)=(D.τ (lk k)).ownBlock:=fN (by rw [hk];rfl)
 have oF:∀b,(D.τ (lk k)).ownBlock=some b→C.kY b∧∀key,eI D (cF γ (lk k) .used) key≠some b:=fun b hb=>⟨h.own _ _ (oJ.trans hb),fun key jb=>by
  by_cases e:key=lk k
  ·subst e;simp [eI,bE] at jb
  ·have:eI D γ key=some b:=by unfold eI at jb ⊢;rwa [bF _ _ e] at jb
   exact e (h.sK hk (oJ.trans hb) this)⟩
 have Qv:a.eval y = .int ik ((u.toNat:Nat):Int):=by rw [e2.fw,Int.toNat_of_nonneg h0]
 have hb:∀cap,es.length≤cap→(Instr.sliceBounds true es.length cap none (some (a.eval y)) none).run C.P w = .ok (0,u.toNat,cap) w:=by
  intro cap qQ
  have hu:u.toNat≤cap:=by omega
  clear hr hq h0 e2
  generalize u.toNat=u' at *
  unfold Instr.sliceBounds
  simp [Instr.sliceBound,asIntOf, *]
 have vr:cF γ (lk k) .used (lk k') = .no:=by rw [bF _ _ (fun e=>fI (fO e).symm)];exact jP
 have hc:lk k'≠lk k:=fun e=>fI (fO e).symm
 have Dr:∀x:AV,bN σ [d,lk k,lk k'] [.pt,.dead,x]=bN (cF σ (lk k) .dead) [d,lk k'] [.pt,x]:=fun x=>by
  simp only [bN];rw [gq σ _ _ hc]
 have zG:bN γ [d,lk k,lk k'] [.cB k' s,.used,.pv s]=bN (cF γ (lk k) .used) [d,lk k'] [.cB k' s,.pv s]:=by
  simp only [bN];rw [gq γ _ _ hc]
 rw [Dr,zG] at hK
 have h1:=h.Fj h9 hk
 unfold Oper.wp
 rcases hp with ⟨rfl,pJ⟩ | ⟨g,cap,cur,el,fz,pJ,hh,hL⟩
 ·have O7:u.toNat=0:=by simpa using h2
  have vv:=hb 0 (by simp)
  rw [pJ] at hv
  have cK:(execOp a.eval o).run C.P w = .ok (.value (.slice none 0 0)) w:=by
   simp only [aZ] at vv
   simp only [execOp,ho,hv,Instr.sliceAt,Instr.slice,Sem.run_bind,run_underlying ht,Result.andThen_ok,Option.map_none,Option.map_some,vv,run_sizeOf A6,Sem.run_pure,O7]
   simp
  rw [cK,Oper.upon_value,hd]
  exact hK _ _ _ (h1.kW hl vr (.inl rfl) ⟨fun g hg=>by simp [Value.ownBlock] at hg,.inr ⟨_,rfl,by simp,.inl ⟨by simp,rfl⟩⟩⟩ fun g hg=>by simp [Value.ownBlock] at hg)
 ·rw [pJ] at hv hn tg oF
  rcases tg with e1 | ⟨g',n',sz,mA,Xj,M4,e1,q1,q2,q3,q4,q5,q6⟩
  ·cases e1
  cases e1
  rw [hh] at q1
  cases q1
  have cK:(execOp a.eval o).run C.P w = .ok (.value (.slice (some ⟨g,0,none⟩) u.toNat cap)) w:=by
   simp only [execOp,ho,hv,Instr.sliceAt,Instr.slice,Sem.run_bind,run_underlying ht,Result.andThen_ok,Option.map_none,Option.map_some,hb cap q4,run_sizeOf A6,Sem.run_pure,hz]
   split <;> simp [*,fB]
  rw [cK,Oper.upon_value,hd]
  have L3:=hn g rfl
  have eO:(es.take u.toNat).length=u.toNat:=by simp;omega
  have WG:(es.take u.toNat).flatMap AV.cells=(es.flatMap AV.cells).take (u.toNat * s):=by
   have MV:=xx (s:=s) (es:=es.take u.toNat) (fun x hx=>qk x (List.mem_of_mem_take hx))
   rw [eO] at MV
   have e1:es.flatMap AV.cells=(es.take u.toNat).flatMap AV.cells++(es.drop u.toNat).flatMap AV.cells:=by
    rw [←List.flatMap_append,List.take_append_drop]
   have e2:((es.take u.toNat).flatMap AV.cells++(es.drop u.toNat).flatMap AV.cells).take (u.toNat * s)=(es.take u.toNat).flatMap AV.cells:=by
    rw [←MV,List.take_left']
    rfl
   rw [e1,e2]
  refine hK _ _ _ (h1.kW hl vr (.inr ⟨g,u.toNat,cap,cur,el,fz,rfl,hh,q2,q3,by omega,q5,fun o _=>L3 o⟩) ⟨fun g' kb=>by simp [Value.ownBlock] at kb;subst kb;exact L3,.inr ⟨_,rfl,fun x hx=>qk x (List.mem_of_mem_take hx),.inr ⟨g,cap,cur,el,fz,by rw [eO],hh,?_⟩⟩⟩ fun g' kb=>oF g' kb)
  rw [eO,WG]
  have:=hL.take (u.toNat * s)
  rw [List.take_take] at this
  have hm:u.toNat * s≤es.length * s:=ar _ h2
  rwa [Nat.min_eq_left hm] at this
theorem K4 {x y:Operand} {r q:cO} {t u e:TypeId} {i:TypeInfo} {z:Value} {du:TypeDesc} {k k' s:Nat} {es fs:List AV} (h9:k≠999999) (ho:o.op = .call { callee := .builtin .append,args:=#[x,y],argTypes:=#[t,u] })
  (ht:C.P.underlying t=some (.slice e)) (hi:C.P.info? e=some i) (hz:i.zero=some z) (y7:z.cells.size=i.size) (hu:C.P.underlying u=some du) (vt:∀k,du ≠ .int k) (hs:i.size=s)
  (hx:bS x r=true) (fq:small C.nt [x]=true) (hr:r.ev C.E σ = .pt) (hg:r.gh γ = .cB k s) (hk:γ (lk k) = .pv s) (jO:σ (lk k) = .sl s es) (jP:γ (lk k') = .no) (fI:k≠k')
  {news:List Value} (r8:Source C.P w s (a.eval y) fs.length news) (hL:dw D.R w (fs.flatMap AV.cells) news) (qj:∀e∈fs,e.cells.length=s) (zl:es.length+fs.length≤maxLen) (hb:(es.length+fs.length) * i.bytes≤140737488355328)
  (hK:∀D' a' w',cL C D' (bN σ [d,lk k,lk k'] [.pt,.dead,.sl s (es++fs)]) (bN γ [d,lk k,lk k'] [.cB k' s,.used,.pv s]) a' w'→K a' w'):o.wp C.P a w K Q:=by
 subst hs
 have e0:=h.gy hx fq
 have hv:=e0.gh (by rw [hr];simp) (by rw [hr];simp)
 rw [hg] at hv
 obtain ⟨hv,_⟩:=hv
 obtain ⟨hT,hP⟩:=h.qA hk
 rw [jO] at hP
 rw [←hv] at hT hP
 have oJ:eI D γ (lk k)=(a.eval x).ownBlock:=by rw [hv];exact fN (by rw [hk];rfl)
 have oz:∀g,(a.eval x).ownBlock=some g→C.kY g∧∀key,eI D (cF γ (lk k) .used) key≠some g:=fun g kb=>by
  refine ⟨h.own (lk k) g (oJ.trans kb),fun key jb=>?_⟩
  by_cases e:key=lk k
  ·subst e;simp [eI,bE] at jb
  ·have:eI D γ key=some g:=by unfold eI at jb ⊢;rwa [bF _ _ e] at jb
   exact e (h.sK hk (oJ.trans kb) this)
 have h1:=h.Fj h9 hk
 obtain ⟨v,w',cK,os,tape,out,size,hh,_,_,ct,cp,LN⟩:=kK (ty:=o.type) ht hi hz y7 hu vt hT hP h.jT r8 hL qj zl hb
 have bL:fh D.R w D.R w':=fun b o hr=>⟨hr,World.cell?_of_block (w:=w) (hh b (h.jT b o hr) (fun e=>hP.1 b e o hr))⟩
 have hS:=h1.world (w':=w') (R':=D.R) os tape out size (fun b hb C6=>hh b hb (fun e=>by
  obtain ⟨m1,m2⟩:=oz b e
  rcases C6 with ⟨key,hk⟩ | hm
  ·exact m2 key hk
  ·exact hm m1)) bL (fun b o hr => .inl hr) (fun b o hr=>Nat.lt_of_lt_of_le (h.jT b o hr) size)
 unfold Oper.wp
 rw [show (execOp a.eval o).run C.P w = .ok (.value v) w' by simp [execOp,ho,resolve,invoke,builtin,cK],Oper.upon_value,hd]
 have vr:cF γ (lk k) .used (lk k') = .no:=by rw [bF _ _ (fun e=>fI (fO e).symm)];exact jP
 have hF:=hS.kW hl vr ct cp (fun g hg=>by
  rcases LN g hg with e | e
  ·exact oz g e
  ·exact ⟨.inr (Nat.le_trans h.ext.size e),fun key hk=>by have:=h1.lt hk;omega⟩)
 have hc:lk k'≠lk k:=fun e=>fI (fO e).symm
 have Dr:bN σ [d,lk k,lk k'] [.pt,.dead,.sl i.size (es++fs)]=bN (cF σ (lk k) .dead) [d,lk k'] [.pt,.sl i.size (es++fs)]:=by
  simp only [bN];rw [gq σ _ _ hc]
 have zG:bN γ [d,lk k,lk k'] [.cB k' i.size,.used,.pv i.size]=bN (cF γ (lk k) .used) [d,lk k'] [.cB k' i.size,.pv i.size]:=by
  simp only [bN];rw [gq γ _ _ hc]
 rw [Dr,zG] at hK
 exact hK _ _ _ hF
theorem EX {f k:Nat} {args:Array Operand} {ts:Array TypeId} {rs:List cO} {es:List AV} (ho:o.op = .call { callee := .value (.func f),args,argTypes:=ts }) (hp:fA C.P f=true)
  {S:FS} (hS:dH C.P C.E.gl f S) (JR:S.sg={ own:=[(0,1)] }) (hx:bV args.toList rs=true) (c8:small C.nt args.toList=true) (hG:S.G (rs.map (cO.ev C.E σ)) [.sl 1 es]) (hv:∀e∈es,∃x,e = .v x) (jP:γ (lk k) = .no)
  (hK:∀D' a' w',cL C D' (bN σ [d,lk k] [.pt,.sl 1 es]) (bN γ [d,lk k] [.cB k 1,.pv 1]) a' w'→K a' w'):o.wp C.P a w K Q:=by
 have hT:=h.qE hx c8
 unfold Oper.wp
 rw [kH ho hp,Oper.upon_enter]
 have:=hS.1 (by rw [JR]) w D.R _ _ (args.toList.map a.eval) hG h.jT h.gl (by rw [JR];exact hT)
 have e:(⟨args.toList.map a.eval⟩:Array Value)=args.map a.eval:=by apply Array.ext';simp
 rw [e] at this
 refine this.mono ?_
 rintro e w' ⟨x,R',rfl,h1,h2,h3⟩
 simp only
 rw [hd]
 rw [JR] at h1 h3
 obtain ⟨rvs,tr,fZ,tn,bn,br,cn,cr,q1,q2,q3,q4,q5,q6,q7,q8,q9,VA,Q9,Vz,Q8,Vy,Q7⟩:=h3
 obtain ⟨x',rfl⟩:=ka (l:=rvs) q1
 have R4:x=x':=by rw [q2];rfl
 subst R4
 obtain ⟨v,rfl⟩:=ka (l:=fZ) (by simpa using q8)
 have R8:v=x:=by have:=Q9 0 (0,1) v rfl rfl;simpa using this.symm
 subst R8
 have O9:tn=[]:=aR (by simpa using q9)
 have O8:tr=[]:=aR (by simpa using q7)
 subst O9;subst O8
 have ic:Rep R' w' (.sl 1 es) v:=by
  have:=q4
  simp only [List.take_succ_cons,List.take_zero,List.mapIdx_cons,List.mapIdx_nil] at this
  cases this with
  | cons h0 _=>simpa using h0
 have C4:=Q8 0 (0,1) v rfl rfl
 have vf:∀b,¬ny { own:=[(0,1)] } w (args.toList.map a.eval) b:=fun b hb=>hb
 have IJ:∀g,v.ownBlock=some g→w.heap.size≤g:=fun g hg=>by
  rcases Q7 g (by simp [j9,hg]) with e | e
  ·exact (vf g e).elim
  ·exact e
 have WC:=h.grow (w':=w') (R':=D.R) h1.os h1.tape h1.output h1.size (fun b hb=>h1.heap b hb (vf b)) (fun _ _ h=>h) (fun _ _ h => .inl h) (fun b o hr=>Nat.lt_of_lt_of_le (h.jT b o hr) h1.size)
 obtain ⟨t1,t2⟩:=BO (R:=D.R) hv ic C4 fun g hg o hr=>by have:=IJ g hg;have:=h.jT _ _ hr;omega
 exact hK _ _ _ (WC.kW hl jP t1 t2 fun g hg=>⟨.inr (Nat.le_trans h.ext.size (IJ g hg)),fun key hk=>by have:=h.lt hk;have:=IJ g hg;omega⟩)
theorem EW {f n i k s:Nat} {args:Array Operand} {ts:Array TypeId} {rs:List cO} {es outs:List AV} (Dd:i<1000) (ho:o.op = .call { callee := .value (.func f),args,argTypes:=ts }) (hp:fA C.P f=true) (h9:k≠999999)
  {S:FS} (hS:dH C.P C.E.gl f S) (iZ:S.sg.ps=some (1000+i,s)) (hn:S.sg.bO=n) (gR:S.sg.new=none) (gQ:S.sg.ref=none) (hx:bV args.toList rs=true) (c8:small C.nt args.toList=true)
  (tJ:(rs.map (cO.ev C.E σ))[i]?=some .pt) (De:(rs.map (cO.gh γ))[i]?=some (.cB k s)) (hk:γ (lk k) = .pv s) (jO:σ (lk k) = .sl s es)
  (hG:S.G ((rs.map (cO.ev C.E σ)).set i (.sl s es)) outs) (rp:outs.length=n)
  (hK:∀D' a' w',cL C D' (bN σ [d,lk k] [if n=1 then outs.headD .dead else .tu outs,.dead]) (bN γ [d,lk k] [.no,.used]) a' w'→K a' w'):o.wp C.P a w K Q:=by
 obtain ⟨ht,vq⟩:=h.qA hk
 obtain ⟨v,hv1,_,hv2⟩:=uy h hx c8 tJ (by simp) (by simp)
 have hv3:=(hv2 _ De).1
 subst hv3
 have hT:=h.qE hx c8
 have xl:=(aE.1 tJ).1
 have qL:((rs.map (cO.ev C.E σ)).set i (.sl s es)).set i .pt=rs.map (cO.ev C.E σ):=by rw [List.set_set,nh tJ]
 unfold Oper.wp
 rw [kH ho hp,Oper.upon_enter]
 have hC:=((hS.2 _ s iZ).2 (by omega)).1 (by omega)
 rw [show 1000+i - 1000=i by omega] at hC
 have:=hC w D.R _ outs (args.toList.map a.eval) _ es hG h.jT h.gl hv1 (List.getElem?_set_self xl) ht (jO ▸ vq) (by rw [qL];exact hT)
 have e:(⟨args.toList.map a.eval⟩:Array Value)=args.map a.eval:=by apply Array.ext';simp
 rw [e] at this
 refine this.mono ?_
 rintro e w' ⟨x,R',rfl,h1,h2,h3⟩
 simp only
 rw [hd]
 obtain ⟨rvs,tr,fZ,tn,bn,br,cn,cr,q1,q2,q3,q4,_⟩:=h3
 have e1:(outs.take S.sg.bO).mapIdx (fun i y=>if S.sg.new=some i then AV.pt else y)=outs:=by
  rw [gR,List.take_of_length_le (by omega)]
  apply List.ext_getElem?
  intro j
  simp
 rw [e1] at q4
 exact hK _ _ _ (cL.rP (h.given h9 hk h1 h2) hl (q1.trans hn) (by rw [←hn];exact q2) q4 rp)
theorem ER {k s:Nat} (ho:o.op = .move (.const (.slice none 0 0))∨o.op = .assign (.const (.slice none 0 0))) (hk:γ (lk k) = .no)
  (hK:∀D' a' w',cL C D' (bN σ [d,lk k] [.pt,.sl s []]) (bN γ [d,lk k] [.cB k s,.pv s]) a' w'→K a' w'):o.wp C.P a w K Q:=by
 have hr:(execOp a.eval o).run C.P w = .ok (.value (.slice none 0 0)) w:=by rcases ho with e | e <;> simp [execOp,e,Act.eval]
 unfold Oper.wp
 rw [hr,Oper.upon_value,hd]
 exact hK _ _ _ (h.kW hl hk (.inl rfl) ⟨by simp [Value.ownBlock],.inr ⟨[],rfl,by simp,.inl ⟨rfl,rfl⟩⟩⟩ (by simp [Value.ownBlock]))
theorem ET {f i k s:Nat} {args:Array Operand} {ts:Array TypeId} {rs:List cO} {es fs:List AV} (ho:o.op = .call { callee := .value (.func f),args,argTypes:=ts }) (hp:fA C.P f=true)
  {S:FS} (hS:dH C.P C.E.gl f S) (iZ:S.sg.ps=some (2000+i,s)) (hx:bV args.toList rs=true) (c8:small C.nt args.toList=true)
  (tJ:(rs.map (cO.ev C.E σ))[i]?=some .pt) (De:(rs.map (cO.gh γ))[i]?=some (.cB k s)) (hk:γ (lk k) = .pv s) (jO:σ (lk k) = .sl s es) (fI:es≠[])
  (hG:S.G ((rs.map (cO.ev C.E σ)).set i (.sl s es)) [.sl s fs])
  (hK:∀D' a' w',cL C D' (bN σ [d,lk k] [.tu [],.sl s fs]) (bN γ [d,lk k] [.no,.pv s]) a' w'→K a' w'):o.wp C.P a w K Q:=by
 obtain ⟨ht,vq⟩:=h.qA hk
 obtain ⟨v,hv1,_,hv2⟩:=uy h hx c8 tJ (by simp) (by simp)
 have hv3:=(hv2 _ De).1
 subst hv3
 have hT:=h.qE hx c8
 have xl:=(aE.1 tJ).1
 have qL:((rs.map (cO.ev C.E σ)).set i (.sl s es)).set i .pt=rs.map (cO.ev C.E σ):=by rw [List.set_set,nh tJ]
 unfold Oper.wp
 rw [kH ho hp,Oper.upon_enter]
 have hC:=((hS.2 _ s iZ).2 (by omega)).2 (by omega)
 rw [show 2000+i - 2000=i by omega] at hC
 have FO:∃g,(D.τ (lk k)).ownBlock=some g:=by
  have qN:=vq.2
  rw [jO] at qN
  rcases qN with e | ⟨Ke,e,_,h8⟩
  ·cases e
  ·cases e
   rcases h8 with ⟨e1,_⟩ | ⟨g8,Tr,Tq,Xi,Xe,e8,_,_⟩
   ·exact (fI e1).elim
   ·exact ⟨g8,by rw [e8];rfl⟩
 obtain ⟨g,hg⟩:=FO
 have:=hC w D.R _ fs (args.toList.map a.eval) _ es hG h.jT h.gl hv1 (List.getElem?_set_self xl) fI ht (jO ▸ vq) (by rw [qL];exact hT)
 have e:(⟨args.toList.map a.eval⟩:Array Value)=args.map a.eval:=by apply Array.ext';simp
 rw [e] at this
 refine this.mono ?_
 rintro e w' ⟨rfl,q1,q2,q3,q4,q5,q6,q7⟩
 simp only
 rw [hd]
 have WZ:=h.Jh hk hg q1 q2 q3 q4 (fun b hb=>q5 b (fun e=>hb (by rw [hg] at e;exact (Option.some.inj e).symm))) q6 q7
 have hR:=cL.rP (d:=d) WZ hl (n:=0) (rvs:=[]) (outs:=[]) (x := .tuple ⟨[]⟩) rfl rfl .nil rfl
 have e1:bN σ [d,lk k] [.tu [],.sl s fs]=cF (cF σ (lk k) (.sl s fs)) d (.tu []):=rfl
 have e0:cF γ (lk k) (.pv s)=γ:=by
  funext j
  by_cases e:j=lk k
  ·subst e;rw [bE,hk]
  ·rw [bF _ _ e]
 have e2:bN γ [d,lk k] [.no,.pv s]=cF γ d .no:=by
  show cF (cF γ (lk k) (.pv s)) d .no=_
  rw [e0]
 rw [e1,e2] at hK
 exact hK _ _ _ hR
theorem EU {f i k k':Nat} {args:Array Operand} {ts:Array TypeId} {rs:List cO} {es fs:List AV} (Dd:i<1000) (ho:o.op = .call { callee := .value (.func f),args,argTypes:=ts }) (hp:fA C.P f=true) (h9:k≠999999)
  {S:FS} (hS:dH C.P C.E.gl f S) (JR:S.sg={ ps:=some (1000+i,1),own:=[(0,1)] }) (hx:bV args.toList rs=true) (c8:small C.nt args.toList=true)
  (tJ:(rs.map (cO.ev C.E σ))[i]?=some .pt) (De:(rs.map (cO.gh γ))[i]?=some (.cB k 1)) (hk:γ (lk k) = .pv 1) (jO:σ (lk k) = .sl 1 es) (jP:γ (lk k') = .no) (fI:k≠k')
  (hG:S.G ((rs.map (cO.ev C.E σ)).set i (.sl 1 es)) [.sl 1 fs]) (hv:∀e∈fs,∃x,e = .v x)
  (hK:∀D' a' w',cL C D' (bN σ [d,lk k,lk k'] [.pt,.dead,.sl 1 fs]) (bN γ [d,lk k,lk k'] [.cB k' 1,.used,.pv 1]) a' w'→K a' w'):o.wp C.P a w K Q:=by
 obtain ⟨ht,vq⟩:=h.qA hk
 obtain ⟨v0,hv1,_,hv2⟩:=uy h hx c8 tJ (by simp) (by simp)
 have hv3:=(hv2 _ De).1
 subst hv3
 have hT:=h.qE hx c8
 have xl:=(aE.1 tJ).1
 have qL:((rs.map (cO.ev C.E σ)).set i (.sl 1 es)).set i .pt=rs.map (cO.ev C.E σ):=by rw [List.set_set,nh tJ]
 have oJ:eI D γ (lk k)=(D.τ (lk k)).ownBlock:=fN (by rw [hk];rfl)
 unfold Oper.wp
 rw [kH ho hp,Oper.upon_enter]
 have hC:=((hS.2 _ 1 (by rw [JR])).2 (by omega)).1 (by omega)
 rw [show 1000+i - 1000=i by omega] at hC
 have:=hC w D.R _ _ (args.toList.map a.eval) _ es hG h.jT h.gl hv1 (List.getElem?_set_self xl) ht (jO ▸ vq) (by rw [qL];exact hT)
 have e:(⟨args.toList.map a.eval⟩:Array Value)=args.map a.eval:=by apply Array.ext';simp
 rw [e] at this
 refine this.mono ?_
 rintro e w' ⟨x,R',rfl,h1,h2,h3⟩
 simp only
 rw [hd]
 rw [JR] at h3
 obtain ⟨rvs,tr,fZ,tn,bn,br,cn,cr,q1,q2,q3,q4,q5,q6,q7,q8,q9,VA,Q9,Vz,Q8,Vy,Q7⟩:=h3
 obtain ⟨x',rfl⟩:=ka (l:=rvs) q1
 have R4:x=x':=by rw [q2];rfl
 subst R4
 obtain ⟨v,rfl⟩:=ka (l:=fZ) (by simpa using q8)
 have R8:v=x:=by have:=Q9 0 (0,1) v rfl rfl;simpa using this.symm
 subst R8
 have O9:tn=[]:=aR (by simpa using q9)
 have O8:tr=[]:=aR (by simpa using q7)
 subst O9;subst O8
 have ic:Rep R' w' (.sl 1 fs) v:=by
  have:=q4
  simp only [List.take_succ_cons,List.take_zero,List.mapIdx_cons,List.mapIdx_nil] at this
  cases this with
  | cons h0 _=>simpa using h0
 have C4:=Q8 0 (0,1) v rfl rfl
 have IJ:∀g,v.ownBlock=some g→(D.τ (lk k)).ownBlock=some g∨w.heap.size≤g:=fun g hg=>Q7 g (by simp [j9,hg])
 obtain ⟨t1,t2⟩:=BO (R:=D.R) hv ic C4 fun g hg o hr=>by
  rcases IJ g hg with e | e
  ·exact vq.1 g e o hr
  ·have:=h.jT _ _ hr;omega
 have S4:=h.given h9 hk h1.shrink (fun b o hr=>Nat.lt_of_lt_of_le (h.jT b o hr) h1.size)
 have vr:cF γ (lk k) .used (lk k') = .no:=by rw [bF _ _ (fun e=>fI (fO e).symm)];exact jP
 have hc:lk k'≠lk k:=fun e=>fI (fO e).symm
 have Dr:bN σ [d,lk k,lk k'] [.pt,.dead,.sl 1 fs]=bN (cF σ (lk k) .dead) [d,lk k'] [.pt,.sl 1 fs]:=by
  simp only [bN];rw [gq σ _ _ hc]
 have zG:bN γ [d,lk k,lk k'] [.cB k' 1,.used,.pv 1]=bN (cF γ (lk k) .used) [d,lk k'] [.cB k' 1,.pv 1]:=by
  simp only [bN];rw [gq γ _ _ hc]
 rw [Dr,zG] at hK
 refine hK _ _ _ (S4.kW hl vr t1 t2 fun g hg=>?_)
 rcases IJ g hg with e | e
 ·refine ⟨h.own _ _ (oJ.trans e),fun key jb=>?_⟩
  by_cases e':key=lk k
  ·subst e';simp [eI,bE] at jb
  ·have:eI D γ key=some g:=by unfold eI at jb ⊢;rwa [bF _ _ e'] at jb
   exact e' (h.sK hk (oJ.trans e) this)
 ·refine ⟨.inr (Nat.le_trans h.ext.size e),fun key jb=>?_⟩
  have:eI D γ key=some g:=by
   by_cases e':key=lk k
   ·subst e';simp [eI,bE] at jb
   ·unfold eI at jb ⊢;rwa [bF _ _ e'] at jb
  have:=h.lt this
  omega
theorem EY {f n:Nat} {c:Operand} {rc:cO} {args:Array Operand} {ts:Array TypeId} {rs:List cO} {outs:List AV} (ho:o.op = .call { callee := .value c,args,argTypes:=ts }) (hp:fA C.P f=true) (WL:bS c rc=true) (xn:small C.nt [c]=true) (Uc:rc.ev C.E σ = .v (.func (.func f) #[] #[]))
  {S:FS} (hS:dH C.P C.E.gl f S) (IF:S.sg.plain=true) (hn:S.sg.bO=n) (hx:bV args.toList rs=true) (c8:small C.nt args.toList=true) (hG:S.G (rs.map (cO.ev C.E σ)) outs) (rp:outs.length=n)
  (hK:∀D' a' w',cL C D' (cF σ d (if n=1 then outs.headD .dead else .tu outs)) (cF γ d .no) a' w'→K a' w'):o.wp C.P a w K Q:=by
 obtain ⟨p1,p2,p3,p4,p5,p6⟩:=c7.uw IF
 have ec:=(h.gy WL xn).rep (by rw [Uc];simp)
 rw [Uc] at ec
 have hT:=h.qE hx c8
 have cK:(execOp a.eval o).run C.P w = .ok (.enter f (args.map a.eval)) w:=by
  unfold fA at hp
  cases hf:C.P.funcs[f]? with
  | none=>simp [hf] at hp
  | some fn =>
   simp only [hf,Option.any_some,aa,Bool.not_eq_true',beq_eq_false_iff_ne,ne_eq] at hp
   obtain ⟨h1,h2⟩:=hp
   have UA:fn.body.isNone=false:=by cases hb:fn.body <;> simp [hb] at h1 ⊢
   simp [execOp,ho,resolve,Deferred.ofValue,ec.fw,invoke,callFunc,hf]
   rw [aD h2,aD (by intro e;rw [e] at h1;cases h1)]
 unfold Oper.wp
 rw [cK,Oper.upon_enter]
 have:=hS.1 p6 w D.R _ outs (args.toList.map a.eval) hG h.jT h.gl (by unfold km;rw [p1];exact hT)
 have e:(⟨args.toList.map a.eval⟩:Array Value)=args.map a.eval:=by apply Array.ext';simp
 rw [e] at this
 refine this.mono ?_
 rintro e w' ⟨x,R',rfl,h1,h2,h3⟩
 simp only
 rw [hd]
 obtain ⟨rvs,tr,fZ,tn,bn,br,cn,cr,q1,q2,q3,q4,_⟩:=h3
 have vf:(ny S.sg w (args.toList.map a.eval))=fun _=>False:=by funext b;unfold ny;rw [p1]
 rw [vf] at h1
 have e1:(outs.take S.sg.bO).mapIdx (fun i y=>if S.sg.new=some i then AV.pt else y)=outs:=by
  rw [p4,List.take_of_length_le (by omega)]
  apply List.ext_getElem?
  intro j
  simp
 rw [e1] at q4
 exact hK _ _ _ (cL.rP (h.uU h1 h2) hl (q1.trans hn) (by rw [←hn];exact q2) q4 rp)
end
end Go.Eng
namespace Go.Eng
open Go.RowKit
section
variable {C:Ctx} {D:j0} {σ:Sg} {γ:Ga} {a:Act} {w:World}
variable {o:Oper} {d:Nat} {K:Act→World→Prop} {Q:Exit→Act→World→Prop} (h:cL C D σ γ a w)
include h
theorem NC {x v:Operand} {r q:cO} {t:TypeId} {inf:TypeInfo} {m i s o':Nat} {cs:List AV} (hd:o.dst=none) (ho:o.op = .store t x v) (hi:C.P.info? t=some inf) (hz:inf.size=1)
  (hx:bS x r=true) (fq:small C.nt [x]=true) (hv:bS v q=true) (lj:small C.nt [v]=true) (hr:r.ev C.E σ = .el i s o') (hg:r.gh γ = .pm m) (hm:γ m = .cl []) (jO:σ m = .ag cs)
  (hp:(q.ev C.E σ).plain=true) (hn:(q.ev C.E σ).cells.length=1) (nQ:i * s+o'+1≤cs.length)
  (hK:∀D' a' w',cL C D' (cF σ m (.ag (eH cs (i * s+o') (q.ev C.E σ).cells))) (cF γ m (.cl [])) a' w'→K a' w'):o.wp C.P a w K Q:=by
 have JV:q.ev C.E σ ≠ .dead:=by intro e;rw [e] at hp;cases hp
 have e0:=h.gy hx fq
 have e1:=e0.rep (by rw [hr];simp)
 have Pf:=e0.gh (by rw [hr];simp) (by rw [hr];simp)
 rw [hr] at e1
 rw [hg] at Pf
 obtain ⟨b,hb⟩:=Rep.xC e1
 obtain ⟨p,Ai⟩:=Pf
 rw [hb] at Ai
 cases Ai
 have Hx:a.eval x = .pointer (some ⟨D.β m,i * s+o',none⟩):=hb
 generalize i * s+o'=oo at *
 have q0:=h.gy hv lj
 have hL:=lg (q0.rep JV) hp
 generalize (q.ev C.E σ).cells=qs at *
 obtain ⟨vs,tj,nM⟩:=h.mem m [] hm
 rw [jO] at tj
 have nP:=tj.CR
 obtain ⟨elem,hh,IP⟩:=tj.ag
 have ja:cs.length≤vs.length:=by have:=IP.length;simp at this;omega
 have hlen:=hL.length
 have Wr:=IP.length
 have SV:(a.eval v).cells.size=1:=by simp at hlen;omega
 have vo:=run_storeCells_at (P:=C.P) (D.β m) oo elem (a.eval v).cells.toList 0 ⟨vs⟩ w hh (by simp;omega) hL.one
 simp only [Nat.add_zero] at vo
 let new:List Value:=vs.take oo++(a.eval v).cells.toList++vs.drop (oo+(a.eval v).cells.toList.length)
 have cK:(execOp a.eval o).run C.P w = .ok .skip (w.setRow (D.β m) ⟨new⟩):=by
  have:¬((a.eval v).cells.size≠1):=by omega
  simp only [execOp,ho,Hx,Instr.storeAt,Instr.sureAddr,Sem.run_bind,Sem.run_pure,Result.andThen_ok,storeVar,run_sizeOf hi,hz,Sem.run_ite,this,if_false,vo]
  rfl
 have Ch:=setRow_heap w (D.β m) ⟨vs⟩ ⟨new⟩ elem (0,0) hh
 have bL:fh D.R w D.R (w.setRow (D.β m) ⟨new⟩):=fun b o hr=>⟨hr,cell_setRow_other w (D.β m) _ ⟨b,o,none⟩ (fun e=>nP o (by have:b=D.β m:=e;rw [←this];exact hr))⟩
 have S9:dw D.R (w.setRow (D.β m) ⟨new⟩) (eH cs oo qs) (new.take (eH cs oo qs).length):=by
  have hle:(a.eval v).cells.toList.length=qs.length:=hlen.symm
  have Pd:(eH cs oo qs).length=cs.length:=by simp [eH];omega
  have FP:new.take cs.length=(vs.take cs.length).take oo++(a.eval v).cells.toList++(vs.take cs.length).drop (oo+(a.eval v).cells.toList.length):=by
   apply List.ext_getElem?
   intro j
   simp only [new,aM,List.getElem?_append,aq,aK,List.getElem?_drop,hle,hn]
   have e1:min oo vs.length=oo:=by omega
   have e2:min oo (min cs.length vs.length)=oo:=by omega
   simp only [e1,e2]
   by_cases c1:j<cs.length
   ·by_cases c2:j<oo
    ·simp [c1,c2,show j<oo+1 by omega]
    ·by_cases c3:j<oo+1
     ·simp [c1,c2,c3]
     ·simp [c1,c2,c3,show oo+1+(j - (oo+1))<cs.length by omega]
   ·have c2:¬j<oo:=by omega
    have c3:¬j<oo+1:=by omega
    simp [c1,c3,show ¬oo+1+(j - (oo+1))<cs.length by omega]
  rw [Pd,FP]
  simp only [eH,hle]
  exact (((IP.take oo).append hL).append (IP.drop (oo+qs.length))).mono bL
 have hS:=h.store (us:=[]) hm (w':=w.setRow (D.β m) ⟨new⟩) rfl rfl rfl (by simp) (fun b hb=>setRow_other w (D.β m) b _ hb)
  ⟨elem,Ch,.inr ⟨_,rfl,S9⟩,nP⟩ (fun t ht=>by cases ht)
 unfold Oper.wp
 rw [cK,Oper.upon_skip,hd]
 exact hK _ _ _ (by simpa [Act.put] using hS)
end
section
variable {C:Ctx} {sg:Nat→c7}
theorem OD {d' s b:Nat} {z:AV}:cC C sg (.yO d' s b z):=by
 intro D σ γ a w dst op ty pos after guard rs ds gd ws gs K' Q h ho hk c8 hs hg hK
 simp only [cj,aa] at hk
 obtain ⟨⟨jW,eE⟩,gH⟩:=hk
 obtain ⟨d,rfl,hl,rfl⟩:=ez gH
 simp only [dX] at ho
 split at ho
 ·rename_i t l c r q r3
  simp only [aa] at ho
  obtain ⟨⟨ht,ho⟩,hz⟩:=ho
  obtain ⟨e,i,zv,q1,q2,q3,q4,q5,q6,q7⟩:=jG ht
  obtain ⟨r',q',sX,hx,hy⟩:=iz ho
  simp only [aj,and_true] at sX
  obtain ⟨rfl,rfl⟩:=sX
  simp only [List.drop_succ_cons,aS,ah,ao,beq_iff_eq,aj,and_true] at eE
  have hq:=pR eE
  subst hq
  have he:jy C.P t=some e:=by unfold jy;rw [q1];rfl
  rw [he] at hz
  simp only [Option.any_some,aa] at hz
  obtain ⟨i',Vp,z1,z2,z3⟩:=lQ hz.1
  rw [q2] at z1
  cases z1
  rw [q5] at z2
  cases z2
  simp only [ah,ao,eh] at hs
  split at hs
  ·rename_i ll cc v1 heq
   simp only [aj,and_true] at heq
   obtain ⟨p1,p2,p3,p4,p5,p6,rfl⟩:=hs
   simp only [ah,ao,dt] at hg
   split at hg
   ·rename_i g1 g2 dp
    simp only [aj,and_true,cO.gh] at dp
    cases hg
    exact Ld h rfl hl rfl q1 q2 q3 q5 q6 q7 z3 hx hy (bH c8 (by simp [Op.operands])) (bH c8 (by simp [Op.operands])) heq.1 heq.2.1 p2 p3 p4 (by rw [q4];exact p5) p6 dp.2.2 hK
   ·cases hg
  ·cases hs
 ·cases ho
theorem OJ {s n k:Nat}:cC C sg (.DB s n k):=by
 intro D σ γ a w dst op ty pos after guard rs ds gd ws gs K' Q h ho hk c8 hs hg hK
 simp only [cj,aa] at hk
 obtain ⟨⟨jW,eE⟩,gH⟩:=hk
 obtain ⟨d,rfl,hl,rfl⟩:=ez gH
 simp only [dX] at ho
 split at ho
 ·rename_i t len parts
  simp only [aa,beq_iff_eq,ay] at ho
  obtain ⟨⟨⟨⟨⟨h1,rfl⟩,h3⟩,h4⟩,h5⟩,h6⟩:=ho
  simp only [eh] at hs
  obtain ⟨p1,p2,rfl⟩:=hs
  simp only [dt] at hg
  split at hg
  ·rename_i jP
   cases hg
   rw [←List.map_drop] at jP
   have F2:(rs.drop len).length=1:=by simp;omega
   obtain ⟨q,hq⟩:=ka F2
   rw [hq] at jP eE
   simp only [ah,ao,aj,and_true] at jP
   simp only [ah,ao,beq_iff_eq,aj,and_true] at eE
   have Ai:=pR eE
   subst Ai
   rw [←List.map_take] at p2
   simp only [←List.map_take] at hK
   exact Lh h rfl hl rfl h1 h3 h4 h5 (gb c8 (by simp [Op.operands])) p2 jP hK
  ·cases hg
 ·cases ho
theorem On {k k' s:Nat}:cC C sg (.H0 k k' s):=by
 intro D σ γ a w dst op ty pos after guard rs ds gd ws gs K' Q h ho hk c8 hs hg hK
 simp only [cj,aa] at hk
 obtain ⟨⟨h9,jW,eE⟩,gH⟩:=hk
 simp only [ay] at h9
 obtain ⟨d,rfl,hl,rfl⟩:=ez gH
 simp only [dX] at ho
 split at ho
 ·rename_i t x u r q r3 r4
  simp only [aa] at ho
  obtain ⟨ht,ho⟩:=ho
  obtain ⟨e,i,q1,q2,q3,q4⟩:=kp ht
  obtain ⟨r',q',sX,hx,hy⟩:=iz ho
  simp only [aj,and_true] at sX
  obtain ⟨rfl,rfl⟩:=sX
  simp only [beq_iff_eq,ah,ao] at eE
  have sW:=tZ (rs:=[r,q,r3,r4]) (n:=2) eE
  simp only [List.drop_succ_cons,aS,aj,and_true] at sW
  obtain ⟨rfl,rfl⟩:=sW
  simp only [ah,ao,eh] at hs
  split at hs
  ·rename_i ik iv s' es z heq
   simp only [aj,and_true,cO.ev] at heq
   obtain ⟨rfl,p1,p2,rfl⟩:=hs
   simp only [ah,ao,dt] at hg
   split at hg
   ·rename_i a1 a2 a3 a4 dp
    simp only [aj,and_true,cO.gh] at dp
    split at hg
    ·rename_i hc
     obtain ⟨rfl,rfl,rfl,fI⟩:=hc
     cases hg
     exact K3 h rfl hl rfl q1 q2 q3 h9 hx (bH c8 (by simp [Op.operands])) hy (bH c8 (by simp [Op.operands])) heq.1 dp.1 dp.2.2.1 heq.2.2.1 dp.2.2.2 fI heq.2.1 p1 p2 hK
    ·cases hg
   ·cases hg
  ·cases hs
 ·cases ho
theorem Oo {k d' s b:Nat}:cC C sg (.BP k d' s b):=by
 intro D σ γ a w dst op ty pos after guard rs ds gd ws gs K' Q h ho hk c8 hs hg hK
 simp only [cj,aa,beq_iff_eq,ah,ao] at hk
 obtain ⟨⟨h9,jW,eE⟩,gH⟩:=hk
 simp only [ay] at h9
 obtain ⟨d,rfl,hl,rfl⟩:=ez gH
 simp only [dX] at ho
 split at ho
 ·rename_i args pf r q r3 r4
  simp only [aa,beq_iff_eq] at ho
  obtain ⟨⟨ho,h1⟩,h2⟩:=ho
  obtain ⟨t,u,e,i,z,du,rfl,q1,q2,q3,q4,q5,q6,q7,q8⟩:=pF h1 h2
  have ht:=tZ eE
  simp only [List.drop_succ_cons,aS,aj,and_true] at ht
  obtain ⟨rfl,rfl⟩:=ht
  obtain ⟨x,y,kO⟩:=uL (l:=args.toList) (by rw [fi ho];rfl)
  rw [kO] at ho
  obtain ⟨r',q',sX,hx,hy⟩:=iz ho
  simp only [aj,and_true] at sX
  obtain ⟨rfl,rfl⟩:=sX
  have ea:=ri kO
  subst ea
  simp only [ah,ao,eh] at hs
  split at hs
  ·rename_i lY fs s' es v2 heq
   simp only [aj,and_true,cO.ev] at heq
   obtain ⟨e1,e2,e3,_⟩:=heq
   obtain ⟨rfl,rfl,p1,p2,p3,rfl⟩:=hs
   simp only [ah,ao,dt] at hg
   split at hg
   ·rename_i k1 s1 g s2 dp
    simp only [aj,and_true,cO.gh] at dp
    obtain ⟨g1,g2,g3,g4⟩:=dp
    split at hg
    ·rename_i hc
     obtain ⟨rfl,rfl,rfl,fI⟩:=hc
     cases hg
     have e2:q.ev C.E σ=_:=e2
     have ic:=(h.gy hy (bH c8 (by simp [Op.operands,Call.operands]))).rep (by rw [e2];simp)
     rw [e2] at ic
     obtain ⟨news,n1,n2,n3⟩:=Source.yI (P:=C.P) ic
     exact K4 (q:=q) h rfl hl h9 rfl q1 q2 q5 q6 q7 q8 q3 hx (bH c8 (by simp [Op.operands,Call.operands])) e1 g1 g3 e3 g4 fI n1 n2 p1 p2 (by rw [q4];exact p3) hK
    ·cases hg
   ·cases hg
  ·cases hs
 ·cases ho
theorem Rt {m s:Nat}:cC C sg (.ls m s):=by
 intro D σ γ a w dst op ty pos after guard rs ds gd ws gs K' Q h ho hk c8 hs hg hK
 simp only [cj,aa,ay,beq_iff_eq,Option.isNone_iff_eq_none] at hk
 obtain ⟨⟨⟨⟨ve,xk⟩,rfl⟩,rfl⟩,eE⟩:=hk
 simp only [dX] at ho
 split at ho
 ·rename_i t x v p q r
  simp only [aa,beq_iff_eq] at ho
  obtain ⟨⟨ht,hx⟩,hv⟩:=ho
  obtain ⟨inf,h1,h2⟩:=fV ht
  cases q with
  | s j =>
   simp at eE
   subst eE
   simp only [ah,ao,eh] at hs
   split at hs
   ·rename_i i' s' o' cs y heq
    simp only [aj,and_true,cO.ev] at heq
    obtain ⟨e1,e2,rfl⟩:=heq
    obtain ⟨rfl,p1,p2,p3,rfl⟩:=hs
    simp only [ah,ao,dt] at hg
    split at hg
    ·rename_i m' ts z dp
     simp only [aj,and_true,cO.gh] at dp
     obtain ⟨f1,f2,f3⟩:=dp
     split at hg
     ·rename_i hc
      obtain ⟨rfl,rfl⟩:=hc
      cases hg
      exact NC h rfl rfl h1 h2 hx (bH c8 (by simp [Op.operands])) hv (bH c8 (by simp [Op.operands])) e1 f1 f2 e2 p1 p2 p3 hK
     ·cases hg
    ·cases hg
   ·cases hs
  | c=>simp at eE
  | g=>simp at eE
 ·cases ho
theorem Iv (hE:∀f,dH C.P C.E.gl f (C.E.fs f)∧(C.E.fs f).sg=sg f) {f n k:Nat}:cC C sg (.nK f n k):=by
 intro D σ γ a w dst op ty pos after guard rs ds gd ws gs K' Q h ho hk c8 hs hg hK
 simp only [cj,aa] at hk
 obtain ⟨⟨jW,eE⟩,gH⟩:=hk
 obtain ⟨d,rfl,hl,rfl⟩:=ez gH
 simp only [dX] at ho
 split at ho
 ·rename_i g args pf
  simp only [aa,beq_iff_eq,ay] at ho
  obtain ⟨⟨⟨⟨rfl,xU⟩,iZ⟩,hx⟩,kZ⟩:=ho
  rw [←(hE f).2] at iZ
  have nN:small C.nt args.toList=true:=gb c8 (fun x hx=>by
   have:x∈args:=by simpa using hx
   simp only [Op.operands,Call.operands,Array.toList_append,List.mem_append]
   exact .inr hx)
  simp only [eh] at hs
  obtain ⟨es,hG,hv,rfl⟩:=hs
  simp only [dt] at hg
  split at hg
  ·rename_i jP
   cases hg
   rw [←List.map_drop] at jP
   have sW:(rs.take n).length=n:=by rw [←fi hx];simpa using kZ
   have F2:(rs.drop n).length=1:=by have:=congrArg List.length jP;simpa using this
   obtain ⟨q,hq⟩:=ka F2
   rw [hq] at jP eE
   simp only [ah,ao,aj,and_true] at jP
   simp only [ah,ao,beq_iff_eq,aj,and_true] at eE
   have Ai:=pR eE
   subst Ai
   rw [←List.map_take] at hG
   exact EX h rfl hl rfl xU (hE f).1 iZ hx nN hG hv jP hK
  ·cases hg
 ·cases ho
theorem Iu (hE:∀f,dH C.P C.E.gl f (C.E.fs f)∧(C.E.fs f).sg=sg f) {f n bO i k s:Nat}:cC C sg (.oO f n bO i k s):=by
 intro D σ γ a w dst op ty pos after guard rs ds gd ws gs K' Q h ho hk c8 hs hg hK
 simp only [cj,aa] at hk
 obtain ⟨⟨h9,jW,eE⟩,gH⟩:=hk
 simp only [ay] at h9
 obtain ⟨d,rfl,hl,rfl⟩:=ez gH
 simp only [dX] at ho
 split at ho
 ·rename_i g args pf
  simp only [aa,beq_iff_eq,ay] at ho
  obtain ⟨⟨⟨⟨⟨rfl,xU⟩,iZ,hn,gR,gQ⟩,hx⟩,kZ⟩,th⟩:=ho
  obtain ⟨th,Dd⟩:=th
  rw [←(hE f).2] at iZ hn gR gQ
  have sW:(rs.take n).length=n:=by rw [←fi hx];simpa using kZ
  have nN:small C.nt args.toList=true:=gb c8 (fun x hx=>by
   have:x∈args:=by simpa using hx
   simp only [Op.operands,Call.operands,Array.toList_append,List.mem_append]
   exact .inr hx)
  have jc:rs.drop n=[.s (lk k)]:=by
   simp only [aP,aZ,beq_iff_eq] at jW
   obtain ⟨q,hq⟩:=ka (l:=rs.drop n) (by rw [bm];omega)
   rw [hq] at eE ⊢
   cases q <;> simp at eE
   rw [eE]
  have pD:rs=rs.take n++[.s (lk k)]:=by rw [←jc,List.take_append_drop]
  simp only [eh] at hs
  obtain ⟨es,outs,v1,v2,hG,rp,rfl⟩:=hs
  simp only [dt] at hg
  rw [aC] at hg
  obtain ⟨⟨g1,g2⟩,hg⟩:=hg
  cases hg
  have qP:∀{X:Type} (F:cO→X),(rs.map F)[n]?=some (F (.s (lk k))):=fun F=>by
   have h1:rs[n]?=some (.s (lk k)):=by rw [pD,aJ (by omega),sW];simp
   rw [aI,h1];rfl
  rw [qP] at v1
  rw [←List.map_drop,jc] at g2
  simp only [cO.ev,cO.gh,aB,ah,ao,aj,and_true] at v1 g2
  have hi:∀{X:Type} (F:cO→X),((rs.take n).map F)[i]?=(rs.map F)[i]?:=fun F=>by
   rw [List.map_take,aM,aH th]
  rw [←hi] at v2 g1
  rw [←List.map_take] at hG
  exact EW h rfl hl Dd rfl xU h9 (hE f).1 iZ hn gR gQ hx nN v2 g1 g2 v1 hG rp hK
 ·cases ho
theorem Oz {k s:Nat}:cC C sg (.CT k s):=by
 intro D σ γ a w dst op ty pos after guard rs ds gd ws gs K' Q h ho hk c8 hs hg hK
 simp only [cj,aa] at hk
 obtain ⟨eE,gH⟩:=hk
 obtain ⟨d,rfl,hl,rfl⟩:=ez gH
 simp only [dX] at ho
 split at ho
 ·rename_i r
  simp at eE
  cases r <;> simp at eE
  subst eE
  simp only [ah,ao,eh] at hs
  subst hs
  simp only [ah,ao,cO.gh] at hg
  simp only [dt] at hg
  split at hg
  ·rename_i e;cases hg;simp at e;exact ER h rfl hl (.inl rfl) e hK
  ·cases hg
 ·rename_i r
  simp at eE
  cases r <;> simp at eE
  subst eE
  simp only [ah,ao,eh] at hs
  subst hs
  simp only [ah,ao,cO.gh] at hg
  simp only [dt] at hg
  split at hg
  ·rename_i e;cases hg;simp at e;exact ER h rfl hl (.inr rfl) e hK
  ·cases hg
 ·cases ho
theorem Ir (hE:∀f,dH C.P C.E.gl f (C.E.fs f)∧(C.E.fs f).sg=sg f) {f n i k s:Nat}:cC C sg (.nI f n i k s):=by
 intro D σ γ a w dst op ty pos after guard rs ds gd ws gs K' Q h ho hk c8 hs hg hK
 simp only [cj,aa] at hk
 obtain ⟨⟨h9,jW,eE⟩,gH⟩:=hk
 simp only [ay] at h9
 obtain ⟨d,rfl,hl,rfl⟩:=ez gH
 simp only [dX] at ho
 split at ho
 ·rename_i g args pf
  simp only [aa,beq_iff_eq,ay] at ho
  obtain ⟨⟨⟨⟨⟨rfl,xU⟩,iZ⟩,hx⟩,kZ⟩,th⟩:=ho
  rw [←(hE f).2] at iZ
  have sW:(rs.take n).length=n:=by rw [←fi hx];simpa using kZ
  have nN:small C.nt args.toList=true:=gb c8 (fun x hx=>by
   have:x∈args:=by simpa using hx
   simp only [Op.operands,Call.operands,Array.toList_append,List.mem_append]
   exact .inr hx)
  have jc:rs.drop n=[.s (lk k)]:=by
   simp only [aP,aZ,beq_iff_eq] at jW
   obtain ⟨q,hq⟩:=ka (l:=rs.drop n) (by rw [bm];omega)
   rw [hq] at eE ⊢
   cases q <;> simp at eE
   rw [eE]
  have pD:rs=rs.take n++[.s (lk k)]:=by rw [←jc,List.take_append_drop]
  simp only [eh] at hs
  obtain ⟨es,fs,v1,fI,v2,hG,rfl⟩:=hs
  simp only [dt] at hg
  rw [aC] at hg
  obtain ⟨⟨g1,g2⟩,hg⟩:=hg
  cases hg
  have qP:∀{X:Type} (F:cO→X),(rs.map F)[n]?=some (F (.s (lk k))):=fun F=>by
   have h1:rs[n]?=some (.s (lk k)):=by rw [pD,aJ (by omega),sW];simp
   rw [aI,h1];rfl
  rw [qP] at v1
  rw [←List.map_drop,jc] at g2
  simp only [cO.ev,cO.gh,aB,ah,ao,aj,and_true] at v1 g2
  have hi:∀{X:Type} (F:cO→X),((rs.take n).map F)[i]?=(rs.map F)[i]?:=fun F=>by
   rw [List.map_take,aM,aH th]
  rw [←hi] at v2 g1
  rw [←List.map_take] at hG
  exact ET h rfl hl rfl xU (hE f).1 iZ hx nN v2 g1 g2 v1 fI hG hK
 ·cases ho
theorem It (hE:∀f,dH C.P C.E.gl f (C.E.fs f)∧(C.E.fs f).sg=sg f) {f n i k k':Nat}:cC C sg (.lZ f n i k k'):=by
 intro D σ γ a w dst op ty pos after guard rs ds gd ws gs K' Q h ho hk c8 hs hg hK
 simp only [cj,aa] at hk
 obtain ⟨⟨h9,jW,eE⟩,gH⟩:=hk
 simp only [ay] at h9
 obtain ⟨d,rfl,hl,rfl⟩:=ez gH
 simp only [dX] at ho
 split at ho
 ·rename_i g args pf
  simp only [aa,beq_iff_eq,ay] at ho
  obtain ⟨⟨⟨⟨⟨rfl,xU⟩,iZ⟩,hx⟩,kZ⟩,th⟩:=ho
  obtain ⟨th,Dd⟩:=th
  rw [←(hE f).2] at iZ
  have sW:(rs.take n).length=n:=by rw [←fi hx];simpa using kZ
  have nN:small C.nt args.toList=true:=gb c8 (fun x hx=>by
   have:x∈args:=by simpa using hx
   simp only [Op.operands,Call.operands,Array.toList_append,List.mem_append]
   exact .inr hx)
  have jc:rs.drop n=[.s (lk k),.s (lk k')]:=by
   simp only [aP,aZ,beq_iff_eq] at jW
   have Hy:(rs.drop n).length=2:=by rw [bm];omega
   match hq:rs.drop n,Hy with
   | [q,q'],_ =>
    rw [hq] at eE
    cases q <;> cases q' <;> simp at eE
    rw [eE.1,eE.2]
  have pD:rs=rs.take n++[.s (lk k),.s (lk k')]:=by rw [←jc,List.take_append_drop]
  simp only [eh] at hs
  obtain ⟨es,fs,v1,v2,hG,hv,rfl⟩:=hs
  simp only [dt] at hg
  rw [aC] at hg
  obtain ⟨⟨g1,g2,fI⟩,hg⟩:=hg
  cases hg
  have qP:∀{X:Type} (F:cO→X),(rs.map F)[n]?=some (F (.s (lk k))):=fun F=>by
   have h1:rs[n]?=some (.s (lk k)):=by rw [pD,aJ (by omega),sW];simp
   rw [aI,h1];rfl
  rw [qP] at v1
  rw [←List.map_drop,jc] at g2
  simp only [cO.ev,cO.gh,aB,ah,ao,aj,and_true] at v1 g2
  have hi:∀{X:Type} (F:cO→X),((rs.take n).map F)[i]?=(rs.map F)[i]?:=fun F=>by
   rw [List.map_take,aM,aH th]
  rw [←hi] at v2 g1
  rw [←List.map_take] at hG
  exact EU h rfl hl Dd rfl xU h9 (hE f).1 iZ hx nN v2 g1 g2.1 v1 g2.2 fI hG hv hK
 ·cases ho
theorem Iw (hE:∀f,dH C.P C.E.gl f (C.E.fs f)∧(C.E.fs f).sg=sg f) {f n bO:Nat}:cC C sg (.re f n bO):=by
 intro D σ γ a w dst op ty pos after guard rs ds gd ws gs K' Q h ho hk c8 hs hg hK
 obtain ⟨d,rfl,hl,rfl⟩:=ez (l:=[]) hk
 simp only [dt,aB] at hg
 subst hg
 simp only [dX] at ho
 split at ho
 ·rename_i c args pf r rs
  simp only [aa,beq_iff_eq,ay] at ho
  obtain ⟨⟨⟨⟨xU,iZ,hn⟩,hc⟩,hx⟩,kZ⟩:=ho
  rw [←(hE f).2] at iZ hn
  have nN:small C.nt args.toList=true:=gb c8 (fun x hx=>by
   have:x∈args:=by simpa using hx
   simp only [Op.operands,Call.operands,Array.toList_append,List.mem_append]
   exact .inr hx)
  simp only [eh,ah] at hs
  obtain ⟨Jg,outs,e0,hG,rp,rfl⟩:=hs
  simp only [aj] at e0
  obtain ⟨e1,rfl⟩:=e0
  exact EY h rfl hl rfl xU hc (bH c8 (by simp [Op.operands,Call.operands])) e1 (hE f).1 iZ hn hx nN hG rp hK
 ·cases ho
end
end Go.Eng
namespace Go.Eng
open Go.RowKit
section
variable {k k':Nat}
theorem wI {j:Nat} (h:j<1000000):n9 k k' j=j:=by
 have h1:=fH k
 have h2:=fH k'
 unfold n9
 rw [aD (by omega),aD (by omega)]
theorem KD {j:Nat} (h:1000000≤n9 k k' j):1000000≤j:=by
 by_cases e:j<1000000
 ·rw [wI e] at h;exact h
 ·omega
theorem HI {j:Nat} (h:1000000≤j):1000000≤n9 k k' j:=by
 unfold n9
 have h1:=fH k
 have h2:=fH k'
 split
 ·exact h2
 ·split
  ·exact h1
  ·exact h
theorem ko (j:Nat):n9 k k' (n9 k k' j)=j:=by
 unfold n9
 by_cases h1:j=lk k
 ·rw [aH h1]
  by_cases h2:lk k'=lk k
  ·rw [aH h2,h1];exact h2
  ·rw [aD h2,aH rfl,h1]
 ·rw [aD h1]
  by_cases h2:j=lk k'
  ·rw [aH h2,aH rfl,h2]
  ·rw [aD h2,aD h1,aD h2]
theorem HH {i j:Nat} (h:n9 k k' i=n9 k k' j):i=j:=by
 rw [←ko (k:=k) (k':=k') i,h,ko]
theorem wJ (j:Nat):n9 k k' (lk j)=lk (DI k k' j):=by
 unfold n9 DI
 by_cases h1:j=k
 ·rw [aH h1,aH (by rw [h1])]
 ·rw [aD h1,aD (fun e=>h1 (fO e))]
  by_cases h2:j=k'
  ·rw [aH h2,aH (by rw [h2])]
  ·rw [aD h2,aD (fun e=>h2 (fO e))]
theorem HG (j:Nat):DI k k' (DI k k' j)=j:=by
 have h:n9 k k' (n9 k k' (lk j))=lk j:=ko _
 rw [wJ,wJ] at h
 exact fO h
theorem lS (j:Nat):n9 k k' (lk (DI k k' j))=lk j:=by rw [wJ,HG]
theorem rG (g:Gh):(jF k k' g).eQ=g.eQ:=by cases g <;> rfl
theorem mI (g:Gh):(jF k k' g).ej=g.ej:=by cases g <;> rfl
theorem D8 (g:Gh):(jF k k' g).td=g.td:=by cases g <;> rfl
theorem D7 (g:Gh):(jF k k' g).CL=g.CL:=by cases g <;> rfl
theorem yk (g:Gh):(jF k k' g).par=g.par.map (n9 k k'):=by cases g <;> rfl
theorem CB {g:Gh} {s:Nat} (h:jF k k' g = .live s):g = .live s:=by cases g <;> simp [jF] at h ⊢;exact h
theorem HJ {g:Gh} {s:Nat} (h:jF k k' g = .pc s):g = .pc s:=by cases g <;> simp [jF] at h ⊢;exact h
theorem D9 (G:GL):(HK k k' G).get=fun j=>jF k k' (G.get (n9 k k' j)):=by
 funext j
 induction G with
 | nil=>rfl
 | cons p r ih =>
  obtain ⟨i,g⟩:=p
  simp only [HK,ah,GL.get] at ih ⊢
  by_cases h:j=n9 k k' i
  ·rw [aH h,aH (by rw [h,ko])]
  ·rw [aD h,aD (fun e=>h (by rw [←e,ko]))]
   exact ih
variable {C:Ctx} {D:j0} {σ:Sg} {γ:Ga} {a:Act} {w:World}
theorem cL.swap (h:cL C D σ γ a w) (n1:k≠999999) (n2:k'≠999999):cL C { D with τ:=Au k k' D.τ } (Au k k' σ) (fun j=>jF k k' (γ (n9 k k' j))) a w:=by
 have ja:∀m,(jF k k' (γ (n9 k k' m))).eQ=true→(γ m).eQ=true∧n9 k k' m=m:=fun m hm=>by
  rw [rG] at hm
  have:=(h.oe _ hm).2
  have SC:m<1000000:=by
   by_cases e:m<1000000
   ·exact e
   ·have:=HI (k:=k) (k':=k') (j:=m) (by omega);omega
  have e:=wI (k:=k) (k':=k') SC
  exact ⟨by rwa [e] at hm,e⟩
 have L7:∀m,(γ m).eQ=true→(jF k k' (γ (n9 k k' m))).eQ=true:=fun m hm=>by
  rw [wI (h.oe m hm).2,rG];exact hm
 have qR:∀key,eI { D with τ:=Au k k' D.τ } (fun j=>jF k k' (γ (n9 k k' j))) key=eI D γ (n9 k k' key):=fun key=>by
  unfold eI
  have hc:=ja key
  simp only
  cases hg:γ (n9 k k' key) with
  | cl ts =>
   have:=(hc (by rw [rG,hg];rfl)).2
   simp only [jF,this]
  | _=>rfl
 have W8:∀(g:Gh) (x:Value),iw D g x→iw { D with τ:=Au k k' D.τ } (jF k k' g) x:=fun g x hx=>by
  cases g with
  | cB j s=>simp only [jF,iw,Au,lS] at hx ⊢;exact hx
  | pe j=>simp only [jF,iw,Au,lS] at hx ⊢;exact hx
  | xR ts p =>
   simp only [jF,iw] at hx ⊢
   obtain ⟨ys,h1,h2,h3⟩:=hx
   refine ⟨ys,h1,fun t ht=>?_,h3⟩
   obtain ⟨u,hu,rfl⟩:=aO.1 ht
   simp only [Au,lS]
   exact h2 u hu
  | _=>exact hx
 have hM:∀g,eK γ g→eK (fun j=>jF k k' (γ (n9 k k' j))) (jF k k' g):=fun g hg=>by
  cases g with
  | ptr m o=>exact L7 m hg
  | pm m=>exact L7 m hg
  | cB j s =>
   show (jF k k' (γ (n9 k k' (lk (DI k k' j))))).ej=true
   rw [lS,mI];exact hg
  | pe j =>
   show (jF k k' (γ (n9 k k' (lk (DI k k' j))))).ej=true
   rw [lS,mI];exact hg
  | cl ts =>
   intro t ht
   obtain ⟨u,hu,rfl⟩:=aO.1 ht
   simp only [lS,mI]
   exact hg u hu
  | xR ts p =>
   refine ⟨fun t ht=>?_,fun q hq=>L7 _ (hg.2 q hq)⟩
   obtain ⟨u,hu,rfl⟩:=aO.1 ht
   simp only [lS,mI]
   exact hg.1 u hu
  | mX d s =>
   simp only [jF,eK,ko] at hg ⊢
   rcases hg with e | ⟨s',e⟩
   ·rw [e];exact .inl rfl
   ·rw [e];exact .inr ⟨s',rfl⟩
  | _=>trivial
 refine ⟨h.size,h.defers,h.iB,fun m hm=>?_,fun m hm=>?_,fun t ht=>?_,fun m ts hm=>?_,fun key s hk=>?_,fun key s hk=>?_,fun p q g hp hq=>?_,fun p g hp=>?_,fun key=>hM _ (h.inv _),h.ext,h.jT,h.gl,?_⟩
 ·exact h.oe m (ja m hm).1
 ·rw [mI] at hm;exact KD (h.kL _ hm)
 ·have e:n9 k k' t=t:=wI (by have:=h.iB;omega)
  simp only [Au,e]
  exact (h.slot t ht).imp id fun ⟨r,g⟩=>⟨r,fun hs=>W8 _ _ (g hs)⟩
 ·obtain ⟨_,e⟩:=ja m (by rw [hm];rfl)
  simp only [e] at hm
  cases hg:γ m with
  | cl us =>
   rw [hg] at hm
   simp only [jF,Gh.cl.injEq] at hm
   subst hm
   obtain ⟨cs,hv,nM⟩:=h.mem m us hg
   refine ⟨cs,by simp only [Au,e];exact hv,fun t ht=>?_⟩
   obtain ⟨u,hu,rfl⟩:=aO.1 ht
   simp only [Au,lS]
   exact nM u hu
  | _=>rw [hg] at hm;simp [jF] at hm
 ·exact h.cB _ s (CB hk)
 ·rw [D7] at hk
  obtain ⟨h1,h2,h3⟩:=h.ps _ s hk
  refine ⟨h1,h2,fun d s1 s2 e1 e2=>?_⟩
  simp only at e1
  cases hg:γ (n9 k k' key) with
  | mX d' s' =>
   rw [hg] at e1
   simp only [jF,Gh.mX.injEq] at e1
   obtain ⟨rfl,rfl⟩:=e1
   have e2:=HJ e2
   rw [ko] at e2
   simp only [Au,ko]
   exact h3 d' s' s2 hg e2
  | _=>rw [hg] at e1;simp [jF] at e1
 ·rw [qR] at hp hq
  rcases h.sep _ _ g hp hq with e | e | e
  ·exact .inl (HH e)
  ·refine .inr (.inl ?_);rw [yk,e,Option.map_some,ko]
  ·refine .inr (.inr ?_);rw [yk,e,Option.map_some,ko]
 ·rw [qR] at hp;exact h.own _ g hp
 ·have e9:n9 k k' (lk 999999)=lk 999999:=by
   rw [wJ];unfold DI;rw [aD (fun e=>n1 e.symm),aD (fun e=>n2 e.symm)]
  refine ⟨h.fix.1,fun v hv=>?_⟩
  obtain ⟨h1,h2⟩:=h.fix.2 v hv
  exact ⟨by simp only [e9,D8];exact h1,by simp only [Au,e9];exact h2⟩
end
end Go.Eng
namespace Go.Eng
open Go.RowKit
section
variable {C:Ctx} {sg:Nat→c7}
theorem tF {α β:Type} {f g:α→β}:∀{l:List α},l.map f=l.map g→∀x∈l,f x=g x
 | [],_,_,hx=>by cases hx
 | a :: l,h,x,hx=>by
  simp only [ah,aj] at h
  rcases bh.1 hx with rfl | hx
  ·exact h.1
  ·exact tF h.2 x hx
theorem LC (hE:∀f,dH C.P C.E.gl f (C.E.fs f)∧(C.E.fs f).sg=sg f) {f:Nat} {c:CS}:cC C sg (.call f c):=by
 intro D σ γ a w dst op ty pos after guard rs ds gd ws gs K' Q h ho hk c8 hs hg hK
 simp only [cj,aa,beq_iff_eq,ay] at hk
 obtain ⟨⟨⟨Wn,jW,eE⟩,gH⟩,hnd⟩:=hk
 obtain ⟨d,rfl,hl,rfl⟩:=ez gH
 simp only [dX] at ho
 split at ho
 ·rename_i g args pf
  simp only [aa,beq_iff_eq] at ho
  obtain ⟨⟨⟨⟨rfl,xU⟩,nQ⟩,hx⟩,kZ⟩:=ho
  rw [←(hE f).2] at nQ
  obtain ⟨f1,f2,f3,f4,f5,f6,f7,f8,f9,f10,f11,f12,f13⟩:=sd nQ
  have jc:rs.drop c.n=(c.jl++c.mj).map cO.s:=lu eE
  have pD:rs=rs.take c.n++(c.jl++c.mj).map cO.s:=by rw [←jc,List.take_append_drop]
  have sW:(rs.take c.n).length=c.n:=by rw [←fi hx];simpa using kZ
  have nN:small C.nt args.toList=true:=gb c8 (fun x hx=>by
   have:x∈args:=by simpa using hx
   simp only [Op.operands,Call.operands,Array.toList_append,List.mem_append]
   exact .inr hx)
  simp only [eh] at hs
  obtain ⟨JS,outs,hG,rp,rfl⟩:=hs
  have oD:∀m∈c.jl,C.nt≤m∧m<1000000:=fun m hm=>by
   have:=aL.1 Wn m hm
   simpa using this
  -- the Tf
  simp only [dt] at hg
  rw [aC] at hg
  obtain ⟨hc,hg⟩:=hg
  ·cases hg
   obtain ⟨c1,c2,c3⟩:=hc
   rw [←List.map_drop,jc,aW] at c1 c2 c3
   have De:(cO.gh γ ∘ cO.s)=γ:=rfl
   rw [De] at c1 c2 c3
   cases gQ:c.ref with
   | none =>
    have y8:=f9 gQ
    have hm:c.jl=(c.new.map (·.2)).toList:=by simp [CS.jl,gQ]
    rw [hm] at c1 c2 c3
    simp only [gQ,Option.map_none,Option.toList_none,aZ,List.take_zero,Nat.add_zero,List.map_append] at c1 c2 c3
    have e1:((List.map γ (c.new.map (·.2)).toList++List.map γ c.mj).take (c.new.map (·.2)).toList.length)=List.map γ (c.new.map (·.2)).toList:=List.take_left' (by simp)
    rw [e1] at c1 c3
    have e2:((List.map γ (c.new.map (·.2)).toList++List.map γ c.mj).drop (List.map γ (c.new.map (·.2)).toList).length)=List.map γ c.mj:=List.drop_left' rfl
    rw [e2,y8] at c3
    simp only [CS.mj,y8,bj,ao,aW,List.map_append] at c3
    have LY:∀t∈c.gC++c.own++c.fD,γ (lk t.2.1) = .no:=tF (by simpa [Function.comp_def] using c3)
    have L2:c.ins (rs.map (cO.ev C.E σ))=(rs.take c.n).map (cO.ev C.E σ):=by simp [CS.ins,gQ,List.map_take]
    rw [L2] at hG
    exact E0 h rfl hl rfl xU (hE f).1 nQ gQ hx nN hG rp (fun q hq=>by
      have Wi:q.2∈c.jl:=by rw [hm,hq];simp
      refine ⟨?_,oD _ Wi⟩
      simp only [hq,Option.map_some,Option.toList_some,ah,ao,List.all_cons,List.all_nil,Bool.and_true,ay] at c1
      exact c1) (fun t ht=>LY t (by
       rcases List.mem_append.1 ht with ht | ht
       ·simp [ht]
       ·simp [ht])) hK
   | some im =>
    obtain ⟨i,m⟩:=im
    have gR:c.new=none:=by
     rcases f11 with e | e
     ·rw [gQ] at e;cases e
     ·exact e
    have sV:=f10 gR
    have hm:c.jl=[m]:=by simp [CS.jl,gQ,gR]
    rw [hm] at c1 c2 c3
    simp only [gQ,gR,sV,Option.map_none,Option.map_some,Option.toList_none,Option.toList_some,aZ,List.take_zero,aP,Nat.zero_add,aS,List.map_append,ah,ao,List.cons_append,bj,List.take_succ_cons,List.drop_succ_cons,aU] at c2 c3
    split at c2
    ·rename_i i' m' ts e1 e2
     cases e1
     simp only [aj,and_true] at e2
     simp only [ay] at c2
     obtain ⟨d1,d2,d3⟩:=c2
     simp only [CS.mj,sV,aU,List.map_append,aW,aQ] at c3
     rw [←List.map_append,←List.map_append (f:=fun _=>Gh.no)] at c3
     obtain ⟨p1,p2⟩:=List.append_inj c3 (by simp)
     have kP:∀t∈c.kn,γ (lk t.2.1) = .live t.2.2:=tF (by simpa [Function.comp_def] using p1)
     have jP:∀t∈c.gC++c.own,γ (lk t.2.1) = .no:=tF (by simpa [Function.comp_def] using p2)
     rw [gQ] at JS
     simp only at JS
     have tJ:((rs.take c.n).map (cO.ev C.E σ))[i]?=some .pt:=by
      rw [List.map_take,aM,aH d2];exact JS
     have WE:((rs.take c.n).map (cO.gh γ))[i]?=some (.ptr m 0):=by
      rw [List.map_take,aM,aH d2];exact d1
     have L2:c.ins (rs.map (cO.ev C.E σ))=((rs.take c.n).map (cO.ev C.E σ)).set i (σ m):=by
      simp only [CS.ins,gQ,gR,Option.map_none,Option.toList_none,aZ,Nat.add_zero,List.map_take]
      congr 1
      have:rs[c.n]?=some (.s m):=by
       rw [pD,aJ (by omega),sW,hm];simp
      simp [List.getD,this,cO.ev]
     rw [L2] at hG
     exact EZ h rfl hl rfl xU (hE f).1 nQ gQ hx nN tJ WE e2 d3 kP hG rp jP hK
    ·rename_i e _;cases e
    ·cases c2
 ·cases ho
theorem B8 (hE:∀f,dH C.P C.E.gl f (C.E.fs f)∧(C.E.fs f).sg=sg f) (k:K):cC C sg k:=by
 cases k with
 | mv=>exact Rq
 | pick=>exact LB
 | bin b=>exact OL
 | be n=>exact RN
 | un b=>exact Rg
 | ci k=>exact RH
 | cs=>exact RF
 | sb=>exact Rl
 | Jn k=>exact Ok
 | bs=>exact RL
 | len=>exact OG
 | vT=>exact OE
 | mn=>exact Rr
 | mx=>exact Rp
 | ix s=>exact Rx
 | si=>exact Rj
 | ai n s a=>exact RT
 | fe o n a=>exact RA
 | sc s l h=>exact Rk
 | ss l h=>exact Ri
 | bl s n=>exact RM
 | blt s n k=>exact OK
 | bd z p=>exact RO
 | al m z t=>exact RR
 | bx m=>exact RJ
 | ld m o n a=>exact k_ld
 | st m o n=>exact Rh
 | lr n a=>exact Ru
 | fa m o d=>exact RC
 | fr o n a=>exact Rz
 | nc m o=>exact Ro
 | N8=>exact OB
 | ex i=>exact RD
 | ap k d s b=>exact RP
 | Kj k d b=>exact OO
 | an d s b=>exact RQ
 | Kl d b=>exact OQ
 | mk d s b z=>exact Rs
 | nl d s=>exact Rn
 | CT d s=>exact Oz
 | HZ k=>exact Om
 | yE k=>exact Ou
 | lP k s=>exact Ow
 | KU k o=>exact Oy
 | rQ k s n a=>exact Ov
 | sL k s n=>exact Ol
 | sM k s=>exact Ox
 | pQ f n r i k s=>exact Iq hE
 | qC f n r i s=>exact Ip hE
 | Jr k d s b=>exact Oq
 | KT k=>exact Ot
 | Kk k d q s b=>exact OP
 | la m n s=>exact Rw
 | ll m s=>exact Rv
 | N7=>exact OA
 | Nb=>exact Oh
 | pO f n r i m=>exact Io hE
 | MT b =>
  intro D σ γ a w dst op ty pos after guard rs ds gd ws gs K' Q h ho hk c8 hs
  exact hs.elim
 | DN m ts=>exact OI
 | DJ m o n ts=>exact Oi
 | Ki k d s b=>exact OM
 | Jz k s=>exact OC
 | Jl m o=>exact Oj
 | JA m o n c k s=>exact OH
 | rl=>exact Rm
 | im=>exact Ry
 | cx=>exact RE
 | cf=>exact RI
 | fc=>exact RB
 | MP=>exact Og
 | yO k s b z=>exact OD
 | DB s n k=>exact OJ
 | H0 k d s=>exact On
 | BP k d s b=>exact Oo
 | ls m s=>exact Rt
 | nK f n k=>exact Iv hE
 | oO f n bO i k s=>exact Iu hE
 | lZ f n i k d=>exact It hE
 | nI f n i k s=>exact Ir hE
 | re f n bO=>exact Iw hE
 | call f c=>exact LC hE
end
end Go.Eng
namespace Go.Eng
open Go.RowKit
section
variable {X:Type}
def agree (l:List Nat) (σ τ:Nat→X):Prop:=∀k∈l,σ k=τ k
def rn (R:(Nat→X)→List X→Prop) (ds:List Nat) (σ dz:Nat→X):Prop:=∃ws,R σ ws∧ws.length=ds.length∧dz=bN σ ds ws
def Local (rs:List Nat) (R:(Nat→X)→List X→Prop):Prop:=∀σ τ ws,agree rs σ τ→R σ ws→R τ ws
theorem rn.swap {R S:(Nat→X)→List X→Prop} {d e r s:List Nat} (lr:Local r R) (ls:Local s S) (h1:∀k∈d,k ∉ s) (h2:∀k∈d,k ∉ e) (h3:∀k∈e,k ∉ r) {σ Af Hl:Nat→X}
  (a:rn R d σ Af) (b:rn S e Af Hl):∃Na,rn S e σ Na∧rn R d Na Hl:=by
 obtain ⟨ws,hR,hl,rfl⟩:=a
 obtain ⟨vs,hS,hm,rfl⟩:=b
 exact ⟨bN σ e vs,⟨vs,ls _ _ _ (fun k hk=>iF fun hd=>h1 k hd hk) hS,hm,rfl⟩,ws,lr _ _ _ (fun k hk=>(iF fun he=>h3 k he hk).symm) hR,hl,rB h2⟩
end
def RS (E:Env) (m:pK) (σ:Sg) (ws:List AV):Prop :=
 match mo σ m.gd with
 | some true=>eh E m.k (m.rs.map (cO.ev E σ)) ws
 | some false=>ws=m.ds.map fun _ => .sk
 | none=>False
def RG (m:pK) (γ:Ga) (gs:List Gh):Prop:=dt m.k (m.rs.map (cO.gh γ))=some gs
theorem mem_reads {m:pK} {t:Nat} (h:cO.s t∈m.rs):t∈m.reads :=
 List.mem_append_left _ (List.mem_filterMap.2 ⟨_,h,rfl⟩)
theorem Ab (E:Env) (m:pK):Local m.reads (RS E m):=by
 intro σ τ ws h
 have h1:mo σ m.gd=mo τ m.gd:=by
  cases hg:m.gd with
  | none=>rfl
  | some q =>
   obtain ⟨t,b⟩:=q
   have:σ t=τ t:=h t (by simp [pK.reads,hg])
   simp only [mo,this]
 have h2:m.rs.map (cO.ev E σ)=m.rs.map (cO.ev E τ):=List.map_congr_left fun r hr=>by
  cases r with
  | s t=>exact h t (mem_reads hr)
  | c x=>rfl
  | g n=>rfl
 unfold RS
 rw [h1,h2]
 exact id
theorem Ac (m:pK):Local m.reads (RG m):=by
 intro σ τ ws h
 have h2:m.rs.map (cO.gh σ)=m.rs.map (cO.gh τ):=List.map_congr_left fun r hr=>by
  cases r with
  | s t=>exact h t (mem_reads hr)
  | c x=>rfl
  | g n=>rfl
 unfold RG
 rw [h2]
 exact id
def CF (E:Env):List pK→Sg→Ga→Sg→Ga→Prop
 | [],σ,γ,dz,nT=>dz=σ∧nT=γ
 | m :: ms,σ,γ,dz,nT=>∃Af Jd,rn (RS E m) m.ds σ Af∧rn (RG m) m.ds γ Jd∧CF E ms Af Jd dz nT
theorem Bm {n m:pK} (h:Cq n m=false):(∀k∈n.ds,k ∉ m.reads)∧(∀k∈n.ds,k ∉ m.ds)∧(∀k∈m.ds,k ∉ n.reads):=by
 simp only [Cq,Bool.or_eq_false_iff,List.any_eq_false,Bool.not_eq_true,List.contains_eq_mem,decide_eq_false_iff_not] at h
 exact ⟨fun k hk=>(h.1 k hk).1,fun k hk=>(h.1 k hk).2,fun k hk=>h.2 k hk⟩
theorem ui {E:Env} {m:pK} {B:List pK}:∀{A:List pK} {σ dz:Sg} {γ nT:Ga},CF E (A++m :: B) σ γ dz nT→(∀n∈A,Cq n m=false)→CF E (m :: (A++B)) σ γ dz nT
 | [],_,_,_,_,h,_=>h
 | n :: A,σ,dz,γ,nT,h,hc=>by
  obtain ⟨Af,Jd,s,g,h⟩:=h
  obtain ⟨Hl,Vo,s2,g2,h⟩:=ui h fun x hx=>hc x (List.mem_cons_of_mem _ hx)
  obtain ⟨c1,c2,c3⟩:=Bm (hc n (List.mem_cons_self ..))
  obtain ⟨Vl,s3,s4⟩:=s.swap (Ab E n) (Ab E m) c1 c2 c3 s2
  obtain ⟨Vn,g3,g4⟩:=g.swap (Ac n) (Ac m) c1 c2 c3 g2
  exact ⟨Vl,Vn,s3,g3,Hl,Vo,s4,g4,h⟩
theorem GL.qS:∀{G:GL} {ts:List Nat} {xs:List Gh},(GL.bN G ts xs).get=Eng.bN G.get ts xs
 | G,t :: ts,x :: xs=>by
  funext k
  simp only [GL.bN,GL.get,Eng.bN,cF,GL.qS (G:=G) (ts:=ts) (xs:=xs)]
 | G,[],_=>by simp [GL.bN,Eng.bN]
 | G,_ :: _,[]=>by simp [GL.bN,Eng.bN]
theorem BJ {E:Env}:∀{ms:List pK} {σ dz:Sg} {G G':GL},Eu E ms σ dz→Dm ms G=some G'→CF E ms σ G.get dz G'.get
 | [],_,_,_,_,h,g=>by
  simp only [Dm,aB] at g
  subst g
  exact ⟨h,rfl⟩
 | m :: ms,σ,dz,G,G',⟨Af,s,h⟩,g=>by
  simp only [Dm,Kb,bf] at g
  obtain ⟨G1,⟨gs,g1,g2⟩,g3⟩:=g
  rw [aC] at g2
  obtain ⟨hl,e⟩:=g2
  cases e
  exact ⟨Af,_,s,⟨gs,g1,hl,GL.qS⟩,BJ h g3⟩
section
variable {C:Ctx} {D:j0} {σ:Sg} {γ:Ga} {a:Act} {w:World}
theorem cL.yP (h:cL C D σ γ a w) (r:cO):eK γ (r.gh γ):=by
 cases r with
 | s t=>exact h.inv t
 | c x=>trivial
 | g n=>trivial
theorem Ea {γ:Ga} {g:Gh} (h:eK γ g):g.strip.eQ=false∧g.strip.ej=false∧eK γ g.strip:=by
 cases g <;> first | exact ⟨rfl,rfl,trivial⟩ | exact ⟨rfl,rfl,h⟩
theorem I0 {γ:Ga} {g:Gh} (h:eK γ g) (i:Nat):(g.comp i).eQ=false∧(g.comp i).ej=false∧eK γ (g.comp i):=by
 cases g with
 | xR ts p =>
  simp only [Gh.comp]
  split
  ·rename_i q k s e
   exact ⟨rfl,rfl,h.1 _ (List.mem_of_find?_eq_some e)⟩
  ·split
   ·rename_i j m
    split
    ·exact ⟨rfl,rfl,h.2 _ rfl⟩
    ·exact ⟨rfl,rfl,trivial⟩
   ·exact ⟨rfl,rfl,trivial⟩
 | _=>exact ⟨rfl,rfl,trivial⟩
theorem kh {nt:Nat} {dst:Option Nat} {x:Nat} {l ds:List Nat} (h:(match dst with | some d=>decide (d<nt)&&ds == d :: x :: l | none=>false)=true) (hl:ds.length=1):False:=by
 obtain ⟨d,_,_,rfl⟩:=ez h
 simp at hl
theorem To {nt:Nat} {dst:Option Nat} {l ds:List Nat} (hl:ds.length=1) (h:(match dst with | some d=>decide (d<nt)&&ds == d :: l | none=>false)=true):∃d,dst=some d∧d<nt∧ds=[d]∧l=[]:=by
 obtain ⟨d,h1,h2,rfl⟩:=ez h
 have:l=[]:=by simpa using hl
 subst this
 exact ⟨d,h1,h2,rfl,rfl⟩
theorem E2 (h:cL C D σ γ a w) {k:K} {rs:List cO} {ds:List Nat} {gd:Option (Nat × Bool)} {dst:Option Nat} {gs:List Gh} (hk:cj C.nt dst ⟨k,rs,ds,gd⟩=true)
  (hl:ds.length=1) (hd:dst.isSome=true) (hg:dt k (rs.map (cO.gh γ))=some gs) :
  ∃d g,dst=some d∧d<C.nt∧ds=[d]∧(gs.length=1→gs=[g])∧g.eQ=false∧g.ej=false∧eK γ g:=by
 have base:=fun (l:List Nat)=>To (nt:=C.nt) (dst:=dst) (l:=l) hl
 cases k
 case mv =>
  obtain ⟨d,h1,h2,h3,-⟩:=base [] hk
  simp only [dt] at hg
  split at hg
  ·rename_i g e
   cases hg
   cases rs with
   | nil=>simp at e
   | cons r rs =>
    simp only [ah,aj] at e
    obtain ⟨q1,q2,q3⟩:=Ea (e.1 ▸ h.yP r)
    exact ⟨d,_,h1,h2,h3,fun _=>rfl,q1,q2,q3⟩
  ·cases hg
 case ex i =>
  obtain ⟨d,h1,h2,h3,-⟩:=base [] hk
  simp only [dt] at hg
  split at hg
  ·rename_i g e
   cases hg
   cases rs with
   | nil=>simp at e
   | cons r rs =>
    simp only [ah,aj] at e
    obtain ⟨q1,q2,q3⟩:=I0 (e.1 ▸ h.yP r) i
    exact ⟨d,_,h1,h2,h3,fun _=>rfl,q1,q2,q3⟩
  ·cases hg
 case fa m o x =>
  obtain ⟨d,h1,h2,h3,-⟩:=base [] hk
  simp only [dt] at hg
  split at hg
  ·rename_i m' o' e
   rw [aC] at hg
   obtain ⟨⟨rfl,rfl⟩,hg⟩:=hg
   cases hg
   cases rs with
   | nil=>simp at e
   | cons r rs =>
    simp only [ah,aj] at e
    have:=e.1 ▸ h.yP r
    exact ⟨d,_,h1,h2,h3,fun _=>rfl,rfl,rfl,this⟩
  ·cases hg
 case nc m o =>
  obtain ⟨d,h1,h2,h3,-⟩:=base [] hk
  simp only [dt] at hg
  split at hg
  ·rename_i m' o' e
   rw [aC] at hg
   obtain ⟨⟨rfl,rfl⟩,hg⟩:=hg
   cases hg
   cases rs with
   | nil=>simp at e
   | cons r rs =>
    simp only [ah,aj] at e
    have:=e.1 ▸ h.yP r
    exact ⟨d,_,h1,h2,h3,fun _=>rfl,rfl,rfl,this⟩
  ·cases hg
 case ld m o n agg =>
  simp only [cj,aa] at hk
  obtain ⟨d,h1,h2,h3,-⟩:=base [] hk.2
  simp only [dt] at hg
  split at hg
  ·rename_i m' o' ts e
   rw [aC] at hg
   obtain ⟨⟨rfl,rfl⟩,hg⟩:=hg
   cases hg
   have hm:eK γ (.cl ts):=by
    match rs,e with
    | [r,q],e =>
     simp only [ah,ao,aj] at e
     exact e.2.1 ▸ h.yP q
   refine ⟨d,_,h1,h2,h3,fun _=>rfl,?_⟩
   split
   ·exact ⟨rfl,rfl,trivial⟩
   ·split
    ·rename_i q k s e
     exact ⟨rfl,rfl,hm _ (List.mem_of_find?_eq_some e)⟩
    ·exact ⟨rfl,rfl,trivial⟩
  ·cases hg
 case call f c =>
  simp only [cj,aa] at hk
  obtain ⟨d,h1,h2,h3,h4⟩:=base _ hk.1.2
  simp only [dt] at hg
  rw [aC] at hg
  obtain ⟨_,hg⟩:=hg
  cases hg
  rw [List.append_eq_nil_iff] at h4
  obtain ⟨h4,h5⟩:=h4
  simp only [CS.jl,List.append_eq_nil_iff] at h4
  simp only [CS.mj,List.map_eq_nil_iff,List.append_eq_nil_iff] at h5
  have hn:c.new=none:=by cases hc:c.new <;> simp_all
  refine ⟨d,c.dg,h1,h2,h3,fun hl=>?_,?_⟩
  ·simp only [aP,Nat.add_eq_right,List.length_eq_zero_iff] at hl
   rw [hl]
  ·simp only [CS.dg,hn,h5.1.2]
   split
   ·exact ⟨rfl,rfl,trivial⟩
   ·refine ⟨rfl,rfl,?_⟩
    simp [eK]
 case st m o n =>
  simp only [cj,aa,Option.isNone_iff_eq_none] at hk
  rw [hk.1.1.2] at hd
  cases hd
 case al m z ts=>simp only [cj,aa] at hk;exact (kh hk.2 hl).elim
 case bx m=>simp only [cj,aa] at hk;exact (kh hk.2 hl).elim
 case Jn k=>simp only [cj,aa] at hk;exact (kh hk.2 hl).elim
 case blt s n k=>simp only [cj,aa] at hk;exact (kh hk.2 hl).elim
 case ap=>simp only [cj,aa] at hk;exact (kh hk.2 hl).elim
 case Kj=>simp only [cj,aa] at hk;exact (kh hk.2 hl).elim
 case an=>simp only [cj,aa] at hk;exact (kh hk.2 hl).elim
 case Kl=>simp only [cj,aa] at hk;exact (kh hk.2 hl).elim
 case mk=>simp only [cj,aa] at hk;exact (kh hk.2 hl).elim
 case CT=>simp only [cj,aa] at hk;exact (kh hk.2 hl).elim
 case nl=>simp only [cj,aa] at hk;exact (kh hk.2 hl).elim
 case Jr=>simp only [cj,aa] at hk;exact (kh hk.2 hl).elim
 case Kk=>simp only [cj,aa] at hk;exact (kh hk.2 hl).elim
 case pQ f n bO i k s =>
  simp only [cj,aa] at hk
  obtain ⟨d,h1,h2,h3,-⟩:=base [] hk.2
  simp only [dt] at hg
  rw [aC] at hg
  obtain ⟨_,hg⟩:=hg
  cases hg
  exact ⟨d,.no,h1,h2,h3,fun _=>rfl,rfl,rfl,trivial⟩
 case qC f n bO i s =>
  simp only [cj,aa] at hk
  obtain ⟨d,h1,h2,h3,-⟩:=base [] hk.2
  simp only [dt,aB] at hg
  exact ⟨d,.no,h1,h2,h3,fun _=>hg.symm,rfl,rfl,trivial⟩
 case KT k =>
  simp only [cj,aa] at hk
  obtain ⟨d,h1,h2,h3,-⟩:=base [] hk.2
  simp only [dt] at hg
  split at hg
  ·rw [aC] at hg
   obtain ⟨_,hg⟩:=hg
   cases hg
   exact ⟨d,.no,h1,h2,h3,fun _=>rfl,rfl,rfl,trivial⟩
  ·cases hg
 case ll m s =>
  simp only [cj,aa] at hk
  obtain ⟨d,h1,h2,h3,-⟩:=base [] hk.2
  simp only [dt] at hg
  split at hg
  ·rw [aC] at hg
   obtain ⟨_,hg⟩:=hg
   cases hg
   exact ⟨d,.no,h1,h2,h3,fun _=>rfl,rfl,rfl,trivial⟩
  ·cases hg
 case la m n s =>
  simp only [cj,aa] at hk
  obtain ⟨d,h1,h2,h3,-⟩:=base [] hk.2
  simp only [dt] at hg
  split at hg
  ·rename_i m' o' g0 ts e
   rw [aC] at hg
   obtain ⟨⟨rfl,rfl,_⟩,hg⟩:=hg
   cases hg
   cases rs with
   | nil=>simp at e
   | cons r rs =>
    simp only [ah,aj] at e
    have:=e.1 ▸ h.yP r
    exact ⟨d,_,h1,h2,h3,fun _=>rfl,rfl,rfl,this⟩
  ·cases hg
 case Ki=>simp only [cj,aa] at hk;exact (kh hk.2 hl).elim
 case yO=>simp only [cj,aa] at hk;exact (kh hk.2 hl).elim
 case DB=>simp only [cj,aa] at hk;exact (kh hk.2 hl).elim
 case BP=>simp only [cj,aa] at hk;exact (kh hk.2 hl).elim
 case H0=>simp only [cj,aa] at hk;exact (kh hk.2 hl).elim
 case nK=>simp only [cj,aa] at hk;exact (kh hk.2 hl).elim
 case nI=>simp only [cj,aa] at hk;exact (kh hk.2 hl).elim
 case oO=>simp only [cj,aa] at hk;exact (kh hk.2 hl).elim
 case lZ=>simp only [cj,aa] at hk;exact (kh hk.2 hl).elim
 case ls m s =>
  simp only [cj,aa,Option.isNone_iff_eq_none] at hk
  rw [hk.1.1.2] at hd
  cases hd
 case Jz k s =>
  simp only [cj,aa] at hk
  obtain ⟨_,hk⟩:=hk
  split at hk
  ·simp only [aa] at hk
   exact (kh hk.2 hl).elim
  ·cases hk
 case JA=>simp only [cj,aa] at hk;exact (kh hk.2 hl).elim
 case Jl m o =>
  simp only [cj,aa,Option.isNone_iff_eq_none] at hk
  rw [hk.1.1.2] at hd
  cases hd
 case HZ=>simp only [cj,aa] at hk;exact (kh hk.2 hl).elim
 case sM k s =>
  simp only [cj,aa] at hk
  obtain ⟨_,hk⟩:=hk
  split at hk
  ·simp only [aa] at hk
   exact (kh hk.2 hl).elim
  ·cases hk
 case sL k s n =>
  simp only [cj,aa,Option.isNone_iff_eq_none] at hk
  rw [hk.1.1] at hd
  cases hd
 case pO f n bO i m =>
  simp only [cj,aa] at hk
  obtain ⟨d,h1,h2,h3,-⟩:=base [] hk.2
  simp only [dt] at hg
  split at hg
  ·rw [aC] at hg
   obtain ⟨_,hg⟩:=hg
   cases hg
   exact ⟨d,.no,h1,h2,h3,fun _=>rfl,rfl,rfl,trivial⟩
  ·cases hg
 case MT b =>
  cases b with
  | true =>
   obtain ⟨d,h1,h2,h3,-⟩:=base [] hk
   simp only [dt,if_true,aB] at hg
   exact ⟨d,.no,h1,h2,h3,fun _=>hg.symm,rfl,rfl,trivial⟩
  | false =>
   simp only [cj,aa,Option.isNone_iff_eq_none] at hk
   rw [hk.1] at hd
   cases hd
 case DN=>simp only [cj,aa] at hk;exact (kh hk.2 hl).elim
 case DJ m o n ts =>
  simp only [cj,aa,Option.isNone_iff_eq_none] at hk
  rw [hk.1.1.1.2] at hd
  cases hd
 case yE k =>
  simp only [cj,aa] at hk
  obtain ⟨d,h1,h2,h3,-⟩:=base [] hk.2
  simp only [dt] at hg
  split at hg
  ·rw [aC] at hg
   obtain ⟨_,hg⟩:=hg
   cases hg
   exact ⟨d,.no,h1,h2,h3,fun _=>rfl,rfl,rfl,trivial⟩
  ·cases hg
 case rQ k s n agg =>
  simp only [cj,aa] at hk
  obtain ⟨d,h1,h2,h3,-⟩:=base [] hk.2
  simp only [dt] at hg
  split at hg
  ·rw [aC] at hg
   obtain ⟨_,hg⟩:=hg
   cases hg
   exact ⟨d,.no,h1,h2,h3,fun _=>rfl,rfl,rfl,trivial⟩
  ·cases hg
 case lP k s =>
  simp only [cj,aa] at hk
  obtain ⟨d,h1,h2,h3,-⟩:=base [] hk.2
  simp only [dt] at hg
  split at hg
  ·rename_i k' s0 g0 s1 e
   rw [aC] at hg
   obtain ⟨⟨rfl,rfl⟩,hg⟩:=hg
   cases hg
   cases rs with
   | nil=>simp at e
   | cons r rs =>
    simp only [ah,aj] at e
    have:=e.1 ▸ h.yP r
    exact ⟨d,_,h1,h2,h3,fun _=>rfl,rfl,rfl,this⟩
  ·cases hg
 case KU k o =>
  obtain ⟨d,h1,h2,h3,-⟩:=base [] hk
  simp only [dt] at hg
  split at hg
  ·rename_i k' e
   rw [aC] at hg
   obtain ⟨rfl,hg⟩:=hg
   cases hg
   cases rs with
   | nil=>simp at e
   | cons r rs =>
    simp only [ah,aj] at e
    have:=e.1 ▸ h.yP r
    exact ⟨d,_,h1,h2,h3,fun _=>rfl,rfl,rfl,this⟩
  ·cases hg
 all_goals
  obtain ⟨d,h1,h2,h3,-⟩:=base [] hk
  simp only [dt,aB] at hg
  exact ⟨d,.no,h1,h2,h3,fun _=>hg.symm,rfl,rfl,trivial⟩
theorem DP (h:cL C D σ γ a w) {ops:Array Oper} {j d:Nat} {x:Bool} (hd:d<C.nt) (hj:(ops[j]?).bind (·.dst)=some d) (hx:σ d = .v (.bool x)):yielded ops a.tmps j=some x:=by
 have hs:d<a.tmps.size:=by rw [h.size];exact hd
 have h0:=h.slot d hd
 rw [hx] at h0
 rcases h0 with e | ⟨e,_⟩
 ·cases e
 ·have e2:a.tmps[d]?=some (.bool x):=by
   rw [Array.getElem?_eq_getElem hs]
   have e3:a.tmps.getD d undef=a.tmps[d]:=by simp [Array.getD,hs]
   rw [e3] at e
   generalize a.tmps[d]=y at e
   cases e
   rfl
  simp [yielded,hj,e2]
theorem DO (h:cL C D σ γ a w) {ops:Array Oper} {j d:Nat} (hd:d<C.nt) (hj:(ops[j]?).bind (·.dst)=some d) (hx:σ d = .sk):yielded ops a.tmps j=none:=by
 have hs:d<a.tmps.size:=by rw [h.size];exact hd
 have h0:=h.slot d hd
 rw [hx] at h0
 rcases h0 with e | ⟨e,_⟩
 ·cases e
 ·have e2:a.tmps[d]?=some (.tuple ⟨[]⟩):=by
   rw [Array.getElem?_eq_getElem hs]
   have e3:a.tmps.getD d undef=a.tmps[d]:=by simp [Array.getD,hs]
   rw [e3] at e
   generalize a.tmps[d]=y at e
   cases e with
   | tu e=>cases e;rfl
  simp [yielded,hj,e2]
variable {sg:Nat→c7} {K:Act→World→Prop} {Q:Exit→Act→World→Prop}
theorem step_ok (hE:∀f,dH C.P C.E.gl f (C.E.fs f)∧(C.E.fs f).sg=sg f) {ops:Array Oper} {o:Oper} {m:pK} {Af:Sg} {Jd:Ga} (h:cL C D σ γ a w)
  (ho:dX C.P sg o m=true) (hk:cj C.nt o.dst m=true) (hg:tK C.nt ops o m=true) (c8:small C.nt o.op.operands.toList=true)
  (s1:rn (RS C.E m) m.ds σ Af) (s2:rn (RG m) m.ds γ Jd) (hK:∀D' a' w',cL C D' Af Jd a' w'→K a' w') :
  if Region.wanted o (yielded ops a.tmps) then o.wp C.P a w K Q∨(o.asks C.P a w∧LetsOut Q) else K (a.put o.dst undef) w:=by
 obtain ⟨k,rs,ds,gd⟩:=m
 obtain ⟨dst,op,ty,pos,after,guard⟩:=o
 obtain ⟨ws,r1,l1,rfl⟩:=s1
 obtain ⟨gs,r2,l2,rfl⟩:=s2
 unfold RG at r2
 simp only [RS] at r1
 simp only [tK] at hg
 split at hg
 ·simp only [mo] at r1
  simp only [Region.wanted,if_true]
  exact .inl (B8 hE k h ho hk c8 r1 r2 hK)
 ·rename_i j b t b'
  simp only [aa,beq_iff_eq,ay] at hg
  obtain ⟨⟨⟨⟨rfl,ht⟩,hj⟩,hl⟩,hd⟩:=hg
  split at hj
  ·rename_i d Ub
   have hj:d=t:=by simpa using hj
   subst hj
   simp only [mo] at r1
   cases hx:σ d with
   | v z =>
    cases z with
    | bool x =>
     have hy:=DP h ht Ub hx
     simp only [hx] at r1
     cases hw:x == b with
     | true =>
      simp only [hw] at r1
      have O2:(some x == some b)=true:=by simpa using hw
      simp only [Region.wanted,hy,O2,if_true]
      exact .inl (B8 hE k h ho hk c8 r1 r2 hK)
     | false =>
      simp only [hw] at r1
      have O2:(some x == some b)=false:=by simpa using hw
      simp only [Region.wanted,hy,O2,aY,if_false]
      subst r1
      obtain ⟨d',g,e1,e2,e3,e4,e5,e6,e7⟩:=E2 h hk hl hd r2
      dsimp only at e1 hl l2 hK ⊢
      subst e1
      subst e3
      have:=e4 l2
      subst this
      exact hK _ _ _ (h.put e2 (.inr ⟨.tu .nil,fun h=>absurd rfl h⟩) e5 e6 e7)
    | _=>simp only [hx] at r1
   | tu l =>
    cases l with
    | cons y l=>simp only [hx] at r1
    | nil =>
     have hy:=DO h ht Ub hx
     simp only [hx] at r1
     have O2:((none:Option Bool) == some b)=false:=rfl
     simp only [Region.wanted,hy,O2,aY,if_false]
     subst r1
     obtain ⟨d',g,e1,e2,e3,e4,e5,e6,e7⟩:=E2 h hk hl hd r2
     dsimp only at e1 hl l2 hK ⊢
     subst e1
     subst e3
     have:=e4 l2
     subst this
     exact hK _ _ _ (h.put e2 (.inr ⟨.tu .nil,fun h=>absurd rfl h⟩) e5 e6 e7)
   | _=>simp only [hx] at r1
  ·cases hj
 ·cases hg
abbrev yH (P:Program) (sg:Nat→c7) (nt:Nat) (ops:Array Oper) (o:Oper) (m:pK):Bool :=
 dX P sg o m&&cj nt o.dst m&&tK nt ops o m&&small nt o.op.operands.toList
theorem B2 (hE:∀f,dH C.P C.E.gl f (C.E.fs f)∧(C.E.fs f).sg=sg f) {ops:Array Oper} {dz:Sg} {nT:Ga}:∀{os:List Oper} {ms:List pK} {D:j0} {σ:Sg} {γ:Ga} {a:Act} {w:World},cL C D σ γ a w →
  kj (yH C.P sg C.nt ops) os ms=true→CF C.E ms σ γ dz nT→(∀D' a' w',cL C D' dz nT a' w'→Q .normal a' w')→wpList C.P ops Q os a w
 | [],[],_,_,_,_,_,h,_,⟨e1,e2⟩,hQ=>by subst e1;subst e2;exact hQ _ _ _ h
 | o :: os,m :: ms,_,_,_,_,_,h,hc,⟨Af,Jd,s1,s2,hr⟩,hQ=>by
  simp only [kj,yH,aa] at hc
  obtain ⟨⟨⟨⟨c1,c2⟩,c3⟩,c4⟩,c5⟩:=hc
  unfold wpList
  exact step_ok hE h c1 c2 c3 c4 s1 s2 fun D' a' w' h'=>B2 hE h' (by simpa only [kj,yH] using c5) hr hQ
 | [],_ :: _,_,_,_,_,_,_,hc,_,_=>by simp [kj] at hc
 | _ :: _,[],_,_,_,_,_,_,hc,_,_=>by simp [kj] at hc
end
end Go.Eng
namespace Go.Eng
open Go.RowKit
theorem ph {A B:Type} {f:A→B→Bool}:∀{as:List A} {bs:List B} {i:Nat} {x:A},kj f as bs=true→as[i]?=some x→∃y,bs[i]?=some y∧f x y=true
 | a :: as,b :: bs,0,x,h,e=>by
  simp only [kj,aa] at h
  simp only [List.getElem?_cons_zero,aB] at e
  subst e
  exact ⟨b,rfl,h.1⟩
 | a :: as,b :: bs,i+1,x,h,e=>by
  simp only [kj,aa] at h
  simp only [List.getElem?_cons_succ] at e ⊢
  exact ph h.2 e
 | [],_,_,_,_,e=>by simp at e
 | _ :: _,[],_,_,h,_=>by simp [kj] at h
theorem pg {A B:Type} {f:A→B→Bool}:∀{as:List A} {bs:List B},kj f as bs=true→as.length=bs.length
 | [],[],_=>rfl
 | _ :: _,_ :: _,h=>by simp only [kj,aa] at h;simp [pg h.2]
 | [],_ :: _,h=>by simp [kj] at h
 | _ :: _,[],h=>by simp [kj] at h
section
variable {L:Nat→Prop} {ops:List Oper}
theorem rh (ja:∀i o,ops[i]?=some o→L i→∀e∈tl o,L e):∀(rest pre:List Oper) (acc:List (List Nat)),ops=pre++rest→acc.length=pre.length →
  (∀i o,i<acc.length→ops[i]?=some o→(∀e∈tl o,L e)→∀j∈acc.getD i [],L j) →
  ∀i o,ops[i]?=some o→(∀e∈tl o,L e)→∀j∈(rest.foldl (fun acc o=>acc++[(tl o).flatMap fun e=>e :: (acc.getD e [])]) acc).getD i [],L j
 | [],pre,acc,e,hl,inv=>by
  intro i o hi hb j hj
  simp only [aU] at e
  subst e
  have:i<acc.length:=by
   rw [hl]
   exact (aE.1 hi).1
  exact inv i o this hi hb j hj
 | r :: rest,pre,acc,e,hl,inv=>by
  simp only [List.foldl_cons]
  refine rh ja rest (pre++[r]) _ (by simp [e]) (by simp [hl]) ?_
  intro i o hi ho hb j hj
  by_cases eO:i<acc.length
  ·rw [ak,List.getElem?_append_left eO,←ak] at hj
   exact inv i o eO ho hb j hj
  ·have A6:i=acc.length:=by simp at hi;omega
   subst A6
   rw [ak,aJ (Nat.le_refl _)] at hj
   simp only [Nat.sub_self,List.getElem?_cons_zero,Option.getD_some,List.mem_flatMap,bh] at hj
   have hr:o=r:=by
    rw [e,hl,aJ (Nat.le_refl _)] at ho
    simpa using ho.symm
   subst hr
   obtain ⟨x,hx,rfl | hj⟩:=hj
   ·exact hb _ hx
   ·by_cases Qw:x<acc.length
    ·have TY:x<ops.length:=by rw [e];simp;omega
     exact inv x _ Qw (aA TY) (ja x _ (aA TY) (hb x hx)) j hj
    ·simp [List.getD,List.getElem?_eq_none (Nat.le_of_not_lt Qw)] at hj
theorem Br (ja:∀i o,ops[i]?=some o→L i→∀e∈tl o,L e) {i:Nat} {o:Oper} (hi:ops[i]?=some o) (hb:∀e∈tl o,L e):∀j∈(Cs ops).getD i [],L j :=
 rh ja ops [] [] rfl rfl (fun _ _ h=>by simp at h) i o hi hb
end
theorem wy {A:Type} {l:List A} {p:A × Nat→Bool} (h:l.zipIdx.all p=true) {i:Nat} {x:A} (hi:l[i]?=some x):p (x,i)=true :=
 aL.1 h _ (List.mem_zipIdx_iff_getElem?.2 (by simpa using hi))
theorem zu (l:Array Bool) (i x:Nat) (d:Bool):(l.setIfInBounds i true).getD x d=if i=x then (if i<l.size then true else d) else l.getD x d:=by
 simp only [Array.getD_eq_getD_getElem?,Array.getElem?_setIfInBounds]
 split
 ·split <;> rfl
 ·rfl
def fu (n:Nat) (listed:Array Bool):List Nat:=(List.range n).filter fun i=>!listed.getD i true
theorem yy {n i:Nat} {listed:Array Bool} (hs:listed.size=n) (hi:i<n):fu n (listed.setIfInBounds i true)=(fu n listed).filter (fun j=>decide (j≠i)):=by
 simp only [fu,List.filter_filter]
 apply List.filter_congr
 intro j hj
 have hj:j<n:=by simpa using hj
 by_cases h:j=i
 ·subst h
  simp [Array.getD,hs,hi]
 ·have:i≠j:=fun e=>h e.symm
  simp [Array.getD,hs,hj,Array.getElem_setIfInBounds,h,this]
section
variable {C:Ctx} {sg:Nat→c7} {Q:Exit→Act→World→Prop}
theorem uI {listed:Array Bool} {n i:Nat} (hs:listed.size=n) (hi:i<n):listed.getD i true=listed.getD i false:=by simp [Array.getD,hs,hi]
theorem ME (hE:∀f,dH C.P C.E.gl f (C.E.fs f)∧(C.E.fs f).sg=sg f) {ops:Array Oper} {ms:List pK} (hc:kj (yH C.P sg C.nt ops) ops.toList ms=true) (Ph:wX ops.toList ms=true)
  {dz:Sg} {nT:Ga} (hQ:∀D' a' w',cL C D' dz nT a' w'→Q .normal a' w') :
  ∀(fuel:Nat) {listed:Array Bool} {D:j0} {σ:Sg} {γ:Ga} {a:Act} {w:World},cL C D σ γ a w→listed.size=ops.size →
   (∀i o,ops.toList[i]?=some o→listed.getD i false=true→∀e∈tl o,listed.getD e false=true) →
   (fu ops.size listed).length≤fuel→CF C.E ((fu ops.size listed).filterMap (ms[·]?)) σ γ dz nT→wpAny C.P .any ops Q fuel listed a w:=by
 simp only [wX,aa] at Ph
 obtain ⟨WI,ja⟩:=Ph
 -- where nothing is ready,nothing fu
 have A4:∀{listed:Array Bool},listed.size=ops.size→Region.ready .any ops listed=[]→fu ops.size listed=[]:=by
  intro listed hs hr
  cases FL:fu ops.size listed with
  | nil=>rfl
  | cons i rest =>
   exfalso
   have qO:i∈fu ops.size listed:=by rw [FL];exact List.mem_cons_self ..
   have JY:=qO
   simp only [fu,List.mem_filter,List.mem_range,Bool.not_eq_true'] at JY
   obtain ⟨hi,hl⟩:=JY
   have y9:(fu ops.size listed).Pairwise (· < ·):=List.Pairwise.filter _ List.pairwise_lt_range
   have vf:ops.toList[i]?=some ops[i]:=by simp [hi]
   have hb:=wy WI vf
   have:i∈Region.ready .any ops listed:=by
    simp only [Region.ready,List.mem_filter,List.mem_range]
    refine ⟨hi,?_⟩
    simp only [hl,bq,Bool.true_and,Array.getElem?_eq_getElem hi,Option.map_some,Option.getD_some,Array.all_eq_true_iff_forall_mem,Bool.or_eq_true,Bool.not_eq_true']
    intro e he
    cases PQ:Region.binds .any e with
    | false=>exact .inl rfl
    | true =>
     right
     have eO:e.on<i:=by
      have:e.on∈tl ops[i]:=aO.2 ⟨e,List.mem_filter.2 ⟨by simpa using he,PQ⟩,rfl⟩
      have zk:=aL.1 hb _ this
      simpa using zk
     cases hle:listed.getD e.on false with
     | true=>rfl
     | false =>
      have th:e.on∈fu ops.size listed:=by
       simp only [fu,List.mem_filter,List.mem_range,Bool.not_eq_true']
       exact ⟨by omega,by rw [uI hs (by omega)];exact hle⟩
      rw [FL] at th y9
      rcases bh.1 th with h | h
      ·omega
      ·have:=(List.pairwise_cons.1 y9).1 _ h
       omega
   rw [hr] at this
   cases this
 intro fuel
 induction fuel with
 | zero =>
  intro listed D σ γ a w h hs xo hf hr
  have h0:fu ops.size listed=[]:=by simpa using hf
  rw [h0] at hr
  obtain ⟨e1,e2⟩:=hr
  subst e1;subst e2
  refine ⟨?_,hQ _ _ _ h⟩
  cases LS:Region.ready .any ops listed with
  | nil=>rfl
  | cons i rest =>
   have:i∈Region.ready .any ops listed:=by rw [LS];exact List.mem_cons_self ..
   simp only [Region.ready,List.mem_filter,List.mem_range,aa] at this
   have h1:i∈fu ops.size listed:=by
    simp only [fu,List.mem_filter,List.mem_range]
    exact ⟨this.1,this.2.1⟩
   rw [h0] at h1
   cases h1
 | succ fuel ih =>
  intro listed D σ γ a w h hs xo hf hr
  refine ⟨fun LS=>?_,fun i hi=>?_⟩
  ·rw [A4 hs LS] at hr
   obtain ⟨e1,e2⟩:=hr
   subst e1;subst e2
   exact hQ _ _ _ h
  ·simp only [Region.ready,List.mem_filter,List.mem_range,aa] at hi
   obtain ⟨th,PE,T9⟩:=hi
   have PC:i∈fu ops.size listed:=by
    simp only [fu,List.mem_filter,List.mem_range]
    exact ⟨th,PE⟩
   have vf:ops.toList[i]?=some ops[i]:=by simp [th]
   simp only [Array.getElem?_eq_getElem th,Option.map_some,Option.getD_some,Array.all_eq_true_iff_forall_mem,Bool.or_eq_true,Bool.not_eq_true'] at T9
   have J7:∀e∈tl ops[i],listed.getD e false=true:=by
    intro e he
    simp only [tl,aO,List.mem_filter] at he
    obtain ⟨x,⟨hx,hb⟩,rfl⟩:=he
    rcases T9 x (by simpa using hx) with h | h
    ·rw [hb] at h;cases h
    ·exact h
   obtain ⟨A,B,Mf⟩:=List.append_of_mem PC
   have y9:(fu ops.size listed).Pairwise (· < ·):=List.Pairwise.filter _ List.pairwise_lt_range
   rw [Mf,List.pairwise_append] at y9
   obtain ⟨-,hB,hA⟩:=y9
   have Uw:∀j∈A,j<i:=fun j hj=>hA j hj i (List.mem_cons_self ..)
   have W9:∀j∈B,i<j:=fun j hj=>(List.pairwise_cons.1 hB).1 j hj
   obtain ⟨m,hm,C7⟩:=ph hc vf
   rw [Mf,List.filterMap_append,List.filterMap_cons,hm] at hr
   have L5:=ui hr (fun n hn=>by
    obtain ⟨j,hj,Wx⟩:=List.mem_filterMap.1 hn
    have h1:=wy ja hm
    have QF:j<i:=Uw j hj
    have h2:=wy h1 (i:=j) (x:=n) (by rw [aM,aH QF];exact Wx)
    simp only [Bool.or_eq_true,Bool.not_eq_true',List.contains_eq_mem,ay] at h2
    rcases h2 with h2 | h2
    ·exact h2
    ·exfalso
     have h3:=Br (L:=fun e=>listed.getD e false=true) xo vf J7 j h2
     have h4:j∈fu ops.size listed:=by rw [Mf];exact List.mem_append_left _ hj
     simp only [fu,List.mem_filter,List.mem_range,Bool.not_eq_true'] at h4
     rw [uI hs h4.1,h3] at h4
     cases h4.2)
   obtain ⟨Af,Jd,s1,s2,vp⟩:=L5
   simp only [yH,aa] at C7
   obtain ⟨⟨⟨c1,c2⟩,c3⟩,c4⟩:=C7
   simp only [wpOp,Array.getElem?_eq_getElem th]
   refine step_ok hE h c1 c2 c3 c4 s1 s2 fun D' a' w' h'=>?_
   have pD:fu ops.size (listed.setIfInBounds i true)=A++B:=by
    rw [yy hs th,Mf,List.filter_append,List.filter_cons]
    simp only [ne_eq,not_true_eq_false,decide_false,aY,if_false]
    rw [List.filter_eq_self.2 (fun j hj=>by have:=Uw j hj;simp;omega),List.filter_eq_self.2 (fun j hj=>by have:=W9 j hj;simp;omega)]
   refine ih h' (by simp [hs]) ?_ ?_ ?_
   ·intro j o hj QF e he
    have qL:∀x,listed.getD x false=true→(listed.setIfInBounds i true).getD x false=true:=by
     intro x hx
     rw [zu]
     split
     ·rename_i WA
      subst WA
      rw [aH (by rw [hs];exact th)]
     ·exact hx
    by_cases T8:j=i
    ·subst T8
     rw [vf] at hj
     cases hj
     exact qL _ (J7 e he)
    ·refine qL _ (xo j o hj ?_ e he)
     have WB:i≠j:=fun e=>T8 e.symm
     rw [zu,aD WB] at QF
     exact QF
   ·rw [pD]
    rw [Mf] at hf
    simp at hf ⊢
    omega
   ·rw [pD,List.filterMap_append]
    exact vp
theorem nJ {A:Type}:∀(ms:List A),(List.range ms.length).filterMap (ms[·]?)=ms
 | []=>rfl
 | m :: ms=>by
  rw [aP,List.range_succ_eq_map,List.filterMap_cons]
  simp only [List.getElem?_cons_zero,List.filterMap_map,Function.comp_def,List.getElem?_cons_succ]
  rw [nJ ms]
theorem CH (hE:∀f,dH C.P C.E.gl f (C.E.fs f)∧(C.E.fs f).sg=sg f) {id:Nat} {ops:Array Oper} {draw:Bool} {ms:List pK} {G G':GL} {D:j0} {σ dz:Sg} {a:Act} {w:World}
  (hr:EA C.P sg C.nt ops draw ms=true) (hg:Dm ms G=some G') (h:cL C D σ G.get a w) (hs:Eu C.E ms σ dz) (hQ:∀D' a' w',cL C D' dz G'.get a' w'→Q .normal a' w'):(Code.region id ops draw).wp C.P Q a w:=by
 simp only [EA,aa] at hr
 obtain ⟨hc,hd⟩:=hr
 have cK:=BJ hs hg
 cases draw with
 | false=>exact wp_region_list (B2 hE h hc cK hQ)
 | true =>
  simp only [a8,Bool.false_or,aa] at hd
  have hlen:ops.size=ms.length:=by have:=pg hc;simpa using this
  have FL:fu ops.size (Array.replicate ops.size false)=List.range ops.size:=by
   simp only [fu]
   apply List.filter_eq_self.2
   intro i hi
   have hi:i<ops.size:=by simpa using hi
   simp [Array.getD,hi]
  refine wp_region_any hd.1 (ME hE hc hd.2 hQ ops.size h.drew (by simp) ?_ (by rw [FL];simp) ?_)
  ·intro i o _ hl
   exfalso
   by_cases hi:i<ops.size <;> simp [Array.getD,hi] at hl
  ·rw [FL,hlen,nJ]
   exact cK
end
end Go.Eng
