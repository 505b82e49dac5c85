/- Texts of my own, one behind the other: EngP, EngQ, EngQa, EngQb, EngQc, EngQd, EngQe, EngQf, EngQg, EngQh, EngQi, EngQj, EngQk, EngQl, EngQm, EngQn, EngQo, EngR, EngS, EngT. -/
import Derived.Test.YtfomkedednklbaaGreatDoorT1
import Derived.Lib.SliceRun
import Derived.Laws.Externs
set_option linter.unusedVariables false
set_option linter.unusedSimpArgs false
namespace Go.Eng
open Go.RowKit
section
variable {C:Ctx} {sg:Nat→c7}
theorem mi {D:kf} {σ:Sg} {γ:Ga} {a:Act} {w:World} (h:cN C D σ γ a w) {x:Operand} {r:cR} {k:IntKind} {i:Int} (hx:bU x r=true) (hs:small C.nt [x]=true) (hr:r.ev C.E σ = .v (.int k i)):a.eval x = .int k i:=by
 have e1:=(h.gE hx hs).rep (by rw [hr];simp)
 rw [hr] at e1
 exact e1.fF
theorem pX {r:cR} {m:Nat} (h:(match r with | cR.s t=>some t | _=>none)=some m):r = .s m:=by
 cases r <;> simp at h;subst h;rfl
theorem lE:∀{rs:List cR} {ks:List Nat},(rs.map fun r=>match r with | cR.s t=>some t | _=>none)=ks.map some→rs=ks.map cR.s
 | [],[],_=>rfl
 | r :: rs,k :: ks,h=>by
  simp only [ah,aj] at h
  rw [pX h.1,lE h.2];rfl
 | [],_ :: _,h=>by simp at h
 | _ :: _,[],h=>by simp at h
theorem Ru {s:Nat} {lo hi:Bool}:cF C sg (.sc s lo hi):=by
 intro D σ γ a w dst op ty pos after guard rs ds gd ws gs K' Q h ho hk de hs hg hK
 obtain ⟨d,rfl,hl,rfl⟩:=eF (l:=[]) hk
 simp only [dw,aB] at hg
 subst hg
 simp only [ee] at ho
 split at ho
 ·rename_i t x l u
  simp only [aa,beq_iff_eq] at ho
  obtain ⟨⟨⟨ht,h1⟩,h2⟩,ho⟩:=ho
  obtain ⟨e,i,q1,q2,q3,q4⟩:=kA ht
  subst h1;subst h2
  cases l with
  | none =>
   cases u with
   | none =>
    obtain ⟨r,rfl,hx⟩:=ka ho
    simp only [Option.isSome_none,ah,aq,eo] at hs
    split at hs
    ·rename_i s' es heq
     simp only [aj,and_true] at heq
     obtain ⟨rfl,rfl⟩:=hs
     exact B8 (l:=0) (u:=es.length) h rfl hl rfl q1 q2 q3 hx (bI de (by simp [Op.operands])) heq (.inl ⟨rfl,rfl⟩) (.inl ⟨rfl,rfl⟩) (by omega) (by omega) (by simpa [bP] using hK)
    ·cases hs
   | some y =>
    obtain ⟨r,q,rfl,hx,hy⟩:=iE ho
    simp only [Option.isSome_none,Option.isSome_some,ah,aq,eo] at hs
    split at hs
    ·rename_i s' es k b heq
     simp only [aj,and_true] at heq
     obtain ⟨rfl,p1,p2,rfl⟩:=hs
     have hb:=mi h hy (bI de (by simp [Op.operands])) heq.2
     exact B8 (l:=0) (u:=b.toNat) h rfl hl rfl q1 q2 q3 hx (bI de (by simp [Op.operands])) heq.1 (.inl ⟨rfl,rfl⟩) (.inr ⟨y,k,rfl,by rw [hb];congr 1;omega⟩) (by omega) (by omega) (by simpa [bP] using hK)
    ·cases hs
  | some y =>
   cases u with
   | none =>
    obtain ⟨r,q,rfl,hx,hy⟩:=iE ho
    simp only [Option.isSome_none,Option.isSome_some,ah,aq,eo] at hs
    split at hs
    ·rename_i s' es k b heq
     simp only [aj,and_true] at heq
     obtain ⟨rfl,p1,p2,rfl⟩:=hs
     have hb:=mi h hy (bI de (by simp [Op.operands])) heq.2
     exact B8 (l:=b.toNat) (u:=es.length) h rfl hl rfl q1 q2 q3 hx (bI de (by simp [Op.operands])) heq.1 (.inr ⟨y,k,rfl,by rw [hb];congr 1;omega⟩) (.inl ⟨rfl,rfl⟩) (by omega) (by omega) (by simpa [bP] using hK)
    ·cases hs
   | some z =>
    obtain ⟨r,q,q',rfl,hx,hy,hz⟩:=ET ho
    simp only [Option.isSome_some,ah,aq,eo] at hs
    split at hs
    ·rename_i s' es k b k' c heq
     simp only [aj,and_true] at heq
     obtain ⟨rfl,p1,p2,p3,rfl⟩:=hs
     have hb:=mi h hy (bI de (by simp [Op.operands])) heq.2.1
     have hc:=mi h hz (bI de (by simp [Op.operands])) heq.2.2
     exact B8 (l:=b.toNat) (u:=c.toNat) h rfl hl rfl q1 q2 q3 hx (bI de (by simp [Op.operands])) heq.1 (.inr ⟨y,k,rfl,by rw [hb];congr 1;omega⟩) (.inr ⟨z,k',rfl,by rw [hc];congr 1;omega⟩) (by omega) (by omega) hK
    ·cases hs
 ·cases ho
theorem Rs {lo hi:Bool}:cF C sg (.ss lo hi):=by
 intro D σ γ a w dst op ty pos after guard rs ds gd ws gs K' Q h ho hk de hs hg hK
 obtain ⟨d,rfl,hl,rfl⟩:=eF (l:=[]) hk
 simp only [dw,aB] at hg
 subst hg
 simp only [ee] at ho
 split at ho
 ·rename_i t x l u
  simp only [aa,beq_iff_eq] at ho
  obtain ⟨⟨⟨ht,h1⟩,h2⟩,ho⟩:=ho
  have q1:=gj ht
  subst h1;subst h2
  cases l with
  | none =>
   cases u with
   | none =>
    obtain ⟨r,rfl,hx⟩:=ka ho
    simp only [Option.isSome_none,ah,aq,eo] at hs
    split at hs
    ·rename_i b heq
     simp only [aj,and_true] at heq
     subst hs
     have e:(⟨⟨(b.data.toList.take b.data.toList.length).drop 0⟩⟩:ByteArray)=b:=by cases b with | mk t=>cases t;simp
     exact B7 (l:=0) (u:=b.data.toList.length) h rfl hl rfl q1 hx (bI de (by simp [Op.operands])) heq (.inl ⟨rfl,rfl⟩) (.inl ⟨rfl,rfl⟩) (by omega) (by omega) (by rw [e];exact hK)
    ·cases hs
   | some y =>
    obtain ⟨r,q,rfl,hx,hy⟩:=iE ho
    simp only [Option.isSome_none,Option.isSome_some,ah,aq,eo] at hs
    split at hs
    ·rename_i b k c heq
     simp only [aj,and_true] at heq
     obtain ⟨p1,p2,rfl⟩:=hs
     have hb:=mi h hy (bI de (by simp [Op.operands])) heq.2
     exact B7 (l:=0) (u:=c.toNat) h rfl hl rfl q1 hx (bI de (by simp [Op.operands])) heq.1 (.inl ⟨rfl,rfl⟩) (.inr ⟨y,k,rfl,by rw [hb];congr 1;omega⟩) (by omega) (by omega) (by simpa [bP] using hK)
    ·cases hs
  | some y =>
   cases u with
   | none =>
    obtain ⟨r,q,rfl,hx,hy⟩:=iE ho
    simp only [Option.isSome_none,Option.isSome_some,ah,aq,eo] at hs
    split at hs
    ·rename_i b k c heq
     simp only [aj,and_true] at heq
     obtain ⟨p1,p2,rfl⟩:=hs
     have hb:=mi h hy (bI de (by simp [Op.operands])) heq.2
     exact B7 (l:=c.toNat) (u:=b.data.toList.length) h rfl hl rfl q1 hx (bI de (by simp [Op.operands])) heq.1 (.inr ⟨y,k,rfl,by rw [hb];congr 1;omega⟩) (.inl ⟨rfl,rfl⟩) (by omega) (by omega) (by rw [List.take_length];exact hK)
    ·cases hs
   | some z =>
    obtain ⟨r,q,q',rfl,hx,hy,hz⟩:=ET ho
    simp only [Option.isSome_some,ah,aq,eo] at hs
    split at hs
    ·rename_i b k c k' e heq
     simp only [aj,and_true] at heq
     obtain ⟨p1,p2,p3,rfl⟩:=hs
     have hb:=mi h hy (bI de (by simp [Op.operands])) heq.2.1
     have hc:=mi h hz (bI de (by simp [Op.operands])) heq.2.2
     exact B7 (l:=c.toNat) (u:=e.toNat) h rfl hl rfl q1 hx (bI de (by simp [Op.operands])) heq.1 (.inr ⟨y,k,rfl,by rw [hb];congr 1;omega⟩) (.inr ⟨z,k',rfl,by rw [hc];congr 1;omega⟩) (by omega) (by omega) hK
    ·cases hs
 ·cases ho
theorem RY {s n:Nat}:cF C sg (.bl s n):=by
 intro D σ γ a w dst op ty pos after guard rs ds gd ws gs K' Q h ho hk de hs hg hK
 obtain ⟨d,rfl,hl,rfl⟩:=eF (l:=[]) hk
 simp only [dw,aB] at hg
 subst hg
 simp only [ee] at ho
 split at ho
 ·simp only [aa,beq_iff_eq,az] at ho
  obtain ⟨⟨⟨⟨h1,rfl⟩,h3⟩,h4⟩,h5⟩:=ho
  simp only [eo] at hs
  obtain ⟨p1,p2,rfl⟩:=hs
  exact N5 h rfl hl rfl h1 h3 h4 h5 (gn de (by simp [Op.operands])) p2 hK
 ·cases ho
theorem OS {s n k:Nat}:cF C sg (.blt s n k):=by
 intro D σ γ a w dst op ty pos after guard rs ds gd ws gs K' Q h ho hk de hs hg hK
 simp only [cq,aa] at hk
 obtain ⟨⟨j7,eH⟩,gM⟩:=hk
 obtain ⟨d,rfl,hl,rfl⟩:=eF gM
 simp only [ee] at ho
 split at ho
 ·rename_i t len parts
  simp only [aa,beq_iff_eq,az] at ho
  obtain ⟨⟨⟨⟨⟨h1,rfl⟩,h3⟩,h4⟩,h5⟩,h6⟩:=ho
  simp only [eo] at hs
  obtain ⟨p1,p2,rfl⟩:=hs
  simp only [dw] at hg
  split at hg
  ·rename_i jW
   cases hg
   rw [←List.map_drop] at jW
   have Gb:(rs.drop len).length=1:=by simp;omega
   obtain ⟨q,hq⟩:=km Gb
   rw [hq] at jW eH
   simp only [ah,aq,aj,and_true] at jW
   simp only [ah,aq,beq_iff_eq,aj,and_true] at eH
   have As:=pX eH
   subst As
   rw [←List.map_take] at p2
   simp only [←List.map_take] at hK
   exact Lr h rfl hl rfl h1 h3 h4 h5 (gn de (by simp [Op.operands])) p2 jW hK
  ·cases hg
 ·cases ho
theorem R3 {z:List AV} {pl:List (Nat × Nat)}:cF C sg (.bd z pl):=by
 intro D σ γ a w dst op ty pos after guard rs ds gd ws gs K' Q h ho hk de hs hg hK
 obtain ⟨d,rfl,hl,rfl⟩:=eF (l:=[]) hk
 simp only [dw,aB] at hg
 subst hg
 simp only [ee] at ho
 split at ho
 ·simp only [aa] at ho
  obtain ⟨⟨h1,h2⟩,h3⟩:=ho
  simp only [eo] at hs
  obtain ⟨cs,p1,rfl⟩:=hs
  exact N7 h rfl hl rfl h1 h2 h3 (gn de (by simp [Op.operands])) p1 hK
 ·cases ho
theorem R6 {m:Nat} {z:List AV} {ts:List (Nat × (Nat × Nat))}:cF C sg (.al m z ts):=by
 intro D σ γ a w dst op ty pos after guard rs ds gd ws gs K' Q h ho hk de hs hg hK
 simp only [cq,aa,az,beq_iff_eq,aT,Nat.zero_add] at hk
 obtain ⟨⟨⟨vq,xv⟩,j7,eH⟩,gM⟩:=hk
 obtain ⟨d,rfl,hl,rfl⟩:=eF gM
 simp only [ee] at ho
 split at ho
 ·simp only [aa] at ho
  obtain ⟨h1,h2⟩:=ho
  simp only [eo] at hs
  subst hs
  simp only [dw] at hg
  split at hg
  ·rename_i hc
   cases hg
   obtain ⟨c1,c2,c3⟩:=hc
   have pH:=lE eH
   subst pH
   simp only [aW,aL,aP,az] at c2
   refine N8 h rfl hl rfl h1 (fun q hq=>?_) (c2 _ ⟨m,by simp,rfl⟩) vq xv (fun t ht=>c2 _ ⟨lk t.2.1,bm.2 (.inr (aP.2 ⟨t,ht,rfl⟩)),rfl⟩) c3 hK
   have:=aL.1 h2 q hq
   split at this
   ·exact ⟨_,‹_›⟩
   ·cases this
  ·cases hg
 ·cases ho
theorem RW {m:Nat}:cF C sg (.bx m):=by
 intro D σ γ a w dst op ty pos after guard rs ds gd ws gs K' Q h ho hk de hs hg hK
 simp only [cq,aa,az,beq_iff_eq] at hk
 obtain ⟨⟨⟨vq,xv⟩,j7,eH⟩,gM⟩:=hk
 obtain ⟨d,rfl,hl,rfl⟩:=eF gM
 simp only [ee] at ho
 split at ho
 ·rename_i t x r rest
  simp at j7
  obtain ⟨q,rfl⟩:=km j7
  simp only [List.drop_succ_cons,aT,ah,aq,aj,and_true] at eH
  have hq:=pX eH
  subst hq
  simp only [ah,aq,eo] at hs
  obtain ⟨p1,rfl⟩:=hs
  simp only [ah,aq,dw] at hg
  split at hg
  ·rename_i g heq
   simp only [aj,and_true,cR.gh] at heq
   cases hg
   exact JE h rfl hl rfl ho (bI de (by simp [Op.operands])) p1 heq.2 vq xv hK
  ·cases hg
 ·cases ho
theorem k_ld {m o' n:Nat} {agg:Bool}:cF C sg (.ld m o' n agg):=by
 intro D σ γ a w dst op ty pos after guard rs ds gd ws gs K' Q h ho hk de hs hg hK
 simp only [cq,aa,az,beq_iff_eq] at hk
 obtain ⟨⟨⟨vq,xv⟩,j7,eH⟩,gM⟩:=hk
 obtain ⟨d,rfl,hl,rfl⟩:=eF (l:=[]) gM
 simp only [ee] at ho
 split at ho
 ·rename_i t x r rest
  simp at j7
  obtain ⟨q,rfl⟩:=km j7
  simp only [List.drop_succ_cons,aT,ah,aq,aj,and_true] at eH
  have hq:=pX eH
  subst hq
  simp only [aa] at ho
  obtain ⟨ht,ho⟩:=ho
  obtain ⟨inf,h1,h2,h3,h4⟩:=gC ht
  simp only [ah,aq,eo] at hs
  split at hs
  ·rename_i cs heq
   simp only [aj,and_true,cR.ev] at heq
   obtain ⟨x',p1,rfl⟩:=hs
   simp only [ah,aq,dw] at hg
   split at hg
   ·rename_i m' M0 ts dr
    simp only [aj,and_true,cR.gh] at dr
    split at hg
    ·rename_i hc
     obtain ⟨rfl,rfl⟩:=hc
     cases hg
     exact JD h rfl hl rfl h1 h2 h3 h4 ho (bI de (by simp [Op.operands])) heq.1 dr.1 dr.2 heq.2 p1 hK
    ·cases hg
   ·cases hg
  ·cases hs
 ·cases ho
theorem Rr {m o' n:Nat}:cF C sg (.st m o' n):=by
 intro D σ γ a w dst op ty pos after guard rs ds gd ws gs K' Q h ho hk de hs hg hK
 simp only [cq,aa,az,beq_iff_eq,Option.isNone_iff_eq_none] at hk
 obtain ⟨⟨⟨⟨vq,xv⟩,rfl⟩,rfl⟩,eH⟩:=hk
 simp only [ee] at ho
 split at ho
 ·rename_i t x v p q r
  simp only [aa,beq_iff_eq] at ho
  obtain ⟨⟨ht,hx⟩,hv⟩:=ho
  obtain ⟨inf,h1,h2⟩:=fZ ht
  cases q with
  | s j =>
   simp at eH
   subst eH
   simp only [ah,aq,eo] at hs
   split at hs
   ·rename_i cs y heq
    simp only [aj,and_true,cR.ev] at heq
    obtain ⟨e1,e2,e3⟩:=heq
    obtain ⟨p1,p2,p3,rfl⟩:=hs
    subst e3
    simp only [ah,aq,dw] at hg
    split at hg
    ·rename_i m' M0 ts g dr
     simp only [aj,and_true,cR.gh] at dr
     obtain ⟨f1,f2,f3⟩:=dr
     subst f3
     split at hg
     ·rename_i hc
      obtain ⟨rfl,rfl⟩:=hc
      cases hg
      exact JA h rfl rfl h1 h2 hx (bI de (by simp [Op.operands])) hv (bI de (by simp [Op.operands])) e1 f1 f2 e2 p1 p2 p3 hK
     ·cases hg
    ·cases hg
   ·cases hs
  | c=>simp at eH
  | g=>simp at eH
 ·cases ho
theorem RO {m o' dd:Nat}:cF C sg (.fa m o' dd):=by
 intro D σ γ a w dst op ty pos after guard rs ds gd ws gs K' Q h ho hk de hs hg hK
 obtain ⟨d,rfl,hl,rfl⟩:=eF (l:=[]) hk
 simp only [ee] at ho
 split at ho
 ·rename_i t x f r
  simp only [aa] at ho
  obtain ⟨ht,hx⟩:=ho
  cases hf:mH C.P t f with
  | none=>simp [hf] at ht
  | some fl =>
   simp only [hf,Option.any_some,aa,beq_iff_eq] at ht
   obtain ⟨h0,ht⟩:=ht
   cases hz:gZ C.P fl.type with
   | none=>simp [hz] at ht
   | some n =>
    simp [hz] at ht
    obtain ⟨inf,h1,h2⟩:=fZ hz
    obtain ⟨fs,hu,qt⟩:=mh hf
    simp only [ah,aq,eo] at hs
    split at hs
    ·rename_i heq
     simp only [aj,and_true] at heq
     subst hs
     simp only [ah,aq,dw] at hg
     split at hg
     ·rename_i m' M0 dr
      simp only [aj,and_true] at dr
      split at hg
      ·rename_i hc
       obtain ⟨rfl,rfl⟩:=hc
       cases hg
       exact NT h rfl hl rfl hu qt h0 h1 (by omega) hx (bI de (by simp [Op.operands])) heq dr hK
      ·cases hg
     ·cases hg
    ·cases hs
 ·cases ho
theorem RL {o' n:Nat} {agg:Bool}:cF C sg (.fr o' n agg):=by
 intro D σ γ a w dst op ty pos after guard rs ds gd ws gs K' Q h ho hk de hs hg hK
 obtain ⟨d,rfl,hl,rfl⟩:=eF (l:=[]) hk
 simp only [dw,aB] at hg
 subst hg
 simp only [ee] at ho
 split at ho
 ·rename_i t x f r
  simp only [aa] at ho
  obtain ⟨ht,hx⟩:=ho
  cases hf:mH C.P t f with
  | none=>simp [hf] at ht
  | some fl =>
   simp only [hf,Option.any_some,aa,beq_iff_eq,az] at ht
   obtain ⟨⟨h0,ht⟩,hn⟩:=ht
   obtain ⟨inf,h1,h2,h3,h4⟩:=gC ht
   obtain ⟨fs,hu,qt⟩:=mh hf
   simp only [ah,aq,eo] at hs
   split at hs
   ·rename_i cs heq
    simp only [aj,and_true] at heq
    obtain ⟨x',p1,rfl⟩:=hs
    exact NQ h rfl hl rfl hu qt h0 h1 h2 hn h4 hx (bI de (by simp [Op.operands])) heq p1 hK
   ·cases hs
 ·cases ho
theorem Ry {m o':Nat}:cF C sg (.nc m o'):=by
 intro D σ γ a w dst op ty pos after guard rs ds gd ws gs K' Q h ho hk de hs hg hK
 obtain ⟨d,rfl,hl,rfl⟩:=eF (l:=[]) hk
 simp only [ee] at ho
 split at ho
 ·simp only [ah,aq,eo] at hs
  split at hs
  ·rename_i heq
   simp only [aj,and_true] at heq
   subst hs
   simp only [ah,aq,dw] at hg
   split at hg
   ·rename_i m' M0 dr
    simp only [aj,and_true] at dr
    split at hg
    ·rename_i hc
     obtain ⟨rfl,rfl⟩:=hc
     cases hg
     exact NH h rfl hl rfl ho (bI de (by simp [Op.operands])) heq dr hK
    ·cases hg
   ·cases hg
  ·cases hs
 ·cases ho
end
end Go.Eng
namespace Go.Eng
open Go.RowKit
section
variable {C:Ctx} {sg:Nat→c7}
theorem pL {P:Program} {pn:Array TypeId} {s b:Nat} (h1:pn.toList.length=2) (h2:(pn.toList.all fun t=>iD P t s b)=true) :
  ∃t u e i z du,pn=#[t,u]∧P.underlying t=some (.slice e)∧P.info? e=some i∧i.size=s∧i.bytes=b∧i.zero=some z∧z.cells.size=i.size∧P.underlying u=some du∧(∀k,du ≠ .int k):=by
 obtain ⟨t,u,h⟩:=uW h1
 rw [h] at h2
 simp only [List.all_cons,List.all_nil,Bool.and_true,aa] at h2
 obtain ⟨e,i,z,q1,q2,q3,q4,q5,q6,q7⟩:=jM h2.1
 obtain ⟨e',i',z',r1,_⟩:=jM h2.2
 exact ⟨t,u,e,i,z,_,rA h,q1,q2,q3,q4,q5,q6.trans q3.symm,r1,by simp⟩
theorem Ag {P:Program} {pn:Array TypeId} {b:Nat} (h2:(match pn.toList with | [t,u]=>iD P t 1 b&&jT P t&&jS P u | _=>false)=true) :
  ∃t u e i z du,pn=#[t,u]∧P.underlying t=some (.slice e)∧P.info? e=some i∧i.size=1∧i.bytes=b∧i.zero=some z∧z.cells.size=i.size∧P.underlying u=some du∧(∀k,du ≠ .int k):=by
 split at h2
 ·rename_i t u h
  simp only [aa] at h2
  obtain ⟨e,i,z,q1,q2,q3,q4,q5,q6,q7⟩:=jM h2.1.1
  exact ⟨t,u,e,i,z,_,rA h,q1,q2,q3,q4,q5,q6.trans q3.symm,gj h2.2,by simp⟩
 ·cases h2
theorem um {rs:List cR} {n a b:Nat} (h:(rs.drop n).map (fun r=>match r with | cR.s t=>some t | _=>none)=[some a,some b]):rs.drop n=[.s a,.s b] :=
 lE (ks:=[a,b]) h
theorem R4 {k d' s b:Nat}:cF C sg (.ap k d' s b):=by
 intro D σ γ a w dst op ty pos after guard rs ds gd ws gs K' Q h ho hk de hs hg hK
 simp only [cq,aa,beq_iff_eq,ah,aq] at hk
 obtain ⟨⟨j7,eH⟩,gM⟩:=hk
 obtain ⟨d,rfl,hl,rfl⟩:=eF gM
 simp only [ee] at ho
 split at ho
 ·rename_i args pn r q r3 r4
  simp only [aa,beq_iff_eq] at ho
  obtain ⟨⟨ho,h1⟩,h2⟩:=ho
  obtain ⟨t,u,e,i,z,du,rfl,q1,q2,q3,q4,q5,q6,q7,q8⟩:=pL h1 h2
  have ht:=um eH
  simp only [List.drop_succ_cons,aT,aj,and_true] at ht
  obtain ⟨rfl,rfl⟩:=ht
  obtain ⟨x,y,kX⟩:=uW (l:=args.toList) (by rw [fv ho];rfl)
  rw [kX] at ho
  obtain ⟨r',q',te,hx,hy⟩:=iE ho
  simp only [aj,and_true] at te
  obtain ⟨rfl,rfl⟩:=te
  have ea:=rA kX
  subst ea
  simp only [ah,aq,eo] at hs
  split at hs
  ·rename_i s' es mc fs v1 v2 heq
   simp only [aj,and_true] at heq
   obtain ⟨e1,e2,_⟩:=heq
   obtain ⟨rfl,rfl,p1,p2,p3,rfl⟩:=hs
   simp only [ah,aq,dw] at hg
   split at hg
   ·rename_i k1 s1 g s2 dr
    simp only [aj,and_true,cR.gh] at dr
    obtain ⟨g1,g2,g3,g4⟩:=dr
    split at hg
    ·rename_i hc
     obtain ⟨rfl,rfl,rfl,fO⟩:=hc
     cases hg
     have ir:=(h.gE hy (bI de (by simp [Op.operands,Call.operands]))).rep (by rw [e2];simp)
     rw [e2] at ir
     obtain ⟨news,n1,n2,n3⟩:=Source.yS (P:=C.P) ir
     exact E9 (q:=q) h rfl hl rfl q1 q2 q5 q6 q7 q8 q3 hx (bI de (by simp [Op.operands,Call.operands])) e1 g1 g3 g4 fO n1 n2 p1 p2 (by rw [q4];exact p3) hK
    ·cases hg
   ·cases hg
  ·cases hs
 ·cases ho
theorem OW {k d' b:Nat}:cF C sg (.Ku k d' b):=by
 intro D σ γ a w dst op ty pos after guard rs ds gd ws gs K' Q h ho hk de hs hg hK
 simp only [cq,aa,beq_iff_eq,ah,aq] at hk
 obtain ⟨⟨j7,eH⟩,gM⟩:=hk
 obtain ⟨d,rfl,hl,rfl⟩:=eF gM
 simp only [ee] at ho
 split at ho
 ·rename_i args pn r q r3 r4
  simp only [aa] at ho
  obtain ⟨ho,h2⟩:=ho
  obtain ⟨t,u,e,i,z,du,rfl,q1,q2,q3,q4,q5,q6,q7,q8⟩:=Ag h2
  have ht:=um eH
  simp only [List.drop_succ_cons,aT,aj,and_true] at ht
  obtain ⟨rfl,rfl⟩:=ht
  obtain ⟨x,y,kX⟩:=uW (l:=args.toList) (by rw [fv ho];rfl)
  rw [kX] at ho
  obtain ⟨r',q',te,hx,hy⟩:=iE ho
  simp only [aj,and_true] at te
  obtain ⟨rfl,rfl⟩:=te
  have ea:=rA kX
  subst ea
  simp only [ah,aq,eo] at hs
  split at hs
  ·rename_i s' es bb v1 v2 heq
   simp only [aj,and_true] at heq
   obtain ⟨e1,e2,_⟩:=heq
   obtain ⟨rfl,p2,p3,rfl⟩:=hs
   simp only [ah,aq,dw] at hg
   split at hg
   ·rename_i k1 s1 g s2 dr
    simp only [aj,and_true,cR.gh] at dr
    obtain ⟨g1,g2,g3,g4⟩:=dr
    split at hg
    ·rename_i hc
     obtain ⟨rfl,rfl,rfl,fO⟩:=hc
     cases hg
     have ir:=(h.gE hy (bI de (by simp [Op.operands,Call.operands]))).rep (by rw [e2];simp)
     rw [e2] at ir
     have so:Source C.P w 1 (a.eval y) (bb.data.toList.map fg).length (bb.data.toList.map fun b => .int .u8 b.toNat):=by
      rw [ir.fF,aH];exact Source.of_string bb
     exact E9 (q:=q) h rfl hl rfl q1 q2 q5 q6 q7 q8 q3 hx (bI de (by simp [Op.operands,Call.operands])) e1 g1 g3 g4 fO so (by rw [kR];exact nM _)
      (fun e he=>by obtain ⟨x,_,rfl⟩:=aP.1 he;rfl) (by rw [aH];exact p2) (by rw [aH,q4];exact p3) hK
    ·cases hg
   ·cases hg
  ·cases hs
 ·cases ho
theorem Fj {args:List Operand} {q:cR} (h:(match args with | [.const (.slice none 0 0),x]=>bU x q | _=>false)=true):∃x,args=[.const (.slice none 0 0),x]∧bU x q=true:=by
 split at h
 ·exact ⟨_,rfl,h⟩
 ·cases h
theorem R5 {d' s b:Nat}:cF C sg (.an d' s b):=by
 intro D σ γ a w dst op ty pos after guard rs ds gd ws gs K' Q h ho hk de hs hg hK
 simp only [cq,aa,beq_iff_eq,ah,aq] at hk
 obtain ⟨⟨j7,eH⟩,gM⟩:=hk
 obtain ⟨d,rfl,hl,rfl⟩:=eF gM
 simp only [ee] at ho
 split at ho
 ·rename_i args pn q r2
  simp only [aa,beq_iff_eq] at ho
  obtain ⟨⟨ho,h1⟩,h2⟩:=ho
  obtain ⟨t,u,e,i,z,du,rfl,q1,q2,q3,q4,q5,q6,q7,q8⟩:=pL h1 h2
  simp only [List.drop_succ_cons,aT,ah,aq,aj,and_true] at eH
  have hq:=pX eH
  subst hq
  obtain ⟨y,Sd,hy⟩:=Fj ho
  have ea:=rA Sd
  subst ea
  simp only [ah,aq,eo] at hs
  split at hs
  ·rename_i mc fs v1 heq
   simp only [aj,and_true] at heq
   obtain ⟨rfl,p1,p2,p3,rfl⟩:=hs
   simp only [ah,aq,dw] at hg
   split at hg
   ·rename_i g dr
    simp only [aj,and_true,cR.gh] at dr
    cases hg
    have ir:=(h.gE hy (bI de (by simp [Op.operands,Call.operands]))).rep (by rw [heq.1];simp)
    rw [heq.1] at ir
    obtain ⟨news,n1,n2,n3⟩:=Source.yS (P:=C.P) ir
    exact JF h rfl hl rfl q1 q2 q5 q6 q7 q8 q3 dr.2 n1 n2 p1 p2 (by rw [q4];exact p3) hK
   ·cases hg
  ·cases hs
 ·cases ho
theorem OY {d' b:Nat}:cF C sg (.Kw d' b):=by
 intro D σ γ a w dst op ty pos after guard rs ds gd ws gs K' Q h ho hk de hs hg hK
 simp only [cq,aa,beq_iff_eq,ah,aq] at hk
 obtain ⟨⟨j7,eH⟩,gM⟩:=hk
 obtain ⟨d,rfl,hl,rfl⟩:=eF gM
 simp only [ee] at ho
 split at ho
 ·rename_i args pn q r2
  simp only [aa] at ho
  obtain ⟨ho,h2⟩:=ho
  obtain ⟨t,u,e,i,z,du,rfl,q1,q2,q3,q4,q5,q6,q7,q8⟩:=Ag h2
  simp only [List.drop_succ_cons,aT,ah,aq,aj,and_true] at eH
  have hq:=pX eH
  subst hq
  obtain ⟨y,Sd,hy⟩:=Fj ho
  have ea:=rA Sd
  subst ea
  simp only [ah,aq,eo] at hs
  split at hs
  ·rename_i bb v1 heq
   simp only [aj,and_true] at heq
   obtain ⟨p2,p3,rfl⟩:=hs
   simp only [ah,aq,dw] at hg
   split at hg
   ·rename_i g dr
    simp only [aj,and_true,cR.gh] at dr
    cases hg
    have ir:=(h.gE hy (bI de (by simp [Op.operands,Call.operands]))).rep (by rw [heq.1];simp)
    rw [heq.1] at ir
    have so:Source C.P w 1 (a.eval y) (bb.data.toList.map fg).length (bb.data.toList.map fun b => .int .u8 b.toNat):=by
     rw [ir.fF,aH];exact Source.of_string bb
    exact JF h rfl hl rfl q1 q2 q5 q6 q7 q8 q3 dr.2 so (by rw [kR];exact nM _)
     (fun e he=>by obtain ⟨x,_,rfl⟩:=aP.1 he;rfl) (by rw [aH];exact p2) (by rw [aH,q4];exact p3) hK
   ·cases hg
  ·cases hs
 ·cases ho
theorem RC {d' s b:Nat} {z:AV}:cF C sg (.mk d' s b z):=by
 intro D σ γ a w dst op ty pos after guard rs ds gd ws gs K' Q h ho hk de hs hg hK
 simp only [cq,aa,beq_iff_eq,ah,aq] at hk
 obtain ⟨⟨j7,eH⟩,gM⟩:=hk
 obtain ⟨d,rfl,hl,rfl⟩:=eF gM
 simp only [ee] at ho
 split at ho
 ·rename_i t l c r q r3
  simp only [aa] at ho
  obtain ⟨⟨ht,ho⟩,hz⟩:=ho
  obtain ⟨e,i,zv,q1,q2,q3,q4,q5,q6,q7⟩:=jM ht
  obtain ⟨r',q',te,hx,hy⟩:=iE ho
  simp only [aj,and_true] at te
  obtain ⟨rfl,rfl⟩:=te
  simp only [List.drop_succ_cons,aT,ah,aq,aj,and_true] at eH
  have hq:=pX eH
  subst hq
  have he:jD C.P t=some e:=by unfold jD;rw [q1];rfl
  rw [he] at hz
  simp only [Option.any_some,aa] at hz
  obtain ⟨i',Vz,z1,z2,z3⟩:=lV hz.1
  rw [q2] at z1
  cases z1
  rw [q5] at z2
  cases z2
  simp only [ah,aq,eo] at hs
  split at hs
  ·rename_i ll cc v1 heq
   simp only [aj,and_true] at heq
   obtain ⟨p1,p2,p3,p4,p5,p6,rfl⟩:=hs
   simp only [ah,aq,dw] at hg
   split at hg
   ·rename_i g1 g2 dr
    simp only [aj,and_true,cR.gh] at dr
    cases hg
    exact NI h rfl hl rfl q1 q2 q3 q5 q6 q7 z3 hx hy (bI de (by simp [Op.operands])) (bI de (by simp [Op.operands])) heq.1 heq.2.1 p2 p3 p4 (by rw [q4];exact p5) p6 dr.2.2 hK
   ·cases hg
  ·cases hs
 ·cases ho
end
end Go.Eng
namespace Go.Eng
open Go.RowKit
theorem zM {s:Nat}:∀{es:List AV} {i:Nat} {e:AV},(∀x∈es,x.cells.length=s)→es[i]?=some e→((es.flatMap AV.cells).drop (i * s)).take s=e.cells
 | x :: es,0,e,h,he=>by
  simp at he;subst he
  have:=h x (by simp)
  simp [←this]
 | x :: es,i+1,e,h,he=>by
  have hx:=h x (by simp)
  have ih:=zM (es:=es) (i:=i) (e:=e) (fun y hy=>h y (by simp [hy])) (by simpa using he)
  simp only [List.flatMap_cons]
  rw [show (i+1) * s=x.cells.length+i * s by rw [hx,Nat.succ_mul];omega,←List.drop_drop,List.drop_left]
  exact ih
 | [],_,_,_,he=>by simp at he
theorem xH {s:Nat}:∀{es:List AV},(∀x∈es,x.cells.length=s)→(es.flatMap AV.cells).length=es.length * s
 | [],_=>by simp
 | x :: es,h=>by
  have h1:=h x (by simp)
  have h2:=xH (es:=es) (fun y hy=>h y (List.mem_cons_of_mem _ hy))
  simp only [List.flatMap_cons,ao,aQ,Nat.succ_mul,h1,h2]
  omega
theorem zL {s o:Nat}:∀{es:List AV} {i:Nat} {e e':AV} {xs:List AV},(∀x∈es,x.cells.length=s)→es[i]?=some e→e'.cells=eK e.cells o xs→o+xs.length≤s →
  (es.set i e').flatMap AV.cells=eK (es.flatMap AV.cells) (i * s+o) xs
 | x :: es,0,e,e',xs,h,he,h',hl=>by
  simp at he;subst he
  have hx:=h x (by simp)
  simp only [List.set_cons_zero,List.flatMap_cons,h',eK,Nat.zero_mul,Nat.zero_add]
  rw [List.take_append_of_le_length (by omega),List.drop_append_of_le_length (by omega)]
  simp
 | x :: es,i+1,e,e',xs,h,he,h',hl=>by
  have hx:=h x (by simp)
  have ih:=zL (es:=es) (i:=i) (e:=e) (fun y hy=>h y (by simp [hy])) (by simpa using he) h' hl
  simp only [List.set_cons_succ,List.flatMap_cons,ih,eK]
  have e1:(i+1) * s+o=x.cells.length+(i * s+o):=by rw [hx,Nat.succ_mul];omega
  rw [e1,show x.cells.length+(i * s+o)+xs.length=x.cells.length+(i * s+o+xs.length) by omega]
  simp [List.take_append,List.drop_append,List.take_of_length_le,bc]
 | [],_,_,_,_,_,he,_,_=>by simp at he
theorem xe {e x:AV} {o n:Nat} {agg:Bool} (h:qf e o n agg=some x):fP e.cells o n agg=some x:=by
 unfold qf at h
 split at h
 ·exact h
 ·rename_i fO
  rw [aC] at h
  obtain ⟨⟨rfl,rfl,rfl⟩,h⟩:=h
  cases h
  have:e.cells=[e]:=by cases e <;> first | rfl | exact (fO _ rfl).elim
  simp [fP,this]
theorem yK {e e' x:AV} {o:Nat} (h:uF e o x=some e'):e'.cells=eK e.cells o x.cells∧o+x.cells.length≤e.cells.length:=by
 unfold uF at h
 split at h
 ·rw [aC] at h
  obtain ⟨h1,h⟩:=h
  cases h
  exact ⟨rfl,h1⟩
 ·rename_i fO
  rw [aC] at h
  obtain ⟨⟨rfl,hx⟩,h⟩:=h
  obtain rfl:=Option.some.inj h
  have h1:e.cells=[e]:=by cases e <;> first | rfl | exact (fO _ rfl).elim
  have h2:x.cells=[x]:=by cases x <;> first | rfl | cases hx
  rw [h1,h2]
  exact ⟨by simp [eK],by simp⟩
section
variable {C:Ctx} {D:kf} {σ:Sg} {γ:Ga} {a:Act} {w:World}
theorem cN.qH (h:cN C D σ γ a w) {key s:Nat} (hk:γ key = .pv s):ft D.R w (D.τ key) s∧fQ D.R w (D.τ key) s (σ key):=⟨(h.ps key s (by rw [hk];rfl)).1,(h.ps key s (by rw [hk];rfl)).2.1⟩
theorem cN.sS (h:cN C D σ γ a w) {key gK s g:Nat} (hk:γ key = .pv s) (h1:eM D γ key=some g) (h2:eM D γ gK=some g):gK=key:=by
 rcases h.sep key gK g h1 h2 with e | e | e
 ·exact e.symm
 ·rw [hk] at e;cases e
 ·cases hg:γ gK <;> rw [hg] at e <;> first | (cases e;done) | skip
  cases e
  have:=h.inv gK
  rw [hg] at this
  rcases this with e | ⟨s',e⟩ <;> rw [hk] at e <;> cases e
theorem cN.Jo (h:cN C D σ γ a w) {key s g:Nat} (hk:γ key = .pv s) (hg:(D.τ key).ownBlock=some g) {w':World} (os:w'.os=w.os) (tape:w'.tape=w.tape) (out:w'.output=w.output) (size:w'.heap.size=w.heap.size)
  (hh:∀b,b≠g→w'.heap[b]?=w.heap[b]?) {x:AV} (ht:ft D.R w' (D.τ key) s) (hp:fQ D.R w' (D.τ key) s x):cN C D (cI σ key x) γ a w':=by
 have oU:eM D γ key=some g:=(fS (by rw [hk];rfl)).trans hg
 have nU:∀o,¬D.R g o:=(h.qH hk).2.1 g hg
 have bM:fu D.R w D.R w':=fun b o hr=>⟨hr,World.cell?_of_block (w:=w) (hh b (fun e=>nU o (e ▸ hr)))⟩
 have kO:1000000≤key:=h.kU key (by rw [hk];rfl)
 have fO:∀gK g',gK≠key→eM D γ gK=some g'→g'≠g:=fun gK g' hn hb e=>hn (h.sS hk oU (e ▸ hb))
 refine ⟨h.size,h.defers,h.iG,h.om,h.kU,fun t tw=>?_,fun m ts hm=>?_,fun gK s' jC=>?_,fun gK s' hs=>?_,h.sep,h.own,h.inv,?_,fun b o hr=>by rw [size];exact h.j0 b o hr,fun n=>(h.gl n).mono bM,h.fix⟩
 ·have e:t≠key:=by have:=h.iG;omega
  rw [bG _ _ e]
  exact (h.slot t tw).imp id fun ⟨r,g⟩=>⟨r.mono bM,g⟩
 ·have e:m≠key:=fun e=>by subst e;rw [hk] at hm;cases hm
  rw [bG _ _ e]
  obtain ⟨cs,hv,nR⟩:=h.mem m ts hm
  exact ⟨cs,hv.bM bM (hh _ (fO m _ e (gV hm))) hv.C0,nR⟩
 ·have e:gK≠key:=fun e=>by subst e;rw [hk] at jC;cases jC
  exact (h.cD gK s' jC).bM fun g' kn=>⟨hh g' (fO gK g' e ((gG jC).trans kn)),fun _ hr=>hr⟩
 ·have qU:vl (cI σ key x) γ gK:=fun d s1 s2 e1 e2=>by
   by_cases e:gK=key
   ·subst e;rw [hk] at e1;cases e1
   ·have e':d≠key:=fun e'=>by subst e';rw [hk] at e2;cases e2
    rw [bG _ _ e,bG _ _ e'];exact (h.ps gK s' hs).2.2 d s1 s2 e1 e2
  by_cases e:gK=key
  ·subst e
   rw [hk] at hs
   cases hs
   rw [bF]
   exact ⟨ht,hp,qU⟩
  ·rw [bG _ _ e]
   obtain ⟨h1,h2,_⟩:=h.ps gK s' hs
   have hb:=fun g' kn=>fO gK g' e ((fS (Gh.qI hs)).trans kn)
   exact ⟨h1.bM fun g' kn=>⟨hh g' (hb g' kn),fun _ hr=>hr⟩,h2.bM bM fun g' kn=>⟨hh g' (hb g' kn),fun _ hr=>hr⟩,qU⟩
 ·have p8:=h.own key g oU
  refine ⟨os.trans h.ext.os,tape.trans h.ext.tape,out.trans h.ext.output,by rw [size];exact h.ext.size,fun b hb hn=>?_,h.ext.bM.trans bM,h.ext.qE⟩
  refine (hh b fun e=>?_).trans (h.ext.heap b hb hn)
  subst e
  rcases p8 with jI | jI
  ·exact hn jI
  ·omega
theorem cN.lj (h:cN C D σ γ a w) {d k s:Nat} {v:Value} {x:AV} (hd:d<C.nt) (hk:γ (lk k) = .no) (ht:ft D.R w v s) (hp:fQ D.R w v s x) (hg:∀g,v.ownBlock=some g→C.lp g∧∀key,eM D γ key≠some g) :
  cN C { D with τ:=cI D.τ (lk k) v } (bP σ [d,lk k] [.pt,x]) (bP γ [d,lk k] [.cD k s,.pv s]) (a.put (some d) v) w:=by
 have h1:=h.xg hk ht hg
 -- from a cD to a private slice
 have h2:cN C { D with τ:=cI D.τ (lk k) v } (cI σ (lk k) x) (cI γ (lk k) (.pv s)) a w:=by
  have ta:∀j,j≠lk k→cI γ (lk k) (.pv s) j=cI γ (lk k) (.live s) j:=fun j hj=>by rw [bG _ _ hj,bG _ _ hj]
  have hb:∀key,eM { D with τ:=cI D.τ (lk k) v } (cI γ (lk k) (.pv s)) key=eM { D with τ:=cI D.τ (lk k) v } (cI γ (lk k) (.live s)) key:=fun key=>by
   unfold eM
   by_cases e:key=lk k
   ·subst e;rw [bF,bF]
   ·rw [ta _ e]
  have mD:∀key,(cI γ (lk k) (.pv s) key).par=(cI γ (lk k) (.live s) key).par:=fun key=>by
   by_cases e:key=lk k
   ·subst e;rw [bF,bF];rfl
   ·rw [ta _ e]
  have jf:∀key,(cI γ (lk k) (.pv s) key).ff=(cI γ (lk k) (.live s) key).ff:=fun key=>by
   by_cases e:key=lk k
   ·subst e;rw [bF,bF];rfl
   ·rw [ta _ e]
  have kO:∀key,(cI γ (lk k) (.pv s) key).eD=(cI γ (lk k) (.live s) key).eD:=fun key=>by
   by_cases e:key=lk k
   ·subst e;rw [bF,bF];rfl
   ·rw [ta _ e]
  have hM:∀g,eV (cI γ (lk k) (.live s)) g→eV (cI γ (lk k) (.pv s)) g:=fun g hg=>by
   cases g <;> simp only [eV,jf,kO] at hg ⊢ <;> first | exact hg | skip
   rename_i q s'
   have e:q≠lk k:=fun e=>by subst e;rw [bF] at hg;rcases hg with e | ⟨_,e⟩ <;> cases e
   rw [ta _ e];exact hg
  have eW:lk k<C.nt→False:=fun hl=>by have:=fN k;have:=h.iG;omega
  refine ⟨h1.size,h1.defers,h1.iG,fun m hm=>h1.om m (by rwa [jf] at hm),fun m hm=>h1.kU m (by rwa [kO] at hm),fun t tw=>?_,fun m ts hm=>?_,fun key s' jC=>?_,fun key s' hs=>?_,fun p q g jH hq=>(by rw [mD,mD];exact h1.sep p q g (by rwa [hb] at jH) (by rwa [hb] at hq)),fun p g jH=>h1.own p g (by rwa [hb] at jH),fun key=>?_,h1.ext,h1.j0,h1.gl,h1.fix.of rfl (fun jH=>by
   have e:lk 999999≠lk k:=fun e=>by rw [e,bF] at jH;cases jH
   rw [ta _ e];exact ⟨jH,rfl⟩)⟩
  ·have e:t≠lk k:=fun e=>eW (e ▸ tw)
   rw [bG _ _ e,ta _ e];exact h1.slot t tw
  ·have e:m≠lk k:=fun e=>by subst e;rw [bF] at hm;cases hm
   rw [ta _ e] at hm
   rw [bG _ _ e];exact h1.mem m ts hm
  ·have e:key≠lk k:=fun e=>by subst e;rw [bF] at jC;cases jC
   rw [ta _ e] at jC;exact h1.cD key s' jC
  ·have qU:vl (cI σ (lk k) x) (cI γ (lk k) (.pv s)) key:=fun d s1 s2 e1 e2=>by
    have e:key≠lk k:=fun e=>by subst e;rw [bF] at e1;cases e1
    have e':d≠lk k:=fun e'=>by subst e';rw [bF] at e2;cases e2
    rw [ta _ e] at e1;rw [ta _ e'] at e2
    rw [bG _ _ e,bG _ _ e'];exact (h1.ps key s1 (by rw [e1];rfl)).2.2 d s1 s2 e1 e2
   by_cases e:key=lk k
   ·subst e
    rw [bF] at hs
    cases hs
    simp only [bF]
    exact ⟨ht,hp,qU⟩
   ·rw [ta _ e] at hs
    rw [bG _ _ e];exact ⟨(h1.ps key s' hs).1,(h1.ps key s' hs).2.1,qU⟩
  ·by_cases e:key=lk k
   ·subst e;rw [bF];trivial
   ·rw [ta _ e];exact hM _ (h1.inv key)
 refine h2.put (g := .cD k s) hd (.inr ⟨.pt _,?_⟩) rfl rfl ?_
 ·intro _;show v=cI D.τ (lk k) v (lk k)∧v.oneCell'=true
  rw [bF]
  exact ⟨rfl,by rcases ht with rfl | ⟨_,_,_,_,_,_,rfl,_⟩ <;> rfl⟩
 ·show (cI γ (lk k) (.pv s) (lk k)).eD=true
  rw [bF];rfl
end
end Go.Eng
namespace Go.Eng
open Go.RowKit
theorem od {cur:Array Value} {ys:List Value} (h:∀(j:Nat) (y:Value),ys[j]?=some y→cur[j]?=some y):cur.toList.take ys.length=ys:=by
 apply List.ext_getElem?
 intro j
 rw [aO]
 split
 ·rename_i hj
  have:=h j ys[j] (aA hj)
  rw [aA hj]
  simpa using this
 ·rename_i hj
  exact (List.getElem?_eq_none (by omega)).symm
section
variable {C:Ctx} {D:kf} {σ:Sg} {γ:Ga} {a:Act} {w:World} {o:Oper} {d:Nat} {K:Act→World→Prop} {Q:Exit→Act→World→Prop}
theorem cN.KF (h:cN C D σ γ a w) {k s:Nat} {es:List AV} (h9:k≠999999) (hk:γ (lk k) = .pv s) (hx:σ (lk k) = .sl s es) :
  ∃R',cN C { D with R:=R' } (cI σ (lk k) .dead) (cI γ (lk k) (.live s)) a w∧Rep R' w (.sl s es) (D.τ (lk k))∧fu D.R w R' w:=by
 obtain ⟨ht,J4,qV⟩:=h.qH hk
 rw [hx] at qV
 have qV:=qV.resolve_left (by simp)
 obtain ⟨Km,he,qu,hp⟩:=qV
 cases he
 have oU:eM D γ (lk k)=(D.τ (lk k)).ownBlock:=fS (by rw [hk];rfl)
 let R':Reach:=fun b o=>D.R b o∨((D.τ (lk k)).ownBlock=some b∧o<es.length * s)
 have bM:fu D.R w R' w:=fun b o hr=>⟨.inl hr,rfl⟩
 have fO:∀gK g,gK≠lk k→eM D γ gK=some g→∀o,R' g o→D.R g o:=fun gK g hn hb o hr=>by
  rcases hr with hr | ⟨hr,_⟩
  ·exact hr
  ·exact (hn (h.sS hk (oU.trans hr) hb)).elim
 have ta:∀j,j≠lk k→cI γ (lk k) (.live s) j=γ j:=fun j hj=>bG _ _ hj
 have hb:∀key,eM { D with R:=R' } (cI γ (lk k) (.live s)) key=eM D γ key:=fun key=>by
  unfold eM
  by_cases e:key=lk k
  ·subst e;rw [bF,hk]
  ·rw [ta _ e]
 have mD:∀key,(cI γ (lk k) (.live s) key).par=(γ key).par:=fun key=>by
  by_cases e:key=lk k
  ·subst e;rw [bF,hk];rfl
  ·rw [ta _ e]
 have jf:∀key,(cI γ (lk k) (.live s) key).ff=(γ key).ff:=fun key=>by
  by_cases e:key=lk k
  ·subst e;rw [bF,hk];rfl
  ·rw [ta _ e]
 have kO:∀key,(cI γ (lk k) (.live s) key).eD=(γ key).eD:=fun key=>by
  by_cases e:key=lk k
  ·subst e;rw [bF,hk];rfl
  ·rw [ta _ e]
 have hM:∀g,eV γ g→eV (cI γ (lk k) (.live s)) g:=fun g hg=>by
  cases g <;> simp only [eV,jf,kO] at hg ⊢ <;> first | exact hg | skip
  rename_i q s'
  have e:q≠lk k:=fun e=>by subst e;rcases hg with e | ⟨_,e⟩ <;> rw [hk] at e <;> cases e
  rw [ta _ e];exact hg
 have eW:lk k<C.nt→False:=fun hl=>by have:=fN k;have:=h.iG;omega
 refine ⟨R',⟨h.size,h.defers,h.iG,fun m hm=>h.om m (by rwa [jf] at hm),fun m hm=>h.kU m (by rwa [kO] at hm),fun t tw=>?_,fun m ts hm=>?_,fun key s' jC=>?_,fun key s' hs=>?_,fun p q g jH hq=>(by rw [mD,mD];exact h.sep p q g (by rwa [hb] at jH) (by rwa [hb] at hq)),fun p g jH=>h.own p g (by rwa [hb] at jH),fun key=>?_,?_,fun b o hr=>?_,fun n=>(h.gl n).mono bM,h.fix.of rfl (fun hp=>by
  have e:lk 999999≠lk k:=fun e=>h9 (fT e).symm
  rw [bG _ _ e];exact ⟨hp,rfl⟩)⟩,?_,bM⟩
 ·have e:t≠lk k:=fun e=>eW (e ▸ tw)
  rw [bG _ _ e,ta _ e]
  exact (h.slot t tw).imp id fun ⟨r,g⟩=>⟨r.mono bM,fun hs=>by have g:=g hs;cases hg:γ t <;> rw [hg] at g <;> exact g⟩
 ·have e:m≠lk k:=fun e=>by subst e;rw [bF] at hm;cases hm
  rw [ta _ e] at hm
  rw [bG _ _ e]
  obtain ⟨cs,hv,nR⟩:=h.mem m ts hm
  exact ⟨cs,hv.bM bM rfl (fun o hr=>hv.C0 o (fO m _ e (gV hm) o hr)),nR⟩
 ·by_cases e:key=lk k
  ·subst e
   rw [bF] at jC
   cases jC
   rcases hp with ⟨rfl,e0⟩ | ⟨g,cap,cur,e,fz,e0,hg,hL⟩
   ·exact .inl e0
   ·rcases ht with e1 | ⟨g',n,sH,mI,e',Nb,e1,h1,h2,h3,h4,h5,h6⟩
    ·rw [e0] at e1;cases e1
    ·refine .inr ⟨g',n,sH,mI,e',Nb,e1,h1,h2,h3,h4,h5,fun o ho hr=>?_⟩
     rcases hr with hr | ⟨_,hr⟩
     ·exact h6 o ho hr
     ·rw [e0] at e1;cases e1;omega
  ·rw [ta _ e] at jC
   exact (h.cD key s' jC).bM fun g hg=>⟨rfl,fO key g e ((gG jC).trans hg)⟩
 ·have e:key≠lk k:=fun e=>by subst e;rw [bF] at hs;cases hs
  rw [ta _ e] at hs
  rw [bG _ _ e]
  obtain ⟨h1,h2,h3⟩:=h.ps key s' hs
  have zw:=fun g hg=>fO key g e ((fS (Gh.qI hs)).trans hg)
  refine ⟨h1.bM fun g hg=>⟨rfl,zw g hg⟩,h2.bM bM fun g hg=>⟨rfl,zw g hg⟩,fun d s1 s2 e1 e2=>?_⟩
  have e':d≠lk k:=fun e'=>by subst e';rw [bF] at e2;cases e2
  rw [ta _ e] at e1;rw [ta _ e'] at e2
  rw [bG _ _ e,bG _ _ e'];exact h3 d s1 s2 e1 e2
 ·by_cases e:key=lk k
  ·subst e;rw [bF];trivial
  ·rw [ta _ e];exact hM _ (h.inv key)
 ·refine ⟨h.ext.os,h.ext.tape,h.ext.output,h.ext.size,h.ext.heap,h.ext.bM.trans bM,fun b o hr=>?_⟩
  rcases hr with hr | ⟨hr,_⟩
  ·exact h.ext.qE b o hr
  ·rcases h.own (lk k) b (oU.trans hr) with e | e
   ·exact .inr (.inr e)
   ·exact .inr (.inl e)
 ·rcases hr with hr | ⟨hr,_⟩
  ·exact h.j0 b o hr
  ·exact ht.lt hr
 ·rcases hp with ⟨rfl,e0⟩ | ⟨g,cap,cur,e,fz,e0,hg,hL⟩
  ·rw [e0];exact .nil s
  ·have qY:es.length≤cap∧cap≤maxLen∧cur.size=cap * s:=by
    rcases ht with e1 | ⟨g',n,sH,mI,e',Nb,e1,h1,h2,h3,h4,h5,h6⟩
    ·rw [e0] at e1;cases e1
    ·rw [e0] at e1;cases e1
     rw [hg] at h1;cases h1
     exact ⟨h4,h5,h3⟩
   have hle:es.length * s≤cap * s:=ar _ qY.1
   rw [e0]
   refine .sl rfl qY.1 qY.2.1 (iw.write qu (hL.mono bM) (fun j hj => .inr ⟨by rw [e0];rfl,by omega⟩) fun j y hy=>?_)
   rw [aO] at hy
   split at hy
   ·simp only [World.cell?,hg,Nat.zero_add]
    simpa using hy
   ·cases hy
variable (h:cN C D σ γ a w) (hl:d<C.nt)
include h
theorem La (hd:o.dst=some d) (hl:d<C.nt) {x:Operand} {r:cR} {t u e:TypeId} {b:ByteArray} {k:Nat} (ho:o.op = .convert t u x) (ht:C.P.underlying t=some .string) (hu:C.P.underlying u=some (.slice e)) (he:C.P.underlying e=some (.int .u8))
  (hx:bU x r=true) (fy:small C.nt [x]=true) (hr:r.ev C.E σ = .v (.string b)) (hb:b.data.toList.length≤maxLen) (hk:γ (lk k) = .no)
  (hK:∀D' a' w',cN C D' (bP σ [d,lk k] [.pt,.sl 1 (b.data.toList.map fg)]) (bP γ [d,lk k] [.cD k 1,.pv 1]) a' w'→K a' w'):o.wp C.P a w K Q:=by
 have e1:=(h.gE hx fy).rep (by rw [hr];simp)
 rw [hr] at e1
 have cM:=run_bytes_of_string (P:=C.P) w t u e b ht hu he
 have yf:=grownCap_ge w b.size 0 e
 have hle:=grownCap_le_maxLen w b.size 0 e (by rwa [bsize] at hb)
 let cur:=bytesRow b (grownCap w b.size 0 e)
 let w1:World:=w.drew.alloc (.cells cur e (cur.size,cur.size+1))
 have gX:w1.heap[w.heap.size]?=some (.cells cur e (cur.size,cur.size+1)):=by
  show (w.heap.push _)[w.heap.size]?=_
  simp
 have hold:∀c,c<w.heap.size→w1.heap[c]?=w.heap[c]?:=fun c hc=>by
  show (w.heap.push _)[c]?=_
  rw [Array.getElem?_push,aE (by omega)]
 have hS:cN C { D with R:=D.R } σ γ a w1:=h.grow (w':=w1) (R':=D.R) rfl rfl rfl (by show _≤(w.heap.push _).size;simp) hold (fun _ _ h=>h) (fun _ _ h => .inl h) (fun c q hr=>by
  show c<(w.heap.push _).size
  have:=h.j0 c q hr
  simp;omega)
 have nU:∀q,¬D.R w.heap.size q:=fun q hr=>by have:=h.j0 _ q hr;omega
 have lq:cur.size=grownCap w b.size 0 e * 1:=by
  have:b.data.size=b.size:=rfl
  simp only [cur,bytesRow,Array.size_append,Array.size_map,Array.size_replicate,this];omega
 have Bi:cur.toList.take (b.data.toList.map fg).length=b.data.toList.map fun x => .int .u8 x.toNat:=by
  have:=od (cur:=cur) (ys:=b.data.toList.map fun x => .int .u8 x.toNat) (fun j y hj=>by
   have eW:=(aF.1 hj).1
   simp only [cur]
   unfold bytesRow
   rw [Array.getElem?_append_left (by simp at eW ⊢;exact eW)]
   simpa using hj)
  simpa using this
 unfold Oper.wp
 rw [show (execOp a.eval o).run C.P w = .ok (.value (.slice (some ⟨w.heap.size,0,none⟩) b.size (grownCap w b.size 0 e))) w1 by simp only [execOp,ho,e1.fF,Sem.run_bind,cM,Result.andThen_ok,Sem.run_pure];rfl,Oper.upon_value,hd]
 refine hK _ _ _ (cN.lj hS hl hk (.inr ⟨_,_,_,_,_,_,rfl,gX,by simp only;intro q hq;omega,lq,yf,hle,fun q _=>nU q⟩) ⟨fun g hg q=>?_,.inr ⟨_,rfl,?_,.inr ⟨w.heap.size,grownCap w b.size 0 e,cur,e,(cur.size,cur.size+1),by rw [aH,bsize],gX,?_⟩⟩⟩ fun g hg=>?_)
 ·simp [Value.ownBlock] at hg;subst hg;exact nU q
 ·intro x hx;obtain ⟨y,_,rfl⟩:=aP.1 hx;rfl
 ·rw [Nat.mul_one,Bi,kR];exact nM _
 ·simp [Value.ownBlock] at hg
  subst hg
  exact ⟨.inr h.ext.size,fun key hk=>by have:=h.lt hk;omega⟩
omit hl in
theorem cN.ED {j:Nat} {s:AV} {g:Gh} (hj:j<C.nt) (hs:lR D w s g (a.tmps.getD j undef)) (g1:g.ff=false) (g2:g.eD=false) (gm:eV γ g):cN C D (cI σ j s) (cI γ j g) a w:=by
 have:=h.put hj hs g1 g2 gm
 have lq:j<a.tmps.size:=by rw [h.size];exact hj
 have e:a.put (some j) (a.tmps.getD j undef)=a:=by
  unfold Act.put
  simp only
  have:a.tmps.setIfInBounds j (a.tmps.getD j undef)=a.tmps:=by
   apply Array.ext
   ·simp
   ·intro i h1 h2
    rw [Array.getElem_setIfInBounds h2]
    split
    ·rename_i e;subst e;simp [Array.getD,lq]
    ·rfl
  rw [this]
 rwa [e] at this
theorem Li {k:Nat} (h9:k≠999999) (hd:o.dst=some d) (hl:d<C.nt) {x:Operand} {j s s0:Nat} {es:List AV} (ho:o.op = .move x∨o.op = .assign x) (hx:bU x (.s j)=true) (hj:j<C.nt) (hr:σ j = .pt) (hg:γ j = .cD k s0)
  (hk:γ (lk k) = .pv s) (jV:σ (lk k) = .sl s es) (hK:∀D' a' w',cN C D' (bP σ [d,j,lk k] [.sl s es,.sl s es,.dead]) (bP γ [d,j,lk k] [.cD k s,.cD k s,.live s]) a' w'→K a' w'):o.wp C.P a w K Q:=by
 have T7:x = .tmp j:=by cases x <;> simp [bU] at hx;rw [hx]
 have fy:small C.nt [x]=true:=by rw [T7];simp [small,hj]
 have e0:=h.gE hx fy
 have hv:=e0.gh (by simp only [cR.ev];rw [hr];simp) (by simp only [cR.ev];rw [hr];simp)
 simp only [cR.gh] at hv
 rw [hg] at hv
 obtain ⟨hv1,hv2⟩:=hv
 have DT:a.eval x=a.tmps.getD j undef:=by rw [T7];rfl
 have cM:(execOp a.eval o).run C.P w = .ok (.value (a.eval x)) w:=by rcases ho with e | e <;> simp [execOp,e]
 obtain ⟨R',hS,hR,_⟩:=h.KF h9 hk jV
 have IU:(cI γ (lk k) (.live s) (lk k)).eD=true:=by rw [bF];rfl
 have Gf:=hS.ED (g := .cD k s) hj (.inr ⟨by rw [←DT,hv1];exact hR,fun _=>⟨DT ▸ hv1,DT ▸ hv2⟩⟩) rfl rfl IU
 have PI:lk k≠j:=by have:=fN k;have:=h.iG;omega
 unfold Oper.wp
 rw [cM,Oper.upon_value,hd]
 refine hK _ _ _ (Gf.put (g := .cD k s) hl (.inr ⟨by rw [hv1];exact hR,fun _=>⟨hv1,hv2⟩⟩) rfl rfl ?_)
 show (cI (cI γ (lk k) (.live s)) j (.cD k s) (lk k)).eD=true
 rw [bG _ _ PI];exact IU
theorem Lf (hd:o.dst=some d) (hl:d<C.nt) {x:Operand} {r:cR} {t e:TypeId} {k s s' s0:Nat} {es:List AV} (ho:o.op = .call { callee := .builtin .len,args:=#[x],argTypes:=#[t] }) (ht:C.P.underlying t=some (.slice e)) (hx:bU x r=true) (fy:small C.nt [x]=true)
  (hr:r.ev C.E σ = .pt) (hg:r.gh γ = .cD k s0) (hk:γ (lk k) = .pv s) (jV:σ (lk k) = .sl s' es) (hK:∀D' a' w',cN C D' (cI σ d (.v (.int .i64 es.length))) (cI γ d .no) a' w'→K a' w'):o.wp C.P a w K Q:=by
 have e0:=h.gE hx fy
 have hv:=e0.gh (by rw [hr];simp) (by rw [hr];simp)
 rw [hg] at hv
 obtain ⟨_,_,qV⟩:=h.qH hk
 rw [jV] at qV
 obtain ⟨Km,he,_,hp⟩:=qV.resolve_left (by simp)
 cases he
 have hval:∃q cap,a.eval x = .slice q es.length cap:=by
  rw [hv.1]
  rcases hp with ⟨rfl,e0⟩ | ⟨g,cap,cur,e,fz,e0,_⟩
  ·exact ⟨_,_,e0⟩
  ·exact ⟨_,_,e0⟩
 obtain ⟨q,cap,hval⟩:=hval
 have cM:(execOp a.eval o).run C.P w = .ok (.value (.int .i64 es.length)) w:=by
  simp [execOp,ho,hval,resolve,invoke,builtin,Builtin.len_,run_underlying ht,goInt]
 exact h.fR hd hl cM (.v _) hK
omit h hl in
theorem Rep.xM {R:Reach} {w:World} {i s o:Nat} {y:Value} (h:Rep R w (.el i s o) y):∃b,y = .pointer (some ⟨b,i * s+o,none⟩):=by
 cases h with
 | el _ _ _ b=>exact ⟨b,rfl⟩
theorem Lh (hd:o.dst=some d) (hl:d<C.nt) {x y:Operand} {r q:cR} {t e:TypeId} {inf:TypeInfo} {s s0:Nat} {es:List AV} {k:Nat} {ik:IntKind} {i:Int} (ho:o.op = .indexAddr t x y) (ht:C.P.underlying t=some (.slice e)) (hi:C.P.info? e=some inf) (hz:inf.size=s)
  (hx:bU x r=true) (hy:bU y q=true) (fy:small C.nt [x]=true) (lA:small C.nt [y]=true)
  (hr:r.ev C.E σ = .pt) (hg:r.gh γ = .cD k s0) (hk:γ (lk k) = .pv s) (jV:σ (lk k) = .sl s es) (hq:q.ev C.E σ = .v (.int ik i)) (h0:0≤i) (eW:i.toNat<es.length)
  (hK:∀D' a' w',cN C D' (cI σ d (.el i.toNat s 0)) (cI γ d (.pe k)) a' w'→K a' w'):o.wp C.P a w K Q:=by
 have e0:=h.gE hx fy
 have hv:=e0.gh (by rw [hr];simp) (by rw [hr];simp)
 rw [hg] at hv
 have e2:=(h.gE hy lA).rep (by rw [hq];simp)
 rw [hq] at e2
 obtain ⟨_,_,qV⟩:=h.qH hk
 rw [jV] at qV
 obtain ⟨Km,he,_,hp⟩:=qV.resolve_left (by simp)
 cases he
 rcases hp with ⟨rfl,_⟩ | ⟨g,cap,cur,e',fz,e1,_⟩
 ·simp at eW
 ·have hval:a.eval x = .slice (some ⟨g,0,none⟩) es.length cap:=hv.1.trans e1
  have cM:(execOp a.eval o).run C.P w = .ok (.value (.pointer (some ⟨g,i.toNat * s,none⟩))) w:=by
   simp [execOp,ho,hval,e2.fF,Instr.indexAt,asIntOf,run_underlying ht,run_sizeOf hi,hz,h0,fJ]
   omega
  refine h.val (g := .pe k) hd hl cM (.inr ⟨.el _ _ 0 _,fun _=>⟨g,_,_,_,e1,rfl⟩⟩) rfl rfl ?_ hK
  show (γ (lk k)).eD=true
  rw [hk];rfl
theorem Lj (hd:o.dst=some d) (hl:d<C.nt) {x:Operand} {r:cR} {t:TypeId} {f k i s o' dd:Nat} {fs:Array Field} {fl:Field} {inf:TypeInfo} (ho:o.op = .fieldAddr t x f) (ht:C.P.underlying t=some (.struct fs)) (hf:fs[f]?=some fl) (zn:fl.offset=dd) (hi:C.P.info? fl.type=some inf) (hn:0<inf.size)
  (hx:bU x r=true) (fy:small C.nt [x]=true) (hr:r.ev C.E σ = .el i s o') (hg:r.gh γ = .pe k) (hK:∀D' a' w',cN C D' (cI σ d (.el i s (o'+dd))) (cI γ d (.pe k)) a' w'→K a' w'):o.wp C.P a w K Q:=by
 have e0:=h.gE hx fy
 have e1:=e0.rep (by rw [hr];simp)
 have hv:=e0.gh (by rw [hr];simp) (by rw [hr];simp)
 rw [hr] at e1
 rw [hg] at hv
 obtain ⟨b,hb⟩:=Rep.xM e1
 obtain ⟨g,n,cap,q,pP,kn⟩:=hv
 rw [hb] at kn
 cases kn
 have fO:inf.size≠0:=by omega
 have cM:(execOp a.eval o).run C.P w = .ok (.value (.pointer (some ⟨b,i * s+(o'+dd),none⟩))) w:=by
  simp [execOp,ho,hb,Instr.fieldAt,Instr.sureAddr,run_underlying ht,hf,fieldPlace,run_sizeOf hi,fO,fJ,zn,Nat.add_assoc]
 have hm:=h.lM r
 rw [hg] at hm
 exact h.val (g := .pe k) hd hl cM (.inr ⟨.el _ _ _ _,fun _=>⟨_,_,_,_,pP,rfl⟩⟩) rfl rfl hm hK
omit hl in
theorem cN.Qb {x:Operand} {r:cR} {k i s o':Nat} {es:List AV} {e:AV} (hx:bU x r=true) (fy:small C.nt [x]=true) (hr:r.ev C.E σ = .el i s o') (hg:r.gh γ = .pe k) (hk:γ (lk k) = .pv s) (jV:σ (lk k) = .sl s es) (he:es[i]?=some e) :
  ∃g cap cur ce fz,D.τ (lk k) = .slice (some ⟨g,0,none⟩) es.length cap∧a.eval x = .pointer (some ⟨g,i * s+o',none⟩)∧w.heap[g]?=some (.cells cur ce fz)∧(∀o,o<cur.size→¬(fz.1≤o∧o<fz.2))∧cur.size=cap * s∧es.length≤cap ∧
   (∀e∈es,e.cells.length=s)∧dz D.R w (es.flatMap AV.cells) (cur.toList.take (es.length * s))∧cap≤maxLen∧(∀o,¬D.R g o):=by
 have e0:=h.gE hx fy
 have e1:=e0.rep (by rw [hr];simp)
 have hv:=e0.gh (by rw [hr];simp) (by rw [hr];simp)
 rw [hr] at e1
 rw [hg] at hv
 obtain ⟨b,hb⟩:=Rep.xM e1
 obtain ⟨g,n,cap,q,pP,kn⟩:=hv
 rw [hb] at kn
 cases kn
 obtain ⟨ht,J4,qV⟩:=h.qH hk
 rw [jV] at qV
 obtain ⟨Km,WS,qu,hp⟩:=qV.resolve_left (by simp)
 cases WS
 rcases hp with ⟨rfl,_⟩ | ⟨g',sH,cur,ce,fz,e2,hh,hL⟩
 ·simp at he
 ·rw [pP] at e2
  cases e2
  rcases ht with e3 | ⟨g',n',sH,mI,Zy,Nb,e3,h1,h2,h3,h4,h5,h6⟩
  ·rw [pP] at e3;cases e3
  ·rw [pP] at e3
   cases e3
   rw [hh] at h1
   cases h1
   exact ⟨b,cap,cur,ce,fz,pP,hb,hh,h2,h3,h4,qu,hL,h5,J4 b (by rw [pP];rfl)⟩
theorem Lg (hd:o.dst=some d) (hl:d<C.nt) {x:Operand} {r:cR} {t:TypeId} {inf:TypeInfo} {k i s o' n:Nat} {agg:Bool} {es:List AV} {e y:AV} (ho:o.op = .load t x) (hi:C.P.info? t=some inf) (hz:inf.size=n) (ha:jU C.P t=some agg) (h1:agg=true∨n=1)
  (hx:bU x r=true) (fy:small C.nt [x]=true) (hr:r.ev C.E σ = .el i s o') (hg:r.gh γ = .pe k) (hk:γ (lk k) = .pv s) (jV:σ (lk k) = .sl s es) (he:es[i]?=some e) (hp:qf e o' n agg=some y)
  (hK:∀D' a' w',cN C D' (cI σ d y) (cI γ d .no) a' w'→K a' w'):o.wp C.P a w K Q:=by
 obtain ⟨g,cap,cur,ce,fz,_,hv,hh,_,lq,hle,qu,hL,_⟩:=h.Qb hx fy hr hg hk jV he
 have eW:=(aF.1 he).1
 have Xe:dz D.R w e.cells (((cur.toList.take (es.length * s)).drop (i * s)).take s):=by
  have:=(hL.drop (i * s)).take s
  rwa [zM qu he] at this
 obtain ⟨hlen,ir⟩:=mV Xe (xe hp) h1
 have hc:∀j y,(((((cur.toList.take (es.length * s)).drop (i * s)).take s).drop o').take n)[j]?=some y→w.cell? ⟨g,i * s+o'+j,none⟩=some y:=by
  intro j y hj
  simp only [World.cell?,hh]
  rw [aO] at hj
  split at hj
  ·rw [List.getElem?_drop,aO] at hj
   split at hj
   ·rw [List.getElem?_drop,aO] at hj
    split at hj
    ·rw [show i * s+o'+j=i * s+(o'+j) by omega];simpa using hj
    ·cases hj
   ·cases hj
  ·cases hj
 have cM:=kL (P:=C.P) hi ha (hz ▸ h1) (hlen.trans hz.symm) hc
 refine h.fR hd hl (?_:(execOp a.eval o).run C.P w = .ok (.value _) w) ir hK
 simp only [execOp,ho,hv,Instr.loadAt,Instr.sureAddr,Sem.run_bind,Sem.run_pure,Result.andThen_ok,cM]
omit hl in
theorem K9 {x v:Operand} {r q:cR} {t:TypeId} {inf:TypeInfo} {k i s o' n:Nat} {es:List AV} {e e':AV} (hd:o.dst=none) (ho:o.op = .store t x v) (hi:C.P.info? t=some inf) (hz:inf.size=n)
  (hx:bU x r=true) (fy:small C.nt [x]=true) (hv:bU v q=true) (lA:small C.nt [v]=true) (hr:r.ev C.E σ = .el i s o') (hg:r.gh γ = .pe k) (hk:γ (lk k) = .pv s) (jV:σ (lk k) = .sl s es) (he:es[i]?=some e)
  (hp:(q.ev C.E σ).plain=true) (hn:(q.ev C.E σ).cells.length=n) (QK:uF e o' (q.ev C.E σ)=some e')
  (hK:∀D' a' w',cN C D' (cI σ (lk k) (.sl s (es.set i e'))) (cI γ (lk k) (.pv s)) a' w'→K a' w'):o.wp C.P a w K Q:=by
 obtain ⟨g,cap,cur,ce,fz,pP,Wa,hh,hfz,lq,hle,qu,hL,vG,nU⟩:=h.Qb hx fy hr hg hk jV he
 have eW:=(aF.1 he).1
 have q0:=h.gE hv lA
 have J3:q.ev C.E σ ≠ .dead:=by intro e;rw [e] at hp;cases hp
 have Ti:=lx (q0.rep J3) hp
 have hlen:=Ti.length
 obtain ⟨xA,IW⟩:=yK QK
 have Dp:=qu e (aU he)
 have Sl:(a.eval v).cells.toList.length=n:=hlen.symm.trans hn
 have S5:(a.eval v).cells.size=n:=by simpa using Sl
 have S8:(i+1) * s≤es.length * s:=ar _ eW
 have Up:es.length * s≤cap * s:=ar _ hle
 rw [Nat.succ_mul] at S8
 have vB:=jb (P:=C.P) g (i * s+o') ce fz (a.eval v).cells.toList 0 cur w hh (by rw [Sl];omega) hfz Ti.one
 simp only [Nat.add_zero] at vB
 let new:Array Value:=(cur.toList.take (i * s+o')++(a.eval v).cells.toList++cur.toList.drop (i * s+o'+(a.eval v).cells.toList.length)).toArray
 have cM:(execOp a.eval o).run C.P w = .ok .skip (w.setRow g new):=by
  have:¬((a.eval v).cells.size≠n):=by omega
  simp only [execOp,ho,Wa,Instr.storeAt,Instr.sureAddr,Sem.run_bind,Sem.run_pure,Result.andThen_ok,storeVar,run_sizeOf hi,hz,Sem.run_ite,this,if_false,vB]
  rfl
 have Cq:=setRow_heap w g cur new ce fz hh
 have SD:new.size=cur.size:=by simp [new];omega
 have bM:fu D.R w D.R (w.setRow g new):=fun b o hr=>⟨hr,cell_setRow_other w g _ ⟨b,o,none⟩ (fun e=>nU o (by have:b=g:=e;rw [←this];exact hr))⟩
 have FY:(D.τ (lk k)).ownBlock=some g:=by rw [pP];rfl
 have S0:∀y∈es.set i e',y.cells.length=s:=fun y hy=>by
  rcases List.mem_or_eq_of_mem_set hy with hy | rfl
  ·exact qu y hy
  ·rw [xA];simp [eK];omega
 have hS:=h.Jo hk FY (w':=w.setRow g new) rfl rfl rfl (by simp) (fun b hb=>setRow_other w g b _ hb) (x := .sl s (es.set i e'))
  (.inr ⟨g,es.length,cap,new,ce,fz,pP,Cq,fun o ho=>hfz o (by omega),SD.trans lq,hle,vG,fun o _=>nU o⟩)
  ⟨fun g' kn o=>by rw [FY] at kn;cases kn;exact nU o,.inr ⟨_,rfl,S0,.inr ⟨g,cap,new,ce,fz,by rw [List.length_set];exact pP,Cq,by
   rw [List.length_set,zL qu he xA (by omega)]
   have FZ:new.toList.take (es.length * s)=(cur.toList.take (es.length * s)).take (i * s+o')++(a.eval v).cells.toList++(cur.toList.take (es.length * s)).drop (i * s+o'+(a.eval v).cells.toList.length):=by
    have jf:cur.toList.length=cap * s:=by simpa using lq
    apply List.ext_getElem?
    intro j
    simp only [new,aO,List.getElem?_append,ao,aJ,List.getElem?_drop,Sl,jf]
    have e1:min (i * s+o') (cap * s)=i * s+o':=by omega
    have e2:min (i * s+o') (min (es.length * s) (cap * s))=i * s+o':=by omega
    simp only [e1,e2]
    by_cases c1:j<es.length * s
    ·by_cases c2:j<i * s+o'
     ·simp [c1,c2,show j<i * s+o'+n by omega]
     ·by_cases c3:j<i * s+o'+n
      ·simp [c1,c2,c3]
      ·simp [c1,c2,c3,show i * s+o'+n+(j - (i * s+o'+n))<es.length * s by omega]
    ·have c2:¬j<i * s+o':=by omega
     have c3:¬j<i * s+o'+n:=by omega
     simp [c1,c3,show ¬i * s+o'+n+(j - (i * s+o'+n))<es.length * s by omega]
   rw [FZ]
   simp only [eK,hlen]
   exact (((hL.take _).append Ti).append (hL.drop _)).mono bM⟩⟩⟩
 have zR:cI γ (lk k) (.pv s)=γ:=by
  funext j
  by_cases e:j=lk k
  ·subst e;rw [bF,hk]
  ·rw [bG _ _ e]
 unfold Oper.wp
 rw [cM,Oper.upon_skip,hd]
 rw [zR] at hK
 exact hK _ _ _ (by simpa [Act.put] using hS)
end
end Go.Eng
namespace Go.Eng
open Go.RowKit
section
variable {C:Ctx} {sg:Nat→c7}
theorem Ov {k:Nat}:cF C sg (.H7 k):=by
 intro D σ γ a w dst op ty pos after guard rs ds gd ws gs K' Q h ho hk de hs hg hK
 simp only [cq,aa] at hk
 obtain ⟨⟨j7,eH⟩,gM⟩:=hk
 obtain ⟨d,rfl,hl,rfl⟩:=eF gM
 simp only [ee] at ho
 split at ho
 ·rename_i s u x r rest _ _
  simp only [aa] at ho
  obtain ⟨⟨ht,hu⟩,ho⟩:=ho
  obtain ⟨e,Pd,Pc⟩:=kD hu
  simp at j7
  obtain ⟨q,rfl⟩:=km j7
  cases q <;> simp at eH
  subst eH
  simp only [ah,aq,eo] at hs
  simp only [ah,aq,dw] at hg
  split at hs
  ·rename_i b y heq
   simp only [aj,and_true] at heq
   obtain ⟨hb,rfl⟩:=hs
   split at hg
   ·rename_i g dr
    simp only [aj,and_true,cR.gh] at dr
    cases hg
    exact La h rfl hl rfl (gj ht) Pd Pc ho (bI de (by simp [Op.operands])) heq.1 hb dr.2 hK
   ·cases hg
  ·cases hs
 ·cases ho
theorem OD {k s:Nat}:cF C sg (.sU k s):=by
 intro D σ γ a w dst op ty pos after guard rs ds gd ws gs K' Q h ho hk de hs hg hK
 simp only [cq,aa] at hk
 obtain ⟨⟨h9,j7,eH⟩,gM⟩:=hk
 simp only [az] at h9
 have main:∀{x:Operand} {r q:cR},(op = .move x∨op = .assign x)→rs=[r,q]→bU x r=true→(⟨dst,op,ty,pos,after,guard⟩:Oper).wp C.P a w K' Q:=by
  intro x r q QL pH hx
  subst pH
  cases q <;> simp at eH
  subst eH
  cases r with
  | s j =>
   simp only [aa,az] at gM
   obtain ⟨hj,gM⟩:=gM
   obtain ⟨d,rfl,hl,rfl⟩:=eF gM
   simp only [ah,aq,eo] at hs
   simp only [ah,aq,dw] at hg
   split at hs
   ·rename_i s' es heq
    simp only [aj,and_true,cR.ev] at heq
    obtain ⟨rfl,rfl⟩:=hs
    split at hg
    ·rename_i k' s0 s1 dr
     simp only [aj,and_true,cR.gh] at dr
     split at hg
     ·rename_i hc
      obtain ⟨rfl,rfl⟩:=hc
      cases hg
      exact Li h h9 rfl hl QL hx hj heq.1 dr.1 dr.2 heq.2 hK
     ·cases hg
    ·cases hg
   ·cases hs
  | c x=>simp at gM
  | g n=>simp at gM
 simp only [ee] at ho
 split at ho
 ·exact main (.inl rfl) rfl ho
 ·exact main (.inr rfl) rfl ho
 ·cases ho
theorem OA {k:Nat}:cF C sg (.yO k):=by
 intro D σ γ a w dst op ty pos after guard rs ds gd ws gs K' Q h ho hk de hs hg hK
 simp only [cq,aa] at hk
 obtain ⟨⟨j7,eH⟩,gM⟩:=hk
 obtain ⟨d,rfl,hl,rfl⟩:=eF (l:=[]) gM
 simp only [ee] at ho
 split at ho
 ·rename_i args pn r rest
  simp only [aa,beq_iff_eq] at ho
  obtain ⟨⟨h1,h2⟩,ho⟩:=ho
  simp at j7
  obtain ⟨q,rfl⟩:=km j7
  cases q <;> simp at eH
  subst eH
  obtain ⟨t,ht⟩:=km h1
  rw [ht] at h2
  simp only [List.all_cons,List.all_nil,Bool.and_true] at h2
  obtain ⟨x,kX⟩:=km (fv ho)
  rw [kX] at ho
  obtain ⟨r',e,hx⟩:=ka ho
  cases e
  have ea:=DK kX
  have et:=DK ht
  subst ea;subst et
  obtain ⟨e,he⟩:=Option.isSome_iff_exists.1 h2
  simp only [ah,aq,eo] at hs
  simp only [ah,aq,dw] at hg
  split at hs
  ·rename_i s' es heq
   simp only [aj,and_true,cR.ev] at heq
   subst hs
   split at hg
   ·rename_i k' s0 s1 dr
    simp only [aj,and_true,cR.gh] at dr
    split at hg
    ·rename_i hc
     subst hc
     cases hg
     exact Lf h rfl hl rfl (gL he) hx (bI de (by simp [Op.operands,Call.operands])) heq.1 dr.1 dr.2 heq.2 hK
    ·cases hg
   ·cases hg
  ·cases hs
 ·cases ho
theorem OC {k s:Nat}:cF C sg (.lU k s):=by
 intro D σ γ a w dst op ty pos after guard rs ds gd ws gs K' Q h ho hk de hs hg hK
 simp only [cq,aa] at hk
 obtain ⟨⟨j7,eH⟩,gM⟩:=hk
 obtain ⟨d,rfl,hl,rfl⟩:=eF (l:=[]) gM
 simp only [ee] at ho
 split at ho
 ·rename_i t x y r q z
  simp only [aa] at ho
  obtain ⟨ht,ho⟩:=ho
  obtain ⟨e,inf,h1,h2,h3,h4⟩:=kA ht
  obtain ⟨r',q',e',hx,hy⟩:=iE ho
  cases e'
  cases z <;> simp at eH
  subst eH
  simp only [ah,aq,eo] at hs
  simp only [ah,aq,dw] at hg
  split at hs
  ·rename_i ik i s' es heq
   simp only [aj,and_true,cR.ev] at heq
   obtain ⟨rfl,h0,eW,rfl⟩:=hs
   split at hg
   ·rename_i k' s0 g0 s1 dr
    simp only [aj,and_true,cR.gh] at dr
    split at hg
    ·rename_i hc
     obtain ⟨rfl,rfl⟩:=hc
     cases hg
     exact Lh h rfl hl rfl h1 h2 h3 hx hy (bI de (by simp [Op.operands])) (bI de (by simp [Op.operands])) heq.1 dr.1 dr.2.2 heq.2.2 heq.2.1 h0 eW hK
    ·cases hg
   ·cases hg
  ·cases hs
 ·cases ho
theorem OE {k dd:Nat}:cF C sg (.K2 k dd):=by
 intro D σ γ a w dst op ty pos after guard rs ds gd ws gs K' Q h ho hk de hs hg hK
 obtain ⟨d,rfl,hl,rfl⟩:=eF (l:=[]) hk
 simp only [ee] at ho
 split at ho
 ·rename_i t x f r
  simp only [aa] at ho
  obtain ⟨ht,hx⟩:=ho
  cases hf:mH C.P t f with
  | none=>simp [hf] at ht
  | some fl =>
   simp only [hf,Option.any_some,aa,beq_iff_eq] at ht
   obtain ⟨h0,ht⟩:=ht
   cases hz:gZ C.P fl.type with
   | none=>simp [hz] at ht
   | some n =>
    simp [hz] at ht
    obtain ⟨inf,h1,h2⟩:=fZ hz
    obtain ⟨fs,hu,qt⟩:=mh hf
    simp only [ah,aq,eo] at hs
    split at hs
    ·rename_i i s o' heq
     simp only [aj,and_true] at heq
     subst hs
     simp only [ah,aq,dw] at hg
     split at hg
     ·rename_i k' dr
      simp only [aj,and_true] at dr
      split at hg
      ·rename_i hc
       subst hc
       cases hg
       exact Lj h rfl hl rfl hu qt h0 h1 (by omega) hx (bI de (by simp [Op.operands])) heq dr hK
      ·cases hg
     ·cases hg
    ·cases hs
 ·cases ho
theorem OB {k s n:Nat} {agg:Bool}:cF C sg (.rY k s n agg):=by
 intro D σ γ a w dst op ty pos after guard rs ds gd ws gs K' Q h ho hk de hs hg hK
 simp only [cq,aa] at hk
 obtain ⟨⟨j7,eH⟩,gM⟩:=hk
 obtain ⟨d,rfl,hl,rfl⟩:=eF (l:=[]) gM
 simp only [ee] at ho
 split at ho
 ·rename_i t x r rest
  simp at j7
  obtain ⟨q,rfl⟩:=km j7
  cases q <;> simp at eH
  subst eH
  simp only [aa] at ho
  obtain ⟨ht,ho⟩:=ho
  obtain ⟨inf,h1,h2,h3,h4⟩:=gC ht
  simp only [ah,aq,eo] at hs
  split at hs
  ·rename_i i s' o' mc es heq
   simp only [aj,and_true,cR.ev] at heq
   obtain ⟨e,y,rfl,rfl,he,hp,rfl⟩:=hs
   simp only [ah,aq,dw] at hg
   split at hg
   ·rename_i k' s1 dr
    simp only [aj,and_true,cR.gh] at dr
    split at hg
    ·rename_i hc
     obtain ⟨rfl,rfl⟩:=hc
     cases hg
     exact Lg h rfl hl rfl h1 h2 h3 h4 ho (bI de (by simp [Op.operands])) heq.1 dr.1 dr.2 heq.2 he hp hK
    ·cases hg
   ·cases hg
  ·cases hs
 ·cases ho
theorem Ou {k s n:Nat}:cF C sg (.sT k s n):=by
 intro D σ γ a w dst op ty pos after guard rs ds gd ws gs K' Q h ho hk de hs hg hK
 simp only [cq,aa,beq_iff_eq,Option.isNone_iff_eq_none] at hk
 obtain ⟨⟨rfl,rfl⟩,eH⟩:=hk
 simp only [ee] at ho
 split at ho
 ·rename_i t x v p q r
  simp only [aa,beq_iff_eq] at ho
  obtain ⟨⟨ht,hx⟩,hv⟩:=ho
  obtain ⟨inf,h1,h2⟩:=fZ ht
  cases q with
  | s j =>
   simp at eH
   subst eH
   simp only [ah,aq,eo] at hs
   split at hs
   ·rename_i i s' o' mc es y heq
    simp only [aj,and_true,cR.ev] at heq
    obtain ⟨e1,e2,e3⟩:=heq
    obtain ⟨e,e',rfl,rfl,he,p1,p2,p3,rfl⟩:=hs
    subst e3
    simp only [ah,aq,dw] at hg
    split at hg
    ·rename_i k' s1 g dr
     simp only [aj,and_true,cR.gh] at dr
     split at hg
     ·rename_i hc
      obtain ⟨rfl,rfl⟩:=hc
      cases hg
      exact K9 h rfl rfl h1 h2 hx (bI de (by simp [Op.operands])) hv (bI de (by simp [Op.operands])) e1 dr.1 dr.2.1 e2 he p1 p2 p3 hK
     ·cases hg
    ·cases hg
   ·cases hs
  | c x=>simp at eH
  | g n=>simp at eH
 ·cases ho
end
end Go.Eng
namespace Go.Eng
open Go.RowKit
section
variable {C:Ctx} {D:kf} {σ:Sg} {γ:Ga} {a:Act} {w:World}
theorem cN.Qk (h : cN C D σ γ a w) {k s : Nat} {es : List AV} (hk : γ (lk k) = .pv s ∨ γ (lk k) = .pc s) (jV : σ (lk k) = .sl s es) {R' : Reach} {w' : World} (he : Ext w D.R (fun c => (D.τ (lk k)).ownBlock = some c) w' R')
    (eW : ∀ b o, R' b o → b < w'.heap.size) (ht : ft R' w' (D.τ (lk k)) s) (hp : fQ R' w' (D.τ (lk k)) s (.sl s es)) : cN C { D with R := R' } σ γ a w' := by
  have PH : (γ (lk k)).tq = true := by rcases hk with e | e <;> rw [e] <;> rfl
  have PB : (γ (lk k)).par = none := by rcases hk with e | e <;> rw [e] <;> rfl
  have PA : (γ (lk k)).CU = some s := by rcases hk with e | e <;> rw [e] <;> rfl
  have oU : eM D γ (lk k) = (D.τ (lk k)).ownBlock := fS PH
  -- another QA block is another one, but a Nz
  have sr : ∀ key g, key ≠ lk k → (γ key).par ≠ some (lk k) → eM D γ key = some g → (D.τ (lk k)).ownBlock ≠ some g := by
    intro key g h1 h2 h3 h4
    rcases h.sep key (lk k) g h3 (oU.trans h4) with e | e | e
    · exact h1 e
    · exact h2 e
    · rw [PB] at e; cases e
  have F8 : ∀ key g, key ≠ lk k → (γ key).par ≠ some (lk k) → eM D γ key = some g → w'.heap[g]? = w.heap[g]? ∧ ∀ o, R' g o → D.R g o := by
    intro key g h1 h2 h3
    have fO := sr key g h1 h2 h3
    refine ⟨he.heap g (h.lt h3) fO, fun o hr => ?_⟩
    rcases he.qE g o hr with e | e | e
    · exact e
    · have := h.lt h3; omega
    · exact (fO e).elim
  refine ⟨h.size, h.defers, h.iG, h.om, h.kU, fun t tw => ?_, fun m ts hm => ?_, fun key s' jC => ?_, fun key s' hs => ?_, h.sep, h.own, h.inv, ?_, eW, fun n => (h.gl n).mono he.bM, h.fix⟩
  · exact (h.slot t tw).imp id fun ⟨r, g⟩ => ⟨r.mono he.bM, fun hs => by have g := g hs; cases hg : γ t <;> rw [hg] at g <;> exact g⟩
  · obtain ⟨cs, hv, nR⟩ := h.mem m ts hm
    have h1 : m ≠ lk k := fun e => by subst e; rw [hm] at PH; cases PH
    obtain ⟨q1, q2⟩ := F8 m (D.β m) h1 (by rw [hm]; simp [Gh.par]) (gV hm)
    exact ⟨cs, hv.bM he.bM q1 (fun o hr => hv.C0 o (q2 o hr)), nR⟩
  · have h1 : key ≠ lk k := fun e => by subst e; rw [jC] at PH; cases PH
    exact (h.cD key s' jC).bM fun g hg => F8 key g h1 (by rw [jC]; simp [Gh.par]) ((gG jC).trans hg)
  · by_cases e : key = lk k
    · subst e
      rw [PA] at hs
      cases hs
      rw [jV]
      exact ⟨ht, hp, (h.ps _ _ PA).2.2⟩
    · obtain ⟨h1, h2, h3⟩ := h.ps key s' hs
      refine ⟨?_, ?_, h3⟩
      all_goals
        by_cases FU : ∃ g, (D.τ key).ownBlock = some g ∧ (D.τ (lk k)).ownBlock = some g
        all_goals try exact (h1.bM fun g hg => ⟨he.heap g (h1.lt hg) (fun e' => FU ⟨g, hg, e'⟩), fun o hr => (he.qE g o hr).elim id fun e' => e'.elim (fun e' => absurd (h1.lt hg) (by omega)) fun e' => (FU ⟨g, hg, e'⟩).elim⟩)
        all_goals try exact (h2.bM he.bM fun g hg => ⟨he.heap g (h1.lt hg) (fun e' => FU ⟨g, hg, e'⟩), fun o hr => (he.qE g o hr).elim id fun e' => e'.elim (fun e' => absurd (h1.lt hg) (by omega)) fun e' => (FU ⟨g, hg, e'⟩).elim⟩)
        obtain ⟨g, hg1, hg2⟩ := FU
        have mD : (γ key).par = some (lk k) := by
          by_cases mD : (γ key).par = some (lk k)
          · exact mD
          · exact (sr key g e mD ((fS (Gh.qI hs)).trans hg1) hg2).elim
        have Ph : γ key = .ni (lk k) s' := by
          cases hg : γ key <;> rw [hg] at mD hs <;> simp [Gh.par, Gh.CU] at mD hs
          rw [mD, hs]
        have Wt : γ (lk k) = .pc s := by
          have := h.inv key
          rw [Ph] at this
          rcases hk with e' | e'
          · rcases this with Tx | ⟨_, Tx⟩ <;> rw [e'] at Tx <;> cases Tx
          · exact e'
        -- the child, ahead and behind
        obtain ⟨ct, cp, _⟩ := h.ps _ _ PA
        rcases ct with e1 | ⟨gc, nc, XI, XE, ec, Zq, e1, c1, c2, c3, c4, c5, c6⟩
        · rw [e1] at hg2; cases hg2
        have Xw : gc = g := by rw [e1] at hg2; simpa [Value.ownBlock] using hg2
        subst Xw
        rcases ht with e2 | ⟨Zo, YT, UR, Kq, UN, P8, e2, d1, d2, d3, d4, d5, d6⟩
        · rw [e1] at e2; cases e2
        rw [e1] at e2
        cases e2
        rcases h1 with e3 | ⟨gp, np, Qj, XD, ep, Zp, e3, p1, p2, p3, p4, p5, p6⟩
        · rw [e3] at hg1; cases hg1
        have Xv : gp = gc := by rw [e3] at hg1; simpa [Value.ownBlock] using hg1
        subst Xv
        rw [c1] at p1
        cases p1
        first
        | exact .inr ⟨gp, np, Qj, Kq, UN, P8, e3, d1, d2, (d3.trans c3.symm).trans p3, p4, p5, fun o _ => hp.1 gp hg2 o⟩
        | refine ⟨fun g' kn o => by rw [hg1] at kn; cases kn; exact hp.1 gp hg2 o, ?_⟩
          rcases h3 _ _ _ Ph Wt with e4 | e4 | ⟨Ts, more, e4, e5⟩
          · exact .inl e4
          · rw [jV] at e4; cases e4
          · right
            rw [jV] at e5
            cases e5
            rcases h2.2 with e6 | ⟨Zu, e6, h7, h8⟩
            · rw [e4] at e6; cases e6
            rw [e4] at e6
            cases e6
            refine ⟨Ts, e4, h7, ?_⟩
            rcases h8 with ⟨_, e8⟩ | ⟨g8, TB, TA, Xs, Xo, e8, _, _⟩
            · rw [e3] at e8; cases e8
            rw [e3] at e8
            cases e8
            refine .inr ⟨gp, Qj, Kq, UN, P8, by rw [e3], d1, ?_⟩
            obtain ⟨Zt, e9, _, h9⟩ := hp.2.resolve_left (by simp)
            cases e9
            rcases h9 with ⟨_, yh⟩ | ⟨g9, XJ, XF, Zv, Zr, yh, q1, q2⟩
            · rw [e1] at yh; cases yh
            rw [e1] at yh
            cases yh
            rw [d1] at q1
            cases q1
            have M4 := xH (s := s) (es := Ts) h7
            have := q2.take (Ts.length * s)
            rw [List.flatMap_append, List.take_append_of_le_length (by omega), List.take_of_length_le (by omega), List.take_take, ao, Nat.add_mul] at this
            rwa [Nat.min_eq_left (by omega)] at this
  · exact h.ext.trans he fun b hb => h.own (lk k) b (oU.trans hb)
theorem uJ {l:List Operand} {rs:List cR} {i:Nat} (h:cN C D σ γ a w) (hx:bW l rs=true) (hs:small C.nt l=true) {x:AV} (he:(rs.map (cR.ev C.E σ))[i]?=some x) (hd:x ≠ .dead) (hk:x ≠ .sk) :
  ∃v,(l.map a.eval)[i]?=some v∧Rep D.R w x v∧∀g,(rs.map (cR.gh γ))[i]?=some g→iB D g v:=by
 induction l generalizing rs i with
 | nil=>cases rs with
  | nil=>simp at he
  | cons=>simp [bW] at hx
 | cons y l ih =>
  cases rs with
  | nil=>simp [bW] at hx
  | cons q qs =>
   simp [bW] at hx
   have s1:small C.nt [y]=true:=by simp [small] at hs ⊢;exact hs.1
   have s2:small C.nt l=true:=by simp only [small,List.all_cons,aa] at hs;exact hs.2
   cases i with
   | zero =>
    simp at he
    have h0:=h.gE hx.1 s1
    refine ⟨a.eval y,rfl,he ▸ h0.rep (by rw [he];exact hd),fun g hg=>?_⟩
    simp at hg
    exact hg ▸ h0.gh (by rw [he];exact hd) (by rw [he];exact hk)
   | succ i=>simpa using ih hx.2 s2 (by simpa using he)
variable {o:Oper} {d:Nat} {K:Act→World→Prop} {Q:Exit→Act→World→Prop} (h:cN C D σ γ a w)
include h
omit h in
theorem cN.rX {D':kf} {w':World} (hS:cN C D' σ γ a w') (hl:d<C.nt) {n:Nat} {rvs:List Value} {outs:List AV} {x:Value} (h1:rvs.length=n) (h2:x=(if n=1 then rvs.headD undef else .tuple ⟨rvs⟩)) (h3:fo D'.R w' outs rvs) (rD:outs.length=n) :
  cN C D' (cI σ d (if n=1 then outs.headD .dead else .tu outs)) (cI γ d .no) (a.put (some d) x) w':=by
 refine hS.put hl (.plain ?_) rfl rfl trivial
 by_cases e:n=1
 ·rw [aG e] at h2 ⊢
  subst h2
  rw [e] at h1
  match rvs,h1 with
  | [y],_=>cases h3 with
   | cons h1 _=>exact h1
 ·rw [aE e] at h2 ⊢
  subst h2
  exact .tu h3
theorem EZ (hd:o.dst=some d) (hl:d<C.nt) {f n i k s:Nat} {args:Array Operand} {ts:Array TypeId} {rs:List cR} {es:List AV} {outs:List AV} (ho:o.op = .call { callee := .value (.func f),args,argTypes:=ts }) (hp:fI C.P f=true)
  {S:FS} (hS:dK C.P C.E.gl f S) (je:S.sg.ps=some (i,s)) (Dl:i<1000) (hn:S.sg.bQ=n) (hx:bW args.toList rs=true) (de:small C.nt args.toList=true)
  (tT:(rs.map (cR.ev C.E σ))[i]?=some .pt) (Dm:(rs.map (cR.gh γ))[i]?=some (.cD k s)) (hk:γ (lk k) = .pv s∨γ (lk k) = .pc s) (jV:σ (lk k) = .sl s es)
  (hG:S.G ((rs.map (cR.ev C.E σ)).set i (.sl s es)) outs) (rD:outs.length=n)
  (hK:∀D' a' w',cN C D' (cI σ d (if n=1 then outs.headD .dead else .tu outs)) (cI γ d .no) a' w'→K a' w'):o.wp C.P a w K Q:=by
 have PA:(γ (lk k)).CU=some s:=by rcases hk with e | e <;> rw [e] <;> rfl
 obtain ⟨ht,vD,_⟩:=h.ps _ _ PA
 obtain ⟨v,hv1,_,hv2⟩:=uJ h hx de tT (by simp) (by simp)
 have hv3:=(hv2 _ Dm).1
 subst hv3
 have hT:=h.qL hx de
 have xw:=(aF.1 tT).1
 have qT:((rs.map (cR.ev C.E σ)).set i (.sl s es)).set i .pt=rs.map (cR.ev C.E σ):=by rw [List.set_set,nv tT]
 unfold Oper.wp
 rw [kQ ho hp,Oper.upon_enter]
 have:=(hS.2 i s je).1 Dl w D.R _ outs (args.toList.map a.eval) _ es hG h.j0 h.gl hv1 (List.getElem?_set_self xw) ht (jV ▸ vD) (by rw [qT];exact hT)
 have e:(⟨args.toList.map a.eval⟩:Array Value)=args.map a.eval:=by apply Array.ext';simp
 rw [e] at this
 refine this.mono ?_
 rintro e w' ⟨x,R',rvs,rfl,h1,h2,h3,h4,h5,h6,h7⟩
 simp only
 rw [hd]
 exact hK _ _ _ (cN.rX (h.Qk hk jV h1 h2 h6 h7) hl (h3.trans hn) (by rw [←hn];exact h4) h5 rD)
theorem EY (hd:o.dst=some d) (hl:d<C.nt) {f n i s:Nat} {args:Array Operand} {ts:Array TypeId} {rs:List cR} {outs:List AV} (ho:o.op = .call { callee := .value (.func f),args,argTypes:=ts }) (hp:fI C.P f=true)
  {S:FS} (hS:dK C.P C.E.gl f S) (je:S.sg.ps=some (i,s)) (Dl:i<1000) (hn:S.sg.bQ=n) (hx:bW args.toList rs=true) (de:small C.nt args.toList=true)
  (hi:args.toList[i]?=some (.const (.slice none 0 0))) (hv:(rs.map (cR.ev C.E σ))[i]?=some (.sl s [])) (hG:S.G (rs.map (cR.ev C.E σ)) outs) (rD:outs.length=n)
  (hK:∀D' a' w',cN C D' (cI σ d (if n=1 then outs.headD .dead else .tu outs)) (cI γ d .no) a' w'→K a' w'):o.wp C.P a w K Q:=by
 have hT:=h.qL hx de
 have hv1:(args.toList.map a.eval)[i]?=some (.slice none 0 0):=by rw [aI,hi];rfl
 have P1:fo D.R w ((rs.map (cR.ev C.E σ)).set i .pt) (args.toList.map a.eval):=by
  have:∀{l:List AV} {ys:List Value} {i:Nat},fo D.R w l ys→fo D.R w (l.set i .pt) ys:=by
   intro l ys i hr
   induction i generalizing l ys with
   | zero=>cases hr with
    | nil=>exact .nil
    | cons a b=>exact .cons (.pt _) b
   | succ i ih=>cases hr with
    | nil=>exact .nil
    | cons a b=>exact .cons a (ih b)
  exact this hT
 unfold Oper.wp
 rw [kQ ho hp,Oper.upon_enter]
 have:=(hS.2 i s je).1 Dl w D.R _ outs (args.toList.map a.eval) _ [] hG h.j0 h.gl hv1 hv (.inl rfl) ⟨by simp [Value.ownBlock],.inr ⟨[],rfl,by simp,.inl ⟨rfl,rfl⟩⟩⟩ P1
 have e:(⟨args.toList.map a.eval⟩:Array Value)=args.map a.eval:=by apply Array.ext';simp
 rw [e] at this
 refine this.mono ?_
 rintro e w' ⟨x,R',rvs,rfl,h1,h2,h3,h4,h5,h6,h7⟩
 simp only
 rw [hd]
 have Po:=h.ve (w':=w') (R':=R') (by
  have:(fun c=>(Value.slice none 0 0).ownBlock=some c)=fun _=>False:=by funext c;simp [Value.ownBlock]
  rwa [this] at h1) h2
 exact hK _ _ _ (cN.rX Po hl (h3.trans hn) (by rw [←hn];exact h4) h5 rD)
theorem EX (hd:o.dst=some d) (hl:d<C.nt) {x:Operand} {r:cR} {t e y:TypeId} {k s s0:Nat} {es:List AV} (ho:o.op = .binOp .eql t x (.const (.slice none 0 0)) y) (ht:C.P.underlying t=some (.slice e)) (hx:bU x r=true) (fy:small C.nt [x]=true)
  (hr:r.ev C.E σ = .pt) (hg:r.gh γ = .cD k s0) {s1:Nat} (hk:γ (lk k) = .pv s) (jV:σ (lk k) = .sl s1 es) (hK:∀D' a' w',cN C D' (cI σ d (match es with | [] => .ab | _ :: _ => .v (.bool false))) (cI γ d .no) a' w'→K a' w'):o.wp C.P a w K Q:=by
 have e0:=h.gE hx fy
 have hv:=e0.gh (by rw [hr];simp) (by rw [hr];simp)
 rw [hg] at hv
 obtain ⟨_,_,qV⟩:=h.qH hk
 rw [jV] at qV
 obtain ⟨Km,he,_,hp⟩:=qV.resolve_left (by simp)
 cases he
 have hc:a.eval (.const (.slice none 0 0)) = .slice none 0 0:=rfl
 rcases hp with ⟨rfl,e1⟩ | ⟨g,cap,cur,ce,fz,e1,_⟩
 ·have hval:a.eval x = .slice none 0 0:=hv.1.trans e1
  have cM:(execOp a.eval o).run C.P w = .ok (.value (.bool true)) w:=by
   simp only [execOp,ho,hval,hc,eqGuard,Sem.run_bind,Sem.run_pure,Sem.run_ite,Result.andThen_ok]
   simp only [a8,aY,if_false,Sem.run_pure,Result.andThen_ok]
   rw [Lib.run_eql_slice_nil w t e _ _ _ _ _ ht]
   rfl
  exact h.fR hd hl cM (.ab _) hK
 ·have hval:a.eval x = .slice (some ⟨g,0,none⟩) es.length cap:=hv.1.trans e1
  have cM:(execOp a.eval o).run C.P w = .ok (.value (.bool false)) w:=by
   simp only [execOp,ho,hval,hc,eqGuard,Sem.run_bind,Sem.run_pure,Sem.run_ite,Result.andThen_ok]
   simp only [a8,aY,if_false,Sem.run_pure,Result.andThen_ok]
   rw [Lib.run_eql_slice_nil w t e _ _ _ _ _ ht]
   rfl
  cases es with
  | nil=>exact h.fR hd hl cM (.ab _) hK
  | cons _ _=>exact h.fR hd hl cM (.v _) hK
theorem NM (hd:o.dst=some d) (hl:d<C.nt) {x y:Operand} {r q:cR} {t e:TypeId} {inf:TypeInfo} {m n s:Nat} {ts:List (Nat × (Nat × Nat))} {ik:IntKind} {i:Int} (ho:o.op = .indexAddr t x y) (ht:C.P.underlying t=some (.array n e)) (hi:C.P.info? e=some inf) (hz:inf.size=s)
  (hx:bU x r=true) (hy:bU y q=true) (fy:small C.nt [x]=true) (lA:small C.nt [y]=true)
  (hr:r.ev C.E σ = .pt) (hg:r.gh γ = .ptr m 0) (hm:γ m = .cl ts) (hq:q.ev C.E σ = .v (.int ik i)) (h0:0≤i) (eW:i<n)
  (hK:∀D' a' w',cN C D' (cI σ d (.el i.toNat s 0)) (cI γ d (.pm m)) a' w'→K a' w'):o.wp C.P a w K Q:=by
 have e0:=h.gE hx fy
 have hv:=e0.gh (by rw [hr];simp) (by rw [hr];simp)
 rw [hg] at hv
 simp only [iB] at hv
 have e2:=(h.gE hy lA).rep (by rw [hq];simp)
 rw [hq] at e2
 have cM:(execOp a.eval o).run C.P w = .ok (.value (.pointer (some ⟨D.β m,i.toNat * s,none⟩))) w:=by
  simp [execOp,ho,hv,e2.fF,Instr.indexAt,Instr.sureAddr,asIntOf,run_underlying ht,run_sizeOf hi,hz,h0,eW,fJ]
 refine h.val (g := .pm m) hd hl cM (.inr ⟨.el _ _ 0 _,fun _=>⟨_,rfl⟩⟩) rfl rfl ?_ hK
 show (γ m).ff=true
 rw [hm];rfl
theorem NL (hd:o.dst=some d) (hl:d<C.nt) {x:Operand} {r:cR} {t:TypeId} {inf:TypeInfo} {m i s o':Nat} {cs:List AV} {ts:List (Nat × (Nat × Nat))} {y:AV} (ho:o.op = .load t x) (hi:C.P.info? t=some inf) (hz:inf.size=1) (ha:jU C.P t=some false)
  (hx:bU x r=true) (fy:small C.nt [x]=true) (hr:r.ev C.E σ = .el i s o') (hg:r.gh γ = .pm m) (hm:γ m = .cl ts) (jV:σ m = .ag cs) (hp:fP cs (i * s+o') 1 false=some y)
  (hK:∀D' a' w',cN C D' (cI σ d y) (cI γ d .no) a' w'→K a' w'):o.wp C.P a w K Q:=by
 have e0:=h.gE hx fy
 have e1:=e0.rep (by rw [hr];simp)
 have hv:=e0.gh (by rw [hr];simp) (by rw [hr];simp)
 rw [hr] at e1
 rw [hg] at hv
 obtain ⟨b,hb⟩:=Rep.xM e1
 obtain ⟨q,hq⟩:=hv
 rw [hb] at hq
 cases hq
 obtain ⟨ws,tz,_⟩:=h.mem m ts hm
 rw [jV] at tz
 obtain ⟨elem,hh,hL⟩:=tz.ag
 obtain ⟨hlen,ir⟩:=mV hL hp (.inr rfl)
 have hc:∀j y,(((ws.take cs.length).drop (i * s+o')).take 1)[j]?=some y→w.cell? ⟨D.β m,i * s+o'+j,none⟩=some y:=by
  intro j y hj
  simp only [World.cell?,hh]
  rw [aO] at hj
  split at hj
  ·rw [List.getElem?_drop,aO] at hj
   split at hj
   ·simpa using hj
   ·cases hj
  ·cases hj
 have cM:=kL (P:=C.P) hi ha (.inr hz) (hlen.trans hz.symm) hc
 refine h.fR hd hl (?_:(execOp a.eval o).run C.P w = .ok (.value _) w) ir hK
 simp only [execOp,ho,hb,Instr.loadAt,Instr.sureAddr,Sem.run_bind,Sem.run_pure,Result.andThen_ok,cM]
end
end Go.Eng
namespace Go.Eng
open Go.RowKit
section
variable {P:Program} {w:World}
theorem kT {R:Reach} {t u ty e:TypeId} {i:TypeInfo} {z:Value} {du:TypeDesc} (ht:P.underlying t=some (.slice e)) (hi:P.info? e=some i) (hz:i.zero=some z) (zi:z.cells.size=i.size) (hu:P.underlying u=some du) (vF:∀k,du ≠ .int k)
  {x0 x:Value} {es fs:List AV} {news:List Value} (hT:ft R w x0 i.size) (hP:fQ R w x0 i.size (.sl i.size es)) (eW:∀b o,R b o→b<w.heap.size)
  (hx:Source P w i.size x fs.length news) (hL:dz R w (fs.flatMap AV.cells) news) (qt:∀e∈fs,e.cells.length=i.size) (zz:es.length+fs.length≤maxLen) (hb:(es.length+fs.length) * i.bytes≤140737488355328) :
  ∃v w',(Builtin.append_ #[t,u] ty #[x0,x]).run P w = .ok v w'∧w'.os=w.os∧w'.tape=w.tape∧w'.output=w.output∧w.heap.size≤w'.heap.size ∧
   (∀b,b<w.heap.size→x0.ownBlock≠some b→w'.heap[b]?=w.heap[b]?)∧ft R w' x0 i.size∧fQ R w' x0 i.size (.sl i.size es) ∧
   ft R w' v i.size∧fQ R w' v i.size (.sl i.size (es++fs))∧(∀g,v.ownBlock=some g→x0.ownBlock=some g∨w.heap.size≤g):=by
 have zo:=hx.2.2.1
 obtain ⟨Kg,Mm⟩:=hP
 obtain ⟨Km,WU,qu,Xd⟩:=Mm.resolve_left (by simp)
 cases WU
 have Kd:∀e∈es++fs,e.cells.length=i.size:=fun e he=>by
  rcases List.mem_append.1 he with he | he
  ·exact qu e he
  ·exact qt e he
 -- the row P5
 have grow:∀(q:Option Addr) (cap:Nat) (mB:List Value),x0 = .slice q es.length cap→cap<es.length+fs.length→(∀w':World,w'.heap=w.heap→(Builtin.firstCells i.size es.length (.slice q es.length cap)).run P w' = .ok ⟨mB⟩ w') →
   dz R w (es.flatMap AV.cells) mB→mB.length=es.length * i.size →
   ∃v w',(Builtin.append_ #[t,u] ty #[x0,x]).run P w = .ok v w'∧w'.os=w.os∧w'.tape=w.tape∧w'.output=w.output∧w.heap.size≤w'.heap.size ∧
   (∀b,b<w.heap.size→x0.ownBlock≠some b→w'.heap[b]?=w.heap[b]?)∧ft R w' x0 i.size∧fQ R w' x0 i.size (.sl i.size es) ∧
   ft R w' v i.size∧fQ R w' v i.size (.sl i.size (es++fs))∧(∀g,v.ownBlock=some g→x0.ownBlock=some g∨w.heap.size≤g):=by
  intro q cap mB kX SN ho IY qp
  have cM:=mU (ty:=ty) ht hi hz hu vF ho hx SN zz hb
  have yf:=grownCap_ge w (es.length+fs.length) cap e
  have hle:=grownCap_le_maxLen w (es.length+fs.length) cap e zz
  let row:Array Value:=(⟨mB⟩:Array Value)++⟨news⟩++Builtin.zeroCells z.cells (grownCap w (es.length+fs.length) cap e - (es.length+fs.length))
  let w1:World:=w.drew.alloc (.cells row e)
  have gX:w1.heap[w.heap.size]?=some (.cells row e (0,0)):=by
   show (w.heap.push _)[w.heap.size]?=_
   simp
  have hold:∀c,c<w.heap.size→w1.heap[c]?=w.heap[c]?:=fun c hc=>by
   show (w.heap.push _)[c]?=_
   rw [Array.getElem?_push,aE (by omega)]
  have pH:row.size=grownCap w (es.length+fs.length) cap e * i.size:=by
   simp only [row,Array.size_append,List.size_toArray,size_zeroCells,zi,qp,zo,←Nat.add_mul]
   congr 1;omega
  have nU:∀q,¬R w.heap.size q:=fun q hr=>by have:=eW _ q hr;omega
  have bM:fu R w R w1:=fun b o hr=>⟨hr,World.cell?_of_block (w:=w) (hold b (eW b o hr))⟩
  have QH:row.toList.take ((es++fs).length * i.size)=mB++news:=by
   have:(es++fs).length * i.size=(mB++news).length:=by rw [ao,ao,Nat.add_mul,qp,zo]
   rw [this]
   have Sr:row.toList=(mB++news)++(Builtin.zeroCells z.cells (grownCap w (es.length+fs.length) cap e - (es.length+fs.length))).toList:=by simp [row]
   rw [Sr,List.take_left]
  refine ⟨_,w1,by rw [kX];exact cM,rfl,rfl,rfl,by show _≤(w.heap.push _).size;simp,fun b zw _=>hold b zw,hT.bM fun g hg=>⟨hold g (hT.lt hg),fun _ hr=>hr⟩,
   fQ.bM ⟨Kg,Mm⟩ bM fun g hg=>⟨hold g (hT.lt hg),fun _ hr=>hr⟩,.inr ⟨_,_,_,_,_,_,rfl,gX,by simp,pH,yf,hle,fun q _=>nU q⟩,
   ⟨fun g hg q=>?_,.inr ⟨_,rfl,Kd,.inr ⟨w.heap.size,grownCap w (es.length+fs.length) cap e,row,e,(0,0),by rw [ao],gX,?_⟩⟩⟩,fun g hg=>?_⟩
  ·simp [Value.ownBlock] at hg;subst hg;exact nU q
  ·rw [QH,List.flatMap_append]
   exact (IY.append hL).mono bM
  ·simp [Value.ownBlock] at hg
   exact .inr (by omega)
 rcases Xd with ⟨rfl,e0⟩ | ⟨g,cap,cur,ce,fz,e0,hg,IY⟩
 ·by_cases hm:fs.length=0
  ·have Mc:fs=[]:=aS hm
   subst Mc
   refine ⟨.slice none 0 0,w,?_,rfl,rfl,rfl,Nat.le_refl _,fun _ _ _=>rfl,hT,⟨Kg,Mm⟩,.inl rfl,⟨by simp [Value.ownBlock],.inr ⟨[],rfl,by simp,.inl ⟨rfl,rfl⟩⟩⟩,by simp [Value.ownBlock]⟩
   obtain ⟨h1,h2,h3,h4⟩:=hx
   have PO:(match du with | .int _=>true | _=>false)=false:=by cases du <;> first | rfl | exact (vF _ rfl).elim
   have Ct:=h2 w rfl
   simp only [aZ] at h1 Ct
   rw [e0]
   simp [Builtin.append_,run_underlying ht,run_underlying hu,PO,sizeOf,typeInfo,hi,h1,Ct]
  ·exact grow none 0 [] e0 (by simp;omega) (fun _ _=>rfl) .nil (by simp)
 ·rcases hT with e1 | ⟨g1,n1,XK,XG,Zx,Zs,e1,hg1,hfz,xy,Pt,vG,nU⟩
  ·rw [e0] at e1;cases e1
  rw [e0] at e1
  cases e1
  rw [hg] at hg1
  cases hg1
  have FY:x0.ownBlock=some g:=by rw [e0];rfl
  have jf:es.length * i.size≤cap * i.size:=ar _ Pt
  have qp:(cur.toList.take (es.length * i.size)).length=es.length * i.size:=by simp;omega
  by_cases oH:es.length+fs.length≤cap
  ·have cM:=mT (ty:=ty) ht hi hu vF hg hfz hx oH xy
   have hle:(es.length+fs.length) * i.size≤cap * i.size:=ar _ oH
   rw [Nat.add_mul] at hle
   let new:Array Value:=(cur.toList.take (es.length * i.size)++news++cur.toList.drop (es.length * i.size+news.length)).toArray
   let w1:World:=w.setRow g new
   have Cq:w1.heap[g]?=some (.cells new ce fz):=setRow_heap w g cur new ce fz hg
   have hold:∀b,b≠g→w1.heap[b]?=w.heap[b]?:=fun b hb=>setRow_other w g b _ hb
   have Uc:new.size=cur.size:=by simp [new];omega
   have bM:fu R w R w1:=fun b o hr=>⟨hr,World.cell?_of_block (w:=w) (hold b (fun e=>Kg g FY o (e ▸ hr)))⟩
   have ht1:new.toList.take (es.length * i.size)=cur.toList.take (es.length * i.size):=by
    show (cur.toList.take (es.length * i.size)++news++_).take (es.length * i.size)=_
    rw [aN,List.take_append_of_le_length (by omega),List.take_take,Nat.min_self]
   have ht2:new.toList.take ((es++fs).length * i.size)=cur.toList.take (es.length * i.size)++news:=by
    have:(es++fs).length * i.size=(cur.toList.take (es.length * i.size)++news).length:=by rw [ao,ao,Nat.add_mul,qp,zo]
    show (cur.toList.take (es.length * i.size)++news++_).take _=_
    rw [this,List.take_left]
   refine ⟨_,w1,by rw [e0];exact cM,rfl,rfl,rfl,by simp [w1],fun b zw fO=>hold b (fun e=>fO (by rw [FY,e])),.inr ⟨g,_,_,new,ce,fz,e0,Cq,fun o ho=>hfz o (by omega),Uc.trans xy,Pt,vG,fun o _=>Kg g FY o⟩,
    ⟨Kg,.inr ⟨es,rfl,qu,.inr ⟨g,cap,new,ce,fz,e0,Cq,by rw [ht1];exact IY.mono bM⟩⟩⟩,.inr ⟨g,_,_,new,ce,fz,rfl,Cq,fun o ho=>hfz o (by omega),Uc.trans xy,oH,vG,fun o _=>Kg g FY o⟩,
    ⟨fun g' kn o=>by simp [Value.ownBlock] at kn;subst kn;exact Kg _ FY o,.inr ⟨_,rfl,Kd,.inr ⟨g,cap,new,ce,fz,by rw [ao],Cq,?_⟩⟩⟩,fun g' kn=>?_⟩
   ·rw [ht2,List.flatMap_append]
    exact (IY.append hL).mono bM
   ·simp [Value.ownBlock] at kn
    subst kn
    exact .inl FY
  ·exact grow (some ⟨g,0,none⟩) cap (cur.toList.take (es.length * i.size)) e0 (by omega) (fun w' hw=>run_firstCells_some (P:=P) w' i.size es.length ⟨g,0,none⟩ es.length cap _ qp (fun j v hj=>by
    rw [fJ,World.cell?_of_block (w:=w) (by rw [hw])]
    rw [aO] at hj
    split at hj
    ·simp only [World.cell?,hg,Nat.zero_add];simpa using hj
    ·cases hj)) IY qp
end
section
variable {C:Ctx} {D:kf} {σ:Sg} {γ:Ga} {a:Act} {w:World}
theorem cN.P6 (h:cN C D σ γ a w) {k j s:Nat} (hk:γ (lk k) = .pv s) (hj:γ (lk j) = .no) {w':World} (os:w'.os=w.os) (tape:w'.tape=w.tape) (out:w'.output=w.output) (size:w.heap.size≤w'.heap.size)
  (hh:∀b,b<w.heap.size→(D.τ (lk k)).ownBlock≠some b→w'.heap[b]?=w.heap[b]?) {v:Value} {es more:List AV} (jV:σ (lk k) = .sl s es)
  (pt:ft D.R w' (D.τ (lk k)) s) (pp:fQ D.R w' (D.τ (lk k)) s (.sl s es)) (ct:ft D.R w' v s) (cp:fQ D.R w' v s (.sl s (es++more))) (hv:∀g,v.ownBlock=some g→(D.τ (lk k)).ownBlock=some g∨w.heap.size≤g) :
  cN C { D with τ:=cI D.τ (lk j) v } (bP σ [lk k,lk j] [.sl s es,.sl s (es++more)]) (bP γ [lk k,lk j] [.ni (lk j) s,.pc s]) a w':=by
 have fO:lk k≠lk j:=fun e=>by rw [e,hj] at hk;cases hk
 have oU:eM D γ (lk k)=(D.τ (lk k)).ownBlock:=fS (by rw [hk];rfl)
 have vD:=(h.qH hk).2.1
 have bM:fu D.R w D.R w':=fun b o hr=>⟨hr,World.cell?_of_block (w:=w) (hh b (h.j0 b o hr) (fun e=>vD b e o hr))⟩
 have Dz:bP σ [lk k,lk j] [.sl s es,.sl s (es++more)]=cI (cI σ (lk j) (.sl s (es++more))) (lk k) (.sl s es):=rfl
 have zR:bP γ [lk k,lk j] [Gh.ni (lk j) s,.pc s]=cI (cI γ (lk j) (.pc s)) (lk k) (.ni (lk j) s):=rfl
 rw [Dz,zR]
 generalize LV:cI (cI γ (lk j) (.pc s)) (lk k) (.ni (lk j) s)=nY
 generalize LU:cI (cI σ (lk j) (.sl s (es++more))) (lk k) (.sl s es)=dC
 have g1:nY (lk k) = .ni (lk j) s:=by rw [←LV,bF]
 have g2:nY (lk j) = .pc s:=by rw [←LV,bG _ _ fO.symm,bF]
 have g3:∀x,x≠lk k→x≠lk j→nY x=γ x:=fun x h1 h2=>by rw [←LV,bG _ _ h1,bG _ _ h2]
 have s1:dC (lk k) = .sl s es:=by rw [←LU,bF]
 have s2:dC (lk j) = .sl s (es++more):=by rw [←LU,bG _ _ fO.symm,bF]
 have s3:∀x,x≠lk k→x≠lk j→dC x=σ x:=fun x h1 h2=>by rw [←LU,bG _ _ h1,bG _ _ h2]
 have jf:∀m,(nY m).ff=(γ m).ff:=fun m=>by
  by_cases e1:m=lk k
  ·subst e1;rw [g1,hk];rfl
  ·by_cases e2:m=lk j
   ·subst e2;rw [g2,hj];rfl
   ·rw [g3 m e1 e2]
 have kO:∀m,(γ m).eD=true→(nY m).eD=true:=fun m hm=>by
  by_cases e1:m=lk k
  ·subst e1;rw [g1];rfl
  ·by_cases e2:m=lk j
   ·subst e2;rw [g2];rfl
   ·rw [g3 m e1 e2];exact hm
 have WE:∀m,(γ m).eD=true→m≠lk j:=fun m hm e=>by subst e;rw [hj] at hm;cases hm
 have pP:∀m,(γ m).eD=true→cI D.τ (lk j) v m=D.τ m:=fun m hm=>bG _ _ (WE m hm)
 have hM:∀g,eV γ g→eV nY g:=fun g hg=>by
  cases g with
  | ptr m o=>simp only [eV,jf] at hg ⊢;exact hg
  | pm m=>simp only [eV,jf] at hg ⊢;exact hg
  | cD q s'=>exact kO _ hg
  | pe q=>exact kO _ hg
  | cl ts=>exact fun t ht=>kO _ (hg t ht)
  | yb ts p=>exact ⟨fun t ht=>kO _ (hg.1 t ht),fun q hq=>by rw [jf];exact hg.2 q hq⟩
  | ni q s' =>
   have h1:q≠lk k:=fun e=>by subst e;rcases hg with e | ⟨_,e⟩ <;> rw [hk] at e <;> cases e
   have h2:q≠lk j:=fun e=>by subst e;rcases hg with e | ⟨_,e⟩ <;> rw [hj] at e <;> cases e
   simp only [eV,g3 q h1 h2];exact hg
  | _=>trivial
 have FZ:∀t q,t<C.nt→t≠lk q:=fun t q ht e=>by have:=fN q;have:=h.iG;omega
 -- other Qz blocks
 have L5:∀key g,key≠lk k→eM D γ key=some g→w'.heap[g]?=w.heap[g]?:=fun key g hn hb=>hh g (h.lt hb) (fun e=>hn (h.sS hk (oU.trans e) hb))
 have zw:∀key,eM { D with τ:=cI D.τ (lk j) v } nY key=if key=lk j then v.ownBlock else eM D γ key:=fun key=>by
  by_cases e2:key=lk j
  ·subst e2;rw [aG rfl,fS (by rw [g2];rfl)];simp only [bF]
  ·rw [aE e2]
   by_cases e1:key=lk k
   ·subst e1;rw [fS (by rw [g1];rfl),fS (by rw [hk];rfl)];simp only [bG _ _ e2]
   ·unfold eM
    rw [g3 key e1 e2]
    simp only [bG _ _ e2]
 have Mi:∀key g,key≠lk j→eM D γ key=some g→v.ownBlock=some g→key=lk k:=fun key g _ hb hg=>by
  rcases hv g hg with e | e
  ·exact h.sS hk (oU.trans e) hb
  ·have:=h.lt hb;omega
 have mD:∀key,key≠lk k→key≠lk j→(nY key).par=(γ key).par:=fun key h1 h2=>by rw [g3 key h1 h2]
 refine ⟨h.size,h.defers,h.iG,fun m hm=>h.om m (by rwa [jf] at hm),fun m hm=>?_,fun t ht=>?_,fun m ts hm=>?_,fun key s' hs=>?_,fun key s' hs=>?_,fun p q g hp hq=>?_,fun p g hp=>?_,fun key=>?_,?_,fun b o hr=>Nat.lt_of_lt_of_le (h.j0 b o hr) size,fun n=>(h.gl n).mono bM,h.fix.of rfl (fun hp=>?_)⟩
 ·by_cases e1:m=lk k
  ·subst e1;exact fN _
  ·by_cases e2:m=lk j
   ·subst e2;exact fN _
   ·rw [g3 m e1 e2] at hm;exact h.kU m hm
 ·rw [s3 t (FZ t k ht) (FZ t j ht),g3 t (FZ t k ht) (FZ t j ht)]
  exact (h.slot t ht).imp id fun ⟨r,g⟩=>⟨r.mono bM,fun hs=>iB.congr (D:=D) (h.inv t) (fun _ _=>rfl) (fun q hq=>pP _ hq) (g hs)⟩
 ·have e1:m≠lk k:=fun e=>by subst e;rw [g1] at hm;cases hm
  have e2:m≠lk j:=fun e=>by subst e;rw [g2] at hm;cases hm
  rw [g3 m e1 e2] at hm
  rw [s3 m e1 e2]
  obtain ⟨cs,hV,nR⟩:=h.mem m ts hm
  have hi:=h.inv m
  rw [hm] at hi
  exact ⟨cs,hV.bM bM (L5 m _ e1 (gV hm)) hV.C0,fun t ht=>by show cs[t.1]?=some (cI D.τ (lk j) v (lk t.2.1));rw [pP _ (hi t ht)];exact nR t ht⟩
 ·have e1:key≠lk k:=fun e=>by subst e;rw [g1] at hs;cases hs
  have e2:key≠lk j:=fun e=>by subst e;rw [g2] at hs;cases hs
  rw [g3 key e1 e2] at hs
  simp only [bG _ _ e2]
  exact (h.cD key s' hs).bM fun g hg=>⟨L5 key g e1 ((gG hs).trans hg),fun _ hr=>hr⟩
 ·have qU:key≠lk k→vl dC nY key:=fun e1 d Rf s4 f1 f2=>by
   have e2:key≠lk j:=fun e=>by subst e;rw [g2] at f1;cases f1
   rw [g3 key e1 e2] at f1
   have hi:=h.inv key
   rw [f1] at hi
   have d1:d≠lk k:=fun e=>by subst e;rw [g1] at f2;cases f2
   have d2:d≠lk j:=fun e=>by subst e;rcases hi with e | ⟨_,e⟩ <;> rw [hj] at e <;> cases e
   rw [g3 d d1 d2] at f2
   rw [s3 key e1 e2,s3 d d1 d2]
   exact (h.ps key Rf (by rw [f1];rfl)).2.2 d Rf s4 f1 f2
  by_cases e1:key=lk k
  ·subst e1
   rw [g1] at hs
   cases hs
   rw [s1]
   simp only [bG _ _ fO]
   exact ⟨pt,pp,fun d Rf s4 f1 f2=>by rw [g1] at f1;cases f1;exact .inr (.inr ⟨es,more,s1,s2⟩)⟩
  ·by_cases e2:key=lk j
   ·subst e2
    rw [g2] at hs
    cases hs
    rw [s2]
    simp only [bF]
    exact ⟨ct,cp,qU e1⟩
   ·have J0:=hs
    rw [g3 key e1 e2] at J0
    rw [s3 key e1 e2]
    simp only [bG _ _ e2]
    obtain ⟨q1,q2,_⟩:=h.ps key s' J0
    have hb:=fun g hg=>L5 key g e1 ((fS (Gh.qI J0)).trans hg)
    exact ⟨q1.bM fun g hg=>⟨hb g hg,fun _ hr=>hr⟩,q2.bM bM fun g hg=>⟨hb g hg,fun _ hr=>hr⟩,qU e1⟩
 ·rw [zw] at hp hq
  by_cases p2:p=lk j
  ·by_cases q2:q=lk j
   ·exact .inl (p2.trans q2.symm)
   ·rw [aG p2] at hp
    rw [aE q2] at hq
    have:=Mi q g q2 hq hp
    subst this
    right;right
    rw [g1,p2];rfl
  ·rw [aE p2] at hp
   by_cases q2:q=lk j
   ·rw [aG q2] at hq
    have:=Mi p g p2 hp hq
    subst this
    right;left
    rw [g1,q2];rfl
   ·rw [aE q2] at hq
    rcases h.sep p q g hp hq with e | e | e
    ·exact .inl e
    ·have p1:p≠lk k:=fun e'=>by subst e';rw [hk] at e;cases e
     right;left;rw [mD p p1 p2];exact e
    ·have q1:q≠lk k:=fun e'=>by subst e';rw [hk] at e;cases e
     right;right;rw [mD q q1 q2];exact e
 ·rw [zw] at hp
  by_cases p2:p=lk j
  ·rw [aG p2] at hp
   rcases hv g hp with e | e
   ·exact h.own (lk k) g (oU.trans e)
   ·exact .inr (Nat.le_trans h.ext.size e)
  ·rw [aE p2] at hp;exact h.own p g hp
 ·by_cases e1:key=lk k
  ·subst e1;rw [g1];exact .inr ⟨s,g2⟩
  ·by_cases e2:key=lk j
   ·subst e2;rw [g2];trivial
   ·rw [g3 key e1 e2];exact hM _ (h.inv key)
 ·refine ⟨os.trans h.ext.os,tape.trans h.ext.tape,out.trans h.ext.output,Nat.le_trans h.ext.size size,fun b hb hn=>?_,h.ext.bM.trans bM,h.ext.qE⟩
  refine (hh b (Nat.lt_of_lt_of_le hb h.ext.size) fun e=>?_).trans (h.ext.heap b hb hn)
  rcases h.own (lk k) b (oU.trans e) with e | e
  ·exact hn e
  ·omega
 ·have e2:lk 999999≠lk j:=fun e=>by rw [e,hj] at hp;cases hp
  refine ⟨?_,bG _ _ e2⟩
  by_cases e1:lk 999999=lk k
  ·rw [e1,g1];rfl
  ·rw [g3 _ e1 e2];exact hp
variable {o:Oper} {d:Nat} {K:Act→World→Prop} {Q:Exit→Act→World→Prop} (h:cN C D σ γ a w)
include h
theorem Ld (hd:o.dst=some d) (hl:d<C.nt) {x y:Operand} {r q:cR} {t u e:TypeId} {i:TypeInfo} {z:Value} {du:TypeDesc} {k j s:Nat} {es fs:List AV} (ho:o.op = .call { callee := .builtin .append,args:=#[x,y],argTypes:=#[t,u] })
  (ht:C.P.underlying t=some (.slice e)) (hi:C.P.info? e=some i) (hz:i.zero=some z) (zi:z.cells.size=i.size) (hu:C.P.underlying u=some du) (vF:∀k,du ≠ .int k) (hs:i.size=s)
  (hx:bU x r=true) (fy:small C.nt [x]=true) (hy:bU y q=true) (lA:small C.nt [y]=true) (hr:r.ev C.E σ = .pt) (hg:r.gh γ = .cD k s) (hk:γ (lk k) = .pv s) (jV:σ (lk k) = .sl s es) (hj:γ (lk j) = .no)
  (hq:q.ev C.E σ = .sl s fs) (zz:es.length+fs.length≤maxLen) (hb:(es.length+fs.length) * i.bytes≤140737488355328)
  (hK:∀D' a' w',cN C D' (bP σ [d,lk k,lk j] [.pt,.sl s es,.sl s (es++fs)]) (bP γ [d,lk k,lk j] [.cD j s,.ni (lk j) s,.pc s]) a' w'→K a' w'):o.wp C.P a w K Q:=by
 subst hs
 have e0:=h.gE hx fy
 have hv:=e0.gh (by rw [hr];simp) (by rw [hr];simp)
 rw [hg] at hv
 have e2:=(h.gE hy lA).rep (by rw [hq];simp)
 rw [hq] at e2
 obtain ⟨hT,hP⟩:=h.qH hk
 rw [jV] at hP
 obtain ⟨news,so,hL,qt⟩:=Source.yS (P:=C.P) e2
 obtain ⟨v,w',cM,os,tape,out,size,hh,pt,pp,ct,cp,LW⟩:=kT (ty:=o.type) ht hi hz zi hu vF hT hP h.j0 so hL qt zz hb
 have hS:=h.P6 hk hj os tape out size hh jV pt pp ct cp LW
 unfold Oper.wp
 rw [show (execOp a.eval o).run C.P w = .ok (.value v) w' by simp [execOp,ho,resolve,invoke,builtin,hv.1,cM],Oper.upon_value,hd]
 have WL:(bP γ [lk k,lk j] [Gh.ni (lk j) i.size,.pc i.size]) (lk j) = .pc i.size:=by
  have fO:lk k≠lk j:=fun e=>by rw [e,hj] at hk;cases hk
  simp only [bP]
  rw [bG _ _ fO.symm,bF]
 refine hK _ _ _ (hS.put (g := .cD j i.size) hl (.inr ⟨.pt _,fun _=>?_⟩) rfl rfl ?_)
 ·show v=cI D.τ (lk j) v (lk j)∧v.oneCell'=true
  rw [bF]
  exact ⟨rfl,by rcases ct with rfl | ⟨_,_,_,_,_,_,rfl,_⟩ <;> rfl⟩
 ·show ((bP γ [lk k,lk j] [Gh.ni (lk j) i.size,.pc i.size]) (lk j)).eD=true
  rw [WL];rfl
theorem cN.AP {x:Operand} {r:cR} {k s s0:Nat} {fs:List AV} (hx:bU x r=true) (fy:small C.nt [x]=true) (hr:r.ev C.E σ = .pt) (hg:r.gh γ = .cD k s0) (hk:γ (lk k) = .pv s) (jV:σ (lk k) = .sl s fs) :
  ∃news,Source C.P w s (a.eval x) fs.length news∧dz D.R w (fs.flatMap AV.cells) news∧∀e∈fs,e.cells.length=s:=by
 have e0:=h.gE hx fy
 have hv:=e0.gh (by rw [hr];simp) (by rw [hr];simp)
 rw [hg] at hv
 obtain ⟨hT,Kg,Mm⟩:=h.qH hk
 rw [jV] at Mm
 obtain ⟨es,he,qu,hP⟩:=Mm.resolve_left (by simp)
 cases he
 rcases hP with ⟨rfl,e1⟩ | ⟨g,cap,cur,ce,fz,e1,hg1,hL⟩
 ·refine ⟨[],⟨fun _=>?_,fun _ _=>?_,by simp,by simp⟩,.nil,by simp⟩
  ·rw [hv.1,e1];rfl
  ·rw [hv.1,e1];rfl
 ·have qY:fs.length≤cap∧cur.size=cap * s:=by
   rcases hT with e2 | ⟨g',n,sH,mI,e',Nb,e2,h1,h2,h3,h4,h5,h6⟩
   ·rw [e1] at e2;cases e2
   ·rw [e1] at e2;cases e2
    rw [hg1] at h1;cases h1
    exact ⟨h4,h3⟩
  have hle:fs.length * s≤cap * s:=ar _ qY.1
  have qp:(cur.toList.take (fs.length * s)).length=fs.length * s:=by simp;omega
  refine ⟨_,⟨fun _=>?_,fun w' hw=>?_,qp,hL.one⟩,hL,qu⟩
  ·rw [hv.1,e1];rfl
  ·rw [hv.1,e1]
   exact run_firstCells_some (P:=C.P) w' s fs.length ⟨g,0,none⟩ fs.length cap _ qp (fun j v hj=>by
    rw [fJ,World.cell?_of_block (w:=w) (by rw [hw])]
    rw [aO] at hj
    split at hj
    ·simp only [World.cell?,hg1,Nat.zero_add];simpa using hj
    ·cases hj)
end
end Go.Eng
namespace Go.Eng
open Go.RowKit
section
variable {C:Ctx} {sg:Nat→c7}
theorem Oy {k d' s b:Nat}:cF C sg (.Jy k d' s b):=by
 intro D σ γ a w dst op ty pos after guard rs ds gd ws gs K' Q h ho hk de hs hg hK
 simp only [cq,aa,beq_iff_eq,ah,aq] at hk
 obtain ⟨⟨j7,eH⟩,gM⟩:=hk
 obtain ⟨d,rfl,hl,rfl⟩:=eF gM
 simp only [ee] at ho
 split at ho
 ·rename_i args pn r q r3 r4
  simp only [aa,beq_iff_eq] at ho
  obtain ⟨⟨ho,h1⟩,h2⟩:=ho
  obtain ⟨t,u,e,i,z,du,rfl,q1,q2,q3,q4,q5,q6,q7,q8⟩:=pL h1 h2
  have ht:=um eH
  simp only [List.drop_succ_cons,aT,aj,and_true] at ht
  obtain ⟨rfl,rfl⟩:=ht
  obtain ⟨x,y,kX⟩:=uW (l:=args.toList) (by rw [fv ho];rfl)
  rw [kX] at ho
  obtain ⟨r',q',te,hx,hy⟩:=iE ho
  simp only [aj,and_true] at te
  obtain ⟨rfl,rfl⟩:=te
  have ea:=rA kX
  subst ea
  simp only [ah,aq,eo] at hs
  split at hs
  ·rename_i mc fs s' es v2 heq
   simp only [aj,and_true,cR.ev] at heq
   obtain ⟨e1,e2,e3,_⟩:=heq
   obtain ⟨rfl,rfl,p2,p3,rfl⟩:=hs
   simp only [ah,aq,dw] at hg
   split at hg
   ·rename_i k1 s1 g s2 dr
    simp only [aj,and_true,cR.gh] at dr
    obtain ⟨g1,g2,g3,g4⟩:=dr
    split at hg
    ·rename_i hc
     obtain ⟨rfl,rfl,rfl,fO⟩:=hc
     cases hg
     exact Ld h rfl hl rfl q1 q2 q5 q6 q7 q8 q3 hx (bI de (by simp [Op.operands,Call.operands])) hy (bI de (by simp [Op.operands,Call.operands])) e1 g1 g3 e3 g4 e2 p2 (by rw [q4];exact p3) hK
    ·cases hg
   ·cases hg
  ·cases hs
 ·cases ho
theorem No {rs:List cR} {n a b c:Nat} (h:(rs.drop n).map (fun r=>match r with | cR.s t=>some t | _=>none)=[some a,some b,some c]):rs.drop n=[.s a,.s b,.s c] :=
 lE (ks:=[a,b,c]) h
theorem OX {k d' q0 s b:Nat}:cF C sg (.Kv k d' q0 s b):=by
 intro D σ γ a w dst op ty pos after guard rs ds gd ws gs K' Q h ho hk de hs hg hK
 simp only [cq,aa,beq_iff_eq,ah,aq] at hk
 obtain ⟨⟨j7,eH⟩,gM⟩:=hk
 obtain ⟨d,rfl,hl,rfl⟩:=eF gM
 simp only [ee] at ho
 split at ho
 ·rename_i args pn r q r3 r4 r5
  simp only [aa,beq_iff_eq] at ho
  obtain ⟨⟨ho,h1⟩,h2⟩:=ho
  obtain ⟨t,u,e,i,z,du,rfl,q1,q2,q3,q4,q5,q6,q7,q8⟩:=pL h1 h2
  have ht:=No eH
  simp only [List.drop_succ_cons,aT,aj,and_true] at ht
  obtain ⟨rfl,rfl,rfl⟩:=ht
  obtain ⟨x,y,kX⟩:=uW (l:=args.toList) (by rw [fv ho];rfl)
  rw [kX] at ho
  obtain ⟨r',q',te,hx,hy⟩:=iE ho
  simp only [aj,and_true] at te
  obtain ⟨rfl,rfl⟩:=te
  have ea:=rA kX
  subst ea
  simp only [ah,aq,eo] at hs
  split at hs
  ·rename_i s' es v1 v2 mc fs heq
   simp only [aj,and_true,cR.ev] at heq
   obtain ⟨e1,e2,_,_,e5⟩:=heq
   obtain ⟨rfl,rfl,p2,p3,rfl⟩:=hs
   simp only [ah,aq,dw] at hg
   split at hg
   ·rename_i k1 s1 k2 s2 s3 s4 dr
    simp only [aj,and_true,cR.gh] at dr
    obtain ⟨g1,g2,g3,g4,g5⟩:=dr
    split at hg
    ·rename_i hc
     obtain ⟨rfl,rfl,rfl,fO,rfl,rfl,rfl⟩:=hc
     cases hg
     obtain ⟨news,n1,n2,n3⟩:=h.AP hy (bI de (by simp [Op.operands,Call.operands])) e2 g2 g5 e5
     exact E9 (q:=q) h rfl hl rfl q1 q2 q5 q6 q7 q8 q3 hx (bI de (by simp [Op.operands,Call.operands])) e1 g1 g3 g4 fO n1 n2 n3 p2 (by rw [q4];exact p3) hK
    ·cases hg
   ·cases hg
  ·cases hs
 ·cases ho
theorem Oz {k:Nat}:cF C sg (.K1 k):=by
 intro D σ γ a w dst op ty pos after guard rs ds gd ws gs K' Q h ho hk de hs hg hK
 simp only [cq,aa] at hk
 obtain ⟨⟨j7,eH⟩,gM⟩:=hk
 obtain ⟨d,rfl,hl,rfl⟩:=eF (l:=[]) gM
 simp only [ee] at ho
 split at ho
 ·rename_i t x y r q
  simp only [aa] at ho
  obtain ⟨hx,he⟩:=ho
  obtain ⟨e,he⟩:=Option.isSome_iff_exists.1 he
  cases q <;> simp at eH
  subst eH
  simp only [ah,aq,eo] at hs
  simp only [ah,aq,dw] at hg
  split at hg
  ·rename_i k' s0 s1 dr
   simp only [aj,and_true,cR.gh] at dr
   split at hg
   ·rename_i hc
    subst hc
    cases hg
    split at hs
    ·rename_i s' heq
     simp only [aj,and_true,cR.ev] at heq
     subst hs
     exact EX h rfl hl rfl (gL he) hx (bI de (by simp [Op.operands])) heq.1 dr.1 dr.2 heq.2 hK
    ·rename_i s' e1 e2 heq
     simp only [aj,and_true,cR.ev] at heq
     subst hs
     exact EX h rfl hl rfl (gL he) hx (bI de (by simp [Op.operands])) heq.1 dr.1 dr.2 heq.2 hK
    ·cases hs
   ·cases hg
  ·cases hg
 ·cases ho
theorem RH {m n s:Nat}:cF C sg (.la m n s):=by
 intro D σ γ a w dst op ty pos after guard rs ds gd ws gs K' Q h ho hk de hs hg hK
 simp only [cq,aa] at hk
 obtain ⟨⟨_,j7,eH⟩,gM⟩:=hk
 obtain ⟨d,rfl,hl,rfl⟩:=eF (l:=[]) gM
 simp only [ee] at ho
 split at ho
 ·rename_i t x y r q z
  simp only [aa] at ho
  obtain ⟨ht,ho⟩:=ho
  split at ht
  ·rename_i n' e he
   simp only [aa,beq_iff_eq] at ht
   obtain ⟨rfl,ht⟩:=ht
   obtain ⟨inf,h1,h2⟩:=fZ ht
   obtain ⟨r',q',e',hx,hy⟩:=iE ho
   cases e'
   cases z <;> simp at eH
   subst eH
   simp only [ah,aq,eo] at hs
   simp only [ah,aq,dw] at hg
   split at hs
   ·rename_i ik i cs heq
    simp only [aj,and_true,cR.ev] at heq
    obtain ⟨h0,eW,rfl⟩:=hs
    split at hg
    ·rename_i m' o' g0 ts dr
     simp only [aj,and_true,cR.gh] at dr
     split at hg
     ·rename_i hc
      obtain ⟨rfl,rfl,_⟩:=hc
      cases hg
      exact NM h rfl hl rfl he h1 h2 hx hy (bI de (by simp [Op.operands])) (bI de (by simp [Op.operands])) heq.1 dr.1 dr.2.2 heq.2.1 h0 eW hK
     ·cases hg
    ·cases hg
   ·cases hs
  ·cases ht
 ·cases ho
theorem RF {m s:Nat}:cF C sg (.ll m s):=by
 intro D σ γ a w dst op ty pos after guard rs ds gd ws gs K' Q h ho hk de hs hg hK
 simp only [cq,aa] at hk
 obtain ⟨⟨_,j7,eH⟩,gM⟩:=hk
 obtain ⟨d,rfl,hl,rfl⟩:=eF (l:=[]) gM
 simp only [ee] at ho
 split at ho
 ·rename_i t x r rest
  simp at j7
  obtain ⟨q,rfl⟩:=km j7
  cases q <;> simp at eH
  subst eH
  simp only [aa] at ho
  obtain ⟨ht,ho⟩:=ho
  obtain ⟨inf,h1,h2,h3,h4⟩:=gC ht
  simp only [ah,aq,eo] at hs
  split at hs
  ·rename_i i s' o' cs heq
   simp only [aj,and_true,cR.ev] at heq
   obtain ⟨y,rfl,hp,rfl⟩:=hs
   simp only [ah,aq,dw] at hg
   split at hg
   ·rename_i m' ts dr
    simp only [aj,and_true,cR.gh] at dr
    split at hg
    ·rename_i hc
     obtain ⟨rfl,rfl⟩:=hc
     cases hg
     exact NL h rfl hl rfl h1 h2 h3 ho (bI de (by simp [Op.operands])) heq.1 dr.1 dr.2 heq.2 hp hK
    ·cases hg
   ·cases hg
  ·cases hs
 ·cases ho
theorem Iy (hE:∀f,dK C.P C.E.gl f (C.E.fs f)∧(C.E.fs f).sg=sg f) {f n bQ i k s:Nat}:cF C sg (.pW f n bQ i k s):=by
 intro D σ γ a w dst op ty pos after guard rs ds gd ws gs K' Q h ho hk de hs hg hK
 simp only [cq,aa,beq_iff_eq,ah,aq] at hk
 obtain ⟨⟨j7,eH⟩,gM⟩:=hk
 obtain ⟨d,rfl,hl,rfl⟩:=eF (l:=[]) gM
 simp only [ee] at ho
 split at ho
 ·rename_i g args pn
  simp only [aa,beq_iff_eq,az] at ho
  obtain ⟨⟨⟨⟨⟨rfl,ye⟩,je,hn⟩,hx⟩,lq⟩,tx,Dl⟩:=ho
  rw [←(hE f).2] at je hn
  have td:(rs.take n).length=n:=by rw [←fv hx];simpa using lq
  have nS:small C.nt args.toList=true:=gn de (fun x hx=>by
   have:x∈args:=by simpa using hx
   simp only [Op.operands,Call.operands,Array.toList_append,List.mem_append]
   exact .inr hx)
  have jh:rs.drop n=[.s (lk k)]:=by
   simp only [aQ,aZ] at j7
   obtain ⟨q,hq⟩:=km (l:=rs.drop n) (by rw [bj];omega)
   rw [hq] at eH ⊢
   cases q <;> simp at eH
   rw [eH]
  have pH:rs=rs.take n++[.s (lk k)]:=by rw [←jh,List.take_append_drop]
  simp only [eo] at hs
  obtain ⟨es,outs,v1,v2,hG,rD,rfl⟩:=hs
  simp only [dw] at hg
  rw [aC] at hg
  obtain ⟨⟨g1,g2⟩,hg⟩:=hg
  cases hg
  have qX:∀{X:Type} (F:cR→X),(rs.map F)[n]?=some (F (.s (lk k))):=fun F=>by
   have h1:rs[n]?=some (.s (lk k)):=by rw [pH,aK (by omega),td];simp
   rw [aI,h1];rfl
  rw [qX] at v1 g2
  simp only [cR.ev,cR.gh,aB] at v1 g2
  have hi:∀{X:Type} (F:cR→X),((rs.take n).map F)[i]?=(rs.map F)[i]?:=fun F=>by
   rw [List.map_take,aO,aG tx]
  rw [←hi] at v2 g1
  rw [←List.map_take] at hG
  exact EZ h rfl hl rfl ye (hE f).1 je Dl hn hx nS v2 g1 g2 v1 hG rD hK
 ·cases ho
theorem Ix (hE:∀f,dK C.P C.E.gl f (C.E.fs f)∧(C.E.fs f).sg=sg f) {f n bQ i s:Nat}:cF C sg (.qJ f n bQ i s):=by
 intro D σ γ a w dst op ty pos after guard rs ds gd ws gs K' Q h ho hk de hs hg hK
 simp only [cq,aa] at hk
 obtain ⟨j7,gM⟩:=hk
 obtain ⟨d,rfl,hl,rfl⟩:=eF (l:=[]) gM
 simp only [ee] at ho
 split at ho
 ·rename_i g args pn
  simp only [aa,beq_iff_eq,az] at ho
  obtain ⟨⟨⟨⟨⟨⟨rfl,ye⟩,je,hn⟩,hx⟩,lq⟩,Dl⟩,Be⟩:=ho
  rw [←(hE f).2] at je hn
  have nS:small C.nt args.toList=true:=gn de (fun x hx=>by
   have:x∈args:=by simpa using hx
   simp only [Op.operands,Call.operands,Array.toList_append,List.mem_append]
   exact .inr hx)
  simp only [eo] at hs
  obtain ⟨outs,v1,hG,rD,rfl⟩:=hs
  simp only [dw,aB] at hg
  subst hg
  split at Be
  ·rename_i hi
   exact EY h rfl hl rfl ye (hE f).1 je Dl hn hx nS hi v1 hG rD hK
  ·cases Be
 ·cases ho
end
end Go.Eng
namespace Go.Eng
open Go.RowKit
theorem zX {fn:Func} (h:fn.name=nI):Extern.find fn=some Extern.BytealgIndexByte.indexByte:=by
 have e1:(Extern.allGenericRows.lookup nI)=none:=by kernel_rfl
 have e2:(Extern.allTypedRows.lookup nI)=none:=by kernel_rfl
 have e3:(Extern.allRows.lookup nI)=some Extern.BytealgIndexByte.indexByte:=by kernel_rfl
 unfold Extern.find
 simp only [h,e1,e2,e3]
 rfl
theorem zW {fn:Func} (h:fn.name=nI) (h2:fn.origin = "" ∨ fn.origin=nI):Extern.findNext fn=none:=by
 have e1:(Extern.allNextRows.lookup nI)=none:=by kernel_rfl
 have e2:(Extern.allNextRows.lookup "")=none:=by kernel_rfl
 unfold Extern.findNext
 rcases h2 with h2 | h2 <;> simp only [h,h2,e1,e2] <;> rfl
section
variable {C:Ctx} {D:kf} {σ:Sg} {γ:Ga} {a:Act} {w:World}
variable {o:Oper} {d:Nat} {K:Act→World→Prop} {Q:Exit→Act→World→Prop} (h:cN C D σ γ a w)
include h
theorem E1 (hd:o.dst=some d) (hl:d<C.nt) {x:Operand} {r:cR} {t e y:TypeId} {s:Nat} {es:List AV} (ho:o.op = .binOp .eql t x (.const (.slice none 0 0)) y) (ht:C.P.underlying t=some (.slice e)) (hx:bU x r=true) (fy:small C.nt [x]=true)
  (hr:r.ev C.E σ = .sl s es) (hK:∀D' a' w',cN C D' (cI σ d (match es with | [] => .ab | _ :: _ => .v (.bool false))) (cI γ d .no) a' w'→K a' w'):o.wp C.P a w K Q:=by
 have e0:=(h.gE hx fy).rep (by rw [hr];simp)
 rw [hr] at e0
 have hc:a.eval (.const (.slice none 0 0)) = .slice none 0 0:=rfl
 have cM:∀{q:Option Addr} {n c:Nat},a.eval x = .slice q n c→(execOp a.eval o).run C.P w = .ok (.value (.bool q.isNone)) w:=fun {q n c} hval=>by
  simp only [execOp,ho,hval,hc,eqGuard,Sem.run_bind,Sem.run_pure,Sem.run_ite,Result.andThen_ok]
  simp only [a8,aY,if_false,Sem.run_pure,Result.andThen_ok]
  rw [Lib.run_eql_slice_nil w t e _ _ _ _ _ ht]
  rfl
 cases es with
 | nil =>
  obtain ⟨q,cap,hq⟩:=e0.Em
  exact h.fR hd hl (cM hq) (.ab _) hK
 | cons z zs =>
  generalize hv:a.eval x=v at e0
  cases e0 with
  | sl a b c d=>exact h.fR hd hl (cM hv) (.v _) hK
theorem K5 (hd:o.dst=some d) (hl:d<C.nt) {x y:Operand} {r q:cR} {f:Nat} {ts:Array TypeId} {b:ByteArray} {c:Int} (ho:o.op = .call { callee := .value (.func f),args:=#[x,y],argTypes:=ts }) (hf:nf C.P f nI=true)
  (hx:bU x r=true) (fy:small C.nt [x]=true) (hy:bU y q=true) (lA:small C.nt [y]=true) (hr:r.ev C.E σ = .v (.string b)) (hq:q.ev C.E σ = .v (.int .u8 c))
  (hK:∀D' a' w',cN C D' (cI σ d (.v (.int .i64 (Lib.indexByte b.data.toList c.toNat.toUInt8)))) (cI γ d .no) a' w'→K a' w'):o.wp C.P a w K Q:=by
 have e1:=(h.gE hx fy).rep (by rw [hr];simp)
 rw [hr] at e1
 have e2:=(h.gE hy lA).rep (by rw [hq];simp)
 rw [hq] at e2
 unfold nf at hf
 cases hfn:C.P.funcs[f]? with
 | none=>simp [hfn] at hf
 | some fn =>
  simp only [hfn,Option.any_some,aa,beq_iff_eq,Bool.or_eq_true] at hf
  obtain ⟨⟨hn,hb⟩,De⟩:=hf
  have zt:=run_callFunc_extern (P:=C.P) hfn (by rw [hn];decide +kernel) hb (zW hn De) (zX hn) #[.string b,.int .u8 c] w
  rw [Lib.run_indexByteString] at zt
  have cM:(execOp a.eval o).run C.P w = .ok (.value (.int .i64 (Lib.indexByte b.data.toList c.toNat.toUInt8))) w:=by
   have he:a.eval (.func f) = .func (.func f) #[] #[]:=rfl
   simp only [execOp,ho,resolve,Deferred.ofValue,he,invoke]
   simpa [e1.fF,e2.fF,resolve,Deferred.ofValue,invoke] using zt
  exact h.fR hd hl cM (.v _) hK
end
section
variable {C:Ctx} {sg:Nat→c7}
theorem OH:cF C sg .Od:=by
 intro D σ γ a w dst op ty pos after guard rs ds gd ws gs K' Q h ho hk de hs hg hK
 simp only [dw,aB] at hg
 subst hg
 obtain ⟨d,rfl,hl,rfl⟩:=eF (l:=[]) hk
 simp only [ee] at ho
 split at ho
 ·rename_i t x y r
  simp only [aa] at ho
  obtain ⟨hx,he⟩:=ho
  obtain ⟨e,he⟩:=Option.isSome_iff_exists.1 he
  simp only [ah,aq,eo] at hs
  split at hs
  ·rename_i s' heq
   simp only [aj,and_true,cR.ev] at heq
   subst hs
   exact E1 h rfl hl rfl (gL he) hx (bI de (by simp [Op.operands])) heq hK
  ·rename_i s' e1 e2 heq
   simp only [aj,and_true,cR.ev] at heq
   subst hs
   exact E1 h rfl hl rfl (gL he) hx (bI de (by simp [Op.operands])) heq hK
  ·cases hs
 ·cases ho
theorem On:cF C sg .Ni:=by
 intro D σ γ a w dst op ty pos after guard rs ds gd ws gs K' Q h ho hk de hs hg hK
 simp only [dw,aB] at hg
 subst hg
 obtain ⟨d,rfl,hl,rfl⟩:=eF (l:=[]) hk
 simp only [ee] at ho
 split at ho
 ·rename_i g args pn
  simp only [aa,beq_iff_eq] at ho
  obtain ⟨⟨hf,hx⟩,lq⟩:=ho
  obtain ⟨x,y,kX⟩:=uW (l:=args.toList) (by simpa using lq)
  rw [kX] at hx
  obtain ⟨r,q,rfl,hx,hy⟩:=iE hx
  have ea:=rA kX
  subst ea
  simp only [ah,aq,eo] at hs
  split at hs
  ·rename_i b c heq
   simp only [aj,and_true,cR.ev] at heq
   subst hs
   exact K5 h rfl hl rfl hf hx (bI de (by simp [Op.operands,Call.operands])) hy (bI de (by simp [Op.operands,Call.operands])) heq.1 heq.2 hK
  ·cases hs
 ·cases ho
end
end Go.Eng
namespace Go.Eng
open Go.RowKit
theorem dz.set {R:Reach} {w:World} {x:AV} {y:Value} (hx:Rep R w x y):∀{xs:List AV} {ys:List Value} {i:Nat},dz R w xs ys→ys[i]?=some y→dz R w (xs.set i x) ys
 | _,_,0,.cons a _ t,e=>by simp at e;subst e;exact .cons a hx t
 | _,_,i+1,.cons a h t,e => .cons a h (dz.set hx t (by simpa using e))
 | _,_,i,.nil,e=>by simp at e
theorem we (cs:List AV):∀ts:List (Nat × (Nat × Nat)),(kW cs ts).length=cs.length
 | []=>rfl
 | t :: ts=>by simp [kW,we cs ts]
theorem dz.kW {R:Reach} {w:World} {xs:List AV} {ys:List Value} (h:dz R w xs ys):∀{ts:List (Nat × (Nat × Nat))},(∀t∈ts,ys[t.1]?=some (.slice none 0 0))→dz R w (Eng.kW xs ts) ys
 | [],_=>h
 | t :: ts,hn=>dz.set (.nil _) (dz.kW h fun u hu=>hn u (List.mem_cons_of_mem _ hu)) (hn t (List.mem_cons_self ..))
section
variable {C:Ctx} {D:kf} {σ:Sg} {γ:Ga} {a:Act} {w:World}
theorem cN.Jv (h:cN C D σ γ a w) {m:Nat} {us us' ts:List (Nat × (Nat × Nat))} {cs:List AV} (hm:γ m = .cl us) (jV:σ m = .ag cs) (FQ:∀t∈us',t∈us) (nR:∀t∈ts,cs[t.1]?=some .nil)
  (jW:∀t∈ts,γ (lk t.2.1) = .no) (hnd:(ts.map (·.2.1)).Nodup) :
  ∃D',cN C D' (cI (bP σ (ts.map fun t=>lk t.2.1) (ts.map fun _ => .dead)) m (.ag (Eng.kW cs ts))) (cI (bP γ (ts.map fun t=>lk t.2.1) (ts.map fun t => .live t.2.2)) m (.cl (us'++ts))) a w:=by
 obtain ⟨vs,tz,hc⟩:=h.mem m us hm
 rw [jV] at tz
 have nU:=tz.C0
 obtain ⟨elem,hh,hL⟩:=tz.ag
 obtain ⟨D1,h1,hR,_,_,ht1,eH,II,IJ⟩:=h.Ca ts jW hnd
 have SH:m<1000000:=(h.om m (by rw [hm];rfl)).2
 have F2:∀t∈ts,m≠lk t.2.1:=fun t _=>by have:=fN t.2.1;omega
 have vq:bP γ (ts.map fun t=>lk t.2.1) (ts.map fun t => .live t.2.2) m = .cl us:=by rw [eH m F2];exact hm
 have Be:∀t∈ts,vs[t.1]?=some (.slice none 0 0):=fun t ht=>by
  obtain ⟨y,wq,_,HB⟩:=hL.get t.1 _ (nR t ht)
  rw [aO] at wq
  split at wq
  ·rw [wq,HB.fF]
  ·cases wq
 have QV:dz D.R w (Eng.kW cs ts) (vs.take (Eng.kW cs ts).length):=by
  rw [we]
  refine dz.kW hL fun t ht=>?_
  have:=(aF.1 (nR t ht)).1
  rw [aO,aG this]
  exact Be t ht
 have zp:=h.inv m
 rw [hm] at zp
 refine ⟨D1,h1.store (us:=us'++ts) (cs:=vs) vq (w':=w) rfl rfl rfl rfl (fun _ _=>rfl) ?_ fun t ht=>?_⟩
 ·rw [hR,IJ];exact ⟨elem,hh,.inr ⟨_,rfl,QV⟩,nU⟩
 ·rcases List.mem_append.1 ht with ht | ht
  ·have ht:=FQ t ht
   have kO:=zp t ht
   by_cases hx:∃u∈ts,lk t.2.1=lk u.2.1
   ·obtain ⟨u,hu,e⟩:=hx
    rw [e,jW u hu] at kO;cases kO
   ·have hx:∀u∈ts,lk t.2.1≠lk u.2.1:=fun u hu e=>hx ⟨u,hu,e⟩
    rw [eH _ hx,II _ hx];exact ⟨kO,hc t ht⟩
  ·exact ⟨(ht1 t ht).2,by rw [(ht1 t ht).1];exact Be t ht⟩
variable {o:Oper} {d:Nat} {K:Act→World→Prop} {Q:Exit→Act→World→Prop} (h:cN C D σ γ a w)
include h
theorem Lp {x:Operand} {r:cR} {t:TypeId} {m:Nat} {ts:List (Nat × (Nat × Nat))} (hd:o.dst=some d) (hl:d<C.nt) (ho:o.op = .box t x) (hx:bU x r=true) (fy:small C.nt [x]=true) (hp:(r.ev C.E σ).plain=true) (hm:γ m = .no) (h1:C.nt≤m) (h2:m<999999)
  (nR:∀t∈ts,(r.ev C.E σ).cells[t.1]?=some .nil) (jW:∀t∈ts,γ (lk t.2.1) = .no) (hnd:(ts.map (·.2.1)).Nodup)
  (hK:∀D' a' w',cN C D' (bP σ (d :: m :: ts.map fun t=>lk t.2.1) (.pt :: .ag (Eng.kW (r.ev C.E σ).cells ts) :: ts.map fun _ => .dead)) (bP γ (d :: m :: ts.map fun t=>lk t.2.1) (.ptr m 0 :: .cl ts :: ts.map fun t => .live t.2.2)) a' w'→K a' w'):o.wp C.P a w K Q:=by
 have Dq:m≠d:=by omega
 have FZ:=h.iG
 refine JE h hd hl ho hx fy hp hm h1 h2 fun D' a' w' hS=>?_
 simp only [bP] at hS
 have PG:∀k∈ts.map fun t=>lk t.2.1,d≠k:=fun k hk=>by obtain ⟨t,_,rfl⟩:=aP.1 hk;have:=fN t.2.1;omega
 have Uh:d ∉ ts.map fun t=>lk t.2.1:=fun hk=>PG _ hk rfl
 have F7:∀k∈ts.map fun t=>lk t.2.1,m≠k:=fun k hk=>by obtain ⟨t,_,rfl⟩:=aP.1 hk;have:=fN t.2.1;omega
 have PE:m ∉ ts.map fun t=>lk t.2.1:=fun hk=>F7 _ hk rfl
 obtain ⟨D2,h2⟩:=hS.Jv (m:=m) (us:=[]) (us':=[]) (ts:=ts) (by rw [bG _ _ Dq,bF]) (by rw [bG _ _ Dq,bF]) (by simp) nR (fun t ht=>by
  have e1:=PG _ (aP.2 ⟨t,ht,rfl⟩)
  have e2:=F7 _ (aP.2 ⟨t,ht,rfl⟩)
  rw [bG _ _ e1.symm,bG _ _ e2.symm];exact jW t ht) hnd
 refine hK D2 a' w' ?_
 rw [ij Uh,ij PE,ij Uh,ij PE,gA _ _ _ Dq,gA _ _ _ Dq,py,py] at h2
 simp only [bP]
 have c1:∀{X:Type} (f:Nat→X) (p q:X),cI (cI f m p) d q=cI (cI f d q) m p:=fun f p q=>gA _ _ _ Dq
 rw [c1,c1]
 exact h2
theorem K6 {x v:Operand} {r q:cR} {t:TypeId} {inf:TypeInfo} {m o' n:Nat} {cs:List AV} {us ts:List (Nat × (Nat × Nat))} (hd:o.dst=none) (ho:o.op = .store t x v) (hi:C.P.info? t=some inf) (hz:inf.size=n)
  (hx:bU x r=true) (fy:small C.nt [x]=true) (hv:bU v q=true) (lA:small C.nt [v]=true) (hr:r.ev C.E σ = .pt) (hg:r.gh γ = .ptr m o') (hm:γ m = .cl us) (jV:σ m = .ag cs)
  (hp:(q.ev C.E σ).plain=true) (hn:(q.ev C.E σ).cells.length=n) (nV:o'+n≤cs.length)
  (nR:∀t∈ts,(eK cs o' (q.ev C.E σ).cells)[t.1]?=some .nil) (jW:∀t∈ts,γ (lk t.2.1) = .no) (hnd:(ts.map (·.2.1)).Nodup)
  (hK:∀D' a' w',cN C D' (bP σ (m :: ts.map fun t=>lk t.2.1) (.ag (Eng.kW (eK cs o' (q.ev C.E σ).cells) ts) :: ts.map fun _ => .dead)) (bP γ (m :: ts.map fun t=>lk t.2.1) (.cl (us.filter (fun t=>t.1<o' || o'+n≤t.1)++ts) :: ts.map fun t => .live t.2.2)) a' w'→K a' w'):o.wp C.P a w K Q:=by
 have SH:m<1000000:=(h.om m (by rw [hm];rfl)).2
 have F7:∀k∈ts.map fun t=>lk t.2.1,m≠k:=fun k hk=>by obtain ⟨t,_,rfl⟩:=aP.1 hk;have:=fN t.2.1;omega
 have PE:m ∉ ts.map fun t=>lk t.2.1:=fun hk=>F7 _ hk rfl
 refine JA h hd ho hi hz hx fy hv lA hr hg hm jV hp hn nV fun D' a' w' hS=>?_
 obtain ⟨D2,h2⟩:=hS.Jv (m:=m) (us':=us.filter (fun t=>t.1<o' || o'+n≤t.1)) (ts:=ts) (by rw [bF]) (by rw [bF]) (fun t ht=>List.mem_append.2 (.inl ht)) nR (fun t ht=>by
  have e2:=F7 _ (aP.2 ⟨t,ht,rfl⟩)
  rw [bG _ _ e2.symm];exact jW t ht) hnd
 refine hK D2 a' w' ?_
 rw [ij PE,ij PE,py,py] at h2
 exact h2
end
section
variable {C:Ctx} {sg:Nat→c7}
theorem OP {m:Nat} {ts:List (Nat × (Nat × Nat))}:cF C sg (.DV m ts):=by
 intro D σ γ a w dst op ty pos after guard rs ds gd ws gs K' Q h ho hk de hs hg hK
 simp only [cq,aa,az,beq_iff_eq] at hk
 obtain ⟨⟨⟨vq,xv⟩,j7,eH⟩,gM⟩:=hk
 obtain ⟨d,rfl,hl,rfl⟩:=eF gM
 simp only [ee] at ho
 split at ho
 ·rename_i t x r rest
  simp only [List.drop_succ_cons,aT] at eH
  have pH:=lE eH
  subst pH
  simp only [ah,eo] at hs
  obtain ⟨p1,p2,rfl⟩:=hs
  simp only [ah,dw] at hg
  rw [aC] at hg
  obtain ⟨⟨c1,c2,c3⟩,hg⟩:=hg
  cases hg
  simp only [List.all_cons,aa,az,aW,aL,aP] at c2
  refine Lp h rfl hl rfl ho (bI de (by simp [Op.operands])) p1 c2.1 vq xv p2 (fun t ht=>c2.2 _ ⟨t,ht,rfl⟩) c3 hK
 ·cases ho
theorem Oo {m o' n:Nat} {ts:List (Nat × (Nat × Nat))}:cF C sg (.DR m o' n ts):=by
 intro D σ γ a w dst op ty pos after guard rs ds gd ws gs K' Q h ho hk de hs hg hK
 simp only [cq,aa,az,beq_iff_eq,Option.isNone_iff_eq_none] at hk
 obtain ⟨⟨⟨⟨vq,rfl⟩,rfl⟩,j7,eH⟩,QO⟩:=hk
 simp only [ee] at ho
 split at ho
 ·rename_i t x v p q r rest
  simp only [aa,beq_iff_eq] at ho
  obtain ⟨⟨⟨ht,hx⟩,hv⟩,_⟩:=ho
  obtain ⟨inf,h1,h2⟩:=fZ ht
  cases q with
  | s j =>
   simp at QO
   subst QO
   simp only [List.drop_succ_cons,aT] at eH
   have pH:=lE eH
   subst pH
   simp only [ah,eo] at hs
   split at hs
   ·rename_i cs y EF heq
    simp only [aj,cR.ev] at heq
    obtain ⟨e1,e2,e3,e4⟩:=heq
    obtain ⟨p1,p2,p3,p4,rfl⟩:=hs
    subst e3
    simp only [ah,dw] at hg
    split at hg
    ·rename_i m' M0 us g Rg dr
     simp only [aj,cR.gh] at dr
     obtain ⟨f1,f2,f3,f4⟩:=dr
     subst f4
     rw [aC] at hg
     obtain ⟨⟨rfl,rfl,_,c2,c3⟩,hg⟩:=hg
     cases hg
     simp only [aW,aL,aP,az] at c2
     exact K6 h rfl rfl h1 h2 hx (bI de (by simp [Op.operands])) hv (bI de (by simp [Op.operands])) e1 f1 f2 e2 p1 p2 p3 p4 (fun t ht=>c2 _ ⟨t,ht,rfl⟩) c3 hK
    ·cases hg
   ·cases hs
  | c=>simp at QO
  | g=>simp at QO
 ·cases ho
end
end Go.Eng
namespace Go.Eng
open Go.RowKit
theorem c7.uH {g:c7} (h:g.plain=true):g.ref=none∧g.fV=[]∧g.own=[]∧g.new=none∧g.fL=[]∧g.ps=none:=by
 simp only [c7.plain,aa,Option.isNone_iff_eq_none,List.isEmpty_iff] at h
 obtain ⟨⟨⟨⟨⟨h1,h2⟩,h3⟩,h4⟩,h5⟩,h6⟩:=h
 exact ⟨h1,h2,h3,h4,h5,h6⟩
theorem fo.set {R:Reach} {w:World} {x:AV} {y:Value} (hx:Rep R w x y):∀{xs:List AV} {ys:List Value} {i:Nat},fo R w xs ys→ys[i]?=some y→fo R w (xs.set i x) ys
 | _,_,0,.cons _ t,e=>by simp at e;subst e;exact .cons hx t
 | _,_,i+1,.cons h t,e => .cons h (fo.set hx t (by simpa using e))
 | _,_,i,.nil,e=>by simp at e
theorem fo.xW {R R':Reach} {w w':World}:∀{xs:List AV} {ys:List Value},fo R w xs ys→(∀x∈xs,∃y,x = .v y)→fo R' w' xs ys
 | _,_,.nil,_ => .nil
 | _,_,.cons h t,hv=>by
  obtain ⟨y,rfl⟩:=hv _ (List.mem_cons_self ..)
  cases h
  exact .cons (.v _) (t.xW fun x hx=>hv x (List.mem_cons_of_mem _ hx))
section
variable {C:Ctx} {D:kf} {σ:Sg} {γ:Ga} {a:Act} {w:World}
variable {o:Oper} {d:Nat} {K:Act→World→Prop} {Q:Exit→Act→World→Prop} (h:cN C D σ γ a w)
include h
theorem EW (hd:o.dst=some d) (hl:d<C.nt) {f n i m:Nat} {args:Array Operand} {ts:Array TypeId} {rs:List cR} {cs outs:List AV} {us:List (Nat × (Nat × Nat))} (ho:o.op = .call { callee := .value (.func f),args,argTypes:=ts }) (hp:fI C.P f=true)
  {S:FS} (hS:dK C.P C.E.gl f S) (IM:S.sg.plain=true) (hn:S.sg.bQ=n) (hx:bW args.toList rs=true) (de:small C.nt args.toList=true)
  (tT:(rs.map (cR.ev C.E σ))[i]?=some .pt) (Dm:(rs.map (cR.gh γ))[i]?=some (.ptr m 0)) (hm:γ m = .cl us) (jV:σ m = .ag cs)
  (hG:S.G ((rs.map (cR.ev C.E σ)).set i (.ro (.ag cs))) outs) (rD:outs.length=n) (SA:∀x∈outs,∃y,x = .v y)
  (hK:∀D' a' w',cN C D' (cI σ d (if n=1 then outs.headD .dead else .tu outs)) (cI γ d .no) a' w'→K a' w'):o.wp C.P a w K Q:=by
 obtain ⟨p1,p2,p3,p4,p5,p6⟩:=c7.uH IM
 obtain ⟨vs,tz,_⟩:=h.mem m us hm
 rw [jV] at tz
 have nU:=tz.C0
 have eW:=tz.lt
 obtain ⟨elem,hh,hL⟩:=tz.ag
 obtain ⟨v,hv1,_,hv2⟩:=uJ h hx de tT (by simp) (by simp)
 have hv3:v = .pointer (some ⟨D.β m,0,none⟩):=hv2 _ Dm
 subst hv3
 have hT:=h.qL hx de
 let R1:Reach:=fun b o=>D.R b o∨(b=D.β m∧o<cs.length)
 have k1:fu D.R w R1 w:=fun b o hr=>⟨.inl hr,rfl⟩
 have hle:cs.length≤vs.length:=by have:=hL.length;simp at this;omega
 have Wq:Rep R1 w (.ro (.ag cs)) (.pointer (some ⟨D.β m,0,none⟩)):=by
  refine .ro (.ag rfl (j9.write (hL.mono k1) (fun j hj => .inr ⟨rfl,by simp at hj;omega⟩) (fun j y hy=>?_)))
  rw [aO] at hy
  split at hy
  ·simp only [World.cell?,hh];simpa using hy
  ·cases hy
 have hA:kx S.sg R1 w ((rs.map (cR.ev C.E σ)).set i (.ro (.ag cs))) (args.toList.map a.eval):=by
  unfold kx
  rw [p1]
  exact fo.set Wq (hT.mono k1) hv1
 unfold Oper.wp
 rw [kQ ho hp,Oper.upon_enter]
 have:=hS.1 p6 w R1 _ outs (args.toList.map a.eval) hG (fun b o hr=>by
  rcases hr with hr | ⟨rfl,_⟩
  ·exact h.j0 b o hr
  ·exact eW) (fun n=>(h.gl n).mono k1) hA
 have e:(⟨args.toList.map a.eval⟩:Array Value)=args.map a.eval:=by apply Array.ext';simp
 rw [e] at this
 refine this.mono ?_
 rintro e w' ⟨x,R',rfl,h1,h2,h3⟩
 simp only
 rw [hd]
 obtain ⟨rvs,tr,gg,tn,bn,br,cn,cr,q1,q2,q3,q4,_⟩:=h3
 have vr:∀b,¬nH S.sg w (args.toList.map a.eval) b:=fun b hb=>by unfold nH at hb;rw [p1] at hb;exact hb
 have hg:=h.grow (w':=w') (R':=D.R) h1.os h1.tape h1.output h1.size (fun b hb=>h1.heap b hb (vr b)) (fun _ _ h=>h) (fun _ _ h => .inl h) (fun b o hr=>Nat.lt_of_lt_of_le (h.j0 b o hr) h1.size)
 have e1:(outs.take S.sg.bQ).mapIdx (fun i y=>if S.sg.new=some i then AV.pt else y)=outs:=by
  rw [p4,List.take_of_length_le (by omega)]
  apply List.ext_getElem?
  intro j
  simp
 rw [e1] at q4
 exact hK _ _ _ (cN.rX hg hl (q1.trans hn) (by rw [←hn];exact q2) (q4.xW SA) rD)
end
section
variable {C:Ctx} {sg:Nat→c7}
theorem Iw (hE:∀f,dK C.P C.E.gl f (C.E.fs f)∧(C.E.fs f).sg=sg f) {f n bQ i m:Nat}:cF C sg (.pU f n bQ i m):=by
 intro D σ γ a w dst op ty pos after guard rs ds gd ws gs K' Q h ho hk de hs hg hK
 simp only [cq,aa,az,beq_iff_eq,ah,aq] at hk
 obtain ⟨⟨_,j7,eH⟩,gM⟩:=hk
 obtain ⟨d,rfl,hl,rfl⟩:=eF (l:=[]) gM
 simp only [ee] at ho
 split at ho
 ·rename_i g args pn
  simp only [aa,beq_iff_eq,az] at ho
  obtain ⟨⟨⟨⟨⟨rfl,ye⟩,je,hn⟩,hx⟩,lq⟩,tx⟩:=ho
  rw [←(hE f).2] at je hn
  have td:(rs.take n).length=n:=by rw [←fv hx];simpa using lq
  have nS:small C.nt args.toList=true:=gn de (fun x hx=>by
   have:x∈args:=by simpa using hx
   simp only [Op.operands,Call.operands,Array.toList_append,List.mem_append]
   exact .inr hx)
  have jh:rs.drop n=[.s m]:=by
   simp only [aQ,aZ] at j7
   obtain ⟨q,hq⟩:=km (l:=rs.drop n) (by rw [bj];omega)
   rw [hq] at eH ⊢
   cases q <;> simp at eH
   rw [eH]
  have pH:rs=rs.take n++[.s m]:=by rw [←jh,List.take_append_drop]
  simp only [eo] at hs
  obtain ⟨cs,outs,v1,v2,hG,rD,SA,rfl⟩:=hs
  have qX:∀{X:Type} (F:cR→X),(rs.map F)[n]?=some (F (.s m)):=fun F=>by
   have h1:rs[n]?=some (.s m):=by rw [pH,aK (by omega),td];simp
   rw [aI,h1];rfl
  have hi:∀{X:Type} (F:cR→X),((rs.take n).map F)[i]?=(rs.map F)[i]?:=fun F=>by
   rw [List.map_take,aO,aG tx]
  simp only [dw] at hg
  split at hg
  ·rename_i us g2
   rw [aC] at hg
   obtain ⟨g1,hg⟩:=hg
   cases hg
   rw [qX] at v1 g2
   simp only [cR.ev,cR.gh,aB] at v1 g2
   rw [←hi] at v2 g1
   rw [←List.map_take] at hG
   exact EW h rfl hl rfl ye (hE f).1 je hn hx nS v2 g1 g2 v1 hG rD SA hK
  ·cases hg
 ·cases ho
end
end Go.Eng
namespace Go.Eng
open Go.RowKit
section
variable {C:Ctx} {D:kf} {σ:Sg} {γ:Ga} {a:Act} {w:World}
variable {o:Oper} {d:Nat} {K:Act→World→Prop} {Q:Exit→Act→World→Prop} (h:cN C D σ γ a w)
include h
theorem Lt (hd:o.dst=some d) (hl:d<C.nt) {x y:Operand} {r q:cR} {t u e:TypeId} {i:TypeInfo} {z:Value} {du:TypeDesc} {k k' s:Nat} {fs:List AV} (ho:o.op = .call { callee := .builtin .append,args:=#[x,y],argTypes:=#[t,u] })
  (ht:C.P.underlying t=some (.slice e)) (hi:C.P.info? e=some i) (hz:i.zero=some z) (zi:z.cells.size=i.size) (hu:C.P.underlying u=some du) (vF:∀k,du ≠ .int k) (hs:i.size=s)
  (hx:bU x r=true) (fy:small C.nt [x]=true) (hr:r.ev C.E σ = .sl s []) (hg:r.gh γ = .cD k s) (kO:γ (lk k) = .live s) (jW:γ (lk k') = .no) (fO:k≠k')
  {news:List Value} (so:Source C.P w s (a.eval y) fs.length news) (hL:dz D.R w (fs.flatMap AV.cells) news) (qt:∀e∈fs,e.cells.length=s) (zz:fs.length≤maxLen) (hb:fs.length * i.bytes≤140737488355328)
  (hK:∀D' a' w',cN C D' (bP σ [d,lk k,lk k'] [.pt,.dead,.sl s fs]) (bP γ [d,lk k,lk k'] [.cD k' s,.used,.pv s]) a' w'→K a' w'):o.wp C.P a w K Q:=by
 subst hs
 have e0:=h.gE hx fy
 have e1:=e0.rep (by rw [hr];simp)
 have e2:=e0.gh (by rw [hr];simp) (by rw [hr];simp)
 rw [hr] at e1
 rw [hg] at e2
 simp only [iB] at e2
 replace e2:=e2.1
 have hT:=h.cD _ _ kO
 rw [←e2] at hT
 have h1:=h.kill kO
 have oU:eM D γ (lk k)=(a.eval x).ownBlock:=by rw [gG kO,←e2]
 have oJ:∀g,(a.eval x).ownBlock=some g→C.lp g∧∀key,eM D (cI γ (lk k) .used) key≠some g:=fun g kn=>by
  refine ⟨h.own (lk k) g (oU.trans kn),fun key jg=>?_⟩
  by_cases e:key=lk k
  ·subst e;simp [eM,bF] at jg
  ·have:eM D γ key=some g:=by unfold eM at jg ⊢;rwa [bG _ _ e] at jg
   exact e (h.rR (key:=lk k) (by rw [kO];rfl) (oU.trans kn) this).symm
 have hP:fQ D.R w (a.eval x) i.size (.sl i.size []):=by
  rcases hT with e | ⟨g,n,cap,cur,ce,fz,e,hg1,hfz,xy,hn,vG,nU⟩
  ·rw [e];exact ⟨fun g hg=>by simp [Value.ownBlock] at hg,.inr ⟨[],rfl,by simp,.inl ⟨rfl,rfl⟩⟩⟩
  ·have QM:n=0:=by
    rw [e] at e1
    rcases e1.mz with ⟨_,hv⟩ | ⟨b,off,c',hv,_⟩ | ⟨_,ad,c',hv,_⟩ <;> cases hv <;> rfl
   subst QM
   rw [e]
   refine ⟨fun g' kn o=>?_,.inr ⟨[],rfl,by simp,.inr ⟨g,cap,cur,ce,fz,rfl,hg1,?_⟩⟩⟩
   ·simp [Value.ownBlock] at kn;subst kn;exact nU o (by omega)
   ·simp only [List.flatMap_nil,aZ,Nat.zero_mul,List.take_zero];exact .nil
 obtain ⟨v,w',cM,os,tape,out,size,hh,_,_,ct,cp,LW⟩:=kT (ty:=o.type) (es:=[]) ht hi hz zi hu vF hT hP h.j0 so hL qt (by simpa using zz) (by simpa using hb)
 rw [bg] at cp
 have bM:fu D.R w D.R w':=fun b o hr=>⟨hr,World.cell?_of_block (w:=w) (hh b (h.j0 b o hr) (fun e=>hP.1 b e o hr))⟩
 have hS:=h1.world (w':=w') (R':=D.R) os tape out size (fun b hb De=>hh b hb (fun e=>by
  obtain ⟨m1,m2⟩:=oJ b e
  rcases De with ⟨key,hk⟩ | hm
  ·exact m2 key hk
  ·exact hm m1)) bM (fun b o hr => .inl hr) (fun b o hr=>Nat.lt_of_lt_of_le (h.j0 b o hr) size)
 unfold Oper.wp
 rw [show (execOp a.eval o).run C.P w = .ok (.value v) w' by simp [execOp,ho,resolve,invoke,builtin,cM],Oper.upon_value,hd]
 have vE:cI γ (lk k) .used (lk k') = .no:=by rw [bG _ _ (fun e=>fO (fT e).symm)];exact jW
 have hF:=(hS.dead (k:=lk k) (by rw [bF];rfl)).lj hl vE ct cp (fun g hg=>by
  rcases LW g hg with e | e
  ·exact oJ g e
  ·exact ⟨.inr (Nat.le_trans h.ext.size e),fun key hk=>by have:=h1.lt hk;omega⟩)
 have hc:lk k'≠lk k:=fun e=>fO (fT e).symm
 have Dz:bP σ [d,lk k,lk k'] [.pt,.dead,.sl i.size fs]=bP (cI σ (lk k) .dead) [d,lk k'] [.pt,.sl i.size fs]:=by
  simp only [bP];rw [gA σ _ _ hc]
 have zR:bP γ [d,lk k,lk k'] [.cD k' i.size,.used,.pv i.size]=bP (cI γ (lk k) .used) [d,lk k'] [.cD k' i.size,.pv i.size]:=by
  simp only [bP];rw [gA γ _ _ hc]
 rw [Dz,zR] at hK
 exact hK _ _ _ hF
theorem Ll {k:Nat} (h9:k≠999999) (hd:o.dst=some d) (hl:d<C.nt) {x:Operand} {r:cR} {j s s0:Nat} {es:List AV} (ho:o.op = .move x∨o.op = .assign x) (hx:bU x r=true) (fy:small C.nt [x]=true) (hj:j<C.nt) (St:r ≠ .s j) (hr:σ j = .pt) (hg:γ j = .cD k s0)
  (hk:γ (lk k) = .pv s) (jV:σ (lk k) = .sl s es) (hK:∀D' a' w',cN C D' (bP σ [d,j,lk k] [r.ev C.E σ,.sl s es,.dead]) (bP γ [d,j,lk k] [(r.gh γ).strip,.cD k s,.live s]) a' w'→K a' w'):o.wp C.P a w K Q:=by
 have Wm:small C.nt [.tmp j]=true:=by simp [small,hj]
 have e0:=h.gE (x := .tmp j) (r := .s j) (by simp [bU]) Wm
 have hv:=e0.gh (by simp only [cR.ev];rw [hr];simp) (by simp only [cR.ev];rw [hr];simp)
 simp only [cR.gh] at hv
 rw [hg] at hv
 obtain ⟨hv1,hv2⟩:=hv
 have DT:a.eval (.tmp j)=a.tmps.getD j undef:=rfl
 have cM:(execOp a.eval o).run C.P w = .ok (.value (a.eval x)) w:=by rcases ho with e | e <;> simp [execOp,e]
 obtain ⟨R',hS,hR,_⟩:=h.KF h9 hk jV
 have IU:(cI γ (lk k) (.live s) (lk k)).eD=true:=by rw [bF];rfl
 have Gf:=hS.ED (g := .cD k s) hj (.inr ⟨by rw [←DT,hv1];exact hR,fun _=>⟨DT ▸ hv1,DT ▸ hv2⟩⟩) rfl rfl IU
 have PI:lk k≠j:=by have:=fN k;have:=h.iG;omega
 have L0:r.ev C.E (cI (cI σ (lk k) .dead) j (.sl s es))=r.ev C.E σ∧r.gh (cI (cI γ (lk k) (.live s)) j (.cD k s))=r.gh γ:=by
  cases r with
  | s t =>
   have h1:t≠j:=fun e=>St (by rw [e])
   have h2:t≠lk k:=fun e=>by
    have ht:t<C.nt:=by cases x <;> simp [bU] at hx;subst hx;simpa [small] using fy
    have:=fN k;have:=h.iG;omega
   exact ⟨by simp only [cR.ev];rw [bG _ _ h1,bG _ _ h2],by simp only [cR.gh];rw [bG _ _ h1,bG _ _ h2]⟩
  | _=>exact ⟨rfl,rfl⟩
 have e1:=Gf.gE hx fy
 have em:=(Gf.lM r).strip
 rw [L0.1,L0.2] at e1
 rw [L0.2] at em
 unfold Oper.wp
 rw [cM,Oper.upon_value,hd]
 refine hK _ _ _ (Gf.put (g:=(r.gh γ).strip) hl ?_ ?_ ?_ em)
 ·rcases e1 with e | ⟨q1,q2⟩
  ·exact .inl e
  ·exact .inr ⟨q1,by cases hg:r.gh γ <;> rw [hg] at q2 <;> first | exact q2 | trivial⟩
 ·cases r.gh γ <;> rfl
 ·cases r.gh γ <;> rfl
end
section
variable {C:Ctx} {sg:Nat→c7}
theorem OV {k d' s b:Nat}:cF C sg (.Kt k d' s b):=by
 intro D σ γ a w dst op ty pos after guard rs ds gd ws gs K' Q h ho hk de hs hg hK
 simp only [cq,aa,beq_iff_eq,ah,aq] at hk
 obtain ⟨⟨j7,eH⟩,gM⟩:=hk
 obtain ⟨d,rfl,hl,rfl⟩:=eF gM
 simp only [ee] at ho
 split at ho
 ·rename_i args pn r q r3 r4
  simp only [aa,beq_iff_eq] at ho
  obtain ⟨⟨ho,h1⟩,h2⟩:=ho
  obtain ⟨t,u,e,i,z,du,rfl,q1,q2,q3,q4,q5,q6,q7,q8⟩:=pL h1 h2
  have ht:=um eH
  simp only [List.drop_succ_cons,aT,aj,and_true] at ht
  obtain ⟨rfl,rfl⟩:=ht
  obtain ⟨x,y,kX⟩:=uW (l:=args.toList) (by rw [fv ho];rfl)
  rw [kX] at ho
  obtain ⟨r',q',te,hx,hy⟩:=iE ho
  simp only [aj,and_true] at te
  obtain ⟨rfl,rfl⟩:=te
  have ea:=rA kX
  subst ea
  simp only [ah,aq,eo] at hs
  split at hs
  ·rename_i s' mc fs v1 v2 heq
   simp only [aj,and_true] at heq
   obtain ⟨e1,e2,_⟩:=heq
   obtain ⟨rfl,rfl,p1,p2,p3,rfl⟩:=hs
   simp only [ah,aq,dw] at hg
   split at hg
   ·rename_i k1 s1 g s2 dr
    simp only [aj,and_true,cR.gh] at dr
    obtain ⟨g1,g2,g3,g4⟩:=dr
    split at hg
    ·rename_i hc
     obtain ⟨rfl,rfl,rfl,fO⟩:=hc
     cases hg
     have ir:=(h.gE hy (bI de (by simp [Op.operands,Call.operands]))).rep (by rw [e2];simp)
     rw [e2] at ir
     obtain ⟨news,n1,n2,n3⟩:=Source.yS (P:=C.P) ir
     exact Lt (q:=q) h rfl hl rfl q1 q2 q5 q6 q7 q8 q3 hx (bI de (by simp [Op.operands,Call.operands])) e1 g1 g3 g4 fO n1 n2 p1 p2 (by rw [q4];exact p3) hK
    ·cases hg
   ·cases hg
  ·cases hs
 ·cases ho
theorem OJ {k s:Nat}:cF C sg (.JG k s):=by
 intro D σ γ a w dst op ty pos after guard rs ds gd ws gs K' Q h ho hk de hs hg hK
 simp only [cq,aa] at hk
 obtain ⟨⟨h9,j7,eH⟩,gM⟩:=hk
 simp only [az] at h9
 have main:∀{x:Operand} {r p q:cR},(op = .move x∨op = .assign x)→rs=[r,p,q]→bU x r=true→(⟨dst,op,ty,pos,after,guard⟩:Oper).wp C.P a w K' Q:=by
  intro x r p q QL pH hx
  subst pH
  cases q <;> simp at eH
  subst eH
  cases p with
  | s j =>
   simp only [aa,az] at gM
   obtain ⟨⟨hj,Ss⟩,gM⟩:=gM
   have St:r ≠ .s j:=fun e=>by subst e;simp at Ss
   obtain ⟨d,rfl,hl,rfl⟩:=eF gM
   simp only [ah,aq,eo] at hs
   simp only [ah,aq,dw] at hg
   split at hs
   ·rename_i y s' es heq
    simp only [aj,and_true] at heq
    obtain ⟨rfl,e2,e3⟩:=heq
    obtain ⟨rfl,rfl⟩:=hs
    split at hg
    ·rename_i g k' s0 s1 dr
     simp only [aj,and_true] at dr
     obtain ⟨rfl,g2,g3⟩:=dr
     split at hg
     ·rename_i hc
      obtain ⟨rfl,rfl⟩:=hc
      cases hg
      exact Ll h h9 rfl hl QL hx (bI de (by rcases QL with rfl | rfl <;> simp [Op.operands])) hj St e2 g2 g3 e3 hK
     ·cases hg
    ·cases hg
   ·cases hs
  | _=>cases gM
 simp only [ee] at ho
 split at ho
 ·exact main (.inl rfl) rfl ho
 ·exact main (.inr rfl) rfl ho
 ·cases ho
end
end Go.Eng
namespace Go.Eng
open Go.RowKit
theorem dz.setAt {R:Reach} {w:World}:∀{xs:List AV} {ys:List Value} (c:Nat) {x:AV} {y:Value},dz R w xs ys→ys[c]?=some y→Rep R w x y→dz R w (xs.set c x) ys
 | [],_,c,x,y,h,_,_=>by simpa using h
 | _ :: _,_,0,x,y,h,hy,hx=>by
  cases h with | cons a b r =>
  simp at hy
  subst hy
  exact .cons a hx r
 | _ :: _,_,c+1,x,y,h,hy,hx=>by
  cases h with | cons a b r =>
  exact .cons a b (dz.setAt c r (by simpa using hy) hx)
section
variable {C:Ctx} {D:kf} {σ:Sg} {γ:Ga} {a:Act} {w:World}
theorem cN.Nx (h:cN C D σ γ a w) {m:Nat} {ts:List (Nat × (Nat × Nat))} (hm:γ m = .cl ts) {x:AV} (hV:∀cs,iU D.R w (σ m) (D.β m) cs→(∀t∈ts,cs[t.1]?=some (D.τ (lk t.2.1)))→iU D.R w x (D.β m) cs):cN C D (cI σ m x) γ a w:=by
 have hr:=h.om m (by rw [hm];rfl)
 refine ⟨h.size,h.defers,h.iG,h.om,h.kU,fun t ht=>?_,fun m' VG jI=>?_,h.cD,fun key s hs=>?_,h.sep,h.own,h.inv,h.ext,h.j0,h.gl,h.fix⟩
 ·rw [bG _ _ (show t≠m by omega)];exact h.slot t ht
 ·by_cases e:m'=m
  ·subst e
   rw [bF]
   rw [hm] at jI
   cases jI
   obtain ⟨cs,hv,ht⟩:=h.mem m' ts hm
   exact ⟨cs,hV cs hv ht,ht⟩
  ·rw [bG _ _ e];exact h.mem m' VG jI
 ·have e:key≠m:=fun e=>by subst e;rw [hm] at hs;cases hs
  obtain ⟨h1,h2,h3⟩:=h.ps key s hs
  rw [bG _ _ e]
  exact ⟨h1,h2,fun d s1 s' e1 e2=>by
   have e':d≠m:=fun e'=>by subst e';rw [hm] at e2;cases e2
   rw [bG _ _ e,bG _ _ e'];exact h3 d s1 s' e1 e2⟩
variable {o:Oper} {d:Nat} {K:Act→World→Prop} {Q:Exit→Act→World→Prop} (h:cN C D σ γ a w)
include h
theorem K7 {x v:Operand} {r q:cR} {t:TypeId} {inf:TypeInfo} {m o':Nat} {cs:List AV} {ts:List (Nat × (Nat × Nat))} {k s:Nat} (hd:o.dst=none) (ho:o.op = .store t x v) (hi:C.P.info? t=some inf) (hz:inf.size=1)
  (hx:bU x r=true) (fy:small C.nt [x]=true) (hv:bU v q=true) (lA:small C.nt [v]=true) (hr:r.ev C.E σ = .pt) (hg:r.gh γ = .ptr m o') (hm:γ m = .cl ts) (jV:σ m = .ag cs)
  (hq:q.ev C.E σ = .pt) (PM:q.gh γ = .cD k s) (nV:o'+1≤cs.length)
  (hK:∀D' a' w',cN C D' (cI σ m (.ag (eK cs o' [.pt]))) (cI γ m (.cl (ts.filter (fun t=>t.1<o' || o'+1≤t.1)++[(o',k,s)]))) a' w'→K a' w'):o.wp C.P a w K Q:=by
 have q0:=h.gE hv lA
 have Kb:=q0.gh (by rw [hq];simp) (by rw [hq];simp)
 rw [PM] at Kb
 simp only [iB] at Kb
 have hL:dz D.R w [.pt] (a.eval v).cells.toList:=by
  have xA:(a.eval v).cells.toList=[a.eval v]:=by
   have e2:=Kb.2
   generalize a.eval v=y at e2
   cases y <;> first | rfl | (simp [Value.oneCell'] at e2)
  rw [xA];exact .cons Kb.2 (.pt _) .nil
 refine EU h hd ho hi hz hx fy hv lA hr hg hm jV (by rw [hq];simp) (by rw [hq];simp) hL rfl nV ?_
 rw [PM]
 simpa using hK
theorem Ln {k:Nat} (h9:k≠999999) (hd:o.dst=some d) (hl:d<C.nt) {x:Operand} {r:cR} {t:TypeId} {m o' n c s:Nat} {inf:TypeInfo} {cs:List AV} {ts:List (Nat × (Nat × Nat))} {es:List AV} {sv:AV} (ho:o.op = .load t x) (hi:C.P.info? t=some inf) (hz:inf.size=n) (ha:jU C.P t=some true)
  (hx:bU x r=true) (fy:small C.nt [x]=true) (hr:r.ev C.E σ = .pt) (hg:r.gh γ = .ptr m o') (hm:γ m = .cl ts) (jV:σ m = .ag cs) (hc:(c,k,s)∈ts) (xy:c<cs.length) (hk:γ (lk k) = .pv s) (R9:σ (lk k) = .sl s es)
  (hp:fP (cs.set c (.sl s es)) o' n true=some sv) (hK:∀D' a' w',cN C D' (bP σ [d,m,lk k] [sv,.ag (cs.set c (.sl s es)),.dead]) (bP γ [d,m,lk k] [.no,.cl ts,.live s]) a' w'→K a' w'):o.wp C.P a w K Q:=by
 obtain ⟨R',hS,hR,_⟩:=h.KF h9 hk R9
 have fO:m≠lk k:=fun e=>by rw [e,hk] at hm;cases hm
 have jI:cI γ (lk k) (.live s) m = .cl ts:=by rw [bG _ _ fO];exact hm
 have Gf:=hS.Nx jI (x := .ag (cs.set c (.sl s es))) (fun vs hv nR=>by
  rw [bG _ _ fO,jV] at hv
  have SE:=hv.C0
  obtain ⟨elem,hh,hL⟩:=hv.ag
  refine ⟨elem,hh,.inr ⟨_,rfl,?_⟩,SE⟩
  rw [List.length_set]
  have h1:=nR _ hc
  exact hL.setAt c (by rw [aO,aG xy];exact h1) hR)
 have L0:r.ev C.E (cI (cI σ (lk k) .dead) m (.ag (cs.set c (.sl s es))))=r.ev C.E σ∧r.gh (cI γ (lk k) (.live s))=r.gh γ:=by
  cases r with
  | s t =>
   have ht:t<C.nt:=by cases x <;> simp [bU] at hx;subst hx;simpa [small] using fy
   have h2:t≠lk k:=by have:=fN k;have:=h.iG;omega
   have h1:t≠m:=by have:=h.om m (by rw [hm];rfl);omega
   exact ⟨by simp only [cR.ev];rw [bG _ _ h1,bG _ _ h2],by simp only [cR.gh];rw [bG _ _ h2]⟩
  | _=>exact ⟨rfl,rfl⟩
 refine JD Gf hd hl ho hi hz ha (.inl rfl) hx fy (by rw [L0.1];exact hr) (by rw [L0.2];exact hg) jI (by rw [bF]) hp ?_
 intro D' a' w' hF
 have zR:bP γ [d,m,lk k] [.no,.cl ts,.live s]=cI (cI γ (lk k) (.live s)) d .no:=by
  simp only [bP]
  congr 1
  funext j
  by_cases e:j=m
  ·subst e;rw [bF,jI]
  ·rw [bG _ _ e]
 refine hK D' a' w' ?_
 rw [zR]
 exact hF
end
section
variable {C:Ctx} {sg:Nat→c7}
theorem Oq {m o':Nat}:cF C sg (.Js m o'):=by
 intro D σ γ a w dst op ty pos after guard rs ds gd ws gs K' Q h ho hk de hs hg hK
 simp only [cq,aa,az,beq_iff_eq,Option.isNone_iff_eq_none] at hk
 obtain ⟨⟨⟨⟨vq,xv⟩,rfl⟩,rfl⟩,eH⟩:=hk
 simp only [ee] at ho
 split at ho
 ·rename_i t x v p q r
  simp only [aa,beq_iff_eq] at ho
  obtain ⟨⟨ht,hx⟩,hv⟩:=ho
  obtain ⟨inf,h1,h2⟩:=fZ ht
  cases q with
  | s j =>
   simp at eH
   subst eH
   simp only [ah,aq,eo] at hs
   split at hs
   ·rename_i cs heq
    simp only [aj,and_true,cR.ev] at heq
    obtain ⟨e1,e2,e3⟩:=heq
    obtain ⟨p3,rfl⟩:=hs
    simp only [ah,aq,dw] at hg
    split at hg
    ·rename_i m' M0 ts k s dr
     simp only [aj,and_true,cR.gh] at dr
     obtain ⟨f1,f2,f3⟩:=dr
     split at hg
     ·rename_i hc
      obtain ⟨rfl,rfl⟩:=hc
      cases hg
      exact K7 h rfl rfl h1 h2 hx (bI de (by simp [Op.operands])) hv (bI de (by simp [Op.operands])) e1 f1 f2 e2 e3 f3 p3 hK
     ·cases hg
    ·cases hg
   ·cases hs
  | c=>simp at eH
  | g=>simp at eH
 ·cases ho
theorem OO {m o' n c k s:Nat}:cF C sg (.JH m o' n c k s):=by
 intro D σ γ a w dst op ty pos after guard rs ds gd ws gs K' Q h ho hk de hs hg hK
 simp only [cq,aa,az,beq_iff_eq] at hk
 obtain ⟨⟨⟨h9,vq,xv⟩,j7,eH⟩,gM⟩:=hk
 obtain ⟨d,rfl,hl,rfl⟩:=eF gM
 simp only [ee] at ho
 split at ho
 ·rename_i t x r rest
  have ht2:=um eH
  simp only [List.drop_succ_cons,aT] at ht2
  subst ht2
  simp only [aa] at ho
  obtain ⟨ht,ho⟩:=ho
  obtain ⟨inf,h1,h2,h3,h4⟩:=gC ht
  simp only [ah,aq,eo] at hs
  split at hs
  ·rename_i cs s' es heq
   simp only [aj,and_true,cR.ev] at heq
   obtain ⟨x',rfl,p0,p1,rfl⟩:=hs
   simp only [ah,aq,dw] at hg
   split at hg
   ·rename_i m' M0 ts s2 dr
    simp only [aj,and_true,cR.gh] at dr
    split at hg
    ·rename_i hc
     obtain ⟨rfl,rfl,rfl,tx⟩:=hc
     cases hg
     exact Ln h h9 rfl hl rfl h1 h2 h3 ho (bI de (by simp [Op.operands])) heq.1 dr.1 dr.2.1 heq.2.1 tx p0 dr.2.2 heq.2.2 p1 hK
    ·cases hg
   ·cases hg
  ·cases hs
 ·cases ho
end
end Go.Eng
namespace Go.Eng
open Go.RowKit
theorem H3 (a:Array TypeId) (b:TypeId) (k:FloatKind) (p q:Nat):Builtin.real_ a b #[.complex k p q]=pure (.float k p):=rfl
theorem IH (a:Array TypeId) (b:TypeId) (k:FloatKind) (p q:Nat):Builtin.imag_ a b #[.complex k p q]=pure (.float k q):=rfl
theorem Bu (a:Array TypeId) (b:TypeId) (p q:Nat):Builtin.complex_ a b #[.float .f64 p,.float .f64 q]=pure (.complex .f64 p q):=rfl
theorem D9 {P:Program} {w:World} {nm:String} {b:Nat} (hb:Fl.num b=true):(Extern.MathFloor.toIntegral nm .zero #[.float .f64 b]).run P w = .ok (.float .f64 (Fl.iM b)) w:=by
 unfold Fl.num at hb
 have e:Extern.MathFloor.toIntegral nm .zero #[.float .f64 b]=(match FloatKind.f64.decode b with
  | .nan s t =>
   if FloatKind.f64.format.quiet t=t then pure (.float .f64 b) else do
   let kept ←choose (.extern "math.Floor,Ceil,Trunc,RoundToEven.signallingNaN kept" 2)
   pure (.float .f64 (if kept == 1 then b else FloatKind.f64.encode (.nan s (FloatKind.f64.format.quiet t))))
  | d=>pure (.float .f64 (FloatKind.f64.encode (d.integral .zero)))):=rfl
 rw [e]
 unfold Fl.iM
 cases hd:FloatKind.f64.decode b with
 | nan s t=>rw [hd] at hb;cases hb
 | number s m e=>rfl
 | infinity s=>rfl
theorem zU {fn:Func} (h:fn.name = "math.archTrunc"):Extern.find fn=some (Extern.MathFloor.toIntegral "math.archTrunc" .zero):=by
 have e1:(Extern.allGenericRows.lookup "math.archTrunc")=none:=by kernel_rfl
 have e2:(Extern.allTypedRows.lookup "math.archTrunc")=none:=by kernel_rfl
 have e3:(Extern.allRows.lookup "math.archTrunc")=some (Extern.MathFloor.toIntegral "math.archTrunc" .zero):=by kernel_rfl
 unfold Extern.find
 simp only [h,e1,e2,e3]
 rfl
theorem zS {fn:Func} (h:fn.name = "math.archTrunc") (h2:fn.origin = "" ∨ fn.origin = "math.archTrunc"):Extern.findNext fn=none:=by
 have e1:(Extern.allNextRows.lookup "math.archTrunc")=none:=by kernel_rfl
 have e2:(Extern.allNextRows.lookup "")=none:=by kernel_rfl
 unfold Extern.findNext
 rcases h2 with h2 | h2 <;> simp only [h,h2,e1,e2] <;> rfl
section
variable {C:Ctx} {D:kf} {σ:Sg} {γ:Ga} {a:Act} {w:World}
variable {o:Oper} {d:Nat} {K:Act→World→Prop} {Q:Exit→Act→World→Prop} (h:cN C D σ γ a w)
include h
theorem NG (hd:o.dst=some d) (hl:d<C.nt) {x:Operand} {r:cR} {ts:Array TypeId} {k:FloatKind} {p q:Nat} (ho:o.op = .call { callee := .builtin .real,args:=#[x],argTypes:=ts }) (hx:bU x r=true) (fy:small C.nt [x]=true) (hr:r.ev C.E σ = .v (.complex k p q))
  (hK:∀D' a' w',cN C D' (cI σ d (.v (.float k p))) (cI γ d .no) a' w'→K a' w'):o.wp C.P a w K Q:=by
 have e1:=(h.gE hx fy).rep (by rw [hr];simp)
 rw [hr] at e1
 have cM:(execOp a.eval o).run C.P w = .ok (.value (.float k p)) w:=by
  simp [execOp,ho,e1.fF,resolve,invoke,builtin,H3]
 exact h.fR hd hl cM (.v _) hK
theorem NP (hd:o.dst=some d) (hl:d<C.nt) {x:Operand} {r:cR} {ts:Array TypeId} {k:FloatKind} {p q:Nat} (ho:o.op = .call { callee := .builtin .imag,args:=#[x],argTypes:=ts }) (hx:bU x r=true) (fy:small C.nt [x]=true) (hr:r.ev C.E σ = .v (.complex k p q))
  (hK:∀D' a' w',cN C D' (cI σ d (.v (.float k q))) (cI γ d .no) a' w'→K a' w'):o.wp C.P a w K Q:=by
 have e1:=(h.gE hx fy).rep (by rw [hr];simp)
 rw [hr] at e1
 have cM:(execOp a.eval o).run C.P w = .ok (.value (.float k q)) w:=by
  simp [execOp,ho,e1.fF,resolve,invoke,builtin,IH]
 exact h.fR hd hl cM (.v _) hK
theorem NV (hd:o.dst=some d) (hl:d<C.nt) {x y:Operand} {r q:cR} {ts:Array TypeId} {m n:Nat} (ho:o.op = .call { callee := .builtin .complex,args:=#[x,y],argTypes:=ts }) (hx:bU x r=true) (fy:small C.nt [x]=true) (hy:bU y q=true) (lA:small C.nt [y]=true)
  (hr:r.ev C.E σ = .v (.float .f64 m)) (hq:q.ev C.E σ = .v (.float .f64 n)) (hK:∀D' a' w',cN C D' (cI σ d (.v (.complex .f64 m n))) (cI γ d .no) a' w'→K a' w'):o.wp C.P a w K Q:=by
 have e1:=(h.gE hx fy).rep (by rw [hr];simp)
 rw [hr] at e1
 have e2:=(h.gE hy lA).rep (by rw [hq];simp)
 rw [hq] at e2
 have cM:(execOp a.eval o).run C.P w = .ok (.value (.complex .f64 m n)) w:=by
  simp [execOp,ho,e1.fF,e2.fF,resolve,invoke,builtin,Bu]
 exact h.fR hd hl cM (.v _) hK
theorem NZ (hd:o.dst=some d) (hl:d<C.nt) {x:Operand} {r:cR} {t u:TypeId} {k:IntKind} {n:Int} (ho:o.op = .convert t u x) (ht:(C.P.underlying t).isSome=true) (hu:C.P.underlying u=some (.float .f64)) (hx:bU x r=true) (fy:small C.nt [x]=true) (hr:r.ev C.E σ = .v (.int k n))
  (hK:∀D' a' w',cN C D' (cI σ d (.v (.float .f64 (Fl.ofInt n)))) (cI γ d .no) a' w'→K a' w'):o.wp C.P a w K Q:=by
 have e1:=(h.gE hx fy).rep (by rw [hr];simp)
 rw [hr] at e1
 have cM:(execOp a.eval o).run C.P w = .ok (.value (.float .f64 (Fl.ofInt n))) w:=by
  simp only [execOp,ho,e1.fF,Sem.run_bind,run_convert_int_float w t u k .f64 n ht hu,Result.andThen_ok,Sem.run_pure]
  rfl
 exact h.fR hd hl cM (.v _) hK
theorem NS (hd:o.dst=some d) (hl:d<C.nt) {x:Operand} {r:cR} {t u:TypeId} {b:Nat} (ho:o.op = .convert t u x) (ht:(C.P.underlying t).isSome=true) (hu:C.P.underlying u=some (.int .i64)) (hx:bU x r=true) (fy:small C.nt [x]=true) (hr:r.ev C.E σ = .v (.float .f64 b)) (hb:Fl.lW b=true)
  (hK:∀D' a' w',cN C D' (cI σ d (.v (.int .i64 (Fl.toInt b)))) (cI γ d .no) a' w'→K a' w'):o.wp C.P a w K Q:=by
 have e1:=(h.gE hx fy).rep (by rw [hr];simp)
 rw [hr] at e1
 have hn:floatToIntVal .f64 b .i64=some (Fl.toInt b):=by
  unfold Fl.lW at hb
  obtain ⟨x,hx⟩:=Option.isSome_iff_exists.1 hb
  unfold Fl.toInt;rw [hx];rfl
 have cM:(execOp a.eval o).run C.P w = .ok (.value (.int .i64 (Fl.toInt b))) w:=by
  simp only [execOp,ho,e1.fF,Sem.run_bind,run_convert_float_int w t u .f64 .i64 b _ ht hu hn,Result.andThen_ok,Sem.run_pure]
 exact h.fR hd hl cM (.v _) hK
theorem K4 (hd:o.dst=some d) (hl:d<C.nt) {x:Operand} {r:cR} {f:Nat} {ts:Array TypeId} {b:Nat} (ho:o.op = .call { callee := .value (.func f),args:=#[x],argTypes:=ts }) (hf:nf C.P f "math.archTrunc" = true)
  (hx:bU x r=true) (fy:small C.nt [x]=true) (hr:r.ev C.E σ = .v (.float .f64 b)) (hb:Fl.num b=true)
  (hK:∀D' a' w',cN C D' (cI σ d (.v (.float .f64 (Fl.iM b)))) (cI γ d .no) a' w'→K a' w'):o.wp C.P a w K Q:=by
 have e1:=(h.gE hx fy).rep (by rw [hr];simp)
 rw [hr] at e1
 unfold nf at hf
 cases hfn:C.P.funcs[f]? with
 | none=>simp [hfn] at hf
 | some fn =>
  simp only [hfn,Option.any_some,aa,beq_iff_eq,Bool.or_eq_true] at hf
  obtain ⟨⟨hn,QS⟩,De⟩:=hf
  have zt:=run_callFunc_extern (P:=C.P) hfn (by rw [hn];decide +kernel) QS (zS hn De) (zU hn) #[.float .f64 b] w
  have Wj:(Extern.MathFloor.toIntegral "math.archTrunc" .zero #[.float .f64 b]).run C.P w = .ok (.float .f64 (Fl.iM b)) w:=D9 hb
  rw [Wj] at zt
  have cM:(execOp a.eval o).run C.P w = .ok (.value (.float .f64 (Fl.iM b))) w:=by
   have he:a.eval (.func f) = .func (.func f) #[] #[]:=rfl
   simp only [execOp,ho,resolve,Deferred.ofValue,he,invoke]
   simpa [e1.fF,resolve,Deferred.ofValue,invoke] using zt
  exact h.fR hd hl cM (.v _) hK
end
section
variable {C:Ctx} {sg:Nat→c7}
theorem Rw:cF C sg .rl:=by
 intro D σ γ a w dst op ty pos after guard rs ds gd ws gs K' Q h ho hk de hs hg hK
 simp only [dw,aB] at hg
 subst hg
 obtain ⟨d,rfl,hl,rfl⟩:=eF (l:=[]) hk
 simp only [ee] at ho
 split at ho
 ·rename_i args pn
  simp only [aa,beq_iff_eq] at ho
  obtain ⟨hx,lq⟩:=ho
  obtain ⟨x,kX⟩:=km (l:=args.toList) (by simpa using lq)
  rw [kX] at hx
  obtain ⟨r,rfl,yd⟩:=ka hx
  have ea:args=#[x]:=by rw [←Array.toArray_toList (xs:=args),kX]
  subst ea
  simp only [ah,aq,eo] at hs
  split at hs
  ·rename_i k p q heq
   simp only [aj,and_true,cR.ev] at heq
   subst hs
   exact NG h rfl hl rfl yd (bI de (by simp [Op.operands,Call.operands])) heq hK
  ·cases hs
 ·cases ho
theorem RJ:cF C sg .im:=by
 intro D σ γ a w dst op ty pos after guard rs ds gd ws gs K' Q h ho hk de hs hg hK
 simp only [dw,aB] at hg
 subst hg
 obtain ⟨d,rfl,hl,rfl⟩:=eF (l:=[]) hk
 simp only [ee] at ho
 split at ho
 ·rename_i args pn
  simp only [aa,beq_iff_eq] at ho
  obtain ⟨hx,lq⟩:=ho
  obtain ⟨x,kX⟩:=km (l:=args.toList) (by simpa using lq)
  rw [kX] at hx
  obtain ⟨r,rfl,yd⟩:=ka hx
  have ea:args=#[x]:=by rw [←Array.toArray_toList (xs:=args),kX]
  subst ea
  simp only [ah,aq,eo] at hs
  split at hs
  ·rename_i k p q heq
   simp only [aj,and_true,cR.ev] at heq
   subst hs
   exact NP h rfl hl rfl yd (bI de (by simp [Op.operands,Call.operands])) heq hK
  ·cases hs
 ·cases ho
theorem RQ:cF C sg .cx:=by
 intro D σ γ a w dst op ty pos after guard rs ds gd ws gs K' Q h ho hk de hs hg hK
 simp only [dw,aB] at hg
 subst hg
 obtain ⟨d,rfl,hl,rfl⟩:=eF (l:=[]) hk
 simp only [ee] at ho
 split at ho
 ·rename_i args pn
  simp only [aa,beq_iff_eq] at ho
  obtain ⟨hx,lq⟩:=ho
  obtain ⟨x,y,kX⟩:=uW (l:=args.toList) (by simpa using lq)
  rw [kX] at hx
  obtain ⟨r,q,rfl,yd,hy⟩:=iE hx
  have ea:=rA kX
  subst ea
  simp only [ah,aq,eo] at hs
  split at hs
  ·rename_i m n heq
   simp only [aj,and_true,cR.ev] at heq
   subst hs
   exact NV h rfl hl rfl yd (bI de (by simp [Op.operands,Call.operands])) hy (bI de (by simp [Op.operands,Call.operands])) heq.1 heq.2 hK
  ·cases hs
 ·cases ho
theorem RU:cF C sg .cf:=by
 intro D σ γ a w dst op ty pos after guard rs ds gd ws gs K' Q h ho hk de hs hg hK
 simp only [dw,aB] at hg
 subst hg
 obtain ⟨d,rfl,hl,rfl⟩:=eF (l:=[]) hk
 simp only [ee] at ho
 split at ho
 ·rename_i t u x
  simp only [aa] at ho
  obtain ⟨⟨h1,h2⟩,hx⟩:=ho
  obtain ⟨r,rfl,yd⟩:=ka hx
  have h2:C.P.underlying u=some (.float .f64):=by
   split at h2
   ·assumption
   ·cases h2
  simp only [ah,aq,eo] at hs
  split at hs
  ·rename_i k n heq
   simp only [aj,and_true,cR.ev] at heq
   subst hs
   exact NZ h rfl hl rfl h1 h2 yd (bI de (by simp [Op.operands])) heq hK
  ·cases hs
 ·cases ho
theorem RN:cF C sg .fc:=by
 intro D σ γ a w dst op ty pos after guard rs ds gd ws gs K' Q h ho hk de hs hg hK
 simp only [dw,aB] at hg
 subst hg
 obtain ⟨d,rfl,hl,rfl⟩:=eF (l:=[]) hk
 simp only [ee] at ho
 split at ho
 ·rename_i t u x
  simp only [aa] at ho
  obtain ⟨⟨h1,h2⟩,hx⟩:=ho
  obtain ⟨r,rfl,yd⟩:=ka hx
  have h2:C.P.underlying u=some (.int .i64):=by
   split at h2
   ·assumption
   ·cases h2
  simp only [ah,aq,eo] at hs
  split at hs
  ·rename_i b heq
   simp only [aj,and_true,cR.ev] at heq
   obtain ⟨hb,rfl⟩:=hs
   exact NS h rfl hl rfl h1 h2 yd (bI de (by simp [Op.operands])) heq hb hK
  ·cases hs
 ·cases ho
theorem Om:cF C sg .MW:=by
 intro D σ γ a w dst op ty pos after guard rs ds gd ws gs K' Q h ho hk de hs hg hK
 simp only [dw,aB] at hg
 subst hg
 obtain ⟨d,rfl,hl,rfl⟩:=eF (l:=[]) hk
 simp only [ee] at ho
 split at ho
 ·rename_i g args pn
  simp only [aa,beq_iff_eq] at ho
  obtain ⟨⟨hf,hx⟩,lq⟩:=ho
  obtain ⟨x,kX⟩:=km (l:=args.toList) (by simpa using lq)
  rw [kX] at hx
  obtain ⟨r,rfl,yd⟩:=ka hx
  have ea:args=#[x]:=by rw [←Array.toArray_toList (xs:=args),kX]
  subst ea
  simp only [ah,aq,eo] at hs
  split at hs
  ·rename_i b heq
   simp only [aj,and_true,cR.ev] at heq
   obtain ⟨hb,rfl⟩:=hs
   exact K4 h rfl hl rfl hf yd (bI de (by simp [Op.operands,Call.operands])) heq hb hK
  ·cases hs
 ·cases ho
end
end Go.Eng
namespace Go.Eng
open Go.RowKit
theorem Ext.shrink {w w':World} {R R':Reach} {io:Nat→Prop} (h:Ext w R io w' R'):Ext w R io w' R :=
 ⟨h.os,h.tape,h.output,h.size,h.heap,fun b o hr=>⟨hr,(h.bM b o hr).2⟩,fun _ _ hr => .inl hr⟩
theorem dz.yE {R R':Reach} {w w':World}:∀{es:List AV} {ys:List Value},(∀e∈es,∃x,e = .v x)→dz R w es ys→dz R' w' es ys
 | _,_,_,.nil => .nil
 | _,_,hv,.cons a h t=>by
  obtain ⟨y,rfl⟩:=hv _ (List.mem_cons_self ..)
  cases h
  exact .cons a (.v _) (t.yE fun x hx=>hv x (List.mem_cons_of_mem _ hx))
theorem AI {es:List AV} (hv:∀e∈es,∃x,e = .v x):es.flatMap AV.cells=es∧∀e∈es,e.cells.length=1:=by
 refine ⟨?_,fun e he=>by obtain ⟨x,rfl⟩:=hv e he;rfl⟩
 induction es with
 | nil=>rfl
 | cons e es ih =>
  obtain ⟨x,rfl⟩:=hv e (List.mem_cons_self ..)
  rw [List.flatMap_cons,ih fun y hy=>hv y (List.mem_cons_of_mem _ hy)]
  rfl
section
variable {C:Ctx} {D:kf} {σ:Sg} {γ:Ga} {a:Act} {w:World}
theorem cN.Fu (h:cN C D σ γ a w) {k s:Nat} (h9:k≠999999) (hk:γ (lk k) = .pv s):cN C D (cI σ (lk k) .dead) (cI γ (lk k) .used) a w:=by
 have WH:=h.kU (lk k) (by rw [hk];rfl)
 have kO:∀m,(cI γ (lk k) .used m).eD=(γ m).eD:=fun m=>by
  by_cases e:m=lk k
  ·subst e;rw [bF,hk];rfl
  ·rw [bG _ _ e]
 have jf:∀m,(cI γ (lk k) .used m).ff=(γ m).ff:=fun m=>by
  by_cases e:m=lk k
  ·subst e;rw [bF,hk];rfl
  ·rw [bG _ _ e]
 have mD:∀m,(cI γ (lk k) .used m).par=(γ m).par:=fun m=>by
  by_cases e:m=lk k
  ·subst e;rw [bF,hk];rfl
  ·rw [bG _ _ e]
 have hm:∀g,eV γ g→eV (cI γ (lk k) .used) g:=fun g hg=>by
  cases g <;> simp only [eV,kO,jf] at hg ⊢ <;> first | exact hg | skip
  rename_i d s'
  have hd:d≠lk k:=fun e=>by subst e;rcases hg with e | ⟨mc,e⟩ <;> rw [hk] at e <;> cases e
  rw [bG _ _ hd];exact hg
 have hb:∀key g,eM D (cI γ (lk k) .used) key=some g→eM D γ key=some g:=fun key g hg=>by
  unfold eM at hg ⊢
  by_cases e:key=lk k
  ·subst e;rw [bF] at hg;cases hg
  ·rw [bG _ _ e] at hg;exact hg
 refine ⟨h.size,h.defers,h.iG,fun m hm=>h.om m (by rwa [jf] at hm),fun m hm=>h.kU m (by rwa [kO] at hm),fun t ht=>?_,fun m ts jI=>?_,fun key s' jC=>?_,h.ps.same rfl (fun key hp=>?_),fun p q g hp hq=>(by rw [mD,mD];exact h.sep p q g (hb p g hp) (hb q g hq)),fun p g hp=>h.own p g (hb p g hp),fun key=>?_,h.ext,h.j0,h.gl,h.fix.of rfl (fun hp=>by
  have e:lk 999999≠lk k:=fun e=>h9 (fT e).symm
  rw [bG _ _ e];exact ⟨hp,rfl⟩)⟩
 ·have e:t≠lk k:=by have:=h.iG;omega
  rw [bG _ _ e,bG _ _ e];exact h.slot t ht
 ·have e:m≠lk k:=fun e=>by subst e;rw [bF] at jI;cases jI
  rw [bG _ _ e] at jI
  rw [bG _ _ e];exact h.mem m ts jI
 ·have e:key≠lk k:=fun e=>by subst e;rw [bF] at jC;cases jC
  rw [bG _ _ e] at jC;exact h.cD key s' jC
 ·have e:key≠lk k:=fun e=>by subst e;rw [bF] at hp;cases hp
  rw [bG _ _ e,bG _ _ e];exact ⟨rfl,rfl,rfl⟩
 ·by_cases e:key=lk k
  ·subst e;rw [bF];trivial
  ·rw [bG _ _ e];exact hm _ (h.inv key)
theorem cN.given (h:cN C D σ γ a w) {k s:Nat} (h9:k≠999999) (hk:γ (lk k) = .pv s) {R':Reach} {w':World} (he:Ext w D.R (fun c=>(D.τ (lk k)).ownBlock=some c) w' R') (eW:∀b o,R' b o→b<w'.heap.size) :
  cN C { D with R:=R' } (cI σ (lk k) .dead) (cI γ (lk k) .used) a w':=by
 have oU:eM D γ (lk k)=(D.τ (lk k)).ownBlock:=fS (by rw [hk];rfl)
 have oQ:∀b,(D.τ (lk k)).ownBlock=some b→∀key,eM D (cI γ (lk k) .used) key≠some b:=fun b hb key jg=>by
  by_cases e:key=lk k
  ·subst e;simp [eM,bF] at jg
  ·have:eM D γ key=some b:=by unfold eM at jg ⊢;rwa [bG _ _ e] at jg
   exact e (h.sS hk (oU.trans hb) this)
 have h1:=h.Fu h9 hk
 refine h1.world he.os he.tape he.output he.size (fun b hb De=>he.heap b hb fun e=>?_) he.bM (fun b o hr=>?_) eW
 ·rcases De with ⟨key,jC⟩ | hm
  ·exact oQ b e key jC
  ·exact hm (h.own (lk k) b (oU.trans e))
 ·rcases he.qE b o hr with e | e | e
  ·exact .inl e
  ·exact .inr ⟨.inr (Nat.le_trans h.ext.size e),fun key jC=>by have:=h1.lt jC;omega⟩
  ·exact .inr ⟨h.own (lk k) b (oU.trans e),oQ b e⟩
theorem BZ {R R':Reach} {w':World} {x:Value} {es:List AV} (hv:∀e∈es,∃y,e = .v y) (hr:Rep R' w' (.sl 1 es) x) (ht:ft R' w' x 1) (hn:∀g,x.ownBlock=some g→∀o,¬R g o) :
  ft R w' x 1∧fQ R w' x 1 (.sl 1 es):=by
 obtain ⟨c1,c2⟩:=AI hv
 rcases ht with rfl | ⟨g,n,cap,cur,e,fz,rfl,h1,h2,h3,h4,h5,h6⟩
 ·refine ⟨.inl rfl,hn,.inr ⟨es,rfl,c2,.inl ⟨?_,rfl⟩⟩⟩
  rcases hr.mz with ⟨rfl,_⟩ | ⟨b,off,cap,tt,_⟩ | ⟨rfl,_⟩
  ·rfl
  ·cases tt
  ·rfl
 ·have hg:=hn g rfl
  refine ⟨.inr ⟨g,n,cap,cur,e,fz,rfl,h1,h2,h3,h4,h5,fun o _=>hg o⟩,hn,.inr ⟨es,rfl,c2,.inr ⟨g,cap,cur,e,fz,?_,h1,?_⟩⟩⟩
  ·rcases hr.mz with ⟨rfl,tt⟩ | ⟨b,off,sH,tt,_⟩ | ⟨rfl,ad,sH,tt,_⟩
   ·cases tt
   ·cases tt;rfl
   ·cases tt;rfl
  ·rcases hr.mz with ⟨rfl,tt⟩ | ⟨b,off,sH,tt,qY,_,hE⟩ | ⟨rfl,ad,sH,tt,_⟩
   ·cases tt
   ·cases tt
    obtain ⟨ys,y1,y2,y3,_⟩:=hE.cells
    rw [c1] at y3 ⊢
    have:cur.toList.take (es.length * 1)=ys:=by
     rw [←y1]
     refine od fun j y hj=>?_
     have:=y2 j y hj
     simp only [World.cell?,h1,Nat.zero_add] at this
     simpa using this
    rw [this]
    exact y3.yE hv
   ·simp only [List.flatMap_nil,aZ,Nat.zero_mul,List.take_zero];exact .nil
variable {o:Oper} {d:Nat} {K:Act→World→Prop} {Q:Exit→Act→World→Prop} (h:cN C D σ γ a w) (hd:o.dst=some d) (hl:d<C.nt)
theorem cN.zE (h:cN C D σ γ a w) {d:Nat} (hl:d<C.nt) {k s n cap:Nat} {cur:Array Value} {e:TypeId} {es:List AV} (hk:γ (lk k) = .no) (hlen:es.length=n) (qu:∀x∈es,x.cells.length=s) (qY:n≤cap) (vG:cap≤maxLen) (lq:cur.size=cap * s)
  (hL:dz D.R w (es.flatMap AV.cells) (cur.toList.take (es.length * s))) :
  ∃D',cN C D' (bP σ [d,lk k] [.pt,.sl s es]) (bP γ [d,lk k] [.cD k s,.pv s]) (a.put (some d) (.slice (some ⟨w.heap.size,0,none⟩) n cap)) { w with heap:=w.heap.push (.cells cur e) }:=by
 have gX:(w.heap.push (Obj.cells cur e))[w.heap.size]?=some (.cells cur e):=by simp
 have hold:∀c,c<w.heap.size→(w.heap.push (Obj.cells cur e))[c]?=w.heap[c]?:=fun c hc=>by
  rw [Array.getElem?_push,aE (by omega)]
 have hS:cN C { D with R:=D.R } σ γ a { w with heap:=w.heap.push (.cells cur e) }:=h.grow (R':=D.R) rfl rfl rfl (by show _≤(w.heap.push _).size;simp) hold (fun _ _ h=>h) (fun _ _ h => .inl h) (fun c q hr=>by
  show c<(w.heap.push _).size
  have:=h.j0 c q hr
  simp;omega)
 have bM:fu D.R w D.R { w with heap:=w.heap.push (.cells cur e) }:=fun b o hr=>⟨hr,World.cell?_of_block (w:=w) (hold b (h.j0 b o hr))⟩
 have nU:∀q,¬D.R w.heap.size q:=fun q hr=>by have:=h.j0 _ q hr;omega
 refine ⟨_,cN.lj hS hl hk (.inr ⟨w.heap.size,n,cap,cur,e,(0,0),rfl,gX,by simp,lq,qY,vG,fun q _=>nU q⟩) ⟨fun g hg q=>?_,.inr ⟨es,rfl,qu,.inr ⟨w.heap.size,cap,cur,e,(0,0),by rw [hlen],gX,hL.mono bM⟩⟩⟩ fun g hg=>?_⟩
 ·simp [Value.ownBlock] at hg;subst hg;exact nU q
 ·simp [Value.ownBlock] at hg
  subst hg
  exact ⟨.inr h.ext.size,fun key hk=>by have:=h.lt hk;omega⟩
include h hd hl
theorem Lm {t e:TypeId} {x y:Operand} {r q:cR} {i:TypeInfo} {zv:Value} {k s:Nat} {z:AV} {l c:Int} (ho:o.op = .makeSlice t x y) (ht:C.P.underlying t=some (.slice e)) (hi:C.P.info? e=some i) (hz:i.size=s) (DS:i.zero=some zv) (zi:zv.cells.size=s) (Xn:0<s)
  (O6:fx zv.cells.toList z.cells=true) (hx:bU x r=true) (hy:bU y q=true) (fy:small C.nt [x]=true) (lA:small C.nt [y]=true) (hr:r.ev C.E σ = .v (.int .i64 l)) (hq:q.ev C.E σ = .v (.int .i64 c))
  (hp:z.cells.length=s) (h0:0≤l) (SO:l≤c) (hb:c * i.bytes≤140737488355328) (vG:c≤maxLen) (hk:γ (lk k) = .no)
  (hK:∀D' a' w',cN C D' (bP σ [d,lk k] [.pt,.sl s (List.replicate l.toNat z)]) (bP γ [d,lk k] [.cD k s,.pv s]) a' w'→K a' w'):o.wp C.P a w K Q:=by
 have e1:=(h.gE hx fy).rep (by rw [hr];simp)
 have e2:=(h.gE hy lA).rep (by rw [hq];simp)
 rw [hr] at e1;rw [hq] at e2
 have SI:=run_make (P:=C.P) w t e i zv ht hi DS .i64 .i64 l c h0 SO (by rw [Int.mul_comm];omega) (by simp only [maxLen] at vG;omega)
 have cM:(execOp a.eval o).run C.P w = .ok (.value (.slice (some ⟨w.heap.size,0,none⟩) l.toNat c.toNat)) (w.alloc (.cells (madeCells zv.cells (c.toNat * i.size)) e)):=by
  simp only [execOp,ho,e1.fF,e2.fF,Sem.run_bind,SI,Result.andThen_ok,Sem.run_pure]
 have hL:dz D.R w z.cells zv.cells.toList:=gU O6
 have SZ:(List.replicate l.toNat z).flatMap AV.cells=(List.replicate l.toNat z.cells).flatten:=by rw [List.flatMap_def,List.map_replicate]
 have Dj:l.toNat≤c.toNat:=by omega
 have Bi:(madeCells zv.cells (c.toNat * i.size)).toList.take ((List.replicate l.toNat z).length * s)=(List.replicate l.toNat zv.cells.toList).flatten:=by
  have Cr:(List.replicate l.toNat zv.cells.toList).flatten.length=l.toNat * s:=by simp [zi]
  rw [List.length_replicate,←Cr]
  refine od fun j y hj=>?_
  have h1:=oZ (by simp;omega) _ _ _ hj
  have eW:=(aF.1 hj).1
  rw [Cr] at eW
  have hle:l.toNat * s≤c.toNat * s:=ar _ Dj
  have hm:j<c.toNat * i.size:=by rw [hz];omega
  simp only [madeCells,Array.getElem?_map,Array.getElem?_range,hm,if_true,Option.map_some]
  simp only [Array.length_toList,Array.getElem?_toList] at h1
  rw [getElem!_def,h1]
 obtain ⟨D',hS⟩:=h.zE (d:=d) hl (k:=k) (s:=s) (n:=l.toNat) (cap:=c.toNat) (cur:=madeCells zv.cells (c.toNat * i.size)) (e:=e) (es:=List.replicate l.toNat z) hk (by simp) (fun x hx=>by rw [List.eq_of_mem_replicate hx];exact hp) Dj (by omega)
  (by rw [size_madeCells,hz]) (by rw [Bi,SZ];exact lI hL _)
 unfold Oper.wp
 rw [cM,Oper.upon_value,hd]
 exact hK _ _ _ hS
theorem Lq {t:TypeId} {s n k:Nat} {parts:Array (Nat × Operand)} {rs:List cR} (ho:o.op = .buildSlice t n parts) (ht:kJ C.P t s=true) (F1:n * s≤2 ^ 24)
  (vD:parts.toList.map (·.1)=List.range n) (hx:bW (parts.toList.map (·.2)) rs=true) (de:small C.nt (parts.toList.map (·.2))=true) (vp:∀x∈rs.map (cR.ev C.E σ),x.plain=true∧x.cells.length=s) (hk:γ (lk k) = .no)
  (hK:∀D' a' w',cN C D' (bP σ [d,lk k] [.pt,.sl s (rs.map (cR.ev C.E σ))]) (bP γ [d,lk k] [.cD k s,.pv s]) a' w'→K a' w'):o.wp C.P a w K Q:=by
 obtain ⟨e,inf,zv,ht,hi,hz,DS,h5⟩:=mw ht
 have F0:n≤maxLen:=by
  have:n≤n * s:=Nat.le_mul_of_pos_right n h5
  simp only [maxLen];omega
 have hT:=h.qL hx de
 obtain ⟨hL,lq⟩:=rU hT vp
 have hlen:parts.toList.length=n:=by have:=congrArg List.length vD;simpa using this
 have Pz:parts.size=n:=by simpa using hlen
 have pH:(rs.map (cR.ev C.E σ)).length=n:=by have:=hT.length;simp at this ⊢;omega
 have hp:(parts.map fun p=>(p.1,a.eval p.2)).toList=((((parts.toList.map (·.2)).map a.eval).zipIdx 0).map fun p=>(p.2,p.1)):=by
  have e:=rV ((parts.map fun p=>(p.1,a.eval p.2)).toList) 0 (by simp only [Array.toList_map,aW,aH,hlen];rw [←List.range_eq_range',←vD];rfl)
  rw [e]
  simp [Function.comp_def]
 let zc:Array Value:=if n * s=0 then #[] else zv.cells
 let c0:Array Value:=(Array.range (n * s)).map (zc[· % zc.size]!)
 obtain ⟨fE,hf,Mh⟩:=sy s ((parts.toList.map (·.2)).map a.eval) 0 c0 lq (by simp [c0,hlen])
 simp only [Nat.zero_mul,List.take_zero,bg] at Mh
 have cM:(Instr.buildSlice t n (parts.map fun p=>(p.1,a.eval p.2))).run C.P w = .ok (.slice (some ⟨w.heap.size,0,none⟩) n n) { w with heap:=w.heap.push (.cells fE e) }:=by
  have Tn:¬(n * s > 2 ^ 24):=by omega
  rw [←hp] at hf
  simp only [c0,zc] at hf
  simp only [Instr.buildSlice,Sem.run_bind,run_underlying ht,Result.andThen_ok,run_sizeOf hi,hz,Tn,if_false,Sem.run_pure]
  by_cases h0:n * s=0
  ·rw [aG h0] at hf ⊢
   simp only [Sem.run_bind,Sem.run_pure,Result.andThen_ok]
   rw [hf]
   simp [Go.newRow]
  ·rw [aE h0] at hf ⊢
   simp only [Sem.run_bind,Sem.run_pure,Result.andThen_ok,oi hi DS]
   rw [hf]
   simp [Go.newRow]
 have xy:fE.size=n * s:=by
  rw [←Array.length_toList,Mh,←hL.length,rh vp,pH]
 obtain ⟨D',hS⟩:=h.zE (d:=d) hl (k:=k) (s:=s) (n:=n) (cap:=n) (cur:=fE) (e:=e) (es:=rs.map (cR.ev C.E σ)) hk pH (fun x hx=>(vp x hx).2) (Nat.le_refl _) F0 xy
  (by rw [Mh,List.take_of_length_le (by rw [←hL.length,rh vp];omega)];exact hL)
 unfold Oper.wp
 rw [show (execOp a.eval o).run C.P w = .ok (.value (.slice (some ⟨w.heap.size,0,none⟩) n n)) { w with heap:=w.heap.push (.cells fE e) } by simp only [execOp,ho,Sem.run_bind,cM,Result.andThen_ok,Sem.run_pure],Oper.upon_value,hd]
 exact hK _ _ _ hS
theorem Lb {x y:Operand} {r q:cR} {t e:TypeId} {inf:TypeInfo} {k k' s:Nat} {es:List AV} {ik:IntKind} {u:Int} (ho:o.op = .slice t x none (some y) none) (ht:C.P.underlying t=some (.slice e)) (Bg:C.P.info? e=some inf) (hz:inf.size=s) (h9:k≠999999)
  (hx:bU x r=true) (fy:small C.nt [x]=true) (hy:bU y q=true) (lA:small C.nt [y]=true) (hr:r.ev C.E σ = .pt) (hg:r.gh γ = .cD k s) (hk:γ (lk k) = .pv s) (jV:σ (lk k) = .sl s es) (jW:γ (lk k') = .no) (fO:k≠k')
  (hq:q.ev C.E σ = .v (.int ik u)) (h0:0≤u) (h2:u.toNat≤es.length)
  (hK:∀D' a' w',cN C D' (bP σ [d,lk k,lk k'] [.pt,.dead,.sl s (es.take u.toNat)]) (bP γ [d,lk k,lk k'] [.cD k' s,.used,.pv s]) a' w'→K a' w'):o.wp C.P a w K Q:=by
 have e0:=h.gE hx fy
 have hv:=e0.gh (by rw [hr];simp) (by rw [hr];simp)
 rw [hg] at hv
 obtain ⟨hv,_⟩:=hv
 have e2:=(h.gE hy lA).rep (by rw [hq];simp)
 rw [hq] at e2
 obtain ⟨tw,hn,hp⟩:=h.qH hk
 rw [jV] at hp
 obtain ⟨Km,he,qu,hp⟩:=hp.resolve_left (by simp)
 cases he
 have oU:eM D γ (lk k)=(D.τ (lk k)).ownBlock:=fS (by rw [hk];rfl)
 have oQ:∀b,(D.τ (lk k)).ownBlock=some b→C.lp b∧∀key,eM D (cI γ (lk k) .used) key≠some b:=fun b hb=>⟨h.own _ _ (oU.trans hb),fun key jg=>by
  by_cases e:key=lk k
  ·subst e;simp [eM,bF] at jg
  ·have:eM D γ key=some b:=by unfold eM at jg ⊢;rwa [bG _ _ e] at jg
   exact e (h.sS hk (oU.trans hb) this)⟩
 have QF:a.eval y = .int ik ((u.toNat:Nat):Int):=by rw [e2.fF,Int.toNat_of_nonneg h0]
 have hb:∀cap,es.length≤cap→(Instr.sliceBounds true es.length cap none (some (a.eval y)) none).run C.P w = .ok (0,u.toNat,cap) w:=by
  intro cap qY
  have hu:u.toNat≤cap:=by omega
  clear hr hq h0 e2
  generalize u.toNat=u' at *
  unfold Instr.sliceBounds
  simp [Instr.sliceBound,asIntOf, *]
 have vE:cI γ (lk k) .used (lk k') = .no:=by rw [bG _ _ (fun e=>fO (fT e).symm)];exact jW
 have hc:lk k'≠lk k:=fun e=>fO (fT e).symm
 have Dz:∀x:AV,bP σ [d,lk k,lk k'] [.pt,.dead,x]=bP (cI σ (lk k) .dead) [d,lk k'] [.pt,x]:=fun x=>by
  simp only [bP];rw [gA σ _ _ hc]
 have zR:bP γ [d,lk k,lk k'] [.cD k' s,.used,.pv s]=bP (cI γ (lk k) .used) [d,lk k'] [.cD k' s,.pv s]:=by
  simp only [bP];rw [gA γ _ _ hc]
 rw [Dz,zR] at hK
 have h1:=h.Fu h9 hk
 unfold Oper.wp
 rcases hp with ⟨rfl,pP⟩ | ⟨g,cap,cur,el,fz,pP,hh,hL⟩
 ·have Pe:u.toNat=0:=by simpa using h2
  have vH:=hb 0 (by simp)
  rw [pP] at hv
  have cM:(execOp a.eval o).run C.P w = .ok (.value (.slice none 0 0)) w:=by
   simp only [aZ] at vH
   simp only [execOp,ho,hv,Instr.sliceAt,Instr.slice,Sem.run_bind,run_underlying ht,Result.andThen_ok,Option.map_none,Option.map_some,vH,run_sizeOf Bg,Sem.run_pure,Pe]
   simp
  rw [cM,Oper.upon_value,hd]
  exact hK _ _ _ (h1.lj hl vE (.inl rfl) ⟨fun g hg=>by simp [Value.ownBlock] at hg,.inr ⟨_,rfl,by simp,.inl ⟨by simp,rfl⟩⟩⟩ fun g hg=>by simp [Value.ownBlock] at hg)
 ·rw [pP] at hv hn tw oQ
  rcases tw with e1 | ⟨g',n',sH,mI,Xt,Nb,e1,q1,q2,q3,q4,q5,q6⟩
  ·cases e1
  cases e1
  rw [hh] at q1
  cases q1
  have cM:(execOp a.eval o).run C.P w = .ok (.value (.slice (some ⟨g,0,none⟩) u.toNat cap)) w:=by
   simp only [execOp,ho,hv,Instr.sliceAt,Instr.slice,Sem.run_bind,run_underlying ht,Result.andThen_ok,Option.map_none,Option.map_some,hb cap q4,run_sizeOf Bg,Sem.run_pure,hz]
   split <;> simp [*,fJ]
  rw [cM,Oper.upon_value,hd]
  have Mb:=hn g rfl
  have eW:(es.take u.toNat).length=u.toNat:=by simp;omega
  have WR:(es.take u.toNat).flatMap AV.cells=(es.flatMap AV.cells).take (u.toNat * s):=by
   have M4:=xH (s:=s) (es:=es.take u.toNat) (fun x hx=>qu x (List.mem_of_mem_take hx))
   rw [eW] at M4
   have e1:es.flatMap AV.cells=(es.take u.toNat).flatMap AV.cells++(es.drop u.toNat).flatMap AV.cells:=by
    rw [←List.flatMap_append,List.take_append_drop]
   have e2:((es.take u.toNat).flatMap AV.cells++(es.drop u.toNat).flatMap AV.cells).take (u.toNat * s)=(es.take u.toNat).flatMap AV.cells:=by
    rw [←M4,List.take_left']
    rfl
   rw [e1,e2]
  refine hK _ _ _ (h1.lj hl vE (.inr ⟨g,u.toNat,cap,cur,el,fz,rfl,hh,q2,q3,by omega,q5,fun o _=>Mb o⟩) ⟨fun g' kn=>by simp [Value.ownBlock] at kn;subst kn;exact Mb,.inr ⟨_,rfl,fun x hx=>qu x (List.mem_of_mem_take hx),.inr ⟨g,cap,cur,el,fz,by rw [eW],hh,?_⟩⟩⟩ fun g' kn=>oQ g' kn)
  rw [eW,WR]
  have:=hL.take (u.toNat * s)
  rw [List.take_take] at this
  have hm:u.toNat * s≤es.length * s:=ar _ h2
  rwa [Nat.min_eq_left hm] at this
theorem Lc {x y:Operand} {r q:cR} {t u e:TypeId} {i:TypeInfo} {z:Value} {du:TypeDesc} {k k' s:Nat} {es fs:List AV} (h9:k≠999999) (ho:o.op = .call { callee := .builtin .append,args:=#[x,y],argTypes:=#[t,u] })
  (ht:C.P.underlying t=some (.slice e)) (hi:C.P.info? e=some i) (hz:i.zero=some z) (zi:z.cells.size=i.size) (hu:C.P.underlying u=some du) (vF:∀k,du ≠ .int k) (hs:i.size=s)
  (hx:bU x r=true) (fy:small C.nt [x]=true) (hr:r.ev C.E σ = .pt) (hg:r.gh γ = .cD k s) (hk:γ (lk k) = .pv s) (jV:σ (lk k) = .sl s es) (jW:γ (lk k') = .no) (fO:k≠k')
  {news:List Value} (so:Source C.P w s (a.eval y) fs.length news) (hL:dz D.R w (fs.flatMap AV.cells) news) (qt:∀e∈fs,e.cells.length=s) (zz:es.length+fs.length≤maxLen) (hb:(es.length+fs.length) * i.bytes≤140737488355328)
  (hK:∀D' a' w',cN C D' (bP σ [d,lk k,lk k'] [.pt,.dead,.sl s (es++fs)]) (bP γ [d,lk k,lk k'] [.cD k' s,.used,.pv s]) a' w'→K a' w'):o.wp C.P a w K Q:=by
 subst hs
 have e0:=h.gE hx fy
 have hv:=e0.gh (by rw [hr];simp) (by rw [hr];simp)
 rw [hg] at hv
 obtain ⟨hv,_⟩:=hv
 obtain ⟨hT,hP⟩:=h.qH hk
 rw [jV] at hP
 rw [←hv] at hT hP
 have oU:eM D γ (lk k)=(a.eval x).ownBlock:=by rw [hv];exact fS (by rw [hk];rfl)
 have oJ:∀g,(a.eval x).ownBlock=some g→C.lp g∧∀key,eM D (cI γ (lk k) .used) key≠some g:=fun g kn=>by
  refine ⟨h.own (lk k) g (oU.trans kn),fun key jg=>?_⟩
  by_cases e:key=lk k
  ·subst e;simp [eM,bF] at jg
  ·have:eM D γ key=some g:=by unfold eM at jg ⊢;rwa [bG _ _ e] at jg
   exact e (h.sS hk (oU.trans kn) this)
 have h1:=h.Fu h9 hk
 obtain ⟨v,w',cM,os,tape,out,size,hh,_,_,ct,cp,LW⟩:=kT (ty:=o.type) ht hi hz zi hu vF hT hP h.j0 so hL qt zz hb
 have bM:fu D.R w D.R w':=fun b o hr=>⟨hr,World.cell?_of_block (w:=w) (hh b (h.j0 b o hr) (fun e=>hP.1 b e o hr))⟩
 have hS:=h1.world (w':=w') (R':=D.R) os tape out size (fun b hb De=>hh b hb (fun e=>by
  obtain ⟨m1,m2⟩:=oJ b e
  rcases De with ⟨key,hk⟩ | hm
  ·exact m2 key hk
  ·exact hm m1)) bM (fun b o hr => .inl hr) (fun b o hr=>Nat.lt_of_lt_of_le (h.j0 b o hr) size)
 unfold Oper.wp
 rw [show (execOp a.eval o).run C.P w = .ok (.value v) w' by simp [execOp,ho,resolve,invoke,builtin,cM],Oper.upon_value,hd]
 have vE:cI γ (lk k) .used (lk k') = .no:=by rw [bG _ _ (fun e=>fO (fT e).symm)];exact jW
 have hF:=hS.lj hl vE ct cp (fun g hg=>by
  rcases LW g hg with e | e
  ·exact oJ g e
  ·exact ⟨.inr (Nat.le_trans h.ext.size e),fun key hk=>by have:=h1.lt hk;omega⟩)
 have hc:lk k'≠lk k:=fun e=>fO (fT e).symm
 have Dz:bP σ [d,lk k,lk k'] [.pt,.dead,.sl i.size (es++fs)]=bP (cI σ (lk k) .dead) [d,lk k'] [.pt,.sl i.size (es++fs)]:=by
  simp only [bP];rw [gA σ _ _ hc]
 have zR:bP γ [d,lk k,lk k'] [.cD k' i.size,.used,.pv i.size]=bP (cI γ (lk k) .used) [d,lk k'] [.cD k' i.size,.pv i.size]:=by
  simp only [bP];rw [gA γ _ _ hc]
 rw [Dz,zR] at hK
 exact hK _ _ _ hF
theorem E5 {f k:Nat} {args:Array Operand} {ts:Array TypeId} {rs:List cR} {es:List AV} (ho:o.op = .call { callee := .value (.func f),args,argTypes:=ts }) (hp:fI C.P f=true)
  {S:FS} (hS:dK C.P C.E.gl f S) (JZ:S.sg={ own:=[(0,1)] }) (hx:bW args.toList rs=true) (de:small C.nt args.toList=true) (hG:S.G (rs.map (cR.ev C.E σ)) [.sl 1 es]) (hv:∀e∈es,∃x,e = .v x) (jW:γ (lk k) = .no)
  (hK:∀D' a' w',cN C D' (bP σ [d,lk k] [.pt,.sl 1 es]) (bP γ [d,lk k] [.cD k 1,.pv 1]) a' w'→K a' w'):o.wp C.P a w K Q:=by
 have hT:=h.qL hx de
 unfold Oper.wp
 rw [kQ ho hp,Oper.upon_enter]
 have:=hS.1 (by rw [JZ]) w D.R _ _ (args.toList.map a.eval) hG h.j0 h.gl (by rw [JZ];exact hT)
 have e:(⟨args.toList.map a.eval⟩:Array Value)=args.map a.eval:=by apply Array.ext';simp
 rw [e] at this
 refine this.mono ?_
 rintro e w' ⟨x,R',rfl,h1,h2,h3⟩
 simp only
 rw [hd]
 rw [JZ] at h1 h3
 obtain ⟨rvs,tr,gg,tn,bn,br,cn,cr,q1,q2,q3,q4,q5,q6,q7,q8,q9,VK,Rj,VJ,Ri,VI,Rh⟩:=h3
 obtain ⟨x',rfl⟩:=km (l:=rvs) q1
 have Se:x=x':=by rw [q2];rfl
 subst Se
 obtain ⟨v,rfl⟩:=km (l:=gg) (by simpa using q8)
 have Sk:v=x:=by have:=Rj 0 (0,1) v rfl rfl;simpa using this.symm
 subst Sk
 have Pg:tn=[]:=aS (by simpa using q9)
 have Pf:tr=[]:=aS (by simpa using q7)
 subst Pg;subst Pf
 have ir:Rep R' w' (.sl 1 es) v:=by
  have:=q4
  simp only [List.take_succ_cons,List.take_zero,List.mapIdx_cons,List.mapIdx_nil] at this
  cases this with
  | cons h0 _=>simpa using h0
 have Dc:=Ri 0 (0,1) v rfl rfl
 have vr:∀b,¬nH { own:=[(0,1)] } w (args.toList.map a.eval) b:=fun b hb=>hb
 have IV:∀g,v.ownBlock=some g→w.heap.size≤g:=fun g hg=>by
  rcases Rh g (by simp [kj,hg]) with e | e
  ·exact (vr g e).elim
  ·exact e
 have WO:=h.grow (w':=w') (R':=D.R) h1.os h1.tape h1.output h1.size (fun b hb=>h1.heap b hb (vr b)) (fun _ _ h=>h) (fun _ _ h => .inl h) (fun b o hr=>Nat.lt_of_lt_of_le (h.j0 b o hr) h1.size)
 obtain ⟨t1,t2⟩:=BZ (R:=D.R) hv ir Dc fun g hg o hr=>by have:=IV g hg;have:=h.j0 _ _ hr;omega
 exact hK _ _ _ (WO.lj hl jW t1 t2 fun g hg=>⟨.inr (Nat.le_trans h.ext.size (IV g hg)),fun key hk=>by have:=h.lt hk;have:=IV g hg;omega⟩)
theorem E4 {f n i k s:Nat} {args:Array Operand} {ts:Array TypeId} {rs:List cR} {es outs:List AV} (Dl:i<1000) (ho:o.op = .call { callee := .value (.func f),args,argTypes:=ts }) (hp:fI C.P f=true) (h9:k≠999999)
  {S:FS} (hS:dK C.P C.E.gl f S) (je:S.sg.ps=some (1000+i,s)) (hn:S.sg.bQ=n) (gX:S.sg.new=none) (gW:S.sg.ref=none) (hx:bW args.toList rs=true) (de:small C.nt args.toList=true)
  (tT:(rs.map (cR.ev C.E σ))[i]?=some .pt) (Dm:(rs.map (cR.gh γ))[i]?=some (.cD k s)) (hk:γ (lk k) = .pv s) (jV:σ (lk k) = .sl s es)
  (hG:S.G ((rs.map (cR.ev C.E σ)).set i (.sl s es)) outs) (rD:outs.length=n)
  (hK:∀D' a' w',cN C D' (bP σ [d,lk k] [if n=1 then outs.headD .dead else .tu outs,.dead]) (bP γ [d,lk k] [.no,.used]) a' w'→K a' w'):o.wp C.P a w K Q:=by
 obtain ⟨ht,vD⟩:=h.qH hk
 obtain ⟨v,hv1,_,hv2⟩:=uJ h hx de tT (by simp) (by simp)
 have hv3:=(hv2 _ Dm).1
 subst hv3
 have hT:=h.qL hx de
 have xw:=(aF.1 tT).1
 have qT:((rs.map (cR.ev C.E σ)).set i (.sl s es)).set i .pt=rs.map (cR.ev C.E σ):=by rw [List.set_set,nv tT]
 unfold Oper.wp
 rw [kQ ho hp,Oper.upon_enter]
 have hC:=((hS.2 _ s je).2 (by omega)).1 (by omega)
 rw [show 1000+i - 1000=i by omega] at hC
 have:=hC w D.R _ outs (args.toList.map a.eval) _ es hG h.j0 h.gl hv1 (List.getElem?_set_self xw) ht (jV ▸ vD) (by rw [qT];exact hT)
 have e:(⟨args.toList.map a.eval⟩:Array Value)=args.map a.eval:=by apply Array.ext';simp
 rw [e] at this
 refine this.mono ?_
 rintro e w' ⟨x,R',rfl,h1,h2,h3⟩
 simp only
 rw [hd]
 obtain ⟨rvs,tr,gg,tn,bn,br,cn,cr,q1,q2,q3,q4,_⟩:=h3
 have e1:(outs.take S.sg.bQ).mapIdx (fun i y=>if S.sg.new=some i then AV.pt else y)=outs:=by
  rw [gX,List.take_of_length_le (by omega)]
  apply List.ext_getElem?
  intro j
  simp
 rw [e1] at q4
 exact hK _ _ _ (cN.rX (h.given h9 hk h1 h2) hl (q1.trans hn) (by rw [←hn];exact q2) q4 rD)
theorem E0 {k s:Nat} (ho:o.op = .move (.const (.slice none 0 0))∨o.op = .assign (.const (.slice none 0 0))) (hk:γ (lk k) = .no)
  (hK:∀D' a' w',cN C D' (bP σ [d,lk k] [.pt,.sl s []]) (bP γ [d,lk k] [.cD k s,.pv s]) a' w'→K a' w'):o.wp C.P a w K Q:=by
 have hr:(execOp a.eval o).run C.P w = .ok (.value (.slice none 0 0)) w:=by rcases ho with e | e <;> simp [execOp,e,Act.eval]
 unfold Oper.wp
 rw [hr,Oper.upon_value,hd]
 exact hK _ _ _ (h.lj hl hk (.inl rfl) ⟨by simp [Value.ownBlock],.inr ⟨[],rfl,by simp,.inl ⟨rfl,rfl⟩⟩⟩ (by simp [Value.ownBlock]))
theorem E2 {f i k s:Nat} {args:Array Operand} {ts:Array TypeId} {rs:List cR} {es fs:List AV} (ho:o.op = .call { callee := .value (.func f),args,argTypes:=ts }) (hp:fI C.P f=true)
  {S:FS} (hS:dK C.P C.E.gl f S) (je:S.sg.ps=some (2000+i,s)) (hx:bW args.toList rs=true) (de:small C.nt args.toList=true)
  (tT:(rs.map (cR.ev C.E σ))[i]?=some .pt) (Dm:(rs.map (cR.gh γ))[i]?=some (.cD k s)) (hk:γ (lk k) = .pv s) (jV:σ (lk k) = .sl s es) (fO:es≠[])
  (hG:S.G ((rs.map (cR.ev C.E σ)).set i (.sl s es)) [.sl s fs])
  (hK:∀D' a' w',cN C D' (bP σ [d,lk k] [.tu [],.sl s fs]) (bP γ [d,lk k] [.no,.pv s]) a' w'→K a' w'):o.wp C.P a w K Q:=by
 obtain ⟨ht,vD⟩:=h.qH hk
 obtain ⟨v,hv1,_,hv2⟩:=uJ h hx de tT (by simp) (by simp)
 have hv3:=(hv2 _ Dm).1
 subst hv3
 have hT:=h.qL hx de
 have xw:=(aF.1 tT).1
 have qT:((rs.map (cR.ev C.E σ)).set i (.sl s es)).set i .pt=rs.map (cR.ev C.E σ):=by rw [List.set_set,nv tT]
 unfold Oper.wp
 rw [kQ ho hp,Oper.upon_enter]
 have hC:=((hS.2 _ s je).2 (by omega)).2 (by omega)
 rw [show 2000+i - 2000=i by omega] at hC
 have FY:∃g,(D.τ (lk k)).ownBlock=some g:=by
  have qV:=vD.2
  rw [jV] at qV
  rcases qV with e | ⟨Km,e,_,h8⟩
  ·cases e
  ·cases e
   rcases h8 with ⟨e1,_⟩ | ⟨g8,TB,TA,Xs,Xo,e8,_,_⟩
   ·exact (fO e1).elim
   ·exact ⟨g8,by rw [e8];rfl⟩
 obtain ⟨g,hg⟩:=FY
 have:=hC w D.R _ fs (args.toList.map a.eval) _ es hG h.j0 h.gl hv1 (List.getElem?_set_self xw) fO ht (jV ▸ vD) (by rw [qT];exact hT)
 have e:(⟨args.toList.map a.eval⟩:Array Value)=args.map a.eval:=by apply Array.ext';simp
 rw [e] at this
 refine this.mono ?_
 rintro e w' ⟨rfl,q1,q2,q3,q4,q5,q6,q7⟩
 simp only
 rw [hd]
 have W9:=h.Jo hk hg q1 q2 q3 q4 (fun b hb=>q5 b (fun e=>hb (by rw [hg] at e;exact (Option.some.inj e).symm))) q6 q7
 have hR:=cN.rX (d:=d) W9 hl (n:=0) (rvs:=[]) (outs:=[]) (x := .tuple ⟨[]⟩) rfl rfl .nil rfl
 have e1:bP σ [d,lk k] [.tu [],.sl s fs]=cI (cI σ (lk k) (.sl s fs)) d (.tu []):=rfl
 have e0:cI γ (lk k) (.pv s)=γ:=by
  funext j
  by_cases e:j=lk k
  ·subst e;rw [bF,hk]
  ·rw [bG _ _ e]
 have e2:bP γ [d,lk k] [.no,.pv s]=cI γ d .no:=by
  show cI (cI γ (lk k) (.pv s)) d .no=_
  rw [e0]
 rw [e1,e2] at hK
 exact hK _ _ _ hR
theorem E3 {f i k k':Nat} {args:Array Operand} {ts:Array TypeId} {rs:List cR} {es fs:List AV} (Dl:i<1000) (ho:o.op = .call { callee := .value (.func f),args,argTypes:=ts }) (hp:fI C.P f=true) (h9:k≠999999)
  {S:FS} (hS:dK C.P C.E.gl f S) (JZ:S.sg={ ps:=some (1000+i,1),own:=[(0,1)] }) (hx:bW args.toList rs=true) (de:small C.nt args.toList=true)
  (tT:(rs.map (cR.ev C.E σ))[i]?=some .pt) (Dm:(rs.map (cR.gh γ))[i]?=some (.cD k 1)) (hk:γ (lk k) = .pv 1) (jV:σ (lk k) = .sl 1 es) (jW:γ (lk k') = .no) (fO:k≠k')
  (hG:S.G ((rs.map (cR.ev C.E σ)).set i (.sl 1 es)) [.sl 1 fs]) (hv:∀e∈fs,∃x,e = .v x)
  (hK:∀D' a' w',cN C D' (bP σ [d,lk k,lk k'] [.pt,.dead,.sl 1 fs]) (bP γ [d,lk k,lk k'] [.cD k' 1,.used,.pv 1]) a' w'→K a' w'):o.wp C.P a w K Q:=by
 obtain ⟨ht,vD⟩:=h.qH hk
 obtain ⟨v0,hv1,_,hv2⟩:=uJ h hx de tT (by simp) (by simp)
 have hv3:=(hv2 _ Dm).1
 subst hv3
 have hT:=h.qL hx de
 have xw:=(aF.1 tT).1
 have qT:((rs.map (cR.ev C.E σ)).set i (.sl 1 es)).set i .pt=rs.map (cR.ev C.E σ):=by rw [List.set_set,nv tT]
 have oU:eM D γ (lk k)=(D.τ (lk k)).ownBlock:=fS (by rw [hk];rfl)
 unfold Oper.wp
 rw [kQ ho hp,Oper.upon_enter]
 have hC:=((hS.2 _ 1 (by rw [JZ])).2 (by omega)).1 (by omega)
 rw [show 1000+i - 1000=i by omega] at hC
 have:=hC w D.R _ _ (args.toList.map a.eval) _ es hG h.j0 h.gl hv1 (List.getElem?_set_self xw) ht (jV ▸ vD) (by rw [qT];exact hT)
 have e:(⟨args.toList.map a.eval⟩:Array Value)=args.map a.eval:=by apply Array.ext';simp
 rw [e] at this
 refine this.mono ?_
 rintro e w' ⟨x,R',rfl,h1,h2,h3⟩
 simp only
 rw [hd]
 rw [JZ] at h3
 obtain ⟨rvs,tr,gg,tn,bn,br,cn,cr,q1,q2,q3,q4,q5,q6,q7,q8,q9,VK,Rj,VJ,Ri,VI,Rh⟩:=h3
 obtain ⟨x',rfl⟩:=km (l:=rvs) q1
 have Se:x=x':=by rw [q2];rfl
 subst Se
 obtain ⟨v,rfl⟩:=km (l:=gg) (by simpa using q8)
 have Sk:v=x:=by have:=Rj 0 (0,1) v rfl rfl;simpa using this.symm
 subst Sk
 have Pg:tn=[]:=aS (by simpa using q9)
 have Pf:tr=[]:=aS (by simpa using q7)
 subst Pg;subst Pf
 have ir:Rep R' w' (.sl 1 fs) v:=by
  have:=q4
  simp only [List.take_succ_cons,List.take_zero,List.mapIdx_cons,List.mapIdx_nil] at this
  cases this with
  | cons h0 _=>simpa using h0
 have Dc:=Ri 0 (0,1) v rfl rfl
 have IV:∀g,v.ownBlock=some g→(D.τ (lk k)).ownBlock=some g∨w.heap.size≤g:=fun g hg=>Rh g (by simp [kj,hg])
 obtain ⟨t1,t2⟩:=BZ (R:=D.R) hv ir Dc fun g hg o hr=>by
  rcases IV g hg with e | e
  ·exact vD.1 g e o hr
  ·have:=h.j0 _ _ hr;omega
 have Te:=h.given h9 hk h1.shrink (fun b o hr=>Nat.lt_of_lt_of_le (h.j0 b o hr) h1.size)
 have vE:cI γ (lk k) .used (lk k') = .no:=by rw [bG _ _ (fun e=>fO (fT e).symm)];exact jW
 have hc:lk k'≠lk k:=fun e=>fO (fT e).symm
 have Dz:bP σ [d,lk k,lk k'] [.pt,.dead,.sl 1 fs]=bP (cI σ (lk k) .dead) [d,lk k'] [.pt,.sl 1 fs]:=by
  simp only [bP];rw [gA σ _ _ hc]
 have zR:bP γ [d,lk k,lk k'] [.cD k' 1,.used,.pv 1]=bP (cI γ (lk k) .used) [d,lk k'] [.cD k' 1,.pv 1]:=by
  simp only [bP];rw [gA γ _ _ hc]
 rw [Dz,zR] at hK
 refine hK _ _ _ (Te.lj hl vE t1 t2 fun g hg=>?_)
 rcases IV g hg with e | e
 ·refine ⟨h.own _ _ (oU.trans e),fun key jg=>?_⟩
  by_cases e':key=lk k
  ·subst e';simp [eM,bF] at jg
  ·have:eM D γ key=some g:=by unfold eM at jg ⊢;rwa [bG _ _ e'] at jg
   exact e' (h.sS hk (oU.trans e) this)
 ·refine ⟨.inr (Nat.le_trans h.ext.size e),fun key jg=>?_⟩
  have:eM D γ key=some g:=by
   by_cases e':key=lk k
   ·subst e';simp [eM,bF] at jg
   ·unfold eM at jg ⊢;rwa [bG _ _ e'] at jg
  have:=h.lt this
  omega
theorem E6 {f n:Nat} {c:Operand} {rc:cR} {args:Array Operand} {ts:Array TypeId} {rs:List cR} {outs:List AV} (ho:o.op = .call { callee := .value c,args,argTypes:=ts }) (hp:fI C.P f=true) (WW:bU c rc=true) (xy:small C.nt [c]=true) (Um:rc.ev C.E σ = .v (.func (.func f) #[] #[]))
  {S:FS} (hS:dK C.P C.E.gl f S) (IM:S.sg.plain=true) (hn:S.sg.bQ=n) (hx:bW args.toList rs=true) (de:small C.nt args.toList=true) (hG:S.G (rs.map (cR.ev C.E σ)) outs) (rD:outs.length=n)
  (hK:∀D' a' w',cN C D' (cI σ d (if n=1 then outs.headD .dead else .tu outs)) (cI γ d .no) a' w'→K a' w'):o.wp C.P a w K Q:=by
 obtain ⟨p1,p2,p3,p4,p5,p6⟩:=c7.uH IM
 have ec:=(h.gE WW xy).rep (by rw [Um];simp)
 rw [Um] at ec
 have hT:=h.qL hx de
 have cM:(execOp a.eval o).run C.P w = .ok (.enter f (args.map a.eval)) w:=by
  unfold fI at hp
  cases hf:C.P.funcs[f]? with
  | none=>simp [hf] at hp
  | some fn =>
   simp only [hf,Option.any_some,aa,Bool.not_eq_true',beq_eq_false_iff_ne,ne_eq] at hp
   obtain ⟨h1,h2⟩:=hp
   have UK:fn.body.isNone=false:=by cases hb:fn.body <;> simp [hb] at h1 ⊢
   simp [execOp,ho,resolve,Deferred.ofValue,ec.fF,invoke,callFunc,hf]
   rw [aE h2,aE (by intro e;rw [e] at h1;cases h1)]
 unfold Oper.wp
 rw [cM,Oper.upon_enter]
 have:=hS.1 p6 w D.R _ outs (args.toList.map a.eval) hG h.j0 h.gl (by unfold kx;rw [p1];exact hT)
 have e:(⟨args.toList.map a.eval⟩:Array Value)=args.map a.eval:=by apply Array.ext';simp
 rw [e] at this
 refine this.mono ?_
 rintro e w' ⟨x,R',rfl,h1,h2,h3⟩
 simp only
 rw [hd]
 obtain ⟨rvs,tr,gg,tn,bn,br,cn,cr,q1,q2,q3,q4,_⟩:=h3
 have vr:(nH S.sg w (args.toList.map a.eval))=fun _=>False:=by funext b;unfold nH;rw [p1]
 rw [vr] at h1
 have e1:(outs.take S.sg.bQ).mapIdx (fun i y=>if S.sg.new=some i then AV.pt else y)=outs:=by
  rw [p4,List.take_of_length_le (by omega)]
  apply List.ext_getElem?
  intro j
  simp
 rw [e1] at q4
 exact hK _ _ _ (cN.rX (h.ve h1 h2) hl (q1.trans hn) (by rw [←hn];exact q2) q4 rD)
end
end Go.Eng
namespace Go.Eng
open Go.RowKit
section
variable {C:Ctx} {D:kf} {σ:Sg} {γ:Ga} {a:Act} {w:World}
variable {o:Oper} {d:Nat} {K:Act→World→Prop} {Q:Exit→Act→World→Prop} (h:cN C D σ γ a w)
include h
theorem NJ {x v:Operand} {r q:cR} {t:TypeId} {inf:TypeInfo} {m i s o':Nat} {cs:List AV} (hd:o.dst=none) (ho:o.op = .store t x v) (hi:C.P.info? t=some inf) (hz:inf.size=1)
  (hx:bU x r=true) (fy:small C.nt [x]=true) (hv:bU v q=true) (lA:small C.nt [v]=true) (hr:r.ev C.E σ = .el i s o') (hg:r.gh γ = .pm m) (hm:γ m = .cl []) (jV:σ m = .ag cs)
  (hp:(q.ev C.E σ).plain=true) (hn:(q.ev C.E σ).cells.length=1) (nV:i * s+o'+1≤cs.length)
  (hK:∀D' a' w',cN C D' (cI σ m (.ag (eK cs (i * s+o') (q.ev C.E σ).cells))) (cI γ m (.cl [])) a' w'→K a' w'):o.wp C.P a w K Q:=by
 have J3:q.ev C.E σ ≠ .dead:=by intro e;rw [e] at hp;cases hp
 have e0:=h.gE hx fy
 have e1:=e0.rep (by rw [hr];simp)
 have Pn:=e0.gh (by rw [hr];simp) (by rw [hr];simp)
 rw [hr] at e1
 rw [hg] at Pn
 obtain ⟨b,hb⟩:=Rep.xM e1
 obtain ⟨p,As⟩:=Pn
 rw [hb] at As
 cases As
 have HE:a.eval x = .pointer (some ⟨D.β m,i * s+o',none⟩):=hb
 generalize i * s+o'=oo at *
 have q0:=h.gE hv lA
 have hL:=lx (q0.rep J3) hp
 generalize (q.ev C.E σ).cells=qs at *
 obtain ⟨vs,tz,nR⟩:=h.mem m [] hm
 rw [jV] at tz
 have nU:=tz.C0
 obtain ⟨elem,hh,IZ⟩:=tz.ag
 have jf:cs.length≤vs.length:=by have:=IZ.length;simp at this;omega
 have hlen:=hL.length
 have WB:=IZ.length
 have S5:(a.eval v).cells.size=1:=by simp at hlen;omega
 have vB:=run_storeCells_at (P:=C.P) (D.β m) oo elem (a.eval v).cells.toList 0 ⟨vs⟩ w hh (by simp;omega) hL.one
 simp only [Nat.add_zero] at vB
 let new:List Value:=vs.take oo++(a.eval v).cells.toList++vs.drop (oo+(a.eval v).cells.toList.length)
 have cM:(execOp a.eval o).run C.P w = .ok .skip (w.setRow (D.β m) ⟨new⟩):=by
  have:¬((a.eval v).cells.size≠1):=by omega
  simp only [execOp,ho,HE,Instr.storeAt,Instr.sureAddr,Sem.run_bind,Sem.run_pure,Result.andThen_ok,storeVar,run_sizeOf hi,hz,Sem.run_ite,this,if_false,vB]
  rfl
 have Cq:=setRow_heap w (D.β m) ⟨vs⟩ ⟨new⟩ elem (0,0) hh
 have bM:fu D.R w D.R (w.setRow (D.β m) ⟨new⟩):=fun b o hr=>⟨hr,cell_setRow_other w (D.β m) _ ⟨b,o,none⟩ (fun e=>nU o (by have:b=D.β m:=e;rw [←this];exact hr))⟩
 have Tj:dz D.R (w.setRow (D.β m) ⟨new⟩) (eK cs oo qs) (new.take (eK cs oo qs).length):=by
  have hle:(a.eval v).cells.toList.length=qs.length:=hlen.symm
  have Pl:(eK cs oo qs).length=cs.length:=by simp [eK];omega
  have FZ:new.take cs.length=(vs.take cs.length).take oo++(a.eval v).cells.toList++(vs.take cs.length).drop (oo+(a.eval v).cells.toList.length):=by
   apply List.ext_getElem?
   intro j
   simp only [new,aO,List.getElem?_append,ao,aJ,List.getElem?_drop,hle,hn]
   have e1:min oo vs.length=oo:=by omega
   have e2:min oo (min cs.length vs.length)=oo:=by omega
   simp only [e1,e2]
   by_cases c1:j<cs.length
   ·by_cases c2:j<oo
    ·simp [c1,c2,show j<oo+1 by omega]
    ·by_cases c3:j<oo+1
     ·simp [c1,c2,c3]
     ·simp [c1,c2,c3,show oo+1+(j - (oo+1))<cs.length by omega]
   ·have c2:¬j<oo:=by omega
    have c3:¬j<oo+1:=by omega
    simp [c1,c3,show ¬oo+1+(j - (oo+1))<cs.length by omega]
  rw [Pl,FZ]
  simp only [eK,hle]
  exact (((IZ.take oo).append hL).append (IZ.drop (oo+qs.length))).mono bM
 have hS:=h.store (us:=[]) hm (w':=w.setRow (D.β m) ⟨new⟩) rfl rfl rfl (by simp) (fun b hb=>setRow_other w (D.β m) b _ hb)
  ⟨elem,Cq,.inr ⟨_,rfl,Tj⟩,nU⟩ (fun t ht=>by cases ht)
 unfold Oper.wp
 rw [cM,Oper.upon_skip,hd]
 exact hK _ _ _ (by simpa [Act.put] using hS)
end
section
variable {C:Ctx} {sg:Nat→c7}
theorem OK {d' s b:Nat} {z:AV}:cF C sg (.yY d' s b z):=by
 intro D σ γ a w dst op ty pos after guard rs ds gd ws gs K' Q h ho hk de hs hg hK
 simp only [cq,aa] at hk
 obtain ⟨⟨j7,eH⟩,gM⟩:=hk
 obtain ⟨d,rfl,hl,rfl⟩:=eF gM
 simp only [ee] at ho
 split at ho
 ·rename_i t l c r q r3
  simp only [aa] at ho
  obtain ⟨⟨ht,ho⟩,hz⟩:=ho
  obtain ⟨e,i,zv,q1,q2,q3,q4,q5,q6,q7⟩:=jM ht
  obtain ⟨r',q',te,hx,hy⟩:=iE ho
  simp only [aj,and_true] at te
  obtain ⟨rfl,rfl⟩:=te
  simp only [List.drop_succ_cons,aT,ah,aq,beq_iff_eq,aj,and_true] at eH
  have hq:=pX eH
  subst hq
  have he:jD C.P t=some e:=by unfold jD;rw [q1];rfl
  rw [he] at hz
  simp only [Option.any_some,aa] at hz
  obtain ⟨i',Vz,z1,z2,z3⟩:=lV hz.1
  rw [q2] at z1
  cases z1
  rw [q5] at z2
  cases z2
  simp only [ah,aq,eo] at hs
  split at hs
  ·rename_i ll cc v1 heq
   simp only [aj,and_true] at heq
   obtain ⟨p1,p2,p3,p4,p5,p6,rfl⟩:=hs
   simp only [ah,aq,dw] at hg
   split at hg
   ·rename_i g1 g2 dr
    simp only [aj,and_true,cR.gh] at dr
    cases hg
    exact Lm h rfl hl rfl q1 q2 q3 q5 q6 q7 z3 hx hy (bI de (by simp [Op.operands])) (bI de (by simp [Op.operands])) heq.1 heq.2.1 p2 p3 p4 (by rw [q4];exact p5) p6 dr.2.2 hK
   ·cases hg
  ·cases hs
 ·cases ho
theorem OQ {s n k:Nat}:cF C sg (.DJ s n k):=by
 intro D σ γ a w dst op ty pos after guard rs ds gd ws gs K' Q h ho hk de hs hg hK
 simp only [cq,aa] at hk
 obtain ⟨⟨j7,eH⟩,gM⟩:=hk
 obtain ⟨d,rfl,hl,rfl⟩:=eF gM
 simp only [ee] at ho
 split at ho
 ·rename_i t len parts
  simp only [aa,beq_iff_eq,az] at ho
  obtain ⟨⟨⟨⟨⟨h1,rfl⟩,h3⟩,h4⟩,h5⟩,h6⟩:=ho
  simp only [eo] at hs
  obtain ⟨p1,p2,rfl⟩:=hs
  simp only [dw] at hg
  split at hg
  ·rename_i jW
   cases hg
   rw [←List.map_drop] at jW
   have Gb:(rs.drop len).length=1:=by simp;omega
   obtain ⟨q,hq⟩:=km Gb
   rw [hq] at jW eH
   simp only [ah,aq,aj,and_true] at jW
   simp only [ah,aq,beq_iff_eq,aj,and_true] at eH
   have As:=pX eH
   subst As
   rw [←List.map_take] at p2
   simp only [←List.map_take] at hK
   exact Lq h rfl hl rfl h1 h3 h4 h5 (gn de (by simp [Op.operands])) p2 jW hK
  ·cases hg
 ·cases ho
theorem Ow {k k' s:Nat}:cF C sg (.H8 k k' s):=by
 intro D σ γ a w dst op ty pos after guard rs ds gd ws gs K' Q h ho hk de hs hg hK
 simp only [cq,aa] at hk
 obtain ⟨⟨h9,j7,eH⟩,gM⟩:=hk
 simp only [az] at h9
 obtain ⟨d,rfl,hl,rfl⟩:=eF gM
 simp only [ee] at ho
 split at ho
 ·rename_i t x u r q r3 r4
  simp only [aa] at ho
  obtain ⟨ht,ho⟩:=ho
  obtain ⟨e,i,q1,q2,q3,q4⟩:=kA ht
  obtain ⟨r',q',te,hx,hy⟩:=iE ho
  simp only [aj,and_true] at te
  obtain ⟨rfl,rfl⟩:=te
  simp only [beq_iff_eq,ah,aq] at eH
  have td:=um (rs:=[r,q,r3,r4]) (n:=2) eH
  simp only [List.drop_succ_cons,aT,aj,and_true] at td
  obtain ⟨rfl,rfl⟩:=td
  simp only [ah,aq,eo] at hs
  split at hs
  ·rename_i ik iv s' es z heq
   simp only [aj,and_true,cR.ev] at heq
   obtain ⟨rfl,p1,p2,rfl⟩:=hs
   simp only [ah,aq,dw] at hg
   split at hg
   ·rename_i a1 a2 a3 a4 dr
    simp only [aj,and_true,cR.gh] at dr
    split at hg
    ·rename_i hc
     obtain ⟨rfl,rfl,rfl,fO⟩:=hc
     cases hg
     exact Lb h rfl hl rfl q1 q2 q3 h9 hx (bI de (by simp [Op.operands])) hy (bI de (by simp [Op.operands])) heq.1 dr.1 dr.2.2.1 heq.2.2.1 dr.2.2.2 fO heq.2.1 p1 p2 hK
    ·cases hg
   ·cases hg
  ·cases hs
 ·cases ho
theorem Ox {k d' s b:Nat}:cF C sg (.B0 k d' s b):=by
 intro D σ γ a w dst op ty pos after guard rs ds gd ws gs K' Q h ho hk de hs hg hK
 simp only [cq,aa,beq_iff_eq,ah,aq] at hk
 obtain ⟨⟨h9,j7,eH⟩,gM⟩:=hk
 simp only [az] at h9
 obtain ⟨d,rfl,hl,rfl⟩:=eF gM
 simp only [ee] at ho
 split at ho
 ·rename_i args pn r q r3 r4
  simp only [aa,beq_iff_eq] at ho
  obtain ⟨⟨ho,h1⟩,h2⟩:=ho
  obtain ⟨t,u,e,i,z,du,rfl,q1,q2,q3,q4,q5,q6,q7,q8⟩:=pL h1 h2
  have ht:=um eH
  simp only [List.drop_succ_cons,aT,aj,and_true] at ht
  obtain ⟨rfl,rfl⟩:=ht
  obtain ⟨x,y,kX⟩:=uW (l:=args.toList) (by rw [fv ho];rfl)
  rw [kX] at ho
  obtain ⟨r',q',te,hx,hy⟩:=iE ho
  simp only [aj,and_true] at te
  obtain ⟨rfl,rfl⟩:=te
  have ea:=rA kX
  subst ea
  simp only [ah,aq,eo] at hs
  split at hs
  ·rename_i mc fs s' es v2 heq
   simp only [aj,and_true,cR.ev] at heq
   obtain ⟨e1,e2,e3,_⟩:=heq
   obtain ⟨rfl,rfl,p1,p2,p3,rfl⟩:=hs
   simp only [ah,aq,dw] at hg
   split at hg
   ·rename_i k1 s1 g s2 dr
    simp only [aj,and_true,cR.gh] at dr
    obtain ⟨g1,g2,g3,g4⟩:=dr
    split at hg
    ·rename_i hc
     obtain ⟨rfl,rfl,rfl,fO⟩:=hc
     cases hg
     have e2:q.ev C.E σ=_:=e2
     have ir:=(h.gE hy (bI de (by simp [Op.operands,Call.operands]))).rep (by rw [e2];simp)
     rw [e2] at ir
     obtain ⟨news,n1,n2,n3⟩:=Source.yS (P:=C.P) ir
     exact Lc (q:=q) h rfl hl h9 rfl q1 q2 q5 q6 q7 q8 q3 hx (bI de (by simp [Op.operands,Call.operands])) e1 g1 g3 e3 g4 fO n1 n2 p1 p2 (by rw [q4];exact p3) hK
    ·cases hg
   ·cases hg
  ·cases hs
 ·cases ho
theorem RD {m s:Nat}:cF C sg (.ls m s):=by
 intro D σ γ a w dst op ty pos after guard rs ds gd ws gs K' Q h ho hk de hs hg hK
 simp only [cq,aa,az,beq_iff_eq,Option.isNone_iff_eq_none] at hk
 obtain ⟨⟨⟨⟨vq,xv⟩,rfl⟩,rfl⟩,eH⟩:=hk
 simp only [ee] at ho
 split at ho
 ·rename_i t x v p q r
  simp only [aa,beq_iff_eq] at ho
  obtain ⟨⟨ht,hx⟩,hv⟩:=ho
  obtain ⟨inf,h1,h2⟩:=fZ ht
  cases q with
  | s j =>
   simp at eH
   subst eH
   simp only [ah,aq,eo] at hs
   split at hs
   ·rename_i i' s' o' cs y heq
    simp only [aj,and_true,cR.ev] at heq
    obtain ⟨e1,e2,rfl⟩:=heq
    obtain ⟨rfl,p1,p2,p3,rfl⟩:=hs
    simp only [ah,aq,dw] at hg
    split at hg
    ·rename_i m' ts z dr
     simp only [aj,and_true,cR.gh] at dr
     obtain ⟨f1,f2,f3⟩:=dr
     split at hg
     ·rename_i hc
      obtain ⟨rfl,rfl⟩:=hc
      cases hg
      exact NJ h rfl rfl h1 h2 hx (bI de (by simp [Op.operands])) hv (bI de (by simp [Op.operands])) e1 f1 f2 e2 p1 p2 p3 hK
     ·cases hg
    ·cases hg
   ·cases hs
  | c=>simp at eH
  | g=>simp at eH
 ·cases ho
theorem IC (hE:∀f,dK C.P C.E.gl f (C.E.fs f)∧(C.E.fs f).sg=sg f) {f n k:Nat}:cF C sg (.nP f n k):=by
 intro D σ γ a w dst op ty pos after guard rs ds gd ws gs K' Q h ho hk de hs hg hK
 simp only [cq,aa] at hk
 obtain ⟨⟨j7,eH⟩,gM⟩:=hk
 obtain ⟨d,rfl,hl,rfl⟩:=eF gM
 simp only [ee] at ho
 split at ho
 ·rename_i g args pn
  simp only [aa,beq_iff_eq,az] at ho
  obtain ⟨⟨⟨⟨rfl,ye⟩,je⟩,hx⟩,lq⟩:=ho
  rw [←(hE f).2] at je
  have nS:small C.nt args.toList=true:=gn de (fun x hx=>by
   have:x∈args:=by simpa using hx
   simp only [Op.operands,Call.operands,Array.toList_append,List.mem_append]
   exact .inr hx)
  simp only [eo] at hs
  obtain ⟨es,hG,hv,rfl⟩:=hs
  simp only [dw] at hg
  split at hg
  ·rename_i jW
   cases hg
   rw [←List.map_drop] at jW
   have td:(rs.take n).length=n:=by rw [←fv hx];simpa using lq
   have Gb:(rs.drop n).length=1:=by have:=congrArg List.length jW;simpa using this
   obtain ⟨q,hq⟩:=km Gb
   rw [hq] at jW eH
   simp only [ah,aq,aj,and_true] at jW
   simp only [ah,aq,beq_iff_eq,aj,and_true] at eH
   have As:=pX eH
   subst As
   rw [←List.map_take] at hG
   exact E5 h rfl hl rfl ye (hE f).1 je hx nS hG hv jW hK
  ·cases hg
 ·cases ho
theorem IB (hE:∀f,dK C.P C.E.gl f (C.E.fs f)∧(C.E.fs f).sg=sg f) {f n bQ i k s:Nat}:cF C sg (.oY f n bQ i k s):=by
 intro D σ γ a w dst op ty pos after guard rs ds gd ws gs K' Q h ho hk de hs hg hK
 simp only [cq,aa] at hk
 obtain ⟨⟨h9,j7,eH⟩,gM⟩:=hk
 simp only [az] at h9
 obtain ⟨d,rfl,hl,rfl⟩:=eF gM
 simp only [ee] at ho
 split at ho
 ·rename_i g args pn
  simp only [aa,beq_iff_eq,az] at ho
  obtain ⟨⟨⟨⟨⟨rfl,ye⟩,je,hn,gX,gW⟩,hx⟩,lq⟩,tx⟩:=ho
  obtain ⟨tx,Dl⟩:=tx
  rw [←(hE f).2] at je hn gX gW
  have td:(rs.take n).length=n:=by rw [←fv hx];simpa using lq
  have nS:small C.nt args.toList=true:=gn de (fun x hx=>by
   have:x∈args:=by simpa using hx
   simp only [Op.operands,Call.operands,Array.toList_append,List.mem_append]
   exact .inr hx)
  have jh:rs.drop n=[.s (lk k)]:=by
   simp only [aQ,aZ,beq_iff_eq] at j7
   obtain ⟨q,hq⟩:=km (l:=rs.drop n) (by rw [bj];omega)
   rw [hq] at eH ⊢
   cases q <;> simp at eH
   rw [eH]
  have pH:rs=rs.take n++[.s (lk k)]:=by rw [←jh,List.take_append_drop]
  simp only [eo] at hs
  obtain ⟨es,outs,v1,v2,hG,rD,rfl⟩:=hs
  simp only [dw] at hg
  rw [aC] at hg
  obtain ⟨⟨g1,g2⟩,hg⟩:=hg
  cases hg
  have qX:∀{X:Type} (F:cR→X),(rs.map F)[n]?=some (F (.s (lk k))):=fun F=>by
   have h1:rs[n]?=some (.s (lk k)):=by rw [pH,aK (by omega),td];simp
   rw [aI,h1];rfl
  rw [qX] at v1
  rw [←List.map_drop,jh] at g2
  simp only [cR.ev,cR.gh,aB,ah,aq,aj,and_true] at v1 g2
  have hi:∀{X:Type} (F:cR→X),((rs.take n).map F)[i]?=(rs.map F)[i]?:=fun F=>by
   rw [List.map_take,aO,aG tx]
  rw [←hi] at v2 g1
  rw [←List.map_take] at hG
  exact E4 h rfl hl Dl rfl ye h9 (hE f).1 je hn gX gW hx nS v2 g1 g2 v1 hG rD hK
 ·cases ho
theorem OG {k s:Nat}:cF C sg (.C1 k s):=by
 intro D σ γ a w dst op ty pos after guard rs ds gd ws gs K' Q h ho hk de hs hg hK
 simp only [cq,aa] at hk
 obtain ⟨eH,gM⟩:=hk
 obtain ⟨d,rfl,hl,rfl⟩:=eF gM
 simp only [ee] at ho
 split at ho
 ·rename_i r
  simp at eH
  cases r <;> simp at eH
  subst eH
  simp only [ah,aq,eo] at hs
  subst hs
  simp only [ah,aq,cR.gh] at hg
  simp only [dw] at hg
  split at hg
  ·rename_i e;cases hg;simp at e;exact E0 h rfl hl (.inl rfl) e hK
  ·cases hg
 ·rename_i r
  simp at eH
  cases r <;> simp at eH
  subst eH
  simp only [ah,aq,eo] at hs
  subst hs
  simp only [ah,aq,cR.gh] at hg
  simp only [dw] at hg
  split at hg
  ·rename_i e;cases hg;simp at e;exact E0 h rfl hl (.inr rfl) e hK
  ·cases hg
 ·cases ho
theorem Iz (hE:∀f,dK C.P C.E.gl f (C.E.fs f)∧(C.E.fs f).sg=sg f) {f n i k s:Nat}:cF C sg (.nN f n i k s):=by
 intro D σ γ a w dst op ty pos after guard rs ds gd ws gs K' Q h ho hk de hs hg hK
 simp only [cq,aa] at hk
 obtain ⟨⟨h9,j7,eH⟩,gM⟩:=hk
 simp only [az] at h9
 obtain ⟨d,rfl,hl,rfl⟩:=eF gM
 simp only [ee] at ho
 split at ho
 ·rename_i g args pn
  simp only [aa,beq_iff_eq,az] at ho
  obtain ⟨⟨⟨⟨⟨rfl,ye⟩,je⟩,hx⟩,lq⟩,tx⟩:=ho
  rw [←(hE f).2] at je
  have td:(rs.take n).length=n:=by rw [←fv hx];simpa using lq
  have nS:small C.nt args.toList=true:=gn de (fun x hx=>by
   have:x∈args:=by simpa using hx
   simp only [Op.operands,Call.operands,Array.toList_append,List.mem_append]
   exact .inr hx)
  have jh:rs.drop n=[.s (lk k)]:=by
   simp only [aQ,aZ,beq_iff_eq] at j7
   obtain ⟨q,hq⟩:=km (l:=rs.drop n) (by rw [bj];omega)
   rw [hq] at eH ⊢
   cases q <;> simp at eH
   rw [eH]
  have pH:rs=rs.take n++[.s (lk k)]:=by rw [←jh,List.take_append_drop]
  simp only [eo] at hs
  obtain ⟨es,fs,v1,fO,v2,hG,rfl⟩:=hs
  simp only [dw] at hg
  rw [aC] at hg
  obtain ⟨⟨g1,g2⟩,hg⟩:=hg
  cases hg
  have qX:∀{X:Type} (F:cR→X),(rs.map F)[n]?=some (F (.s (lk k))):=fun F=>by
   have h1:rs[n]?=some (.s (lk k)):=by rw [pH,aK (by omega),td];simp
   rw [aI,h1];rfl
  rw [qX] at v1
  rw [←List.map_drop,jh] at g2
  simp only [cR.ev,cR.gh,aB,ah,aq,aj,and_true] at v1 g2
  have hi:∀{X:Type} (F:cR→X),((rs.take n).map F)[i]?=(rs.map F)[i]?:=fun F=>by
   rw [List.map_take,aO,aG tx]
  rw [←hi] at v2 g1
  rw [←List.map_take] at hG
  exact E2 h rfl hl rfl ye (hE f).1 je hx nS v2 g1 g2 v1 fO hG hK
 ·cases ho
theorem IA (hE:∀f,dK C.P C.E.gl f (C.E.fs f)∧(C.E.fs f).sg=sg f) {f n i k k':Nat}:cF C sg (.mg f n i k k'):=by
 intro D σ γ a w dst op ty pos after guard rs ds gd ws gs K' Q h ho hk de hs hg hK
 simp only [cq,aa] at hk
 obtain ⟨⟨h9,j7,eH⟩,gM⟩:=hk
 simp only [az] at h9
 obtain ⟨d,rfl,hl,rfl⟩:=eF gM
 simp only [ee] at ho
 split at ho
 ·rename_i g args pn
  simp only [aa,beq_iff_eq,az] at ho
  obtain ⟨⟨⟨⟨⟨rfl,ye⟩,je⟩,hx⟩,lq⟩,tx⟩:=ho
  obtain ⟨tx,Dl⟩:=tx
  rw [←(hE f).2] at je
  have td:(rs.take n).length=n:=by rw [←fv hx];simpa using lq
  have nS:small C.nt args.toList=true:=gn de (fun x hx=>by
   have:x∈args:=by simpa using hx
   simp only [Op.operands,Call.operands,Array.toList_append,List.mem_append]
   exact .inr hx)
  have jh:rs.drop n=[.s (lk k),.s (lk k')]:=by
   simp only [aQ,aZ,beq_iff_eq] at j7
   have HF:(rs.drop n).length=2:=by rw [bj];omega
   match hq:rs.drop n,HF with
   | [q,q'],_ =>
    rw [hq] at eH
    cases q <;> cases q' <;> simp at eH
    rw [eH.1,eH.2]
  have pH:rs=rs.take n++[.s (lk k),.s (lk k')]:=by rw [←jh,List.take_append_drop]
  simp only [eo] at hs
  obtain ⟨es,fs,v1,v2,hG,hv,rfl⟩:=hs
  simp only [dw] at hg
  rw [aC] at hg
  obtain ⟨⟨g1,g2,fO⟩,hg⟩:=hg
  cases hg
  have qX:∀{X:Type} (F:cR→X),(rs.map F)[n]?=some (F (.s (lk k))):=fun F=>by
   have h1:rs[n]?=some (.s (lk k)):=by rw [pH,aK (by omega),td];simp
   rw [aI,h1];rfl
  rw [qX] at v1
  rw [←List.map_drop,jh] at g2
  simp only [cR.ev,cR.gh,aB,ah,aq,aj,and_true] at v1 g2
  have hi:∀{X:Type} (F:cR→X),((rs.take n).map F)[i]?=(rs.map F)[i]?:=fun F=>by
   rw [List.map_take,aO,aG tx]
  rw [←hi] at v2 g1
  rw [←List.map_take] at hG
  exact E3 h rfl hl Dl rfl ye h9 (hE f).1 je hx nS v2 g1 g2.1 v1 g2.2 fO hG hv hK
 ·cases ho
theorem ID (hE:∀f,dK C.P C.E.gl f (C.E.fs f)∧(C.E.fs f).sg=sg f) {f n bQ:Nat}:cF C sg (.rq f n bQ):=by
 intro D σ γ a w dst op ty pos after guard rs ds gd ws gs K' Q h ho hk de hs hg hK
 obtain ⟨d,rfl,hl,rfl⟩:=eF (l:=[]) hk
 simp only [dw,aB] at hg
 subst hg
 simp only [ee] at ho
 split at ho
 ·rename_i c args pn r rs
  simp only [aa,beq_iff_eq,az] at ho
  obtain ⟨⟨⟨⟨ye,je,hn⟩,hc⟩,hx⟩,lq⟩:=ho
  rw [←(hE f).2] at je hn
  have nS:small C.nt args.toList=true:=gn de (fun x hx=>by
   have:x∈args:=by simpa using hx
   simp only [Op.operands,Call.operands,Array.toList_append,List.mem_append]
   exact .inr hx)
  simp only [eo,ah] at hs
  obtain ⟨Jn,outs,e0,hG,rD,rfl⟩:=hs
  simp only [aj] at e0
  obtain ⟨e1,rfl⟩:=e0
  exact E6 h rfl hl rfl ye hc (bI de (by simp [Op.operands,Call.operands])) e1 (hE f).1 je hn hx nS hG rD hK
 ·cases ho
end
end Go.Eng
namespace Go.Eng
open Go.RowKit
section
variable {k k':Nat}
theorem wR {j:Nat} (h:j<1000000):oe k k' j=j:=by
 have h1:=fN k
 have h2:=fN k'
 unfold oe
 rw [aE (by omega),aE (by omega)]
theorem KL {j:Nat} (h:1000000≤oe k k' j):1000000≤j:=by
 by_cases e:j<1000000
 ·rw [wR e] at h;exact h
 ·omega
theorem HP {j:Nat} (h:1000000≤j):1000000≤oe k k' j:=by
 unfold oe
 have h1:=fN k
 have h2:=fN k'
 split
 ·exact h2
 ·split
  ·exact h1
  ·exact h
theorem kz (j:Nat):oe k k' (oe k k' j)=j:=by
 unfold oe
 by_cases h1:j=lk k
 ·rw [aG h1]
  by_cases h2:lk k'=lk k
  ·rw [aG h2,h1];exact h2
  ·rw [aE h2,aG rfl,h1]
 ·rw [aE h1]
  by_cases h2:j=lk k'
  ·rw [aG h2,aG rfl,h2]
  ·rw [aE h2,aE h1,aE h2]
theorem HO {i j:Nat} (h:oe k k' i=oe k k' j):i=j:=by
 rw [←kz (k:=k) (k':=k') i,h,kz]
theorem wS (j:Nat):oe k k' (lk j)=lk (DQ k k' j):=by
 unfold oe DQ
 by_cases h1:j=k
 ·rw [aG h1,aG (by rw [h1])]
 ·rw [aE h1,aE (fun e=>h1 (fT e))]
  by_cases h2:j=k'
  ·rw [aG h2,aG (by rw [h2])]
  ·rw [aE h2,aE (fun e=>h2 (fT e))]
theorem HN (j:Nat):DQ k k' (DQ k k' j)=j:=by
 have h:oe k k' (oe k k' (lk j))=lk j:=kz _
 rw [wS,wS] at h
 exact fT h
theorem lX (j:Nat):oe k k' (lk (DQ k k' j))=lk j:=by rw [wS,HN]
theorem rQ (g:Gh):(jL k k' g).ff=g.ff:=by cases g <;> rfl
theorem mQ (g:Gh):(jL k k' g).eD=g.eD:=by cases g <;> rfl
theorem Eg (g:Gh):(jL k k' g).tq=g.tq:=by cases g <;> rfl
theorem Ef (g:Gh):(jL k k' g).CU=g.CU:=by cases g <;> rfl
theorem yv (g:Gh):(jL k k' g).par=g.par.map (oe k k'):=by cases g <;> rfl
theorem CJ {g:Gh} {s:Nat} (h:jL k k' g = .live s):g = .live s:=by cases g <;> simp [jL] at h ⊢;exact h
theorem HQ {g:Gh} {s:Nat} (h:jL k k' g = .pc s):g = .pc s:=by cases g <;> simp [jL] at h ⊢;exact h
theorem Eh (G:GL):(HR k k' G).get=fun j=>jL k k' (G.get (oe k k' j)):=by
 funext j
 induction G with
 | nil=>rfl
 | cons p r ih =>
  obtain ⟨i,g⟩:=p
  simp only [HR,ah,GL.get] at ih ⊢
  by_cases h:j=oe k k' i
  ·rw [aG h,aG (by rw [h,kz])]
  ·rw [aE h,aE (fun e=>h (by rw [←e,kz]))]
   exact ih
variable {C:Ctx} {D:kf} {σ:Sg} {γ:Ga} {a:Act} {w:World}
theorem cN.swap (h:cN C D σ γ a w) (n1:k≠999999) (n2:k'≠999999):cN C { D with τ:=AF k k' D.τ } (AF k k' σ) (fun j=>jL k k' (γ (oe k k' j))) a w:=by
 have jf:∀m,(jL k k' (γ (oe k k' m))).ff=true→(γ m).ff=true∧oe k k' m=m:=fun m hm=>by
  rw [rQ] at hm
  have:=(h.om _ hm).2
  have SM:m<1000000:=by
   by_cases e:m<1000000
   ·exact e
   ·have:=HP (k:=k) (k':=k') (j:=m) (by omega);omega
  have e:=wR (k:=k) (k':=k') SM
  exact ⟨by rwa [e] at hm,e⟩
 have Mf:∀m,(γ m).ff=true→(jL k k' (γ (oe k k' m))).ff=true:=fun m hm=>by
  rw [wR (h.om m hm).2,rQ];exact hm
 have qZ:∀key,eM { D with τ:=AF k k' D.τ } (fun j=>jL k k' (γ (oe k k' j))) key=eM D γ (oe k k' key):=fun key=>by
  unfold eM
  have hc:=jf key
  simp only
  cases hg:γ (oe k k' key) with
  | cl ts =>
   have:=(hc (by rw [rQ,hg];rfl)).2
   simp only [jL,this]
  | _=>rfl
 have Xi:∀(g:Gh) (x:Value),iB D g x→iB { D with τ:=AF k k' D.τ } (jL k k' g) x:=fun g x hx=>by
  cases g with
  | cD j s=>simp only [jL,iB,AF,lX] at hx ⊢;exact hx
  | pe j=>simp only [jL,iB,AF,lX] at hx ⊢;exact hx
  | yb ts p =>
   simp only [jL,iB] at hx ⊢
   obtain ⟨ys,h1,h2,h3⟩:=hx
   refine ⟨ys,h1,fun t ht=>?_,h3⟩
   obtain ⟨u,hu,rfl⟩:=aP.1 ht
   simp only [AF,lX]
   exact h2 u hu
  | _=>exact hx
 have hM:∀g,eV γ g→eV (fun j=>jL k k' (γ (oe k k' j))) (jL k k' g):=fun g hg=>by
  cases g with
  | ptr m o=>exact Mf m hg
  | pm m=>exact Mf m hg
  | cD j s =>
   show (jL k k' (γ (oe k k' (lk (DQ k k' j))))).eD=true
   rw [lX,mQ];exact hg
  | pe j =>
   show (jL k k' (γ (oe k k' (lk (DQ k k' j))))).eD=true
   rw [lX,mQ];exact hg
  | cl ts =>
   intro t ht
   obtain ⟨u,hu,rfl⟩:=aP.1 ht
   simp only [lX,mQ]
   exact hg u hu
  | yb ts p =>
   refine ⟨fun t ht=>?_,fun q hq=>Mf _ (hg.2 q hq)⟩
   obtain ⟨u,hu,rfl⟩:=aP.1 ht
   simp only [lX,mQ]
   exact hg.1 u hu
  | ni d s =>
   simp only [jL,eV,kz] at hg ⊢
   rcases hg with e | ⟨s',e⟩
   ·rw [e];exact .inl rfl
   ·rw [e];exact .inr ⟨s',rfl⟩
  | _=>trivial
 refine ⟨h.size,h.defers,h.iG,fun m hm=>?_,fun m hm=>?_,fun t ht=>?_,fun m ts hm=>?_,fun key s hk=>?_,fun key s hk=>?_,fun p q g hp hq=>?_,fun p g hp=>?_,fun key=>hM _ (h.inv _),h.ext,h.j0,h.gl,?_⟩
 ·exact h.om m (jf m hm).1
 ·rw [mQ] at hm;exact KL (h.kU _ hm)
 ·have e:oe k k' t=t:=wR (by have:=h.iG;omega)
  simp only [AF,e]
  exact (h.slot t ht).imp id fun ⟨r,g⟩=>⟨r,fun hs=>Xi _ _ (g hs)⟩
 ·obtain ⟨_,e⟩:=jf m (by rw [hm];rfl)
  simp only [e] at hm
  cases hg:γ m with
  | cl us =>
   rw [hg] at hm
   simp only [jL,Gh.cl.injEq] at hm
   subst hm
   obtain ⟨cs,hv,nR⟩:=h.mem m us hg
   refine ⟨cs,by simp only [AF,e];exact hv,fun t ht=>?_⟩
   obtain ⟨u,hu,rfl⟩:=aP.1 ht
   simp only [AF,lX]
   exact nR u hu
  | _=>rw [hg] at hm;simp [jL] at hm
 ·exact h.cD _ s (CJ hk)
 ·rw [Ef] at hk
  obtain ⟨h1,h2,h3⟩:=h.ps _ s hk
  refine ⟨h1,h2,fun d s1 s2 e1 e2=>?_⟩
  simp only at e1
  cases hg:γ (oe k k' key) with
  | ni d' s' =>
   rw [hg] at e1
   simp only [jL,Gh.ni.injEq] at e1
   obtain ⟨rfl,rfl⟩:=e1
   have e2:=HQ e2
   rw [kz] at e2
   simp only [AF,kz]
   exact h3 d' s' s2 hg e2
  | _=>rw [hg] at e1;simp [jL] at e1
 ·rw [qZ] at hp hq
  rcases h.sep _ _ g hp hq with e | e | e
  ·exact .inl (HO e)
  ·refine .inr (.inl ?_);rw [yv,e,Option.map_some,kz]
  ·refine .inr (.inr ?_);rw [yv,e,Option.map_some,kz]
 ·rw [qZ] at hp;exact h.own _ g hp
 ·have e9:oe k k' (lk 999999)=lk 999999:=by
   rw [wS];unfold DQ;rw [aE (fun e=>n1 e.symm),aE (fun e=>n2 e.symm)]
  refine ⟨h.fix.1,fun v hv=>?_⟩
  obtain ⟨h1,h2⟩:=h.fix.2 v hv
  exact ⟨by simp only [e9,Eg];exact h1,by simp only [AF,e9];exact h2⟩
end
end Go.Eng
namespace Go.Eng
open Go.RowKit
section
variable {C:Ctx} {sg:Nat→c7}
theorem tP {α β:Type} {f g:α→β}:∀{l:List α},l.map f=l.map g→∀x∈l,f x=g x
 | [],_,_,hx=>by cases hx
 | a :: l,h,x,hx=>by
  simp only [ah,aj] at h
  rcases bm.1 hx with rfl | hx
  ·exact h.1
  ·exact tP h.2 x hx
theorem LL (hE:∀f,dK C.P C.E.gl f (C.E.fs f)∧(C.E.fs f).sg=sg f) {f:Nat} {c:CS}:cF C sg (.call f c):=by
 intro D σ γ a w dst op ty pos after guard rs ds gd ws gs K' Q h ho hk de hs hg hK
 simp only [cq,aa,beq_iff_eq,az] at hk
 obtain ⟨⟨⟨Wx,j7,eH⟩,gM⟩,hnd⟩:=hk
 obtain ⟨d,rfl,hl,rfl⟩:=eF gM
 simp only [ee] at ho
 split at ho
 ·rename_i g args pn
  simp only [aa,beq_iff_eq] at ho
  obtain ⟨⟨⟨⟨rfl,ye⟩,nV⟩,hx⟩,lq⟩:=ho
  rw [←(hE f).2] at nV
  obtain ⟨f1,f2,f3,f4,f5,f6,f7,f8,f9,f10,f11,f12,f13⟩:=sx nV
  have jh:rs.drop c.n=(c.jt++c.mC).map cR.s:=lE eH
  have pH:rs=rs.take c.n++(c.jt++c.mC).map cR.s:=by rw [←jh,List.take_append_drop]
  have td:(rs.take c.n).length=c.n:=by rw [←fv hx];simpa using lq
  have nS:small C.nt args.toList=true:=gn de (fun x hx=>by
   have:x∈args:=by simpa using hx
   simp only [Op.operands,Call.operands,Array.toList_append,List.mem_append]
   exact .inr hx)
  simp only [eo] at hs
  obtain ⟨J0,outs,hG,rD,rfl⟩:=hs
  have oO:∀m∈c.jt,C.nt≤m∧m<1000000:=fun m hm=>by
   have:=aL.1 Wx m hm
   simpa using this
  -- the Tp
  simp only [dw] at hg
  rw [aC] at hg
  obtain ⟨hc,hg⟩:=hg
  ·cases hg
   obtain ⟨c1,c2,c3⟩:=hc
   rw [←List.map_drop,jh,aW] at c1 c2 c3
   have Dm:(cR.gh γ ∘ cR.s)=γ:=rfl
   rw [Dm] at c1 c2 c3
   cases gW:c.ref with
   | none =>
    have zj:=f9 gW
    have hm:c.jt=(c.new.map (·.2)).toList:=by simp [CS.jt,gW]
    rw [hm] at c1 c2 c3
    simp only [gW,Option.map_none,Option.toList_none,aZ,List.take_zero,Nat.add_zero,List.map_append] at c1 c2 c3
    have e1:((List.map γ (c.new.map (·.2)).toList++List.map γ c.mC).take (c.new.map (·.2)).toList.length)=List.map γ (c.new.map (·.2)).toList:=List.take_left' (by simp)
    rw [e1] at c1 c3
    have e2:((List.map γ (c.new.map (·.2)).toList++List.map γ c.mC).drop (List.map γ (c.new.map (·.2)).toList).length)=List.map γ c.mC:=List.drop_left' rfl
    rw [e2,zj] at c3
    simp only [CS.mC,zj,bg,aq,aW,List.map_append] at c3
    have L6:∀t∈c.gI++c.own++c.fL,γ (lk t.2.1) = .no:=tP (by simpa [Function.comp_def] using c3)
    have Ma:c.ins (rs.map (cR.ev C.E σ))=(rs.take c.n).map (cR.ev C.E σ):=by simp [CS.ins,gW,List.map_take]
    rw [Ma] at hG
    exact E8 h rfl hl rfl ye (hE f).1 nV gW hx nS hG rD (fun q hq=>by
      have Ws:q.2∈c.jt:=by rw [hm,hq];simp
      refine ⟨?_,oO _ Ws⟩
      simp only [hq,Option.map_some,Option.toList_some,ah,aq,List.all_cons,List.all_nil,Bool.and_true,az] at c1
      exact c1) (fun t ht=>L6 t (by
       rcases List.mem_append.1 ht with ht | ht
       ·simp [ht]
       ·simp [ht])) hK
   | some im =>
    obtain ⟨i,m⟩:=im
    have gX:c.new=none:=by
     rcases f11 with e | e
     ·rw [gW] at e;cases e
     ·exact e
    have tc:=f10 gX
    have hm:c.jt=[m]:=by simp [CS.jt,gW,gX]
    rw [hm] at c1 c2 c3
    simp only [gW,gX,tc,Option.map_none,Option.map_some,Option.toList_none,Option.toList_some,aZ,List.take_zero,aQ,Nat.zero_add,aT,List.map_append,ah,aq,List.cons_append,bg,List.take_succ_cons,List.drop_succ_cons,aR] at c2 c3
    split at c2
    ·rename_i i' m' ts e1 e2
     cases e1
     simp only [aj,and_true] at e2
     simp only [az] at c2
     obtain ⟨d1,d2,d3⟩:=c2
     simp only [CS.mC,tc,aR,List.map_append,aW,aN] at c3
     rw [←List.map_append,←List.map_append (f:=fun _=>Gh.no)] at c3
     obtain ⟨p1,p2⟩:=List.append_inj c3 (by simp)
     have kY:∀t∈c.ky,γ (lk t.2.1) = .live t.2.2:=tP (by simpa [Function.comp_def] using p1)
     have jW:∀t∈c.gI++c.own,γ (lk t.2.1) = .no:=tP (by simpa [Function.comp_def] using p2)
     rw [gW] at J0
     simp only at J0
     have tT:((rs.take c.n).map (cR.ev C.E σ))[i]?=some .pt:=by
      rw [List.map_take,aO,aG d2];exact J0
     have WQ:((rs.take c.n).map (cR.gh γ))[i]?=some (.ptr m 0):=by
      rw [List.map_take,aO,aG d2];exact d1
     have Ma:c.ins (rs.map (cR.ev C.E σ))=((rs.take c.n).map (cR.ev C.E σ)).set i (σ m):=by
      simp only [CS.ins,gW,gX,Option.map_none,Option.toList_none,aZ,Nat.add_zero,List.map_take]
      congr 1
      have:rs[c.n]?=some (.s m):=by
       rw [pH,aK (by omega),td,hm];simp
      simp [List.getD,this,cR.ev]
     rw [Ma] at hG
     exact E7 h rfl hl rfl ye (hE f).1 nV gW hx nS tT WQ e2 d3 kY hG rD jW hK
    ·rename_i e _;cases e
    ·cases c2
 ·cases ho
theorem Ci (hE:∀f,dK C.P C.E.gl f (C.E.fs f)∧(C.E.fs f).sg=sg f) (k:K):cF C sg k:=by
 cases k with
 | mv=>exact RA
 | pick=>exact LK
 | bin b=>exact OU
 | be n=>exact RZ
 | un b=>exact Rq
 | ci k=>exact RT
 | cs=>exact RR
 | sb=>exact Rv
 | Ju k=>exact Ot
 | bs=>exact RX
 | len=>exact OM
 | vn=>exact OL
 | mn=>exact RB
 | mx=>exact Rz
 | ix s=>exact RI
 | si=>exact Rt
 | ai n s a=>exact R7
 | fe o n a=>exact RM
 | sc s l h=>exact Ru
 | ss l h=>exact Rs
 | bl s n=>exact RY
 | blt s n k=>exact OS
 | bd z p=>exact R3
 | al m z t=>exact R6
 | bx m=>exact RW
 | ld m o n a=>exact k_ld
 | st m o n=>exact Rr
 | lr n a=>exact RE
 | fa m o d=>exact RO
 | fr o n a=>exact RL
 | nc m o=>exact Ry
 | Oe=>exact OI
 | ex i=>exact RP
 | ap k d s b=>exact R4
 | Ku k d b=>exact OW
 | an d s b=>exact R5
 | Kw d b=>exact OY
 | mk d s b z=>exact RC
 | nl d s=>exact Rx
 | C1 d s=>exact OG
 | H7 k=>exact Ov
 | yO k=>exact OA
 | lU k s=>exact OC
 | K2 k o=>exact OE
 | rY k s n a=>exact OB
 | sT k s n=>exact Ou
 | sU k s=>exact OD
 | pW f n r i k s=>exact Iy hE
 | qJ f n r i s=>exact Ix hE
 | Jy k d s b=>exact Oy
 | K1 k=>exact Oz
 | Kv k d q s b=>exact OX
 | la m n s=>exact RH
 | ll m s=>exact RF
 | Od=>exact OH
 | Ni=>exact On
 | pU f n r i m=>exact Iw hE
 | M1 b =>
  intro D σ γ a w dst op ty pos after guard rs ds gd ws gs K' Q h ho hk de hs
  exact hs.elim
 | DV m ts=>exact OP
 | DR m o n ts=>exact Oo
 | Kt k d s b=>exact OV
 | JG k s=>exact OJ
 | Js m o=>exact Oq
 | JH m o n c k s=>exact OO
 | rl=>exact Rw
 | im=>exact RJ
 | cx=>exact RQ
 | cf=>exact RU
 | fc=>exact RN
 | MW=>exact Om
 | yY k s b z=>exact OK
 | DJ s n k=>exact OQ
 | H8 k d s=>exact Ow
 | B0 k d s b=>exact Ox
 | ls m s=>exact RD
 | nP f n k=>exact IC hE
 | oY f n bQ i k s=>exact IB hE
 | mg f n i k d=>exact IA hE
 | nN f n i k s=>exact Iz hE
 | rq f n bQ=>exact ID hE
 | call f c=>exact LL hE
end
end Go.Eng
namespace Go.Eng
open Go.RowKit
section
variable {X:Type}
def agree (l:List Nat) (σ τ:Nat→X):Prop:=∀k∈l,σ k=τ k
def rC (R:(Nat→X)→List X→Prop) (ds:List Nat) (σ dC:Nat→X):Prop:=∃ws,R σ ws∧ws.length=ds.length∧dC=bP σ ds ws
def Local (rs:List Nat) (R:(Nat→X)→List X→Prop):Prop:=∀σ τ ws,agree rs σ τ→R σ ws→R τ ws
theorem rC.swap {R S:(Nat→X)→List X→Prop} {d e r s:List Nat} (lr:Local r R) (ls:Local s S) (h1:∀k∈d,k ∉ s) (h2:∀k∈d,k ∉ e) (h3:∀k∈e,k ∉ r) {σ Ap Hs:Nat→X}
  (a:rC R d σ Ap) (b:rC S e Ap Hs):∃Nh,rC S e σ Nh∧rC R d Nh Hs:=by
 obtain ⟨ws,hR,hl,rfl⟩:=a
 obtain ⟨vs,hS,hm,rfl⟩:=b
 exact ⟨bP σ e vs,⟨vs,ls _ _ _ (fun k hk=>iK fun hd=>h1 k hd hk) hS,hm,rfl⟩,ws,lr _ _ _ (fun k hk=>(iK fun he=>h3 k he hk).symm) hR,hl,rJ h2⟩
end
def RS (E:Env) (m:pQ) (σ:Sg) (ws:List AV):Prop :=
 match mE σ m.gd with
 | some true=>eo E m.k (m.rs.map (cR.ev E σ)) ws
 | some false=>ws=m.ds.map fun _ => .sk
 | none=>False
def RG (m:pQ) (γ:Ga) (gs:List Gh):Prop:=dw m.k (m.rs.map (cR.gh γ))=some gs
theorem mem_reads {m:pQ} {t:Nat} (h:cR.s t∈m.rs):t∈m.reads :=
 List.mem_append_left _ (List.mem_filterMap.2 ⟨_,h,rfl⟩)
theorem Al (E:Env) (m:pQ):Local m.reads (RS E m):=by
 intro σ τ ws h
 have h1:mE σ m.gd=mE τ m.gd:=by
  cases hg:m.gd with
  | none=>rfl
  | some q =>
   obtain ⟨t,b⟩:=q
   have:σ t=τ t:=h t (by simp [pQ.reads,hg])
   simp only [mE,this]
 have h2:m.rs.map (cR.ev E σ)=m.rs.map (cR.ev E τ):=List.map_congr_left fun r hr=>by
  cases r with
  | s t=>exact h t (mem_reads hr)
  | c x=>rfl
  | g n=>rfl
 unfold RS
 rw [h1,h2]
 exact id
theorem Am (m:pQ):Local m.reads (RG m):=by
 intro σ τ ws h
 have h2:m.rs.map (cR.gh σ)=m.rs.map (cR.gh τ):=List.map_congr_left fun r hr=>by
  cases r with
  | s t=>exact h t (mem_reads hr)
  | c x=>rfl
  | g n=>rfl
 unfold RG
 rw [h2]
 exact id
def CO (E:Env):List pQ→Sg→Ga→Sg→Ga→Prop
 | [],σ,γ,dC,nY=>dC=σ∧nY=γ
 | m :: ms,σ,γ,dC,nY=>∃Ap Jk,rC (RS E m) m.ds σ Ap∧rC (RG m) m.ds γ Jk∧CO E ms Ap Jk dC nY
theorem Bx {n m:pQ} (h:CA n m=false):(∀k∈n.ds,k ∉ m.reads)∧(∀k∈n.ds,k ∉ m.ds)∧(∀k∈m.ds,k ∉ n.reads):=by
 simp only [CA,Bool.or_eq_false_iff,List.any_eq_false,Bool.not_eq_true,List.contains_eq_mem,decide_eq_false_iff_not] at h
 exact ⟨fun k hk=>(h.1 k hk).1,fun k hk=>(h.1 k hk).2,fun k hk=>h.2 k hk⟩
theorem uy {E:Env} {m:pQ} {B:List pQ}:∀{A:List pQ} {σ dC:Sg} {γ nY:Ga},CO E (A++m :: B) σ γ dC nY→(∀n∈A,CA n m=false)→CO E (m :: (A++B)) σ γ dC nY
 | [],_,_,_,_,h,_=>h
 | n :: A,σ,dC,γ,nY,h,hc=>by
  obtain ⟨Ap,Jk,s,g,h⟩:=h
  obtain ⟨Hs,Vy,s2,g2,h⟩:=uy h fun x hx=>hc x (List.mem_cons_of_mem _ hx)
  obtain ⟨c1,c2,c3⟩:=Bx (hc n (List.mem_cons_self ..))
  obtain ⟨Vv,s3,s4⟩:=s.swap (Al E n) (Al E m) c1 c2 c3 s2
  obtain ⟨Vx,g3,g4⟩:=g.swap (Am n) (Am m) c1 c2 c3 g2
  exact ⟨Vv,Vx,s3,g3,Hs,Vy,s4,g4,h⟩
theorem GL.rb:∀{G:GL} {ts:List Nat} {xs:List Gh},(GL.bP G ts xs).get=Eng.bP G.get ts xs
 | G,t :: ts,x :: xs=>by
  funext k
  simp only [GL.bP,GL.get,Eng.bP,cI,GL.rb (G:=G) (ts:=ts) (xs:=xs)]
 | G,[],_=>by simp [GL.bP,Eng.bP]
 | G,_ :: _,[]=>by simp [GL.bP,Eng.bP]
theorem BT {E:Env}:∀{ms:List pQ} {σ dC:Sg} {G G':GL},EC E ms σ dC→Dv ms G=some G'→CO E ms σ G.get dC G'.get
 | [],_,_,_,_,h,g=>by
  simp only [Dv,aB] at g
  subst g
  exact ⟨h,rfl⟩
 | m :: ms,σ,dC,G,G',⟨Ap,s,h⟩,g=>by
  simp only [Dv,Kj,bf] at g
  obtain ⟨G1,⟨gs,g1,g2⟩,g3⟩:=g
  rw [aC] at g2
  obtain ⟨hl,e⟩:=g2
  cases e
  exact ⟨Ap,_,s,⟨gs,g1,hl,GL.rb⟩,BT h g3⟩
section
variable {C:Ctx} {D:kf} {σ:Sg} {γ:Ga} {a:Act} {w:World}
theorem cN.yZ (h:cN C D σ γ a w) (r:cR):eV γ (r.gh γ):=by
 cases r with
 | s t=>exact h.inv t
 | c x=>trivial
 | g n=>trivial
theorem Ei {γ:Ga} {g:Gh} (h:eV γ g):g.strip.ff=false∧g.strip.eD=false∧eV γ g.strip:=by
 cases g <;> first | exact ⟨rfl,rfl,trivial⟩ | exact ⟨rfl,rfl,h⟩
theorem I7 {γ:Ga} {g:Gh} (h:eV γ g) (i:Nat):(g.comp i).ff=false∧(g.comp i).eD=false∧eV γ (g.comp i):=by
 cases g with
 | yb ts p =>
  simp only [Gh.comp]
  split
  ·rename_i q k s e
   exact ⟨rfl,rfl,h.1 _ (List.mem_of_find?_eq_some e)⟩
  ·split
   ·rename_i j m
    split
    ·exact ⟨rfl,rfl,h.2 _ rfl⟩
    ·exact ⟨rfl,rfl,trivial⟩
   ·exact ⟨rfl,rfl,trivial⟩
 | _=>exact ⟨rfl,rfl,trivial⟩
theorem kt {nt:Nat} {dst:Option Nat} {x:Nat} {l ds:List Nat} (h:(match dst with | some d=>decide (d<nt)&&ds == d :: x :: l | none=>false)=true) (hl:ds.length=1):False:=by
 obtain ⟨d,_,_,rfl⟩:=eF h
 simp at hl
theorem Ty {nt:Nat} {dst:Option Nat} {l ds:List Nat} (hl:ds.length=1) (h:(match dst with | some d=>decide (d<nt)&&ds == d :: l | none=>false)=true):∃d,dst=some d∧d<nt∧ds=[d]∧l=[]:=by
 obtain ⟨d,h1,h2,rfl⟩:=eF h
 have:l=[]:=by simpa using hl
 subst this
 exact ⟨d,h1,h2,rfl,rfl⟩
theorem Fa (h:cN C D σ γ a w) {k:K} {rs:List cR} {ds:List Nat} {gd:Option (Nat × Bool)} {dst:Option Nat} {gs:List Gh} (hk:cq C.nt dst ⟨k,rs,ds,gd⟩=true)
  (hl:ds.length=1) (hd:dst.isSome=true) (hg:dw k (rs.map (cR.gh γ))=some gs) :
  ∃d g,dst=some d∧d<C.nt∧ds=[d]∧(gs.length=1→gs=[g])∧g.ff=false∧g.eD=false∧eV γ g:=by
 have base:=fun (l:List Nat)=>Ty (nt:=C.nt) (dst:=dst) (l:=l) hl
 cases k
 case mv =>
  obtain ⟨d,h1,h2,h3,-⟩:=base [] hk
  simp only [dw] at hg
  split at hg
  ·rename_i g e
   cases hg
   cases rs with
   | nil=>simp at e
   | cons r rs =>
    simp only [ah,aj] at e
    obtain ⟨q1,q2,q3⟩:=Ei (e.1 ▸ h.yZ r)
    exact ⟨d,_,h1,h2,h3,fun _=>rfl,q1,q2,q3⟩
  ·cases hg
 case ex i =>
  obtain ⟨d,h1,h2,h3,-⟩:=base [] hk
  simp only [dw] at hg
  split at hg
  ·rename_i g e
   cases hg
   cases rs with
   | nil=>simp at e
   | cons r rs =>
    simp only [ah,aj] at e
    obtain ⟨q1,q2,q3⟩:=I7 (e.1 ▸ h.yZ r) i
    exact ⟨d,_,h1,h2,h3,fun _=>rfl,q1,q2,q3⟩
  ·cases hg
 case fa m o x =>
  obtain ⟨d,h1,h2,h3,-⟩:=base [] hk
  simp only [dw] at hg
  split at hg
  ·rename_i m' o' e
   rw [aC] at hg
   obtain ⟨⟨rfl,rfl⟩,hg⟩:=hg
   cases hg
   cases rs with
   | nil=>simp at e
   | cons r rs =>
    simp only [ah,aj] at e
    have:=e.1 ▸ h.yZ r
    exact ⟨d,_,h1,h2,h3,fun _=>rfl,rfl,rfl,this⟩
  ·cases hg
 case nc m o =>
  obtain ⟨d,h1,h2,h3,-⟩:=base [] hk
  simp only [dw] at hg
  split at hg
  ·rename_i m' o' e
   rw [aC] at hg
   obtain ⟨⟨rfl,rfl⟩,hg⟩:=hg
   cases hg
   cases rs with
   | nil=>simp at e
   | cons r rs =>
    simp only [ah,aj] at e
    have:=e.1 ▸ h.yZ r
    exact ⟨d,_,h1,h2,h3,fun _=>rfl,rfl,rfl,this⟩
  ·cases hg
 case ld m o n agg =>
  simp only [cq,aa] at hk
  obtain ⟨d,h1,h2,h3,-⟩:=base [] hk.2
  simp only [dw] at hg
  split at hg
  ·rename_i m' o' ts e
   rw [aC] at hg
   obtain ⟨⟨rfl,rfl⟩,hg⟩:=hg
   cases hg
   have hm:eV γ (.cl ts):=by
    match rs,e with
    | [r,q],e =>
     simp only [ah,aq,aj] at e
     exact e.2.1 ▸ h.yZ q
   refine ⟨d,_,h1,h2,h3,fun _=>rfl,?_⟩
   split
   ·exact ⟨rfl,rfl,trivial⟩
   ·split
    ·rename_i q k s e
     exact ⟨rfl,rfl,hm _ (List.mem_of_find?_eq_some e)⟩
    ·exact ⟨rfl,rfl,trivial⟩
  ·cases hg
 case call f c =>
  simp only [cq,aa] at hk
  obtain ⟨d,h1,h2,h3,h4⟩:=base _ hk.1.2
  simp only [dw] at hg
  rw [aC] at hg
  obtain ⟨_,hg⟩:=hg
  cases hg
  rw [List.append_eq_nil_iff] at h4
  obtain ⟨h4,h5⟩:=h4
  simp only [CS.jt,List.append_eq_nil_iff] at h4
  simp only [CS.mC,List.map_eq_nil_iff,List.append_eq_nil_iff] at h5
  have hn:c.new=none:=by cases hc:c.new <;> simp_all
  refine ⟨d,c.dg,h1,h2,h3,fun hl=>?_,?_⟩
  ·simp only [aQ,Nat.add_eq_right,List.length_eq_zero_iff] at hl
   rw [hl]
  ·simp only [CS.dg,hn,h5.1.2]
   split
   ·exact ⟨rfl,rfl,trivial⟩
   ·refine ⟨rfl,rfl,?_⟩
    simp [eV]
 case st m o n =>
  simp only [cq,aa,Option.isNone_iff_eq_none] at hk
  rw [hk.1.1.2] at hd
  cases hd
 case al m z ts=>simp only [cq,aa] at hk;exact (kt hk.2 hl).elim
 case bx m=>simp only [cq,aa] at hk;exact (kt hk.2 hl).elim
 case Ju k=>simp only [cq,aa] at hk;exact (kt hk.2 hl).elim
 case blt s n k=>simp only [cq,aa] at hk;exact (kt hk.2 hl).elim
 case ap=>simp only [cq,aa] at hk;exact (kt hk.2 hl).elim
 case Ku=>simp only [cq,aa] at hk;exact (kt hk.2 hl).elim
 case an=>simp only [cq,aa] at hk;exact (kt hk.2 hl).elim
 case Kw=>simp only [cq,aa] at hk;exact (kt hk.2 hl).elim
 case mk=>simp only [cq,aa] at hk;exact (kt hk.2 hl).elim
 case C1=>simp only [cq,aa] at hk;exact (kt hk.2 hl).elim
 case nl=>simp only [cq,aa] at hk;exact (kt hk.2 hl).elim
 case Jy=>simp only [cq,aa] at hk;exact (kt hk.2 hl).elim
 case Kv=>simp only [cq,aa] at hk;exact (kt hk.2 hl).elim
 case pW f n bQ i k s =>
  simp only [cq,aa] at hk
  obtain ⟨d,h1,h2,h3,-⟩:=base [] hk.2
  simp only [dw] at hg
  rw [aC] at hg
  obtain ⟨_,hg⟩:=hg
  cases hg
  exact ⟨d,.no,h1,h2,h3,fun _=>rfl,rfl,rfl,trivial⟩
 case qJ f n bQ i s =>
  simp only [cq,aa] at hk
  obtain ⟨d,h1,h2,h3,-⟩:=base [] hk.2
  simp only [dw,aB] at hg
  exact ⟨d,.no,h1,h2,h3,fun _=>hg.symm,rfl,rfl,trivial⟩
 case K1 k =>
  simp only [cq,aa] at hk
  obtain ⟨d,h1,h2,h3,-⟩:=base [] hk.2
  simp only [dw] at hg
  split at hg
  ·rw [aC] at hg
   obtain ⟨_,hg⟩:=hg
   cases hg
   exact ⟨d,.no,h1,h2,h3,fun _=>rfl,rfl,rfl,trivial⟩
  ·cases hg
 case ll m s =>
  simp only [cq,aa] at hk
  obtain ⟨d,h1,h2,h3,-⟩:=base [] hk.2
  simp only [dw] at hg
  split at hg
  ·rw [aC] at hg
   obtain ⟨_,hg⟩:=hg
   cases hg
   exact ⟨d,.no,h1,h2,h3,fun _=>rfl,rfl,rfl,trivial⟩
  ·cases hg
 case la m n s =>
  simp only [cq,aa] at hk
  obtain ⟨d,h1,h2,h3,-⟩:=base [] hk.2
  simp only [dw] at hg
  split at hg
  ·rename_i m' o' g0 ts e
   rw [aC] at hg
   obtain ⟨⟨rfl,rfl,_⟩,hg⟩:=hg
   cases hg
   cases rs with
   | nil=>simp at e
   | cons r rs =>
    simp only [ah,aj] at e
    have:=e.1 ▸ h.yZ r
    exact ⟨d,_,h1,h2,h3,fun _=>rfl,rfl,rfl,this⟩
  ·cases hg
 case Kt=>simp only [cq,aa] at hk;exact (kt hk.2 hl).elim
 case yY=>simp only [cq,aa] at hk;exact (kt hk.2 hl).elim
 case DJ=>simp only [cq,aa] at hk;exact (kt hk.2 hl).elim
 case B0=>simp only [cq,aa] at hk;exact (kt hk.2 hl).elim
 case H8=>simp only [cq,aa] at hk;exact (kt hk.2 hl).elim
 case nP=>simp only [cq,aa] at hk;exact (kt hk.2 hl).elim
 case nN=>simp only [cq,aa] at hk;exact (kt hk.2 hl).elim
 case oY=>simp only [cq,aa] at hk;exact (kt hk.2 hl).elim
 case mg=>simp only [cq,aa] at hk;exact (kt hk.2 hl).elim
 case ls m s =>
  simp only [cq,aa,Option.isNone_iff_eq_none] at hk
  rw [hk.1.1.2] at hd
  cases hd
 case JG k s =>
  simp only [cq,aa] at hk
  obtain ⟨_,hk⟩:=hk
  split at hk
  ·simp only [aa] at hk
   exact (kt hk.2 hl).elim
  ·cases hk
 case JH=>simp only [cq,aa] at hk;exact (kt hk.2 hl).elim
 case Js m o =>
  simp only [cq,aa,Option.isNone_iff_eq_none] at hk
  rw [hk.1.1.2] at hd
  cases hd
 case H7=>simp only [cq,aa] at hk;exact (kt hk.2 hl).elim
 case sU k s =>
  simp only [cq,aa] at hk
  obtain ⟨_,hk⟩:=hk
  split at hk
  ·simp only [aa] at hk
   exact (kt hk.2 hl).elim
  ·cases hk
 case sT k s n =>
  simp only [cq,aa,Option.isNone_iff_eq_none] at hk
  rw [hk.1.1] at hd
  cases hd
 case pU f n bQ i m =>
  simp only [cq,aa] at hk
  obtain ⟨d,h1,h2,h3,-⟩:=base [] hk.2
  simp only [dw] at hg
  split at hg
  ·rw [aC] at hg
   obtain ⟨_,hg⟩:=hg
   cases hg
   exact ⟨d,.no,h1,h2,h3,fun _=>rfl,rfl,rfl,trivial⟩
  ·cases hg
 case M1 b =>
  cases b with
  | true =>
   obtain ⟨d,h1,h2,h3,-⟩:=base [] hk
   simp only [dw,if_true,aB] at hg
   exact ⟨d,.no,h1,h2,h3,fun _=>hg.symm,rfl,rfl,trivial⟩
  | false =>
   simp only [cq,aa,Option.isNone_iff_eq_none] at hk
   rw [hk.1] at hd
   cases hd
 case DV=>simp only [cq,aa] at hk;exact (kt hk.2 hl).elim
 case DR m o n ts =>
  simp only [cq,aa,Option.isNone_iff_eq_none] at hk
  rw [hk.1.1.1.2] at hd
  cases hd
 case yO k =>
  simp only [cq,aa] at hk
  obtain ⟨d,h1,h2,h3,-⟩:=base [] hk.2
  simp only [dw] at hg
  split at hg
  ·rw [aC] at hg
   obtain ⟨_,hg⟩:=hg
   cases hg
   exact ⟨d,.no,h1,h2,h3,fun _=>rfl,rfl,rfl,trivial⟩
  ·cases hg
 case rY k s n agg =>
  simp only [cq,aa] at hk
  obtain ⟨d,h1,h2,h3,-⟩:=base [] hk.2
  simp only [dw] at hg
  split at hg
  ·rw [aC] at hg
   obtain ⟨_,hg⟩:=hg
   cases hg
   exact ⟨d,.no,h1,h2,h3,fun _=>rfl,rfl,rfl,trivial⟩
  ·cases hg
 case lU k s =>
  simp only [cq,aa] at hk
  obtain ⟨d,h1,h2,h3,-⟩:=base [] hk.2
  simp only [dw] at hg
  split at hg
  ·rename_i k' s0 g0 s1 e
   rw [aC] at hg
   obtain ⟨⟨rfl,rfl⟩,hg⟩:=hg
   cases hg
   cases rs with
   | nil=>simp at e
   | cons r rs =>
    simp only [ah,aj] at e
    have:=e.1 ▸ h.yZ r
    exact ⟨d,_,h1,h2,h3,fun _=>rfl,rfl,rfl,this⟩
  ·cases hg
 case K2 k o =>
  obtain ⟨d,h1,h2,h3,-⟩:=base [] hk
  simp only [dw] at hg
  split at hg
  ·rename_i k' e
   rw [aC] at hg
   obtain ⟨rfl,hg⟩:=hg
   cases hg
   cases rs with
   | nil=>simp at e
   | cons r rs =>
    simp only [ah,aj] at e
    have:=e.1 ▸ h.yZ r
    exact ⟨d,_,h1,h2,h3,fun _=>rfl,rfl,rfl,this⟩
  ·cases hg
 all_goals
  obtain ⟨d,h1,h2,h3,-⟩:=base [] hk
  simp only [dw,aB] at hg
  exact ⟨d,.no,h1,h2,h3,fun _=>hg.symm,rfl,rfl,trivial⟩
theorem DX (h:cN C D σ γ a w) {ops:Array Oper} {j d:Nat} {x:Bool} (hd:d<C.nt) (hj:(ops[j]?).bind (·.dst)=some d) (hx:σ d = .v (.bool x)):yielded ops a.tmps j=some x:=by
 have hs:d<a.tmps.size:=by rw [h.size];exact hd
 have h0:=h.slot d hd
 rw [hx] at h0
 rcases h0 with e | ⟨e,_⟩
 ·cases e
 ·have e2:a.tmps[d]?=some (.bool x):=by
   rw [Array.getElem?_eq_getElem hs]
   have e3:a.tmps.getD d undef=a.tmps[d]:=by simp [Array.getD,hs]
   rw [e3] at e
   generalize a.tmps[d]=y at e
   cases e
   rfl
  simp [yielded,hj,e2]
theorem DW (h:cN C D σ γ a w) {ops:Array Oper} {j d:Nat} (hd:d<C.nt) (hj:(ops[j]?).bind (·.dst)=some d) (hx:σ d = .sk):yielded ops a.tmps j=none:=by
 have hs:d<a.tmps.size:=by rw [h.size];exact hd
 have h0:=h.slot d hd
 rw [hx] at h0
 rcases h0 with e | ⟨e,_⟩
 ·cases e
 ·have e2:a.tmps[d]?=some (.tuple ⟨[]⟩):=by
   rw [Array.getElem?_eq_getElem hs]
   have e3:a.tmps.getD d undef=a.tmps[d]:=by simp [Array.getD,hs]
   rw [e3] at e
   generalize a.tmps[d]=y at e
   cases e with
   | tu e=>cases e;rfl
  simp [yielded,hj,e2]
variable {sg:Nat→c7} {K:Act→World→Prop} {Q:Exit→Act→World→Prop}
theorem step_ok (hE:∀f,dK C.P C.E.gl f (C.E.fs f)∧(C.E.fs f).sg=sg f) {ops:Array Oper} {o:Oper} {m:pQ} {Ap:Sg} {Jk:Ga} (h:cN C D σ γ a w)
  (ho:ee C.P sg o m=true) (hk:cq C.nt o.dst m=true) (hg:tU C.nt ops o m=true) (de:small C.nt o.op.operands.toList=true)
  (s1:rC (RS C.E m) m.ds σ Ap) (s2:rC (RG m) m.ds γ Jk) (hK:∀D' a' w',cN C D' Ap Jk a' w'→K a' w') :
  if Region.wanted o (yielded ops a.tmps) then o.wp C.P a w K Q∨(o.asks C.P a w∧LetsOut Q) else K (a.put o.dst undef) w:=by
 obtain ⟨k,rs,ds,gd⟩:=m
 obtain ⟨dst,op,ty,pos,after,guard⟩:=o
 obtain ⟨ws,r1,l1,rfl⟩:=s1
 obtain ⟨gs,r2,l2,rfl⟩:=s2
 unfold RG at r2
 simp only [RS] at r1
 simp only [tU] at hg
 split at hg
 ·simp only [mE] at r1
  simp only [Region.wanted,if_true]
  exact .inl (Ci hE k h ho hk de r1 r2 hK)
 ·rename_i j b t b'
  simp only [aa,beq_iff_eq,az] at hg
  obtain ⟨⟨⟨⟨rfl,ht⟩,hj⟩,hl⟩,hd⟩:=hg
  split at hj
  ·rename_i d Ul
   have hj:d=t:=by simpa using hj
   subst hj
   simp only [mE] at r1
   cases hx:σ d with
   | v z =>
    cases z with
    | bool x =>
     have hy:=DX h ht Ul hx
     simp only [hx] at r1
     cases hw:x == b with
     | true =>
      simp only [hw] at r1
      have O9:(some x == some b)=true:=by simpa using hw
      simp only [Region.wanted,hy,O9,if_true]
      exact .inl (Ci hE k h ho hk de r1 r2 hK)
     | false =>
      simp only [hw] at r1
      have O9:(some x == some b)=false:=by simpa using hw
      simp only [Region.wanted,hy,O9,aY,if_false]
      subst r1
      obtain ⟨d',g,e1,e2,e3,e4,e5,e6,e7⟩:=Fa h hk hl hd r2
      dsimp only at e1 hl l2 hK ⊢
      subst e1
      subst e3
      have:=e4 l2
      subst this
      exact hK _ _ _ (h.put e2 (.inr ⟨.tu .nil,fun h=>absurd rfl h⟩) e5 e6 e7)
    | _=>simp only [hx] at r1
   | tu l =>
    cases l with
    | cons y l=>simp only [hx] at r1
    | nil =>
     have hy:=DW h ht Ul hx
     simp only [hx] at r1
     have O9:((none:Option Bool) == some b)=false:=rfl
     simp only [Region.wanted,hy,O9,aY,if_false]
     subst r1
     obtain ⟨d',g,e1,e2,e3,e4,e5,e6,e7⟩:=Fa h hk hl hd r2
     dsimp only at e1 hl l2 hK ⊢
     subst e1
     subst e3
     have:=e4 l2
     subst this
     exact hK _ _ _ (h.put e2 (.inr ⟨.tu .nil,fun h=>absurd rfl h⟩) e5 e6 e7)
   | _=>simp only [hx] at r1
  ·cases hj
 ·cases hg
abbrev yR (P:Program) (sg:Nat→c7) (nt:Nat) (ops:Array Oper) (o:Oper) (m:pQ):Bool :=
 ee P sg o m&&cq nt o.dst m&&tU nt ops o m&&small nt o.op.operands.toList
theorem Cc (hE:∀f,dK C.P C.E.gl f (C.E.fs f)∧(C.E.fs f).sg=sg f) {ops:Array Oper} {dC:Sg} {nY:Ga}:∀{os:List Oper} {ms:List pQ} {D:kf} {σ:Sg} {γ:Ga} {a:Act} {w:World},cN C D σ γ a w →
  kv (yR C.P sg C.nt ops) os ms=true→CO C.E ms σ γ dC nY→(∀D' a' w',cN C D' dC nY a' w'→Q .normal a' w')→wpList C.P ops Q os a w
 | [],[],_,_,_,_,_,h,_,⟨e1,e2⟩,hQ=>by subst e1;subst e2;exact hQ _ _ _ h
 | o :: os,m :: ms,_,_,_,_,_,h,hc,⟨Ap,Jk,s1,s2,hr⟩,hQ=>by
  simp only [kv,yR,aa] at hc
  obtain ⟨⟨⟨⟨c1,c2⟩,c3⟩,c4⟩,c5⟩:=hc
  unfold wpList
  exact step_ok hE h c1 c2 c3 c4 s1 s2 fun D' a' w' h'=>Cc hE h' (by simpa only [kv,yR] using c5) hr hQ
 | [],_ :: _,_,_,_,_,_,_,hc,_,_=>by simp [kv] at hc
 | _ :: _,[],_,_,_,_,_,_,hc,_,_=>by simp [kv] at hc
end
end Go.Eng
namespace Go.Eng
open Go.RowKit
theorem pq {A B:Type} {f:A→B→Bool}:∀{as:List A} {bs:List B} {i:Nat} {x:A},kv f as bs=true→as[i]?=some x→∃y,bs[i]?=some y∧f x y=true
 | a :: as,b :: bs,0,x,h,e=>by
  simp only [kv,aa] at h
  simp only [List.getElem?_cons_zero,aB] at e
  subst e
  exact ⟨b,rfl,h.1⟩
 | a :: as,b :: bs,i+1,x,h,e=>by
  simp only [kv,aa] at h
  simp only [List.getElem?_cons_succ] at e ⊢
  exact pq h.2 e
 | [],_,_,_,_,e=>by simp at e
 | _ :: _,[],_,_,h,_=>by simp [kv] at h
theorem po {A B:Type} {f:A→B→Bool}:∀{as:List A} {bs:List B},kv f as bs=true→as.length=bs.length
 | [],[],_=>rfl
 | _ :: _,_ :: _,h=>by simp only [kv,aa] at h;simp [po h.2]
 | [],_ :: _,h=>by simp [kv] at h
 | _ :: _,[],h=>by simp [kv] at h
section
variable {L:Nat→Prop} {ops:List Oper}
theorem rz (jf:∀i o,ops[i]?=some o→L i→∀e∈tC o,L e):∀(rest pre:List Oper) (acc:List (List Nat)),ops=pre++rest→acc.length=pre.length →
  (∀i o,i<acc.length→ops[i]?=some o→(∀e∈tC o,L e)→∀j∈acc.getD i [],L j) →
  ∀i o,ops[i]?=some o→(∀e∈tC o,L e)→∀j∈(rest.foldl (fun acc o=>acc++[(tC o).flatMap fun e=>e :: (acc.getD e [])]) acc).getD i [],L j
 | [],pre,acc,e,hl,inv=>by
  intro i o hi hb j hj
  simp only [aR] at e
  subst e
  have:i<acc.length:=by
   rw [hl]
   exact (aF.1 hi).1
  exact inv i o this hi hb j hj
 | r :: rest,pre,acc,e,hl,inv=>by
  simp only [List.foldl_cons]
  refine rz jf rest (pre++[r]) _ (by simp [e]) (by simp [hl]) ?_
  intro i o hi ho hb j hj
  by_cases eW:i<acc.length
  ·rw [ak,List.getElem?_append_left eW,←ak] at hj
   exact inv i o eW ho hb j hj
  ·have Bg:i=acc.length:=by simp at hi;omega
   subst Bg
   rw [ak,aK (Nat.le_refl _)] at hj
   simp only [Nat.sub_self,List.getElem?_cons_zero,Option.getD_some,List.mem_flatMap,bm] at hj
   have hr:o=r:=by
    rw [e,hl,aK (Nat.le_refl _)] at ho
    simpa using ho.symm
   subst hr
   obtain ⟨x,hx,rfl | hj⟩:=hj
   ·exact hb _ hx
   ·by_cases QG:x<acc.length
    ·have T8:x<ops.length:=by rw [e];simp;omega
     exact inv x _ QG (aA T8) (jf x _ (aA T8) (hb x hx)) j hj
    ·simp [List.getD,List.getElem?_eq_none (Nat.le_of_not_lt QG)] at hj
theorem BC (jf:∀i o,ops[i]?=some o→L i→∀e∈tC o,L e) {i:Nat} {o:Oper} (hi:ops[i]?=some o) (hb:∀e∈tC o,L e):∀j∈(CC ops).getD i [],L j :=
 rz jf ops [] [] rfl rfl (fun _ _ h=>by simp at h) i o hi hb
end
theorem wI {A:Type} {l:List A} {p:A × Nat→Bool} (h:l.zipIdx.all p=true) {i:Nat} {x:A} (hi:l[i]?=some x):p (x,i)=true :=
 aL.1 h _ (List.mem_zipIdx_iff_getElem?.2 (by simpa using hi))
theorem zJ (l:Array Bool) (i x:Nat) (d:Bool):(l.setIfInBounds i true).getD x d=if i=x then (if i<l.size then true else d) else l.getD x d:=by
 simp only [Array.getD_eq_getD_getElem?,Array.getElem?_setIfInBounds]
 split
 ·split <;> rfl
 ·rfl
def fB (n:Nat) (listed:Array Bool):List Nat:=(List.range n).filter fun i=>!listed.getD i true
theorem yI {n i:Nat} {listed:Array Bool} (hs:listed.size=n) (hi:i<n):fB n (listed.setIfInBounds i true)=(fB n listed).filter (fun j=>decide (j≠i)):=by
 simp only [fB,List.filter_filter]
 apply List.filter_congr
 intro j hj
 have hj:j<n:=by simpa using hj
 by_cases h:j=i
 ·subst h
  simp [Array.getD,hs,hi]
 ·have:i≠j:=fun e=>h e.symm
  simp [Array.getD,hs,hj,Array.getElem_setIfInBounds,h,this]
section
variable {C:Ctx} {sg:Nat→c7} {Q:Exit→Act→World→Prop}
theorem uT {listed:Array Bool} {n i:Nat} (hs:listed.size=n) (hi:i<n):listed.getD i true=listed.getD i false:=by simp [Array.getD,hs,hi]
theorem MM (hE:∀f,dK C.P C.E.gl f (C.E.fs f)∧(C.E.fs f).sg=sg f) {ops:Array Oper} {ms:List pQ} (hc:kv (yR C.P sg C.nt ops) ops.toList ms=true) (Pp:xf ops.toList ms=true)
  {dC:Sg} {nY:Ga} (hQ:∀D' a' w',cN C D' dC nY a' w'→Q .normal a' w') :
  ∀(fuel:Nat) {listed:Array Bool} {D:kf} {σ:Sg} {γ:Ga} {a:Act} {w:World},cN C D σ γ a w→listed.size=ops.size →
   (∀i o,ops.toList[i]?=some o→listed.getD i false=true→∀e∈tC o,listed.getD e false=true) →
   (fB ops.size listed).length≤fuel→CO C.E ((fB ops.size listed).filterMap (ms[·]?)) σ γ dC nY→wpAny C.P .any ops Q fuel listed a w:=by
 simp only [xf,aa] at Pp
 obtain ⟨WT,jf⟩:=Pp
 -- where nothing is ready,nothing fB
 have Be:∀{listed:Array Bool},listed.size=ops.size→Region.ready .any ops listed=[]→fB ops.size listed=[]:=by
  intro listed hs hr
  cases FV:fB ops.size listed with
  | nil=>rfl
  | cons i rest =>
   exfalso
   have qW:i∈fB ops.size listed:=by rw [FV];exact List.mem_cons_self ..
   have J6:=qW
   simp only [fB,List.mem_filter,List.mem_range,Bool.not_eq_true'] at J6
   obtain ⟨hi,hl⟩:=J6
   have zk:(fB ops.size listed).Pairwise (· < ·):=List.Pairwise.filter _ List.pairwise_lt_range
   have vr:ops.toList[i]?=some ops[i]:=by simp [hi]
   have hb:=wI WT vr
   have:i∈Region.ready .any ops listed:=by
    simp only [Region.ready,List.mem_filter,List.mem_range]
    refine ⟨hi,?_⟩
    simp only [hl,bq,Bool.true_and,Array.getElem?_eq_getElem hi,Option.map_some,Option.getD_some,Array.all_eq_true_iff_forall_mem,Bool.or_eq_true,Bool.not_eq_true']
    intro e he
    cases PX:Region.binds .any e with
    | false=>exact .inl rfl
    | true =>
     right
     have eW:e.on<i:=by
      have:e.on∈tC ops[i]:=aP.2 ⟨e,List.mem_filter.2 ⟨by simpa using he,PX⟩,rfl⟩
      have zw:=aL.1 hb _ this
      simpa using zw
     cases hle:listed.getD e.on false with
     | true=>rfl
     | false =>
      have tx:e.on∈fB ops.size listed:=by
       simp only [fB,List.mem_filter,List.mem_range,Bool.not_eq_true']
       exact ⟨by omega,by rw [uT hs (by omega)];exact hle⟩
      rw [FV] at tx zk
      rcases bm.1 tx with h | h
      ·omega
      ·have:=(List.pairwise_cons.1 zk).1 _ h
       omega
   rw [hr] at this
   cases this
 intro fuel
 induction fuel with
 | zero =>
  intro listed D σ γ a w h hs xz hf hr
  have h0:fB ops.size listed=[]:=by simpa using hf
  rw [h0] at hr
  obtain ⟨e1,e2⟩:=hr
  subst e1;subst e2
  refine ⟨?_,hQ _ _ _ h⟩
  cases L1:Region.ready .any ops listed with
  | nil=>rfl
  | cons i rest =>
   have:i∈Region.ready .any ops listed:=by rw [L1];exact List.mem_cons_self ..
   simp only [Region.ready,List.mem_filter,List.mem_range,aa] at this
   have h1:i∈fB ops.size listed:=by
    simp only [fB,List.mem_filter,List.mem_range]
    exact ⟨this.1,this.2.1⟩
   rw [h0] at h1
   cases h1
 | succ fuel ih =>
  intro listed D σ γ a w h hs xz hf hr
  refine ⟨fun L1=>?_,fun i hi=>?_⟩
  ·rw [Be hs L1] at hr
   obtain ⟨e1,e2⟩:=hr
   subst e1;subst e2
   exact hQ _ _ _ h
  ·simp only [Region.ready,List.mem_filter,List.mem_range,aa] at hi
   obtain ⟨tx,PL,Uj⟩:=hi
   have PJ:i∈fB ops.size listed:=by
    simp only [fB,List.mem_filter,List.mem_range]
    exact ⟨tx,PL⟩
   have vr:ops.toList[i]?=some ops[i]:=by simp [tx]
   simp only [Array.getElem?_eq_getElem tx,Option.map_some,Option.getD_some,Array.all_eq_true_iff_forall_mem,Bool.or_eq_true,Bool.not_eq_true'] at Uj
   have Kf:∀e∈tC ops[i],listed.getD e false=true:=by
    intro e he
    simp only [tC,aP,List.mem_filter] at he
    obtain ⟨x,⟨hx,hb⟩,rfl⟩:=he
    rcases Uj x (by simpa using hx) with h | h
    ·rw [hb] at h;cases h
    ·exact h
   obtain ⟨A,B,Mn⟩:=List.append_of_mem PJ
   have zk:(fB ops.size listed).Pairwise (· < ·):=List.Pairwise.filter _ List.pairwise_lt_range
   rw [Mn,List.pairwise_append] at zk
   obtain ⟨-,hB,hA⟩:=zk
   have UG:∀j∈A,j<i:=fun j hj=>hA j hj i (List.mem_cons_self ..)
   have Xj:∀j∈B,i<j:=fun j hj=>(List.pairwise_cons.1 hB).1 j hj
   obtain ⟨m,hm,Df⟩:=pq hc vr
   rw [Mn,List.filterMap_append,List.filterMap_cons,hm] at hr
   have Md:=uy hr (fun n hn=>by
    obtain ⟨j,hj,WJ⟩:=List.mem_filterMap.1 hn
    have h1:=wI jf hm
    have QP:j<i:=UG j hj
    have h2:=wI h1 (i:=j) (x:=n) (by rw [aO,aG QP];exact WJ)
    simp only [Bool.or_eq_true,Bool.not_eq_true',List.contains_eq_mem,az] at h2
    rcases h2 with h2 | h2
    ·exact h2
    ·exfalso
     have h3:=BC (L:=fun e=>listed.getD e false=true) xz vr Kf j h2
     have h4:j∈fB ops.size listed:=by rw [Mn];exact List.mem_append_left _ hj
     simp only [fB,List.mem_filter,List.mem_range,Bool.not_eq_true'] at h4
     rw [uT hs h4.1,h3] at h4
     cases h4.2)
   obtain ⟨Ap,Jk,s1,s2,vC⟩:=Md
   simp only [yR,aa] at Df
   obtain ⟨⟨⟨c1,c2⟩,c3⟩,c4⟩:=Df
   simp only [wpOp,Array.getElem?_eq_getElem tx]
   refine step_ok hE h c1 c2 c3 c4 s1 s2 fun D' a' w' h'=>?_
   have pH:fB ops.size (listed.setIfInBounds i true)=A++B:=by
    rw [yI hs tx,Mn,List.filter_append,List.filter_cons]
    simp only [ne_eq,not_true_eq_false,decide_false,aY,if_false]
    rw [List.filter_eq_self.2 (fun j hj=>by have:=UG j hj;simp;omega),List.filter_eq_self.2 (fun j hj=>by have:=Xj j hj;simp;omega)]
   refine ih h' (by simp [hs]) ?_ ?_ ?_
   ·intro j o hj QP e he
    have qT:∀x,listed.getD x false=true→(listed.setIfInBounds i true).getD x false=true:=by
     intro x hx
     rw [zJ]
     split
     ·rename_i WM
      subst WM
      rw [aG (by rw [hs];exact tx)]
     ·exact hx
    by_cases Ui:j=i
    ·subst Ui
     rw [vr] at hj
     cases hj
     exact qT _ (Kf e he)
    ·refine qT _ (xz j o hj ?_ e he)
     have WN:i≠j:=fun e=>Ui e.symm
     rw [zJ,aE WN] at QP
     exact QP
   ·rw [pH]
    rw [Mn] at hf
    simp at hf ⊢
    omega
   ·rw [pH,List.filterMap_append]
    exact vC
theorem nO {A:Type}:∀(ms:List A),(List.range ms.length).filterMap (ms[·]?)=ms
 | []=>rfl
 | m :: ms=>by
  rw [aQ,List.range_succ_eq_map,List.filterMap_cons]
  simp only [List.getElem?_cons_zero,List.filterMap_map,Function.comp_def,List.getElem?_cons_succ]
  rw [nO ms]
theorem CQ (hE:∀f,dK C.P C.E.gl f (C.E.fs f)∧(C.E.fs f).sg=sg f) {id:Nat} {ops:Array Oper} {draw:Bool} {ms:List pQ} {G G':GL} {D:kf} {σ dC:Sg} {a:Act} {w:World}
  (hr:EI C.P sg C.nt ops draw ms=true) (hg:Dv ms G=some G') (h:cN C D σ G.get a w) (hs:EC C.E ms σ dC) (hQ:∀D' a' w',cN C D' dC G'.get a' w'→Q .normal a' w'):(Code.region id ops draw).wp C.P Q a w:=by
 simp only [EI,aa] at hr
 obtain ⟨hc,hd⟩:=hr
 have cM:=BT hs hg
 cases draw with
 | false=>exact wp_region_list (Cc hE h hc cM hQ)
 | true =>
  simp only [a8,Bool.false_or,aa] at hd
  have hlen:ops.size=ms.length:=by have:=po hc;simpa using this
  have FV:fB ops.size (Array.replicate ops.size false)=List.range ops.size:=by
   simp only [fB]
   apply List.filter_eq_self.2
   intro i hi
   have hi:i<ops.size:=by simpa using hi
   simp [Array.getD,hi]
  refine wp_region_any hd.1 (MM hE hc hd.2 hQ ops.size h.drew (by simp) ?_ (by rw [FV];simp) ?_)
  ·intro i o _ hl
   exfalso
   by_cases hi:i<ops.size <;> simp [Array.getD,hi] at hl
  ·rw [FV,hlen,nO]
   exact cM
end
end Go.Eng
