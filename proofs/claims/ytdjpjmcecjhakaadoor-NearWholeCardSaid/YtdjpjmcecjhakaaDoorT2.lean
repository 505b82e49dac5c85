/- Texts of my own, one behind the other: EngP, EngQ, EngQa, EngQb, EngQc, EngQd, EngQe, EngQf, EngQg, EngQh, EngQi, EngQj, EngQk, EngQl, EngQm, EngQn, EngQo, EngR, EngS, EngT. -/
import Derived.Test.YtdjpjmcecjhakaaDoorT1
import Derived.Lib.SliceRun
import Derived.Laws.Externs
set_option linter.unusedVariables false
set_option linter.unusedSimpArgs false
namespace Go.Eng
open Go.RowKit
section
variable {C:Ctx} {sg:Nat→FSig}
theorem evalInt {D:Dyn} {σ:Sg} {γ:Ga} {a:Act} {w:World} (h:Sim C D σ γ a w) {x:Operand} {r:Opd} {k:IntKind} {i:Int} (hx:opdOK x r=true) (hs:small C.nt [x]=true) (hr:r.ev C.E σ = .v (.int k i)):a.eval x = .int k i:=by
 have e1:=(h.opd hx hs).rep (by rw [hr];simp)
 rw [hr] at e1
 exact e1.v_inv
theorem mslot {r:Opd} {m:Nat} (h:(match r with | Opd.s t=>some t | _=>none)=some m):r = .s m:=by
 cases r <;> simp at h;subst h;rfl
theorem slots_eq:∀{rs:List Opd} {ks:List Nat},(rs.map fun r=>match r with | Opd.s t=>some t | _=>none)=ks.map some→rs=ks.map Opd.s
 | [],[],_=>rfl
 | r :: rs,k :: ks,h=>by
  simp only [List.map_cons,List.cons.injEq] at h
  rw [mslot h.1,slots_eq h.2];rfl
 | [],_ :: _,h=>by simp at h
 | _ :: _,[],h=>by simp at h
theorem k_sc {s:Nat} {lo hi:Bool}:KindOK C sg (.sc s lo hi):=by
 intro D σ γ a w dst op ty pos after guard rs ds gd ws gs K' Q h ho hk hsm hs hg hK
 obtain ⟨d,rfl,hl,rfl⟩:=dOK0 (l:=[]) hk
 simp only [gsem,Option.some.injEq] at hg
 subst hg
 simp only [opOK] at ho
 split at ho
 ·rename_i t x l u
  simp only [Bool.and_eq_true,beq_iff_eq] at ho
  obtain ⟨⟨⟨ht,h1⟩,h2⟩,ho⟩:=ho
  obtain ⟨e,i,q1,q2,q3,q4⟩:=sliceOK'_spec ht
  subst h1;subst h2
  cases l with
  | none =>
   cases u with
   | none =>
    obtain ⟨r,rfl,hx⟩:=opds1 ho
    simp only [Option.isSome_none,List.map_cons,List.map_nil,sem] at hs
    split at hs
    ·rename_i s' es heq
     simp only [List.cons.injEq,and_true] at heq
     obtain ⟨rfl,rfl⟩:=hs
     exact op_sc (l:=0) (u:=es.length) h rfl hl rfl q1 q2 q3 hx (small_mem hsm (by simp [Op.operands])) heq (.inl ⟨rfl,rfl⟩) (.inl ⟨rfl,rfl⟩) (by omega) (by omega) (by simpa [updL] using hK)
    ·cases hs
   | some y =>
    obtain ⟨r,q,rfl,hx,hy⟩:=opds2 ho
    simp only [Option.isSome_none,Option.isSome_some,List.map_cons,List.map_nil,sem] at hs
    split at hs
    ·rename_i s' es k b heq
     simp only [List.cons.injEq,and_true] at heq
     obtain ⟨rfl,p1,p2,rfl⟩:=hs
     have hb:=evalInt h hy (small_mem hsm (by simp [Op.operands])) heq.2
     exact op_sc (l:=0) (u:=b.toNat) h rfl hl rfl q1 q2 q3 hx (small_mem hsm (by simp [Op.operands])) heq.1 (.inl ⟨rfl,rfl⟩) (.inr ⟨y,k,rfl,by rw [hb];congr 1;omega⟩) (by omega) (by omega) (by simpa [updL] using hK)
    ·cases hs
  | some y =>
   cases u with
   | none =>
    obtain ⟨r,q,rfl,hx,hy⟩:=opds2 ho
    simp only [Option.isSome_none,Option.isSome_some,List.map_cons,List.map_nil,sem] at hs
    split at hs
    ·rename_i s' es k b heq
     simp only [List.cons.injEq,and_true] at heq
     obtain ⟨rfl,p1,p2,rfl⟩:=hs
     have hb:=evalInt h hy (small_mem hsm (by simp [Op.operands])) heq.2
     exact op_sc (l:=b.toNat) (u:=es.length) h rfl hl rfl q1 q2 q3 hx (small_mem hsm (by simp [Op.operands])) heq.1 (.inr ⟨y,k,rfl,by rw [hb];congr 1;omega⟩) (.inl ⟨rfl,rfl⟩) (by omega) (by omega) (by simpa [updL] using hK)
    ·cases hs
   | some z =>
    obtain ⟨r,q,q',rfl,hx,hy,hz⟩:=opds3 ho
    simp only [Option.isSome_some,List.map_cons,List.map_nil,sem] at hs
    split at hs
    ·rename_i s' es k b k' c heq
     simp only [List.cons.injEq,and_true] at heq
     obtain ⟨rfl,p1,p2,p3,rfl⟩:=hs
     have hb:=evalInt h hy (small_mem hsm (by simp [Op.operands])) heq.2.1
     have hc:=evalInt h hz (small_mem hsm (by simp [Op.operands])) heq.2.2
     exact op_sc (l:=b.toNat) (u:=c.toNat) h rfl hl rfl q1 q2 q3 hx (small_mem hsm (by simp [Op.operands])) heq.1 (.inr ⟨y,k,rfl,by rw [hb];congr 1;omega⟩) (.inr ⟨z,k',rfl,by rw [hc];congr 1;omega⟩) (by omega) (by omega) hK
    ·cases hs
 ·cases ho
theorem k_ss {lo hi:Bool}:KindOK C sg (.ss lo hi):=by
 intro D σ γ a w dst op ty pos after guard rs ds gd ws gs K' Q h ho hk hsm hs hg hK
 obtain ⟨d,rfl,hl,rfl⟩:=dOK0 (l:=[]) hk
 simp only [gsem,Option.some.injEq] at hg
 subst hg
 simp only [opOK] at ho
 split at ho
 ·rename_i t x l u
  simp only [Bool.and_eq_true,beq_iff_eq] at ho
  obtain ⟨⟨⟨ht,h1⟩,h2⟩,ho⟩:=ho
  have q1:=isStrT_spec ht
  subst h1;subst h2
  cases l with
  | none =>
   cases u with
   | none =>
    obtain ⟨r,rfl,hx⟩:=opds1 ho
    simp only [Option.isSome_none,List.map_cons,List.map_nil,sem] at hs
    split at hs
    ·rename_i b heq
     simp only [List.cons.injEq,and_true] at heq
     subst hs
     have e:(⟨⟨(b.data.toList.take b.data.toList.length).drop 0⟩⟩:ByteArray)=b:=by cases b with | mk t=>cases t;simp
     exact op_ss (l:=0) (u:=b.data.toList.length) h rfl hl rfl q1 hx (small_mem hsm (by simp [Op.operands])) heq (.inl ⟨rfl,rfl⟩) (.inl ⟨rfl,rfl⟩) (by omega) (by omega) (by rw [e];exact hK)
    ·cases hs
   | some y =>
    obtain ⟨r,q,rfl,hx,hy⟩:=opds2 ho
    simp only [Option.isSome_none,Option.isSome_some,List.map_cons,List.map_nil,sem] at hs
    split at hs
    ·rename_i b k c heq
     simp only [List.cons.injEq,and_true] at heq
     obtain ⟨p1,p2,rfl⟩:=hs
     have hb:=evalInt h hy (small_mem hsm (by simp [Op.operands])) heq.2
     exact op_ss (l:=0) (u:=c.toNat) h rfl hl rfl q1 hx (small_mem hsm (by simp [Op.operands])) heq.1 (.inl ⟨rfl,rfl⟩) (.inr ⟨y,k,rfl,by rw [hb];congr 1;omega⟩) (by omega) (by omega) (by simpa [updL] using hK)
    ·cases hs
  | some y =>
   cases u with
   | none =>
    obtain ⟨r,q,rfl,hx,hy⟩:=opds2 ho
    simp only [Option.isSome_none,Option.isSome_some,List.map_cons,List.map_nil,sem] at hs
    split at hs
    ·rename_i b k c heq
     simp only [List.cons.injEq,and_true] at heq
     obtain ⟨p1,p2,rfl⟩:=hs
     have hb:=evalInt h hy (small_mem hsm (by simp [Op.operands])) heq.2
     exact op_ss (l:=c.toNat) (u:=b.data.toList.length) h rfl hl rfl q1 hx (small_mem hsm (by simp [Op.operands])) heq.1 (.inr ⟨y,k,rfl,by rw [hb];congr 1;omega⟩) (.inl ⟨rfl,rfl⟩) (by omega) (by omega) (by rw [List.take_length];exact hK)
    ·cases hs
   | some z =>
    obtain ⟨r,q,q',rfl,hx,hy,hz⟩:=opds3 ho
    simp only [Option.isSome_some,List.map_cons,List.map_nil,sem] at hs
    split at hs
    ·rename_i b k c k' e heq
     simp only [List.cons.injEq,and_true] at heq
     obtain ⟨p1,p2,p3,rfl⟩:=hs
     have hb:=evalInt h hy (small_mem hsm (by simp [Op.operands])) heq.2.1
     have hc:=evalInt h hz (small_mem hsm (by simp [Op.operands])) heq.2.2
     exact op_ss (l:=c.toNat) (u:=e.toNat) h rfl hl rfl q1 hx (small_mem hsm (by simp [Op.operands])) heq.1 (.inr ⟨y,k,rfl,by rw [hb];congr 1;omega⟩) (.inr ⟨z,k',rfl,by rw [hc];congr 1;omega⟩) (by omega) (by omega) hK
    ·cases hs
 ·cases ho
theorem k_bl {s n:Nat}:KindOK C sg (.bl s n):=by
 intro D σ γ a w dst op ty pos after guard rs ds gd ws gs K' Q h ho hk hsm hs hg hK
 obtain ⟨d,rfl,hl,rfl⟩:=dOK0 (l:=[]) hk
 simp only [gsem,Option.some.injEq] at hg
 subst hg
 simp only [opOK] at ho
 split at ho
 ·simp only [Bool.and_eq_true,beq_iff_eq,decide_eq_true_eq] at ho
  obtain ⟨⟨⟨⟨h1,rfl⟩,h3⟩,h4⟩,h5⟩:=ho
  simp only [sem] at hs
  obtain ⟨p1,p2,rfl⟩:=hs
  exact op_bl h rfl hl rfl h1 h3 h4 h5 (small_sub hsm (by simp [Op.operands])) p2 hK
 ·cases ho
theorem k_blt {s n k:Nat}:KindOK C sg (.blt s n k):=by
 intro D σ γ a w dst op ty pos after guard rs ds gd ws gs K' Q h ho hk hsm hs hg hK
 simp only [keysOK,Bool.and_eq_true] at hk
 obtain ⟨⟨hk0,hk1⟩,hk2⟩:=hk
 obtain ⟨d,rfl,hl,rfl⟩:=dOK0 hk2
 simp only [opOK] at ho
 split at ho
 ·rename_i t len parts
  simp only [Bool.and_eq_true,beq_iff_eq,decide_eq_true_eq] at ho
  obtain ⟨⟨⟨⟨⟨h1,rfl⟩,h3⟩,h4⟩,h5⟩,h6⟩:=ho
  simp only [sem] at hs
  obtain ⟨p1,p2,rfl⟩:=hs
  simp only [gsem] at hg
  split at hg
  ·rename_i hno
   cases hg
   rw [←List.map_drop] at hno
   have hdl:(rs.drop len).length=1:=by simp;omega
   obtain ⟨q,hq⟩:=len1 hdl
   rw [hq] at hno hk1
   simp only [List.map_cons,List.map_nil,List.cons.injEq,and_true] at hno
   simp only [List.map_cons,List.map_nil,beq_iff_eq,List.cons.injEq,and_true] at hk1
   have hq':=mslot hk1
   subst hq'
   rw [←List.map_take] at p2
   simp only [←List.map_take] at hK
   exact op_blt h rfl hl rfl h1 h3 h4 h5 (small_sub hsm (by simp [Op.operands])) p2 hno hK
  ·cases hg
 ·cases ho
theorem k_bd {z:List AV} {pl:List (Nat × Nat)}:KindOK C sg (.bd z pl):=by
 intro D σ γ a w dst op ty pos after guard rs ds gd ws gs K' Q h ho hk hsm hs hg hK
 obtain ⟨d,rfl,hl,rfl⟩:=dOK0 (l:=[]) hk
 simp only [gsem,Option.some.injEq] at hg
 subst hg
 simp only [opOK] at ho
 split at ho
 ·simp only [Bool.and_eq_true] at ho
  obtain ⟨⟨h1,h2⟩,h3⟩:=ho
  simp only [sem] at hs
  obtain ⟨cs,p1,rfl⟩:=hs
  exact op_bd h rfl hl rfl h1 h2 h3 (small_sub hsm (by simp [Op.operands])) p1 hK
 ·cases ho
theorem k_al {m:Nat} {z:List AV} {ts:List (Nat × (Nat × Nat))}:KindOK C sg (.al m z ts):=by
 intro D σ γ a w dst op ty pos after guard rs ds gd ws gs K' Q h ho hk hsm hs hg hK
 simp only [keysOK,Bool.and_eq_true,decide_eq_true_eq,beq_iff_eq,List.drop_zero,Nat.zero_add] at hk
 obtain ⟨⟨⟨hm1,hm2⟩,hk0,hk1⟩,hk2⟩:=hk
 obtain ⟨d,rfl,hl,rfl⟩:=dOK0 hk2
 simp only [opOK] at ho
 split at ho
 ·simp only [Bool.and_eq_true] at ho
  obtain ⟨h1,h2⟩:=ho
  simp only [sem] at hs
  subst hs
  simp only [gsem] at hg
  split at hg
  ·rename_i hc
   cases hg
   obtain ⟨c1,c2,c3⟩:=hc
   have hrs:=slots_eq hk1
   subst hrs
   simp only [List.map_map,List.all_eq_true,List.mem_map,decide_eq_true_eq] at c2
   refine op_al h rfl hl rfl h1 (fun q hq=>?_) (c2 _ ⟨m,by simp,rfl⟩) hm1 hm2 (fun t ht=>c2 _ ⟨lk t.2.1,List.mem_cons.2 (.inr (List.mem_map.2 ⟨t,ht,rfl⟩)),rfl⟩) c3 hK
   have:=List.all_eq_true.1 h2 q hq
   split at this
   ·exact ⟨_,‹_›⟩
   ·cases this
  ·cases hg
 ·cases ho
theorem k_bx {m:Nat}:KindOK C sg (.bx m):=by
 intro D σ γ a w dst op ty pos after guard rs ds gd ws gs K' Q h ho hk hsm hs hg hK
 simp only [keysOK,Bool.and_eq_true,decide_eq_true_eq,beq_iff_eq] at hk
 obtain ⟨⟨⟨hm1,hm2⟩,hk0,hk1⟩,hk2⟩:=hk
 obtain ⟨d,rfl,hl,rfl⟩:=dOK0 hk2
 simp only [opOK] at ho
 split at ho
 ·rename_i t x r rest
  simp at hk0
  obtain ⟨q,rfl⟩:=len1 hk0
  simp only [List.drop_succ_cons,List.drop_zero,List.map_cons,List.map_nil,List.cons.injEq,and_true] at hk1
  have hq:=mslot hk1
  subst hq
  simp only [List.map_cons,List.map_nil,sem] at hs
  obtain ⟨p1,rfl⟩:=hs
  simp only [List.map_cons,List.map_nil,gsem] at hg
  split at hg
  ·rename_i g heq
   simp only [List.cons.injEq,and_true,Opd.gh] at heq
   cases hg
   exact op_bx h rfl hl rfl ho (small_mem hsm (by simp [Op.operands])) p1 heq.2 hm1 hm2 hK
  ·cases hg
 ·cases ho
theorem k_ld {m o' n:Nat} {agg:Bool}:KindOK C sg (.ld m o' n agg):=by
 intro D σ γ a w dst op ty pos after guard rs ds gd ws gs K' Q h ho hk hsm hs hg hK
 simp only [keysOK,Bool.and_eq_true,decide_eq_true_eq,beq_iff_eq] at hk
 obtain ⟨⟨⟨hm1,hm2⟩,hk0,hk1⟩,hk2⟩:=hk
 obtain ⟨d,rfl,hl,rfl⟩:=dOK0 (l:=[]) hk2
 simp only [opOK] at ho
 split at ho
 ·rename_i t x r rest
  simp at hk0
  obtain ⟨q,rfl⟩:=len1 hk0
  simp only [List.drop_succ_cons,List.drop_zero,List.map_cons,List.map_nil,List.cons.injEq,and_true] at hk1
  have hq:=mslot hk1
  subst hq
  simp only [Bool.and_eq_true] at ho
  obtain ⟨ht,ho⟩:=ho
  obtain ⟨inf,h1,h2,h3,h4⟩:=shapeOK_spec ht
  simp only [List.map_cons,List.map_nil,sem] at hs
  split at hs
  ·rename_i cs heq
   simp only [List.cons.injEq,and_true,Opd.ev] at heq
   obtain ⟨x',p1,rfl⟩:=hs
   simp only [List.map_cons,List.map_nil,gsem] at hg
   split at hg
   ·rename_i m' o'' ts heq2
    simp only [List.cons.injEq,and_true,Opd.gh] at heq2
    split at hg
    ·rename_i hc
     obtain ⟨rfl,rfl⟩:=hc
     cases hg
     exact op_ld h rfl hl rfl h1 h2 h3 h4 ho (small_mem hsm (by simp [Op.operands])) heq.1 heq2.1 heq2.2 heq.2 p1 hK
    ·cases hg
   ·cases hg
  ·cases hs
 ·cases ho
theorem k_st {m o' n:Nat}:KindOK C sg (.st m o' n):=by
 intro D σ γ a w dst op ty pos after guard rs ds gd ws gs K' Q h ho hk hsm hs hg hK
 simp only [keysOK,Bool.and_eq_true,decide_eq_true_eq,beq_iff_eq,Option.isNone_iff_eq_none] at hk
 obtain ⟨⟨⟨⟨hm1,hm2⟩,rfl⟩,rfl⟩,hk1⟩:=hk
 simp only [opOK] at ho
 split at ho
 ·rename_i t x v p q r
  simp only [Bool.and_eq_true,beq_iff_eq] at ho
  obtain ⟨⟨ht,hx⟩,hv⟩:=ho
  obtain ⟨inf,h1,h2⟩:=sizeT_spec ht
  cases q with
  | s j =>
   simp at hk1
   subst hk1
   simp only [List.map_cons,List.map_nil,sem] at hs
   split at hs
   ·rename_i cs y heq
    simp only [List.cons.injEq,and_true,Opd.ev] at heq
    obtain ⟨e1,e2,e3⟩:=heq
    obtain ⟨p1,p2,p3,rfl⟩:=hs
    subst e3
    simp only [List.map_cons,List.map_nil,gsem] at hg
    split at hg
    ·rename_i m' o'' ts g heq2
     simp only [List.cons.injEq,and_true,Opd.gh] at heq2
     obtain ⟨f1,f2,f3⟩:=heq2
     subst f3
     split at hg
     ·rename_i hc
      obtain ⟨rfl,rfl⟩:=hc
      cases hg
      exact op_st h rfl rfl h1 h2 hx (small_mem hsm (by simp [Op.operands])) hv (small_mem hsm (by simp [Op.operands])) e1 f1 f2 e2 p1 p2 p3 hK
     ·cases hg
    ·cases hg
   ·cases hs
  | c=>simp at hk1
  | g=>simp at hk1
 ·cases ho
theorem k_fa {m o' dd:Nat}:KindOK C sg (.fa m o' dd):=by
 intro D σ γ a w dst op ty pos after guard rs ds gd ws gs K' Q h ho hk hsm hs hg hK
 obtain ⟨d,rfl,hl,rfl⟩:=dOK0 (l:=[]) hk
 simp only [opOK] at ho
 split at ho
 ·rename_i t x f r
  simp only [Bool.and_eq_true] at ho
  obtain ⟨ht,hx⟩:=ho
  cases hf:fieldT C.P t f with
  | none=>simp [hf] at ht
  | some fl =>
   simp only [hf,Option.any_some,Bool.and_eq_true,beq_iff_eq] at ht
   obtain ⟨h0,ht⟩:=ht
   cases hz:sizeT C.P fl.type with
   | none=>simp [hz] at ht
   | some n =>
    simp [hz] at ht
    obtain ⟨inf,h1,h2⟩:=sizeT_spec hz
    obtain ⟨fs,hu,hfs⟩:=fieldT_spec hf
    simp only [List.map_cons,List.map_nil,sem] at hs
    split at hs
    ·rename_i heq
     simp only [List.cons.injEq,and_true] at heq
     subst hs
     simp only [List.map_cons,List.map_nil,gsem] at hg
     split at hg
     ·rename_i m' o'' heq2
      simp only [List.cons.injEq,and_true] at heq2
      split at hg
      ·rename_i hc
       obtain ⟨rfl,rfl⟩:=hc
       cases hg
       exact op_fa h rfl hl rfl hu hfs h0 h1 (by omega) hx (small_mem hsm (by simp [Op.operands])) heq heq2 hK
      ·cases hg
     ·cases hg
    ·cases hs
 ·cases ho
theorem k_fr {o' n:Nat} {agg:Bool}:KindOK C sg (.fr o' n agg):=by
 intro D σ γ a w dst op ty pos after guard rs ds gd ws gs K' Q h ho hk hsm hs hg hK
 obtain ⟨d,rfl,hl,rfl⟩:=dOK0 (l:=[]) hk
 simp only [gsem,Option.some.injEq] at hg
 subst hg
 simp only [opOK] at ho
 split at ho
 ·rename_i t x f r
  simp only [Bool.and_eq_true] at ho
  obtain ⟨ht,hx⟩:=ho
  cases hf:fieldT C.P t f with
  | none=>simp [hf] at ht
  | some fl =>
   simp only [hf,Option.any_some,Bool.and_eq_true,beq_iff_eq,decide_eq_true_eq] at ht
   obtain ⟨⟨h0,ht⟩,hn⟩:=ht
   obtain ⟨inf,h1,h2,h3,h4⟩:=shapeOK_spec ht
   obtain ⟨fs,hu,hfs⟩:=fieldT_spec hf
   simp only [List.map_cons,List.map_nil,sem] at hs
   split at hs
   ·rename_i cs heq
    simp only [List.cons.injEq,and_true] at heq
    obtain ⟨x',p1,rfl⟩:=hs
    exact op_fr h rfl hl rfl hu hfs h0 h1 h2 hn h4 hx (small_mem hsm (by simp [Op.operands])) heq p1 hK
   ·cases hs
 ·cases ho
theorem k_nc {m o':Nat}:KindOK C sg (.nc m o'):=by
 intro D σ γ a w dst op ty pos after guard rs ds gd ws gs K' Q h ho hk hsm hs hg hK
 obtain ⟨d,rfl,hl,rfl⟩:=dOK0 (l:=[]) hk
 simp only [opOK] at ho
 split at ho
 ·simp only [List.map_cons,List.map_nil,sem] at hs
  split at hs
  ·rename_i heq
   simp only [List.cons.injEq,and_true] at heq
   subst hs
   simp only [List.map_cons,List.map_nil,gsem] at hg
   split at hg
   ·rename_i m' o'' heq2
    simp only [List.cons.injEq,and_true] at heq2
    split at hg
    ·rename_i hc
     obtain ⟨rfl,rfl⟩:=hc
     cases hg
     exact op_nc h rfl hl rfl ho (small_mem hsm (by simp [Op.operands])) heq heq2 hK
    ·cases hg
   ·cases hg
  ·cases hs
 ·cases ho
end
end Go.Eng
namespace Go.Eng
open Go.RowKit
section
variable {C:Ctx} {sg:Nat→FSig}
theorem apTypes {P:Program} {ats:Array TypeId} {s b:Nat} (h1:ats.toList.length=2) (h2:(ats.toList.all fun t=>sliceOK P t s b)=true) :
  ∃t u e i z du,ats=#[t,u]∧P.underlying t=some (.slice e)∧P.info? e=some i∧i.size=s∧i.bytes=b∧i.zero=some z∧z.cells.size=i.size∧P.underlying u=some du∧(∀k,du ≠ .int k):=by
 obtain ⟨t,u,h⟩:=len2 h1
 rw [h] at h2
 simp only [List.all_cons,List.all_nil,Bool.and_true,Bool.and_eq_true] at h2
 obtain ⟨e,i,z,q1,q2,q3,q4,q5,q6,q7⟩:=sliceOK_spec h2.1
 obtain ⟨e',i',z',r1,_⟩:=sliceOK_spec h2.2
 exact ⟨t,u,e,i,z,_,arr2 h,q1,q2,q3,q4,q5,q6.trans q3.symm,r1,by simp⟩
theorem apTypesS {P:Program} {ats:Array TypeId} {b:Nat} (h2:(match ats.toList with | [t,u]=>sliceOK P t 1 b&&isByteSl P t&&isStrT P u | _=>false)=true) :
  ∃t u e i z du,ats=#[t,u]∧P.underlying t=some (.slice e)∧P.info? e=some i∧i.size=1∧i.bytes=b∧i.zero=some z∧z.cells.size=i.size∧P.underlying u=some du∧(∀k,du ≠ .int k):=by
 split at h2
 ·rename_i t u h
  simp only [Bool.and_eq_true] at h2
  obtain ⟨e,i,z,q1,q2,q3,q4,q5,q6,q7⟩:=sliceOK_spec h2.1.1
  exact ⟨t,u,e,i,z,_,arr2 h,q1,q2,q3,q4,q5,q6.trans q3.symm,isStrT_spec h2.2,by simp⟩
 ·cases h2
theorem tail2 {rs:List Opd} {n a b:Nat} (h:(rs.drop n).map (fun r=>match r with | Opd.s t=>some t | _=>none)=[some a,some b]):rs.drop n=[.s a,.s b] :=
 slots_eq (ks:=[a,b]) h
theorem k_ap {k d' s b:Nat}:KindOK C sg (.ap k d' s b):=by
 intro D σ γ a w dst op ty pos after guard rs ds gd ws gs K' Q h ho hk hsm hs hg hK
 simp only [keysOK,Bool.and_eq_true,beq_iff_eq,List.map_cons,List.map_nil] at hk
 obtain ⟨⟨hk0,hk1⟩,hk2⟩:=hk
 obtain ⟨d,rfl,hl,rfl⟩:=dOK0 hk2
 simp only [opOK] at ho
 split at ho
 ·rename_i args ats r q r3 r4
  simp only [Bool.and_eq_true,beq_iff_eq] at ho
  obtain ⟨⟨ho,h1⟩,h2⟩:=ho
  obtain ⟨t,u,e,i,z,du,rfl,q1,q2,q3,q4,q5,q6,q7,q8⟩:=apTypes h1 h2
  have ht:=tail2 hk1
  simp only [List.drop_succ_cons,List.drop_zero,List.cons.injEq,and_true] at ht
  obtain ⟨rfl,rfl⟩:=ht
  obtain ⟨x,y,hx0⟩:=len2 (l:=args.toList) (by rw [opdsOK_len ho];rfl)
  rw [hx0] at ho
  obtain ⟨r',q',hrq,hx,hy⟩:=opds2 ho
  simp only [List.cons.injEq,and_true] at hrq
  obtain ⟨rfl,rfl⟩:=hrq
  have ea:=arr2 hx0
  subst ea
  simp only [List.map_cons,List.map_nil,sem] at hs
  split at hs
  ·rename_i s' es s'' fs v1 v2 heq
   simp only [List.cons.injEq,and_true] at heq
   obtain ⟨e1,e2,_⟩:=heq
   obtain ⟨rfl,rfl,p1,p2,p3,rfl⟩:=hs
   simp only [List.map_cons,List.map_nil,gsem] at hg
   split at hg
   ·rename_i k1 s1 g s2 heq2
    simp only [List.cons.injEq,and_true,Opd.gh] at heq2
    obtain ⟨g1,g2,g3,g4⟩:=heq2
    split at hg
    ·rename_i hc
     obtain ⟨rfl,rfl,rfl,hne⟩:=hc
     cases hg
     have hrep:=(h.opd hy (small_mem hsm (by simp [Op.operands,Call.operands]))).rep (by rw [e2];simp)
     rw [e2] at hrep
     obtain ⟨news,n1,n2,n3⟩:=Source.of_sl (P:=C.P) hrep
     exact op_ap (q:=q) h rfl hl rfl q1 q2 q5 q6 q7 q8 q3 hx (small_mem hsm (by simp [Op.operands,Call.operands])) e1 g1 g3 g4 hne n1 n2 p1 p2 (by rw [q4];exact p3) hK
    ·cases hg
   ·cases hg
  ·cases hs
 ·cases ho
theorem k_aps {k d' b:Nat}:KindOK C sg (.aps k d' b):=by
 intro D σ γ a w dst op ty pos after guard rs ds gd ws gs K' Q h ho hk hsm hs hg hK
 simp only [keysOK,Bool.and_eq_true,beq_iff_eq,List.map_cons,List.map_nil] at hk
 obtain ⟨⟨hk0,hk1⟩,hk2⟩:=hk
 obtain ⟨d,rfl,hl,rfl⟩:=dOK0 hk2
 simp only [opOK] at ho
 split at ho
 ·rename_i args ats r q r3 r4
  simp only [Bool.and_eq_true] at ho
  obtain ⟨ho,h2⟩:=ho
  obtain ⟨t,u,e,i,z,du,rfl,q1,q2,q3,q4,q5,q6,q7,q8⟩:=apTypesS h2
  have ht:=tail2 hk1
  simp only [List.drop_succ_cons,List.drop_zero,List.cons.injEq,and_true] at ht
  obtain ⟨rfl,rfl⟩:=ht
  obtain ⟨x,y,hx0⟩:=len2 (l:=args.toList) (by rw [opdsOK_len ho];rfl)
  rw [hx0] at ho
  obtain ⟨r',q',hrq,hx,hy⟩:=opds2 ho
  simp only [List.cons.injEq,and_true] at hrq
  obtain ⟨rfl,rfl⟩:=hrq
  have ea:=arr2 hx0
  subst ea
  simp only [List.map_cons,List.map_nil,sem] at hs
  split at hs
  ·rename_i s' es bb v1 v2 heq
   simp only [List.cons.injEq,and_true] at heq
   obtain ⟨e1,e2,_⟩:=heq
   obtain ⟨rfl,p2,p3,rfl⟩:=hs
   simp only [List.map_cons,List.map_nil,gsem] at hg
   split at hg
   ·rename_i k1 s1 g s2 heq2
    simp only [List.cons.injEq,and_true,Opd.gh] at heq2
    obtain ⟨g1,g2,g3,g4⟩:=heq2
    split at hg
    ·rename_i hc
     obtain ⟨rfl,rfl,rfl,hne⟩:=hc
     cases hg
     have hrep:=(h.opd hy (small_mem hsm (by simp [Op.operands,Call.operands]))).rep (by rw [e2];simp)
     rw [e2] at hrep
     have hsrc:Source C.P w 1 (a.eval y) (bb.data.toList.map byteAV).length (bb.data.toList.map fun b => .int .u8 b.toNat):=by
      rw [hrep.v_inv,List.length_map];exact Source.of_string bb
     exact op_ap (q:=q) h rfl hl rfl q1 q2 q5 q6 q7 q8 q3 hx (small_mem hsm (by simp [Op.operands,Call.operands])) e1 g1 g3 g4 hne hsrc (by rw [bytes_cells];exact bytes_repL _)
      (fun e he=>by obtain ⟨x,_,rfl⟩:=List.mem_map.1 he;rfl) (by rw [List.length_map];exact p2) (by rw [List.length_map,q4];exact p3) hK
    ·cases hg
   ·cases hg
  ·cases hs
 ·cases ho
theorem nilArg {args:List Operand} {q:Opd} (h:(match args with | [.const (.slice none 0 0),x]=>opdOK x q | _=>false)=true):∃x,args=[.const (.slice none 0 0),x]∧opdOK x q=true:=by
 split at h
 ·exact ⟨_,rfl,h⟩
 ·cases h
theorem k_an {d' s b:Nat}:KindOK C sg (.an d' s b):=by
 intro D σ γ a w dst op ty pos after guard rs ds gd ws gs K' Q h ho hk hsm hs hg hK
 simp only [keysOK,Bool.and_eq_true,beq_iff_eq,List.map_cons,List.map_nil] at hk
 obtain ⟨⟨hk0,hk1⟩,hk2⟩:=hk
 obtain ⟨d,rfl,hl,rfl⟩:=dOK0 hk2
 simp only [opOK] at ho
 split at ho
 ·rename_i args ats q r2
  simp only [Bool.and_eq_true,beq_iff_eq] at ho
  obtain ⟨⟨ho,h1⟩,h2⟩:=ho
  obtain ⟨t,u,e,i,z,du,rfl,q1,q2,q3,q4,q5,q6,q7,q8⟩:=apTypes h1 h2
  simp only [List.drop_succ_cons,List.drop_zero,List.map_cons,List.map_nil,List.cons.injEq,and_true] at hk1
  have hq:=mslot hk1
  subst hq
  obtain ⟨y,hy0,hy⟩:=nilArg ho
  have ea:=arr2 hy0
  subst ea
  simp only [List.map_cons,List.map_nil,sem] at hs
  split at hs
  ·rename_i s'' fs v1 heq
   simp only [List.cons.injEq,and_true] at heq
   obtain ⟨rfl,p1,p2,p3,rfl⟩:=hs
   simp only [List.map_cons,List.map_nil,gsem] at hg
   split at hg
   ·rename_i g heq2
    simp only [List.cons.injEq,and_true,Opd.gh] at heq2
    cases hg
    have hrep:=(h.opd hy (small_mem hsm (by simp [Op.operands,Call.operands]))).rep (by rw [heq.1];simp)
    rw [heq.1] at hrep
    obtain ⟨news,n1,n2,n3⟩:=Source.of_sl (P:=C.P) hrep
    exact op_an h rfl hl rfl q1 q2 q5 q6 q7 q8 q3 heq2.2 n1 n2 p1 p2 (by rw [q4];exact p3) hK
   ·cases hg
  ·cases hs
 ·cases ho
theorem k_ans {d' b:Nat}:KindOK C sg (.ans d' b):=by
 intro D σ γ a w dst op ty pos after guard rs ds gd ws gs K' Q h ho hk hsm hs hg hK
 simp only [keysOK,Bool.and_eq_true,beq_iff_eq,List.map_cons,List.map_nil] at hk
 obtain ⟨⟨hk0,hk1⟩,hk2⟩:=hk
 obtain ⟨d,rfl,hl,rfl⟩:=dOK0 hk2
 simp only [opOK] at ho
 split at ho
 ·rename_i args ats q r2
  simp only [Bool.and_eq_true] at ho
  obtain ⟨ho,h2⟩:=ho
  obtain ⟨t,u,e,i,z,du,rfl,q1,q2,q3,q4,q5,q6,q7,q8⟩:=apTypesS h2
  simp only [List.drop_succ_cons,List.drop_zero,List.map_cons,List.map_nil,List.cons.injEq,and_true] at hk1
  have hq:=mslot hk1
  subst hq
  obtain ⟨y,hy0,hy⟩:=nilArg ho
  have ea:=arr2 hy0
  subst ea
  simp only [List.map_cons,List.map_nil,sem] at hs
  split at hs
  ·rename_i bb v1 heq
   simp only [List.cons.injEq,and_true] at heq
   obtain ⟨p2,p3,rfl⟩:=hs
   simp only [List.map_cons,List.map_nil,gsem] at hg
   split at hg
   ·rename_i g heq2
    simp only [List.cons.injEq,and_true,Opd.gh] at heq2
    cases hg
    have hrep:=(h.opd hy (small_mem hsm (by simp [Op.operands,Call.operands]))).rep (by rw [heq.1];simp)
    rw [heq.1] at hrep
    have hsrc:Source C.P w 1 (a.eval y) (bb.data.toList.map byteAV).length (bb.data.toList.map fun b => .int .u8 b.toNat):=by
     rw [hrep.v_inv,List.length_map];exact Source.of_string bb
    exact op_an h rfl hl rfl q1 q2 q5 q6 q7 q8 q3 heq2.2 hsrc (by rw [bytes_cells];exact bytes_repL _)
     (fun e he=>by obtain ⟨x,_,rfl⟩:=List.mem_map.1 he;rfl) (by rw [List.length_map];exact p2) (by rw [List.length_map,q4];exact p3) hK
   ·cases hg
  ·cases hs
 ·cases ho
theorem k_mk {d' s b:Nat} {z:AV}:KindOK C sg (.mk d' s b z):=by
 intro D σ γ a w dst op ty pos after guard rs ds gd ws gs K' Q h ho hk hsm hs hg hK
 simp only [keysOK,Bool.and_eq_true,beq_iff_eq,List.map_cons,List.map_nil] at hk
 obtain ⟨⟨hk0,hk1⟩,hk2⟩:=hk
 obtain ⟨d,rfl,hl,rfl⟩:=dOK0 hk2
 simp only [opOK] at ho
 split at ho
 ·rename_i t l c r q r3
  simp only [Bool.and_eq_true] at ho
  obtain ⟨⟨ht,ho⟩,hz⟩:=ho
  obtain ⟨e,i,zv,q1,q2,q3,q4,q5,q6,q7⟩:=sliceOK_spec ht
  obtain ⟨r',q',hrq,hx,hy⟩:=opds2 ho
  simp only [List.cons.injEq,and_true] at hrq
  obtain ⟨rfl,rfl⟩:=hrq
  simp only [List.drop_succ_cons,List.drop_zero,List.map_cons,List.map_nil,List.cons.injEq,and_true] at hk1
  have hq:=mslot hk1
  subst hq
  have he:elemT C.P t=some e:=by unfold elemT;rw [q1];rfl
  rw [he] at hz
  simp only [Option.any_some,Bool.and_eq_true] at hz
  obtain ⟨i',zv',z1,z2,z3⟩:=zeroOK_spec hz.1
  rw [q2] at z1
  cases z1
  rw [q5] at z2
  cases z2
  simp only [List.map_cons,List.map_nil,sem] at hs
  split at hs
  ·rename_i ll cc v1 heq
   simp only [List.cons.injEq,and_true] at heq
   obtain ⟨p1,p2,p3,p4,p5,p6,rfl⟩:=hs
   simp only [List.map_cons,List.map_nil,gsem] at hg
   split at hg
   ·rename_i g1 g2 heq2
    simp only [List.cons.injEq,and_true,Opd.gh] at heq2
    cases hg
    exact op_mk h rfl hl rfl q1 q2 q3 q5 q6 q7 z3 hx hy (small_mem hsm (by simp [Op.operands])) (small_mem hsm (by simp [Op.operands])) heq.1 heq.2.1 p2 p3 p4 (by rw [q4];exact p5) p6 heq2.2.2 hK
   ·cases hg
  ·cases hs
 ·cases ho
end
end Go.Eng
namespace Go.Eng
open Go.RowKit
theorem flat_get {s:Nat}:∀{es:List AV} {i:Nat} {e:AV},(∀x∈es,x.cells.length=s)→es[i]?=some e→((es.flatMap AV.cells).drop (i * s)).take s=e.cells
 | x :: es,0,e,h,he=>by
  simp at he;subst he
  have:=h x (by simp)
  simp [←this]
 | x :: es,i+1,e,h,he=>by
  have hx:=h x (by simp)
  have ih:=flat_get (es:=es) (i:=i) (e:=e) (fun y hy=>h y (by simp [hy])) (by simpa using he)
  simp only [List.flatMap_cons]
  rw [show (i+1) * s=x.cells.length+i * s by rw [hx,Nat.succ_mul];omega,←List.drop_drop,List.drop_left]
  exact ih
 | [],_,_,_,he=>by simp at he
theorem flatLen {s:Nat}:∀{es:List AV},(∀x∈es,x.cells.length=s)→(es.flatMap AV.cells).length=es.length * s
 | [],_=>by simp
 | x :: es,h=>by
  have h1:=h x (by simp)
  have h2:=flatLen (es:=es) (fun y hy=>h y (List.mem_cons_of_mem _ hy))
  simp only [List.flatMap_cons,List.length_append,List.length_cons,Nat.succ_mul,h1,h2]
  omega
theorem flat_set {s o:Nat}:∀{es:List AV} {i:Nat} {e e':AV} {xs:List AV},(∀x∈es,x.cells.length=s)→es[i]?=some e→e'.cells=splice e.cells o xs→o+xs.length≤s →
  (es.set i e').flatMap AV.cells=splice (es.flatMap AV.cells) (i * s+o) xs
 | x :: es,0,e,e',xs,h,he,h',hl=>by
  simp at he;subst he
  have hx:=h x (by simp)
  simp only [List.set_cons_zero,List.flatMap_cons,h',splice,Nat.zero_mul,Nat.zero_add]
  rw [List.take_append_of_le_length (by omega),List.drop_append_of_le_length (by omega)]
  simp
 | x :: es,i+1,e,e',xs,h,he,h',hl=>by
  have hx:=h x (by simp)
  have ih:=flat_set (es:=es) (i:=i) (e:=e) (fun y hy=>h y (by simp [hy])) (by simpa using he) h' hl
  simp only [List.set_cons_succ,List.flatMap_cons,ih,splice]
  have e1:(i+1) * s+o=x.cells.length+(i * s+o):=by rw [hx,Nat.succ_mul];omega
  rw [e1,show x.cells.length+(i * s+o)+xs.length=x.cells.length+(i * s+o+xs.length) by omega]
  simp [List.take_append,List.drop_append,List.take_of_length_le,List.drop_of_length_le]
 | [],_,_,_,_,_,he,_,_=>by simp at he
theorem partEl_cells {e x:AV} {o n:Nat} {agg:Bool} (h:partEl e o n agg=some x):partAV e.cells o n agg=some x:=by
 unfold partEl at h
 split at h
 ·exact h
 ·rename_i hne
  rw [Option.ite_none_right_eq_some] at h
  obtain ⟨⟨rfl,rfl,rfl⟩,h⟩:=h
  cases h
  have:e.cells=[e]:=by cases e <;> first | rfl | exact (hne _ rfl).elim
  simp [partAV,this]
theorem putEl_cells {e e' x:AV} {o:Nat} (h:putEl e o x=some e'):e'.cells=splice e.cells o x.cells∧o+x.cells.length≤e.cells.length:=by
 unfold putEl at h
 split at h
 ·rw [Option.ite_none_right_eq_some] at h
  obtain ⟨h1,h⟩:=h
  cases h
  exact ⟨rfl,h1⟩
 ·rename_i hne
  rw [Option.ite_none_right_eq_some] at h
  obtain ⟨⟨rfl,hx⟩,h⟩:=h
  obtain rfl:=Option.some.inj h
  have h1:e.cells=[e]:=by cases e <;> first | rfl | exact (hne _ rfl).elim
  have h2:x.cells=[x]:=by cases x <;> first | rfl | cases hx
  rw [h1,h2]
  exact ⟨by simp [splice],by simp⟩
section
variable {C:Ctx} {D:Dyn} {σ:Sg} {γ:Ga} {a:Act} {w:World}
theorem Sim.pvAt (h:Sim C D σ γ a w) {key s:Nat} (hk:γ key = .pv s):TipOK D.R w (D.τ key) s∧PrivOK D.R w (D.τ key) s (σ key):=⟨(h.ps key s (by rw [hk];rfl)).1,(h.ps key s (by rw [hk];rfl)).2.1⟩
theorem Sim.pvSep (h:Sim C D σ γ a w) {key key' s g:Nat} (hk:γ key = .pv s) (h1:blk D γ key=some g) (h2:blk D γ key'=some g):key'=key:=by
 rcases h.sep key key' g h1 h2 with e | e | e
 ·exact e.symm
 ·rw [hk] at e;cases e
 ·cases hg:γ key' <;> rw [hg] at e <;> first | (cases e;done) | skip
  cases e
  have:=h.inv key'
  rw [hg] at this
  rcases this with e | ⟨s',e⟩ <;> rw [hk] at e <;> cases e
theorem Sim.turnP (h:Sim C D σ γ a w) {key s g:Nat} (hk:γ key = .pv s) (hg:(D.τ key).ownBlock=some g) {w':World} (os:w'.os=w.os) (tape:w'.tape=w.tape) (out:w'.output=w.output) (size:w'.heap.size=w.heap.size)
  (hh:∀b,b≠g→w'.heap[b]?=w.heap[b]?) {x:AV} (ht:TipOK D.R w' (D.τ key) s) (hp:PrivOK D.R w' (D.τ key) s x):Sim C D (upd σ key x) γ a w':=by
 have hbk:blk D γ key=some g:=(blk_isP (by rw [hk];rfl)).trans hg
 have hnR:∀o,¬D.R g o:=(h.pvAt hk).2.1 g hg
 have keep:Keeps D.R w D.R w':=fun b o hr=>⟨hr,World.cell?_of_block (w:=w) (hh b (fun e=>hnR o (e ▸ hr)))⟩
 have hlk:1000000≤key:=h.lrng key (by rw [hk];rfl)
 have hne:∀key' g',key'≠key→blk D γ key'=some g'→g'≠g:=fun key' g' hn hb e=>hn (h.pvSep hk hbk (e ▸ hb))
 refine ⟨h.size,h.defers,h.ntlt,h.rng,h.lrng,fun t ht'=>?_,fun m ts hm=>?_,fun key' s' hk'=>?_,fun key' s' hs=>?_,h.sep,h.own,h.inv,?_,fun b o hr=>by rw [size];exact h.rlt b o hr,fun n=>(h.gl n).mono keep,h.fix⟩
 ·have e:t≠key:=by have:=h.ntlt;omega
  rw [upd_ne _ _ e]
  exact (h.slot t ht').imp id fun ⟨r,g⟩=>⟨r.mono keep,g⟩
 ·have e:m≠key:=fun e=>by subst e;rw [hk] at hm;cases hm
  rw [upd_ne _ _ e]
  obtain ⟨cs,hv,hts⟩:=h.mem m ts hm
  exact ⟨cs,hv.keep keep (hh _ (hne m _ e (blk_cl hm))) hv.noR,hts⟩
 ·have e:key'≠key:=fun e=>by subst e;rw [hk] at hk';cases hk'
  exact (h.tip key' s' hk').keep fun g' hg'=>⟨hh g' (hne key' g' e ((blk_live hk').trans hg')),fun _ hr=>hr⟩
 ·have hpre:PreAt (upd σ key x) γ key':=fun d s1 s2 e1 e2=>by
   by_cases e:key'=key
   ·subst e;rw [hk] at e1;cases e1
   ·have e':d≠key:=fun e'=>by subst e';rw [hk] at e2;cases e2
    rw [upd_ne _ _ e,upd_ne _ _ e'];exact (h.ps key' s' hs).2.2 d s1 s2 e1 e2
  by_cases e:key'=key
  ·subst e
   rw [hk] at hs
   cases hs
   rw [upd_same]
   exact ⟨ht,hp,hpre⟩
  ·rw [upd_ne _ _ e]
   obtain ⟨h1,h2,_⟩:=h.ps key' s' hs
   have hb:=fun g' hg'=>hne key' g' e ((blk_isP (Gh.psz_isP hs)).trans hg')
   exact ⟨h1.keep fun g' hg'=>⟨hh g' (hb g' hg'),fun _ hr=>hr⟩,h2.keep keep fun g' hg'=>⟨hh g' (hb g' hg'),fun _ hr=>hr⟩,hpre⟩
 ·have hmine:=h.own key g hbk
  refine ⟨os.trans h.ext.os,tape.trans h.ext.tape,out.trans h.ext.output,by rw [size];exact h.ext.size,fun b hb hn=>?_,h.ext.keep.trans keep,h.ext.rnew⟩
  refine (hh b fun e=>?_).trans (h.ext.heap b hb hn)
  subst e
  rcases hmine with hm' | hm'
  ·exact hn hm'
  ·omega
theorem Sim.putPriv (h:Sim C D σ γ a w) {d k s:Nat} {v:Value} {x:AV} (hd:d<C.nt) (hk:γ (lk k) = .no) (ht:TipOK D.R w v s) (hp:PrivOK D.R w v s x) (hg:∀g,v.ownBlock=some g→C.mine g∧∀key,blk D γ key≠some g) :
  Sim C { D with τ:=upd D.τ (lk k) v } (updL σ [d,lk k] [.pt,x]) (updL γ [d,lk k] [.tip k s,.pv s]) (a.put (some d) v) w:=by
 have h1:=h.newTip hk ht hg
 -- from a tip to a private slice
 have h2:Sim C { D with τ:=upd D.τ (lk k) v } (upd σ (lk k) x) (upd γ (lk k) (.pv s)) a w:=by
  have hγ:∀j,j≠lk k→upd γ (lk k) (.pv s) j=upd γ (lk k) (.live s) j:=fun j hj=>by rw [upd_ne _ _ hj,upd_ne _ _ hj]
  have hb:∀key,blk { D with τ:=upd D.τ (lk k) v } (upd γ (lk k) (.pv s)) key=blk { D with τ:=upd D.τ (lk k) v } (upd γ (lk k) (.live s)) key:=fun key=>by
   unfold blk
   by_cases e:key=lk k
   ·subst e;rw [upd_same,upd_same]
   ·rw [hγ _ e]
  have hpar:∀key,(upd γ (lk k) (.pv s) key).par=(upd γ (lk k) (.live s) key).par:=fun key=>by
   by_cases e:key=lk k
   ·subst e;rw [upd_same,upd_same];rfl
   ·rw [hγ _ e]
  have hcl:∀key,(upd γ (lk k) (.pv s) key).isCl=(upd γ (lk k) (.live s) key).isCl:=fun key=>by
   by_cases e:key=lk k
   ·subst e;rw [upd_same,upd_same];rfl
   ·rw [hγ _ e]
  have hlk:∀key,(upd γ (lk k) (.pv s) key).isLk=(upd γ (lk k) (.live s) key).isLk:=fun key=>by
   by_cases e:key=lk k
   ·subst e;rw [upd_same,upd_same];rfl
   ·rw [hγ _ e]
  have hM:∀g,Ment (upd γ (lk k) (.live s)) g→Ment (upd γ (lk k) (.pv s)) g:=fun g hg=>by
   cases g <;> simp only [Ment,hcl,hlk] at hg ⊢ <;> first | exact hg | skip
   rename_i q s'
   have e:q≠lk k:=fun e=>by subst e;rw [upd_same] at hg;rcases hg with e | ⟨_,e⟩ <;> cases e
   rw [hγ _ e];exact hg
  have hlt:lk k<C.nt→False:=fun hl=>by have:=lk_ge k;have:=h.ntlt;omega
  refine ⟨h1.size,h1.defers,h1.ntlt,fun m hm=>h1.rng m (by rwa [hcl] at hm),fun m hm=>h1.lrng m (by rwa [hlk] at hm),fun t ht'=>?_,fun m ts hm=>?_,fun key s' hk'=>?_,fun key s' hs=>?_,fun p q g hp' hq=>(by rw [hpar,hpar];exact h1.sep p q g (by rwa [hb] at hp') (by rwa [hb] at hq)),fun p g hp'=>h1.own p g (by rwa [hb] at hp'),fun key=>?_,h1.ext,h1.rlt,h1.gl,h1.fix.of rfl (fun hp'=>by
   have e:lk 999999≠lk k:=fun e=>by rw [e,upd_same] at hp';cases hp'
   rw [hγ _ e];exact ⟨hp',rfl⟩)⟩
  ·have e:t≠lk k:=fun e=>hlt (e ▸ ht')
   rw [upd_ne _ _ e,hγ _ e];exact h1.slot t ht'
  ·have e:m≠lk k:=fun e=>by subst e;rw [upd_same] at hm;cases hm
   rw [hγ _ e] at hm
   rw [upd_ne _ _ e];exact h1.mem m ts hm
  ·have e:key≠lk k:=fun e=>by subst e;rw [upd_same] at hk';cases hk'
   rw [hγ _ e] at hk';exact h1.tip key s' hk'
  ·have hpre:PreAt (upd σ (lk k) x) (upd γ (lk k) (.pv s)) key:=fun d s1 s2 e1 e2=>by
    have e:key≠lk k:=fun e=>by subst e;rw [upd_same] at e1;cases e1
    have e':d≠lk k:=fun e'=>by subst e';rw [upd_same] at e2;cases e2
    rw [hγ _ e] at e1;rw [hγ _ e'] at e2
    rw [upd_ne _ _ e,upd_ne _ _ e'];exact (h1.ps key s1 (by rw [e1];rfl)).2.2 d s1 s2 e1 e2
   by_cases e:key=lk k
   ·subst e
    rw [upd_same] at hs
    cases hs
    simp only [upd_same]
    exact ⟨ht,hp,hpre⟩
   ·rw [hγ _ e] at hs
    rw [upd_ne _ _ e];exact ⟨(h1.ps key s' hs).1,(h1.ps key s' hs).2.1,hpre⟩
  ·by_cases e:key=lk k
   ·subst e;rw [upd_same];trivial
   ·rw [hγ _ e];exact hM _ (h1.inv key)
 refine h2.put (g := .tip k s) hd (.inr ⟨.pt _,?_⟩) rfl rfl ?_
 ·intro _;show v=upd D.τ (lk k) v (lk k)∧v.oneCell'=true
  rw [upd_same]
  exact ⟨rfl,by rcases ht with rfl | ⟨_,_,_,_,_,_,rfl,_⟩ <;> rfl⟩
 ·show (upd γ (lk k) (.pv s) (lk k)).isLk=true
  rw [upd_same];rfl
end
end Go.Eng
namespace Go.Eng
open Go.RowKit
theorem take_of_get {cur:Array Value} {ys:List Value} (h:∀(j:Nat) (y:Value),ys[j]?=some y→cur[j]?=some y):cur.toList.take ys.length=ys:=by
 apply List.ext_getElem?
 intro j
 rw [List.getElem?_take]
 split
 ·rename_i hj
  have:=h j ys[j] (List.getElem?_eq_getElem hj)
  rw [List.getElem?_eq_getElem hj]
  simpa using this
 ·rename_i hj
  exact (List.getElem?_eq_none (by omega)).symm
section
variable {C:Ctx} {D:Dyn} {σ:Sg} {γ:Ga} {a:Act} {w:World} {o:Oper} {d:Nat} {K:Act→World→Prop} {Q:Exit→Act→World→Prop}
theorem Sim.thaw (h:Sim C D σ γ a w) {k s:Nat} {es:List AV} (h9:k≠999999) (hk:γ (lk k) = .pv s) (hx:σ (lk k) = .sl s es) :
  ∃R',Sim C { D with R:=R' } (upd σ (lk k) .dead) (upd γ (lk k) (.live s)) a w∧Rep R' w (.sl s es) (D.τ (lk k))∧Keeps D.R w R' w:=by
 obtain ⟨ht,hp1,hp2⟩:=h.pvAt hk
 rw [hx] at hp2
 have hp2:=hp2.resolve_left (by simp)
 obtain ⟨es',he,hes,hp⟩:=hp2
 cases he
 have hbk:blk D γ (lk k)=(D.τ (lk k)).ownBlock:=blk_isP (by rw [hk];rfl)
 let R':Reach:=fun b o=>D.R b o∨((D.τ (lk k)).ownBlock=some b∧o<es.length * s)
 have keep:Keeps D.R w R' w:=fun b o hr=>⟨.inl hr,rfl⟩
 have hne:∀key' g,key'≠lk k→blk D γ key'=some g→∀o,R' g o→D.R g o:=fun key' g hn hb o hr=>by
  rcases hr with hr | ⟨hr,_⟩
  ·exact hr
  ·exact (hn (h.pvSep hk (hbk.trans hr) hb)).elim
 have hγ:∀j,j≠lk k→upd γ (lk k) (.live s) j=γ j:=fun j hj=>upd_ne _ _ hj
 have hb:∀key,blk { D with R:=R' } (upd γ (lk k) (.live s)) key=blk D γ key:=fun key=>by
  unfold blk
  by_cases e:key=lk k
  ·subst e;rw [upd_same,hk]
  ·rw [hγ _ e]
 have hpar:∀key,(upd γ (lk k) (.live s) key).par=(γ key).par:=fun key=>by
  by_cases e:key=lk k
  ·subst e;rw [upd_same,hk];rfl
  ·rw [hγ _ e]
 have hcl:∀key,(upd γ (lk k) (.live s) key).isCl=(γ key).isCl:=fun key=>by
  by_cases e:key=lk k
  ·subst e;rw [upd_same,hk];rfl
  ·rw [hγ _ e]
 have hlk:∀key,(upd γ (lk k) (.live s) key).isLk=(γ key).isLk:=fun key=>by
  by_cases e:key=lk k
  ·subst e;rw [upd_same,hk];rfl
  ·rw [hγ _ e]
 have hM:∀g,Ment γ g→Ment (upd γ (lk k) (.live s)) g:=fun g hg=>by
  cases g <;> simp only [Ment,hcl,hlk] at hg ⊢ <;> first | exact hg | skip
  rename_i q s'
  have e:q≠lk k:=fun e=>by subst e;rcases hg with e | ⟨_,e⟩ <;> rw [hk] at e <;> cases e
  rw [hγ _ e];exact hg
 have hlt:lk k<C.nt→False:=fun hl=>by have:=lk_ge k;have:=h.ntlt;omega
 refine ⟨R',⟨h.size,h.defers,h.ntlt,fun m hm=>h.rng m (by rwa [hcl] at hm),fun m hm=>h.lrng m (by rwa [hlk] at hm),fun t ht'=>?_,fun m ts hm=>?_,fun key s' hk'=>?_,fun key s' hs=>?_,fun p q g hp' hq=>(by rw [hpar,hpar];exact h.sep p q g (by rwa [hb] at hp') (by rwa [hb] at hq)),fun p g hp'=>h.own p g (by rwa [hb] at hp'),fun key=>?_,?_,fun b o hr=>?_,fun n=>(h.gl n).mono keep,h.fix.of rfl (fun hp=>by
  have e:lk 999999≠lk k:=fun e=>h9 (lk_inj e).symm
  rw [upd_ne _ _ e];exact ⟨hp,rfl⟩)⟩,?_,keep⟩
 ·have e:t≠lk k:=fun e=>hlt (e ▸ ht')
  rw [upd_ne _ _ e,hγ _ e]
  exact (h.slot t ht').imp id fun ⟨r,g⟩=>⟨r.mono keep,fun hs=>by have g:=g hs;cases hg:γ t <;> rw [hg] at g <;> exact g⟩
 ·have e:m≠lk k:=fun e=>by subst e;rw [upd_same] at hm;cases hm
  rw [hγ _ e] at hm
  rw [upd_ne _ _ e]
  obtain ⟨cs,hv,hts⟩:=h.mem m ts hm
  exact ⟨cs,hv.keep keep rfl (fun o hr=>hv.noR o (hne m _ e (blk_cl hm) o hr)),hts⟩
 ·by_cases e:key=lk k
  ·subst e
   rw [upd_same] at hk'
   cases hk'
   rcases hp with ⟨rfl,e0⟩ | ⟨g,cap,cur,e,fz,e0,hg,hL⟩
   ·exact .inl e0
   ·rcases ht with e1 | ⟨g',n,cap',cur',e',fz',e1,h1,h2,h3,h4,h5,h6⟩
    ·rw [e0] at e1;cases e1
    ·refine .inr ⟨g',n,cap',cur',e',fz',e1,h1,h2,h3,h4,h5,fun o ho hr=>?_⟩
     rcases hr with hr | ⟨_,hr⟩
     ·exact h6 o ho hr
     ·rw [e0] at e1;cases e1;omega
  ·rw [hγ _ e] at hk'
   exact (h.tip key s' hk').keep fun g hg=>⟨rfl,hne key g e ((blk_live hk').trans hg)⟩
 ·have e:key≠lk k:=fun e=>by subst e;rw [upd_same] at hs;cases hs
  rw [hγ _ e] at hs
  rw [upd_ne _ _ e]
  obtain ⟨h1,h2,h3⟩:=h.ps key s' hs
  have hb':=fun g hg=>hne key g e ((blk_isP (Gh.psz_isP hs)).trans hg)
  refine ⟨h1.keep fun g hg=>⟨rfl,hb' g hg⟩,h2.keep keep fun g hg=>⟨rfl,hb' g hg⟩,fun d s1 s2 e1 e2=>?_⟩
  have e':d≠lk k:=fun e'=>by subst e';rw [upd_same] at e2;cases e2
  rw [hγ _ e] at e1;rw [hγ _ e'] at e2
  rw [upd_ne _ _ e,upd_ne _ _ e'];exact h3 d s1 s2 e1 e2
 ·by_cases e:key=lk k
  ·subst e;rw [upd_same];trivial
  ·rw [hγ _ e];exact hM _ (h.inv key)
 ·refine ⟨h.ext.os,h.ext.tape,h.ext.output,h.ext.size,h.ext.heap,h.ext.keep.trans keep,fun b o hr=>?_⟩
  rcases hr with hr | ⟨hr,_⟩
  ·exact h.ext.rnew b o hr
  ·rcases h.own (lk k) b (hbk.trans hr) with e | e
   ·exact .inr (.inr e)
   ·exact .inr (.inl e)
 ·rcases hr with hr | ⟨hr,_⟩
  ·exact h.rlt b o hr
  ·exact ht.lt hr
 ·rcases hp with ⟨rfl,e0⟩ | ⟨g,cap,cur,e,fz,e0,hg,hL⟩
  ·rw [e0];exact .nil s
  ·have hcap:es.length≤cap∧cap≤maxLen∧cur.size=cap * s:=by
    rcases ht with e1 | ⟨g',n,cap',cur',e',fz',e1,h1,h2,h3,h4,h5,h6⟩
    ·rw [e0] at e1;cases e1
    ·rw [e0] at e1;cases e1
     rw [hg] at h1;cases h1
     exact ⟨h4,h5,h3⟩
   have hle:es.length * s≤cap * s:=Nat.mul_le_mul_right _ hcap.1
   rw [e0]
   refine .sl rfl hcap.1 hcap.2.1 (RepE.write hes (hL.mono keep) (fun j hj => .inr ⟨by rw [e0];rfl,by omega⟩) fun j y hy=>?_)
   rw [List.getElem?_take] at hy
   split at hy
   ·simp only [World.cell?,hg,Nat.zero_add]
    simpa using hy
   ·cases hy
variable (h:Sim C D σ γ a w) (hl:d<C.nt)
include h
theorem op_pss (hd:o.dst=some d) (hl:d<C.nt) {x:Operand} {r:Opd} {t u e:TypeId} {b:ByteArray} {k:Nat} (ho:o.op = .convert t u x) (ht:C.P.underlying t=some .string) (hu:C.P.underlying u=some (.slice e)) (he:C.P.underlying e=some (.int .u8))
  (hx:opdOK x r=true) (hs1:small C.nt [x]=true) (hr:r.ev C.E σ = .v (.string b)) (hb:b.data.toList.length≤maxLen) (hk:γ (lk k) = .no)
  (hK:∀D' a' w',Sim C D' (updL σ [d,lk k] [.pt,.sl 1 (b.data.toList.map byteAV)]) (updL γ [d,lk k] [.tip k 1,.pv 1]) a' w'→K a' w'):o.wp C.P a w K Q:=by
 have e1:=(h.opd hx hs1).rep (by rw [hr];simp)
 rw [hr] at e1
 have hrun:=run_bytes_of_string (P:=C.P) w t u e b ht hu he
 have hge:=grownCap_ge w b.size 0 e
 have hle:=grownCap_le_maxLen w b.size 0 e (by rwa [bsize] at hb)
 let cur:=bytesRow b (grownCap w b.size 0 e)
 let w1:World:=w.drew.alloc (.cells cur e (cur.size,cur.size+1))
 have hnew:w1.heap[w.heap.size]?=some (.cells cur e (cur.size,cur.size+1)):=by
  show (w.heap.push _)[w.heap.size]?=_
  simp
 have hold:∀c,c<w.heap.size→w1.heap[c]?=w.heap[c]?:=fun c hc=>by
  show (w.heap.push _)[c]?=_
  rw [Array.getElem?_push,if_neg (by omega)]
 have hS:Sim C { D with R:=D.R } σ γ a w1:=h.grow (w':=w1) (R':=D.R) rfl rfl rfl (by show _≤(w.heap.push _).size;simp) hold (fun _ _ h=>h) (fun _ _ h => .inl h) (fun c q hr=>by
  show c<(w.heap.push _).size
  have:=h.rlt c q hr
  simp;omega)
 have hnR:∀q,¬D.R w.heap.size q:=fun q hr=>by have:=h.rlt _ q hr;omega
 have hsz:cur.size=grownCap w b.size 0 e * 1:=by
  have:b.data.size=b.size:=rfl
  simp only [cur,bytesRow,Array.size_append,Array.size_map,Array.size_replicate,this];omega
 have hcur:cur.toList.take (b.data.toList.map byteAV).length=b.data.toList.map fun x => .int .u8 x.toNat:=by
  have:=take_of_get (cur:=cur) (ys:=b.data.toList.map fun x => .int .u8 x.toNat) (fun j y hj=>by
   have hlt:=(List.getElem?_eq_some_iff.1 hj).1
   simp only [cur]
   unfold bytesRow
   rw [Array.getElem?_append_left (by simp at hlt ⊢;exact hlt)]
   simpa using hj)
  simpa using this
 unfold Oper.wp
 rw [show (execOp a.eval o).run C.P w = .ok (.value (.slice (some ⟨w.heap.size,0,none⟩) b.size (grownCap w b.size 0 e))) w1 by simp only [execOp,ho,e1.v_inv,Sem.run_bind,hrun,Result.andThen_ok,Sem.run_pure];rfl,Oper.upon_value,hd]
 refine hK _ _ _ (Sim.putPriv hS hl hk (.inr ⟨_,_,_,_,_,_,rfl,hnew,by simp only;intro q hq;omega,hsz,hge,hle,fun q _=>hnR q⟩) ⟨fun g hg q=>?_,.inr ⟨_,rfl,?_,.inr ⟨w.heap.size,grownCap w b.size 0 e,cur,e,(cur.size,cur.size+1),by rw [List.length_map,bsize],hnew,?_⟩⟩⟩ fun g hg=>?_)
 ·simp [Value.ownBlock] at hg;subst hg;exact hnR q
 ·intro x hx;obtain ⟨y,_,rfl⟩:=List.mem_map.1 hx;rfl
 ·rw [Nat.mul_one,hcur,bytes_cells];exact bytes_repL _
 ·simp [Value.ownBlock] at hg
  subst hg
  exact ⟨.inr h.ext.size,fun key hk=>by have:=h.lt hk;omega⟩
omit hl in
theorem Sim.retype {j:Nat} {s:AV} {g:Gh} (hj:j<C.nt) (hs:SlotOK D w s g (a.tmps.getD j undef)) (g1:g.isCl=false) (g2:g.isLk=false) (gm:Ment γ g):Sim C D (upd σ j s) (upd γ j g) a w:=by
 have:=h.put hj hs g1 g2 gm
 have hsz:j<a.tmps.size:=by rw [h.size];exact hj
 have e:a.put (some j) (a.tmps.getD j undef)=a:=by
  unfold Act.put
  simp only
  have:a.tmps.setIfInBounds j (a.tmps.getD j undef)=a.tmps:=by
   apply Array.ext
   ·simp
   ·intro i h1 h2
    rw [Array.getElem_setIfInBounds h2]
    split
    ·rename_i e;subst e;simp [Array.getD,hsz]
    ·rfl
  rw [this]
 rwa [e] at this
theorem op_pfz {k:Nat} (h9:k≠999999) (hd:o.dst=some d) (hl:d<C.nt) {x:Operand} {j s s0:Nat} {es:List AV} (ho:o.op = .move x∨o.op = .assign x) (hx:opdOK x (.s j)=true) (hj:j<C.nt) (hr:σ j = .pt) (hg:γ j = .tip k s0)
  (hk:γ (lk k) = .pv s) (hσ:σ (lk k) = .sl s es) (hK:∀D' a' w',Sim C D' (updL σ [d,j,lk k] [.sl s es,.sl s es,.dead]) (updL γ [d,j,lk k] [.tip k s,.tip k s,.live s]) a' w'→K a' w'):o.wp C.P a w K Q:=by
 have hxt:x = .tmp j:=by cases x <;> simp [opdOK] at hx;rw [hx]
 have hs1:small C.nt [x]=true:=by rw [hxt];simp [small,hj]
 have e0:=h.opd hx hs1
 have hv:=e0.gh (by simp only [Opd.ev];rw [hr];simp) (by simp only [Opd.ev];rw [hr];simp)
 simp only [Opd.gh] at hv
 rw [hg] at hv
 obtain ⟨hv1,hv2⟩:=hv
 have hev:a.eval x=a.tmps.getD j undef:=by rw [hxt];rfl
 have hrun:(execOp a.eval o).run C.P w = .ok (.value (a.eval x)) w:=by rcases ho with e | e <;> simp [execOp,e]
 obtain ⟨R',hS,hR,_⟩:=h.thaw h9 hk hσ
 have hlk1:(upd γ (lk k) (.live s) (lk k)).isLk=true:=by rw [upd_same];rfl
 have hS2:=hS.retype (g := .tip k s) hj (.inr ⟨by rw [←hev,hv1];exact hR,fun _=>⟨hev ▸ hv1,hev ▸ hv2⟩⟩) rfl rfl hlk1
 have hjk:lk k≠j:=by have:=lk_ge k;have:=h.ntlt;omega
 unfold Oper.wp
 rw [hrun,Oper.upon_value,hd]
 refine hK _ _ _ (hS2.put (g := .tip k s) hl (.inr ⟨by rw [hv1];exact hR,fun _=>⟨hv1,hv2⟩⟩) rfl rfl ?_)
 show (upd (upd γ (lk k) (.live s)) j (.tip k s) (lk k)).isLk=true
 rw [upd_ne _ _ hjk];exact hlk1
theorem op_pln (hd:o.dst=some d) (hl:d<C.nt) {x:Operand} {r:Opd} {t e:TypeId} {k s s' s0:Nat} {es:List AV} (ho:o.op = .call { callee := .builtin .len,args:=#[x],argTypes:=#[t] }) (ht:C.P.underlying t=some (.slice e)) (hx:opdOK x r=true) (hs1:small C.nt [x]=true)
  (hr:r.ev C.E σ = .pt) (hg:r.gh γ = .tip k s0) (hk:γ (lk k) = .pv s) (hσ:σ (lk k) = .sl s' es) (hK:∀D' a' w',Sim C D' (upd σ d (.v (.int .i64 es.length))) (upd γ d .no) a' w'→K a' w'):o.wp C.P a w K Q:=by
 have e0:=h.opd hx hs1
 have hv:=e0.gh (by rw [hr];simp) (by rw [hr];simp)
 rw [hg] at hv
 obtain ⟨_,_,hp2⟩:=h.pvAt hk
 rw [hσ] at hp2
 obtain ⟨es',he,_,hp⟩:=hp2.resolve_left (by simp)
 cases he
 have hval:∃q cap,a.eval x = .slice q es.length cap:=by
  rw [hv.1]
  rcases hp with ⟨rfl,e0⟩ | ⟨g,cap,cur,e,fz,e0,_⟩
  ·exact ⟨_,_,e0⟩
  ·exact ⟨_,_,e0⟩
 obtain ⟨q,cap,hval⟩:=hval
 have hrun:(execOp a.eval o).run C.P w = .ok (.value (.int .i64 es.length)) w:=by
  simp [execOp,ho,hval,resolve,invoke,builtin,Builtin.len_,run_underlying ht,goInt]
 exact h.valNo hd hl hrun (.v _) hK
omit h hl in
theorem Rep.el_inv {R:Reach} {w:World} {i s o:Nat} {y:Value} (h:Rep R w (.el i s o) y):∃b,y = .pointer (some ⟨b,i * s+o,none⟩):=by
 cases h with
 | el _ _ _ b=>exact ⟨b,rfl⟩
theorem op_pix (hd:o.dst=some d) (hl:d<C.nt) {x y:Operand} {r q:Opd} {t e:TypeId} {inf:TypeInfo} {s s0:Nat} {es:List AV} {k:Nat} {ik:IntKind} {i:Int} (ho:o.op = .indexAddr t x y) (ht:C.P.underlying t=some (.slice e)) (hi:C.P.info? e=some inf) (hz:inf.size=s)
  (hx:opdOK x r=true) (hy:opdOK y q=true) (hs1:small C.nt [x]=true) (hs2:small C.nt [y]=true)
  (hr:r.ev C.E σ = .pt) (hg:r.gh γ = .tip k s0) (hk:γ (lk k) = .pv s) (hσ:σ (lk k) = .sl s es) (hq:q.ev C.E σ = .v (.int ik i)) (h0:0≤i) (hlt:i.toNat<es.length)
  (hK:∀D' a' w',Sim C D' (upd σ d (.el i.toNat s 0)) (upd γ d (.pe k)) a' w'→K a' w'):o.wp C.P a w K Q:=by
 have e0:=h.opd hx hs1
 have hv:=e0.gh (by rw [hr];simp) (by rw [hr];simp)
 rw [hg] at hv
 have e2:=(h.opd hy hs2).rep (by rw [hq];simp)
 rw [hq] at e2
 obtain ⟨_,_,hp2⟩:=h.pvAt hk
 rw [hσ] at hp2
 obtain ⟨es',he,_,hp⟩:=hp2.resolve_left (by simp)
 cases he
 rcases hp with ⟨rfl,_⟩ | ⟨g,cap,cur,e',fz,e1,_⟩
 ·simp at hlt
 ·have hval:a.eval x = .slice (some ⟨g,0,none⟩) es.length cap:=hv.1.trans e1
  have hrun:(execOp a.eval o).run C.P w = .ok (.value (.pointer (some ⟨g,i.toNat * s,none⟩))) w:=by
   simp [execOp,ho,hval,e2.v_inv,Instr.indexAt,asIntOf,run_underlying ht,run_sizeOf hi,hz,h0,addr_add]
   omega
  refine h.val (g := .pe k) hd hl hrun (.inr ⟨.el _ _ 0 _,fun _=>⟨g,_,_,_,e1,rfl⟩⟩) rfl rfl ?_ hK
  show (γ (lk k)).isLk=true
  rw [hk];rfl
theorem op_pfa (hd:o.dst=some d) (hl:d<C.nt) {x:Operand} {r:Opd} {t:TypeId} {f k i s o' dd:Nat} {fs:Array Field} {fl:Field} {inf:TypeInfo} (ho:o.op = .fieldAddr t x f) (ht:C.P.underlying t=some (.struct fs)) (hf:fs[f]?=some fl) (hoff:fl.offset=dd) (hi:C.P.info? fl.type=some inf) (hn:0<inf.size)
  (hx:opdOK x r=true) (hs1:small C.nt [x]=true) (hr:r.ev C.E σ = .el i s o') (hg:r.gh γ = .pe k) (hK:∀D' a' w',Sim C D' (upd σ d (.el i s (o'+dd))) (upd γ d (.pe k)) a' w'→K a' w'):o.wp C.P a w K Q:=by
 have e0:=h.opd hx hs1
 have e1:=e0.rep (by rw [hr];simp)
 have hv:=e0.gh (by rw [hr];simp) (by rw [hr];simp)
 rw [hr] at e1
 rw [hg] at hv
 obtain ⟨b,hb⟩:=Rep.el_inv e1
 obtain ⟨g,n,cap,q,hτ,hg'⟩:=hv
 rw [hb] at hg'
 cases hg'
 have hne:inf.size≠0:=by omega
 have hrun:(execOp a.eval o).run C.P w = .ok (.value (.pointer (some ⟨b,i * s+(o'+dd),none⟩))) w:=by
  simp [execOp,ho,hb,Instr.fieldAt,Instr.sureAddr,run_underlying ht,hf,fieldPlace,run_sizeOf hi,hne,addr_add,hoff,Nat.add_assoc]
 have hm:=h.ment_opd r
 rw [hg] at hm
 exact h.val (g := .pe k) hd hl hrun (.inr ⟨.el _ _ _ _,fun _=>⟨_,_,_,_,hτ,rfl⟩⟩) rfl rfl hm hK
omit hl in
theorem Sim.elAt {x:Operand} {r:Opd} {k i s o':Nat} {es:List AV} {e:AV} (hx:opdOK x r=true) (hs1:small C.nt [x]=true) (hr:r.ev C.E σ = .el i s o') (hg:r.gh γ = .pe k) (hk:γ (lk k) = .pv s) (hσ:σ (lk k) = .sl s es) (he:es[i]?=some e) :
  ∃g cap cur ce fz,D.τ (lk k) = .slice (some ⟨g,0,none⟩) es.length cap∧a.eval x = .pointer (some ⟨g,i * s+o',none⟩)∧w.heap[g]?=some (.cells cur ce fz)∧(∀o,o<cur.size→¬(fz.1≤o∧o<fz.2))∧cur.size=cap * s∧es.length≤cap ∧
   (∀e∈es,e.cells.length=s)∧RepL D.R w (es.flatMap AV.cells) (cur.toList.take (es.length * s))∧cap≤maxLen∧(∀o,¬D.R g o):=by
 have e0:=h.opd hx hs1
 have e1:=e0.rep (by rw [hr];simp)
 have hv:=e0.gh (by rw [hr];simp) (by rw [hr];simp)
 rw [hr] at e1
 rw [hg] at hv
 obtain ⟨b,hb⟩:=Rep.el_inv e1
 obtain ⟨g,n,cap,q,hτ,hg'⟩:=hv
 rw [hb] at hg'
 cases hg'
 obtain ⟨ht,hp1,hp2⟩:=h.pvAt hk
 rw [hσ] at hp2
 obtain ⟨es',hee,hes,hp⟩:=hp2.resolve_left (by simp)
 cases hee
 rcases hp with ⟨rfl,_⟩ | ⟨g',cap',cur,ce,fz,e2,hh,hL⟩
 ·simp at he
 ·rw [hτ] at e2
  cases e2
  rcases ht with e3 | ⟨g',n',cap',cur',ce',fz',e3,h1,h2,h3,h4,h5,h6⟩
  ·rw [hτ] at e3;cases e3
  ·rw [hτ] at e3
   cases e3
   rw [hh] at h1
   cases h1
   exact ⟨b,cap,cur,ce,fz,hτ,hb,hh,h2,h3,h4,hes,hL,h5,hp1 b (by rw [hτ];rfl)⟩
theorem op_pld (hd:o.dst=some d) (hl:d<C.nt) {x:Operand} {r:Opd} {t:TypeId} {inf:TypeInfo} {k i s o' n:Nat} {agg:Bool} {es:List AV} {e y:AV} (ho:o.op = .load t x) (hi:C.P.info? t=some inf) (hz:inf.size=n) (ha:isAggT C.P t=some agg) (h1:agg=true∨n=1)
  (hx:opdOK x r=true) (hs1:small C.nt [x]=true) (hr:r.ev C.E σ = .el i s o') (hg:r.gh γ = .pe k) (hk:γ (lk k) = .pv s) (hσ:σ (lk k) = .sl s es) (he:es[i]?=some e) (hp:partEl e o' n agg=some y)
  (hK:∀D' a' w',Sim C D' (upd σ d y) (upd γ d .no) a' w'→K a' w'):o.wp C.P a w K Q:=by
 obtain ⟨g,cap,cur,ce,fz,_,hv,hh,_,hsz,hle,hes,hL,_⟩:=h.elAt hx hs1 hr hg hk hσ he
 have hlt:=(List.getElem?_eq_some_iff.1 he).1
 have hLe:RepL D.R w e.cells (((cur.toList.take (es.length * s)).drop (i * s)).take s):=by
  have:=(hL.drop (i * s)).take s
  rwa [flat_get hes he] at this
 obtain ⟨hlen,hrep⟩:=part_rep hLe (partEl_cells hp) h1
 have hc:∀j y,(((((cur.toList.take (es.length * s)).drop (i * s)).take s).drop o').take n)[j]?=some y→w.cell? ⟨g,i * s+o'+j,none⟩=some y:=by
  intro j y hj
  simp only [World.cell?,hh]
  rw [List.getElem?_take] at hj
  split at hj
  ·rw [List.getElem?_drop,List.getElem?_take] at hj
   split at hj
   ·rw [List.getElem?_drop,List.getElem?_take] at hj
    split at hj
    ·rw [show i * s+o'+j=i * s+(o'+j) by omega];simpa using hj
    ·cases hj
   ·cases hj
  ·cases hj
 have hrun:=run_loadVar (P:=C.P) hi ha (hz ▸ h1) (hlen.trans hz.symm) hc
 refine h.valNo hd hl (?_:(execOp a.eval o).run C.P w = .ok (.value _) w) hrep hK
 simp only [execOp,ho,hv,Instr.loadAt,Instr.sureAddr,Sem.run_bind,Sem.run_pure,Result.andThen_ok,hrun]
omit hl in
theorem op_pst {x v:Operand} {r q:Opd} {t:TypeId} {inf:TypeInfo} {k i s o' n:Nat} {es:List AV} {e e':AV} (hd:o.dst=none) (ho:o.op = .store t x v) (hi:C.P.info? t=some inf) (hz:inf.size=n)
  (hx:opdOK x r=true) (hs1:small C.nt [x]=true) (hv:opdOK v q=true) (hs2:small C.nt [v]=true) (hr:r.ev C.E σ = .el i s o') (hg:r.gh γ = .pe k) (hk:γ (lk k) = .pv s) (hσ:σ (lk k) = .sl s es) (he:es[i]?=some e)
  (hp:(q.ev C.E σ).plain=true) (hn:(q.ev C.E σ).cells.length=n) (hpe:putEl e o' (q.ev C.E σ)=some e')
  (hK:∀D' a' w',Sim C D' (upd σ (lk k) (.sl s (es.set i e'))) (upd γ (lk k) (.pv s)) a' w'→K a' w'):o.wp C.P a w K Q:=by
 obtain ⟨g,cap,cur,ce,fz,hτ,hxv,hh,hfz,hsz,hle,hes,hL,hcm,hnR⟩:=h.elAt hx hs1 hr hg hk hσ he
 have hlt:=(List.getElem?_eq_some_iff.1 he).1
 have q0:=h.opd hv hs2
 have hqd:q.ev C.E σ ≠ .dead:=by intro e;rw [e] at hp;cases hp
 have hLv:=plain_rep (q0.rep hqd) hp
 have hlen:=hLv.length
 obtain ⟨hc1,hc2⟩:=putEl_cells hpe
 have hel:=hes e (List.mem_of_getElem? he)
 have hvn:(a.eval v).cells.toList.length=n:=hlen.symm.trans hn
 have hcn:(a.eval v).cells.size=n:=by simpa using hvn
 have hbig:(i+1) * s≤es.length * s:=Nat.mul_le_mul_right _ hlt
 have hbig2:es.length * s≤cap * s:=Nat.mul_le_mul_right _ hle
 rw [Nat.succ_mul] at hbig
 have hst:=run_storeCells_free (P:=C.P) g (i * s+o') ce fz (a.eval v).cells.toList 0 cur w hh (by rw [hvn];omega) hfz hLv.one
 simp only [Nat.add_zero] at hst
 let new:Array Value:=(cur.toList.take (i * s+o')++(a.eval v).cells.toList++cur.toList.drop (i * s+o'+(a.eval v).cells.toList.length)).toArray
 have hrun:(execOp a.eval o).run C.P w = .ok .skip (w.setRow g new):=by
  have:¬((a.eval v).cells.size≠n):=by omega
  simp only [execOp,ho,hxv,Instr.storeAt,Instr.sureAddr,Sem.run_bind,Sem.run_pure,Result.andThen_ok,storeVar,run_sizeOf hi,hz,Sem.run_ite,this,if_false,hst]
  rfl
 have hh':=setRow_heap w g cur new ce fz hh
 have hnsz:new.size=cur.size:=by simp [new];omega
 have keep:Keeps D.R w D.R (w.setRow g new):=fun b o hr=>⟨hr,cell_setRow_other w g _ ⟨b,o,none⟩ (fun e=>hnR o (by have:b=g:=e;rw [←this];exact hr))⟩
 have hob:(D.τ (lk k)).ownBlock=some g:=by rw [hτ];rfl
 have hes':∀y∈es.set i e',y.cells.length=s:=fun y hy=>by
  rcases List.mem_or_eq_of_mem_set hy with hy | rfl
  ·exact hes y hy
  ·rw [hc1];simp [splice];omega
 have hS:=h.turnP hk hob (w':=w.setRow g new) rfl rfl rfl (by simp) (fun b hb=>setRow_other w g b _ hb) (x := .sl s (es.set i e'))
  (.inr ⟨g,es.length,cap,new,ce,fz,hτ,hh',fun o ho=>hfz o (by omega),hnsz.trans hsz,hle,hcm,fun o _=>hnR o⟩)
  ⟨fun g' hg' o=>by rw [hob] at hg';cases hg';exact hnR o,.inr ⟨_,rfl,hes',.inr ⟨g,cap,new,ce,fz,by rw [List.length_set];exact hτ,hh',by
   rw [List.length_set,flat_set hes he hc1 (by omega)]
   have hnt:new.toList.take (es.length * s)=(cur.toList.take (es.length * s)).take (i * s+o')++(a.eval v).cells.toList++(cur.toList.take (es.length * s)).drop (i * s+o'+(a.eval v).cells.toList.length):=by
    have hcl:cur.toList.length=cap * s:=by simpa using hsz
    apply List.ext_getElem?
    intro j
    simp only [new,List.getElem?_take,List.getElem?_append,List.length_append,List.length_take,List.getElem?_drop,hvn,hcl]
    have e1:min (i * s+o') (cap * s)=i * s+o':=by omega
    have e2:min (i * s+o') (min (es.length * s) (cap * s))=i * s+o':=by omega
    simp only [e1,e2]
    by_cases c1:j<es.length * s
    ·by_cases c2:j<i * s+o'
     ·simp [c1,c2,show j<i * s+o'+n by omega]
     ·by_cases c3:j<i * s+o'+n
      ·simp [c1,c2,c3]
      ·simp [c1,c2,c3,show i * s+o'+n+(j - (i * s+o'+n))<es.length * s by omega]
    ·have c2:¬j<i * s+o':=by omega
     have c3:¬j<i * s+o'+n:=by omega
     simp [c1,c3,show ¬i * s+o'+n+(j - (i * s+o'+n))<es.length * s by omega]
   rw [hnt]
   simp only [splice,hlen]
   exact (((hL.take _).append hLv).append (hL.drop _)).mono keep⟩⟩⟩
 have eγ:upd γ (lk k) (.pv s)=γ:=by
  funext j
  by_cases e:j=lk k
  ·subst e;rw [upd_same,hk]
  ·rw [upd_ne _ _ e]
 unfold Oper.wp
 rw [hrun,Oper.upon_skip,hd]
 rw [eγ] at hK
 exact hK _ _ _ (by simpa [Act.put] using hS)
end
end Go.Eng
namespace Go.Eng
open Go.RowKit
section
variable {C:Ctx} {sg:Nat→FSig}
theorem k_pss {k:Nat}:KindOK C sg (.pss k):=by
 intro D σ γ a w dst op ty pos after guard rs ds gd ws gs K' Q h ho hk hsm hs hg hK
 simp only [keysOK,Bool.and_eq_true] at hk
 obtain ⟨⟨hk0,hk1⟩,hk2⟩:=hk
 obtain ⟨d,rfl,hl,rfl⟩:=dOK0 hk2
 simp only [opOK] at ho
 split at ho
 ·rename_i s u x r rest _ _
  simp only [Bool.and_eq_true] at ho
  obtain ⟨⟨ht,hu⟩,ho⟩:=ho
  obtain ⟨e,hu1,hu2⟩:=isByteSl_spec hu
  simp at hk0
  obtain ⟨q,rfl⟩:=len1 hk0
  cases q <;> simp at hk1
  subst hk1
  simp only [List.map_cons,List.map_nil,sem] at hs
  simp only [List.map_cons,List.map_nil,gsem] at hg
  split at hs
  ·rename_i b y heq
   simp only [List.cons.injEq,and_true] at heq
   obtain ⟨hb,rfl⟩:=hs
   split at hg
   ·rename_i g heq2
    simp only [List.cons.injEq,and_true,Opd.gh] at heq2
    cases hg
    exact op_pss h rfl hl rfl (isStrT_spec ht) hu1 hu2 ho (small_mem hsm (by simp [Op.operands])) heq.1 hb heq2.2 hK
   ·cases hg
  ·cases hs
 ·cases ho
theorem k_pfz {k s:Nat}:KindOK C sg (.pfz k s):=by
 intro D σ γ a w dst op ty pos after guard rs ds gd ws gs K' Q h ho hk hsm hs hg hK
 simp only [keysOK,Bool.and_eq_true] at hk
 obtain ⟨⟨h9,hk0,hk1⟩,hk2⟩:=hk
 simp only [decide_eq_true_eq] at h9
 have main:∀{x:Operand} {r q:Opd},(op = .move x∨op = .assign x)→rs=[r,q]→opdOK x r=true→(⟨dst,op,ty,pos,after,guard⟩:Oper).wp C.P a w K' Q:=by
  intro x r q hop hrs hx
  subst hrs
  cases q <;> simp at hk1
  subst hk1
  cases r with
  | s j =>
   simp only [Bool.and_eq_true,decide_eq_true_eq] at hk2
   obtain ⟨hj,hk2⟩:=hk2
   obtain ⟨d,rfl,hl,rfl⟩:=dOK0 hk2
   simp only [List.map_cons,List.map_nil,sem] at hs
   simp only [List.map_cons,List.map_nil,gsem] at hg
   split at hs
   ·rename_i s' es heq
    simp only [List.cons.injEq,and_true,Opd.ev] at heq
    obtain ⟨rfl,rfl⟩:=hs
    split at hg
    ·rename_i k' s0 s1 heq2
     simp only [List.cons.injEq,and_true,Opd.gh] at heq2
     split at hg
     ·rename_i hc
      obtain ⟨rfl,rfl⟩:=hc
      cases hg
      exact op_pfz h h9 rfl hl hop hx hj heq.1 heq2.1 heq2.2 heq.2 hK
     ·cases hg
    ·cases hg
   ·cases hs
  | c x=>simp at hk2
  | g n=>simp at hk2
 simp only [opOK] at ho
 split at ho
 ·exact main (.inl rfl) rfl ho
 ·exact main (.inr rfl) rfl ho
 ·cases ho
theorem k_pln {k:Nat}:KindOK C sg (.pln k):=by
 intro D σ γ a w dst op ty pos after guard rs ds gd ws gs K' Q h ho hk hsm hs hg hK
 simp only [keysOK,Bool.and_eq_true] at hk
 obtain ⟨⟨hk0,hk1⟩,hk2⟩:=hk
 obtain ⟨d,rfl,hl,rfl⟩:=dOK0 (l:=[]) hk2
 simp only [opOK] at ho
 split at ho
 ·rename_i args ats r rest
  simp only [Bool.and_eq_true,beq_iff_eq] at ho
  obtain ⟨⟨h1,h2⟩,ho⟩:=ho
  simp at hk0
  obtain ⟨q,rfl⟩:=len1 hk0
  cases q <;> simp at hk1
  subst hk1
  obtain ⟨t,ht⟩:=len1 h1
  rw [ht] at h2
  simp only [List.all_cons,List.all_nil,Bool.and_true] at h2
  obtain ⟨x,hx0⟩:=len1 (opdsOK_len ho)
  rw [hx0] at ho
  obtain ⟨r',e,hx⟩:=opds1 ho
  cases e
  have ea:=arr1 hx0
  have et:=arr1 ht
  subst ea;subst et
  obtain ⟨e,he⟩:=Option.isSome_iff_exists.1 h2
  simp only [List.map_cons,List.map_nil,sem] at hs
  simp only [List.map_cons,List.map_nil,gsem] at hg
  split at hs
  ·rename_i s' es heq
   simp only [List.cons.injEq,and_true,Opd.ev] at heq
   subst hs
   split at hg
   ·rename_i k' s0 s1 heq2
    simp only [List.cons.injEq,and_true,Opd.gh] at heq2
    split at hg
    ·rename_i hc
     subst hc
     cases hg
     exact op_pln h rfl hl rfl (elemT_spec he) hx (small_mem hsm (by simp [Op.operands,Call.operands])) heq.1 heq2.1 heq2.2 heq.2 hK
    ·cases hg
   ·cases hg
  ·cases hs
 ·cases ho
theorem k_pix {k s:Nat}:KindOK C sg (.pix k s):=by
 intro D σ γ a w dst op ty pos after guard rs ds gd ws gs K' Q h ho hk hsm hs hg hK
 simp only [keysOK,Bool.and_eq_true] at hk
 obtain ⟨⟨hk0,hk1⟩,hk2⟩:=hk
 obtain ⟨d,rfl,hl,rfl⟩:=dOK0 (l:=[]) hk2
 simp only [opOK] at ho
 split at ho
 ·rename_i t x y r q z
  simp only [Bool.and_eq_true] at ho
  obtain ⟨ht,ho⟩:=ho
  obtain ⟨e,inf,h1,h2,h3,h4⟩:=sliceOK'_spec ht
  obtain ⟨r',q',e',hx,hy⟩:=opds2 ho
  cases e'
  cases z <;> simp at hk1
  subst hk1
  simp only [List.map_cons,List.map_nil,sem] at hs
  simp only [List.map_cons,List.map_nil,gsem] at hg
  split at hs
  ·rename_i ik i s' es heq
   simp only [List.cons.injEq,and_true,Opd.ev] at heq
   obtain ⟨rfl,h0,hlt,rfl⟩:=hs
   split at hg
   ·rename_i k' s0 g0 s1 heq2
    simp only [List.cons.injEq,and_true,Opd.gh] at heq2
    split at hg
    ·rename_i hc
     obtain ⟨rfl,rfl⟩:=hc
     cases hg
     exact op_pix h rfl hl rfl h1 h2 h3 hx hy (small_mem hsm (by simp [Op.operands])) (small_mem hsm (by simp [Op.operands])) heq.1 heq2.1 heq2.2.2 heq.2.2 heq.2.1 h0 hlt hK
    ·cases hg
   ·cases hg
  ·cases hs
 ·cases ho
theorem k_pfa {k dd:Nat}:KindOK C sg (.pfa k dd):=by
 intro D σ γ a w dst op ty pos after guard rs ds gd ws gs K' Q h ho hk hsm hs hg hK
 obtain ⟨d,rfl,hl,rfl⟩:=dOK0 (l:=[]) hk
 simp only [opOK] at ho
 split at ho
 ·rename_i t x f r
  simp only [Bool.and_eq_true] at ho
  obtain ⟨ht,hx⟩:=ho
  cases hf:fieldT C.P t f with
  | none=>simp [hf] at ht
  | some fl =>
   simp only [hf,Option.any_some,Bool.and_eq_true,beq_iff_eq] at ht
   obtain ⟨h0,ht⟩:=ht
   cases hz:sizeT C.P fl.type with
   | none=>simp [hz] at ht
   | some n =>
    simp [hz] at ht
    obtain ⟨inf,h1,h2⟩:=sizeT_spec hz
    obtain ⟨fs,hu,hfs⟩:=fieldT_spec hf
    simp only [List.map_cons,List.map_nil,sem] at hs
    split at hs
    ·rename_i i s o' heq
     simp only [List.cons.injEq,and_true] at heq
     subst hs
     simp only [List.map_cons,List.map_nil,gsem] at hg
     split at hg
     ·rename_i k' heq2
      simp only [List.cons.injEq,and_true] at heq2
      split at hg
      ·rename_i hc
       subst hc
       cases hg
       exact op_pfa h rfl hl rfl hu hfs h0 h1 (by omega) hx (small_mem hsm (by simp [Op.operands])) heq heq2 hK
      ·cases hg
     ·cases hg
    ·cases hs
 ·cases ho
theorem k_pld {k s n:Nat} {agg:Bool}:KindOK C sg (.pld k s n agg):=by
 intro D σ γ a w dst op ty pos after guard rs ds gd ws gs K' Q h ho hk hsm hs hg hK
 simp only [keysOK,Bool.and_eq_true] at hk
 obtain ⟨⟨hk0,hk1⟩,hk2⟩:=hk
 obtain ⟨d,rfl,hl,rfl⟩:=dOK0 (l:=[]) hk2
 simp only [opOK] at ho
 split at ho
 ·rename_i t x r rest
  simp at hk0
  obtain ⟨q,rfl⟩:=len1 hk0
  cases q <;> simp at hk1
  subst hk1
  simp only [Bool.and_eq_true] at ho
  obtain ⟨ht,ho⟩:=ho
  obtain ⟨inf,h1,h2,h3,h4⟩:=shapeOK_spec ht
  simp only [List.map_cons,List.map_nil,sem] at hs
  split at hs
  ·rename_i i s' o' s'' es heq
   simp only [List.cons.injEq,and_true,Opd.ev] at heq
   obtain ⟨e,y,rfl,rfl,he,hp,rfl⟩:=hs
   simp only [List.map_cons,List.map_nil,gsem] at hg
   split at hg
   ·rename_i k' s1 heq2
    simp only [List.cons.injEq,and_true,Opd.gh] at heq2
    split at hg
    ·rename_i hc
     obtain ⟨rfl,rfl⟩:=hc
     cases hg
     exact op_pld h rfl hl rfl h1 h2 h3 h4 ho (small_mem hsm (by simp [Op.operands])) heq.1 heq2.1 heq2.2 heq.2 he hp hK
    ·cases hg
   ·cases hg
  ·cases hs
 ·cases ho
theorem k_pst {k s n:Nat}:KindOK C sg (.pst k s n):=by
 intro D σ γ a w dst op ty pos after guard rs ds gd ws gs K' Q h ho hk hsm hs hg hK
 simp only [keysOK,Bool.and_eq_true,beq_iff_eq,Option.isNone_iff_eq_none] at hk
 obtain ⟨⟨rfl,rfl⟩,hk1⟩:=hk
 simp only [opOK] at ho
 split at ho
 ·rename_i t x v p q r
  simp only [Bool.and_eq_true,beq_iff_eq] at ho
  obtain ⟨⟨ht,hx⟩,hv⟩:=ho
  obtain ⟨inf,h1,h2⟩:=sizeT_spec ht
  cases q with
  | s j =>
   simp at hk1
   subst hk1
   simp only [List.map_cons,List.map_nil,sem] at hs
   split at hs
   ·rename_i i s' o' s'' es y heq
    simp only [List.cons.injEq,and_true,Opd.ev] at heq
    obtain ⟨e1,e2,e3⟩:=heq
    obtain ⟨e,e',rfl,rfl,he,p1,p2,p3,rfl⟩:=hs
    subst e3
    simp only [List.map_cons,List.map_nil,gsem] at hg
    split at hg
    ·rename_i k' s1 g heq2
     simp only [List.cons.injEq,and_true,Opd.gh] at heq2
     split at hg
     ·rename_i hc
      obtain ⟨rfl,rfl⟩:=hc
      cases hg
      exact op_pst h rfl rfl h1 h2 hx (small_mem hsm (by simp [Op.operands])) hv (small_mem hsm (by simp [Op.operands])) e1 heq2.1 heq2.2.1 e2 he p1 p2 p3 hK
     ·cases hg
    ·cases hg
   ·cases hs
  | c x=>simp at hk1
  | g n=>simp at hk1
 ·cases ho
end
end Go.Eng
namespace Go.Eng
open Go.RowKit
section
variable {C:Ctx} {D:Dyn} {σ:Sg} {γ:Ga} {a:Act} {w:World}
theorem Sim.callP (h : Sim C D σ γ a w) {k s : Nat} {es : List AV} (hk : γ (lk k) = .pv s ∨ γ (lk k) = .pc s) (hσ : σ (lk k) = .sl s es) {R' : Reach} {w' : World} (he : Ext w D.R (fun c => (D.τ (lk k)).ownBlock = some c) w' R')
    (hlt : ∀ b o, R' b o → b < w'.heap.size) (ht : TipOK R' w' (D.τ (lk k)) s) (hp : PrivOK R' w' (D.τ (lk k)) s (.sl s es)) : Sim C { D with R := R' } σ γ a w' := by
  have hkP : (γ (lk k)).isP = true := by rcases hk with e | e <;> rw [e] <;> rfl
  have hkpar : (γ (lk k)).par = none := by rcases hk with e | e <;> rw [e] <;> rfl
  have hkz : (γ (lk k)).psz = some s := by rcases hk with e | e <;> rw [e] <;> rfl
  have hbk : blk D γ (lk k) = (D.τ (lk k)).ownBlock := blk_isP hkP
  -- another owner's block is another one, but a parent's
  have hother : ∀ key g, key ≠ lk k → (γ key).par ≠ some (lk k) → blk D γ key = some g → (D.τ (lk k)).ownBlock ≠ some g := by
    intro key g h1 h2 h3 h4
    rcases h.sep key (lk k) g h3 (hbk.trans h4) with e | e | e
    · exact h1 e
    · exact h2 e
    · rw [hkpar] at e; cases e
  have hkeep : ∀ key g, key ≠ lk k → (γ key).par ≠ some (lk k) → blk D γ key = some g → w'.heap[g]? = w.heap[g]? ∧ ∀ o, R' g o → D.R g o := by
    intro key g h1 h2 h3
    have hne := hother key g h1 h2 h3
    refine ⟨he.heap g (h.lt h3) hne, fun o hr => ?_⟩
    rcases he.rnew g o hr with e | e | e
    · exact e
    · have := h.lt h3; omega
    · exact (hne e).elim
  refine ⟨h.size, h.defers, h.ntlt, h.rng, h.lrng, fun t ht' => ?_, fun m ts hm => ?_, fun key s' hk' => ?_, fun key s' hs => ?_, h.sep, h.own, h.inv, ?_, hlt, fun n => (h.gl n).mono he.keep, h.fix⟩
  · exact (h.slot t ht').imp id fun ⟨r, g⟩ => ⟨r.mono he.keep, fun hs => by have g := g hs; cases hg : γ t <;> rw [hg] at g <;> exact g⟩
  · obtain ⟨cs, hv, hts⟩ := h.mem m ts hm
    have h1 : m ≠ lk k := fun e => by subst e; rw [hm] at hkP; cases hkP
    obtain ⟨q1, q2⟩ := hkeep m (D.β m) h1 (by rw [hm]; simp [Gh.par]) (blk_cl hm)
    exact ⟨cs, hv.keep he.keep q1 (fun o hr => hv.noR o (q2 o hr)), hts⟩
  · have h1 : key ≠ lk k := fun e => by subst e; rw [hk'] at hkP; cases hkP
    exact (h.tip key s' hk').keep fun g hg => hkeep key g h1 (by rw [hk']; simp [Gh.par]) ((blk_live hk').trans hg)
  · by_cases e : key = lk k
    · subst e
      rw [hkz] at hs
      cases hs
      rw [hσ]
      exact ⟨ht, hp, (h.ps _ _ hkz).2.2⟩
    · obtain ⟨h1, h2, h3⟩ := h.ps key s' hs
      refine ⟨?_, ?_, h3⟩
      all_goals
        by_cases hsh : ∃ g, (D.τ key).ownBlock = some g ∧ (D.τ (lk k)).ownBlock = some g
        all_goals try exact (h1.keep fun g hg => ⟨he.heap g (h1.lt hg) (fun e' => hsh ⟨g, hg, e'⟩), fun o hr => (he.rnew g o hr).elim id fun e' => e'.elim (fun e' => absurd (h1.lt hg) (by omega)) fun e' => (hsh ⟨g, hg, e'⟩).elim⟩)
        all_goals try exact (h2.keep he.keep fun g hg => ⟨he.heap g (h1.lt hg) (fun e' => hsh ⟨g, hg, e'⟩), fun o hr => (he.rnew g o hr).elim id fun e' => e'.elim (fun e' => absurd (h1.lt hg) (by omega)) fun e' => (hsh ⟨g, hg, e'⟩).elim⟩)
        obtain ⟨g, hg1, hg2⟩ := hsh
        have hpar : (γ key).par = some (lk k) := by
          by_cases hpar : (γ key).par = some (lk k)
          · exact hpar
          · exact (hother key g e hpar ((blk_isP (Gh.psz_isP hs)).trans hg1) hg2).elim
        have hsus : γ key = .sus (lk k) s' := by
          cases hg : γ key <;> rw [hg] at hpar hs <;> simp [Gh.par, Gh.psz] at hpar hs
          rw [hpar, hs]
        have hpc : γ (lk k) = .pc s := by
          have := h.inv key
          rw [hsus] at this
          rcases hk with e' | e'
          · rcases this with e'' | ⟨_, e''⟩ <;> rw [e'] at e'' <;> cases e''
          · exact e'
        -- the child, ahead and behind
        obtain ⟨ct, cp, _⟩ := h.ps _ _ hkz
        rcases ct with e1 | ⟨gc, nc, capc, curc, ec, fzc, e1, c1, c2, c3, c4, c5, c6⟩
        · rw [e1] at hg2; cases hg2
        have egc : gc = g := by rw [e1] at hg2; simpa [Value.ownBlock] using hg2
        subst egc
        rcases ht with e2 | ⟨gc', nc', capc', curc', ec', fzc', e2, d1, d2, d3, d4, d5, d6⟩
        · rw [e1] at e2; cases e2
        rw [e1] at e2
        cases e2
        rcases h1 with e3 | ⟨gp, np, capp, curp, ep, fzp, e3, p1, p2, p3, p4, p5, p6⟩
        · rw [e3] at hg1; cases hg1
        have egp : gp = gc := by rw [e3] at hg1; simpa [Value.ownBlock] using hg1
        subst egp
        rw [c1] at p1
        cases p1
        first
        | exact .inr ⟨gp, np, capp, curc', ec', fzc', e3, d1, d2, (d3.trans c3.symm).trans p3, p4, p5, fun o _ => hp.1 gp hg2 o⟩
        | refine ⟨fun g' hg' o => by rw [hg1] at hg'; cases hg'; exact hp.1 gp hg2 o, ?_⟩
          rcases h3 _ _ _ hsus hpc with e4 | e4 | ⟨esp, more, e4, e5⟩
          · exact .inl e4
          · rw [hσ] at e4; cases e4
          · right
            rw [hσ] at e5
            cases e5
            rcases h2.2 with e6 | ⟨es6, e6, h7, h8⟩
            · rw [e4] at e6; cases e6
            rw [e4] at e6
            cases e6
            refine ⟨esp, e4, h7, ?_⟩
            rcases h8 with ⟨_, e8⟩ | ⟨g8, cap8, cur8, el8, fz8, e8, _, _⟩
            · rw [e3] at e8; cases e8
            rw [e3] at e8
            cases e8
            refine .inr ⟨gp, capp, curc', ec', fzc', by rw [e3], d1, ?_⟩
            obtain ⟨es9, e9, _, h9⟩ := hp.2.resolve_left (by simp)
            cases e9
            rcases h9 with ⟨_, e10⟩ | ⟨g9, cap9, cur9, el9, fz9, e10, q1, q2⟩
            · rw [e1] at e10; cases e10
            rw [e1] at e10
            cases e10
            rw [d1] at q1
            cases q1
            have hfl := flatLen (s := s) (es := esp) h7
            have := q2.take (esp.length * s)
            rw [List.flatMap_append, List.take_append_of_le_length (by omega), List.take_of_length_le (by omega), List.take_take, List.length_append, Nat.add_mul] at this
            rwa [Nat.min_eq_left (by omega)] at this
  · exact h.ext.trans he fun b hb => h.own (lk k) b (hbk.trans hb)
theorem opd_at {l:List Operand} {rs:List Opd} {i:Nat} (h:Sim C D σ γ a w) (hx:opdsOK l rs=true) (hs:small C.nt l=true) {x:AV} (he:(rs.map (Opd.ev C.E σ))[i]?=some x) (hd:x ≠ .dead) (hk:x ≠ .sk) :
  ∃v,(l.map a.eval)[i]?=some v∧Rep D.R w x v∧∀g,(rs.map (Opd.gh γ))[i]?=some g→GhOK D g v:=by
 induction l generalizing rs i with
 | nil=>cases rs with
  | nil=>simp at he
  | cons=>simp [opdsOK] at hx
 | cons y l ih =>
  cases rs with
  | nil=>simp [opdsOK] at hx
  | cons q qs =>
   simp [opdsOK] at hx
   have s1:small C.nt [y]=true:=by simp [small] at hs ⊢;exact hs.1
   have s2:small C.nt l=true:=by simp only [small,List.all_cons,Bool.and_eq_true] at hs;exact hs.2
   cases i with
   | zero =>
    simp at he
    have h0:=h.opd hx.1 s1
    refine ⟨a.eval y,rfl,he ▸ h0.rep (by rw [he];exact hd),fun g hg=>?_⟩
    simp at hg
    exact hg ▸ h0.gh (by rw [he];exact hd) (by rw [he];exact hk)
   | succ i=>simpa using ih hx.2 s2 (by simpa using he)
variable {o:Oper} {d:Nat} {K:Act→World→Prop} {Q:Exit→Act→World→Prop} (h:Sim C D σ γ a w)
include h
omit h in
theorem Sim.putRes {D':Dyn} {w':World} (hS:Sim C D' σ γ a w') (hl:d<C.nt) {n:Nat} {rvs:List Value} {outs:List AV} {x:Value} (h1:rvs.length=n) (h2:x=(if n=1 then rvs.headD undef else .tuple ⟨rvs⟩)) (h3:RepT D'.R w' outs rvs) (hol:outs.length=n) :
  Sim C D' (upd σ d (if n=1 then outs.headD .dead else .tu outs)) (upd γ d .no) (a.put (some d) x) w':=by
 refine hS.put hl (.plain ?_) rfl rfl trivial
 by_cases e:n=1
 ·rw [if_pos e] at h2 ⊢
  subst h2
  rw [e] at h1
  match rvs,h1 with
  | [y],_=>cases h3 with
   | cons h1 _=>exact h1
 ·rw [if_neg e] at h2 ⊢
  subst h2
  exact .tu h3
theorem op_pcall (hd:o.dst=some d) (hl:d<C.nt) {f n i k s:Nat} {args:Array Operand} {ts:Array TypeId} {rs:List Opd} {es:List AV} {outs:List AV} (ho:o.op = .call { callee := .value (.func f),args,argTypes:=ts }) (hp:plainFn C.P f=true)
  {S:FS} (hS:SpecOK C.P C.E.gl f S) (hps:S.sg.ps=some (i,s)) (hi9:i<1000) (hn:S.sg.nres=n) (hx:opdsOK args.toList rs=true) (hsm:small C.nt args.toList=true)
  (hpt:(rs.map (Opd.ev C.E σ))[i]?=some .pt) (hgh:(rs.map (Opd.gh γ))[i]?=some (.tip k s)) (hk:γ (lk k) = .pv s∨γ (lk k) = .pc s) (hσ:σ (lk k) = .sl s es)
  (hG:S.G ((rs.map (Opd.ev C.E σ)).set i (.sl s es)) outs) (hol:outs.length=n)
  (hK:∀D' a' w',Sim C D' (upd σ d (if n=1 then outs.headD .dead else .tu outs)) (upd γ d .no) a' w'→K a' w'):o.wp C.P a w K Q:=by
 have hkz:(γ (lk k)).psz=some s:=by rcases hk with e | e <;> rw [e] <;> rfl
 obtain ⟨ht,hpr,_⟩:=h.ps _ _ hkz
 obtain ⟨v,hv1,_,hv2⟩:=opd_at h hx hsm hpt (by simp) (by simp)
 have hv3:=(hv2 _ hgh).1
 subst hv3
 have hT:=h.opds hx hsm
 have hilt:=(List.getElem?_eq_some_iff.1 hpt).1
 have hset:((rs.map (Opd.ev C.E σ)).set i (.sl s es)).set i .pt=rs.map (Opd.ev C.E σ):=by rw [List.set_set,set_get hpt]
 unfold Oper.wp
 rw [call_run ho hp,Oper.upon_enter]
 have:=(hS.2 i s hps).1 hi9 w D.R _ outs (args.toList.map a.eval) _ es hG h.rlt h.gl hv1 (List.getElem?_set_self hilt) ht (hσ ▸ hpr) (by rw [hset];exact hT)
 have e:(⟨args.toList.map a.eval⟩:Array Value)=args.map a.eval:=by apply Array.ext';simp
 rw [e] at this
 refine this.mono ?_
 rintro e w' ⟨x,R',rvs,rfl,h1,h2,h3,h4,h5,h6,h7⟩
 simp only
 rw [hd]
 exact hK _ _ _ (Sim.putRes (h.callP hk hσ h1 h2 h6 h7) hl (h3.trans hn) (by rw [←hn];exact h4) h5 hol)
theorem op_pcaln (hd:o.dst=some d) (hl:d<C.nt) {f n i s:Nat} {args:Array Operand} {ts:Array TypeId} {rs:List Opd} {outs:List AV} (ho:o.op = .call { callee := .value (.func f),args,argTypes:=ts }) (hp:plainFn C.P f=true)
  {S:FS} (hS:SpecOK C.P C.E.gl f S) (hps:S.sg.ps=some (i,s)) (hi9:i<1000) (hn:S.sg.nres=n) (hx:opdsOK args.toList rs=true) (hsm:small C.nt args.toList=true)
  (hi:args.toList[i]?=some (.const (.slice none 0 0))) (hv:(rs.map (Opd.ev C.E σ))[i]?=some (.sl s [])) (hG:S.G (rs.map (Opd.ev C.E σ)) outs) (hol:outs.length=n)
  (hK:∀D' a' w',Sim C D' (upd σ d (if n=1 then outs.headD .dead else .tu outs)) (upd γ d .no) a' w'→K a' w'):o.wp C.P a w K Q:=by
 have hT:=h.opds hx hsm
 have hv1:(args.toList.map a.eval)[i]?=some (.slice none 0 0):=by rw [List.getElem?_map,hi];rfl
 have hT':RepT D.R w ((rs.map (Opd.ev C.E σ)).set i .pt) (args.toList.map a.eval):=by
  have:∀{l:List AV} {ys:List Value} {i:Nat},RepT D.R w l ys→RepT D.R w (l.set i .pt) ys:=by
   intro l ys i hr
   induction i generalizing l ys with
   | zero=>cases hr with
    | nil=>exact .nil
    | cons a b=>exact .cons (.pt _) b
   | succ i ih=>cases hr with
    | nil=>exact .nil
    | cons a b=>exact .cons a (ih b)
  exact this hT
 unfold Oper.wp
 rw [call_run ho hp,Oper.upon_enter]
 have:=(hS.2 i s hps).1 hi9 w D.R _ outs (args.toList.map a.eval) _ [] hG h.rlt h.gl hv1 hv (.inl rfl) ⟨by simp [Value.ownBlock],.inr ⟨[],rfl,by simp,.inl ⟨rfl,rfl⟩⟩⟩ hT'
 have e:(⟨args.toList.map a.eval⟩:Array Value)=args.map a.eval:=by apply Array.ext';simp
 rw [e] at this
 refine this.mono ?_
 rintro e w' ⟨x,R',rvs,rfl,h1,h2,h3,h4,h5,h6,h7⟩
 simp only
 rw [hd]
 have hpure:=h.callPure (w':=w') (R':=R') (by
  have:(fun c=>(Value.slice none 0 0).ownBlock=some c)=fun _=>False:=by funext c;simp [Value.ownBlock]
  rwa [this] at h1) h2
 exact hK _ _ _ (Sim.putRes hpure hl (h3.trans hn) (by rw [←hn];exact h4) h5 hol)
theorem op_pnl (hd:o.dst=some d) (hl:d<C.nt) {x:Operand} {r:Opd} {t e y:TypeId} {k s s0:Nat} {es:List AV} (ho:o.op = .binOp .eql t x (.const (.slice none 0 0)) y) (ht:C.P.underlying t=some (.slice e)) (hx:opdOK x r=true) (hs1:small C.nt [x]=true)
  (hr:r.ev C.E σ = .pt) (hg:r.gh γ = .tip k s0) {s1:Nat} (hk:γ (lk k) = .pv s) (hσ:σ (lk k) = .sl s1 es) (hK:∀D' a' w',Sim C D' (upd σ d (match es with | [] => .ab | _ :: _ => .v (.bool false))) (upd γ d .no) a' w'→K a' w'):o.wp C.P a w K Q:=by
 have e0:=h.opd hx hs1
 have hv:=e0.gh (by rw [hr];simp) (by rw [hr];simp)
 rw [hg] at hv
 obtain ⟨_,_,hp2⟩:=h.pvAt hk
 rw [hσ] at hp2
 obtain ⟨es',he,_,hp⟩:=hp2.resolve_left (by simp)
 cases he
 have hc:a.eval (.const (.slice none 0 0)) = .slice none 0 0:=rfl
 rcases hp with ⟨rfl,e1⟩ | ⟨g,cap,cur,ce,fz,e1,_⟩
 ·have hval:a.eval x = .slice none 0 0:=hv.1.trans e1
  have hrun:(execOp a.eval o).run C.P w = .ok (.value (.bool true)) w:=by
   simp only [execOp,ho,hval,hc,eqGuard,Sem.run_bind,Sem.run_pure,Sem.run_ite,Result.andThen_ok]
   simp only [Bool.not_true,Bool.false_eq_true,if_false,Sem.run_pure,Result.andThen_ok]
   rw [Lib.run_eql_slice_nil w t e _ _ _ _ _ ht]
   rfl
  exact h.valNo hd hl hrun (.ab _) hK
 ·have hval:a.eval x = .slice (some ⟨g,0,none⟩) es.length cap:=hv.1.trans e1
  have hrun:(execOp a.eval o).run C.P w = .ok (.value (.bool false)) w:=by
   simp only [execOp,ho,hval,hc,eqGuard,Sem.run_bind,Sem.run_pure,Sem.run_ite,Result.andThen_ok]
   simp only [Bool.not_true,Bool.false_eq_true,if_false,Sem.run_pure,Result.andThen_ok]
   rw [Lib.run_eql_slice_nil w t e _ _ _ _ _ ht]
   rfl
  cases es with
  | nil=>exact h.valNo hd hl hrun (.ab _) hK
  | cons _ _=>exact h.valNo hd hl hrun (.v _) hK
theorem op_la (hd:o.dst=some d) (hl:d<C.nt) {x y:Operand} {r q:Opd} {t e:TypeId} {inf:TypeInfo} {m n s:Nat} {ts:List (Nat × (Nat × Nat))} {ik:IntKind} {i:Int} (ho:o.op = .indexAddr t x y) (ht:C.P.underlying t=some (.array n e)) (hi:C.P.info? e=some inf) (hz:inf.size=s)
  (hx:opdOK x r=true) (hy:opdOK y q=true) (hs1:small C.nt [x]=true) (hs2:small C.nt [y]=true)
  (hr:r.ev C.E σ = .pt) (hg:r.gh γ = .ptr m 0) (hm:γ m = .cl ts) (hq:q.ev C.E σ = .v (.int ik i)) (h0:0≤i) (hlt:i<n)
  (hK:∀D' a' w',Sim C D' (upd σ d (.el i.toNat s 0)) (upd γ d (.pm m)) a' w'→K a' w'):o.wp C.P a w K Q:=by
 have e0:=h.opd hx hs1
 have hv:=e0.gh (by rw [hr];simp) (by rw [hr];simp)
 rw [hg] at hv
 simp only [GhOK] at hv
 have e2:=(h.opd hy hs2).rep (by rw [hq];simp)
 rw [hq] at e2
 have hrun:(execOp a.eval o).run C.P w = .ok (.value (.pointer (some ⟨D.β m,i.toNat * s,none⟩))) w:=by
  simp [execOp,ho,hv,e2.v_inv,Instr.indexAt,Instr.sureAddr,asIntOf,run_underlying ht,run_sizeOf hi,hz,h0,hlt,addr_add]
 refine h.val (g := .pm m) hd hl hrun (.inr ⟨.el _ _ 0 _,fun _=>⟨_,rfl⟩⟩) rfl rfl ?_ hK
 show (γ m).isCl=true
 rw [hm];rfl
theorem op_ll (hd:o.dst=some d) (hl:d<C.nt) {x:Operand} {r:Opd} {t:TypeId} {inf:TypeInfo} {m i s o':Nat} {cs:List AV} {ts:List (Nat × (Nat × Nat))} {y:AV} (ho:o.op = .load t x) (hi:C.P.info? t=some inf) (hz:inf.size=1) (ha:isAggT C.P t=some false)
  (hx:opdOK x r=true) (hs1:small C.nt [x]=true) (hr:r.ev C.E σ = .el i s o') (hg:r.gh γ = .pm m) (hm:γ m = .cl ts) (hσ:σ m = .ag cs) (hp:partAV cs (i * s+o') 1 false=some y)
  (hK:∀D' a' w',Sim C D' (upd σ d y) (upd γ d .no) a' w'→K a' w'):o.wp C.P a w K Q:=by
 have e0:=h.opd hx hs1
 have e1:=e0.rep (by rw [hr];simp)
 have hv:=e0.gh (by rw [hr];simp) (by rw [hr];simp)
 rw [hr] at e1
 rw [hg] at hv
 obtain ⟨b,hb⟩:=Rep.el_inv e1
 obtain ⟨q,hq⟩:=hv
 rw [hb] at hq
 cases hq
 obtain ⟨ws,hVA,_⟩:=h.mem m ts hm
 rw [hσ] at hVA
 obtain ⟨elem,hh,hL⟩:=hVA.ag
 obtain ⟨hlen,hrep⟩:=part_rep hL hp (.inr rfl)
 have hc:∀j y,(((ws.take cs.length).drop (i * s+o')).take 1)[j]?=some y→w.cell? ⟨D.β m,i * s+o'+j,none⟩=some y:=by
  intro j y hj
  simp only [World.cell?,hh]
  rw [List.getElem?_take] at hj
  split at hj
  ·rw [List.getElem?_drop,List.getElem?_take] at hj
   split at hj
   ·simpa using hj
   ·cases hj
  ·cases hj
 have hrun:=run_loadVar (P:=C.P) hi ha (.inr hz) (hlen.trans hz.symm) hc
 refine h.valNo hd hl (?_:(execOp a.eval o).run C.P w = .ok (.value _) w) hrep hK
 simp only [execOp,ho,hb,Instr.loadAt,Instr.sureAddr,Sem.run_bind,Sem.run_pure,Result.andThen_ok,hrun]
end
end Go.Eng
namespace Go.Eng
open Go.RowKit
section
variable {P:Program} {w:World}
theorem run_append_priv {R:Reach} {t u ty e:TypeId} {i:TypeInfo} {z:Value} {du:TypeDesc} (ht:P.underlying t=some (.slice e)) (hi:P.info? e=some i) (hz:i.zero=some z) (hzs:z.cells.size=i.size) (hu:P.underlying u=some du) (hdu:∀k,du ≠ .int k)
  {x0 x:Value} {es fs:List AV} {news:List Value} (hT:TipOK R w x0 i.size) (hP:PrivOK R w x0 i.size (.sl i.size es)) (hlt:∀b o,R b o→b<w.heap.size)
  (hx:Source P w i.size x fs.length news) (hL:RepL R w (fs.flatMap AV.cells) news) (hfs:∀e∈fs,e.cells.length=i.size) (h63:es.length+fs.length≤maxLen) (hb:(es.length+fs.length) * i.bytes≤140737488355328) :
  ∃v w',(Builtin.append_ #[t,u] ty #[x0,x]).run P w = .ok v w'∧w'.os=w.os∧w'.tape=w.tape∧w'.output=w.output∧w.heap.size≤w'.heap.size ∧
   (∀b,b<w.heap.size→x0.ownBlock≠some b→w'.heap[b]?=w.heap[b]?)∧TipOK R w' x0 i.size∧PrivOK R w' x0 i.size (.sl i.size es) ∧
   TipOK R w' v i.size∧PrivOK R w' v i.size (.sl i.size (es++fs))∧(∀g,v.ownBlock=some g→x0.ownBlock=some g∨w.heap.size≤g):=by
 have hnews:=hx.2.2.1
 obtain ⟨hP1,hP2⟩:=hP
 obtain ⟨es',he',hes,hP3⟩:=hP2.resolve_left (by simp)
 cases he'
 have hesfs:∀e∈es++fs,e.cells.length=i.size:=fun e he=>by
  rcases List.mem_append.1 he with he | he
  ·exact hes e he
  ·exact hfs e he
 -- the row grows
 have grow:∀(q:Option Addr) (cap:Nat) (olds:List Value),x0 = .slice q es.length cap→cap<es.length+fs.length→(∀w':World,w'.heap=w.heap→(Builtin.firstCells i.size es.length (.slice q es.length cap)).run P w' = .ok ⟨olds⟩ w') →
   RepL R w (es.flatMap AV.cells) olds→olds.length=es.length * i.size →
   ∃v w',(Builtin.append_ #[t,u] ty #[x0,x]).run P w = .ok v w'∧w'.os=w.os∧w'.tape=w.tape∧w'.output=w.output∧w.heap.size≤w'.heap.size ∧
   (∀b,b<w.heap.size→x0.ownBlock≠some b→w'.heap[b]?=w.heap[b]?)∧TipOK R w' x0 i.size∧PrivOK R w' x0 i.size (.sl i.size es) ∧
   TipOK R w' v i.size∧PrivOK R w' v i.size (.sl i.size (es++fs))∧(∀g,v.ownBlock=some g→x0.ownBlock=some g∨w.heap.size≤g):=by
  intro q cap olds hx0 hltc ho hLo hlo
  have hrun:=run_append_grow' (ty:=ty) ht hi hz hu hdu ho hx hltc h63 hb
  have hge:=grownCap_ge w (es.length+fs.length) cap e
  have hle:=grownCap_le_maxLen w (es.length+fs.length) cap e h63
  let row:Array Value:=(⟨olds⟩:Array Value)++⟨news⟩++Builtin.zeroCells z.cells (grownCap w (es.length+fs.length) cap e - (es.length+fs.length))
  let w1:World:=w.drew.alloc (.cells row e)
  have hnew:w1.heap[w.heap.size]?=some (.cells row e (0,0)):=by
   show (w.heap.push _)[w.heap.size]?=_
   simp
  have hold:∀c,c<w.heap.size→w1.heap[c]?=w.heap[c]?:=fun c hc=>by
   show (w.heap.push _)[c]?=_
   rw [Array.getElem?_push,if_neg (by omega)]
  have hrs:row.size=grownCap w (es.length+fs.length) cap e * i.size:=by
   simp only [row,Array.size_append,List.size_toArray,size_zeroCells,hzs,hlo,hnews,←Nat.add_mul]
   congr 1;omega
  have hnR:∀q,¬R w.heap.size q:=fun q hr=>by have:=hlt _ q hr;omega
  have keep:Keeps R w R w1:=fun b o hr=>⟨hr,World.cell?_of_block (w:=w) (hold b (hlt b o hr))⟩
  have htk:row.toList.take ((es++fs).length * i.size)=olds++news:=by
   have:(es++fs).length * i.size=(olds++news).length:=by rw [List.length_append,List.length_append,Nat.add_mul,hlo,hnews]
   rw [this]
   have hrow:row.toList=(olds++news)++(Builtin.zeroCells z.cells (grownCap w (es.length+fs.length) cap e - (es.length+fs.length))).toList:=by simp [row]
   rw [hrow,List.take_left]
  refine ⟨_,w1,by rw [hx0];exact hrun,rfl,rfl,rfl,by show _≤(w.heap.push _).size;simp,fun b hb' _=>hold b hb',hT.keep fun g hg=>⟨hold g (hT.lt hg),fun _ hr=>hr⟩,
   PrivOK.keep ⟨hP1,hP2⟩ keep fun g hg=>⟨hold g (hT.lt hg),fun _ hr=>hr⟩,.inr ⟨_,_,_,_,_,_,rfl,hnew,by simp,hrs,hge,hle,fun q _=>hnR q⟩,
   ⟨fun g hg q=>?_,.inr ⟨_,rfl,hesfs,.inr ⟨w.heap.size,grownCap w (es.length+fs.length) cap e,row,e,(0,0),by rw [List.length_append],hnew,?_⟩⟩⟩,fun g hg=>?_⟩
  ·simp [Value.ownBlock] at hg;subst hg;exact hnR q
  ·rw [htk,List.flatMap_append]
   exact (hLo.append hL).mono keep
  ·simp [Value.ownBlock] at hg
   exact .inr (by omega)
 rcases hP3 with ⟨rfl,e0⟩ | ⟨g,cap,cur,ce,fz,e0,hg,hLo⟩
 ·by_cases hm:fs.length=0
  ·have hfs0:fs=[]:=List.eq_nil_of_length_eq_zero hm
   subst hfs0
   refine ⟨.slice none 0 0,w,?_,rfl,rfl,rfl,Nat.le_refl _,fun _ _ _=>rfl,hT,⟨hP1,hP2⟩,.inl rfl,⟨by simp [Value.ownBlock],.inr ⟨[],rfl,by simp,.inl ⟨rfl,rfl⟩⟩⟩,by simp [Value.ownBlock]⟩
   obtain ⟨h1,h2,h3,h4⟩:=hx
   have hdz:(match du with | .int _=>true | _=>false)=false:=by cases du <;> first | rfl | exact (hdu _ rfl).elim
   have h2':=h2 w rfl
   simp only [List.length_nil] at h1 h2'
   rw [e0]
   simp [Builtin.append_,run_underlying ht,run_underlying hu,hdz,sizeOf,typeInfo,hi,h1,h2']
  ·exact grow none 0 [] e0 (by simp;omega) (fun _ _=>rfl) .nil (by simp)
 ·rcases hT with e1 | ⟨g1,n1,cap1,cur1,ce1,fz1,e1,hg1,hfz,hcs,hnc,hcm,hnR⟩
  ·rw [e0] at e1;cases e1
  rw [e0] at e1
  cases e1
  rw [hg] at hg1
  cases hg1
  have hob:x0.ownBlock=some g:=by rw [e0];rfl
  have hcl:es.length * i.size≤cap * i.size:=Nat.mul_le_mul_right _ hnc
  have hlo:(cur.toList.take (es.length * i.size)).length=es.length * i.size:=by simp;omega
  by_cases hroom:es.length+fs.length≤cap
  ·have hrun:=run_append_room' (ty:=ty) ht hi hu hdu hg hfz hx hroom hcs
   have hle:(es.length+fs.length) * i.size≤cap * i.size:=Nat.mul_le_mul_right _ hroom
   rw [Nat.add_mul] at hle
   let new:Array Value:=(cur.toList.take (es.length * i.size)++news++cur.toList.drop (es.length * i.size+news.length)).toArray
   let w1:World:=w.setRow g new
   have hh':w1.heap[g]?=some (.cells new ce fz):=setRow_heap w g cur new ce fz hg
   have hold:∀b,b≠g→w1.heap[b]?=w.heap[b]?:=fun b hb=>setRow_other w g b _ hb
   have hns:new.size=cur.size:=by simp [new];omega
   have keep:Keeps R w R w1:=fun b o hr=>⟨hr,World.cell?_of_block (w:=w) (hold b (fun e=>hP1 g hob o (e ▸ hr)))⟩
   have ht1:new.toList.take (es.length * i.size)=cur.toList.take (es.length * i.size):=by
    show (cur.toList.take (es.length * i.size)++news++_).take (es.length * i.size)=_
    rw [List.append_assoc,List.take_append_of_le_length (by omega),List.take_take,Nat.min_self]
   have ht2:new.toList.take ((es++fs).length * i.size)=cur.toList.take (es.length * i.size)++news:=by
    have:(es++fs).length * i.size=(cur.toList.take (es.length * i.size)++news).length:=by rw [List.length_append,List.length_append,Nat.add_mul,hlo,hnews]
    show (cur.toList.take (es.length * i.size)++news++_).take _=_
    rw [this,List.take_left]
   refine ⟨_,w1,by rw [e0];exact hrun,rfl,rfl,rfl,by simp [w1],fun b hb' hne=>hold b (fun e=>hne (by rw [hob,e])),.inr ⟨g,_,_,new,ce,fz,e0,hh',fun o ho=>hfz o (by omega),hns.trans hcs,hnc,hcm,fun o _=>hP1 g hob o⟩,
    ⟨hP1,.inr ⟨es,rfl,hes,.inr ⟨g,cap,new,ce,fz,e0,hh',by rw [ht1];exact hLo.mono keep⟩⟩⟩,.inr ⟨g,_,_,new,ce,fz,rfl,hh',fun o ho=>hfz o (by omega),hns.trans hcs,hroom,hcm,fun o _=>hP1 g hob o⟩,
    ⟨fun g' hg' o=>by simp [Value.ownBlock] at hg';subst hg';exact hP1 _ hob o,.inr ⟨_,rfl,hesfs,.inr ⟨g,cap,new,ce,fz,by rw [List.length_append],hh',?_⟩⟩⟩,fun g' hg'=>?_⟩
   ·rw [ht2,List.flatMap_append]
    exact (hLo.append hL).mono keep
   ·simp [Value.ownBlock] at hg'
    subst hg'
    exact .inl hob
  ·exact grow (some ⟨g,0,none⟩) cap (cur.toList.take (es.length * i.size)) e0 (by omega) (fun w' hw=>run_firstCells_some (P:=P) w' i.size es.length ⟨g,0,none⟩ es.length cap _ hlo (fun j v hj=>by
    rw [addr_add,World.cell?_of_block (w:=w) (by rw [hw])]
    rw [List.getElem?_take] at hj
    split at hj
    ·simp only [World.cell?,hg,Nat.zero_add];simpa using hj
    ·cases hj)) hLo hlo
end
section
variable {C:Ctx} {D:Dyn} {σ:Sg} {γ:Ga} {a:Act} {w:World}
theorem Sim.growP (h:Sim C D σ γ a w) {k j s:Nat} (hk:γ (lk k) = .pv s) (hj:γ (lk j) = .no) {w':World} (os:w'.os=w.os) (tape:w'.tape=w.tape) (out:w'.output=w.output) (size:w.heap.size≤w'.heap.size)
  (hh:∀b,b<w.heap.size→(D.τ (lk k)).ownBlock≠some b→w'.heap[b]?=w.heap[b]?) {v:Value} {es more:List AV} (hσ:σ (lk k) = .sl s es)
  (pt:TipOK D.R w' (D.τ (lk k)) s) (pp:PrivOK D.R w' (D.τ (lk k)) s (.sl s es)) (ct:TipOK D.R w' v s) (cp:PrivOK D.R w' v s (.sl s (es++more))) (hv:∀g,v.ownBlock=some g→(D.τ (lk k)).ownBlock=some g∨w.heap.size≤g) :
  Sim C { D with τ:=upd D.τ (lk j) v } (updL σ [lk k,lk j] [.sl s es,.sl s (es++more)]) (updL γ [lk k,lk j] [.sus (lk j) s,.pc s]) a w':=by
 have hne:lk k≠lk j:=fun e=>by rw [e,hj] at hk;cases hk
 have hbk:blk D γ (lk k)=(D.τ (lk k)).ownBlock:=blk_isP (by rw [hk];rfl)
 have hpr:=(h.pvAt hk).2.1
 have keep:Keeps D.R w D.R w':=fun b o hr=>⟨hr,World.cell?_of_block (w:=w) (hh b (h.rlt b o hr) (fun e=>hpr b e o hr))⟩
 have eσ:updL σ [lk k,lk j] [.sl s es,.sl s (es++more)]=upd (upd σ (lk j) (.sl s (es++more))) (lk k) (.sl s es):=rfl
 have eγ:updL γ [lk k,lk j] [Gh.sus (lk j) s,.pc s]=upd (upd γ (lk j) (.pc s)) (lk k) (.sus (lk j) s):=rfl
 rw [eσ,eγ]
 generalize hγ':upd (upd γ (lk j) (.pc s)) (lk k) (.sus (lk j) s)=γ'
 generalize hσ':upd (upd σ (lk j) (.sl s (es++more))) (lk k) (.sl s es)=σ'
 have g1:γ' (lk k) = .sus (lk j) s:=by rw [←hγ',upd_same]
 have g2:γ' (lk j) = .pc s:=by rw [←hγ',upd_ne _ _ hne.symm,upd_same]
 have g3:∀x,x≠lk k→x≠lk j→γ' x=γ x:=fun x h1 h2=>by rw [←hγ',upd_ne _ _ h1,upd_ne _ _ h2]
 have s1:σ' (lk k) = .sl s es:=by rw [←hσ',upd_same]
 have s2:σ' (lk j) = .sl s (es++more):=by rw [←hσ',upd_ne _ _ hne.symm,upd_same]
 have s3:∀x,x≠lk k→x≠lk j→σ' x=σ x:=fun x h1 h2=>by rw [←hσ',upd_ne _ _ h1,upd_ne _ _ h2]
 have hcl:∀m,(γ' m).isCl=(γ m).isCl:=fun m=>by
  by_cases e1:m=lk k
  ·subst e1;rw [g1,hk];rfl
  ·by_cases e2:m=lk j
   ·subst e2;rw [g2,hj];rfl
   ·rw [g3 m e1 e2]
 have hlk:∀m,(γ m).isLk=true→(γ' m).isLk=true:=fun m hm=>by
  by_cases e1:m=lk k
  ·subst e1;rw [g1];rfl
  ·by_cases e2:m=lk j
   ·subst e2;rw [g2];rfl
   ·rw [g3 m e1 e2];exact hm
 have hlj:∀m,(γ m).isLk=true→m≠lk j:=fun m hm e=>by subst e;rw [hj] at hm;cases hm
 have hτ:∀m,(γ m).isLk=true→upd D.τ (lk j) v m=D.τ m:=fun m hm=>upd_ne _ _ (hlj m hm)
 have hM:∀g,Ment γ g→Ment γ' g:=fun g hg=>by
  cases g with
  | ptr m o=>simp only [Ment,hcl] at hg ⊢;exact hg
  | pm m=>simp only [Ment,hcl] at hg ⊢;exact hg
  | tip q s'=>exact hlk _ hg
  | pe q=>exact hlk _ hg
  | cl ts=>exact fun t ht=>hlk _ (hg t ht)
  | tup ts p=>exact ⟨fun t ht=>hlk _ (hg.1 t ht),fun q hq=>by rw [hcl];exact hg.2 q hq⟩
  | sus q s' =>
   have h1:q≠lk k:=fun e=>by subst e;rcases hg with e | ⟨_,e⟩ <;> rw [hk] at e <;> cases e
   have h2:q≠lk j:=fun e=>by subst e;rcases hg with e | ⟨_,e⟩ <;> rw [hj] at e <;> cases e
   simp only [Ment,g3 q h1 h2];exact hg
  | _=>trivial
 have hnt:∀t q,t<C.nt→t≠lk q:=fun t q ht e=>by have:=lk_ge q;have:=h.ntlt;omega
 -- other owners' blocks
 have hoth:∀key g,key≠lk k→blk D γ key=some g→w'.heap[g]?=w.heap[g]?:=fun key g hn hb=>hh g (h.lt hb) (fun e=>hn (h.pvSep hk (hbk.trans e) hb))
 have hb':∀key,blk { D with τ:=upd D.τ (lk j) v } γ' key=if key=lk j then v.ownBlock else blk D γ key:=fun key=>by
  by_cases e2:key=lk j
  ·subst e2;rw [if_pos rfl,blk_isP (by rw [g2];rfl)];simp only [upd_same]
  ·rw [if_neg e2]
   by_cases e1:key=lk k
   ·subst e1;rw [blk_isP (by rw [g1];rfl),blk_isP (by rw [hk];rfl)];simp only [upd_ne _ _ e2]
   ·unfold blk
    rw [g3 key e1 e2]
    simp only [upd_ne _ _ e2]
 have hblt:∀key g,key≠lk j→blk D γ key=some g→v.ownBlock=some g→key=lk k:=fun key g _ hb hg=>by
  rcases hv g hg with e | e
  ·exact h.pvSep hk (hbk.trans e) hb
  ·have:=h.lt hb;omega
 have hpar:∀key,key≠lk k→key≠lk j→(γ' key).par=(γ key).par:=fun key h1 h2=>by rw [g3 key h1 h2]
 refine ⟨h.size,h.defers,h.ntlt,fun m hm=>h.rng m (by rwa [hcl] at hm),fun m hm=>?_,fun t ht=>?_,fun m ts hm=>?_,fun key s' hs=>?_,fun key s' hs=>?_,fun p q g hp hq=>?_,fun p g hp=>?_,fun key=>?_,?_,fun b o hr=>Nat.lt_of_lt_of_le (h.rlt b o hr) size,fun n=>(h.gl n).mono keep,h.fix.of rfl (fun hp=>?_)⟩
 ·by_cases e1:m=lk k
  ·subst e1;exact lk_ge _
  ·by_cases e2:m=lk j
   ·subst e2;exact lk_ge _
   ·rw [g3 m e1 e2] at hm;exact h.lrng m hm
 ·rw [s3 t (hnt t k ht) (hnt t j ht),g3 t (hnt t k ht) (hnt t j ht)]
  exact (h.slot t ht).imp id fun ⟨r,g⟩=>⟨r.mono keep,fun hs=>GhOK.congr (D:=D) (h.inv t) (fun _ _=>rfl) (fun q hq=>hτ _ hq) (g hs)⟩
 ·have e1:m≠lk k:=fun e=>by subst e;rw [g1] at hm;cases hm
  have e2:m≠lk j:=fun e=>by subst e;rw [g2] at hm;cases hm
  rw [g3 m e1 e2] at hm
  rw [s3 m e1 e2]
  obtain ⟨cs,hV,hts⟩:=h.mem m ts hm
  have hi:=h.inv m
  rw [hm] at hi
  exact ⟨cs,hV.keep keep (hoth m _ e1 (blk_cl hm)) hV.noR,fun t ht=>by show cs[t.1]?=some (upd D.τ (lk j) v (lk t.2.1));rw [hτ _ (hi t ht)];exact hts t ht⟩
 ·have e1:key≠lk k:=fun e=>by subst e;rw [g1] at hs;cases hs
  have e2:key≠lk j:=fun e=>by subst e;rw [g2] at hs;cases hs
  rw [g3 key e1 e2] at hs
  simp only [upd_ne _ _ e2]
  exact (h.tip key s' hs).keep fun g hg=>⟨hoth key g e1 ((blk_live hs).trans hg),fun _ hr=>hr⟩
 ·have hpre:key≠lk k→PreAt σ' γ' key:=fun e1 d s3' s4 f1 f2=>by
   have e2:key≠lk j:=fun e=>by subst e;rw [g2] at f1;cases f1
   rw [g3 key e1 e2] at f1
   have hi:=h.inv key
   rw [f1] at hi
   have d1:d≠lk k:=fun e=>by subst e;rw [g1] at f2;cases f2
   have d2:d≠lk j:=fun e=>by subst e;rcases hi with e | ⟨_,e⟩ <;> rw [hj] at e <;> cases e
   rw [g3 d d1 d2] at f2
   rw [s3 key e1 e2,s3 d d1 d2]
   exact (h.ps key s3' (by rw [f1];rfl)).2.2 d s3' s4 f1 f2
  by_cases e1:key=lk k
  ·subst e1
   rw [g1] at hs
   cases hs
   rw [s1]
   simp only [upd_ne _ _ hne]
   exact ⟨pt,pp,fun d s3' s4 f1 f2=>by rw [g1] at f1;cases f1;exact .inr (.inr ⟨es,more,s1,s2⟩)⟩
  ·by_cases e2:key=lk j
   ·subst e2
    rw [g2] at hs
    cases hs
    rw [s2]
    simp only [upd_same]
    exact ⟨ct,cp,hpre e1⟩
   ·have hs0:=hs
    rw [g3 key e1 e2] at hs0
    rw [s3 key e1 e2]
    simp only [upd_ne _ _ e2]
    obtain ⟨q1,q2,_⟩:=h.ps key s' hs0
    have hb:=fun g hg=>hoth key g e1 ((blk_isP (Gh.psz_isP hs0)).trans hg)
    exact ⟨q1.keep fun g hg=>⟨hb g hg,fun _ hr=>hr⟩,q2.keep keep fun g hg=>⟨hb g hg,fun _ hr=>hr⟩,hpre e1⟩
 ·rw [hb'] at hp hq
  by_cases p2:p=lk j
  ·by_cases q2:q=lk j
   ·exact .inl (p2.trans q2.symm)
   ·rw [if_pos p2] at hp
    rw [if_neg q2] at hq
    have:=hblt q g q2 hq hp
    subst this
    right;right
    rw [g1,p2];rfl
  ·rw [if_neg p2] at hp
   by_cases q2:q=lk j
   ·rw [if_pos q2] at hq
    have:=hblt p g p2 hp hq
    subst this
    right;left
    rw [g1,q2];rfl
   ·rw [if_neg q2] at hq
    rcases h.sep p q g hp hq with e | e | e
    ·exact .inl e
    ·have p1:p≠lk k:=fun e'=>by subst e';rw [hk] at e;cases e
     right;left;rw [hpar p p1 p2];exact e
    ·have q1:q≠lk k:=fun e'=>by subst e';rw [hk] at e;cases e
     right;right;rw [hpar q q1 q2];exact e
 ·rw [hb'] at hp
  by_cases p2:p=lk j
  ·rw [if_pos p2] at hp
   rcases hv g hp with e | e
   ·exact h.own (lk k) g (hbk.trans e)
   ·exact .inr (Nat.le_trans h.ext.size e)
  ·rw [if_neg p2] at hp;exact h.own p g hp
 ·by_cases e1:key=lk k
  ·subst e1;rw [g1];exact .inr ⟨s,g2⟩
  ·by_cases e2:key=lk j
   ·subst e2;rw [g2];trivial
   ·rw [g3 key e1 e2];exact hM _ (h.inv key)
 ·refine ⟨os.trans h.ext.os,tape.trans h.ext.tape,out.trans h.ext.output,Nat.le_trans h.ext.size size,fun b hb hn=>?_,h.ext.keep.trans keep,h.ext.rnew⟩
  refine (hh b (Nat.lt_of_lt_of_le hb h.ext.size) fun e=>?_).trans (h.ext.heap b hb hn)
  rcases h.own (lk k) b (hbk.trans e) with e | e
  ·exact hn e
  ·omega
 ·have e2:lk 999999≠lk j:=fun e=>by rw [e,hj] at hp;cases hp
  refine ⟨?_,upd_ne _ _ e2⟩
  by_cases e1:lk 999999=lk k
  ·rw [e1,g1];rfl
  ·rw [g3 _ e1 e2];exact hp
variable {o:Oper} {d:Nat} {K:Act→World→Prop} {Q:Exit→Act→World→Prop} (h:Sim C D σ γ a w)
include h
theorem op_ppa (hd:o.dst=some d) (hl:d<C.nt) {x y:Operand} {r q:Opd} {t u e:TypeId} {i:TypeInfo} {z:Value} {du:TypeDesc} {k j s:Nat} {es fs:List AV} (ho:o.op = .call { callee := .builtin .append,args:=#[x,y],argTypes:=#[t,u] })
  (ht:C.P.underlying t=some (.slice e)) (hi:C.P.info? e=some i) (hz:i.zero=some z) (hzs:z.cells.size=i.size) (hu:C.P.underlying u=some du) (hdu:∀k,du ≠ .int k) (hs:i.size=s)
  (hx:opdOK x r=true) (hs1:small C.nt [x]=true) (hy:opdOK y q=true) (hs2:small C.nt [y]=true) (hr:r.ev C.E σ = .pt) (hg:r.gh γ = .tip k s) (hk:γ (lk k) = .pv s) (hσ:σ (lk k) = .sl s es) (hj:γ (lk j) = .no)
  (hq:q.ev C.E σ = .sl s fs) (h63:es.length+fs.length≤maxLen) (hb:(es.length+fs.length) * i.bytes≤140737488355328)
  (hK:∀D' a' w',Sim C D' (updL σ [d,lk k,lk j] [.pt,.sl s es,.sl s (es++fs)]) (updL γ [d,lk k,lk j] [.tip j s,.sus (lk j) s,.pc s]) a' w'→K a' w'):o.wp C.P a w K Q:=by
 subst hs
 have e0:=h.opd hx hs1
 have hv:=e0.gh (by rw [hr];simp) (by rw [hr];simp)
 rw [hg] at hv
 have e2:=(h.opd hy hs2).rep (by rw [hq];simp)
 rw [hq] at e2
 obtain ⟨hT,hP⟩:=h.pvAt hk
 rw [hσ] at hP
 obtain ⟨news,hsrc,hL,hfs⟩:=Source.of_sl (P:=C.P) e2
 obtain ⟨v,w',hrun,os,tape,out,size,hh,pt,pp,ct,cp,hvb⟩:=run_append_priv (ty:=o.type) ht hi hz hzs hu hdu hT hP h.rlt hsrc hL hfs h63 hb
 have hS:=h.growP hk hj os tape out size hh hσ pt pp ct cp hvb
 unfold Oper.wp
 rw [show (execOp a.eval o).run C.P w = .ok (.value v) w' by simp [execOp,ho,resolve,invoke,builtin,hv.1,hrun],Oper.upon_value,hd]
 have hj':(updL γ [lk k,lk j] [Gh.sus (lk j) i.size,.pc i.size]) (lk j) = .pc i.size:=by
  have hne:lk k≠lk j:=fun e=>by rw [e,hj] at hk;cases hk
  simp only [updL]
  rw [upd_ne _ _ hne.symm,upd_same]
 refine hK _ _ _ (hS.put (g := .tip j i.size) hl (.inr ⟨.pt _,fun _=>?_⟩) rfl rfl ?_)
 ·show v=upd D.τ (lk j) v (lk j)∧v.oneCell'=true
  rw [upd_same]
  exact ⟨rfl,by rcases ct with rfl | ⟨_,_,_,_,_,_,rfl,_⟩ <;> rfl⟩
 ·show ((updL γ [lk k,lk j] [Gh.sus (lk j) i.size,.pc i.size]) (lk j)).isLk=true
  rw [hj'];rfl
theorem Sim.privSource {x:Operand} {r:Opd} {k s s0:Nat} {fs:List AV} (hx:opdOK x r=true) (hs1:small C.nt [x]=true) (hr:r.ev C.E σ = .pt) (hg:r.gh γ = .tip k s0) (hk:γ (lk k) = .pv s) (hσ:σ (lk k) = .sl s fs) :
  ∃news,Source C.P w s (a.eval x) fs.length news∧RepL D.R w (fs.flatMap AV.cells) news∧∀e∈fs,e.cells.length=s:=by
 have e0:=h.opd hx hs1
 have hv:=e0.gh (by rw [hr];simp) (by rw [hr];simp)
 rw [hg] at hv
 obtain ⟨hT,hP1,hP2⟩:=h.pvAt hk
 rw [hσ] at hP2
 obtain ⟨es,he,hes,hP⟩:=hP2.resolve_left (by simp)
 cases he
 rcases hP with ⟨rfl,e1⟩ | ⟨g,cap,cur,ce,fz,e1,hg1,hL⟩
 ·refine ⟨[],⟨fun _=>?_,fun _ _=>?_,by simp,by simp⟩,.nil,by simp⟩
  ·rw [hv.1,e1];rfl
  ·rw [hv.1,e1];rfl
 ·have hcap:fs.length≤cap∧cur.size=cap * s:=by
   rcases hT with e2 | ⟨g',n,cap',cur',e',fz',e2,h1,h2,h3,h4,h5,h6⟩
   ·rw [e1] at e2;cases e2
   ·rw [e1] at e2;cases e2
    rw [hg1] at h1;cases h1
    exact ⟨h4,h3⟩
  have hle:fs.length * s≤cap * s:=Nat.mul_le_mul_right _ hcap.1
  have hlo:(cur.toList.take (fs.length * s)).length=fs.length * s:=by simp;omega
  refine ⟨_,⟨fun _=>?_,fun w' hw=>?_,hlo,hL.one⟩,hL,hes⟩
  ·rw [hv.1,e1];rfl
  ·rw [hv.1,e1]
   exact run_firstCells_some (P:=C.P) w' s fs.length ⟨g,0,none⟩ fs.length cap _ hlo (fun j v hj=>by
    rw [addr_add,World.cell?_of_block (w:=w) (by rw [hw])]
    rw [List.getElem?_take] at hj
    split at hj
    ·simp only [World.cell?,hg1,Nat.zero_add];simpa using hj
    ·cases hj)
end
end Go.Eng
namespace Go.Eng
open Go.RowKit
section
variable {C:Ctx} {sg:Nat→FSig}
theorem k_ppa {k d' s b:Nat}:KindOK C sg (.ppa k d' s b):=by
 intro D σ γ a w dst op ty pos after guard rs ds gd ws gs K' Q h ho hk hsm hs hg hK
 simp only [keysOK,Bool.and_eq_true,beq_iff_eq,List.map_cons,List.map_nil] at hk
 obtain ⟨⟨hk0,hk1⟩,hk2⟩:=hk
 obtain ⟨d,rfl,hl,rfl⟩:=dOK0 hk2
 simp only [opOK] at ho
 split at ho
 ·rename_i args ats r q r3 r4
  simp only [Bool.and_eq_true,beq_iff_eq] at ho
  obtain ⟨⟨ho,h1⟩,h2⟩:=ho
  obtain ⟨t,u,e,i,z,du,rfl,q1,q2,q3,q4,q5,q6,q7,q8⟩:=apTypes h1 h2
  have ht:=tail2 hk1
  simp only [List.drop_succ_cons,List.drop_zero,List.cons.injEq,and_true] at ht
  obtain ⟨rfl,rfl⟩:=ht
  obtain ⟨x,y,hx0⟩:=len2 (l:=args.toList) (by rw [opdsOK_len ho];rfl)
  rw [hx0] at ho
  obtain ⟨r',q',hrq,hx,hy⟩:=opds2 ho
  simp only [List.cons.injEq,and_true] at hrq
  obtain ⟨rfl,rfl⟩:=hrq
  have ea:=arr2 hx0
  subst ea
  simp only [List.map_cons,List.map_nil,sem] at hs
  split at hs
  ·rename_i s'' fs s' es v2 heq
   simp only [List.cons.injEq,and_true,Opd.ev] at heq
   obtain ⟨e1,e2,e3,_⟩:=heq
   obtain ⟨rfl,rfl,p2,p3,rfl⟩:=hs
   simp only [List.map_cons,List.map_nil,gsem] at hg
   split at hg
   ·rename_i k1 s1 g s2 heq2
    simp only [List.cons.injEq,and_true,Opd.gh] at heq2
    obtain ⟨g1,g2,g3,g4⟩:=heq2
    split at hg
    ·rename_i hc
     obtain ⟨rfl,rfl,rfl,hne⟩:=hc
     cases hg
     exact op_ppa h rfl hl rfl q1 q2 q5 q6 q7 q8 q3 hx (small_mem hsm (by simp [Op.operands,Call.operands])) hy (small_mem hsm (by simp [Op.operands,Call.operands])) e1 g1 g3 e3 g4 e2 p2 (by rw [q4];exact p3) hK
    ·cases hg
   ·cases hg
  ·cases hs
 ·cases ho
theorem tail3 {rs:List Opd} {n a b c:Nat} (h:(rs.drop n).map (fun r=>match r with | Opd.s t=>some t | _=>none)=[some a,some b,some c]):rs.drop n=[.s a,.s b,.s c] :=
 slots_eq (ks:=[a,b,c]) h
theorem k_apq {k d' q0 s b:Nat}:KindOK C sg (.apq k d' q0 s b):=by
 intro D σ γ a w dst op ty pos after guard rs ds gd ws gs K' Q h ho hk hsm hs hg hK
 simp only [keysOK,Bool.and_eq_true,beq_iff_eq,List.map_cons,List.map_nil] at hk
 obtain ⟨⟨hk0,hk1⟩,hk2⟩:=hk
 obtain ⟨d,rfl,hl,rfl⟩:=dOK0 hk2
 simp only [opOK] at ho
 split at ho
 ·rename_i args ats r q r3 r4 r5
  simp only [Bool.and_eq_true,beq_iff_eq] at ho
  obtain ⟨⟨ho,h1⟩,h2⟩:=ho
  obtain ⟨t,u,e,i,z,du,rfl,q1,q2,q3,q4,q5,q6,q7,q8⟩:=apTypes h1 h2
  have ht:=tail3 hk1
  simp only [List.drop_succ_cons,List.drop_zero,List.cons.injEq,and_true] at ht
  obtain ⟨rfl,rfl,rfl⟩:=ht
  obtain ⟨x,y,hx0⟩:=len2 (l:=args.toList) (by rw [opdsOK_len ho];rfl)
  rw [hx0] at ho
  obtain ⟨r',q',hrq,hx,hy⟩:=opds2 ho
  simp only [List.cons.injEq,and_true] at hrq
  obtain ⟨rfl,rfl⟩:=hrq
  have ea:=arr2 hx0
  subst ea
  simp only [List.map_cons,List.map_nil,sem] at hs
  split at hs
  ·rename_i s' es v1 v2 s'' fs heq
   simp only [List.cons.injEq,and_true,Opd.ev] at heq
   obtain ⟨e1,e2,_,_,e5⟩:=heq
   obtain ⟨rfl,rfl,p2,p3,rfl⟩:=hs
   simp only [List.map_cons,List.map_nil,gsem] at hg
   split at hg
   ·rename_i k1 s1 k2 s2 s3 s4 heq2
    simp only [List.cons.injEq,and_true,Opd.gh] at heq2
    obtain ⟨g1,g2,g3,g4,g5⟩:=heq2
    split at hg
    ·rename_i hc
     obtain ⟨rfl,rfl,rfl,hne,rfl,rfl,rfl⟩:=hc
     cases hg
     obtain ⟨news,n1,n2,n3⟩:=h.privSource hy (small_mem hsm (by simp [Op.operands,Call.operands])) e2 g2 g5 e5
     exact op_ap (q:=q) h rfl hl rfl q1 q2 q5 q6 q7 q8 q3 hx (small_mem hsm (by simp [Op.operands,Call.operands])) e1 g1 g3 g4 hne n1 n2 n3 p2 (by rw [q4];exact p3) hK
    ·cases hg
   ·cases hg
  ·cases hs
 ·cases ho
theorem k_pnl {k:Nat}:KindOK C sg (.pnl k):=by
 intro D σ γ a w dst op ty pos after guard rs ds gd ws gs K' Q h ho hk hsm hs hg hK
 simp only [keysOK,Bool.and_eq_true] at hk
 obtain ⟨⟨hk0,hk1⟩,hk2⟩:=hk
 obtain ⟨d,rfl,hl,rfl⟩:=dOK0 (l:=[]) hk2
 simp only [opOK] at ho
 split at ho
 ·rename_i t x y r q
  simp only [Bool.and_eq_true] at ho
  obtain ⟨hx,he⟩:=ho
  obtain ⟨e,he⟩:=Option.isSome_iff_exists.1 he
  cases q <;> simp at hk1
  subst hk1
  simp only [List.map_cons,List.map_nil,sem] at hs
  simp only [List.map_cons,List.map_nil,gsem] at hg
  split at hg
  ·rename_i k' s0 s1 heq2
   simp only [List.cons.injEq,and_true,Opd.gh] at heq2
   split at hg
   ·rename_i hc
    subst hc
    cases hg
    split at hs
    ·rename_i s' heq
     simp only [List.cons.injEq,and_true,Opd.ev] at heq
     subst hs
     exact op_pnl h rfl hl rfl (elemT_spec he) hx (small_mem hsm (by simp [Op.operands])) heq.1 heq2.1 heq2.2 heq.2 hK
    ·rename_i s' e1 e2 heq
     simp only [List.cons.injEq,and_true,Opd.ev] at heq
     subst hs
     exact op_pnl h rfl hl rfl (elemT_spec he) hx (small_mem hsm (by simp [Op.operands])) heq.1 heq2.1 heq2.2 heq.2 hK
    ·cases hs
   ·cases hg
  ·cases hg
 ·cases ho
theorem k_la {m n s:Nat}:KindOK C sg (.la m n s):=by
 intro D σ γ a w dst op ty pos after guard rs ds gd ws gs K' Q h ho hk hsm hs hg hK
 simp only [keysOK,Bool.and_eq_true] at hk
 obtain ⟨⟨_,hk0,hk1⟩,hk2⟩:=hk
 obtain ⟨d,rfl,hl,rfl⟩:=dOK0 (l:=[]) hk2
 simp only [opOK] at ho
 split at ho
 ·rename_i t x y r q z
  simp only [Bool.and_eq_true] at ho
  obtain ⟨ht,ho⟩:=ho
  split at ht
  ·rename_i n' e he
   simp only [Bool.and_eq_true,beq_iff_eq] at ht
   obtain ⟨rfl,ht⟩:=ht
   obtain ⟨inf,h1,h2⟩:=sizeT_spec ht
   obtain ⟨r',q',e',hx,hy⟩:=opds2 ho
   cases e'
   cases z <;> simp at hk1
   subst hk1
   simp only [List.map_cons,List.map_nil,sem] at hs
   simp only [List.map_cons,List.map_nil,gsem] at hg
   split at hs
   ·rename_i ik i cs heq
    simp only [List.cons.injEq,and_true,Opd.ev] at heq
    obtain ⟨h0,hlt,rfl⟩:=hs
    split at hg
    ·rename_i m' o' g0 ts heq2
     simp only [List.cons.injEq,and_true,Opd.gh] at heq2
     split at hg
     ·rename_i hc
      obtain ⟨rfl,rfl,_⟩:=hc
      cases hg
      exact op_la h rfl hl rfl he h1 h2 hx hy (small_mem hsm (by simp [Op.operands])) (small_mem hsm (by simp [Op.operands])) heq.1 heq2.1 heq2.2.2 heq.2.1 h0 hlt hK
     ·cases hg
    ·cases hg
   ·cases hs
  ·cases ht
 ·cases ho
theorem k_ll {m s:Nat}:KindOK C sg (.ll m s):=by
 intro D σ γ a w dst op ty pos after guard rs ds gd ws gs K' Q h ho hk hsm hs hg hK
 simp only [keysOK,Bool.and_eq_true] at hk
 obtain ⟨⟨_,hk0,hk1⟩,hk2⟩:=hk
 obtain ⟨d,rfl,hl,rfl⟩:=dOK0 (l:=[]) hk2
 simp only [opOK] at ho
 split at ho
 ·rename_i t x r rest
  simp at hk0
  obtain ⟨q,rfl⟩:=len1 hk0
  cases q <;> simp at hk1
  subst hk1
  simp only [Bool.and_eq_true] at ho
  obtain ⟨ht,ho⟩:=ho
  obtain ⟨inf,h1,h2,h3,h4⟩:=shapeOK_spec ht
  simp only [List.map_cons,List.map_nil,sem] at hs
  split at hs
  ·rename_i i s' o' cs heq
   simp only [List.cons.injEq,and_true,Opd.ev] at heq
   obtain ⟨y,rfl,hp,rfl⟩:=hs
   simp only [List.map_cons,List.map_nil,gsem] at hg
   split at hg
   ·rename_i m' ts heq2
    simp only [List.cons.injEq,and_true,Opd.gh] at heq2
    split at hg
    ·rename_i hc
     obtain ⟨rfl,rfl⟩:=hc
     cases hg
     exact op_ll h rfl hl rfl h1 h2 h3 ho (small_mem hsm (by simp [Op.operands])) heq.1 heq2.1 heq2.2 heq.2 hp hK
    ·cases hg
   ·cases hg
  ·cases hs
 ·cases ho
theorem k_pcall (hE:∀f,SpecOK C.P C.E.gl f (C.E.fs f)∧(C.E.fs f).sg=sg f) {f n nres i k s:Nat}:KindOK C sg (.pcall f n nres i k s):=by
 intro D σ γ a w dst op ty pos after guard rs ds gd ws gs K' Q h ho hk hsm hs hg hK
 simp only [keysOK,Bool.and_eq_true,beq_iff_eq,List.map_cons,List.map_nil] at hk
 obtain ⟨⟨hk0,hk1⟩,hk2⟩:=hk
 obtain ⟨d,rfl,hl,rfl⟩:=dOK0 (l:=[]) hk2
 simp only [opOK] at ho
 split at ho
 ·rename_i g args ats
  simp only [Bool.and_eq_true,beq_iff_eq,decide_eq_true_eq] at ho
  obtain ⟨⟨⟨⟨⟨rfl,hpf⟩,hps,hn⟩,hx⟩,hsz⟩,hin,hi9⟩:=ho
  rw [←(hE f).2] at hps hn
  have htl:(rs.take n).length=n:=by rw [←opdsOK_len hx];simpa using hsz
  have hsm':small C.nt args.toList=true:=small_sub hsm (fun x hx=>by
   have:x∈args:=by simpa using hx
   simp only [Op.operands,Call.operands,Array.toList_append,List.mem_append]
   exact .inr hx)
  have hdrop:rs.drop n=[.s (lk k)]:=by
   simp only [List.length_cons,List.length_nil] at hk0
   obtain ⟨q,hq⟩:=len1 (l:=rs.drop n) (by rw [List.length_drop];omega)
   rw [hq] at hk1 ⊢
   cases q <;> simp at hk1
   rw [hk1]
  have hrs:rs=rs.take n++[.s (lk k)]:=by rw [←hdrop,List.take_append_drop]
  simp only [sem] at hs
  obtain ⟨es,outs,v1,v2,hG,hol,rfl⟩:=hs
  simp only [gsem] at hg
  rw [Option.ite_none_right_eq_some] at hg
  obtain ⟨⟨g1,g2⟩,hg⟩:=hg
  cases hg
  have hlast:∀{X:Type} (F:Opd→X),(rs.map F)[n]?=some (F (.s (lk k))):=fun F=>by
   have h1:rs[n]?=some (.s (lk k)):=by rw [hrs,List.getElem?_append_right (by omega),htl];simp
   rw [List.getElem?_map,h1];rfl
  rw [hlast] at v1 g2
  simp only [Opd.ev,Opd.gh,Option.some.injEq] at v1 g2
  have hi:∀{X:Type} (F:Opd→X),((rs.take n).map F)[i]?=(rs.map F)[i]?:=fun F=>by
   rw [List.map_take,List.getElem?_take,if_pos hin]
  rw [←hi] at v2 g1
  rw [←List.map_take] at hG
  exact op_pcall h rfl hl rfl hpf (hE f).1 hps hi9 hn hx hsm' v2 g1 g2 v1 hG hol hK
 ·cases ho
theorem k_pcaln (hE:∀f,SpecOK C.P C.E.gl f (C.E.fs f)∧(C.E.fs f).sg=sg f) {f n nres i s:Nat}:KindOK C sg (.pcaln f n nres i s):=by
 intro D σ γ a w dst op ty pos after guard rs ds gd ws gs K' Q h ho hk hsm hs hg hK
 simp only [keysOK,Bool.and_eq_true] at hk
 obtain ⟨hk0,hk2⟩:=hk
 obtain ⟨d,rfl,hl,rfl⟩:=dOK0 (l:=[]) hk2
 simp only [opOK] at ho
 split at ho
 ·rename_i g args ats
  simp only [Bool.and_eq_true,beq_iff_eq,decide_eq_true_eq] at ho
  obtain ⟨⟨⟨⟨⟨⟨rfl,hpf⟩,hps,hn⟩,hx⟩,hsz⟩,hi9⟩,hnil⟩:=ho
  rw [←(hE f).2] at hps hn
  have hsm':small C.nt args.toList=true:=small_sub hsm (fun x hx=>by
   have:x∈args:=by simpa using hx
   simp only [Op.operands,Call.operands,Array.toList_append,List.mem_append]
   exact .inr hx)
  simp only [sem] at hs
  obtain ⟨outs,v1,hG,hol,rfl⟩:=hs
  simp only [gsem,Option.some.injEq] at hg
  subst hg
  split at hnil
  ·rename_i hi
   exact op_pcaln h rfl hl rfl hpf (hE f).1 hps hi9 hn hx hsm' hi v1 hG hol hK
  ·cases hnil
 ·cases ho
end
end Go.Eng
namespace Go.Eng
open Go.RowKit
theorem ext_ib_find {fn:Func} (h:fn.name=ibName):Extern.find fn=some Extern.BytealgIndexByte.indexByte:=by
 have e1:(Extern.allGenericRows.lookup ibName)=none:=by kernel_rfl
 have e2:(Extern.allTypedRows.lookup ibName)=none:=by kernel_rfl
 have e3:(Extern.allRows.lookup ibName)=some Extern.BytealgIndexByte.indexByte:=by kernel_rfl
 unfold Extern.find
 simp only [h,e1,e2,e3]
 rfl
theorem ext_ib_next {fn:Func} (h:fn.name=ibName) (h2:fn.origin = "" ∨ fn.origin=ibName):Extern.findNext fn=none:=by
 have e1:(Extern.allNextRows.lookup ibName)=none:=by kernel_rfl
 have e2:(Extern.allNextRows.lookup "")=none:=by kernel_rfl
 unfold Extern.findNext
 rcases h2 with h2 | h2 <;> simp only [h,h2,e1,e2] <;> rfl
section
variable {C:Ctx} {D:Dyn} {σ:Sg} {γ:Ga} {a:Act} {w:World}
variable {o:Oper} {d:Nat} {K:Act→World→Prop} {Q:Exit→Act→World→Prop} (h:Sim C D σ γ a w)
include h
theorem op_nls (hd:o.dst=some d) (hl:d<C.nt) {x:Operand} {r:Opd} {t e y:TypeId} {s:Nat} {es:List AV} (ho:o.op = .binOp .eql t x (.const (.slice none 0 0)) y) (ht:C.P.underlying t=some (.slice e)) (hx:opdOK x r=true) (hs1:small C.nt [x]=true)
  (hr:r.ev C.E σ = .sl s es) (hK:∀D' a' w',Sim C D' (upd σ d (match es with | [] => .ab | _ :: _ => .v (.bool false))) (upd γ d .no) a' w'→K a' w'):o.wp C.P a w K Q:=by
 have e0:=(h.opd hx hs1).rep (by rw [hr];simp)
 rw [hr] at e0
 have hc:a.eval (.const (.slice none 0 0)) = .slice none 0 0:=rfl
 have hrun:∀{q:Option Addr} {n c:Nat},a.eval x = .slice q n c→(execOp a.eval o).run C.P w = .ok (.value (.bool q.isNone)) w:=fun {q n c} hval=>by
  simp only [execOp,ho,hval,hc,eqGuard,Sem.run_bind,Sem.run_pure,Sem.run_ite,Result.andThen_ok]
  simp only [Bool.not_true,Bool.false_eq_true,if_false,Sem.run_pure,Result.andThen_ok]
  rw [Lib.run_eql_slice_nil w t e _ _ _ _ _ ht]
  rfl
 cases es with
 | nil =>
  obtain ⟨q,cap,hq⟩:=e0.sl_len
  exact h.valNo hd hl (hrun hq) (.ab _) hK
 | cons z zs =>
  generalize hv:a.eval x=v at e0
  cases e0 with
  | sl a b c d=>exact h.valNo hd hl (hrun hv) (.v _) hK
theorem op_xib (hd:o.dst=some d) (hl:d<C.nt) {x y:Operand} {r q:Opd} {f:Nat} {ts:Array TypeId} {b:ByteArray} {c:Int} (ho:o.op = .call { callee := .value (.func f),args:=#[x,y],argTypes:=ts }) (hf:externFn C.P f ibName=true)
  (hx:opdOK x r=true) (hs1:small C.nt [x]=true) (hy:opdOK y q=true) (hs2:small C.nt [y]=true) (hr:r.ev C.E σ = .v (.string b)) (hq:q.ev C.E σ = .v (.int .u8 c))
  (hK:∀D' a' w',Sim C D' (upd σ d (.v (.int .i64 (Lib.indexByte b.data.toList c.toNat.toUInt8)))) (upd γ d .no) a' w'→K a' w'):o.wp C.P a w K Q:=by
 have e1:=(h.opd hx hs1).rep (by rw [hr];simp)
 rw [hr] at e1
 have e2:=(h.opd hy hs2).rep (by rw [hq];simp)
 rw [hq] at e2
 unfold externFn at hf
 cases hfn:C.P.funcs[f]? with
 | none=>simp [hfn] at hf
 | some fn =>
  simp only [hfn,Option.any_some,Bool.and_eq_true,beq_iff_eq,Bool.or_eq_true] at hf
  obtain ⟨⟨hn,hb⟩,hor⟩:=hf
  have hcall:=run_callFunc_extern (P:=C.P) hfn (by rw [hn];decide +kernel) hb (ext_ib_next hn hor) (ext_ib_find hn) #[.string b,.int .u8 c] w
  rw [Lib.run_indexByteString] at hcall
  have hrun:(execOp a.eval o).run C.P w = .ok (.value (.int .i64 (Lib.indexByte b.data.toList c.toNat.toUInt8))) w:=by
   have he:a.eval (.func f) = .func (.func f) #[] #[]:=rfl
   simp only [execOp,ho,resolve,Deferred.ofValue,he,invoke]
   simpa [e1.v_inv,e2.v_inv,resolve,Deferred.ofValue,invoke] using hcall
  exact h.valNo hd hl hrun (.v _) hK
end
section
variable {C:Ctx} {sg:Nat→FSig}
theorem k_nls:KindOK C sg .nls:=by
 intro D σ γ a w dst op ty pos after guard rs ds gd ws gs K' Q h ho hk hsm hs hg hK
 simp only [gsem,Option.some.injEq] at hg
 subst hg
 obtain ⟨d,rfl,hl,rfl⟩:=dOK0 (l:=[]) hk
 simp only [opOK] at ho
 split at ho
 ·rename_i t x y r
  simp only [Bool.and_eq_true] at ho
  obtain ⟨hx,he⟩:=ho
  obtain ⟨e,he⟩:=Option.isSome_iff_exists.1 he
  simp only [List.map_cons,List.map_nil,sem] at hs
  split at hs
  ·rename_i s' heq
   simp only [List.cons.injEq,and_true,Opd.ev] at heq
   subst hs
   exact op_nls h rfl hl rfl (elemT_spec he) hx (small_mem hsm (by simp [Op.operands])) heq hK
  ·rename_i s' e1 e2 heq
   simp only [List.cons.injEq,and_true,Opd.ev] at heq
   subst hs
   exact op_nls h rfl hl rfl (elemT_spec he) hx (small_mem hsm (by simp [Op.operands])) heq hK
  ·cases hs
 ·cases ho
theorem k_xib:KindOK C sg .xib:=by
 intro D σ γ a w dst op ty pos after guard rs ds gd ws gs K' Q h ho hk hsm hs hg hK
 simp only [gsem,Option.some.injEq] at hg
 subst hg
 obtain ⟨d,rfl,hl,rfl⟩:=dOK0 (l:=[]) hk
 simp only [opOK] at ho
 split at ho
 ·rename_i g args ats
  simp only [Bool.and_eq_true,beq_iff_eq] at ho
  obtain ⟨⟨hf,hx⟩,hsz⟩:=ho
  obtain ⟨x,y,hx0⟩:=len2 (l:=args.toList) (by simpa using hsz)
  rw [hx0] at hx
  obtain ⟨r,q,rfl,hx,hy⟩:=opds2 hx
  have ea:=arr2 hx0
  subst ea
  simp only [List.map_cons,List.map_nil,sem] at hs
  split at hs
  ·rename_i b c heq
   simp only [List.cons.injEq,and_true,Opd.ev] at heq
   subst hs
   exact op_xib h rfl hl rfl hf hx (small_mem hsm (by simp [Op.operands,Call.operands])) hy (small_mem hsm (by simp [Op.operands,Call.operands])) heq.1 heq.2 hK
  ·cases hs
 ·cases ho
end
end Go.Eng
namespace Go.Eng
open Go.RowKit
theorem RepL.set {R:Reach} {w:World} {x:AV} {y:Value} (hx:Rep R w x y):∀{xs:List AV} {ys:List Value} {i:Nat},RepL R w xs ys→ys[i]?=some y→RepL R w (xs.set i x) ys
 | _,_,0,.cons a _ t,e=>by simp at e;subst e;exact .cons a hx t
 | _,_,i+1,.cons a h t,e => .cons a h (RepL.set hx t (by simpa using e))
 | _,_,i,.nil,e=>by simp at e
theorem nilAt_len (cs:List AV):∀ts:List (Nat × (Nat × Nat)),(nilAt cs ts).length=cs.length
 | []=>rfl
 | t :: ts=>by simp [nilAt,nilAt_len cs ts]
theorem RepL.nilAt {R:Reach} {w:World} {xs:List AV} {ys:List Value} (h:RepL R w xs ys):∀{ts:List (Nat × (Nat × Nat))},(∀t∈ts,ys[t.1]?=some (.slice none 0 0))→RepL R w (Eng.nilAt xs ts) ys
 | [],_=>h
 | t :: ts,hn=>RepL.set (.nil _) (RepL.nilAt h fun u hu=>hn u (List.mem_cons_of_mem _ hu)) (hn t (List.mem_cons_self ..))
section
variable {C:Ctx} {D:Dyn} {σ:Sg} {γ:Ga} {a:Act} {w:World}
theorem Sim.retip (h:Sim C D σ γ a w) {m:Nat} {us us' ts:List (Nat × (Nat × Nat))} {cs:List AV} (hm:γ m = .cl us) (hσ:σ m = .ag cs) (hus:∀t∈us',t∈us) (hts:∀t∈ts,cs[t.1]?=some .nil)
  (hno:∀t∈ts,γ (lk t.2.1) = .no) (hnd:(ts.map (·.2.1)).Nodup) :
  ∃D',Sim C D' (upd (updL σ (ts.map fun t=>lk t.2.1) (ts.map fun _ => .dead)) m (.ag (Eng.nilAt cs ts))) (upd (updL γ (ts.map fun t=>lk t.2.1) (ts.map fun t => .live t.2.2)) m (.cl (us'++ts))) a w:=by
 obtain ⟨vs,hVA,hc⟩:=h.mem m us hm
 rw [hσ] at hVA
 have hnR:=hVA.noR
 obtain ⟨elem,hh,hL⟩:=hVA.ag
 obtain ⟨D1,h1,hR,_,_,ht1,hk1,hτ1,hβ1⟩:=h.nilTips ts hno hnd
 have hmlt:m<1000000:=(h.rng m (by rw [hm];rfl)).2
 have hmne:∀t∈ts,m≠lk t.2.1:=fun t _=>by have:=lk_ge t.2.1;omega
 have hm1:updL γ (ts.map fun t=>lk t.2.1) (ts.map fun t => .live t.2.2) m = .cl us:=by rw [hk1 m hmne];exact hm
 have hnil:∀t∈ts,vs[t.1]?=some (.slice none 0 0):=fun t ht=>by
  obtain ⟨y,hy1,_,hy2⟩:=hL.get t.1 _ (hts t ht)
  rw [List.getElem?_take] at hy1
  split at hy1
  ·rw [hy1,hy2.v_inv]
  ·cases hy1
 have hL':RepL D.R w (Eng.nilAt cs ts) (vs.take (Eng.nilAt cs ts).length):=by
  rw [nilAt_len]
  refine RepL.nilAt hL fun t ht=>?_
  have:=(List.getElem?_eq_some_iff.1 (hts t ht)).1
  rw [List.getElem?_take,if_pos this]
  exact hnil t ht
 have hment:=h.inv m
 rw [hm] at hment
 refine ⟨D1,h1.store (us:=us'++ts) (cs:=vs) hm1 (w':=w) rfl rfl rfl rfl (fun _ _=>rfl) ?_ fun t ht=>?_⟩
 ·rw [hR,hβ1];exact ⟨elem,hh,.inr ⟨_,rfl,hL'⟩,hnR⟩
 ·rcases List.mem_append.1 ht with ht | ht
  ·have ht:=hus t ht
   have hlk:=hment t ht
   by_cases hx:∃u∈ts,lk t.2.1=lk u.2.1
   ·obtain ⟨u,hu,e⟩:=hx
    rw [e,hno u hu] at hlk;cases hlk
   ·have hx:∀u∈ts,lk t.2.1≠lk u.2.1:=fun u hu e=>hx ⟨u,hu,e⟩
    rw [hk1 _ hx,hτ1 _ hx];exact ⟨hlk,hc t ht⟩
  ·exact ⟨(ht1 t ht).2,by rw [(ht1 t ht).1];exact hnil t ht⟩
variable {o:Oper} {d:Nat} {K:Act→World→Prop} {Q:Exit→Act→World→Prop} (h:Sim C D σ γ a w)
include h
theorem op_bxt {x:Operand} {r:Opd} {t:TypeId} {m:Nat} {ts:List (Nat × (Nat × Nat))} (hd:o.dst=some d) (hl:d<C.nt) (ho:o.op = .box t x) (hx:opdOK x r=true) (hs1:small C.nt [x]=true) (hp:(r.ev C.E σ).plain=true) (hm:γ m = .no) (h1:C.nt≤m) (h2:m<999999)
  (hts:∀t∈ts,(r.ev C.E σ).cells[t.1]?=some .nil) (hno:∀t∈ts,γ (lk t.2.1) = .no) (hnd:(ts.map (·.2.1)).Nodup)
  (hK:∀D' a' w',Sim C D' (updL σ (d :: m :: ts.map fun t=>lk t.2.1) (.pt :: .ag (Eng.nilAt (r.ev C.E σ).cells ts) :: ts.map fun _ => .dead)) (updL γ (d :: m :: ts.map fun t=>lk t.2.1) (.ptr m 0 :: .cl ts :: ts.map fun t => .live t.2.2)) a' w'→K a' w'):o.wp C.P a w K Q:=by
 have hdm:m≠d:=by omega
 have hnt:=h.ntlt
 refine op_bx h hd hl ho hx hs1 hp hm h1 h2 fun D' a' w' hS=>?_
 simp only [updL] at hS
 have hkd':∀k∈ts.map fun t=>lk t.2.1,d≠k:=fun k hk=>by obtain ⟨t,_,rfl⟩:=List.mem_map.1 hk;have:=lk_ge t.2.1;omega
 have hkd:d ∉ ts.map fun t=>lk t.2.1:=fun hk=>hkd' _ hk rfl
 have hkm':∀k∈ts.map fun t=>lk t.2.1,m≠k:=fun k hk=>by obtain ⟨t,_,rfl⟩:=List.mem_map.1 hk;have:=lk_ge t.2.1;omega
 have hkm:m ∉ ts.map fun t=>lk t.2.1:=fun hk=>hkm' _ hk rfl
 obtain ⟨D2,h2⟩:=hS.retip (m:=m) (us:=[]) (us':=[]) (ts:=ts) (by rw [upd_ne _ _ hdm,upd_same]) (by rw [upd_ne _ _ hdm,upd_same]) (by simp) hts (fun t ht=>by
  have e1:=hkd' _ (List.mem_map.2 ⟨t,ht,rfl⟩)
  have e2:=hkm' _ (List.mem_map.2 ⟨t,ht,rfl⟩)
  rw [upd_ne _ _ e1.symm,upd_ne _ _ e2.symm];exact hno t ht) hnd
 refine hK D2 a' w' ?_
 rw [updL_upd hkd,updL_upd hkm,updL_upd hkd,updL_upd hkm,upd_comm _ _ _ hdm,upd_comm _ _ _ hdm,upd_upd,upd_upd] at h2
 simp only [updL]
 have c1:∀{X:Type} (f:Nat→X) (p q:X),upd (upd f m p) d q=upd (upd f d q) m p:=fun f p q=>upd_comm _ _ _ hdm
 rw [c1,c1]
 exact h2
theorem op_stt {x v:Operand} {r q:Opd} {t:TypeId} {inf:TypeInfo} {m o' n:Nat} {cs:List AV} {us ts:List (Nat × (Nat × Nat))} (hd:o.dst=none) (ho:o.op = .store t x v) (hi:C.P.info? t=some inf) (hz:inf.size=n)
  (hx:opdOK x r=true) (hs1:small C.nt [x]=true) (hv:opdOK v q=true) (hs2:small C.nt [v]=true) (hr:r.ev C.E σ = .pt) (hg:r.gh γ = .ptr m o') (hm:γ m = .cl us) (hσ:σ m = .ag cs)
  (hp:(q.ev C.E σ).plain=true) (hn:(q.ev C.E σ).cells.length=n) (hfit:o'+n≤cs.length)
  (hts:∀t∈ts,(splice cs o' (q.ev C.E σ).cells)[t.1]?=some .nil) (hno:∀t∈ts,γ (lk t.2.1) = .no) (hnd:(ts.map (·.2.1)).Nodup)
  (hK:∀D' a' w',Sim C D' (updL σ (m :: ts.map fun t=>lk t.2.1) (.ag (Eng.nilAt (splice cs o' (q.ev C.E σ).cells) ts) :: ts.map fun _ => .dead)) (updL γ (m :: ts.map fun t=>lk t.2.1) (.cl (us.filter (fun t=>t.1<o' || o'+n≤t.1)++ts) :: ts.map fun t => .live t.2.2)) a' w'→K a' w'):o.wp C.P a w K Q:=by
 have hmlt:m<1000000:=(h.rng m (by rw [hm];rfl)).2
 have hkm':∀k∈ts.map fun t=>lk t.2.1,m≠k:=fun k hk=>by obtain ⟨t,_,rfl⟩:=List.mem_map.1 hk;have:=lk_ge t.2.1;omega
 have hkm:m ∉ ts.map fun t=>lk t.2.1:=fun hk=>hkm' _ hk rfl
 refine op_st h hd ho hi hz hx hs1 hv hs2 hr hg hm hσ hp hn hfit fun D' a' w' hS=>?_
 obtain ⟨D2,h2⟩:=hS.retip (m:=m) (us':=us.filter (fun t=>t.1<o' || o'+n≤t.1)) (ts:=ts) (by rw [upd_same]) (by rw [upd_same]) (fun t ht=>List.mem_append.2 (.inl ht)) hts (fun t ht=>by
  have e2:=hkm' _ (List.mem_map.2 ⟨t,ht,rfl⟩)
  rw [upd_ne _ _ e2.symm];exact hno t ht) hnd
 refine hK D2 a' w' ?_
 rw [updL_upd hkm,updL_upd hkm,upd_upd,upd_upd] at h2
 exact h2
end
section
variable {C:Ctx} {sg:Nat→FSig}
theorem k_bxt {m:Nat} {ts:List (Nat × (Nat × Nat))}:KindOK C sg (.bxt m ts):=by
 intro D σ γ a w dst op ty pos after guard rs ds gd ws gs K' Q h ho hk hsm hs hg hK
 simp only [keysOK,Bool.and_eq_true,decide_eq_true_eq,beq_iff_eq] at hk
 obtain ⟨⟨⟨hm1,hm2⟩,hk0,hk1⟩,hk2⟩:=hk
 obtain ⟨d,rfl,hl,rfl⟩:=dOK0 hk2
 simp only [opOK] at ho
 split at ho
 ·rename_i t x r rest
  simp only [List.drop_succ_cons,List.drop_zero] at hk1
  have hrs:=slots_eq hk1
  subst hrs
  simp only [List.map_cons,sem] at hs
  obtain ⟨p1,p2,rfl⟩:=hs
  simp only [List.map_cons,gsem] at hg
  rw [Option.ite_none_right_eq_some] at hg
  obtain ⟨⟨c1,c2,c3⟩,hg⟩:=hg
  cases hg
  simp only [List.all_cons,Bool.and_eq_true,decide_eq_true_eq,List.map_map,List.all_eq_true,List.mem_map] at c2
  refine op_bxt h rfl hl rfl ho (small_mem hsm (by simp [Op.operands])) p1 c2.1 hm1 hm2 p2 (fun t ht=>c2.2 _ ⟨t,ht,rfl⟩) c3 hK
 ·cases ho
theorem k_stt {m o' n:Nat} {ts:List (Nat × (Nat × Nat))}:KindOK C sg (.stt m o' n ts):=by
 intro D σ γ a w dst op ty pos after guard rs ds gd ws gs K' Q h ho hk hsm hs hg hK
 simp only [keysOK,Bool.and_eq_true,decide_eq_true_eq,beq_iff_eq,Option.isNone_iff_eq_none] at hk
 obtain ⟨⟨⟨⟨hm1,rfl⟩,rfl⟩,hk0,hk1⟩,hk3⟩:=hk
 simp only [opOK] at ho
 split at ho
 ·rename_i t x v p q r rest
  simp only [Bool.and_eq_true,beq_iff_eq] at ho
  obtain ⟨⟨⟨ht,hx⟩,hv⟩,_⟩:=ho
  obtain ⟨inf,h1,h2⟩:=sizeT_spec ht
  cases q with
  | s j =>
   simp at hk3
   subst hk3
   simp only [List.drop_succ_cons,List.drop_zero] at hk1
   have hrs:=slots_eq hk1
   subst hrs
   simp only [List.map_cons,sem] at hs
   split at hs
   ·rename_i cs y rest' heq
    simp only [List.cons.injEq,Opd.ev] at heq
    obtain ⟨e1,e2,e3,e4⟩:=heq
    obtain ⟨p1,p2,p3,p4,rfl⟩:=hs
    subst e3
    simp only [List.map_cons,gsem] at hg
    split at hg
    ·rename_i m' o'' us g rest'' heq2
     simp only [List.cons.injEq,Opd.gh] at heq2
     obtain ⟨f1,f2,f3,f4⟩:=heq2
     subst f4
     rw [Option.ite_none_right_eq_some] at hg
     obtain ⟨⟨rfl,rfl,_,c2,c3⟩,hg⟩:=hg
     cases hg
     simp only [List.map_map,List.all_eq_true,List.mem_map,decide_eq_true_eq] at c2
     exact op_stt h rfl rfl h1 h2 hx (small_mem hsm (by simp [Op.operands])) hv (small_mem hsm (by simp [Op.operands])) e1 f1 f2 e2 p1 p2 p3 p4 (fun t ht=>c2 _ ⟨t,ht,rfl⟩) c3 hK
    ·cases hg
   ·cases hs
  | c=>simp at hk3
  | g=>simp at hk3
 ·cases ho
end
end Go.Eng
namespace Go.Eng
open Go.RowKit
theorem FSig.plain_spec {g:FSig} (h:g.plain=true):g.ref=none∧g.tips=[]∧g.own=[]∧g.new=none∧g.tnew=[]∧g.ps=none:=by
 simp only [FSig.plain,Bool.and_eq_true,Option.isNone_iff_eq_none,List.isEmpty_iff] at h
 obtain ⟨⟨⟨⟨⟨h1,h2⟩,h3⟩,h4⟩,h5⟩,h6⟩:=h
 exact ⟨h1,h2,h3,h4,h5,h6⟩
theorem RepT.set {R:Reach} {w:World} {x:AV} {y:Value} (hx:Rep R w x y):∀{xs:List AV} {ys:List Value} {i:Nat},RepT R w xs ys→ys[i]?=some y→RepT R w (xs.set i x) ys
 | _,_,0,.cons _ t,e=>by simp at e;subst e;exact .cons hx t
 | _,_,i+1,.cons h t,e => .cons h (RepT.set hx t (by simpa using e))
 | _,_,i,.nil,e=>by simp at e
theorem RepT.allV {R R':Reach} {w w':World}:∀{xs:List AV} {ys:List Value},RepT R w xs ys→(∀x∈xs,∃y,x = .v y)→RepT R' w' xs ys
 | _,_,.nil,_ => .nil
 | _,_,.cons h t,hv=>by
  obtain ⟨y,rfl⟩:=hv _ (List.mem_cons_self ..)
  cases h
  exact .cons (.v _) (t.allV fun x hx=>hv x (List.mem_cons_of_mem _ hx))
section
variable {C:Ctx} {D:Dyn} {σ:Sg} {γ:Ga} {a:Act} {w:World}
variable {o:Oper} {d:Nat} {K:Act→World→Prop} {Q:Exit→Act→World→Prop} (h:Sim C D σ γ a w)
include h
theorem op_rcall (hd:o.dst=some d) (hl:d<C.nt) {f n i m:Nat} {args:Array Operand} {ts:Array TypeId} {rs:List Opd} {cs outs:List AV} {us:List (Nat × (Nat × Nat))} (ho:o.op = .call { callee := .value (.func f),args,argTypes:=ts }) (hp:plainFn C.P f=true)
  {S:FS} (hS:SpecOK C.P C.E.gl f S) (hpl:S.sg.plain=true) (hn:S.sg.nres=n) (hx:opdsOK args.toList rs=true) (hsm:small C.nt args.toList=true)
  (hpt:(rs.map (Opd.ev C.E σ))[i]?=some .pt) (hgh:(rs.map (Opd.gh γ))[i]?=some (.ptr m 0)) (hm:γ m = .cl us) (hσ:σ m = .ag cs)
  (hG:S.G ((rs.map (Opd.ev C.E σ)).set i (.ro (.ag cs))) outs) (hol:outs.length=n) (hov:∀x∈outs,∃y,x = .v y)
  (hK:∀D' a' w',Sim C D' (upd σ d (if n=1 then outs.headD .dead else .tu outs)) (upd γ d .no) a' w'→K a' w'):o.wp C.P a w K Q:=by
 obtain ⟨p1,p2,p3,p4,p5,p6⟩:=FSig.plain_spec hpl
 obtain ⟨vs,hVA,_⟩:=h.mem m us hm
 rw [hσ] at hVA
 have hnR:=hVA.noR
 have hlt:=hVA.lt
 obtain ⟨elem,hh,hL⟩:=hVA.ag
 obtain ⟨v,hv1,_,hv2⟩:=opd_at h hx hsm hpt (by simp) (by simp)
 have hv3:v = .pointer (some ⟨D.β m,0,none⟩):=hv2 _ hgh
 subst hv3
 have hT:=h.opds hx hsm
 let R1:Reach:=fun b o=>D.R b o∨(b=D.β m∧o<cs.length)
 have k1:Keeps D.R w R1 w:=fun b o hr=>⟨.inl hr,rfl⟩
 have hle:cs.length≤vs.length:=by have:=hL.length;simp at this;omega
 have hro:Rep R1 w (.ro (.ag cs)) (.pointer (some ⟨D.β m,0,none⟩)):=by
  refine .ro (.ag rfl (RepC.write (hL.mono k1) (fun j hj => .inr ⟨rfl,by simp at hj;omega⟩) (fun j y hy=>?_)))
  rw [List.getElem?_take] at hy
  split at hy
  ·simp only [World.cell?,hh];simpa using hy
  ·cases hy
 have hA:ArgsOK S.sg R1 w ((rs.map (Opd.ev C.E σ)).set i (.ro (.ag cs))) (args.toList.map a.eval):=by
  unfold ArgsOK
  rw [p1]
  exact RepT.set hro (hT.mono k1) hv1
 unfold Oper.wp
 rw [call_run ho hp,Oper.upon_enter]
 have:=hS.1 p6 w R1 _ outs (args.toList.map a.eval) hG (fun b o hr=>by
  rcases hr with hr | ⟨rfl,_⟩
  ·exact h.rlt b o hr
  ·exact hlt) (fun n=>(h.gl n).mono k1) hA
 have e:(⟨args.toList.map a.eval⟩:Array Value)=args.map a.eval:=by apply Array.ext';simp
 rw [e] at this
 refine this.mono ?_
 rintro e w' ⟨x,R',rfl,h1,h2,h3⟩
 simp only
 rw [hd]
 obtain ⟨rvs,tr,to_,tn,bn,br,cn,cr,q1,q2,q3,q4,_⟩:=h3
 have hio:∀b,¬ioOf S.sg w (args.toList.map a.eval) b:=fun b hb=>by unfold ioOf at hb;rw [p1] at hb;exact hb
 have hg:=h.grow (w':=w') (R':=D.R) h1.os h1.tape h1.output h1.size (fun b hb=>h1.heap b hb (hio b)) (fun _ _ h=>h) (fun _ _ h => .inl h) (fun b o hr=>Nat.lt_of_lt_of_le (h.rlt b o hr) h1.size)
 have e1:(outs.take S.sg.nres).mapIdx (fun i y=>if S.sg.new=some i then AV.pt else y)=outs:=by
  rw [p4,List.take_of_length_le (by omega)]
  apply List.ext_getElem?
  intro j
  simp
 rw [e1] at q4
 exact hK _ _ _ (Sim.putRes hg hl (q1.trans hn) (by rw [←hn];exact q2) (q4.allV hov) hol)
end
section
variable {C:Ctx} {sg:Nat→FSig}
theorem k_rcall (hE:∀f,SpecOK C.P C.E.gl f (C.E.fs f)∧(C.E.fs f).sg=sg f) {f n nres i m:Nat}:KindOK C sg (.rcall f n nres i m):=by
 intro D σ γ a w dst op ty pos after guard rs ds gd ws gs K' Q h ho hk hsm hs hg hK
 simp only [keysOK,Bool.and_eq_true,decide_eq_true_eq,beq_iff_eq,List.map_cons,List.map_nil] at hk
 obtain ⟨⟨_,hk0,hk1⟩,hk2⟩:=hk
 obtain ⟨d,rfl,hl,rfl⟩:=dOK0 (l:=[]) hk2
 simp only [opOK] at ho
 split at ho
 ·rename_i g args ats
  simp only [Bool.and_eq_true,beq_iff_eq,decide_eq_true_eq] at ho
  obtain ⟨⟨⟨⟨⟨rfl,hpf⟩,hps,hn⟩,hx⟩,hsz⟩,hin⟩:=ho
  rw [←(hE f).2] at hps hn
  have htl:(rs.take n).length=n:=by rw [←opdsOK_len hx];simpa using hsz
  have hsm':small C.nt args.toList=true:=small_sub hsm (fun x hx=>by
   have:x∈args:=by simpa using hx
   simp only [Op.operands,Call.operands,Array.toList_append,List.mem_append]
   exact .inr hx)
  have hdrop:rs.drop n=[.s m]:=by
   simp only [List.length_cons,List.length_nil] at hk0
   obtain ⟨q,hq⟩:=len1 (l:=rs.drop n) (by rw [List.length_drop];omega)
   rw [hq] at hk1 ⊢
   cases q <;> simp at hk1
   rw [hk1]
  have hrs:rs=rs.take n++[.s m]:=by rw [←hdrop,List.take_append_drop]
  simp only [sem] at hs
  obtain ⟨cs,outs,v1,v2,hG,hol,hov,rfl⟩:=hs
  have hlast:∀{X:Type} (F:Opd→X),(rs.map F)[n]?=some (F (.s m)):=fun F=>by
   have h1:rs[n]?=some (.s m):=by rw [hrs,List.getElem?_append_right (by omega),htl];simp
   rw [List.getElem?_map,h1];rfl
  have hi:∀{X:Type} (F:Opd→X),((rs.take n).map F)[i]?=(rs.map F)[i]?:=fun F=>by
   rw [List.map_take,List.getElem?_take,if_pos hin]
  simp only [gsem] at hg
  split at hg
  ·rename_i us g2
   rw [Option.ite_none_right_eq_some] at hg
   obtain ⟨g1,hg⟩:=hg
   cases hg
   rw [hlast] at v1 g2
   simp only [Opd.ev,Opd.gh,Option.some.injEq] at v1 g2
   rw [←hi] at v2 g1
   rw [←List.map_take] at hG
   exact op_rcall h rfl hl rfl hpf (hE f).1 hps hn hx hsm' v2 g1 g2 v1 hG hol hov hK
  ·cases hg
 ·cases ho
end
end Go.Eng
namespace Go.Eng
open Go.RowKit
section
variable {C:Ctx} {D:Dyn} {σ:Sg} {γ:Ga} {a:Act} {w:World}
variable {o:Oper} {d:Nat} {K:Act→World→Prop} {Q:Exit→Act→World→Prop} (h:Sim C D σ γ a w)
include h
theorem op_apv (hd:o.dst=some d) (hl:d<C.nt) {x y:Operand} {r q:Opd} {t u e:TypeId} {i:TypeInfo} {z:Value} {du:TypeDesc} {k k' s:Nat} {fs:List AV} (ho:o.op = .call { callee := .builtin .append,args:=#[x,y],argTypes:=#[t,u] })
  (ht:C.P.underlying t=some (.slice e)) (hi:C.P.info? e=some i) (hz:i.zero=some z) (hzs:z.cells.size=i.size) (hu:C.P.underlying u=some du) (hdu:∀k,du ≠ .int k) (hs:i.size=s)
  (hx:opdOK x r=true) (hs1:small C.nt [x]=true) (hr:r.ev C.E σ = .sl s []) (hg:r.gh γ = .tip k s) (hlk:γ (lk k) = .live s) (hno:γ (lk k') = .no) (hne:k≠k')
  {news:List Value} (hsrc:Source C.P w s (a.eval y) fs.length news) (hL:RepL D.R w (fs.flatMap AV.cells) news) (hfs:∀e∈fs,e.cells.length=s) (h63:fs.length≤maxLen) (hb:fs.length * i.bytes≤140737488355328)
  (hK:∀D' a' w',Sim C D' (updL σ [d,lk k,lk k'] [.pt,.dead,.sl s fs]) (updL γ [d,lk k,lk k'] [.tip k' s,.used,.pv s]) a' w'→K a' w'):o.wp C.P a w K Q:=by
 subst hs
 have e0:=h.opd hx hs1
 have e1:=e0.rep (by rw [hr];simp)
 have e2:=e0.gh (by rw [hr];simp) (by rw [hr];simp)
 rw [hr] at e1
 rw [hg] at e2
 simp only [GhOK] at e2
 replace e2:=e2.1
 have hT:=h.tip _ _ hlk
 rw [←e2] at hT
 have h1:=h.kill hlk
 have hbk:blk D γ (lk k)=(a.eval x).ownBlock:=by rw [blk_live hlk,←e2]
 have hown:∀g,(a.eval x).ownBlock=some g→C.mine g∧∀key,blk D (upd γ (lk k) .used) key≠some g:=fun g hg'=>by
  refine ⟨h.own (lk k) g (hbk.trans hg'),fun key hkey=>?_⟩
  by_cases e:key=lk k
  ·subst e;simp [blk,upd_same] at hkey
  ·have:blk D γ key=some g:=by unfold blk at hkey ⊢;rwa [upd_ne _ _ e] at hkey
   exact e (h.sepN (key:=lk k) (by rw [hlk];rfl) (hbk.trans hg') this).symm
 have hP:PrivOK D.R w (a.eval x) i.size (.sl i.size []):=by
  rcases hT with e | ⟨g,n,cap,cur,ce,fz,e,hg1,hfz,hcs,hn,hcm,hnR⟩
  ·rw [e];exact ⟨fun g hg=>by simp [Value.ownBlock] at hg,.inr ⟨[],rfl,by simp,.inl ⟨rfl,rfl⟩⟩⟩
  ·have hn0:n=0:=by
    rw [e] at e1
    rcases e1.sl_inv with ⟨_,hv⟩ | ⟨b,off,c',hv,_⟩ | ⟨_,ad,c',hv,_⟩ <;> cases hv <;> rfl
   subst hn0
   rw [e]
   refine ⟨fun g' hg' o=>?_,.inr ⟨[],rfl,by simp,.inr ⟨g,cap,cur,ce,fz,rfl,hg1,?_⟩⟩⟩
   ·simp [Value.ownBlock] at hg';subst hg';exact hnR o (by omega)
   ·simp only [List.flatMap_nil,List.length_nil,Nat.zero_mul,List.take_zero];exact .nil
 obtain ⟨v,w',hrun,os,tape,out,size,hh,_,_,ct,cp,hvb⟩:=run_append_priv (ty:=o.type) (es:=[]) ht hi hz hzs hu hdu hT hP h.rlt hsrc hL hfs (by simpa using h63) (by simpa using hb)
 rw [List.nil_append] at cp
 have keep:Keeps D.R w D.R w':=fun b o hr=>⟨hr,World.cell?_of_block (w:=w) (hh b (h.rlt b o hr) (fun e=>hP.1 b e o hr))⟩
 have hS:=h1.world (w':=w') (R':=D.R) os tape out size (fun b hb hor=>hh b hb (fun e=>by
  obtain ⟨m1,m2⟩:=hown b e
  rcases hor with ⟨key,hk⟩ | hm
  ·exact m2 key hk
  ·exact hm m1)) keep (fun b o hr => .inl hr) (fun b o hr=>Nat.lt_of_lt_of_le (h.rlt b o hr) size)
 unfold Oper.wp
 rw [show (execOp a.eval o).run C.P w = .ok (.value v) w' by simp [execOp,ho,resolve,invoke,builtin,hrun],Oper.upon_value,hd]
 have hno':upd γ (lk k) .used (lk k') = .no:=by rw [upd_ne _ _ (fun e=>hne (lk_inj e).symm)];exact hno
 have hF:=(hS.dead (k:=lk k) (by rw [upd_same];rfl)).putPriv hl hno' ct cp (fun g hg=>by
  rcases hvb g hg with e | e
  ·exact hown g e
  ·exact ⟨.inr (Nat.le_trans h.ext.size e),fun key hk=>by have:=h1.lt hk;omega⟩)
 have hc:lk k'≠lk k:=fun e=>hne (lk_inj e).symm
 have eσ:updL σ [d,lk k,lk k'] [.pt,.dead,.sl i.size fs]=updL (upd σ (lk k) .dead) [d,lk k'] [.pt,.sl i.size fs]:=by
  simp only [updL];rw [upd_comm σ _ _ hc]
 have eγ:updL γ [d,lk k,lk k'] [.tip k' i.size,.used,.pv i.size]=updL (upd γ (lk k) .used) [d,lk k'] [.tip k' i.size,.pv i.size]:=by
  simp only [updL];rw [upd_comm γ _ _ hc]
 rw [eσ,eγ] at hK
 exact hK _ _ _ hF
theorem op_mvz {k:Nat} (h9:k≠999999) (hd:o.dst=some d) (hl:d<C.nt) {x:Operand} {r:Opd} {j s s0:Nat} {es:List AV} (ho:o.op = .move x∨o.op = .assign x) (hx:opdOK x r=true) (hs1:small C.nt [x]=true) (hj:j<C.nt) (hrj:r ≠ .s j) (hr:σ j = .pt) (hg:γ j = .tip k s0)
  (hk:γ (lk k) = .pv s) (hσ:σ (lk k) = .sl s es) (hK:∀D' a' w',Sim C D' (updL σ [d,j,lk k] [r.ev C.E σ,.sl s es,.dead]) (updL γ [d,j,lk k] [(r.gh γ).strip,.tip k s,.live s]) a' w'→K a' w'):o.wp C.P a w K Q:=by
 have hsj:small C.nt [.tmp j]=true:=by simp [small,hj]
 have e0:=h.opd (x := .tmp j) (r := .s j) (by simp [opdOK]) hsj
 have hv:=e0.gh (by simp only [Opd.ev];rw [hr];simp) (by simp only [Opd.ev];rw [hr];simp)
 simp only [Opd.gh] at hv
 rw [hg] at hv
 obtain ⟨hv1,hv2⟩:=hv
 have hev:a.eval (.tmp j)=a.tmps.getD j undef:=rfl
 have hrun:(execOp a.eval o).run C.P w = .ok (.value (a.eval x)) w:=by rcases ho with e | e <;> simp [execOp,e]
 obtain ⟨R',hS,hR,_⟩:=h.thaw h9 hk hσ
 have hlk1:(upd γ (lk k) (.live s) (lk k)).isLk=true:=by rw [upd_same];rfl
 have hS2:=hS.retype (g := .tip k s) hj (.inr ⟨by rw [←hev,hv1];exact hR,fun _=>⟨hev ▸ hv1,hev ▸ hv2⟩⟩) rfl rfl hlk1
 have hjk:lk k≠j:=by have:=lk_ge k;have:=h.ntlt;omega
 have hre:r.ev C.E (upd (upd σ (lk k) .dead) j (.sl s es))=r.ev C.E σ∧r.gh (upd (upd γ (lk k) (.live s)) j (.tip k s))=r.gh γ:=by
  cases r with
  | s t =>
   have h1:t≠j:=fun e=>hrj (by rw [e])
   have h2:t≠lk k:=fun e=>by
    have ht:t<C.nt:=by cases x <;> simp [opdOK] at hx;subst hx;simpa [small] using hs1
    have:=lk_ge k;have:=h.ntlt;omega
   exact ⟨by simp only [Opd.ev];rw [upd_ne _ _ h1,upd_ne _ _ h2],by simp only [Opd.gh];rw [upd_ne _ _ h1,upd_ne _ _ h2]⟩
  | _=>exact ⟨rfl,rfl⟩
 have e1:=hS2.opd hx hs1
 have em:=(hS2.ment_opd r).strip
 rw [hre.1,hre.2] at e1
 rw [hre.2] at em
 unfold Oper.wp
 rw [hrun,Oper.upon_value,hd]
 refine hK _ _ _ (hS2.put (g:=(r.gh γ).strip) hl ?_ ?_ ?_ em)
 ·rcases e1 with e | ⟨q1,q2⟩
  ·exact .inl e
  ·exact .inr ⟨q1,by cases hg:r.gh γ <;> rw [hg] at q2 <;> first | exact q2 | trivial⟩
 ·cases r.gh γ <;> rfl
 ·cases r.gh γ <;> rfl
end
section
variable {C:Ctx} {sg:Nat→FSig}
theorem k_apv {k d' s b:Nat}:KindOK C sg (.apv k d' s b):=by
 intro D σ γ a w dst op ty pos after guard rs ds gd ws gs K' Q h ho hk hsm hs hg hK
 simp only [keysOK,Bool.and_eq_true,beq_iff_eq,List.map_cons,List.map_nil] at hk
 obtain ⟨⟨hk0,hk1⟩,hk2⟩:=hk
 obtain ⟨d,rfl,hl,rfl⟩:=dOK0 hk2
 simp only [opOK] at ho
 split at ho
 ·rename_i args ats r q r3 r4
  simp only [Bool.and_eq_true,beq_iff_eq] at ho
  obtain ⟨⟨ho,h1⟩,h2⟩:=ho
  obtain ⟨t,u,e,i,z,du,rfl,q1,q2,q3,q4,q5,q6,q7,q8⟩:=apTypes h1 h2
  have ht:=tail2 hk1
  simp only [List.drop_succ_cons,List.drop_zero,List.cons.injEq,and_true] at ht
  obtain ⟨rfl,rfl⟩:=ht
  obtain ⟨x,y,hx0⟩:=len2 (l:=args.toList) (by rw [opdsOK_len ho];rfl)
  rw [hx0] at ho
  obtain ⟨r',q',hrq,hx,hy⟩:=opds2 ho
  simp only [List.cons.injEq,and_true] at hrq
  obtain ⟨rfl,rfl⟩:=hrq
  have ea:=arr2 hx0
  subst ea
  simp only [List.map_cons,List.map_nil,sem] at hs
  split at hs
  ·rename_i s' s'' fs v1 v2 heq
   simp only [List.cons.injEq,and_true] at heq
   obtain ⟨e1,e2,_⟩:=heq
   obtain ⟨rfl,rfl,p1,p2,p3,rfl⟩:=hs
   simp only [List.map_cons,List.map_nil,gsem] at hg
   split at hg
   ·rename_i k1 s1 g s2 heq2
    simp only [List.cons.injEq,and_true,Opd.gh] at heq2
    obtain ⟨g1,g2,g3,g4⟩:=heq2
    split at hg
    ·rename_i hc
     obtain ⟨rfl,rfl,rfl,hne⟩:=hc
     cases hg
     have hrep:=(h.opd hy (small_mem hsm (by simp [Op.operands,Call.operands]))).rep (by rw [e2];simp)
     rw [e2] at hrep
     obtain ⟨news,n1,n2,n3⟩:=Source.of_sl (P:=C.P) hrep
     exact op_apv (q:=q) h rfl hl rfl q1 q2 q5 q6 q7 q8 q3 hx (small_mem hsm (by simp [Op.operands,Call.operands])) e1 g1 g3 g4 hne n1 n2 p1 p2 (by rw [q4];exact p3) hK
    ·cases hg
   ·cases hg
  ·cases hs
 ·cases ho
theorem k_mvz {k s:Nat}:KindOK C sg (.mvz k s):=by
 intro D σ γ a w dst op ty pos after guard rs ds gd ws gs K' Q h ho hk hsm hs hg hK
 simp only [keysOK,Bool.and_eq_true] at hk
 obtain ⟨⟨h9,hk0,hk1⟩,hk2⟩:=hk
 simp only [decide_eq_true_eq] at h9
 have main:∀{x:Operand} {r p q:Opd},(op = .move x∨op = .assign x)→rs=[r,p,q]→opdOK x r=true→(⟨dst,op,ty,pos,after,guard⟩:Oper).wp C.P a w K' Q:=by
  intro x r p q hop hrs hx
  subst hrs
  cases q <;> simp at hk1
  subst hk1
  cases p with
  | s j =>
   simp only [Bool.and_eq_true,decide_eq_true_eq] at hk2
   obtain ⟨⟨hj,hrj0⟩,hk2⟩:=hk2
   have hrj:r ≠ .s j:=fun e=>by subst e;simp at hrj0
   obtain ⟨d,rfl,hl,rfl⟩:=dOK0 hk2
   simp only [List.map_cons,List.map_nil,sem] at hs
   simp only [List.map_cons,List.map_nil,gsem] at hg
   split at hs
   ·rename_i y s' es heq
    simp only [List.cons.injEq,and_true] at heq
    obtain ⟨rfl,e2,e3⟩:=heq
    obtain ⟨rfl,rfl⟩:=hs
    split at hg
    ·rename_i g k' s0 s1 heq2
     simp only [List.cons.injEq,and_true] at heq2
     obtain ⟨rfl,g2,g3⟩:=heq2
     split at hg
     ·rename_i hc
      obtain ⟨rfl,rfl⟩:=hc
      cases hg
      exact op_mvz h h9 rfl hl hop hx (small_mem hsm (by rcases hop with rfl | rfl <;> simp [Op.operands])) hj hrj e2 g2 g3 e3 hK
     ·cases hg
    ·cases hg
   ·cases hs
  | _=>cases hk2
 simp only [opOK] at ho
 split at ho
 ·exact main (.inl rfl) rfl ho
 ·exact main (.inr rfl) rfl ho
 ·cases ho
end
end Go.Eng
namespace Go.Eng
open Go.RowKit
theorem RepL.setAt {R:Reach} {w:World}:∀{xs:List AV} {ys:List Value} (c:Nat) {x:AV} {y:Value},RepL R w xs ys→ys[c]?=some y→Rep R w x y→RepL R w (xs.set c x) ys
 | [],_,c,x,y,h,_,_=>by simpa using h
 | _ :: _,_,0,x,y,h,hy,hx=>by
  cases h with | cons a b r =>
  simp at hy
  subst hy
  exact .cons a hx r
 | _ :: _,_,c+1,x,y,h,hy,hx=>by
  cases h with | cons a b r =>
  exact .cons a b (RepL.setAt c r (by simpa using hy) hx)
section
variable {C:Ctx} {D:Dyn} {σ:Sg} {γ:Ga} {a:Act} {w:World}
theorem Sim.remem (h:Sim C D σ γ a w) {m:Nat} {ts:List (Nat × (Nat × Nat))} (hm:γ m = .cl ts) {x:AV} (hV:∀cs,VarAt D.R w (σ m) (D.β m) cs→(∀t∈ts,cs[t.1]?=some (D.τ (lk t.2.1)))→VarAt D.R w x (D.β m) cs):Sim C D (upd σ m x) γ a w:=by
 have hr:=h.rng m (by rw [hm];rfl)
 refine ⟨h.size,h.defers,h.ntlt,h.rng,h.lrng,fun t ht=>?_,fun m' ts' hm'=>?_,h.tip,fun key s hs=>?_,h.sep,h.own,h.inv,h.ext,h.rlt,h.gl,h.fix⟩
 ·rw [upd_ne _ _ (show t≠m by omega)];exact h.slot t ht
 ·by_cases e:m'=m
  ·subst e
   rw [upd_same]
   rw [hm] at hm'
   cases hm'
   obtain ⟨cs,hv,ht⟩:=h.mem m' ts hm
   exact ⟨cs,hV cs hv ht,ht⟩
  ·rw [upd_ne _ _ e];exact h.mem m' ts' hm'
 ·have e:key≠m:=fun e=>by subst e;rw [hm] at hs;cases hs
  obtain ⟨h1,h2,h3⟩:=h.ps key s hs
  rw [upd_ne _ _ e]
  exact ⟨h1,h2,fun d s1 s' e1 e2=>by
   have e':d≠m:=fun e'=>by subst e';rw [hm] at e2;cases e2
   rw [upd_ne _ _ e,upd_ne _ _ e'];exact h3 d s1 s' e1 e2⟩
variable {o:Oper} {d:Nat} {K:Act→World→Prop} {Q:Exit→Act→World→Prop} (h:Sim C D σ γ a w)
include h
theorem op_stp {x v:Operand} {r q:Opd} {t:TypeId} {inf:TypeInfo} {m o':Nat} {cs:List AV} {ts:List (Nat × (Nat × Nat))} {k s:Nat} (hd:o.dst=none) (ho:o.op = .store t x v) (hi:C.P.info? t=some inf) (hz:inf.size=1)
  (hx:opdOK x r=true) (hs1:small C.nt [x]=true) (hv:opdOK v q=true) (hs2:small C.nt [v]=true) (hr:r.ev C.E σ = .pt) (hg:r.gh γ = .ptr m o') (hm:γ m = .cl ts) (hσ:σ m = .ag cs)
  (hq:q.ev C.E σ = .pt) (hgq:q.gh γ = .tip k s) (hfit:o'+1≤cs.length)
  (hK:∀D' a' w',Sim C D' (upd σ m (.ag (splice cs o' [.pt]))) (upd γ m (.cl (ts.filter (fun t=>t.1<o' || o'+1≤t.1)++[(o',k,s)]))) a' w'→K a' w'):o.wp C.P a w K Q:=by
 have q0:=h.opd hv hs2
 have hgv:=q0.gh (by rw [hq];simp) (by rw [hq];simp)
 rw [hgq] at hgv
 simp only [GhOK] at hgv
 have hL:RepL D.R w [.pt] (a.eval v).cells.toList:=by
  have hc1:(a.eval v).cells.toList=[a.eval v]:=by
   have e2:=hgv.2
   generalize a.eval v=y at e2
   cases y <;> first | rfl | (simp [Value.oneCell'] at e2)
  rw [hc1];exact .cons hgv.2 (.pt _) .nil
 refine op_stG h hd ho hi hz hx hs1 hv hs2 hr hg hm hσ (by rw [hq];simp) (by rw [hq];simp) hL rfl hfit ?_
 rw [hgq]
 simpa using hK
theorem op_ldz {k:Nat} (h9:k≠999999) (hd:o.dst=some d) (hl:d<C.nt) {x:Operand} {r:Opd} {t:TypeId} {m o' n c s:Nat} {inf:TypeInfo} {cs:List AV} {ts:List (Nat × (Nat × Nat))} {es:List AV} {sv:AV} (ho:o.op = .load t x) (hi:C.P.info? t=some inf) (hz:inf.size=n) (ha:isAggT C.P t=some true)
  (hx:opdOK x r=true) (hs1:small C.nt [x]=true) (hr:r.ev C.E σ = .pt) (hg:r.gh γ = .ptr m o') (hm:γ m = .cl ts) (hσ:σ m = .ag cs) (hc:(c,k,s)∈ts) (hcs:c<cs.length) (hk:γ (lk k) = .pv s) (hσk:σ (lk k) = .sl s es)
  (hp:partAV (cs.set c (.sl s es)) o' n true=some sv) (hK:∀D' a' w',Sim C D' (updL σ [d,m,lk k] [sv,.ag (cs.set c (.sl s es)),.dead]) (updL γ [d,m,lk k] [.no,.cl ts,.live s]) a' w'→K a' w'):o.wp C.P a w K Q:=by
 obtain ⟨R',hS,hR,_⟩:=h.thaw h9 hk hσk
 have hne:m≠lk k:=fun e=>by rw [e,hk] at hm;cases hm
 have hm':upd γ (lk k) (.live s) m = .cl ts:=by rw [upd_ne _ _ hne];exact hm
 have hS2:=hS.remem hm' (x := .ag (cs.set c (.sl s es))) (fun vs hv hts=>by
  rw [upd_ne _ _ hne,hσ] at hv
  have hnr:=hv.noR
  obtain ⟨elem,hh,hL⟩:=hv.ag
  refine ⟨elem,hh,.inr ⟨_,rfl,?_⟩,hnr⟩
  rw [List.length_set]
  have h1:=hts _ hc
  exact hL.setAt c (by rw [List.getElem?_take,if_pos hcs];exact h1) hR)
 have hre:r.ev C.E (upd (upd σ (lk k) .dead) m (.ag (cs.set c (.sl s es))))=r.ev C.E σ∧r.gh (upd γ (lk k) (.live s))=r.gh γ:=by
  cases r with
  | s t =>
   have ht:t<C.nt:=by cases x <;> simp [opdOK] at hx;subst hx;simpa [small] using hs1
   have h2:t≠lk k:=by have:=lk_ge k;have:=h.ntlt;omega
   have h1:t≠m:=by have:=h.rng m (by rw [hm];rfl);omega
   exact ⟨by simp only [Opd.ev];rw [upd_ne _ _ h1,upd_ne _ _ h2],by simp only [Opd.gh];rw [upd_ne _ _ h2]⟩
  | _=>exact ⟨rfl,rfl⟩
 refine op_ld hS2 hd hl ho hi hz ha (.inl rfl) hx hs1 (by rw [hre.1];exact hr) (by rw [hre.2];exact hg) hm' (by rw [upd_same]) hp ?_
 intro D' a' w' hF
 have eγ:updL γ [d,m,lk k] [.no,.cl ts,.live s]=upd (upd γ (lk k) (.live s)) d .no:=by
  simp only [updL]
  congr 1
  funext j
  by_cases e:j=m
  ·subst e;rw [upd_same,hm']
  ·rw [upd_ne _ _ e]
 refine hK D' a' w' ?_
 rw [eγ]
 exact hF
end
section
variable {C:Ctx} {sg:Nat→FSig}
theorem k_stp {m o':Nat}:KindOK C sg (.stp m o'):=by
 intro D σ γ a w dst op ty pos after guard rs ds gd ws gs K' Q h ho hk hsm hs hg hK
 simp only [keysOK,Bool.and_eq_true,decide_eq_true_eq,beq_iff_eq,Option.isNone_iff_eq_none] at hk
 obtain ⟨⟨⟨⟨hm1,hm2⟩,rfl⟩,rfl⟩,hk1⟩:=hk
 simp only [opOK] at ho
 split at ho
 ·rename_i t x v p q r
  simp only [Bool.and_eq_true,beq_iff_eq] at ho
  obtain ⟨⟨ht,hx⟩,hv⟩:=ho
  obtain ⟨inf,h1,h2⟩:=sizeT_spec ht
  cases q with
  | s j =>
   simp at hk1
   subst hk1
   simp only [List.map_cons,List.map_nil,sem] at hs
   split at hs
   ·rename_i cs heq
    simp only [List.cons.injEq,and_true,Opd.ev] at heq
    obtain ⟨e1,e2,e3⟩:=heq
    obtain ⟨p3,rfl⟩:=hs
    simp only [List.map_cons,List.map_nil,gsem] at hg
    split at hg
    ·rename_i m' o'' ts k s heq2
     simp only [List.cons.injEq,and_true,Opd.gh] at heq2
     obtain ⟨f1,f2,f3⟩:=heq2
     split at hg
     ·rename_i hc
      obtain ⟨rfl,rfl⟩:=hc
      cases hg
      exact op_stp h rfl rfl h1 h2 hx (small_mem hsm (by simp [Op.operands])) hv (small_mem hsm (by simp [Op.operands])) e1 f1 f2 e2 e3 f3 p3 hK
     ·cases hg
    ·cases hg
   ·cases hs
  | c=>simp at hk1
  | g=>simp at hk1
 ·cases ho
theorem k_ldz {m o' n c k s:Nat}:KindOK C sg (.ldz m o' n c k s):=by
 intro D σ γ a w dst op ty pos after guard rs ds gd ws gs K' Q h ho hk hsm hs hg hK
 simp only [keysOK,Bool.and_eq_true,decide_eq_true_eq,beq_iff_eq] at hk
 obtain ⟨⟨⟨h9,hm1,hm2⟩,hk0,hk1⟩,hk2⟩:=hk
 obtain ⟨d,rfl,hl,rfl⟩:=dOK0 hk2
 simp only [opOK] at ho
 split at ho
 ·rename_i t x r rest
  have ht2:=tail2 hk1
  simp only [List.drop_succ_cons,List.drop_zero] at ht2
  subst ht2
  simp only [Bool.and_eq_true] at ho
  obtain ⟨ht,ho⟩:=ho
  obtain ⟨inf,h1,h2,h3,h4⟩:=shapeOK_spec ht
  simp only [List.map_cons,List.map_nil,sem] at hs
  split at hs
  ·rename_i cs s' es heq
   simp only [List.cons.injEq,and_true,Opd.ev] at heq
   obtain ⟨x',rfl,p0,p1,rfl⟩:=hs
   simp only [List.map_cons,List.map_nil,gsem] at hg
   split at hg
   ·rename_i m' o'' ts s2 heq2
    simp only [List.cons.injEq,and_true,Opd.gh] at heq2
    split at hg
    ·rename_i hc
     obtain ⟨rfl,rfl,rfl,hin⟩:=hc
     cases hg
     exact op_ldz h h9 rfl hl rfl h1 h2 h3 ho (small_mem hsm (by simp [Op.operands])) heq.1 heq2.1 heq2.2.1 heq.2.1 hin p0 heq2.2.2 heq.2.2 p1 hK
    ·cases hg
   ·cases hg
  ·cases hs
 ·cases ho
end
end Go.Eng
namespace Go.Eng
open Go.RowKit
theorem real_eq (a:Array TypeId) (b:TypeId) (k:FloatKind) (p q:Nat):Builtin.real_ a b #[.complex k p q]=pure (.float k p):=rfl
theorem imag_eq (a:Array TypeId) (b:TypeId) (k:FloatKind) (p q:Nat):Builtin.imag_ a b #[.complex k p q]=pure (.float k q):=rfl
theorem complex_eq (a:Array TypeId) (b:TypeId) (p q:Nat):Builtin.complex_ a b #[.float .f64 p,.float .f64 q]=pure (.complex .f64 p q):=rfl
theorem trunc_eq {P:Program} {w:World} {nm:String} {b:Nat} (hb:Fl.num b=true):(Extern.MathFloor.toIntegral nm .zero #[.float .f64 b]).run P w = .ok (.float .f64 (Fl.trunc b)) w:=by
 unfold Fl.num at hb
 have e:Extern.MathFloor.toIntegral nm .zero #[.float .f64 b]=(match FloatKind.f64.decode b with
  | .nan s t =>
   if FloatKind.f64.format.quiet t=t then pure (.float .f64 b) else do
   let kept ←choose (.extern "math.Floor,Ceil,Trunc,RoundToEven.signallingNaN kept" 2)
   pure (.float .f64 (if kept == 1 then b else FloatKind.f64.encode (.nan s (FloatKind.f64.format.quiet t))))
  | d=>pure (.float .f64 (FloatKind.f64.encode (d.integral .zero)))):=rfl
 rw [e]
 unfold Fl.trunc
 cases hd:FloatKind.f64.decode b with
 | nan s t=>rw [hd] at hb;cases hb
 | number s m e=>rfl
 | infinity s=>rfl
theorem ext_tr_find {fn:Func} (h:fn.name = "math.archTrunc"):Extern.find fn=some (Extern.MathFloor.toIntegral "math.archTrunc" .zero):=by
 have e1:(Extern.allGenericRows.lookup "math.archTrunc")=none:=by kernel_rfl
 have e2:(Extern.allTypedRows.lookup "math.archTrunc")=none:=by kernel_rfl
 have e3:(Extern.allRows.lookup "math.archTrunc")=some (Extern.MathFloor.toIntegral "math.archTrunc" .zero):=by kernel_rfl
 unfold Extern.find
 simp only [h,e1,e2,e3]
 rfl
theorem ext_tr_next {fn:Func} (h:fn.name = "math.archTrunc") (h2:fn.origin = "" ∨ fn.origin = "math.archTrunc"):Extern.findNext fn=none:=by
 have e1:(Extern.allNextRows.lookup "math.archTrunc")=none:=by kernel_rfl
 have e2:(Extern.allNextRows.lookup "")=none:=by kernel_rfl
 unfold Extern.findNext
 rcases h2 with h2 | h2 <;> simp only [h,h2,e1,e2] <;> rfl
section
variable {C:Ctx} {D:Dyn} {σ:Sg} {γ:Ga} {a:Act} {w:World}
variable {o:Oper} {d:Nat} {K:Act→World→Prop} {Q:Exit→Act→World→Prop} (h:Sim C D σ γ a w)
include h
theorem op_rl (hd:o.dst=some d) (hl:d<C.nt) {x:Operand} {r:Opd} {ts:Array TypeId} {k:FloatKind} {p q:Nat} (ho:o.op = .call { callee := .builtin .real,args:=#[x],argTypes:=ts }) (hx:opdOK x r=true) (hs1:small C.nt [x]=true) (hr:r.ev C.E σ = .v (.complex k p q))
  (hK:∀D' a' w',Sim C D' (upd σ d (.v (.float k p))) (upd γ d .no) a' w'→K a' w'):o.wp C.P a w K Q:=by
 have e1:=(h.opd hx hs1).rep (by rw [hr];simp)
 rw [hr] at e1
 have hrun:(execOp a.eval o).run C.P w = .ok (.value (.float k p)) w:=by
  simp [execOp,ho,e1.v_inv,resolve,invoke,builtin,real_eq]
 exact h.valNo hd hl hrun (.v _) hK
theorem op_im (hd:o.dst=some d) (hl:d<C.nt) {x:Operand} {r:Opd} {ts:Array TypeId} {k:FloatKind} {p q:Nat} (ho:o.op = .call { callee := .builtin .imag,args:=#[x],argTypes:=ts }) (hx:opdOK x r=true) (hs1:small C.nt [x]=true) (hr:r.ev C.E σ = .v (.complex k p q))
  (hK:∀D' a' w',Sim C D' (upd σ d (.v (.float k q))) (upd γ d .no) a' w'→K a' w'):o.wp C.P a w K Q:=by
 have e1:=(h.opd hx hs1).rep (by rw [hr];simp)
 rw [hr] at e1
 have hrun:(execOp a.eval o).run C.P w = .ok (.value (.float k q)) w:=by
  simp [execOp,ho,e1.v_inv,resolve,invoke,builtin,imag_eq]
 exact h.valNo hd hl hrun (.v _) hK
theorem op_cx (hd:o.dst=some d) (hl:d<C.nt) {x y:Operand} {r q:Opd} {ts:Array TypeId} {m n:Nat} (ho:o.op = .call { callee := .builtin .complex,args:=#[x,y],argTypes:=ts }) (hx:opdOK x r=true) (hs1:small C.nt [x]=true) (hy:opdOK y q=true) (hs2:small C.nt [y]=true)
  (hr:r.ev C.E σ = .v (.float .f64 m)) (hq:q.ev C.E σ = .v (.float .f64 n)) (hK:∀D' a' w',Sim C D' (upd σ d (.v (.complex .f64 m n))) (upd γ d .no) a' w'→K a' w'):o.wp C.P a w K Q:=by
 have e1:=(h.opd hx hs1).rep (by rw [hr];simp)
 rw [hr] at e1
 have e2:=(h.opd hy hs2).rep (by rw [hq];simp)
 rw [hq] at e2
 have hrun:(execOp a.eval o).run C.P w = .ok (.value (.complex .f64 m n)) w:=by
  simp [execOp,ho,e1.v_inv,e2.v_inv,resolve,invoke,builtin,complex_eq]
 exact h.valNo hd hl hrun (.v _) hK
theorem op_cf (hd:o.dst=some d) (hl:d<C.nt) {x:Operand} {r:Opd} {t u:TypeId} {k:IntKind} {n:Int} (ho:o.op = .convert t u x) (ht:(C.P.underlying t).isSome=true) (hu:C.P.underlying u=some (.float .f64)) (hx:opdOK x r=true) (hs1:small C.nt [x]=true) (hr:r.ev C.E σ = .v (.int k n))
  (hK:∀D' a' w',Sim C D' (upd σ d (.v (.float .f64 (Fl.ofInt n)))) (upd γ d .no) a' w'→K a' w'):o.wp C.P a w K Q:=by
 have e1:=(h.opd hx hs1).rep (by rw [hr];simp)
 rw [hr] at e1
 have hrun:(execOp a.eval o).run C.P w = .ok (.value (.float .f64 (Fl.ofInt n))) w:=by
  simp only [execOp,ho,e1.v_inv,Sem.run_bind,run_convert_int_float w t u k .f64 n ht hu,Result.andThen_ok,Sem.run_pure]
  rfl
 exact h.valNo hd hl hrun (.v _) hK
theorem op_fc (hd:o.dst=some d) (hl:d<C.nt) {x:Operand} {r:Opd} {t u:TypeId} {b:Nat} (ho:o.op = .convert t u x) (ht:(C.P.underlying t).isSome=true) (hu:C.P.underlying u=some (.int .i64)) (hx:opdOK x r=true) (hs1:small C.nt [x]=true) (hr:r.ev C.E σ = .v (.float .f64 b)) (hb:Fl.toIntOK b=true)
  (hK:∀D' a' w',Sim C D' (upd σ d (.v (.int .i64 (Fl.toInt b)))) (upd γ d .no) a' w'→K a' w'):o.wp C.P a w K Q:=by
 have e1:=(h.opd hx hs1).rep (by rw [hr];simp)
 rw [hr] at e1
 have hn:floatToIntVal .f64 b .i64=some (Fl.toInt b):=by
  unfold Fl.toIntOK at hb
  obtain ⟨x,hx⟩:=Option.isSome_iff_exists.1 hb
  unfold Fl.toInt;rw [hx];rfl
 have hrun:(execOp a.eval o).run C.P w = .ok (.value (.int .i64 (Fl.toInt b))) w:=by
  simp only [execOp,ho,e1.v_inv,Sem.run_bind,run_convert_float_int w t u .f64 .i64 b _ ht hu hn,Result.andThen_ok,Sem.run_pure]
 exact h.valNo hd hl hrun (.v _) hK
theorem op_xtr (hd:o.dst=some d) (hl:d<C.nt) {x:Operand} {r:Opd} {f:Nat} {ts:Array TypeId} {b:Nat} (ho:o.op = .call { callee := .value (.func f),args:=#[x],argTypes:=ts }) (hf:externFn C.P f "math.archTrunc" = true)
  (hx:opdOK x r=true) (hs1:small C.nt [x]=true) (hr:r.ev C.E σ = .v (.float .f64 b)) (hb:Fl.num b=true)
  (hK:∀D' a' w',Sim C D' (upd σ d (.v (.float .f64 (Fl.trunc b)))) (upd γ d .no) a' w'→K a' w'):o.wp C.P a w K Q:=by
 have e1:=(h.opd hx hs1).rep (by rw [hr];simp)
 rw [hr] at e1
 unfold externFn at hf
 cases hfn:C.P.funcs[f]? with
 | none=>simp [hfn] at hf
 | some fn =>
  simp only [hfn,Option.any_some,Bool.and_eq_true,beq_iff_eq,Bool.or_eq_true] at hf
  obtain ⟨⟨hn,hbd⟩,hor⟩:=hf
  have hcall:=run_callFunc_extern (P:=C.P) hfn (by rw [hn];decide +kernel) hbd (ext_tr_next hn hor) (ext_tr_find hn) #[.float .f64 b] w
  have hto:(Extern.MathFloor.toIntegral "math.archTrunc" .zero #[.float .f64 b]).run C.P w = .ok (.float .f64 (Fl.trunc b)) w:=trunc_eq hb
  rw [hto] at hcall
  have hrun:(execOp a.eval o).run C.P w = .ok (.value (.float .f64 (Fl.trunc b))) w:=by
   have he:a.eval (.func f) = .func (.func f) #[] #[]:=rfl
   simp only [execOp,ho,resolve,Deferred.ofValue,he,invoke]
   simpa [e1.v_inv,resolve,Deferred.ofValue,invoke] using hcall
  exact h.valNo hd hl hrun (.v _) hK
end
section
variable {C:Ctx} {sg:Nat→FSig}
theorem k_rl:KindOK C sg .rl:=by
 intro D σ γ a w dst op ty pos after guard rs ds gd ws gs K' Q h ho hk hsm hs hg hK
 simp only [gsem,Option.some.injEq] at hg
 subst hg
 obtain ⟨d,rfl,hl,rfl⟩:=dOK0 (l:=[]) hk
 simp only [opOK] at ho
 split at ho
 ·rename_i args ats
  simp only [Bool.and_eq_true,beq_iff_eq] at ho
  obtain ⟨hx,hsz⟩:=ho
  obtain ⟨x,hx0⟩:=len1 (l:=args.toList) (by simpa using hsz)
  rw [hx0] at hx
  obtain ⟨r,rfl,hx1⟩:=opds1 hx
  have ea:args=#[x]:=by rw [←Array.toArray_toList (xs:=args),hx0]
  subst ea
  simp only [List.map_cons,List.map_nil,sem] at hs
  split at hs
  ·rename_i k p q heq
   simp only [List.cons.injEq,and_true,Opd.ev] at heq
   subst hs
   exact op_rl h rfl hl rfl hx1 (small_mem hsm (by simp [Op.operands,Call.operands])) heq hK
  ·cases hs
 ·cases ho
theorem k_im:KindOK C sg .im:=by
 intro D σ γ a w dst op ty pos after guard rs ds gd ws gs K' Q h ho hk hsm hs hg hK
 simp only [gsem,Option.some.injEq] at hg
 subst hg
 obtain ⟨d,rfl,hl,rfl⟩:=dOK0 (l:=[]) hk
 simp only [opOK] at ho
 split at ho
 ·rename_i args ats
  simp only [Bool.and_eq_true,beq_iff_eq] at ho
  obtain ⟨hx,hsz⟩:=ho
  obtain ⟨x,hx0⟩:=len1 (l:=args.toList) (by simpa using hsz)
  rw [hx0] at hx
  obtain ⟨r,rfl,hx1⟩:=opds1 hx
  have ea:args=#[x]:=by rw [←Array.toArray_toList (xs:=args),hx0]
  subst ea
  simp only [List.map_cons,List.map_nil,sem] at hs
  split at hs
  ·rename_i k p q heq
   simp only [List.cons.injEq,and_true,Opd.ev] at heq
   subst hs
   exact op_im h rfl hl rfl hx1 (small_mem hsm (by simp [Op.operands,Call.operands])) heq hK
  ·cases hs
 ·cases ho
theorem k_cx:KindOK C sg .cx:=by
 intro D σ γ a w dst op ty pos after guard rs ds gd ws gs K' Q h ho hk hsm hs hg hK
 simp only [gsem,Option.some.injEq] at hg
 subst hg
 obtain ⟨d,rfl,hl,rfl⟩:=dOK0 (l:=[]) hk
 simp only [opOK] at ho
 split at ho
 ·rename_i args ats
  simp only [Bool.and_eq_true,beq_iff_eq] at ho
  obtain ⟨hx,hsz⟩:=ho
  obtain ⟨x,y,hx0⟩:=len2 (l:=args.toList) (by simpa using hsz)
  rw [hx0] at hx
  obtain ⟨r,q,rfl,hx1,hy⟩:=opds2 hx
  have ea:=arr2 hx0
  subst ea
  simp only [List.map_cons,List.map_nil,sem] at hs
  split at hs
  ·rename_i m n heq
   simp only [List.cons.injEq,and_true,Opd.ev] at heq
   subst hs
   exact op_cx h rfl hl rfl hx1 (small_mem hsm (by simp [Op.operands,Call.operands])) hy (small_mem hsm (by simp [Op.operands,Call.operands])) heq.1 heq.2 hK
  ·cases hs
 ·cases ho
theorem k_cf:KindOK C sg .cf:=by
 intro D σ γ a w dst op ty pos after guard rs ds gd ws gs K' Q h ho hk hsm hs hg hK
 simp only [gsem,Option.some.injEq] at hg
 subst hg
 obtain ⟨d,rfl,hl,rfl⟩:=dOK0 (l:=[]) hk
 simp only [opOK] at ho
 split at ho
 ·rename_i t u x
  simp only [Bool.and_eq_true] at ho
  obtain ⟨⟨h1,h2⟩,hx⟩:=ho
  obtain ⟨r,rfl,hx1⟩:=opds1 hx
  have h2:C.P.underlying u=some (.float .f64):=by
   split at h2
   ·assumption
   ·cases h2
  simp only [List.map_cons,List.map_nil,sem] at hs
  split at hs
  ·rename_i k n heq
   simp only [List.cons.injEq,and_true,Opd.ev] at heq
   subst hs
   exact op_cf h rfl hl rfl h1 h2 hx1 (small_mem hsm (by simp [Op.operands])) heq hK
  ·cases hs
 ·cases ho
theorem k_fc:KindOK C sg .fc:=by
 intro D σ γ a w dst op ty pos after guard rs ds gd ws gs K' Q h ho hk hsm hs hg hK
 simp only [gsem,Option.some.injEq] at hg
 subst hg
 obtain ⟨d,rfl,hl,rfl⟩:=dOK0 (l:=[]) hk
 simp only [opOK] at ho
 split at ho
 ·rename_i t u x
  simp only [Bool.and_eq_true] at ho
  obtain ⟨⟨h1,h2⟩,hx⟩:=ho
  obtain ⟨r,rfl,hx1⟩:=opds1 hx
  have h2:C.P.underlying u=some (.int .i64):=by
   split at h2
   ·assumption
   ·cases h2
  simp only [List.map_cons,List.map_nil,sem] at hs
  split at hs
  ·rename_i b heq
   simp only [List.cons.injEq,and_true,Opd.ev] at heq
   obtain ⟨hb,rfl⟩:=hs
   exact op_fc h rfl hl rfl h1 h2 hx1 (small_mem hsm (by simp [Op.operands])) heq hb hK
  ·cases hs
 ·cases ho
theorem k_xtr:KindOK C sg .xtr:=by
 intro D σ γ a w dst op ty pos after guard rs ds gd ws gs K' Q h ho hk hsm hs hg hK
 simp only [gsem,Option.some.injEq] at hg
 subst hg
 obtain ⟨d,rfl,hl,rfl⟩:=dOK0 (l:=[]) hk
 simp only [opOK] at ho
 split at ho
 ·rename_i g args ats
  simp only [Bool.and_eq_true,beq_iff_eq] at ho
  obtain ⟨⟨hf,hx⟩,hsz⟩:=ho
  obtain ⟨x,hx0⟩:=len1 (l:=args.toList) (by simpa using hsz)
  rw [hx0] at hx
  obtain ⟨r,rfl,hx1⟩:=opds1 hx
  have ea:args=#[x]:=by rw [←Array.toArray_toList (xs:=args),hx0]
  subst ea
  simp only [List.map_cons,List.map_nil,sem] at hs
  split at hs
  ·rename_i b heq
   simp only [List.cons.injEq,and_true,Opd.ev] at heq
   obtain ⟨hb,rfl⟩:=hs
   exact op_xtr h rfl hl rfl hf hx1 (small_mem hsm (by simp [Op.operands,Call.operands])) heq hb hK
  ·cases hs
 ·cases ho
end
end Go.Eng
namespace Go.Eng
open Go.RowKit
theorem Ext.shrink {w w':World} {R R':Reach} {io:Nat→Prop} (h:Ext w R io w' R'):Ext w R io w' R :=
 ⟨h.os,h.tape,h.output,h.size,h.heap,fun b o hr=>⟨hr,(h.keep b o hr).2⟩,fun _ _ hr => .inl hr⟩
theorem RepL.scal {R R':Reach} {w w':World}:∀{es:List AV} {ys:List Value},(∀e∈es,∃x,e = .v x)→RepL R w es ys→RepL R' w' es ys
 | _,_,_,.nil => .nil
 | _,_,hv,.cons a h t=>by
  obtain ⟨y,rfl⟩:=hv _ (List.mem_cons_self ..)
  cases h
  exact .cons a (.v _) (t.scal fun x hx=>hv x (List.mem_cons_of_mem _ hx))
theorem scal_cells {es:List AV} (hv:∀e∈es,∃x,e = .v x):es.flatMap AV.cells=es∧∀e∈es,e.cells.length=1:=by
 refine ⟨?_,fun e he=>by obtain ⟨x,rfl⟩:=hv e he;rfl⟩
 induction es with
 | nil=>rfl
 | cons e es ih =>
  obtain ⟨x,rfl⟩:=hv e (List.mem_cons_self ..)
  rw [List.flatMap_cons,ih fun y hy=>hv y (List.mem_cons_of_mem _ hy)]
  rfl
section
variable {C:Ctx} {D:Dyn} {σ:Sg} {γ:Ga} {a:Act} {w:World}
theorem Sim.loseP (h:Sim C D σ γ a w) {k s:Nat} (h9:k≠999999) (hk:γ (lk k) = .pv s):Sim C D (upd σ (lk k) .dead) (upd γ (lk k) .used) a w:=by
 have hkr:=h.lrng (lk k) (by rw [hk];rfl)
 have hlk:∀m,(upd γ (lk k) .used m).isLk=(γ m).isLk:=fun m=>by
  by_cases e:m=lk k
  ·subst e;rw [upd_same,hk];rfl
  ·rw [upd_ne _ _ e]
 have hcl:∀m,(upd γ (lk k) .used m).isCl=(γ m).isCl:=fun m=>by
  by_cases e:m=lk k
  ·subst e;rw [upd_same,hk];rfl
  ·rw [upd_ne _ _ e]
 have hpar:∀m,(upd γ (lk k) .used m).par=(γ m).par:=fun m=>by
  by_cases e:m=lk k
  ·subst e;rw [upd_same,hk];rfl
  ·rw [upd_ne _ _ e]
 have hm:∀g,Ment γ g→Ment (upd γ (lk k) .used) g:=fun g hg=>by
  cases g <;> simp only [Ment,hlk,hcl] at hg ⊢ <;> first | exact hg | skip
  rename_i d s'
  have hd:d≠lk k:=fun e=>by subst e;rcases hg with e | ⟨s'',e⟩ <;> rw [hk] at e <;> cases e
  rw [upd_ne _ _ hd];exact hg
 have hb:∀key g,blk D (upd γ (lk k) .used) key=some g→blk D γ key=some g:=fun key g hg=>by
  unfold blk at hg ⊢
  by_cases e:key=lk k
  ·subst e;rw [upd_same] at hg;cases hg
  ·rw [upd_ne _ _ e] at hg;exact hg
 refine ⟨h.size,h.defers,h.ntlt,fun m hm=>h.rng m (by rwa [hcl] at hm),fun m hm=>h.lrng m (by rwa [hlk] at hm),fun t ht=>?_,fun m ts hm'=>?_,fun key s' hk'=>?_,h.ps.same rfl (fun key hp=>?_),fun p q g hp hq=>(by rw [hpar,hpar];exact h.sep p q g (hb p g hp) (hb q g hq)),fun p g hp=>h.own p g (hb p g hp),fun key=>?_,h.ext,h.rlt,h.gl,h.fix.of rfl (fun hp=>by
  have e:lk 999999≠lk k:=fun e=>h9 (lk_inj e).symm
  rw [upd_ne _ _ e];exact ⟨hp,rfl⟩)⟩
 ·have e:t≠lk k:=by have:=h.ntlt;omega
  rw [upd_ne _ _ e,upd_ne _ _ e];exact h.slot t ht
 ·have e:m≠lk k:=fun e=>by subst e;rw [upd_same] at hm';cases hm'
  rw [upd_ne _ _ e] at hm'
  rw [upd_ne _ _ e];exact h.mem m ts hm'
 ·have e:key≠lk k:=fun e=>by subst e;rw [upd_same] at hk';cases hk'
  rw [upd_ne _ _ e] at hk';exact h.tip key s' hk'
 ·have e:key≠lk k:=fun e=>by subst e;rw [upd_same] at hp;cases hp
  rw [upd_ne _ _ e,upd_ne _ _ e];exact ⟨rfl,rfl,rfl⟩
 ·by_cases e:key=lk k
  ·subst e;rw [upd_same];trivial
  ·rw [upd_ne _ _ e];exact hm _ (h.inv key)
theorem Sim.given (h:Sim C D σ γ a w) {k s:Nat} (h9:k≠999999) (hk:γ (lk k) = .pv s) {R':Reach} {w':World} (he:Ext w D.R (fun c=>(D.τ (lk k)).ownBlock=some c) w' R') (hlt:∀b o,R' b o→b<w'.heap.size) :
  Sim C { D with R:=R' } (upd σ (lk k) .dead) (upd γ (lk k) .used) a w':=by
 have hbk:blk D γ (lk k)=(D.τ (lk k)).ownBlock:=blk_isP (by rw [hk];rfl)
 have hfree:∀b,(D.τ (lk k)).ownBlock=some b→∀key,blk D (upd γ (lk k) .used) key≠some b:=fun b hb key hkey=>by
  by_cases e:key=lk k
  ·subst e;simp [blk,upd_same] at hkey
  ·have:blk D γ key=some b:=by unfold blk at hkey ⊢;rwa [upd_ne _ _ e] at hkey
   exact e (h.pvSep hk (hbk.trans hb) this)
 have h1:=h.loseP h9 hk
 refine h1.world he.os he.tape he.output he.size (fun b hb hor=>he.heap b hb fun e=>?_) he.keep (fun b o hr=>?_) hlt
 ·rcases hor with ⟨key,hk'⟩ | hm
  ·exact hfree b e key hk'
  ·exact hm (h.own (lk k) b (hbk.trans e))
 ·rcases he.rnew b o hr with e | e | e
  ·exact .inl e
  ·exact .inr ⟨.inr (Nat.le_trans h.ext.size e),fun key hk'=>by have:=h1.lt hk';omega⟩
  ·exact .inr ⟨h.own (lk k) b (hbk.trans e),hfree b e⟩
theorem priv_of {R R':Reach} {w':World} {x:Value} {es:List AV} (hv:∀e∈es,∃y,e = .v y) (hr:Rep R' w' (.sl 1 es) x) (ht:TipOK R' w' x 1) (hn:∀g,x.ownBlock=some g→∀o,¬R g o) :
  TipOK R w' x 1∧PrivOK R w' x 1 (.sl 1 es):=by
 obtain ⟨c1,c2⟩:=scal_cells hv
 rcases ht with rfl | ⟨g,n,cap,cur,e,fz,rfl,h1,h2,h3,h4,h5,h6⟩
 ·refine ⟨.inl rfl,hn,.inr ⟨es,rfl,c2,.inl ⟨?_,rfl⟩⟩⟩
  rcases hr.sl_inv with ⟨rfl,_⟩ | ⟨b,off,cap,hv',_⟩ | ⟨rfl,_⟩
  ·rfl
  ·cases hv'
  ·rfl
 ·have hg:=hn g rfl
  refine ⟨.inr ⟨g,n,cap,cur,e,fz,rfl,h1,h2,h3,h4,h5,fun o _=>hg o⟩,hn,.inr ⟨es,rfl,c2,.inr ⟨g,cap,cur,e,fz,?_,h1,?_⟩⟩⟩
  ·rcases hr.sl_inv with ⟨rfl,hv'⟩ | ⟨b,off,cap',hv',_⟩ | ⟨rfl,ad,cap',hv',_⟩
   ·cases hv'
   ·cases hv';rfl
   ·cases hv';rfl
  ·rcases hr.sl_inv with ⟨rfl,hv'⟩ | ⟨b,off,cap',hv',hcap,_,hE⟩ | ⟨rfl,ad,cap',hv',_⟩
   ·cases hv'
   ·cases hv'
    obtain ⟨ys,y1,y2,y3,_⟩:=hE.cells
    rw [c1] at y3 ⊢
    have:cur.toList.take (es.length * 1)=ys:=by
     rw [←y1]
     refine take_of_get fun j y hj=>?_
     have:=y2 j y hj
     simp only [World.cell?,h1,Nat.zero_add] at this
     simpa using this
    rw [this]
    exact y3.scal hv
   ·simp only [List.flatMap_nil,List.length_nil,Nat.zero_mul,List.take_zero];exact .nil
variable {o:Oper} {d:Nat} {K:Act→World→Prop} {Q:Exit→Act→World→Prop} (h:Sim C D σ γ a w) (hd:o.dst=some d) (hl:d<C.nt)
theorem Sim.growPriv (h:Sim C D σ γ a w) {d:Nat} (hl:d<C.nt) {k s n cap:Nat} {cur:Array Value} {e:TypeId} {es:List AV} (hk:γ (lk k) = .no) (hlen:es.length=n) (hes:∀x∈es,x.cells.length=s) (hcap:n≤cap) (hcm:cap≤maxLen) (hsz:cur.size=cap * s)
  (hL:RepL D.R w (es.flatMap AV.cells) (cur.toList.take (es.length * s))) :
  ∃D',Sim C D' (updL σ [d,lk k] [.pt,.sl s es]) (updL γ [d,lk k] [.tip k s,.pv s]) (a.put (some d) (.slice (some ⟨w.heap.size,0,none⟩) n cap)) { w with heap:=w.heap.push (.cells cur e) }:=by
 have hnew:(w.heap.push (Obj.cells cur e))[w.heap.size]?=some (.cells cur e):=by simp
 have hold:∀c,c<w.heap.size→(w.heap.push (Obj.cells cur e))[c]?=w.heap[c]?:=fun c hc=>by
  rw [Array.getElem?_push,if_neg (by omega)]
 have hS:Sim C { D with R:=D.R } σ γ a { w with heap:=w.heap.push (.cells cur e) }:=h.grow (R':=D.R) rfl rfl rfl (by show _≤(w.heap.push _).size;simp) hold (fun _ _ h=>h) (fun _ _ h => .inl h) (fun c q hr=>by
  show c<(w.heap.push _).size
  have:=h.rlt c q hr
  simp;omega)
 have keep:Keeps D.R w D.R { w with heap:=w.heap.push (.cells cur e) }:=fun b o hr=>⟨hr,World.cell?_of_block (w:=w) (hold b (h.rlt b o hr))⟩
 have hnR:∀q,¬D.R w.heap.size q:=fun q hr=>by have:=h.rlt _ q hr;omega
 refine ⟨_,Sim.putPriv hS hl hk (.inr ⟨w.heap.size,n,cap,cur,e,(0,0),rfl,hnew,by simp,hsz,hcap,hcm,fun q _=>hnR q⟩) ⟨fun g hg q=>?_,.inr ⟨es,rfl,hes,.inr ⟨w.heap.size,cap,cur,e,(0,0),by rw [hlen],hnew,hL.mono keep⟩⟩⟩ fun g hg=>?_⟩
 ·simp [Value.ownBlock] at hg;subst hg;exact hnR q
 ·simp [Value.ownBlock] at hg
  subst hg
  exact ⟨.inr h.ext.size,fun key hk=>by have:=h.lt hk;omega⟩
include h hd hl
theorem op_mkv {t e:TypeId} {x y:Operand} {r q:Opd} {i:TypeInfo} {zv:Value} {k s:Nat} {z:AV} {l c:Int} (ho:o.op = .makeSlice t x y) (ht:C.P.underlying t=some (.slice e)) (hi:C.P.info? e=some i) (hz:i.size=s) (hzv:i.zero=some zv) (hzs:zv.cells.size=s) (h0s:0<s)
  (hzc:constCells zv.cells.toList z.cells=true) (hx:opdOK x r=true) (hy:opdOK y q=true) (hs1:small C.nt [x]=true) (hs2:small C.nt [y]=true) (hr:r.ev C.E σ = .v (.int .i64 l)) (hq:q.ev C.E σ = .v (.int .i64 c))
  (hp:z.cells.length=s) (h0:0≤l) (hlc:l≤c) (hb:c * i.bytes≤140737488355328) (hcm:c≤maxLen) (hk:γ (lk k) = .no)
  (hK:∀D' a' w',Sim C D' (updL σ [d,lk k] [.pt,.sl s (List.replicate l.toNat z)]) (updL γ [d,lk k] [.tip k s,.pv s]) a' w'→K a' w'):o.wp C.P a w K Q:=by
 have e1:=(h.opd hx hs1).rep (by rw [hr];simp)
 have e2:=(h.opd hy hs2).rep (by rw [hq];simp)
 rw [hr] at e1;rw [hq] at e2
 have hmk:=run_make (P:=C.P) w t e i zv ht hi hzv .i64 .i64 l c h0 hlc (by rw [Int.mul_comm];omega) (by simp only [maxLen] at hcm;omega)
 have hrun:(execOp a.eval o).run C.P w = .ok (.value (.slice (some ⟨w.heap.size,0,none⟩) l.toNat c.toNat)) (w.alloc (.cells (madeCells zv.cells (c.toNat * i.size)) e)):=by
  simp only [execOp,ho,e1.v_inv,e2.v_inv,Sem.run_bind,hmk,Result.andThen_ok,Sem.run_pure]
 have hL:RepL D.R w z.cells zv.cells.toList:=constCells_rep hzc
 have hfm:(List.replicate l.toNat z).flatMap AV.cells=(List.replicate l.toNat z.cells).flatten:=by rw [List.flatMap_def,List.map_replicate]
 have hlc':l.toNat≤c.toNat:=by omega
 have hcur:(madeCells zv.cells (c.toNat * i.size)).toList.take ((List.replicate l.toNat z).length * s)=(List.replicate l.toNat zv.cells.toList).flatten:=by
  have hflen:(List.replicate l.toNat zv.cells.toList).flatten.length=l.toNat * s:=by simp [hzs]
  rw [List.length_replicate,←hflen]
  refine take_of_get fun j y hj=>?_
  have h1:=flatten_get (by simp;omega) _ _ _ hj
  have hlt:=(List.getElem?_eq_some_iff.1 hj).1
  rw [hflen] at hlt
  have hle:l.toNat * s≤c.toNat * s:=Nat.mul_le_mul_right _ hlc'
  have hm:j<c.toNat * i.size:=by rw [hz];omega
  simp only [madeCells,Array.getElem?_map,Array.getElem?_range,hm,if_true,Option.map_some]
  simp only [Array.length_toList,Array.getElem?_toList] at h1
  rw [getElem!_def,h1]
 obtain ⟨D',hS⟩:=h.growPriv (d:=d) hl (k:=k) (s:=s) (n:=l.toNat) (cap:=c.toNat) (cur:=madeCells zv.cells (c.toNat * i.size)) (e:=e) (es:=List.replicate l.toNat z) hk (by simp) (fun x hx=>by rw [List.eq_of_mem_replicate hx];exact hp) hlc' (by omega)
  (by rw [size_madeCells,hz]) (by rw [hcur,hfm];exact repL_replicate hL _)
 unfold Oper.wp
 rw [hrun,Oper.upon_value,hd]
 exact hK _ _ _ hS
theorem op_blv {t:TypeId} {s n k:Nat} {parts:Array (Nat × Operand)} {rs:List Opd} (ho:o.op = .buildSlice t n parts) (ht:sliceOKz C.P t s=true) (hn24:n * s≤2 ^ 24)
  (hpr:parts.toList.map (·.1)=List.range n) (hx:opdsOK (parts.toList.map (·.2)) rs=true) (hsm:small C.nt (parts.toList.map (·.2))=true) (hxs:∀x∈rs.map (Opd.ev C.E σ),x.plain=true∧x.cells.length=s) (hk:γ (lk k) = .no)
  (hK:∀D' a' w',Sim C D' (updL σ [d,lk k] [.pt,.sl s (rs.map (Opd.ev C.E σ))]) (updL γ [d,lk k] [.tip k s,.pv s]) a' w'→K a' w'):o.wp C.P a w K Q:=by
 obtain ⟨e,inf,zv,ht,hi,hz,hzv,h5⟩:=sliceOKz_spec ht
 have hnm:n≤maxLen:=by
  have:n≤n * s:=Nat.le_mul_of_pos_right n h5
  simp only [maxLen];omega
 have hT:=h.opds hx hsm
 obtain ⟨hL,hsz⟩:=repT_flat hT hxs
 have hlen:parts.toList.length=n:=by have:=congrArg List.length hpr;simpa using this
 have hlen':parts.size=n:=by simpa using hlen
 have hrs:(rs.map (Opd.ev C.E σ)).length=n:=by have:=hT.length;simp at this ⊢;omega
 have hp:(parts.map fun p=>(p.1,a.eval p.2)).toList=((((parts.toList.map (·.2)).map a.eval).zipIdx 0).map fun p=>(p.2,p.1)):=by
  have e:=range_zip ((parts.map fun p=>(p.1,a.eval p.2)).toList) 0 (by simp only [Array.toList_map,List.map_map,List.length_map,hlen];rw [←List.range_eq_range',←hpr];rfl)
  rw [e]
  simp [Function.comp_def]
 let zc:Array Value:=if n * s=0 then #[] else zv.cells
 let c0:Array Value:=(Array.range (n * s)).map (zc[· % zc.size]!)
 obtain ⟨cells',hf,hc'⟩:=fill_full s ((parts.toList.map (·.2)).map a.eval) 0 c0 hsz (by simp [c0,hlen])
 simp only [Nat.zero_mul,List.take_zero,List.nil_append] at hc'
 have hrun:(Instr.buildSlice t n (parts.map fun p=>(p.1,a.eval p.2))).run C.P w = .ok (.slice (some ⟨w.heap.size,0,none⟩) n n) { w with heap:=w.heap.push (.cells cells' e) }:=by
  have h24:¬(n * s > 2 ^ 24):=by omega
  rw [←hp] at hf
  simp only [c0,zc] at hf
  simp only [Instr.buildSlice,Sem.run_bind,run_underlying ht,Result.andThen_ok,run_sizeOf hi,hz,h24,if_false,Sem.run_pure]
  by_cases h0:n * s=0
  ·rw [if_pos h0] at hf ⊢
   simp only [Sem.run_bind,Sem.run_pure,Result.andThen_ok]
   rw [hf]
   simp [Go.newRow]
  ·rw [if_neg h0] at hf ⊢
   simp only [Sem.run_bind,Sem.run_pure,Result.andThen_ok,run_zero hi hzv]
   rw [hf]
   simp [Go.newRow]
 have hcs:cells'.size=n * s:=by
  rw [←Array.length_toList,hc',←hL.length,flat_len hxs,hrs]
 obtain ⟨D',hS⟩:=h.growPriv (d:=d) hl (k:=k) (s:=s) (n:=n) (cap:=n) (cur:=cells') (e:=e) (es:=rs.map (Opd.ev C.E σ)) hk hrs (fun x hx=>(hxs x hx).2) (Nat.le_refl _) hnm hcs
  (by rw [hc',List.take_of_length_le (by rw [←hL.length,flat_len hxs];omega)];exact hL)
 unfold Oper.wp
 rw [show (execOp a.eval o).run C.P w = .ok (.value (.slice (some ⟨w.heap.size,0,none⟩) n n)) { w with heap:=w.heap.push (.cells cells' e) } by simp only [execOp,ho,Sem.run_bind,hrun,Result.andThen_ok,Sem.run_pure],Oper.upon_value,hd]
 exact hK _ _ _ hS
theorem op_psl {x y:Operand} {r q:Opd} {t e:TypeId} {inf:TypeInfo} {k k' s:Nat} {es:List AV} {ik:IntKind} {u:Int} (ho:o.op = .slice t x none (some y) none) (ht:C.P.underlying t=some (.slice e)) (hi':C.P.info? e=some inf) (hz:inf.size=s) (h9:k≠999999)
  (hx:opdOK x r=true) (hs1:small C.nt [x]=true) (hy:opdOK y q=true) (hs2:small C.nt [y]=true) (hr:r.ev C.E σ = .pt) (hg:r.gh γ = .tip k s) (hk:γ (lk k) = .pv s) (hσ:σ (lk k) = .sl s es) (hno:γ (lk k') = .no) (hne:k≠k')
  (hq:q.ev C.E σ = .v (.int ik u)) (h0:0≤u) (h2:u.toNat≤es.length)
  (hK:∀D' a' w',Sim C D' (updL σ [d,lk k,lk k'] [.pt,.dead,.sl s (es.take u.toNat)]) (updL γ [d,lk k,lk k'] [.tip k' s,.used,.pv s]) a' w'→K a' w'):o.wp C.P a w K Q:=by
 have e0:=h.opd hx hs1
 have hv:=e0.gh (by rw [hr];simp) (by rw [hr];simp)
 rw [hg] at hv
 obtain ⟨hv,_⟩:=hv
 have e2:=(h.opd hy hs2).rep (by rw [hq];simp)
 rw [hq] at e2
 obtain ⟨ht',hn,hp⟩:=h.pvAt hk
 rw [hσ] at hp
 obtain ⟨es',he,hes,hp⟩:=hp.resolve_left (by simp)
 cases he
 have hbk:blk D γ (lk k)=(D.τ (lk k)).ownBlock:=blk_isP (by rw [hk];rfl)
 have hfree:∀b,(D.τ (lk k)).ownBlock=some b→C.mine b∧∀key,blk D (upd γ (lk k) .used) key≠some b:=fun b hb=>⟨h.own _ _ (hbk.trans hb),fun key hkey=>by
  by_cases e:key=lk k
  ·subst e;simp [blk,upd_same] at hkey
  ·have:blk D γ key=some b:=by unfold blk at hkey ⊢;rwa [upd_ne _ _ e] at hkey
   exact e (h.pvSep hk (hbk.trans hb) this)⟩
 have hy':a.eval y = .int ik ((u.toNat:Nat):Int):=by rw [e2.v_inv,Int.toNat_of_nonneg h0]
 have hb:∀cap,es.length≤cap→(Instr.sliceBounds true es.length cap none (some (a.eval y)) none).run C.P w = .ok (0,u.toNat,cap) w:=by
  intro cap hcap
  have hu:u.toNat≤cap:=by omega
  clear hr hq h0 e2
  generalize u.toNat=u' at *
  unfold Instr.sliceBounds
  simp [Instr.sliceBound,asIntOf, *]
 have hno':upd γ (lk k) .used (lk k') = .no:=by rw [upd_ne _ _ (fun e=>hne (lk_inj e).symm)];exact hno
 have hc:lk k'≠lk k:=fun e=>hne (lk_inj e).symm
 have eσ:∀x:AV,updL σ [d,lk k,lk k'] [.pt,.dead,x]=updL (upd σ (lk k) .dead) [d,lk k'] [.pt,x]:=fun x=>by
  simp only [updL];rw [upd_comm σ _ _ hc]
 have eγ:updL γ [d,lk k,lk k'] [.tip k' s,.used,.pv s]=updL (upd γ (lk k) .used) [d,lk k'] [.tip k' s,.pv s]:=by
  simp only [updL];rw [upd_comm γ _ _ hc]
 rw [eσ,eγ] at hK
 have h1:=h.loseP h9 hk
 unfold Oper.wp
 rcases hp with ⟨rfl,hτ⟩ | ⟨g,cap,cur,el,fz,hτ,hh,hL⟩
 ·have hu0:u.toNat=0:=by simpa using h2
  have hb0:=hb 0 (by simp)
  rw [hτ] at hv
  have hrun:(execOp a.eval o).run C.P w = .ok (.value (.slice none 0 0)) w:=by
   simp only [List.length_nil] at hb0
   simp only [execOp,ho,hv,Instr.sliceAt,Instr.slice,Sem.run_bind,run_underlying ht,Result.andThen_ok,Option.map_none,Option.map_some,hb0,run_sizeOf hi',Sem.run_pure,hu0]
   simp
  rw [hrun,Oper.upon_value,hd]
  exact hK _ _ _ (h1.putPriv hl hno' (.inl rfl) ⟨fun g hg=>by simp [Value.ownBlock] at hg,.inr ⟨_,rfl,by simp,.inl ⟨by simp,rfl⟩⟩⟩ fun g hg=>by simp [Value.ownBlock] at hg)
 ·rw [hτ] at hv hn ht' hfree
  rcases ht' with e1 | ⟨g',n',cap',cur',el',fz',e1,q1,q2,q3,q4,q5,q6⟩
  ·cases e1
  cases e1
  rw [hh] at q1
  cases q1
  have hrun:(execOp a.eval o).run C.P w = .ok (.value (.slice (some ⟨g,0,none⟩) u.toNat cap)) w:=by
   simp only [execOp,ho,hv,Instr.sliceAt,Instr.slice,Sem.run_bind,run_underlying ht,Result.andThen_ok,Option.map_none,Option.map_some,hb cap q4,run_sizeOf hi',Sem.run_pure,hz]
   split <;> simp [*,addr_add]
  rw [hrun,Oper.upon_value,hd]
  have hgn:=hn g rfl
  have hlt:(es.take u.toNat).length=u.toNat:=by simp;omega
  have hft:(es.take u.toNat).flatMap AV.cells=(es.flatMap AV.cells).take (u.toNat * s):=by
   have hfl:=flatLen (s:=s) (es:=es.take u.toNat) (fun x hx=>hes x (List.mem_of_mem_take hx))
   rw [hlt] at hfl
   have e1:es.flatMap AV.cells=(es.take u.toNat).flatMap AV.cells++(es.drop u.toNat).flatMap AV.cells:=by
    rw [←List.flatMap_append,List.take_append_drop]
   have e2:((es.take u.toNat).flatMap AV.cells++(es.drop u.toNat).flatMap AV.cells).take (u.toNat * s)=(es.take u.toNat).flatMap AV.cells:=by
    rw [←hfl,List.take_left']
    rfl
   rw [e1,e2]
  refine hK _ _ _ (h1.putPriv hl hno' (.inr ⟨g,u.toNat,cap,cur,el,fz,rfl,hh,q2,q3,by omega,q5,fun o _=>hgn o⟩) ⟨fun g' hg'=>by simp [Value.ownBlock] at hg';subst hg';exact hgn,.inr ⟨_,rfl,fun x hx=>hes x (List.mem_of_mem_take hx),.inr ⟨g,cap,cur,el,fz,by rw [hlt],hh,?_⟩⟩⟩ fun g' hg'=>hfree g' hg')
  rw [hlt,hft]
  have:=hL.take (u.toNat * s)
  rw [List.take_take] at this
  have hm:u.toNat * s≤es.length * s:=Nat.mul_le_mul_right _ h2
  rwa [Nat.min_eq_left hm] at this
theorem op_ppv {x y:Operand} {r q:Opd} {t u e:TypeId} {i:TypeInfo} {z:Value} {du:TypeDesc} {k k' s:Nat} {es fs:List AV} (h9:k≠999999) (ho:o.op = .call { callee := .builtin .append,args:=#[x,y],argTypes:=#[t,u] })
  (ht:C.P.underlying t=some (.slice e)) (hi:C.P.info? e=some i) (hz:i.zero=some z) (hzs:z.cells.size=i.size) (hu:C.P.underlying u=some du) (hdu:∀k,du ≠ .int k) (hs:i.size=s)
  (hx:opdOK x r=true) (hs1:small C.nt [x]=true) (hr:r.ev C.E σ = .pt) (hg:r.gh γ = .tip k s) (hk:γ (lk k) = .pv s) (hσ:σ (lk k) = .sl s es) (hno:γ (lk k') = .no) (hne:k≠k')
  {news:List Value} (hsrc:Source C.P w s (a.eval y) fs.length news) (hL:RepL D.R w (fs.flatMap AV.cells) news) (hfs:∀e∈fs,e.cells.length=s) (h63:es.length+fs.length≤maxLen) (hb:(es.length+fs.length) * i.bytes≤140737488355328)
  (hK:∀D' a' w',Sim C D' (updL σ [d,lk k,lk k'] [.pt,.dead,.sl s (es++fs)]) (updL γ [d,lk k,lk k'] [.tip k' s,.used,.pv s]) a' w'→K a' w'):o.wp C.P a w K Q:=by
 subst hs
 have e0:=h.opd hx hs1
 have hv:=e0.gh (by rw [hr];simp) (by rw [hr];simp)
 rw [hg] at hv
 obtain ⟨hv,_⟩:=hv
 obtain ⟨hT,hP⟩:=h.pvAt hk
 rw [hσ] at hP
 rw [←hv] at hT hP
 have hbk:blk D γ (lk k)=(a.eval x).ownBlock:=by rw [hv];exact blk_isP (by rw [hk];rfl)
 have hown:∀g,(a.eval x).ownBlock=some g→C.mine g∧∀key,blk D (upd γ (lk k) .used) key≠some g:=fun g hg'=>by
  refine ⟨h.own (lk k) g (hbk.trans hg'),fun key hkey=>?_⟩
  by_cases e:key=lk k
  ·subst e;simp [blk,upd_same] at hkey
  ·have:blk D γ key=some g:=by unfold blk at hkey ⊢;rwa [upd_ne _ _ e] at hkey
   exact e (h.pvSep hk (hbk.trans hg') this)
 have h1:=h.loseP h9 hk
 obtain ⟨v,w',hrun,os,tape,out,size,hh,_,_,ct,cp,hvb⟩:=run_append_priv (ty:=o.type) ht hi hz hzs hu hdu hT hP h.rlt hsrc hL hfs h63 hb
 have keep:Keeps D.R w D.R w':=fun b o hr=>⟨hr,World.cell?_of_block (w:=w) (hh b (h.rlt b o hr) (fun e=>hP.1 b e o hr))⟩
 have hS:=h1.world (w':=w') (R':=D.R) os tape out size (fun b hb hor=>hh b hb (fun e=>by
  obtain ⟨m1,m2⟩:=hown b e
  rcases hor with ⟨key,hk⟩ | hm
  ·exact m2 key hk
  ·exact hm m1)) keep (fun b o hr => .inl hr) (fun b o hr=>Nat.lt_of_lt_of_le (h.rlt b o hr) size)
 unfold Oper.wp
 rw [show (execOp a.eval o).run C.P w = .ok (.value v) w' by simp [execOp,ho,resolve,invoke,builtin,hrun],Oper.upon_value,hd]
 have hno':upd γ (lk k) .used (lk k') = .no:=by rw [upd_ne _ _ (fun e=>hne (lk_inj e).symm)];exact hno
 have hF:=hS.putPriv hl hno' ct cp (fun g hg=>by
  rcases hvb g hg with e | e
  ·exact hown g e
  ·exact ⟨.inr (Nat.le_trans h.ext.size e),fun key hk=>by have:=h1.lt hk;omega⟩)
 have hc:lk k'≠lk k:=fun e=>hne (lk_inj e).symm
 have eσ:updL σ [d,lk k,lk k'] [.pt,.dead,.sl i.size (es++fs)]=updL (upd σ (lk k) .dead) [d,lk k'] [.pt,.sl i.size (es++fs)]:=by
  simp only [updL];rw [upd_comm σ _ _ hc]
 have eγ:updL γ [d,lk k,lk k'] [.tip k' i.size,.used,.pv i.size]=updL (upd γ (lk k) .used) [d,lk k'] [.tip k' i.size,.pv i.size]:=by
  simp only [updL];rw [upd_comm γ _ _ hc]
 rw [eσ,eγ] at hK
 exact hK _ _ _ hF
theorem op_callv {f k:Nat} {args:Array Operand} {ts:Array TypeId} {rs:List Opd} {es:List AV} (ho:o.op = .call { callee := .value (.func f),args,argTypes:=ts }) (hp:plainFn C.P f=true)
  {S:FS} (hS:SpecOK C.P C.E.gl f S) (hsg:S.sg={ own:=[(0,1)] }) (hx:opdsOK args.toList rs=true) (hsm:small C.nt args.toList=true) (hG:S.G (rs.map (Opd.ev C.E σ)) [.sl 1 es]) (hv:∀e∈es,∃x,e = .v x) (hno:γ (lk k) = .no)
  (hK:∀D' a' w',Sim C D' (updL σ [d,lk k] [.pt,.sl 1 es]) (updL γ [d,lk k] [.tip k 1,.pv 1]) a' w'→K a' w'):o.wp C.P a w K Q:=by
 have hT:=h.opds hx hsm
 unfold Oper.wp
 rw [call_run ho hp,Oper.upon_enter]
 have:=hS.1 (by rw [hsg]) w D.R _ _ (args.toList.map a.eval) hG h.rlt h.gl (by rw [hsg];exact hT)
 have e:(⟨args.toList.map a.eval⟩:Array Value)=args.map a.eval:=by apply Array.ext';simp
 rw [e] at this
 refine this.mono ?_
 rintro e w' ⟨x,R',rfl,h1,h2,h3⟩
 simp only
 rw [hd]
 rw [hsg] at h1 h3
 obtain ⟨rvs,tr,to_,tn,bn,br,cn,cr,q1,q2,q3,q4,q5,q6,q7,q8,q9,q10,q11,q12,q13,q14,q15⟩:=h3
 obtain ⟨x',rfl⟩:=len1 (l:=rvs) q1
 have hxx:x=x':=by rw [q2];rfl
 subst hxx
 obtain ⟨v,rfl⟩:=len1 (l:=to_) (by simpa using q8)
 have hvx:v=x:=by have:=q11 0 (0,1) v rfl rfl;simpa using this.symm
 subst hvx
 have htn:tn=[]:=List.eq_nil_of_length_eq_zero (by simpa using q9)
 have htr:tr=[]:=List.eq_nil_of_length_eq_zero (by simpa using q7)
 subst htn;subst htr
 have hrep:Rep R' w' (.sl 1 es) v:=by
  have:=q4
  simp only [List.take_succ_cons,List.take_zero,List.mapIdx_cons,List.mapIdx_nil] at this
  cases this with
  | cons h0 _=>simpa using h0
 have htip:=q13 0 (0,1) v rfl rfl
 have hio:∀b,¬ioOf { own:=[(0,1)] } w (args.toList.map a.eval) b:=fun b hb=>hb
 have hfr:∀g,v.ownBlock=some g→w.heap.size≤g:=fun g hg=>by
  rcases q15 g (by simp [owners,hg]) with e | e
  ·exact (hio g e).elim
  ·exact e
 have hgr:=h.grow (w':=w') (R':=D.R) h1.os h1.tape h1.output h1.size (fun b hb=>h1.heap b hb (hio b)) (fun _ _ h=>h) (fun _ _ h => .inl h) (fun b o hr=>Nat.lt_of_lt_of_le (h.rlt b o hr) h1.size)
 obtain ⟨t1,t2⟩:=priv_of (R:=D.R) hv hrep htip fun g hg o hr=>by have:=hfr g hg;have:=h.rlt _ _ hr;omega
 exact hK _ _ _ (hgr.putPriv hl hno t1 t2 fun g hg=>⟨.inr (Nat.le_trans h.ext.size (hfr g hg)),fun key hk=>by have:=h.lt hk;have:=hfr g hg;omega⟩)
theorem op_gcall {f n i k s:Nat} {args:Array Operand} {ts:Array TypeId} {rs:List Opd} {es outs:List AV} (ho:o.op = .call { callee := .value (.func f),args,argTypes:=ts }) (hp:plainFn C.P f=true) (h9:k≠999999)
  {S:FS} (hS:SpecOK C.P C.E.gl f S) (hps:S.sg.ps=some (1000+i,s)) (hn:S.sg.nres=n) (hnew:S.sg.new=none) (href:S.sg.ref=none) (hx:opdsOK args.toList rs=true) (hsm:small C.nt args.toList=true)
  (hpt:(rs.map (Opd.ev C.E σ))[i]?=some .pt) (hgh:(rs.map (Opd.gh γ))[i]?=some (.tip k s)) (hk:γ (lk k) = .pv s) (hσ:σ (lk k) = .sl s es)
  (hG:S.G ((rs.map (Opd.ev C.E σ)).set i (.sl s es)) outs) (hol:outs.length=n)
  (hK:∀D' a' w',Sim C D' (updL σ [d,lk k] [if n=1 then outs.headD .dead else .tu outs,.dead]) (updL γ [d,lk k] [.no,.used]) a' w'→K a' w'):o.wp C.P a w K Q:=by
 obtain ⟨ht,hpr⟩:=h.pvAt hk
 obtain ⟨v,hv1,_,hv2⟩:=opd_at h hx hsm hpt (by simp) (by simp)
 have hv3:=(hv2 _ hgh).1
 subst hv3
 have hT:=h.opds hx hsm
 have hilt:=(List.getElem?_eq_some_iff.1 hpt).1
 have hset:((rs.map (Opd.ev C.E σ)).set i (.sl s es)).set i .pt=rs.map (Opd.ev C.E σ):=by rw [List.set_set,set_get hpt]
 unfold Oper.wp
 rw [call_run ho hp,Oper.upon_enter]
 have hC:=(hS.2 _ s hps).2 (by omega)
 rw [show 1000+i - 1000=i by omega] at hC
 have:=hC w D.R _ outs (args.toList.map a.eval) _ es hG h.rlt h.gl hv1 (List.getElem?_set_self hilt) ht (hσ ▸ hpr) (by rw [hset];exact hT)
 have e:(⟨args.toList.map a.eval⟩:Array Value)=args.map a.eval:=by apply Array.ext';simp
 rw [e] at this
 refine this.mono ?_
 rintro e w' ⟨x,R',rfl,h1,h2,h3⟩
 simp only
 rw [hd]
 obtain ⟨rvs,tr,to_,tn,bn,br,cn,cr,q1,q2,q3,q4,_⟩:=h3
 have e1:(outs.take S.sg.nres).mapIdx (fun i y=>if S.sg.new=some i then AV.pt else y)=outs:=by
  rw [hnew,List.take_of_length_le (by omega)]
  apply List.ext_getElem?
  intro j
  simp
 rw [e1] at q4
 exact hK _ _ _ (Sim.putRes (h.given h9 hk h1 h2) hl (q1.trans hn) (by rw [←hn];exact q2) q4 hol)
theorem op_gcalv {f i k k':Nat} {args:Array Operand} {ts:Array TypeId} {rs:List Opd} {es fs:List AV} (ho:o.op = .call { callee := .value (.func f),args,argTypes:=ts }) (hp:plainFn C.P f=true) (h9:k≠999999)
  {S:FS} (hS:SpecOK C.P C.E.gl f S) (hsg:S.sg={ ps:=some (1000+i,1),own:=[(0,1)] }) (hx:opdsOK args.toList rs=true) (hsm:small C.nt args.toList=true)
  (hpt:(rs.map (Opd.ev C.E σ))[i]?=some .pt) (hgh:(rs.map (Opd.gh γ))[i]?=some (.tip k 1)) (hk:γ (lk k) = .pv 1) (hσ:σ (lk k) = .sl 1 es) (hno:γ (lk k') = .no) (hne:k≠k')
  (hG:S.G ((rs.map (Opd.ev C.E σ)).set i (.sl 1 es)) [.sl 1 fs]) (hv:∀e∈fs,∃x,e = .v x)
  (hK:∀D' a' w',Sim C D' (updL σ [d,lk k,lk k'] [.pt,.dead,.sl 1 fs]) (updL γ [d,lk k,lk k'] [.tip k' 1,.used,.pv 1]) a' w'→K a' w'):o.wp C.P a w K Q:=by
 obtain ⟨ht,hpr⟩:=h.pvAt hk
 obtain ⟨v0,hv1,_,hv2⟩:=opd_at h hx hsm hpt (by simp) (by simp)
 have hv3:=(hv2 _ hgh).1
 subst hv3
 have hT:=h.opds hx hsm
 have hilt:=(List.getElem?_eq_some_iff.1 hpt).1
 have hset:((rs.map (Opd.ev C.E σ)).set i (.sl 1 es)).set i .pt=rs.map (Opd.ev C.E σ):=by rw [List.set_set,set_get hpt]
 have hbk:blk D γ (lk k)=(D.τ (lk k)).ownBlock:=blk_isP (by rw [hk];rfl)
 unfold Oper.wp
 rw [call_run ho hp,Oper.upon_enter]
 have hC:=(hS.2 _ 1 (by rw [hsg])).2 (by omega)
 rw [show 1000+i - 1000=i by omega] at hC
 have:=hC w D.R _ _ (args.toList.map a.eval) _ es hG h.rlt h.gl hv1 (List.getElem?_set_self hilt) ht (hσ ▸ hpr) (by rw [hset];exact hT)
 have e:(⟨args.toList.map a.eval⟩:Array Value)=args.map a.eval:=by apply Array.ext';simp
 rw [e] at this
 refine this.mono ?_
 rintro e w' ⟨x,R',rfl,h1,h2,h3⟩
 simp only
 rw [hd]
 rw [hsg] at h3
 obtain ⟨rvs,tr,to_,tn,bn,br,cn,cr,q1,q2,q3,q4,q5,q6,q7,q8,q9,q10,q11,q12,q13,q14,q15⟩:=h3
 obtain ⟨x',rfl⟩:=len1 (l:=rvs) q1
 have hxx:x=x':=by rw [q2];rfl
 subst hxx
 obtain ⟨v,rfl⟩:=len1 (l:=to_) (by simpa using q8)
 have hvx:v=x:=by have:=q11 0 (0,1) v rfl rfl;simpa using this.symm
 subst hvx
 have htn:tn=[]:=List.eq_nil_of_length_eq_zero (by simpa using q9)
 have htr:tr=[]:=List.eq_nil_of_length_eq_zero (by simpa using q7)
 subst htn;subst htr
 have hrep:Rep R' w' (.sl 1 fs) v:=by
  have:=q4
  simp only [List.take_succ_cons,List.take_zero,List.mapIdx_cons,List.mapIdx_nil] at this
  cases this with
  | cons h0 _=>simpa using h0
 have htip:=q13 0 (0,1) v rfl rfl
 have hfr:∀g,v.ownBlock=some g→(D.τ (lk k)).ownBlock=some g∨w.heap.size≤g:=fun g hg=>q15 g (by simp [owners,hg])
 obtain ⟨t1,t2⟩:=priv_of (R:=D.R) hv hrep htip fun g hg o hr=>by
  rcases hfr g hg with e | e
  ·exact hpr.1 g e o hr
  ·have:=h.rlt _ _ hr;omega
 have hS1:=h.given h9 hk h1.shrink (fun b o hr=>Nat.lt_of_lt_of_le (h.rlt b o hr) h1.size)
 have hno':upd γ (lk k) .used (lk k') = .no:=by rw [upd_ne _ _ (fun e=>hne (lk_inj e).symm)];exact hno
 have hc:lk k'≠lk k:=fun e=>hne (lk_inj e).symm
 have eσ:updL σ [d,lk k,lk k'] [.pt,.dead,.sl 1 fs]=updL (upd σ (lk k) .dead) [d,lk k'] [.pt,.sl 1 fs]:=by
  simp only [updL];rw [upd_comm σ _ _ hc]
 have eγ:updL γ [d,lk k,lk k'] [.tip k' 1,.used,.pv 1]=updL (upd γ (lk k) .used) [d,lk k'] [.tip k' 1,.pv 1]:=by
  simp only [updL];rw [upd_comm γ _ _ hc]
 rw [eσ,eγ] at hK
 refine hK _ _ _ (hS1.putPriv hl hno' t1 t2 fun g hg=>?_)
 rcases hfr g hg with e | e
 ·refine ⟨h.own _ _ (hbk.trans e),fun key hkey=>?_⟩
  by_cases e':key=lk k
  ·subst e';simp [blk,upd_same] at hkey
  ·have:blk D γ key=some g:=by unfold blk at hkey ⊢;rwa [upd_ne _ _ e'] at hkey
   exact e' (h.pvSep hk (hbk.trans e) this)
 ·refine ⟨.inr (Nat.le_trans h.ext.size e),fun key hkey=>?_⟩
  have:blk D γ key=some g:=by
   by_cases e':key=lk k
   ·subst e';simp [blk,upd_same] at hkey
   ·unfold blk at hkey ⊢;rwa [upd_ne _ _ e'] at hkey
  have:=h.lt this
  omega
theorem op_callq {f n:Nat} {c:Operand} {rc:Opd} {args:Array Operand} {ts:Array TypeId} {rs:List Opd} {outs:List AV} (ho:o.op = .call { callee := .value c,args,argTypes:=ts }) (hp:plainFn C.P f=true) (hcx:opdOK c rc=true) (hcs:small C.nt [c]=true) (hcv:rc.ev C.E σ = .v (.func (.func f) #[] #[]))
  {S:FS} (hS:SpecOK C.P C.E.gl f S) (hpl:S.sg.plain=true) (hn:S.sg.nres=n) (hx:opdsOK args.toList rs=true) (hsm:small C.nt args.toList=true) (hG:S.G (rs.map (Opd.ev C.E σ)) outs) (hol:outs.length=n)
  (hK:∀D' a' w',Sim C D' (upd σ d (if n=1 then outs.headD .dead else .tu outs)) (upd γ d .no) a' w'→K a' w'):o.wp C.P a w K Q:=by
 obtain ⟨p1,p2,p3,p4,p5,p6⟩:=FSig.plain_spec hpl
 have ec:=(h.opd hcx hcs).rep (by rw [hcv];simp)
 rw [hcv] at ec
 have hT:=h.opds hx hsm
 have hrun:(execOp a.eval o).run C.P w = .ok (.enter f (args.map a.eval)) w:=by
  unfold plainFn at hp
  cases hf:C.P.funcs[f]? with
  | none=>simp [hf] at hp
  | some fn =>
   simp only [hf,Option.any_some,Bool.and_eq_true,Bool.not_eq_true',beq_eq_false_iff_ne,ne_eq] at hp
   obtain ⟨h1,h2⟩:=hp
   have h1':fn.body.isNone=false:=by cases hb:fn.body <;> simp [hb] at h1 ⊢
   simp [execOp,ho,resolve,Deferred.ofValue,ec.v_inv,invoke,callFunc,hf]
   rw [if_neg h2,if_neg (by intro e;rw [e] at h1;cases h1)]
 unfold Oper.wp
 rw [hrun,Oper.upon_enter]
 have:=hS.1 p6 w D.R _ outs (args.toList.map a.eval) hG h.rlt h.gl (by unfold ArgsOK;rw [p1];exact hT)
 have e:(⟨args.toList.map a.eval⟩:Array Value)=args.map a.eval:=by apply Array.ext';simp
 rw [e] at this
 refine this.mono ?_
 rintro e w' ⟨x,R',rfl,h1,h2,h3⟩
 simp only
 rw [hd]
 obtain ⟨rvs,tr,to_,tn,bn,br,cn,cr,q1,q2,q3,q4,_⟩:=h3
 have hio:(ioOf S.sg w (args.toList.map a.eval))=fun _=>False:=by funext b;unfold ioOf;rw [p1]
 rw [hio] at h1
 have e1:(outs.take S.sg.nres).mapIdx (fun i y=>if S.sg.new=some i then AV.pt else y)=outs:=by
  rw [p4,List.take_of_length_le (by omega)]
  apply List.ext_getElem?
  intro j
  simp
 rw [e1] at q4
 exact hK _ _ _ (Sim.putRes (h.callPure h1 h2) hl (q1.trans hn) (by rw [←hn];exact q2) q4 hol)
end
end Go.Eng
namespace Go.Eng
open Go.RowKit
section
variable {C:Ctx} {D:Dyn} {σ:Sg} {γ:Ga} {a:Act} {w:World}
variable {o:Oper} {d:Nat} {K:Act→World→Prop} {Q:Exit→Act→World→Prop} (h:Sim C D σ γ a w)
include h
theorem op_ls {x v:Operand} {r q:Opd} {t:TypeId} {inf:TypeInfo} {m i s o':Nat} {cs:List AV} (hd:o.dst=none) (ho:o.op = .store t x v) (hi:C.P.info? t=some inf) (hz:inf.size=1)
  (hx:opdOK x r=true) (hs1:small C.nt [x]=true) (hv:opdOK v q=true) (hs2:small C.nt [v]=true) (hr:r.ev C.E σ = .el i s o') (hg:r.gh γ = .pm m) (hm:γ m = .cl []) (hσ:σ m = .ag cs)
  (hp:(q.ev C.E σ).plain=true) (hn:(q.ev C.E σ).cells.length=1) (hfit:i * s+o'+1≤cs.length)
  (hK:∀D' a' w',Sim C D' (upd σ m (.ag (splice cs (i * s+o') (q.ev C.E σ).cells))) (upd γ m (.cl [])) a' w'→K a' w'):o.wp C.P a w K Q:=by
 have hqd:q.ev C.E σ ≠ .dead:=by intro e;rw [e] at hp;cases hp
 have e0:=h.opd hx hs1
 have e1:=e0.rep (by rw [hr];simp)
 have hpv0:=e0.gh (by rw [hr];simp) (by rw [hr];simp)
 rw [hr] at e1
 rw [hg] at hpv0
 obtain ⟨b,hb⟩:=Rep.el_inv e1
 obtain ⟨p,hq'⟩:=hpv0
 rw [hb] at hq'
 cases hq'
 have hpv:a.eval x = .pointer (some ⟨D.β m,i * s+o',none⟩):=hb
 generalize i * s+o'=oo at *
 have q0:=h.opd hv hs2
 have hL:=plain_rep (q0.rep hqd) hp
 generalize (q.ev C.E σ).cells=qs at *
 obtain ⟨vs,hVA,hts⟩:=h.mem m [] hm
 rw [hσ] at hVA
 have hnR:=hVA.noR
 obtain ⟨elem,hh,hLm⟩:=hVA.ag
 have hcl:cs.length≤vs.length:=by have:=hLm.length;simp at this;omega
 have hlen:=hL.length
 have hlm:=hLm.length
 have hcn:(a.eval v).cells.size=1:=by simp at hlen;omega
 have hst:=run_storeCells_at (P:=C.P) (D.β m) oo elem (a.eval v).cells.toList 0 ⟨vs⟩ w hh (by simp;omega) hL.one
 simp only [Nat.add_zero] at hst
 let new:List Value:=vs.take oo++(a.eval v).cells.toList++vs.drop (oo+(a.eval v).cells.toList.length)
 have hrun:(execOp a.eval o).run C.P w = .ok .skip (w.setRow (D.β m) ⟨new⟩):=by
  have:¬((a.eval v).cells.size≠1):=by omega
  simp only [execOp,ho,hpv,Instr.storeAt,Instr.sureAddr,Sem.run_bind,Sem.run_pure,Result.andThen_ok,storeVar,run_sizeOf hi,hz,Sem.run_ite,this,if_false,hst]
  rfl
 have hh':=setRow_heap w (D.β m) ⟨vs⟩ ⟨new⟩ elem (0,0) hh
 have keep:Keeps D.R w D.R (w.setRow (D.β m) ⟨new⟩):=fun b o hr=>⟨hr,cell_setRow_other w (D.β m) _ ⟨b,o,none⟩ (fun e=>hnR o (by have:b=D.β m:=e;rw [←this];exact hr))⟩
 have hLn:RepL D.R (w.setRow (D.β m) ⟨new⟩) (splice cs oo qs) (new.take (splice cs oo qs).length):=by
  have hle:(a.eval v).cells.toList.length=qs.length:=hlen.symm
  have hsl:(splice cs oo qs).length=cs.length:=by simp [splice];omega
  have hnt:new.take cs.length=(vs.take cs.length).take oo++(a.eval v).cells.toList++(vs.take cs.length).drop (oo+(a.eval v).cells.toList.length):=by
   apply List.ext_getElem?
   intro j
   simp only [new,List.getElem?_take,List.getElem?_append,List.length_append,List.length_take,List.getElem?_drop,hle,hn]
   have e1:min oo vs.length=oo:=by omega
   have e2:min oo (min cs.length vs.length)=oo:=by omega
   simp only [e1,e2]
   by_cases c1:j<cs.length
   ·by_cases c2:j<oo
    ·simp [c1,c2,show j<oo+1 by omega]
    ·by_cases c3:j<oo+1
     ·simp [c1,c2,c3]
     ·simp [c1,c2,c3,show oo+1+(j - (oo+1))<cs.length by omega]
   ·have c2:¬j<oo:=by omega
    have c3:¬j<oo+1:=by omega
    simp [c1,c3,show ¬oo+1+(j - (oo+1))<cs.length by omega]
  rw [hsl,hnt]
  simp only [splice,hle]
  exact (((hLm.take oo).append hL).append (hLm.drop (oo+qs.length))).mono keep
 have hS:=h.store (us:=[]) hm (w':=w.setRow (D.β m) ⟨new⟩) rfl rfl rfl (by simp) (fun b hb=>setRow_other w (D.β m) b _ hb)
  ⟨elem,hh',.inr ⟨_,rfl,hLn⟩,hnR⟩ (fun t ht=>by cases ht)
 unfold Oper.wp
 rw [hrun,Oper.upon_skip,hd]
 exact hK _ _ _ (by simpa [Act.put] using hS)
end
section
variable {C:Ctx} {sg:Nat→FSig}
theorem k_mkv {d' s b:Nat} {z:AV}:KindOK C sg (.mkv d' s b z):=by
 intro D σ γ a w dst op ty pos after guard rs ds gd ws gs K' Q h ho hk hsm hs hg hK
 simp only [keysOK,Bool.and_eq_true] at hk
 obtain ⟨⟨hk0,hk1⟩,hk2⟩:=hk
 obtain ⟨d,rfl,hl,rfl⟩:=dOK0 hk2
 simp only [opOK] at ho
 split at ho
 ·rename_i t l c r q r3
  simp only [Bool.and_eq_true] at ho
  obtain ⟨⟨ht,ho⟩,hz⟩:=ho
  obtain ⟨e,i,zv,q1,q2,q3,q4,q5,q6,q7⟩:=sliceOK_spec ht
  obtain ⟨r',q',hrq,hx,hy⟩:=opds2 ho
  simp only [List.cons.injEq,and_true] at hrq
  obtain ⟨rfl,rfl⟩:=hrq
  simp only [List.drop_succ_cons,List.drop_zero,List.map_cons,List.map_nil,beq_iff_eq,List.cons.injEq,and_true] at hk1
  have hq:=mslot hk1
  subst hq
  have he:elemT C.P t=some e:=by unfold elemT;rw [q1];rfl
  rw [he] at hz
  simp only [Option.any_some,Bool.and_eq_true] at hz
  obtain ⟨i',zv',z1,z2,z3⟩:=zeroOK_spec hz.1
  rw [q2] at z1
  cases z1
  rw [q5] at z2
  cases z2
  simp only [List.map_cons,List.map_nil,sem] at hs
  split at hs
  ·rename_i ll cc v1 heq
   simp only [List.cons.injEq,and_true] at heq
   obtain ⟨p1,p2,p3,p4,p5,p6,rfl⟩:=hs
   simp only [List.map_cons,List.map_nil,gsem] at hg
   split at hg
   ·rename_i g1 g2 heq2
    simp only [List.cons.injEq,and_true,Opd.gh] at heq2
    cases hg
    exact op_mkv h rfl hl rfl q1 q2 q3 q5 q6 q7 z3 hx hy (small_mem hsm (by simp [Op.operands])) (small_mem hsm (by simp [Op.operands])) heq.1 heq.2.1 p2 p3 p4 (by rw [q4];exact p5) p6 heq2.2.2 hK
   ·cases hg
  ·cases hs
 ·cases ho
theorem k_blv {s n k:Nat}:KindOK C sg (.blv s n k):=by
 intro D σ γ a w dst op ty pos after guard rs ds gd ws gs K' Q h ho hk hsm hs hg hK
 simp only [keysOK,Bool.and_eq_true] at hk
 obtain ⟨⟨hk0,hk1⟩,hk2⟩:=hk
 obtain ⟨d,rfl,hl,rfl⟩:=dOK0 hk2
 simp only [opOK] at ho
 split at ho
 ·rename_i t len parts
  simp only [Bool.and_eq_true,beq_iff_eq,decide_eq_true_eq] at ho
  obtain ⟨⟨⟨⟨⟨h1,rfl⟩,h3⟩,h4⟩,h5⟩,h6⟩:=ho
  simp only [sem] at hs
  obtain ⟨p1,p2,rfl⟩:=hs
  simp only [gsem] at hg
  split at hg
  ·rename_i hno
   cases hg
   rw [←List.map_drop] at hno
   have hdl:(rs.drop len).length=1:=by simp;omega
   obtain ⟨q,hq⟩:=len1 hdl
   rw [hq] at hno hk1
   simp only [List.map_cons,List.map_nil,List.cons.injEq,and_true] at hno
   simp only [List.map_cons,List.map_nil,beq_iff_eq,List.cons.injEq,and_true] at hk1
   have hq':=mslot hk1
   subst hq'
   rw [←List.map_take] at p2
   simp only [←List.map_take] at hK
   exact op_blv h rfl hl rfl h1 h3 h4 h5 (small_sub hsm (by simp [Op.operands])) p2 hno hK
  ·cases hg
 ·cases ho
theorem k_psl {k k' s:Nat}:KindOK C sg (.psl k k' s):=by
 intro D σ γ a w dst op ty pos after guard rs ds gd ws gs K' Q h ho hk hsm hs hg hK
 simp only [keysOK,Bool.and_eq_true] at hk
 obtain ⟨⟨h9,hk0,hk1⟩,hk2⟩:=hk
 simp only [decide_eq_true_eq] at h9
 obtain ⟨d,rfl,hl,rfl⟩:=dOK0 hk2
 simp only [opOK] at ho
 split at ho
 ·rename_i t x u r q r3 r4
  simp only [Bool.and_eq_true] at ho
  obtain ⟨ht,ho⟩:=ho
  obtain ⟨e,i,q1,q2,q3,q4⟩:=sliceOK'_spec ht
  obtain ⟨r',q',hrq,hx,hy⟩:=opds2 ho
  simp only [List.cons.injEq,and_true] at hrq
  obtain ⟨rfl,rfl⟩:=hrq
  simp only [beq_iff_eq,List.map_cons,List.map_nil] at hk1
  have htl:=tail2 (rs:=[r,q,r3,r4]) (n:=2) hk1
  simp only [List.drop_succ_cons,List.drop_zero,List.cons.injEq,and_true] at htl
  obtain ⟨rfl,rfl⟩:=htl
  simp only [List.map_cons,List.map_nil,sem] at hs
  split at hs
  ·rename_i ik iv s' es z heq
   simp only [List.cons.injEq,and_true,Opd.ev] at heq
   obtain ⟨rfl,p1,p2,rfl⟩:=hs
   simp only [List.map_cons,List.map_nil,gsem] at hg
   split at hg
   ·rename_i a1 a2 a3 a4 heq2
    simp only [List.cons.injEq,and_true,Opd.gh] at heq2
    split at hg
    ·rename_i hc
     obtain ⟨rfl,rfl,rfl,hne⟩:=hc
     cases hg
     exact op_psl h rfl hl rfl q1 q2 q3 h9 hx (small_mem hsm (by simp [Op.operands])) hy (small_mem hsm (by simp [Op.operands])) heq.1 heq2.1 heq2.2.2.1 heq.2.2.1 heq2.2.2.2 hne heq.2.1 p1 p2 hK
    ·cases hg
   ·cases hg
  ·cases hs
 ·cases ho
theorem k_ppv {k d' s b:Nat}:KindOK C sg (.ppv k d' s b):=by
 intro D σ γ a w dst op ty pos after guard rs ds gd ws gs K' Q h ho hk hsm hs hg hK
 simp only [keysOK,Bool.and_eq_true,beq_iff_eq,List.map_cons,List.map_nil] at hk
 obtain ⟨⟨h9,hk0,hk1⟩,hk2⟩:=hk
 simp only [decide_eq_true_eq] at h9
 obtain ⟨d,rfl,hl,rfl⟩:=dOK0 hk2
 simp only [opOK] at ho
 split at ho
 ·rename_i args ats r q r3 r4
  simp only [Bool.and_eq_true,beq_iff_eq] at ho
  obtain ⟨⟨ho,h1⟩,h2⟩:=ho
  obtain ⟨t,u,e,i,z,du,rfl,q1,q2,q3,q4,q5,q6,q7,q8⟩:=apTypes h1 h2
  have ht:=tail2 hk1
  simp only [List.drop_succ_cons,List.drop_zero,List.cons.injEq,and_true] at ht
  obtain ⟨rfl,rfl⟩:=ht
  obtain ⟨x,y,hx0⟩:=len2 (l:=args.toList) (by rw [opdsOK_len ho];rfl)
  rw [hx0] at ho
  obtain ⟨r',q',hrq,hx,hy⟩:=opds2 ho
  simp only [List.cons.injEq,and_true] at hrq
  obtain ⟨rfl,rfl⟩:=hrq
  have ea:=arr2 hx0
  subst ea
  simp only [List.map_cons,List.map_nil,sem] at hs
  split at hs
  ·rename_i s'' fs s' es v2 heq
   simp only [List.cons.injEq,and_true,Opd.ev] at heq
   obtain ⟨e1,e2,e3,_⟩:=heq
   obtain ⟨rfl,rfl,p1,p2,p3,rfl⟩:=hs
   simp only [List.map_cons,List.map_nil,gsem] at hg
   split at hg
   ·rename_i k1 s1 g s2 heq2
    simp only [List.cons.injEq,and_true,Opd.gh] at heq2
    obtain ⟨g1,g2,g3,g4⟩:=heq2
    split at hg
    ·rename_i hc
     obtain ⟨rfl,rfl,rfl,hne⟩:=hc
     cases hg
     have e2:q.ev C.E σ=_:=e2
     have hrep:=(h.opd hy (small_mem hsm (by simp [Op.operands,Call.operands]))).rep (by rw [e2];simp)
     rw [e2] at hrep
     obtain ⟨news,n1,n2,n3⟩:=Source.of_sl (P:=C.P) hrep
     exact op_ppv (q:=q) h rfl hl h9 rfl q1 q2 q5 q6 q7 q8 q3 hx (small_mem hsm (by simp [Op.operands,Call.operands])) e1 g1 g3 e3 g4 hne n1 n2 p1 p2 (by rw [q4];exact p3) hK
    ·cases hg
   ·cases hg
  ·cases hs
 ·cases ho
theorem k_ls {m s:Nat}:KindOK C sg (.ls m s):=by
 intro D σ γ a w dst op ty pos after guard rs ds gd ws gs K' Q h ho hk hsm hs hg hK
 simp only [keysOK,Bool.and_eq_true,decide_eq_true_eq,beq_iff_eq,Option.isNone_iff_eq_none] at hk
 obtain ⟨⟨⟨⟨hm1,hm2⟩,rfl⟩,rfl⟩,hk1⟩:=hk
 simp only [opOK] at ho
 split at ho
 ·rename_i t x v p q r
  simp only [Bool.and_eq_true,beq_iff_eq] at ho
  obtain ⟨⟨ht,hx⟩,hv⟩:=ho
  obtain ⟨inf,h1,h2⟩:=sizeT_spec ht
  cases q with
  | s j =>
   simp at hk1
   subst hk1
   simp only [List.map_cons,List.map_nil,sem] at hs
   split at hs
   ·rename_i i' s' o' cs y heq
    simp only [List.cons.injEq,and_true,Opd.ev] at heq
    obtain ⟨e1,e2,rfl⟩:=heq
    obtain ⟨rfl,p1,p2,p3,rfl⟩:=hs
    simp only [List.map_cons,List.map_nil,gsem] at hg
    split at hg
    ·rename_i m' ts z heq2
     simp only [List.cons.injEq,and_true,Opd.gh] at heq2
     obtain ⟨f1,f2,f3⟩:=heq2
     split at hg
     ·rename_i hc
      obtain ⟨rfl,rfl⟩:=hc
      cases hg
      exact op_ls h rfl rfl h1 h2 hx (small_mem hsm (by simp [Op.operands])) hv (small_mem hsm (by simp [Op.operands])) e1 f1 f2 e2 p1 p2 p3 hK
     ·cases hg
    ·cases hg
   ·cases hs
  | c=>simp at hk1
  | g=>simp at hk1
 ·cases ho
theorem k_callv (hE:∀f,SpecOK C.P C.E.gl f (C.E.fs f)∧(C.E.fs f).sg=sg f) {f n k:Nat}:KindOK C sg (.callv f n k):=by
 intro D σ γ a w dst op ty pos after guard rs ds gd ws gs K' Q h ho hk hsm hs hg hK
 simp only [keysOK,Bool.and_eq_true] at hk
 obtain ⟨⟨hk0,hk1⟩,hk2⟩:=hk
 obtain ⟨d,rfl,hl,rfl⟩:=dOK0 hk2
 simp only [opOK] at ho
 split at ho
 ·rename_i g args ats
  simp only [Bool.and_eq_true,beq_iff_eq,decide_eq_true_eq] at ho
  obtain ⟨⟨⟨⟨rfl,hpf⟩,hps⟩,hx⟩,hsz⟩:=ho
  rw [←(hE f).2] at hps
  have hsm':small C.nt args.toList=true:=small_sub hsm (fun x hx=>by
   have:x∈args:=by simpa using hx
   simp only [Op.operands,Call.operands,Array.toList_append,List.mem_append]
   exact .inr hx)
  simp only [sem] at hs
  obtain ⟨es,hG,hv,rfl⟩:=hs
  simp only [gsem] at hg
  split at hg
  ·rename_i hno
   cases hg
   rw [←List.map_drop] at hno
   have htl:(rs.take n).length=n:=by rw [←opdsOK_len hx];simpa using hsz
   have hdl:(rs.drop n).length=1:=by have:=congrArg List.length hno;simpa using this
   obtain ⟨q,hq⟩:=len1 hdl
   rw [hq] at hno hk1
   simp only [List.map_cons,List.map_nil,List.cons.injEq,and_true] at hno
   simp only [List.map_cons,List.map_nil,beq_iff_eq,List.cons.injEq,and_true] at hk1
   have hq':=mslot hk1
   subst hq'
   rw [←List.map_take] at hG
   exact op_callv h rfl hl rfl hpf (hE f).1 hps hx hsm' hG hv hno hK
  ·cases hg
 ·cases ho
theorem k_gcall (hE:∀f,SpecOK C.P C.E.gl f (C.E.fs f)∧(C.E.fs f).sg=sg f) {f n nres i k s:Nat}:KindOK C sg (.gcall f n nres i k s):=by
 intro D σ γ a w dst op ty pos after guard rs ds gd ws gs K' Q h ho hk hsm hs hg hK
 simp only [keysOK,Bool.and_eq_true] at hk
 obtain ⟨⟨h9,hk0,hk1⟩,hk2⟩:=hk
 simp only [decide_eq_true_eq] at h9
 obtain ⟨d,rfl,hl,rfl⟩:=dOK0 hk2
 simp only [opOK] at ho
 split at ho
 ·rename_i g args ats
  simp only [Bool.and_eq_true,beq_iff_eq,decide_eq_true_eq] at ho
  obtain ⟨⟨⟨⟨⟨rfl,hpf⟩,hps,hn,hnew,href⟩,hx⟩,hsz⟩,hin⟩:=ho
  rw [←(hE f).2] at hps hn hnew href
  have htl:(rs.take n).length=n:=by rw [←opdsOK_len hx];simpa using hsz
  have hsm':small C.nt args.toList=true:=small_sub hsm (fun x hx=>by
   have:x∈args:=by simpa using hx
   simp only [Op.operands,Call.operands,Array.toList_append,List.mem_append]
   exact .inr hx)
  have hdrop:rs.drop n=[.s (lk k)]:=by
   simp only [List.length_cons,List.length_nil,beq_iff_eq] at hk0
   obtain ⟨q,hq⟩:=len1 (l:=rs.drop n) (by rw [List.length_drop];omega)
   rw [hq] at hk1 ⊢
   cases q <;> simp at hk1
   rw [hk1]
  have hrs:rs=rs.take n++[.s (lk k)]:=by rw [←hdrop,List.take_append_drop]
  simp only [sem] at hs
  obtain ⟨es,outs,v1,v2,hG,hol,rfl⟩:=hs
  simp only [gsem] at hg
  rw [Option.ite_none_right_eq_some] at hg
  obtain ⟨⟨g1,g2⟩,hg⟩:=hg
  cases hg
  have hlast:∀{X:Type} (F:Opd→X),(rs.map F)[n]?=some (F (.s (lk k))):=fun F=>by
   have h1:rs[n]?=some (.s (lk k)):=by rw [hrs,List.getElem?_append_right (by omega),htl];simp
   rw [List.getElem?_map,h1];rfl
  rw [hlast] at v1
  rw [←List.map_drop,hdrop] at g2
  simp only [Opd.ev,Opd.gh,Option.some.injEq,List.map_cons,List.map_nil,List.cons.injEq,and_true] at v1 g2
  have hi:∀{X:Type} (F:Opd→X),((rs.take n).map F)[i]?=(rs.map F)[i]?:=fun F=>by
   rw [List.map_take,List.getElem?_take,if_pos hin]
  rw [←hi] at v2 g1
  rw [←List.map_take] at hG
  exact op_gcall h rfl hl rfl hpf h9 (hE f).1 hps hn hnew href hx hsm' v2 g1 g2 v1 hG hol hK
 ·cases ho
theorem k_gcalv (hE:∀f,SpecOK C.P C.E.gl f (C.E.fs f)∧(C.E.fs f).sg=sg f) {f n i k k':Nat}:KindOK C sg (.gcalv f n i k k'):=by
 intro D σ γ a w dst op ty pos after guard rs ds gd ws gs K' Q h ho hk hsm hs hg hK
 simp only [keysOK,Bool.and_eq_true] at hk
 obtain ⟨⟨h9,hk0,hk1⟩,hk2⟩:=hk
 simp only [decide_eq_true_eq] at h9
 obtain ⟨d,rfl,hl,rfl⟩:=dOK0 hk2
 simp only [opOK] at ho
 split at ho
 ·rename_i g args ats
  simp only [Bool.and_eq_true,beq_iff_eq,decide_eq_true_eq] at ho
  obtain ⟨⟨⟨⟨⟨rfl,hpf⟩,hps⟩,hx⟩,hsz⟩,hin⟩:=ho
  rw [←(hE f).2] at hps
  have htl:(rs.take n).length=n:=by rw [←opdsOK_len hx];simpa using hsz
  have hsm':small C.nt args.toList=true:=small_sub hsm (fun x hx=>by
   have:x∈args:=by simpa using hx
   simp only [Op.operands,Call.operands,Array.toList_append,List.mem_append]
   exact .inr hx)
  have hdrop:rs.drop n=[.s (lk k),.s (lk k')]:=by
   simp only [List.length_cons,List.length_nil,beq_iff_eq] at hk0
   have hl2:(rs.drop n).length=2:=by rw [List.length_drop];omega
   match hq:rs.drop n,hl2 with
   | [q,q'],_ =>
    rw [hq] at hk1
    cases q <;> cases q' <;> simp at hk1
    rw [hk1.1,hk1.2]
  have hrs:rs=rs.take n++[.s (lk k),.s (lk k')]:=by rw [←hdrop,List.take_append_drop]
  simp only [sem] at hs
  obtain ⟨es,fs,v1,v2,hG,hv,rfl⟩:=hs
  simp only [gsem] at hg
  rw [Option.ite_none_right_eq_some] at hg
  obtain ⟨⟨g1,g2,hne⟩,hg⟩:=hg
  cases hg
  have hlast:∀{X:Type} (F:Opd→X),(rs.map F)[n]?=some (F (.s (lk k))):=fun F=>by
   have h1:rs[n]?=some (.s (lk k)):=by rw [hrs,List.getElem?_append_right (by omega),htl];simp
   rw [List.getElem?_map,h1];rfl
  rw [hlast] at v1
  rw [←List.map_drop,hdrop] at g2
  simp only [Opd.ev,Opd.gh,Option.some.injEq,List.map_cons,List.map_nil,List.cons.injEq,and_true] at v1 g2
  have hi:∀{X:Type} (F:Opd→X),((rs.take n).map F)[i]?=(rs.map F)[i]?:=fun F=>by
   rw [List.map_take,List.getElem?_take,if_pos hin]
  rw [←hi] at v2 g1
  rw [←List.map_take] at hG
  exact op_gcalv h rfl hl rfl hpf h9 (hE f).1 hps hx hsm' v2 g1 g2.1 v1 g2.2 hne hG hv hK
 ·cases ho
theorem k_callq (hE:∀f,SpecOK C.P C.E.gl f (C.E.fs f)∧(C.E.fs f).sg=sg f) {f n nres:Nat}:KindOK C sg (.callq f n nres):=by
 intro D σ γ a w dst op ty pos after guard rs ds gd ws gs K' Q h ho hk hsm hs hg hK
 obtain ⟨d,rfl,hl,rfl⟩:=dOK0 (l:=[]) hk
 simp only [gsem,Option.some.injEq] at hg
 subst hg
 simp only [opOK] at ho
 split at ho
 ·rename_i c args ats r rs
  simp only [Bool.and_eq_true,beq_iff_eq,decide_eq_true_eq] at ho
  obtain ⟨⟨⟨⟨hpf,hps,hn⟩,hc⟩,hx⟩,hsz⟩:=ho
  rw [←(hE f).2] at hps hn
  have hsm':small C.nt args.toList=true:=small_sub hsm (fun x hx=>by
   have:x∈args:=by simpa using hx
   simp only [Op.operands,Call.operands,Array.toList_append,List.mem_append]
   exact .inr hx)
  simp only [sem,List.map_cons] at hs
  obtain ⟨vs',outs,e0,hG,hol,rfl⟩:=hs
  simp only [List.cons.injEq] at e0
  obtain ⟨e1,rfl⟩:=e0
  exact op_callq h rfl hl rfl hpf hc (small_mem hsm (by simp [Op.operands,Call.operands])) e1 (hE f).1 hps hn hx hsm' hG hol hK
 ·cases ho
end
end Go.Eng
namespace Go.Eng
open Go.RowKit
section
variable {k k':Nat}
theorem swJ_lt {j:Nat} (h:j<1000000):swJ k k' j=j:=by
 have h1:=lk_ge k
 have h2:=lk_ge k'
 unfold swJ
 rw [if_neg (by omega),if_neg (by omega)]
theorem swJ_ge {j:Nat} (h:1000000≤swJ k k' j):1000000≤j:=by
 by_cases e:j<1000000
 ·rw [swJ_lt e] at h;exact h
 ·omega
theorem swJ_ge' {j:Nat} (h:1000000≤j):1000000≤swJ k k' j:=by
 unfold swJ
 have h1:=lk_ge k
 have h2:=lk_ge k'
 split
 ·exact h2
 ·split
  ·exact h1
  ·exact h
theorem swJ_swJ (j:Nat):swJ k k' (swJ k k' j)=j:=by
 unfold swJ
 by_cases h1:j=lk k
 ·rw [if_pos h1]
  by_cases h2:lk k'=lk k
  ·rw [if_pos h2,h1];exact h2
  ·rw [if_neg h2,if_pos rfl,h1]
 ·rw [if_neg h1]
  by_cases h2:j=lk k'
  ·rw [if_pos h2,if_pos rfl,h2]
  ·rw [if_neg h2,if_neg h1,if_neg h2]
theorem swJ_inj {i j:Nat} (h:swJ k k' i=swJ k k' j):i=j:=by
 rw [←swJ_swJ (k:=k) (k':=k') i,h,swJ_swJ]
theorem swJ_lk (j:Nat):swJ k k' (lk j)=lk (swN k k' j):=by
 unfold swJ swN
 by_cases h1:j=k
 ·rw [if_pos h1,if_pos (by rw [h1])]
 ·rw [if_neg h1,if_neg (fun e=>h1 (lk_inj e))]
  by_cases h2:j=k'
  ·rw [if_pos h2,if_pos (by rw [h2])]
  ·rw [if_neg h2,if_neg (fun e=>h2 (lk_inj e))]
theorem swN_swN (j:Nat):swN k k' (swN k k' j)=j:=by
 have h:swJ k k' (swJ k k' (lk j))=lk j:=swJ_swJ _
 rw [swJ_lk,swJ_lk] at h
 exact lk_inj h
theorem swJ_lkN (j:Nat):swJ k k' (lk (swN k k' j))=lk j:=by rw [swJ_lk,swN_swN]
theorem swGh_isCl (g:Gh):(swGh k k' g).isCl=g.isCl:=by cases g <;> rfl
theorem swGh_isLk (g:Gh):(swGh k k' g).isLk=g.isLk:=by cases g <;> rfl
theorem swGh_isP (g:Gh):(swGh k k' g).isP=g.isP:=by cases g <;> rfl
theorem swGh_psz (g:Gh):(swGh k k' g).psz=g.psz:=by cases g <;> rfl
theorem swGh_par (g:Gh):(swGh k k' g).par=g.par.map (swJ k k'):=by cases g <;> rfl
theorem swGh_live {g:Gh} {s:Nat} (h:swGh k k' g = .live s):g = .live s:=by cases g <;> simp [swGh] at h ⊢;exact h
theorem swGh_pc {g:Gh} {s:Nat} (h:swGh k k' g = .pc s):g = .pc s:=by cases g <;> simp [swGh] at h ⊢;exact h
theorem swGL_get (G:GL):(swGL k k' G).get=fun j=>swGh k k' (G.get (swJ k k' j)):=by
 funext j
 induction G with
 | nil=>rfl
 | cons p r ih =>
  obtain ⟨i,g⟩:=p
  simp only [swGL,List.map_cons,GL.get] at ih ⊢
  by_cases h:j=swJ k k' i
  ·rw [if_pos h,if_pos (by rw [h,swJ_swJ])]
  ·rw [if_neg h,if_neg (fun e=>h (by rw [←e,swJ_swJ]))]
   exact ih
variable {C:Ctx} {D:Dyn} {σ:Sg} {γ:Ga} {a:Act} {w:World}
theorem Sim.swap (h:Sim C D σ γ a w) (n1:k≠999999) (n2:k'≠999999):Sim C { D with τ:=swS k k' D.τ } (swS k k' σ) (fun j=>swGh k k' (γ (swJ k k' j))) a w:=by
 have hcl:∀m,(swGh k k' (γ (swJ k k' m))).isCl=true→(γ m).isCl=true∧swJ k k' m=m:=fun m hm=>by
  rw [swGh_isCl] at hm
  have:=(h.rng _ hm).2
  have hm0:m<1000000:=by
   by_cases e:m<1000000
   ·exact e
   ·have:=swJ_ge' (k:=k) (k':=k') (j:=m) (by omega);omega
  have e:=swJ_lt (k:=k) (k':=k') hm0
  exact ⟨by rwa [e] at hm,e⟩
 have hclr:∀m,(γ m).isCl=true→(swGh k k' (γ (swJ k k' m))).isCl=true:=fun m hm=>by
  rw [swJ_lt (h.rng m hm).2,swGh_isCl];exact hm
 have hblk:∀key,blk { D with τ:=swS k k' D.τ } (fun j=>swGh k k' (γ (swJ k k' j))) key=blk D γ (swJ k k' key):=fun key=>by
  unfold blk
  have hc:=hcl key
  simp only
  cases hg:γ (swJ k k' key) with
  | cl ts =>
   have:=(hc (by rw [swGh_isCl,hg];rfl)).2
   simp only [swGh,this]
  | _=>rfl
 have hGh:∀(g:Gh) (x:Value),GhOK D g x→GhOK { D with τ:=swS k k' D.τ } (swGh k k' g) x:=fun g x hx=>by
  cases g with
  | tip j s=>simp only [swGh,GhOK,swS,swJ_lkN] at hx ⊢;exact hx
  | pe j=>simp only [swGh,GhOK,swS,swJ_lkN] at hx ⊢;exact hx
  | tup ts p =>
   simp only [swGh,GhOK] at hx ⊢
   obtain ⟨ys,h1,h2,h3⟩:=hx
   refine ⟨ys,h1,fun t ht=>?_,h3⟩
   obtain ⟨u,hu,rfl⟩:=List.mem_map.1 ht
   simp only [swS,swJ_lkN]
   exact h2 u hu
  | _=>exact hx
 have hM:∀g,Ment γ g→Ment (fun j=>swGh k k' (γ (swJ k k' j))) (swGh k k' g):=fun g hg=>by
  cases g with
  | ptr m o=>exact hclr m hg
  | pm m=>exact hclr m hg
  | tip j s =>
   show (swGh k k' (γ (swJ k k' (lk (swN k k' j))))).isLk=true
   rw [swJ_lkN,swGh_isLk];exact hg
  | pe j =>
   show (swGh k k' (γ (swJ k k' (lk (swN k k' j))))).isLk=true
   rw [swJ_lkN,swGh_isLk];exact hg
  | cl ts =>
   intro t ht
   obtain ⟨u,hu,rfl⟩:=List.mem_map.1 ht
   simp only [swJ_lkN,swGh_isLk]
   exact hg u hu
  | tup ts p =>
   refine ⟨fun t ht=>?_,fun q hq=>hclr _ (hg.2 q hq)⟩
   obtain ⟨u,hu,rfl⟩:=List.mem_map.1 ht
   simp only [swJ_lkN,swGh_isLk]
   exact hg.1 u hu
  | sus d s =>
   simp only [swGh,Ment,swJ_swJ] at hg ⊢
   rcases hg with e | ⟨s',e⟩
   ·rw [e];exact .inl rfl
   ·rw [e];exact .inr ⟨s',rfl⟩
  | _=>trivial
 refine ⟨h.size,h.defers,h.ntlt,fun m hm=>?_,fun m hm=>?_,fun t ht=>?_,fun m ts hm=>?_,fun key s hk=>?_,fun key s hk=>?_,fun p q g hp hq=>?_,fun p g hp=>?_,fun key=>hM _ (h.inv _),h.ext,h.rlt,h.gl,?_⟩
 ·exact h.rng m (hcl m hm).1
 ·rw [swGh_isLk] at hm;exact swJ_ge (h.lrng _ hm)
 ·have e:swJ k k' t=t:=swJ_lt (by have:=h.ntlt;omega)
  simp only [swS,e]
  exact (h.slot t ht).imp id fun ⟨r,g⟩=>⟨r,fun hs=>hGh _ _ (g hs)⟩
 ·obtain ⟨_,e⟩:=hcl m (by rw [hm];rfl)
  simp only [e] at hm
  cases hg:γ m with
  | cl us =>
   rw [hg] at hm
   simp only [swGh,Gh.cl.injEq] at hm
   subst hm
   obtain ⟨cs,hv,hts⟩:=h.mem m us hg
   refine ⟨cs,by simp only [swS,e];exact hv,fun t ht=>?_⟩
   obtain ⟨u,hu,rfl⟩:=List.mem_map.1 ht
   simp only [swS,swJ_lkN]
   exact hts u hu
  | _=>rw [hg] at hm;simp [swGh] at hm
 ·exact h.tip _ s (swGh_live hk)
 ·rw [swGh_psz] at hk
  obtain ⟨h1,h2,h3⟩:=h.ps _ s hk
  refine ⟨h1,h2,fun d s1 s2 e1 e2=>?_⟩
  simp only at e1
  cases hg:γ (swJ k k' key) with
  | sus d' s' =>
   rw [hg] at e1
   simp only [swGh,Gh.sus.injEq] at e1
   obtain ⟨rfl,rfl⟩:=e1
   have e2:=swGh_pc e2
   rw [swJ_swJ] at e2
   simp only [swS,swJ_swJ]
   exact h3 d' s' s2 hg e2
  | _=>rw [hg] at e1;simp [swGh] at e1
 ·rw [hblk] at hp hq
  rcases h.sep _ _ g hp hq with e | e | e
  ·exact .inl (swJ_inj e)
  ·refine .inr (.inl ?_);rw [swGh_par,e,Option.map_some,swJ_swJ]
  ·refine .inr (.inr ?_);rw [swGh_par,e,Option.map_some,swJ_swJ]
 ·rw [hblk] at hp;exact h.own _ g hp
 ·have e9:swJ k k' (lk 999999)=lk 999999:=by
   rw [swJ_lk];unfold swN;rw [if_neg (fun e=>n1 e.symm),if_neg (fun e=>n2 e.symm)]
  refine ⟨h.fix.1,fun v hv=>?_⟩
  obtain ⟨h1,h2⟩:=h.fix.2 v hv
  exact ⟨by simp only [e9,swGh_isP];exact h1,by simp only [swS,e9];exact h2⟩
end
end Go.Eng
namespace Go.Eng
open Go.RowKit
section
variable {C:Ctx} {sg:Nat→FSig}
theorem map_all {α β:Type} {f g:α→β}:∀{l:List α},l.map f=l.map g→∀x∈l,f x=g x
 | [],_,_,hx=>by cases hx
 | a :: l,h,x,hx=>by
  simp only [List.map_cons,List.cons.injEq] at h
  rcases List.mem_cons.1 hx with rfl | hx
  ·exact h.1
  ·exact map_all h.2 x hx
theorem k_call (hE:∀f,SpecOK C.P C.E.gl f (C.E.fs f)∧(C.E.fs f).sg=sg f) {f:Nat} {c:CS}:KindOK C sg (.call f c):=by
 intro D σ γ a w dst op ty pos after guard rs ds gd ws gs K' Q h ho hk hsm hs hg hK
 simp only [keysOK,Bool.and_eq_true,beq_iff_eq,decide_eq_true_eq] at hk
 obtain ⟨⟨⟨hmr,hk0,hk1⟩,hk2⟩,hnd⟩:=hk
 obtain ⟨d,rfl,hl,rfl⟩:=dOK0 hk2
 simp only [opOK] at ho
 split at ho
 ·rename_i g args ats
  simp only [Bool.and_eq_true,beq_iff_eq] at ho
  obtain ⟨⟨⟨⟨rfl,hpf⟩,hfit⟩,hx⟩,hsz⟩:=ho
  rw [←(hE f).2] at hfit
  obtain ⟨f1,f2,f3,f4,f5,f6,f7,f8,f9,f10,f11,f12,f13⟩:=fits_spec hfit
  have hdrop:rs.drop c.n=(c.mems++c.lks).map Opd.s:=slots_eq hk1
  have hrs:rs=rs.take c.n++(c.mems++c.lks).map Opd.s:=by rw [←hdrop,List.take_append_drop]
  have htl:(rs.take c.n).length=c.n:=by rw [←opdsOK_len hx];simpa using hsz
  have hsm':small C.nt args.toList=true:=small_sub hsm (fun x hx=>by
   have:x∈args:=by simpa using hx
   simp only [Op.operands,Call.operands,Array.toList_append,List.mem_append]
   exact .inr hx)
  simp only [sem] at hs
  obtain ⟨hs0,outs,hG,hol,rfl⟩:=hs
  have hmems:∀m∈c.mems,C.nt≤m∧m<1000000:=fun m hm=>by
   have:=List.all_eq_true.1 hmr m hm
   simpa using this
  -- the ghosts
  simp only [gsem] at hg
  rw [Option.ite_none_right_eq_some] at hg
  obtain ⟨hc,hg⟩:=hg
  ·cases hg
   obtain ⟨c1,c2,c3⟩:=hc
   rw [←List.map_drop,hdrop,List.map_map] at c1 c2 c3
   have hgh:(Opd.gh γ ∘ Opd.s)=γ:=rfl
   rw [hgh] at c1 c2 c3
   cases href:c.ref with
   | none =>
    have htin:=f9 href
    have hm:c.mems=(c.new.map (·.2)).toList:=by simp [CS.mems,href]
    rw [hm] at c1 c2 c3
    simp only [href,Option.map_none,Option.toList_none,List.length_nil,List.take_zero,Nat.add_zero,List.map_append] at c1 c2 c3
    have e1:((List.map γ (c.new.map (·.2)).toList++List.map γ c.lks).take (c.new.map (·.2)).toList.length)=List.map γ (c.new.map (·.2)).toList:=List.take_left' (by simp)
    rw [e1] at c1 c3
    have e2:((List.map γ (c.new.map (·.2)).toList++List.map γ c.lks).drop (List.map γ (c.new.map (·.2)).toList).length)=List.map γ c.lks:=List.drop_left' rfl
    rw [e2,htin] at c3
    simp only [CS.lks,htin,List.nil_append,List.map_nil,List.map_map,List.map_append] at c3
    have hnoall:∀t∈c.tout++c.own++c.tnew,γ (lk t.2.1) = .no:=map_all (by simpa [Function.comp_def] using c3)
    have hins:c.ins (rs.map (Opd.ev C.E σ))=(rs.take c.n).map (Opd.ev C.E σ):=by simp [CS.ins,href,List.map_take]
    rw [hins] at hG
    exact op_callA h rfl hl rfl hpf (hE f).1 hfit href hx hsm' hG hol (fun q hq=>by
      have hqm:q.2∈c.mems:=by rw [hm,hq];simp
      refine ⟨?_,hmems _ hqm⟩
      simp only [hq,Option.map_some,Option.toList_some,List.map_cons,List.map_nil,List.all_cons,List.all_nil,Bool.and_true,decide_eq_true_eq] at c1
      exact c1) (fun t ht=>hnoall t (by
       rcases List.mem_append.1 ht with ht | ht
       ·simp [ht]
       ·simp [ht])) hK
   | some im =>
    obtain ⟨i,m⟩:=im
    have hnew:c.new=none:=by
     rcases f11 with e | e
     ·rw [href] at e;cases e
     ·exact e
    have htnew:=f10 hnew
    have hm:c.mems=[m]:=by simp [CS.mems,href,hnew]
    rw [hm] at c1 c2 c3
    simp only [href,hnew,htnew,Option.map_none,Option.map_some,Option.toList_none,Option.toList_some,List.length_nil,List.take_zero,List.length_cons,Nat.zero_add,List.drop_zero,List.map_append,List.map_cons,List.map_nil,List.cons_append,List.nil_append,List.take_succ_cons,List.drop_succ_cons,List.append_nil] at c2 c3
    split at c2
    ·rename_i i' m' ts e1 e2
     cases e1
     simp only [List.cons.injEq,and_true] at e2
     simp only [decide_eq_true_eq] at c2
     obtain ⟨d1,d2,d3⟩:=c2
     simp only [CS.lks,htnew,List.append_nil,List.map_append,List.map_map,List.append_assoc] at c3
     rw [←List.map_append,←List.map_append (f:=fun _=>Gh.no)] at c3
     obtain ⟨p1,p2⟩:=List.append_inj c3 (by simp)
     have hlive:∀t∈c.tin,γ (lk t.2.1) = .live t.2.2:=map_all (by simpa [Function.comp_def] using p1)
     have hno:∀t∈c.tout++c.own,γ (lk t.2.1) = .no:=map_all (by simpa [Function.comp_def] using p2)
     rw [href] at hs0
     simp only at hs0
     have hpt:((rs.take c.n).map (Opd.ev C.E σ))[i]?=some .pt:=by
      rw [List.map_take,List.getElem?_take,if_pos d2];exact hs0
     have hgp:((rs.take c.n).map (Opd.gh γ))[i]?=some (.ptr m 0):=by
      rw [List.map_take,List.getElem?_take,if_pos d2];exact d1
     have hins:c.ins (rs.map (Opd.ev C.E σ))=((rs.take c.n).map (Opd.ev C.E σ)).set i (σ m):=by
      simp only [CS.ins,href,hnew,Option.map_none,Option.toList_none,List.length_nil,Nat.add_zero,List.map_take]
      congr 1
      have:rs[c.n]?=some (.s m):=by
       rw [hrs,List.getElem?_append_right (by omega),htl,hm];simp
      simp [List.getD,this,Opd.ev]
     rw [hins] at hG
     exact op_callB h rfl hl rfl hpf (hE f).1 hfit href hx hsm' hpt hgp e2 d3 hlive hG hol hno hK
    ·rename_i e _;cases e
    ·cases c2
 ·cases ho
theorem kind_ok (hE:∀f,SpecOK C.P C.E.gl f (C.E.fs f)∧(C.E.fs f).sg=sg f) (k:K):KindOK C sg k:=by
 cases k with
 | mv=>exact k_mv
 | pick=>exact k_pick
 | bin b=>exact k_bin
 | be n=>exact k_be
 | un b=>exact k_un
 | ci k=>exact k_ci
 | cs=>exact k_cs
 | sb=>exact k_sb
 | sbt k=>exact k_sbt
 | bs=>exact k_bs
 | len=>exact k_len
 | lns=>exact k_lns
 | mn=>exact k_mn
 | mx=>exact k_mx
 | ix s=>exact k_ix
 | si=>exact k_si
 | ai n s a=>exact k_ai
 | fe o n a=>exact k_fe
 | sc s l h=>exact k_sc
 | ss l h=>exact k_ss
 | bl s n=>exact k_bl
 | blt s n k=>exact k_blt
 | bd z p=>exact k_bd
 | al m z t=>exact k_al
 | bx m=>exact k_bx
 | ld m o n a=>exact k_ld
 | st m o n=>exact k_st
 | lr n a=>exact k_lr
 | fa m o d=>exact k_fa
 | fr o n a=>exact k_fr
 | nc m o=>exact k_nc
 | ncr=>exact k_ncr
 | ex i=>exact k_ex
 | ap k d s b=>exact k_ap
 | aps k d b=>exact k_aps
 | an d s b=>exact k_an
 | ans d b=>exact k_ans
 | mk d s b z=>exact k_mk
 | nl d s=>exact k_nl
 | pss k=>exact k_pss
 | pln k=>exact k_pln
 | pix k s=>exact k_pix
 | pfa k o=>exact k_pfa
 | pld k s n a=>exact k_pld
 | pst k s n=>exact k_pst
 | pfz k s=>exact k_pfz
 | pcall f n r i k s=>exact k_pcall hE
 | pcaln f n r i s=>exact k_pcaln hE
 | ppa k d s b=>exact k_ppa
 | pnl k=>exact k_pnl
 | apq k d q s b=>exact k_apq
 | la m n s=>exact k_la
 | ll m s=>exact k_ll
 | nls=>exact k_nls
 | xib=>exact k_xib
 | rcall f n r i m=>exact k_rcall hE
 | nev b =>
  intro D σ γ a w dst op ty pos after guard rs ds gd ws gs K' Q h ho hk hsm hs
  exact hs.elim
 | bxt m ts=>exact k_bxt
 | stt m o n ts=>exact k_stt
 | apv k d s b=>exact k_apv
 | mvz k s=>exact k_mvz
 | stp m o=>exact k_stp
 | ldz m o n c k s=>exact k_ldz
 | rl=>exact k_rl
 | im=>exact k_im
 | cx=>exact k_cx
 | cf=>exact k_cf
 | fc=>exact k_fc
 | xtr=>exact k_xtr
 | mkv k s b z=>exact k_mkv
 | blv s n k=>exact k_blv
 | psl k d s=>exact k_psl
 | ppv k d s b=>exact k_ppv
 | ls m s=>exact k_ls
 | callv f n k=>exact k_callv hE
 | gcall f n nres i k s=>exact k_gcall hE
 | gcalv f n i k d=>exact k_gcalv hE
 | callq f n nres=>exact k_callq hE
 | call f c=>exact k_call hE
end
end Go.Eng
namespace Go.Eng
open Go.RowKit
section
variable {X:Type}
def agree (l:List Nat) (σ τ:Nat→X):Prop:=∀k∈l,σ k=τ k
def LStep (R:(Nat→X)→List X→Prop) (ds:List Nat) (σ σ':Nat→X):Prop:=∃ws,R σ ws∧ws.length=ds.length∧σ'=updL σ ds ws
def Local (rs:List Nat) (R:(Nat→X)→List X→Prop):Prop:=∀σ τ ws,agree rs σ τ→R σ ws→R τ ws
theorem LStep.swap {R S:(Nat→X)→List X→Prop} {d e r s:List Nat} (lr:Local r R) (ls:Local s S) (h1:∀k∈d,k ∉ s) (h2:∀k∈d,k ∉ e) (h3:∀k∈e,k ∉ r) {σ σ1 σ2:Nat→X}
  (a:LStep R d σ σ1) (b:LStep S e σ1 σ2):∃σ1',LStep S e σ σ1'∧LStep R d σ1' σ2:=by
 obtain ⟨ws,hR,hl,rfl⟩:=a
 obtain ⟨vs,hS,hm,rfl⟩:=b
 exact ⟨updL σ e vs,⟨vs,ls _ _ _ (fun k hk=>updL_out fun hd=>h1 k hd hk) hS,hm,rfl⟩,ws,lr _ _ _ (fun k hk=>(updL_out fun he=>h3 k he hk).symm) hR,hl,updL_comm h2⟩
end
def RS (E:Env) (m:MOp) (σ:Sg) (ws:List AV):Prop :=
 match guardV σ m.gd with
 | some true=>sem E m.k (m.rs.map (Opd.ev E σ)) ws
 | some false=>ws=m.ds.map fun _ => .sk
 | none=>False
def RG (m:MOp) (γ:Ga) (gs:List Gh):Prop:=gsem m.k (m.rs.map (Opd.gh γ))=some gs
theorem mem_reads {m:MOp} {t:Nat} (h:Opd.s t∈m.rs):t∈m.reads :=
 List.mem_append_left _ (List.mem_filterMap.2 ⟨_,h,rfl⟩)
theorem RS_local (E:Env) (m:MOp):Local m.reads (RS E m):=by
 intro σ τ ws h
 have h1:guardV σ m.gd=guardV τ m.gd:=by
  cases hg:m.gd with
  | none=>rfl
  | some q =>
   obtain ⟨t,b⟩:=q
   have:σ t=τ t:=h t (by simp [MOp.reads,hg])
   simp only [guardV,this]
 have h2:m.rs.map (Opd.ev E σ)=m.rs.map (Opd.ev E τ):=List.map_congr_left fun r hr=>by
  cases r with
  | s t=>exact h t (mem_reads hr)
  | c x=>rfl
  | g n=>rfl
 unfold RS
 rw [h1,h2]
 exact id
theorem RG_local (m:MOp):Local m.reads (RG m):=by
 intro σ τ ws h
 have h2:m.rs.map (Opd.gh σ)=m.rs.map (Opd.gh τ):=List.map_congr_left fun r hr=>by
  cases r with
  | s t=>exact h t (mem_reads hr)
  | c x=>rfl
  | g n=>rfl
 unfold RG
 rw [h2]
 exact id
def run2 (E:Env):List MOp→Sg→Ga→Sg→Ga→Prop
 | [],σ,γ,σ',γ'=>σ'=σ∧γ'=γ
 | m :: ms,σ,γ,σ',γ'=>∃σ1 γ1,LStep (RS E m) m.ds σ σ1∧LStep (RG m) m.ds γ γ1∧run2 E ms σ1 γ1 σ' γ'
theorem clash_spec {n m:MOp} (h:clash n m=false):(∀k∈n.ds,k ∉ m.reads)∧(∀k∈n.ds,k ∉ m.ds)∧(∀k∈m.ds,k ∉ n.reads):=by
 simp only [clash,Bool.or_eq_false_iff,List.any_eq_false,Bool.not_eq_true,List.contains_eq_mem,decide_eq_false_iff_not] at h
 exact ⟨fun k hk=>(h.1 k hk).1,fun k hk=>(h.1 k hk).2,fun k hk=>h.2 k hk⟩
theorem run2_front {E:Env} {m:MOp} {B:List MOp}:∀{A:List MOp} {σ σ':Sg} {γ γ':Ga},run2 E (A++m :: B) σ γ σ' γ'→(∀n∈A,clash n m=false)→run2 E (m :: (A++B)) σ γ σ' γ'
 | [],_,_,_,_,h,_=>h
 | n :: A,σ,σ',γ,γ',h,hc=>by
  obtain ⟨σ1,γ1,s,g,h⟩:=h
  obtain ⟨σ2,γ2,s2,g2,h⟩:=run2_front h fun x hx=>hc x (List.mem_cons_of_mem _ hx)
  obtain ⟨c1,c2,c3⟩:=clash_spec (hc n (List.mem_cons_self ..))
  obtain ⟨σ3,s3,s4⟩:=s.swap (RS_local E n) (RS_local E m) c1 c2 c3 s2
  obtain ⟨γ3,g3,g4⟩:=g.swap (RG_local n) (RG_local m) c1 c2 c3 g2
  exact ⟨σ3,γ3,s3,g3,σ2,γ2,s4,g4,h⟩
theorem GL.get_updL:∀{G:GL} {ts:List Nat} {xs:List Gh},(GL.updL G ts xs).get=Eng.updL G.get ts xs
 | G,t :: ts,x :: xs=>by
  funext k
  simp only [GL.updL,GL.get,Eng.updL,upd,GL.get_updL (G:=G) (ts:=ts) (xs:=xs)]
 | G,[],_=>by simp [GL.updL,Eng.updL]
 | G,_ :: _,[]=>by simp [GL.updL,Eng.updL]
theorem run2_of {E:Env}:∀{ms:List MOp} {σ σ':Sg} {G G':GL},runS E ms σ σ'→grun ms G=some G'→run2 E ms σ G.get σ' G'.get
 | [],_,_,_,_,h,g=>by
  simp only [grun,Option.some.injEq] at g
  subst g
  exact ⟨h,rfl⟩
 | m :: ms,σ,σ',G,G',⟨σ1,s,h⟩,g=>by
  simp only [grun,gstep,Option.bind_eq_some_iff] at g
  obtain ⟨G1,⟨gs,g1,g2⟩,g3⟩:=g
  rw [Option.ite_none_right_eq_some] at g2
  obtain ⟨hl,e⟩:=g2
  cases e
  exact ⟨σ1,_,s,⟨gs,g1,hl,GL.get_updL⟩,run2_of h g3⟩
section
variable {C:Ctx} {D:Dyn} {σ:Sg} {γ:Ga} {a:Act} {w:World}
theorem Sim.ment (h:Sim C D σ γ a w) (r:Opd):Ment γ (r.gh γ):=by
 cases r with
 | s t=>exact h.inv t
 | c x=>trivial
 | g n=>trivial
theorem strip_ok {γ:Ga} {g:Gh} (h:Ment γ g):g.strip.isCl=false∧g.strip.isLk=false∧Ment γ g.strip:=by
 cases g <;> first | exact ⟨rfl,rfl,trivial⟩ | exact ⟨rfl,rfl,h⟩
theorem comp_ok {γ:Ga} {g:Gh} (h:Ment γ g) (i:Nat):(g.comp i).isCl=false∧(g.comp i).isLk=false∧Ment γ (g.comp i):=by
 cases g with
 | tup ts p =>
  simp only [Gh.comp]
  split
  ·rename_i q k s e
   exact ⟨rfl,rfl,h.1 _ (List.mem_of_find?_eq_some e)⟩
  ·split
   ·rename_i j m
    split
    ·exact ⟨rfl,rfl,h.2 _ rfl⟩
    ·exact ⟨rfl,rfl,trivial⟩
   ·exact ⟨rfl,rfl,trivial⟩
 | _=>exact ⟨rfl,rfl,trivial⟩
theorem dOK1 {nt:Nat} {dst:Option Nat} {x:Nat} {l ds:List Nat} (h:(match dst with | some d=>decide (d<nt)&&ds == d :: x :: l | none=>false)=true) (hl:ds.length=1):False:=by
 obtain ⟨d,_,_,rfl⟩:=dOK0 h
 simp at hl
theorem dOK2 {nt:Nat} {dst:Option Nat} {l ds:List Nat} (hl:ds.length=1) (h:(match dst with | some d=>decide (d<nt)&&ds == d :: l | none=>false)=true):∃d,dst=some d∧d<nt∧ds=[d]∧l=[]:=by
 obtain ⟨d,h1,h2,rfl⟩:=dOK0 h
 have:l=[]:=by simpa using hl
 subst this
 exact ⟨d,h1,h2,rfl,rfl⟩
theorem one_gh (h:Sim C D σ γ a w) {k:K} {rs:List Opd} {ds:List Nat} {gd:Option (Nat × Bool)} {dst:Option Nat} {gs:List Gh} (hk:keysOK C.nt dst ⟨k,rs,ds,gd⟩=true)
  (hl:ds.length=1) (hd:dst.isSome=true) (hg:gsem k (rs.map (Opd.gh γ))=some gs) :
  ∃d g,dst=some d∧d<C.nt∧ds=[d]∧(gs.length=1→gs=[g])∧g.isCl=false∧g.isLk=false∧Ment γ g:=by
 have base:=fun (l:List Nat)=>dOK2 (nt:=C.nt) (dst:=dst) (l:=l) hl
 cases k
 case mv =>
  obtain ⟨d,h1,h2,h3,-⟩:=base [] hk
  simp only [gsem] at hg
  split at hg
  ·rename_i g e
   cases hg
   cases rs with
   | nil=>simp at e
   | cons r rs =>
    simp only [List.map_cons,List.cons.injEq] at e
    obtain ⟨q1,q2,q3⟩:=strip_ok (e.1 ▸ h.ment r)
    exact ⟨d,_,h1,h2,h3,fun _=>rfl,q1,q2,q3⟩
  ·cases hg
 case ex i =>
  obtain ⟨d,h1,h2,h3,-⟩:=base [] hk
  simp only [gsem] at hg
  split at hg
  ·rename_i g e
   cases hg
   cases rs with
   | nil=>simp at e
   | cons r rs =>
    simp only [List.map_cons,List.cons.injEq] at e
    obtain ⟨q1,q2,q3⟩:=comp_ok (e.1 ▸ h.ment r) i
    exact ⟨d,_,h1,h2,h3,fun _=>rfl,q1,q2,q3⟩
  ·cases hg
 case fa m o x =>
  obtain ⟨d,h1,h2,h3,-⟩:=base [] hk
  simp only [gsem] at hg
  split at hg
  ·rename_i m' o' e
   rw [Option.ite_none_right_eq_some] at hg
   obtain ⟨⟨rfl,rfl⟩,hg⟩:=hg
   cases hg
   cases rs with
   | nil=>simp at e
   | cons r rs =>
    simp only [List.map_cons,List.cons.injEq] at e
    have:=e.1 ▸ h.ment r
    exact ⟨d,_,h1,h2,h3,fun _=>rfl,rfl,rfl,this⟩
  ·cases hg
 case nc m o =>
  obtain ⟨d,h1,h2,h3,-⟩:=base [] hk
  simp only [gsem] at hg
  split at hg
  ·rename_i m' o' e
   rw [Option.ite_none_right_eq_some] at hg
   obtain ⟨⟨rfl,rfl⟩,hg⟩:=hg
   cases hg
   cases rs with
   | nil=>simp at e
   | cons r rs =>
    simp only [List.map_cons,List.cons.injEq] at e
    have:=e.1 ▸ h.ment r
    exact ⟨d,_,h1,h2,h3,fun _=>rfl,rfl,rfl,this⟩
  ·cases hg
 case ld m o n agg =>
  simp only [keysOK,Bool.and_eq_true] at hk
  obtain ⟨d,h1,h2,h3,-⟩:=base [] hk.2
  simp only [gsem] at hg
  split at hg
  ·rename_i m' o' ts e
   rw [Option.ite_none_right_eq_some] at hg
   obtain ⟨⟨rfl,rfl⟩,hg⟩:=hg
   cases hg
   have hm:Ment γ (.cl ts):=by
    match rs,e with
    | [r,q],e =>
     simp only [List.map_cons,List.map_nil,List.cons.injEq] at e
     exact e.2.1 ▸ h.ment q
   refine ⟨d,_,h1,h2,h3,fun _=>rfl,?_⟩
   split
   ·exact ⟨rfl,rfl,trivial⟩
   ·split
    ·rename_i q k s e
     exact ⟨rfl,rfl,hm _ (List.mem_of_find?_eq_some e)⟩
    ·exact ⟨rfl,rfl,trivial⟩
  ·cases hg
 case call f c =>
  simp only [keysOK,Bool.and_eq_true] at hk
  obtain ⟨d,h1,h2,h3,h4⟩:=base _ hk.1.2
  simp only [gsem] at hg
  rw [Option.ite_none_right_eq_some] at hg
  obtain ⟨_,hg⟩:=hg
  cases hg
  rw [List.append_eq_nil_iff] at h4
  obtain ⟨h4,h5⟩:=h4
  simp only [CS.mems,List.append_eq_nil_iff] at h4
  simp only [CS.lks,List.map_eq_nil_iff,List.append_eq_nil_iff] at h5
  have hn:c.new=none:=by cases hc:c.new <;> simp_all
  refine ⟨d,c.dg,h1,h2,h3,fun hl=>?_,?_⟩
  ·simp only [List.length_cons,Nat.add_eq_right,List.length_eq_zero_iff] at hl
   rw [hl]
  ·simp only [CS.dg,hn,h5.1.2]
   split
   ·exact ⟨rfl,rfl,trivial⟩
   ·refine ⟨rfl,rfl,?_⟩
    simp [Ment]
 case st m o n =>
  simp only [keysOK,Bool.and_eq_true,Option.isNone_iff_eq_none] at hk
  rw [hk.1.1.2] at hd
  cases hd
 case al m z ts=>simp only [keysOK,Bool.and_eq_true] at hk;exact (dOK1 hk.2 hl).elim
 case bx m=>simp only [keysOK,Bool.and_eq_true] at hk;exact (dOK1 hk.2 hl).elim
 case sbt k=>simp only [keysOK,Bool.and_eq_true] at hk;exact (dOK1 hk.2 hl).elim
 case blt s n k=>simp only [keysOK,Bool.and_eq_true] at hk;exact (dOK1 hk.2 hl).elim
 case ap=>simp only [keysOK,Bool.and_eq_true] at hk;exact (dOK1 hk.2 hl).elim
 case aps=>simp only [keysOK,Bool.and_eq_true] at hk;exact (dOK1 hk.2 hl).elim
 case an=>simp only [keysOK,Bool.and_eq_true] at hk;exact (dOK1 hk.2 hl).elim
 case ans=>simp only [keysOK,Bool.and_eq_true] at hk;exact (dOK1 hk.2 hl).elim
 case mk=>simp only [keysOK,Bool.and_eq_true] at hk;exact (dOK1 hk.2 hl).elim
 case nl=>simp only [keysOK,Bool.and_eq_true] at hk;exact (dOK1 hk.2 hl).elim
 case ppa=>simp only [keysOK,Bool.and_eq_true] at hk;exact (dOK1 hk.2 hl).elim
 case apq=>simp only [keysOK,Bool.and_eq_true] at hk;exact (dOK1 hk.2 hl).elim
 case pcall f n nres i k s =>
  simp only [keysOK,Bool.and_eq_true] at hk
  obtain ⟨d,h1,h2,h3,-⟩:=base [] hk.2
  simp only [gsem] at hg
  rw [Option.ite_none_right_eq_some] at hg
  obtain ⟨_,hg⟩:=hg
  cases hg
  exact ⟨d,.no,h1,h2,h3,fun _=>rfl,rfl,rfl,trivial⟩
 case pcaln f n nres i s =>
  simp only [keysOK,Bool.and_eq_true] at hk
  obtain ⟨d,h1,h2,h3,-⟩:=base [] hk.2
  simp only [gsem,Option.some.injEq] at hg
  exact ⟨d,.no,h1,h2,h3,fun _=>hg.symm,rfl,rfl,trivial⟩
 case pnl k =>
  simp only [keysOK,Bool.and_eq_true] at hk
  obtain ⟨d,h1,h2,h3,-⟩:=base [] hk.2
  simp only [gsem] at hg
  split at hg
  ·rw [Option.ite_none_right_eq_some] at hg
   obtain ⟨_,hg⟩:=hg
   cases hg
   exact ⟨d,.no,h1,h2,h3,fun _=>rfl,rfl,rfl,trivial⟩
  ·cases hg
 case ll m s =>
  simp only [keysOK,Bool.and_eq_true] at hk
  obtain ⟨d,h1,h2,h3,-⟩:=base [] hk.2
  simp only [gsem] at hg
  split at hg
  ·rw [Option.ite_none_right_eq_some] at hg
   obtain ⟨_,hg⟩:=hg
   cases hg
   exact ⟨d,.no,h1,h2,h3,fun _=>rfl,rfl,rfl,trivial⟩
  ·cases hg
 case la m n s =>
  simp only [keysOK,Bool.and_eq_true] at hk
  obtain ⟨d,h1,h2,h3,-⟩:=base [] hk.2
  simp only [gsem] at hg
  split at hg
  ·rename_i m' o' g0 ts e
   rw [Option.ite_none_right_eq_some] at hg
   obtain ⟨⟨rfl,rfl,_⟩,hg⟩:=hg
   cases hg
   cases rs with
   | nil=>simp at e
   | cons r rs =>
    simp only [List.map_cons,List.cons.injEq] at e
    have:=e.1 ▸ h.ment r
    exact ⟨d,_,h1,h2,h3,fun _=>rfl,rfl,rfl,this⟩
  ·cases hg
 case apv=>simp only [keysOK,Bool.and_eq_true] at hk;exact (dOK1 hk.2 hl).elim
 case mkv=>simp only [keysOK,Bool.and_eq_true] at hk;exact (dOK1 hk.2 hl).elim
 case blv=>simp only [keysOK,Bool.and_eq_true] at hk;exact (dOK1 hk.2 hl).elim
 case ppv=>simp only [keysOK,Bool.and_eq_true] at hk;exact (dOK1 hk.2 hl).elim
 case psl=>simp only [keysOK,Bool.and_eq_true] at hk;exact (dOK1 hk.2 hl).elim
 case callv=>simp only [keysOK,Bool.and_eq_true] at hk;exact (dOK1 hk.2 hl).elim
 case gcall=>simp only [keysOK,Bool.and_eq_true] at hk;exact (dOK1 hk.2 hl).elim
 case gcalv=>simp only [keysOK,Bool.and_eq_true] at hk;exact (dOK1 hk.2 hl).elim
 case ls m s =>
  simp only [keysOK,Bool.and_eq_true,Option.isNone_iff_eq_none] at hk
  rw [hk.1.1.2] at hd
  cases hd
 case mvz k s =>
  simp only [keysOK,Bool.and_eq_true] at hk
  obtain ⟨_,hk⟩:=hk
  split at hk
  ·simp only [Bool.and_eq_true] at hk
   exact (dOK1 hk.2 hl).elim
  ·cases hk
 case ldz=>simp only [keysOK,Bool.and_eq_true] at hk;exact (dOK1 hk.2 hl).elim
 case stp m o =>
  simp only [keysOK,Bool.and_eq_true,Option.isNone_iff_eq_none] at hk
  rw [hk.1.1.2] at hd
  cases hd
 case pss=>simp only [keysOK,Bool.and_eq_true] at hk;exact (dOK1 hk.2 hl).elim
 case pfz k s =>
  simp only [keysOK,Bool.and_eq_true] at hk
  obtain ⟨_,hk⟩:=hk
  split at hk
  ·simp only [Bool.and_eq_true] at hk
   exact (dOK1 hk.2 hl).elim
  ·cases hk
 case pst k s n =>
  simp only [keysOK,Bool.and_eq_true,Option.isNone_iff_eq_none] at hk
  rw [hk.1.1] at hd
  cases hd
 case rcall f n nres i m =>
  simp only [keysOK,Bool.and_eq_true] at hk
  obtain ⟨d,h1,h2,h3,-⟩:=base [] hk.2
  simp only [gsem] at hg
  split at hg
  ·rw [Option.ite_none_right_eq_some] at hg
   obtain ⟨_,hg⟩:=hg
   cases hg
   exact ⟨d,.no,h1,h2,h3,fun _=>rfl,rfl,rfl,trivial⟩
  ·cases hg
 case nev b =>
  cases b with
  | true =>
   obtain ⟨d,h1,h2,h3,-⟩:=base [] hk
   simp only [gsem,if_true,Option.some.injEq] at hg
   exact ⟨d,.no,h1,h2,h3,fun _=>hg.symm,rfl,rfl,trivial⟩
  | false =>
   simp only [keysOK,Bool.and_eq_true,Option.isNone_iff_eq_none] at hk
   rw [hk.1] at hd
   cases hd
 case bxt=>simp only [keysOK,Bool.and_eq_true] at hk;exact (dOK1 hk.2 hl).elim
 case stt m o n ts =>
  simp only [keysOK,Bool.and_eq_true,Option.isNone_iff_eq_none] at hk
  rw [hk.1.1.1.2] at hd
  cases hd
 case pln k =>
  simp only [keysOK,Bool.and_eq_true] at hk
  obtain ⟨d,h1,h2,h3,-⟩:=base [] hk.2
  simp only [gsem] at hg
  split at hg
  ·rw [Option.ite_none_right_eq_some] at hg
   obtain ⟨_,hg⟩:=hg
   cases hg
   exact ⟨d,.no,h1,h2,h3,fun _=>rfl,rfl,rfl,trivial⟩
  ·cases hg
 case pld k s n agg =>
  simp only [keysOK,Bool.and_eq_true] at hk
  obtain ⟨d,h1,h2,h3,-⟩:=base [] hk.2
  simp only [gsem] at hg
  split at hg
  ·rw [Option.ite_none_right_eq_some] at hg
   obtain ⟨_,hg⟩:=hg
   cases hg
   exact ⟨d,.no,h1,h2,h3,fun _=>rfl,rfl,rfl,trivial⟩
  ·cases hg
 case pix k s =>
  simp only [keysOK,Bool.and_eq_true] at hk
  obtain ⟨d,h1,h2,h3,-⟩:=base [] hk.2
  simp only [gsem] at hg
  split at hg
  ·rename_i k' s0 g0 s1 e
   rw [Option.ite_none_right_eq_some] at hg
   obtain ⟨⟨rfl,rfl⟩,hg⟩:=hg
   cases hg
   cases rs with
   | nil=>simp at e
   | cons r rs =>
    simp only [List.map_cons,List.cons.injEq] at e
    have:=e.1 ▸ h.ment r
    exact ⟨d,_,h1,h2,h3,fun _=>rfl,rfl,rfl,this⟩
  ·cases hg
 case pfa k o =>
  obtain ⟨d,h1,h2,h3,-⟩:=base [] hk
  simp only [gsem] at hg
  split at hg
  ·rename_i k' e
   rw [Option.ite_none_right_eq_some] at hg
   obtain ⟨rfl,hg⟩:=hg
   cases hg
   cases rs with
   | nil=>simp at e
   | cons r rs =>
    simp only [List.map_cons,List.cons.injEq] at e
    have:=e.1 ▸ h.ment r
    exact ⟨d,_,h1,h2,h3,fun _=>rfl,rfl,rfl,this⟩
  ·cases hg
 all_goals
  obtain ⟨d,h1,h2,h3,-⟩:=base [] hk
  simp only [gsem,Option.some.injEq] at hg
  exact ⟨d,.no,h1,h2,h3,fun _=>hg.symm,rfl,rfl,trivial⟩
theorem yield_of (h:Sim C D σ γ a w) {ops:Array Oper} {j d:Nat} {x:Bool} (hd:d<C.nt) (hj:(ops[j]?).bind (·.dst)=some d) (hx:σ d = .v (.bool x)):yielded ops a.tmps j=some x:=by
 have hs:d<a.tmps.size:=by rw [h.size];exact hd
 have h0:=h.slot d hd
 rw [hx] at h0
 rcases h0 with e | ⟨e,_⟩
 ·cases e
 ·have e2:a.tmps[d]?=some (.bool x):=by
   rw [Array.getElem?_eq_getElem hs]
   have e3:a.tmps.getD d undef=a.tmps[d]:=by simp [Array.getD,hs]
   rw [e3] at e
   generalize a.tmps[d]=y at e
   cases e
   rfl
  simp [yielded,hj,e2]
theorem yield_sk (h:Sim C D σ γ a w) {ops:Array Oper} {j d:Nat} (hd:d<C.nt) (hj:(ops[j]?).bind (·.dst)=some d) (hx:σ d = .sk):yielded ops a.tmps j=none:=by
 have hs:d<a.tmps.size:=by rw [h.size];exact hd
 have h0:=h.slot d hd
 rw [hx] at h0
 rcases h0 with e | ⟨e,_⟩
 ·cases e
 ·have e2:a.tmps[d]?=some (.tuple ⟨[]⟩):=by
   rw [Array.getElem?_eq_getElem hs]
   have e3:a.tmps.getD d undef=a.tmps[d]:=by simp [Array.getD,hs]
   rw [e3] at e
   generalize a.tmps[d]=y at e
   cases e with
   | tu e=>cases e;rfl
  simp [yielded,hj,e2]
variable {sg:Nat→FSig} {K:Act→World→Prop} {Q:Exit→Act→World→Prop}
theorem step_ok (hE:∀f,SpecOK C.P C.E.gl f (C.E.fs f)∧(C.E.fs f).sg=sg f) {ops:Array Oper} {o:Oper} {m:MOp} {σ1:Sg} {γ1:Ga} (h:Sim C D σ γ a w)
  (ho:opOK C.P sg o m=true) (hk:keysOK C.nt o.dst m=true) (hg:guardOK C.nt ops o m=true) (hsm:small C.nt o.op.operands.toList=true)
  (s1:LStep (RS C.E m) m.ds σ σ1) (s2:LStep (RG m) m.ds γ γ1) (hK:∀D' a' w',Sim C D' σ1 γ1 a' w'→K a' w') :
  if Region.wanted o (yielded ops a.tmps) then o.wp C.P a w K Q∨(o.asks C.P a w∧LetsOut Q) else K (a.put o.dst undef) w:=by
 obtain ⟨k,rs,ds,gd⟩:=m
 obtain ⟨dst,op,ty,pos,after,guard⟩:=o
 obtain ⟨ws,r1,l1,rfl⟩:=s1
 obtain ⟨gs,r2,l2,rfl⟩:=s2
 unfold RG at r2
 simp only [RS] at r1
 simp only [guardOK] at hg
 split at hg
 ·simp only [guardV] at r1
  simp only [Region.wanted,if_true]
  exact .inl (kind_ok hE k h ho hk hsm r1 r2 hK)
 ·rename_i j b t b'
  simp only [Bool.and_eq_true,beq_iff_eq,decide_eq_true_eq] at hg
  obtain ⟨⟨⟨⟨rfl,ht⟩,hj⟩,hl⟩,hd⟩:=hg
  split at hj
  ·rename_i d hd'
   have hj:d=t:=by simpa using hj
   subst hj
   simp only [guardV] at r1
   cases hx:σ d with
   | v z =>
    cases z with
    | bool x =>
     have hy:=yield_of h ht hd' hx
     simp only [hx] at r1
     cases hw:x == b with
     | true =>
      simp only [hw] at r1
      have hw':(some x == some b)=true:=by simpa using hw
      simp only [Region.wanted,hy,hw',if_true]
      exact .inl (kind_ok hE k h ho hk hsm r1 r2 hK)
     | false =>
      simp only [hw] at r1
      have hw':(some x == some b)=false:=by simpa using hw
      simp only [Region.wanted,hy,hw',Bool.false_eq_true,if_false]
      subst r1
      obtain ⟨d',g,e1,e2,e3,e4,e5,e6,e7⟩:=one_gh h hk hl hd r2
      dsimp only at e1 hl l2 hK ⊢
      subst e1
      subst e3
      have:=e4 l2
      subst this
      exact hK _ _ _ (h.put e2 (.inr ⟨.tu .nil,fun h=>absurd rfl h⟩) e5 e6 e7)
    | _=>simp only [hx] at r1
   | tu l =>
    cases l with
    | cons y l=>simp only [hx] at r1
    | nil =>
     have hy:=yield_sk h ht hd' hx
     simp only [hx] at r1
     have hw':((none:Option Bool) == some b)=false:=rfl
     simp only [Region.wanted,hy,hw',Bool.false_eq_true,if_false]
     subst r1
     obtain ⟨d',g,e1,e2,e3,e4,e5,e6,e7⟩:=one_gh h hk hl hd r2
     dsimp only at e1 hl l2 hK ⊢
     subst e1
     subst e3
     have:=e4 l2
     subst this
     exact hK _ _ _ (h.put e2 (.inr ⟨.tu .nil,fun h=>absurd rfl h⟩) e5 e6 e7)
   | _=>simp only [hx] at r1
  ·cases hj
 ·cases hg
abbrev oneOK (P:Program) (sg:Nat→FSig) (nt:Nat) (ops:Array Oper) (o:Oper) (m:MOp):Bool :=
 opOK P sg o m&&keysOK nt o.dst m&&guardOK nt ops o m&&small nt o.op.operands.toList
theorem list_ok (hE:∀f,SpecOK C.P C.E.gl f (C.E.fs f)∧(C.E.fs f).sg=sg f) {ops:Array Oper} {σ':Sg} {γ':Ga}:∀{os:List Oper} {ms:List MOp} {D:Dyn} {σ:Sg} {γ:Ga} {a:Act} {w:World},Sim C D σ γ a w →
  all2 (oneOK C.P sg C.nt ops) os ms=true→run2 C.E ms σ γ σ' γ'→(∀D' a' w',Sim C D' σ' γ' a' w'→Q .normal a' w')→wpList C.P ops Q os a w
 | [],[],_,_,_,_,_,h,_,⟨e1,e2⟩,hQ=>by subst e1;subst e2;exact hQ _ _ _ h
 | o :: os,m :: ms,_,_,_,_,_,h,hc,⟨σ1,γ1,s1,s2,hr⟩,hQ=>by
  simp only [all2,oneOK,Bool.and_eq_true] at hc
  obtain ⟨⟨⟨⟨c1,c2⟩,c3⟩,c4⟩,c5⟩:=hc
  unfold wpList
  exact step_ok hE h c1 c2 c3 c4 s1 s2 fun D' a' w' h'=>list_ok hE h' (by simpa only [all2,oneOK] using c5) hr hQ
 | [],_ :: _,_,_,_,_,_,_,hc,_,_=>by simp [all2] at hc
 | _ :: _,[],_,_,_,_,_,_,hc,_,_=>by simp [all2] at hc
end
end Go.Eng
namespace Go.Eng
open Go.RowKit
theorem all2_get {A B:Type} {f:A→B→Bool}:∀{as:List A} {bs:List B} {i:Nat} {x:A},all2 f as bs=true→as[i]?=some x→∃y,bs[i]?=some y∧f x y=true
 | a :: as,b :: bs,0,x,h,e=>by
  simp only [all2,Bool.and_eq_true] at h
  simp only [List.getElem?_cons_zero,Option.some.injEq] at e
  subst e
  exact ⟨b,rfl,h.1⟩
 | a :: as,b :: bs,i+1,x,h,e=>by
  simp only [all2,Bool.and_eq_true] at h
  simp only [List.getElem?_cons_succ] at e ⊢
  exact all2_get h.2 e
 | [],_,_,_,_,e=>by simp at e
 | _ :: _,[],_,_,h,_=>by simp [all2] at h
theorem all2_len {A B:Type} {f:A→B→Bool}:∀{as:List A} {bs:List B},all2 f as bs=true→as.length=bs.length
 | [],[],_=>rfl
 | _ :: _,_ :: _,h=>by simp only [all2,Bool.and_eq_true] at h;simp [all2_len h.2]
 | [],_ :: _,h=>by simp [all2] at h
 | _ :: _,[],h=>by simp [all2] at h
section
variable {L:Nat→Prop} {ops:List Oper}
theorem befores_fold (hcl:∀i o,ops[i]?=some o→L i→∀e∈befs o,L e):∀(rest pre:List Oper) (acc:List (List Nat)),ops=pre++rest→acc.length=pre.length →
  (∀i o,i<acc.length→ops[i]?=some o→(∀e∈befs o,L e)→∀j∈acc.getD i [],L j) →
  ∀i o,ops[i]?=some o→(∀e∈befs o,L e)→∀j∈(rest.foldl (fun acc o=>acc++[(befs o).flatMap fun e=>e :: (acc.getD e [])]) acc).getD i [],L j
 | [],pre,acc,e,hl,inv=>by
  intro i o hi hb j hj
  simp only [List.append_nil] at e
  subst e
  have:i<acc.length:=by
   rw [hl]
   exact (List.getElem?_eq_some_iff.1 hi).1
  exact inv i o this hi hb j hj
 | r :: rest,pre,acc,e,hl,inv=>by
  simp only [List.foldl_cons]
  refine befores_fold hcl rest (pre++[r]) _ (by simp [e]) (by simp [hl]) ?_
  intro i o hi ho hb j hj
  by_cases hlt:i<acc.length
  ·rw [List.getD_eq_getElem?_getD,List.getElem?_append_left hlt,←List.getD_eq_getElem?_getD] at hj
   exact inv i o hlt ho hb j hj
  ·have hi':i=acc.length:=by simp at hi;omega
   subst hi'
   rw [List.getD_eq_getElem?_getD,List.getElem?_append_right (Nat.le_refl _)] at hj
   simp only [Nat.sub_self,List.getElem?_cons_zero,Option.getD_some,List.mem_flatMap,List.mem_cons] at hj
   have hr:o=r:=by
    rw [e,hl,List.getElem?_append_right (Nat.le_refl _)] at ho
    simpa using ho.symm
   subst hr
   obtain ⟨x,hx,rfl | hj⟩:=hj
   ·exact hb _ hx
   ·by_cases hxl:x<acc.length
    ·have hxo:x<ops.length:=by rw [e];simp;omega
     exact inv x _ hxl (List.getElem?_eq_getElem hxo) (hcl x _ (List.getElem?_eq_getElem hxo) (hb x hx)) j hj
    ·simp [List.getD,List.getElem?_eq_none (Nat.le_of_not_lt hxl)] at hj
theorem befores_in (hcl:∀i o,ops[i]?=some o→L i→∀e∈befs o,L e) {i:Nat} {o:Oper} (hi:ops[i]?=some o) (hb:∀e∈befs o,L e):∀j∈(befores ops).getD i [],L j :=
 befores_fold hcl ops [] [] rfl rfl (fun _ _ h=>by simp at h) i o hi hb
end
theorem zip_all {A:Type} {l:List A} {p:A × Nat→Bool} (h:l.zipIdx.all p=true) {i:Nat} {x:A} (hi:l[i]?=some x):p (x,i)=true :=
 List.all_eq_true.1 h _ (List.mem_zipIdx_iff_getElem?.2 (by simpa using hi))
theorem getD_set (l:Array Bool) (i x:Nat) (d:Bool):(l.setIfInBounds i true).getD x d=if i=x then (if i<l.size then true else d) else l.getD x d:=by
 simp only [Array.getD_eq_getD_getElem?,Array.getElem?_setIfInBounds]
 split
 ·split <;> rfl
 ·rfl
def remains (n:Nat) (listed:Array Bool):List Nat:=(List.range n).filter fun i=>!listed.getD i true
theorem remains_set {n i:Nat} {listed:Array Bool} (hs:listed.size=n) (hi:i<n):remains n (listed.setIfInBounds i true)=(remains n listed).filter (fun j=>decide (j≠i)):=by
 simp only [remains,List.filter_filter]
 apply List.filter_congr
 intro j hj
 have hj:j<n:=by simpa using hj
 by_cases h:j=i
 ·subst h
  simp [Array.getD,hs,hi]
 ·have:i≠j:=fun e=>h e.symm
  simp [Array.getD,hs,hj,Array.getElem_setIfInBounds,h,this]
section
variable {C:Ctx} {sg:Nat→FSig} {Q:Exit→Act→World→Prop}
theorem listed_iff {listed:Array Bool} {n i:Nat} (hs:listed.size=n) (hi:i<n):listed.getD i true=listed.getD i false:=by simp [Array.getD,hs,hi]
theorem any_ok (hE:∀f,SpecOK C.P C.E.gl f (C.E.fs f)∧(C.E.fs f).sg=sg f) {ops:Array Oper} {ms:List MOp} (hc:all2 (oneOK C.P sg C.nt ops) ops.toList ms=true) (hord:orderOK ops.toList ms=true)
  {σ':Sg} {γ':Ga} (hQ:∀D' a' w',Sim C D' σ' γ' a' w'→Q .normal a' w') :
  ∀(fuel:Nat) {listed:Array Bool} {D:Dyn} {σ:Sg} {γ:Ga} {a:Act} {w:World},Sim C D σ γ a w→listed.size=ops.size →
   (∀i o,ops.toList[i]?=some o→listed.getD i false=true→∀e∈befs o,listed.getD e false=true) →
   (remains ops.size listed).length≤fuel→run2 C.E ((remains ops.size listed).filterMap (ms[·]?)) σ γ σ' γ'→wpAny C.P .any ops Q fuel listed a w:=by
 simp only [orderOK,Bool.and_eq_true] at hord
 obtain ⟨hed,hcl⟩:=hord
 -- where nothing is ready,nothing remains
 have hnil:∀{listed:Array Bool},listed.size=ops.size→Region.ready .any ops listed=[]→remains ops.size listed=[]:=by
  intro listed hs hr
  cases hrem:remains ops.size listed with
  | nil=>rfl
  | cons i rest =>
   exfalso
   have hmem:i∈remains ops.size listed:=by rw [hrem];exact List.mem_cons_self ..
   have hmem':=hmem
   simp only [remains,List.mem_filter,List.mem_range,Bool.not_eq_true'] at hmem'
   obtain ⟨hi,hl⟩:=hmem'
   have hsort:(remains ops.size listed).Pairwise (· < ·):=List.Pairwise.filter _ List.pairwise_lt_range
   have hio:ops.toList[i]?=some ops[i]:=by simp [hi]
   have hb:=zip_all hed hio
   have:i∈Region.ready .any ops listed:=by
    simp only [Region.ready,List.mem_filter,List.mem_range]
    refine ⟨hi,?_⟩
    simp only [hl,Bool.not_false,Bool.true_and,Array.getElem?_eq_getElem hi,Option.map_some,Option.getD_some,Array.all_eq_true_iff_forall_mem,Bool.or_eq_true,Bool.not_eq_true']
    intro e he
    cases hbind:Region.binds .any e with
    | false=>exact .inl rfl
    | true =>
     right
     have hlt:e.on<i:=by
      have:e.on∈befs ops[i]:=List.mem_map.2 ⟨e,List.mem_filter.2 ⟨by simpa using he,hbind⟩,rfl⟩
      have hb':=List.all_eq_true.1 hb _ this
      simpa using hb'
     cases hle:listed.getD e.on false with
     | true=>rfl
     | false =>
      have hin:e.on∈remains ops.size listed:=by
       simp only [remains,List.mem_filter,List.mem_range,Bool.not_eq_true']
       exact ⟨by omega,by rw [listed_iff hs (by omega)];exact hle⟩
      rw [hrem] at hin hsort
      rcases List.mem_cons.1 hin with h | h
      ·omega
      ·have:=(List.pairwise_cons.1 hsort).1 _ h
       omega
   rw [hr] at this
   cases this
 intro fuel
 induction fuel with
 | zero =>
  intro listed D σ γ a w h hs hclosed hf hr
  have h0:remains ops.size listed=[]:=by simpa using hf
  rw [h0] at hr
  obtain ⟨e1,e2⟩:=hr
  subst e1;subst e2
  refine ⟨?_,hQ _ _ _ h⟩
  cases hrd:Region.ready .any ops listed with
  | nil=>rfl
  | cons i rest =>
   have:i∈Region.ready .any ops listed:=by rw [hrd];exact List.mem_cons_self ..
   simp only [Region.ready,List.mem_filter,List.mem_range,Bool.and_eq_true] at this
   have h1:i∈remains ops.size listed:=by
    simp only [remains,List.mem_filter,List.mem_range]
    exact ⟨this.1,this.2.1⟩
   rw [h0] at h1
   cases h1
 | succ fuel ih =>
  intro listed D σ γ a w h hs hclosed hf hr
  refine ⟨fun hrd=>?_,fun i hi=>?_⟩
  ·rw [hnil hs hrd] at hr
   obtain ⟨e1,e2⟩:=hr
   subst e1;subst e2
   exact hQ _ _ _ h
  ·simp only [Region.ready,List.mem_filter,List.mem_range,Bool.and_eq_true] at hi
   obtain ⟨hin,hil,hib⟩:=hi
   have hirem:i∈remains ops.size listed:=by
    simp only [remains,List.mem_filter,List.mem_range]
    exact ⟨hin,hil⟩
   have hio:ops.toList[i]?=some ops[i]:=by simp [hin]
   simp only [Array.getElem?_eq_getElem hin,Option.map_some,Option.getD_some,Array.all_eq_true_iff_forall_mem,Bool.or_eq_true,Bool.not_eq_true'] at hib
   have hbl:∀e∈befs ops[i],listed.getD e false=true:=by
    intro e he
    simp only [befs,List.mem_map,List.mem_filter] at he
    obtain ⟨x,⟨hx,hb⟩,rfl⟩:=he
    rcases hib x (by simpa using hx) with h | h
    ·rw [hb] at h;cases h
    ·exact h
   obtain ⟨A,B,hAB⟩:=List.append_of_mem hirem
   have hsort:(remains ops.size listed).Pairwise (· < ·):=List.Pairwise.filter _ List.pairwise_lt_range
   rw [hAB,List.pairwise_append] at hsort
   obtain ⟨-,hB,hA⟩:=hsort
   have hAi:∀j∈A,j<i:=fun j hj=>hA j hj i (List.mem_cons_self ..)
   have hBi:∀j∈B,i<j:=fun j hj=>(List.pairwise_cons.1 hB).1 j hj
   obtain ⟨m,hm,hone⟩:=all2_get hc hio
   rw [hAB,List.filterMap_append,List.filterMap_cons,hm] at hr
   have hfront:=run2_front hr (fun n hn=>by
    obtain ⟨j,hj,hjn⟩:=List.mem_filterMap.1 hn
    have h1:=zip_all hcl hm
    have hjl:j<i:=hAi j hj
    have h2:=zip_all h1 (i:=j) (x:=n) (by rw [List.getElem?_take,if_pos hjl];exact hjn)
    simp only [Bool.or_eq_true,Bool.not_eq_true',List.contains_eq_mem,decide_eq_true_eq] at h2
    rcases h2 with h2 | h2
    ·exact h2
    ·exfalso
     have h3:=befores_in (L:=fun e=>listed.getD e false=true) hclosed hio hbl j h2
     have h4:j∈remains ops.size listed:=by rw [hAB];exact List.mem_append_left _ hj
     simp only [remains,List.mem_filter,List.mem_range,Bool.not_eq_true'] at h4
     rw [listed_iff hs h4.1,h3] at h4
     cases h4.2)
   obtain ⟨σ1,γ1,s1,s2,hr'⟩:=hfront
   simp only [oneOK,Bool.and_eq_true] at hone
   obtain ⟨⟨⟨c1,c2⟩,c3⟩,c4⟩:=hone
   simp only [wpOp,Array.getElem?_eq_getElem hin]
   refine step_ok hE h c1 c2 c3 c4 s1 s2 fun D' a' w' h'=>?_
   have hrs:remains ops.size (listed.setIfInBounds i true)=A++B:=by
    rw [remains_set hs hin,hAB,List.filter_append,List.filter_cons]
    simp only [ne_eq,not_true_eq_false,decide_false,Bool.false_eq_true,if_false]
    rw [List.filter_eq_self.2 (fun j hj=>by have:=hAi j hj;simp;omega),List.filter_eq_self.2 (fun j hj=>by have:=hBi j hj;simp;omega)]
   refine ih h' (by simp [hs]) ?_ ?_ ?_
   ·intro j o hj hjl e he
    have hset:∀x,listed.getD x false=true→(listed.setIfInBounds i true).getD x false=true:=by
     intro x hx
     rw [getD_set]
     split
     ·rename_i hix
      subst hix
      rw [if_pos (by rw [hs];exact hin)]
     ·exact hx
    by_cases hji:j=i
    ·subst hji
     rw [hio] at hj
     cases hj
     exact hset _ (hbl e he)
    ·refine hset _ (hclosed j o hj ?_ e he)
     have hij:i≠j:=fun e=>hji e.symm
     rw [getD_set,if_neg hij] at hjl
     exact hjl
   ·rw [hrs]
    rw [hAB] at hf
    simp at hf ⊢
    omega
   ·rw [hrs,List.filterMap_append]
    exact hr'
theorem filterMap_range {A:Type}:∀(ms:List A),(List.range ms.length).filterMap (ms[·]?)=ms
 | []=>rfl
 | m :: ms=>by
  rw [List.length_cons,List.range_succ_eq_map,List.filterMap_cons]
  simp only [List.getElem?_cons_zero,List.filterMap_map,Function.comp_def,List.getElem?_cons_succ]
  rw [filterMap_range ms]
theorem region_ok (hE:∀f,SpecOK C.P C.E.gl f (C.E.fs f)∧(C.E.fs f).sg=sg f) {id:Nat} {ops:Array Oper} {draw:Bool} {ms:List MOp} {G G':GL} {D:Dyn} {σ σ':Sg} {a:Act} {w:World}
  (hr:regOK C.P sg C.nt ops draw ms=true) (hg:grun ms G=some G') (h:Sim C D σ G.get a w) (hs:runS C.E ms σ σ') (hQ:∀D' a' w',Sim C D' σ' G'.get a' w'→Q .normal a' w'):(Code.region id ops draw).wp C.P Q a w:=by
 simp only [regOK,Bool.and_eq_true] at hr
 obtain ⟨hc,hd⟩:=hr
 have hrun:=run2_of hs hg
 cases draw with
 | false=>exact wp_region_list (list_ok hE h hc hrun hQ)
 | true =>
  simp only [Bool.not_true,Bool.false_or,Bool.and_eq_true] at hd
  have hlen:ops.size=ms.length:=by have:=all2_len hc;simpa using this
  have hrem:remains ops.size (Array.replicate ops.size false)=List.range ops.size:=by
   simp only [remains]
   apply List.filter_eq_self.2
   intro i hi
   have hi:i<ops.size:=by simpa using hi
   simp [Array.getD,hi]
  refine wp_region_any hd.1 (any_ok hE hc hd.2 hQ ops.size h.drew (by simp) ?_ (by rw [hrem];simp) ?_)
  ·intro i o _ hl
   exfalso
   by_cases hi:i<ops.size <;> simp [Array.getD,hi] at hl
  ·rw [hrem,hlen,filterMap_range]
   exact hrun
end
end Go.Eng
