/- Texts of my own, one behind the other: EngA, EngB, EngC, EngD, EngE, EngF, EngG, EngH, EngI, EngJ, EngK, EngL, EngM, EngN, EngO, EngP, EngQ. -/
import Derived.Calls
import Derived.Below
import Derived.Laws.OwnMore
import Derived.Lib.Bytealg
import Derived.Orders
import Derived.Laws.IdiomStrings
import Derived.Laws.Entries
import Derived.Laws.BytesString
import Derived.Lib.Strings
import Derived.Laws.BytesArg
import Derived.Laws.MakeOwn
set_option linter.unusedVariables false
set_option linter.unusedSimpArgs false
namespace Go.Eng
abbrev aa:=@decide_eq_true
abbrev ae:=@decide_eq_false
abbrev af:=@Bool.and_eq_true
abbrev ah:=@cond_false
abbrev aj:=@if_neg
abbrev ak:=@cond_true
abbrev ao:=@List.map_cons
abbrev aq:=@if_pos
abbrev ar:=@List.cons.injEq
abbrev au:=@List.map_nil
abbrev aw:=@List.length_append
abbrev ax:=@Option.some.injEq
abbrev ay:=@Nat.eq_of_beq_eq_true
abbrev az:=@decide_eq_true_eq
abbrev aA:=@List.length_nil
abbrev aB:=@Option.ite_none_right_eq_some
abbrev aC:=@UInt64.lt_iff_toNat_lt
abbrev aD:=@List.getElem?_eq_getElem
abbrev aE:=@List.getElem?_eq_some_iff
abbrev aF:=@of_decide_eq_true
abbrev aG:=@Bool.not_or_self
abbrev aH:=@List.getD_eq_getElem?_getD
abbrev aI:=@Int.toNat_natCast
abbrev aJ:=@List.drop_of_length_le
abbrev aK:=@List.length_singleton
abbrev aL:=@List.length_cons
abbrev aM:=@List.append_nil
abbrev aN:=@UInt64.le_iff_toNat_le
abbrev aO:=@Bool.and_self
abbrev aP:=@List.getElem?_map
abbrev aQ:=@List.length_map
abbrev aR:=@Bool.not_true
abbrev aS:=@List.length_drop
abbrev aT:=@List.getElem?_take
abbrev aU:=@List.getElem?_append_right
abbrev aV:=@Bool.not_false
abbrev aW:=@List.mem_map
abbrev aX:=@decide_eq_decide
abbrev aY:=@UInt64.toNat_inj
abbrev aZ:=@List.append_assoc
abbrev ba:=@Int.emod_eq_of_lt
abbrev bc:=@List.drop_zero
abbrev bf:=@List.mem_of_getElem?
abbrev bg:=@Option.map_eq_some_iff
abbrev bh:=@List.length_take
abbrev bj:=@List.all_eq_true
abbrev bk:=@List.map_map
abbrev bm:=@Bool.eq_iff_iff
abbrev bo:=@Bool.false_eq_true
abbrev bq:=@List.mem_cons
abbrev bt:=@Option.bind_eq_some_iff
abbrev bu:=@Nat.mul_le_mul_right
abbrev bw:=@Bool.and_eq_true_iff
abbrev bz:=@List.nil_append
abbrev bA:=@List.eq_nil_of_length_eq_zero
abbrev bB:=@Bool.or_not_self
abbrev bC:=@List.getElem?_of_mem
end Go.Eng
namespace Go.Eng
open Go.RowKit
inductive AV where
 | v (x:Value)
 | ag (cs:List AV)
 | tu (vs:List AV)
 | sl (s:Nat) (es:List AV)
 | ro (x:AV)
 | pt
 | dead
 | el (i s o:Nat)
 | ab
 | gv (zs:List Value)
 deriving Inhabited
def AV.cells:AV→List AV
 | .ag cs=>cs
 | x=>[x]
def AV.pC:AV→Bool
 | .ag _=>true
 | _=>false
abbrev Reach:=Nat→Nat→Prop
mutual
inductive Rep (R:Reach) (w:World):AV→Value→Prop
 | v (x:Value):Rep R w (.v x) x
 | ag {cs:List AV} {ys:List Value}:eS R w cs ys→Rep R w (.ag cs) (.agg ⟨ys⟩)
 | tu {vs:List AV} {ys:List Value}:gT R w vs ys→Rep R w (.tu vs) (.tuple ⟨ys⟩)
 | nil (s:Nat):Rep R w (.sl s []) (.slice none 0 0)
 | sl {s:Nat} {es:List AV} {b off n cap:Nat}:n=es.length→n≤cap→cap≤maxLen→jf R w s es b off→Rep R w (.sl s es) (.slice (some ⟨b,off,none⟩) n cap)
 | em {a:Addr} {cap:Nat} (s:Nat):cap≤maxLen→Rep R w (.sl s []) (.slice (some a) 0 cap)
 | ro {x:AV} {b off s:Nat}:kY R w s x b off→Rep R w (.ro x) (.pointer (some ⟨b,off,none⟩))
 | pt (y:Value):Rep R w .pt y
 | dead (y:Value):Rep R w .dead y
 | el (i s o b:Nat):Rep R w (.el i s o) (.pointer (some ⟨b,i * s+o,none⟩))
 | ab (x:Bool):Rep R w .ab (.bool x)
 | gv {zs:List Value} {b:Nat}:(∀o,R b o)→(∀o,w.cell? ⟨b,o,none⟩=zs[o]?)→Rep R w (.gv zs) (.pointer (some ⟨b,0,none⟩))
inductive eS (R:Reach) (w:World):List AV→List Value→Prop
 | nil:eS R w [] []
 | cons {x:AV} {y:Value} {xs:List AV} {ys:List Value}:y.oneCell'=true→Rep R w x y→eS R w xs ys→eS R w (x :: xs) (y :: ys)
inductive gT (R:Reach) (w:World):List AV→List Value→Prop
 | nil:gT R w [] []
 | cons {x:AV} {y:Value} {xs:List AV} {ys:List Value}:Rep R w x y→gT R w xs ys→gT R w (x :: xs) (y :: ys)
inductive kp (R:Reach) (w:World):List AV→Nat→Nat→Prop
 | nil (b off:Nat):kp R w [] b off
 | cons {x:AV} {y:Value} {xs:List AV} {b off:Nat}:R b off→w.cell? ⟨b,off,none⟩=some y→y.oneCell'=true→Rep R w x y→kp R w xs b (off+1)→kp R w (x :: xs) b off
inductive kY (R:Reach) (w:World):Nat→AV→Nat→Nat→Prop
 | ag {cs:List AV} {b off s:Nat}:s=cs.length→kp R w cs b off→kY R w s (.ag cs) b off
 | one {x:AV} {y:Value} {b off:Nat}:x.pC=false→R b off→w.cell? ⟨b,off,none⟩=some y→y.oneCell'=true→Rep R w x y→kY R w 1 x b off
inductive jf (R:Reach) (w:World):Nat→List AV→Nat→Nat→Prop
 | nil (s b off:Nat):jf R w s [] b off
 | cons {s:Nat} {x:AV} {xs:List AV} {b off:Nat}:kY R w s x b off→jf R w s xs b (off+s)→jf R w s (x :: xs) b off
end
def gz (R:Reach) (w:World) (R':Reach) (w':World):Prop:=∀b o,R b o→R' b o∧w'.cell? ⟨b,o,none⟩=w.cell? ⟨b,o,none⟩
theorem gz.refl (R:Reach) (w:World):gz R w R w:=fun _ _ h=>⟨h,rfl⟩
theorem gz.trans {R R' P3:Reach} {w w' Pt:World} (h:gz R w R' w') (k:gz R' w' P3 Pt):gz R w P3 Pt :=
 fun b o hr=>⟨(k b o (h b o hr).1).1,(k b o (h b o hr).1).2.trans (h b o hr).2⟩
section
variable {R R':Reach} {w w':World}
mutual
theorem Rep.mono (k:gz R w R' w'):∀{x:AV} {y:Value},Rep R w x y→Rep R' w' x y
 | _,_,.v x => .v x
 | _,_,.ag h => .ag (eS.mono k h)
 | _,_,.tu h => .tu (gT.mono k h)
 | _,_,.nil s => .nil s
 | _,_,.sl a b c h => .sl a b c (jf.mono k h)
 | _,_,.em s h => .em s h
 | _,_,.ro h => .ro (kY.mono k h)
 | _,_,.pt y => .pt y
 | _,_,.dead y => .dead y
 | _,_,.el i s o b => .el i s o b
 | _,_,.ab x => .ab x
 | _,_,.gv h1 h2 => .gv (fun o=>(k _ o (h1 o)).1) (fun o=>(k _ o (h1 o)).2.trans (h2 o))
theorem eS.mono (k:gz R w R' w'):∀{x:List AV} {y:List Value},eS R w x y→eS R' w' x y
 | _,_,.nil => .nil
 | _,_,.cons a h t => .cons a (Rep.mono k h) (eS.mono k t)
theorem gT.mono (k:gz R w R' w'):∀{x:List AV} {y:List Value},gT R w x y→gT R' w' x y
 | _,_,.nil => .nil
 | _,_,.cons h t => .cons (Rep.mono k h) (gT.mono k t)
theorem kp.mono (k:gz R w R' w'):∀{x:List AV} {b o:Nat},kp R w x b o→kp R' w' x b o
 | _,_,_,.nil b o => .nil b o
 | _,_,_,.cons r c a h t => .cons (k _ _ r).1 ((k _ _ r).2.trans c) a (Rep.mono k h) (kp.mono k t)
theorem kY.mono (k:gz R w R' w'):∀{s:Nat} {x:AV} {b o:Nat},kY R w s x b o→kY R' w' s x b o
 | _,_,_,_,.ag e h => .ag e (kp.mono k h)
 | _,_,_,_,.one n r c a h => .one n (k _ _ r).1 ((k _ _ r).2.trans c) a (Rep.mono k h)
theorem jf.mono (k:gz R w R' w'):∀{s:Nat} {x:List AV} {b o:Nat},jf R w s x b o→jf R' w' s x b o
 | _,_,_,_,.nil s b o => .nil s b o
 | _,_,_,_,.cons h t => .cons (kY.mono k h) (jf.mono k t)
end
end
section
variable {R:Reach} {w:World}
theorem eS.length:∀{xs:List AV} {ys:List Value},eS R w xs ys→xs.length=ys.length
 | _,_,.nil=>rfl
 | _,_,.cons _ _ t=>by simp [eS.length t]
theorem gT.length:∀{xs:List AV} {ys:List Value},gT R w xs ys→xs.length=ys.length
 | _,_,.nil=>rfl
 | _,_,.cons _ t=>by simp [gT.length t]
theorem eS.get:∀{xs:List AV} {ys:List Value} (_:eS R w xs ys) (i:Nat) (x:AV),xs[i]?=some x→∃y,ys[i]?=some y∧y.oneCell'=true∧Rep R w x y
 | _,_,.cons a h _,0,x,e=>by simp at e;subst e;exact ⟨_,rfl,a,h⟩
 | _,_,.cons _ _ t,i+1,x,e=>by simpa using eS.get t i x (by simpa using e)
theorem gT.get:∀{xs:List AV} {ys:List Value} (_:gT R w xs ys) (i:Nat) (x:AV),xs[i]?=some x→∃y,ys[i]?=some y∧Rep R w x y
 | _,_,.cons h _,0,x,e=>by simp at e;subst e;exact ⟨_,rfl,h⟩
 | _,_,.cons _ t,i+1,x,e=>by simpa using gT.get t i x (by simpa using e)
theorem eS.one:∀{xs:List AV} {ys:List Value},eS R w xs ys→∀y∈ys,y.oneCell'=true
 | _,_,.cons a _ t,y,hy=>by
  rcases bq.1 hy with rfl | h
  ·exact a
  ·exact eS.one t y h
theorem eS.append:∀{xs:List AV} {ys:List Value} {M3:List AV} {Pr:List Value},eS R w xs ys→eS R w M3 Pr→eS R w (xs++M3) (ys++Pr)
 | _,_,_,_,.nil,h=>h
 | _,_,_,_,.cons a h t,k => .cons a h (eS.append t k)
theorem eS.take:∀{xs:List AV} {ys:List Value} (n:Nat),eS R w xs ys→eS R w (xs.take n) (ys.take n)
 | _,_,0,_=>by simp;exact .nil
 | _,_,n+1,.nil=>by simp;exact .nil
 | _,_,n+1,.cons a h t=>by simp;exact .cons a h (eS.take n t)
theorem eS.drop:∀{xs:List AV} {ys:List Value} (n:Nat),eS R w xs ys→eS R w (xs.drop n) (ys.drop n)
 | _,_,0,h=>by simpa using h
 | _,_,n+1,.nil=>by simp;exact .nil
 | _,_,n+1,.cons a h t=>by simp;exact eS.drop n t
theorem kp.read:∀{xs:List AV} {b o:Nat},kp R w xs b o→∃ys,eS R w xs ys∧∀j y,ys[j]?=some y→w.cell? ⟨b,o+j,none⟩=some y
 | _,_,_,.nil _ _=>⟨[],.nil,by simp⟩
 | _,b,o,.cons (y:=y) r c a h t=>by
  obtain ⟨ys,hl,hc⟩:=kp.read t
  refine ⟨y :: ys,.cons a h hl,fun j z hz=>?_⟩
  cases j with
  | zero=>simp at hz;subst hz;exact c
  | succ j=>have:=hc j z (by simpa using hz);rw [show o+(j+1)=o+1+j by omega];exact this
theorem kp.write:∀{xs:List AV} {ys:List Value} {b o:Nat},eS R w xs ys→(∀j,j<ys.length→R b (o+j))→(∀j y,ys[j]?=some y→w.cell? ⟨b,o+j,none⟩=some y)→kp R w xs b o
 | _,_,b,o,.nil,_,_ => .nil b o
 | _,_,b,o,.cons a h t,hr,hc => .cons (hr 0 (by simp)) (hc 0 _ rfl) a h
   (kp.write t (fun j hj=>by have:=hr (j+1) (by simp;omega);rwa [show o+(j+1)=o+1+j by omega] at this)
    (fun j y hy=>by have:=hc (j+1) y (by simpa using hy);rwa [show o+(j+1)=o+1+j by omega] at this))
theorem kp.drop:∀{xs:List AV} {b o:Nat} (n:Nat),kp R w xs b o→kp R w (xs.drop n) b (o+n)
 | _,b,o,0,h=>by simpa using h
 | _,b,o,n+1,.nil _ _=>by simp;exact .nil _ _
 | _,b,o,n+1,.cons r c a h t=>by simp;have:=kp.drop n t;rwa [show o+1+n=o+(n+1) by omega] at this
theorem kp.take:∀{xs:List AV} {b o:Nat} (n:Nat),kp R w xs b o→kp R w (xs.take n) b o
 | _,b,o,0,h=>by simp;exact .nil _ _
 | _,b,o,n+1,.nil _ _=>by simp;exact .nil _ _
 | _,b,o,n+1,.cons r c a h t=>by simp;exact .cons r c a h (kp.take n t)
theorem kp.lt:∀{xs:List AV} {b o:Nat},kp R w xs b o→∀j,j<xs.length→R b (o+j)
 | _,b,o,.cons r _ _ _ t,0,_=>r
 | _,b,o,.cons _ _ _ _ t,j+1,hj=>by have:=kp.lt t j (by simpa using hj);rwa [show o+1+j=o+(j+1) by omega] at this
theorem jf.get:∀{s:Nat} {es:List AV} {b o:Nat} (_:jf R w s es b o) (i:Nat) (x:AV),es[i]?=some x→kY R w s x b (o+i * s)
 | s,_,b,o,.cons h _,0,x,e=>by simp at e;subst e;simpa using h
 | s,_,b,o,.cons _ t,i+1,x,e=>by
  have:=jf.get t i x (by simpa using e)
  rwa [show o+s+i * s=o+(i+1) * s by rw [Nat.succ_mul];omega] at this
theorem jf.drop:∀{s:Nat} {es:List AV} {b o:Nat} (n:Nat),jf R w s es b o→jf R w s (es.drop n) b (o+n * s)
 | s,_,b,o,0,h=>by simpa using h
 | s,_,b,o,n+1,.nil _ _ _=>by simp;exact .nil _ _ _
 | s,_,b,o,n+1,.cons h t=>by simp;have:=jf.drop n t;rwa [show o+s+n * s=o+(n+1) * s by rw [Nat.succ_mul];omega] at this
theorem jf.take:∀{s:Nat} {es:List AV} {b o:Nat} (n:Nat),jf R w s es b o→jf R w s (es.take n) b o
 | s,_,b,o,0,h=>by simp;exact .nil _ _ _
 | s,_,b,o,n+1,.nil _ _ _=>by simp;exact .nil _ _ _
 | s,_,b,o,n+1,.cons h t=>by simp;exact .cons h (jf.take n t)
theorem jf.append:∀{s:Nat} {es fs:List AV} {b o:Nat},jf R w s es b o→jf R w s fs b (o+es.length * s)→jf R w s (es++fs) b o
 | s,[],fs,b,o,_,h=>by simpa using h
 | s,e :: es,fs,b,o,.cons h t,k => .cons h (jf.append t (by rwa [show o+s+es.length * s=o+(e :: es).length * s by rw [aL,Nat.succ_mul];omega]))
theorem kY.read {s:Nat} {x:AV} {b o:Nat} (h:kY R w s x b o):∃ys:List Value,ys.length=s∧(∀j y,ys[j]?=some y→w.cell? ⟨b,o+j,none⟩=some y)∧eS R w x.cells ys:=by
 cases h with
 | ag e h=>obtain ⟨ys,hl,hc⟩:=h.read;exact ⟨ys,by rw [e,hl.length],hc,hl⟩
 | one n r c a h =>
  rename_i y
  refine ⟨[y],rfl,?_,?_⟩
  ·intro j z hz
   cases j with
   | zero=>simp at hz;subst hz;exact c
   | succ j=>simp at hz
  ·cases x <;> simp [AV.cells,AV.pC] at n ⊢ <;> exact .cons a h .nil
theorem kY.write {s:Nat} {x:AV} {ys:List Value} {b o:Nat} (hs:x.cells.length=s) (h:eS R w x.cells ys) (hr:∀j,j<s→R b (o+j)) (hc:∀j y,ys[j]?=some y→w.cell? ⟨b,o+j,none⟩=some y):kY R w s x b o:=by
 have hl:=h.length
 cases x with
 | ag cs=>exact .ag hs.symm (kp.write h (fun j hj=>hr j (by omega)) hc)
 | _ =>
  simp only [AV.cells,aK] at hs h hl
  subst hs
  cases h with
  | cons a h t=>exact .one rfl (hr 0 (by omega)) (hc 0 _ rfl) a h
theorem jf.cells:∀{s:Nat} {es:List AV} {b o:Nat},jf R w s es b o→∃ys:List Value,ys.length=es.length * s∧(∀j y,ys[j]?=some y→w.cell? ⟨b,o+j,none⟩=some y)∧eS R w (es.flatMap AV.cells) ys∧∀e∈es,e.cells.length=s
 | s,_,b,o,.nil _ _ _=>⟨[],by simp,by simp,.nil,by simp⟩
 | s,_,b,o,.cons (x:=x) (xs:=xs) h t=>by
  obtain ⟨ys,hl,hc,hr⟩:=h.read
  obtain ⟨zs,kl,kc,kr,ke⟩:=jf.cells t
  have hx:x.cells.length=s:=by rw [hr.length,hl]
  refine ⟨ys++zs,by simp [hl,kl,Nat.succ_mul];omega,?_,?_,?_⟩
  ·intro j y hy
   by_cases hj:j<ys.length
   ·exact hc j y (by rwa [List.getElem?_append_left hj] at hy)
   ·rw [aU (by omega)] at hy
    have:=kc _ y hy
    rwa [show o+s+(j - ys.length)=o+j by omega] at this
  ·simpa using hr.append kr
  ·intro e he
   rcases bq.1 he with rfl | h'
   ·exact hx
   ·exact ke e h'
theorem jf.write:∀{s:Nat} {es:List AV} {ys:List Value} {b o:Nat},(∀e∈es,e.cells.length=s)→eS R w (es.flatMap AV.cells) ys→(∀j,j<es.length * s→R b (o+j)) →
  (∀j y,ys[j]?=some y→w.cell? ⟨b,o+j,none⟩=some y)→jf R w s es b o
 | s,[],ys,b,o,_,_,_,_ => .nil _ _ _
 | s,e :: es,ys,b,o,he,h,hr,hc=>by
  have hs:=he e (by simp)
  have hl:=h.length
  simp only [List.flatMap_cons,aw] at hl
  have h1:eS R w e.cells (ys.take s):=by simpa [hs] using h.take s
  have h2:eS R w (es.flatMap AV.cells) (ys.drop s):=by have:=h.drop s;simpa [List.drop_append,hs,aJ] using this
  refine .cons (.write hs h1 (fun j hj=>hr j (by simp [Nat.succ_mul];omega)) (fun j y hy=>hc j y ?_))
   (jf.write (fun e' h'=>he e' (by simp [h'])) h2 (fun j hj=>?_) (fun j y hy=>?_))
  ·rw [aT] at hy;split at hy
   ·exact hy
   ·cases hy
  ·have:=hr (s+j) (by simp [Nat.succ_mul];omega);rwa [←Nat.add_assoc] at this
  ·have:=hc (s+j) y (by simpa using hy);rwa [←Nat.add_assoc] at this
end
end Go.Eng
namespace Go.Eng
inductive Gh where
 | no
 | ptr (m o:Nat)
 | fV (k s:Nat)
 | cl (ts:List (Nat × (Nat × Nat)))
 | y4 (ts:List (Nat × (Nat × Nat))) (p:Option (Nat × Nat))
 | live (s:Nat)
 | used
 | pv (s:Nat)
 | nO (d s:Nat)
 | pe (k:Nat)
 | pm (m:Nat)
 | pc (s:Nat)
 deriving DecidableEq,Inhabited
def lk (k:Nat):Nat:=1000000+k
theorem iu (k:Nat):1000000≤lk k:=by unfold lk;omega
theorem j7 {j k:Nat} (h:lk j=lk k):j=k:=by unfold lk at h;omega
attribute [irreducible] lk
inductive eI where
 | s (t:Nat)
 | c (x:AV)
 | g (n:Nat)
 deriving Inhabited
structure CS where
 n:Nat
 ref:Option (Nat × Nat)
 kF:List (Nat × (Nat × Nat))
 iI:List (Nat × (Nat × Nat))
 cZ:Nat
 own:List (Nat × (Nat × Nat))
 new:Option (Nat × Nat)
 fx:List (Nat × (Nat × Nat))
def CS.plain (n cZ:Nat):CS:=⟨n,none,[],[],cZ,[],none,[]⟩
structure dw where
 ref:Option Nat:=none
 fy:List (Nat × Nat):=[]
 cZ:Nat:=1
 own:List (Nat × Nat):=[]
 new:Option Nat:=none
 fx:List (Nat × Nat):=[]
 ps:Option (Nat × Nat):=none
 deriving DecidableEq,Inhabited
def dw.plain (g:dw):Bool:=g.ref.isNone&&g.fy.isEmpty&&g.own.isEmpty&&g.new.isNone&&g.fx.isEmpty&&g.ps.isNone
def jr (l:List (Nat × (Nat × Nat))):List (Nat × Nat):=l.map fun t=>(t.1,t.2.2)
def CS.fits (c:CS) (g:dw):Bool :=
 decide (c.ref.map (·.1)=g.ref∧jr c.kF=g.fy∧jr c.iI=g.fy∧c.cZ=g.cZ∧jr c.own=g.own∧c.new.map (·.1)=g.new∧jr c.fx=g.fx ∧
  ((c.kF++c.iI++c.own++c.fx).map (·.2.1)).Nodup∧(c.ref=none→c.kF=[])∧(c.new=none→c.fx=[])∧(c.ref=none∨c.new=none)∧(∀q∈c.new.toList,q.1<c.cZ∧q.2<999999)∧g.ps=none)
def CS.mh (c:CS):List Nat:=(c.kF++c.iI++c.own++c.fx).map fun t=>lk t.2.1
def CS.jL (c:CS):List Nat:=(c.new.map (·.2)).toList++(c.ref.map (·.2)).toList
inductive K where
 | mv
 | pick
 | bin (o:BinOp)
 | be (neg:Bool)
 | un (o:UnOp)
 | ci (k:IntKind)
 | cs
 | sb
 | FE (k:Nat)
 | bs
 | len
 | sC
 | mn
 | mx
 | ix (s:Nat)
 | si
 | ai (n s:Nat) (agg:Bool)
 | fe (o n:Nat) (agg:Bool)
 | sc (s:Nat) (lo hi:Bool)
 | ss (lo hi:Bool)
 | bl (s n:Nat)
 | blt (s n k:Nat)
 | bd (z:List AV) (pl:List (Nat × Nat))
 | al (m:Nat) (z:List AV) (ts:List (Nat × (Nat × Nat)))
 | bx (m:Nat)
 | ld (m o n:Nat) (agg:Bool)
 | st (m o n:Nat)
 | lr (n:Nat) (agg:Bool)
 | fa (m o d:Nat)
 | fr (o n:Nat) (agg:Bool)
 | nc (m o:Nat)
 | FY
 | ex (i:Nat)
 | ap (k d s nu:Nat)
 | DV (k d nu:Nat)
 | an (d s nu:Nat)
 | GF (d nu:Nat)
 | mk (d s nu:Nat) (z:AV)
 | nl (d s:Nat)
 | call (f:Nat) (c:CS)
 | FJ (k:Nat)
 | FL (k:Nat)
 | FN (k s:Nat)
 | G5 (k o:Nat)
 | FM (k s n:Nat) (agg:Bool)
 | FI (k s n:Nat)
 | FO (k s:Nat)
 | jQ (f n cZ i k s:Nat)
 | mI (f n cZ i s:Nat)
 | A6 (k d s nu:Nat)
 | FK (k:Nat)
 | Fs (k d q s nu:Nat)
 | la (m n s:Nat)
 | ll (m s:Nat)
 | Kt
 | Jj
 | FX (b:Bool)
 | lC (f n cZ i m:Nat)
 | yH (m:Nat) (ts:List (Nat × (Nat × Nat)))
 | qX (m o n:Nat) (ts:List (Nat × (Nat × Nat)))
structure oU where
 k:K
 rs:List eI
 ds:List Nat
 gd:Option (Nat × Bool):=none
inductive M where
 | skip
 | fD (ops:List oU)
 | seq (a b:M)
 | cond (x:eI) (G:List (Nat × Gh)) (a b:M)
 | block (id:Nat) (G:List (Nat × Gh)) (b:M)
 | loop (cq:List Nat) (G:List (Nat × Gh)) (b:M)
 | exit (id:Nat)
 | ret
 | BB (b:M)
 | BA (b:M)
 | A7 (l:Nat) (cq:List Nat) (G:List (Nat × Gh)) (r b:M)
def gid (l:Nat):Nat:=1000000+l
structure FS where
 G:List AV→List AV→Prop
 sg:dw
abbrev Sg:=Nat→AV
abbrev Ga:=Nat→Gh
def dP {X:Type} (σ:Nat→X) (t:Nat) (x:X):Nat→X:=fun k=>if k=t then x else σ k
def cY {X:Type} (σ:Nat→X):List Nat→List X→Nat→X
 | t :: ts,x :: xs=>dP (cY σ ts xs) t x
 | _,_=>σ
structure Env where
 fs:Nat→FS
 gl:Nat→AV
def eI.ev (E:Env) (σ:Sg):eI→AV
 | .s t=>σ t
 | .c x=>x
 | .g n=>E.gl n
def eI.gh (γ:Ga):eI→Gh
 | .s t=>γ t
 | _ => .no
def eF (o:BinOp) (k:IntKind) (x y:Int):Int :=
 let a:=BitVec.ofInt k.bits x
 let b:=BitVec.ofInt k.bits y
 match o with
 | .and=>k.wrap (a &&& b).toNat
 | .or=>k.wrap (a ||| b).toNat
 | .xor=>k.wrap (a ^^^ b).toNat
 | _=>k.wrap (a &&& ~~~b).toNat
def kD:BinOp→Value→Value→Option Value
 | .shl,.int k a,.int _ b=>if b<0 then none else some (.int k (k.wrap (a * 2 ^ (min b.toNat k.bits))))
 | .shr,.int k a,.int _ b=>if b<0 then none else some (.int k (a.fdiv (2 ^ (min b.toNat k.bits))))
 | .add,.int k a,.int k' b=>if k=k' then some (.int k (k.wrap (a+b))) else none
 | .sub,.int k a,.int k' b=>if k=k' then some (.int k (k.wrap (a - b))) else none
 | .mul,.int k a,.int k' b=>if k=k' then some (.int k (k.wrap (a * b))) else none
 | .quo,.int k a,.int k' b=>if k=k' then (if b=0 then none else some (.int k (k.wrap (a.tdiv b)))) else none
 | .rem,.int k a,.int k' b=>if k=k' then (if b=0 then none else some (.int k (a.tmod b))) else none
 | .and,.int k a,.int k' b=>if k=k' then some (.int k (eF .and k a b)) else none
 | .or,.int k a,.int k' b=>if k=k' then some (.int k (eF .or k a b)) else none
 | .xor,.int k a,.int k' b=>if k=k' then some (.int k (eF .xor k a b)) else none
 | .andNot,.int k a,.int k' b=>if k=k' then some (.int k (eF .andNot k a b)) else none
 | .eql,.int k a,.int k' b=>if k=k' then some (.bool (a == b)) else none
 | .neq,.int k a,.int k' b=>if k=k' then some (.bool (a != b)) else none
 | .lss,.int k a,.int k' b=>if k=k' then some (.bool (decide (a<b))) else none
 | .leq,.int k a,.int k' b=>if k=k' then some (.bool (decide (a≤b))) else none
 | .gtr,.int k a,.int k' b=>if k=k' then some (.bool (decide (a > b))) else none
 | .geq,.int k a,.int k' b=>if k=k' then some (.bool (decide (a ≥ b))) else none
 | .add,.string a,.string b=>if ((a.size+b.size:Nat):Int) > IntKind.i64.max then none else some (.string (a++b))
 | .eql,.string a,.string b=>some (.bool (a.toList == b.toList))
 | .neq,.string a,.string b=>some (.bool (!(a.toList == b.toList)))
 | _,_,_=>none
def JB:UnOp→Value→Option Value
 | .neg,.int k n=>some (.int k (k.wrap (0 - n)))
 | .xor,.int k n=>some (.int k (eF .xor k (if k.signed then -1 else k.max) n))
 | .not,.bool b=>some (.bool !b)
 | _,_=>none
def fT (b:UInt8):AV := .v (.int .u8 b.toNat)
def AV.plain:AV→Bool
 | .v x=>x.oneCell'
 | .ag _ | .sl _ _ | .ro _=>true
 | _=>false
def gW (cs:List AV) (o n:Nat) (agg:Bool):Option AV :=
 if agg then (if o+n≤cs.length then some (.ag ((cs.drop o).take n)) else none) else cs[o]?
def px (e:AV) (o n:Nat) (agg:Bool):Option AV :=
 match e with
 | .ag cs=>gW cs o n agg
 | x=>if o=0∧n=1∧agg=false then some x else none
def gV (cs:List AV) (o:Nat) (xs:List AV):List AV:=cs.take o++xs++cs.drop (o+xs.length)
def sw (e:AV) (o:Nat) (x:AV):Option AV :=
 match e with
 | .ag cs=>if o+x.cells.length≤cs.length then some (.ag (gV cs o x.cells)) else none
 | _=>if o=0∧x.pC=false then some x else none
def mo (z:List AV):List (Nat × Nat)→List AV→Option (List AV)
 | [],[]=>some z
 | (o,n) :: pl,x :: xs=>if x.plain=true∧x.cells.length=n∧o+n≤z.length then mo (gV z o x.cells) pl xs else none
 | _,_=>none
def Cg (a b:Int):Int:=if b<a then b else a
def pX (a b:Int):Int:=if a<b then b else a
def CS.ins (c:CS) (vs:List AV):List AV :=
 match c.ref with
 | some (i,_)=>(vs.take c.n).set i (vs.getD (c.n+(c.new.map (·.2)).toList.length) .dead)
 | none=>vs.take c.n
def CS.main (c:CS) (outs:List AV):AV :=
 if c.cZ=1 then (if c.new.isSome then .pt else outs.headD .dead)
 else .tu ((outs.take c.cZ).mapIdx fun i x=>if c.new.any (·.1 == i) then .pt else x)
def kV (cs:List AV):List (Nat × (Nat × Nat))→List AV
 | []=>cs
 | t :: ts=>(kV cs ts).set t.1 (.sl t.2.2 [])
abbrev AV.nil:AV := .v (.slice none 0 0)
def CS.dg (c:CS):Gh:=if c.cZ=1 then (match c.new,c.own with | some (_,m),_=>Gh.ptr m 0 | none,[(0,k,s)] => .fV k s | none,_ => .no) else .y4 c.own c.new
section
variable (E:Env)
def fW (k:K) (vs ws:List AV):Prop :=
 match k with
 | .mv=>match vs with
  | [x]=>ws=[x]
  | _=>False
 | .pick=>match vs with
  | [.v (.bool b),x,y]=>ws=[if b then x else y]
  | _=>False
 | .bin o=>match vs with
  | [.v a,.v b]=>∃x,kD o a b=some x∧ws=[.v x]
  | _=>False
 | .be neg=>match vs with
  | [.v (.bool a),.v (.bool b)]=>ws=[.v (.bool (if neg then !(a == b) else a == b))]
  | _=>False
 | .un o=>match vs with
  | [.v a]=>∃x,JB o a=some x∧ws=[.v x]
  | _=>False
 | .ci k=>match vs with
  | [.v (.int _ n)]=>ws=[.v (.int k (k.wrap n))]
  | _=>False
 | .cs=>match vs with
  | [.v (.string b)]=>ws=[.v (.string b)]
  | _=>False
 | .sb=>match vs with
  | [.v (.string b)]=>b.data.toList.length≤maxLen∧ws=[.sl 1 (b.data.toList.map fT)]
  | _=>False
 | .FE _=>match vs with
  | [.v (.string b),_]=>b.data.toList.length≤maxLen∧ws=[.sl 1 (b.data.toList.map fT),.dead]
  | _=>False
 | .bs=>match vs with
  | [.sl s es]=>∃l:List UInt8,s=1∧es=l.map fT∧ws=[.v (.string ⟨⟨l⟩⟩)]
  | _=>False
 | .len=>match vs with
  | [.sl _ es]=>ws=[.v (.int .i64 es.length)]
  | _=>False
 | .sC=>match vs with
  | [.v (.string b)]=>ws=[.v (.int .i64 b.data.toList.length)]
  | _=>False
 | .mn=>match vs with
  | [.v (.int k a),.v (.int _ b)]=>ws=[.v (.int k (Cg a b))]
  | _=>False
 | .mx=>match vs with
  | [.v (.int k a),.v (.int _ b)]=>ws=[.v (.int k (pX a b))]
  | _=>False
 | .ix s=>match vs with
  | [.sl s' es,.v (.int _ i)]=>∃x,s=s'∧0≤i∧es[i.toNat]?=some x∧ws=[.ro x]
  | _=>False
 | .si=>match vs with
  | [.v (.string b),.v (.int _ i)]=>∃x,0≤i∧b.data.toList[i.toNat]?=some x∧ws=[fT x]
  | _=>False
 | .ai n s agg=>match vs with
  | [.ag cs,.v (.int _ i)]=>∃x,0≤i∧i<n∧gW cs (i.toNat * s) s agg=some x∧ws=[x]
  | _=>False
 | .fe o n agg=>match vs with
  | [.ag cs]=>∃x,gW cs o n agg=some x∧ws=[x]
  | _=>False
 | .sc s true true=>match vs with
  | [.sl s' es,.v (.int _ l),.v (.int _ h)]=>s=s'∧0≤l∧l≤h∧h≤es.length∧ws=[.sl s ((es.take h.toNat).drop l.toNat)]
  | _=>False
 | .sc s true false=>match vs with
  | [.sl s' es,.v (.int _ l)]=>s=s'∧0≤l∧l≤es.length∧ws=[.sl s (es.drop l.toNat)]
  | _=>False
 | .sc s false true=>match vs with
  | [.sl s' es,.v (.int _ h)]=>s=s'∧0≤h∧h≤es.length∧ws=[.sl s (es.take h.toNat)]
  | _=>False
 | .sc s false false=>match vs with
  | [.sl s' es]=>s=s'∧ws=[.sl s es]
  | _=>False
 | .ss true true=>match vs with
  | [.v (.string b),.v (.int _ l),.v (.int _ h)]=>0≤l∧l≤h∧h≤b.data.toList.length∧ws=[.v (.string ⟨⟨(b.data.toList.take h.toNat).drop l.toNat⟩⟩)]
  | _=>False
 | .ss true false=>match vs with
  | [.v (.string b),.v (.int _ l)]=>0≤l∧l≤b.data.toList.length∧ws=[.v (.string ⟨⟨b.data.toList.drop l.toNat⟩⟩)]
  | _=>False
 | .ss false true=>match vs with
  | [.v (.string b),.v (.int _ h)]=>0≤h∧h≤b.data.toList.length∧ws=[.v (.string ⟨⟨b.data.toList.take h.toNat⟩⟩)]
  | _=>False
 | .ss false false=>match vs with
  | [.v (.string b)]=>ws=[.v (.string b)]
  | _=>False
 | .bl s n=>vs.length=n∧(∀x∈vs,x.plain=true∧x.cells.length=s)∧ws=[.sl s vs]
 | .blt s n _=>vs.length=n+1∧(∀x∈vs.take n,x.plain=true∧x.cells.length=s)∧ws=[.sl s (vs.take n),.dead]
 | .bd z pl=>∃cs,mo z pl vs=some cs∧ws=[.ag cs]
 | .al _ z ts=>ws = .pt :: .ag z :: ts.map fun _ => .dead
 | .bx _=>match vs with
  | [x,_]=>x.plain=true∧ws=[.pt,.ag x.cells]
  | _=>False
 | .ld _ o n agg=>match vs with
  | [.pt,.ag cs]=>∃x,gW cs o n agg=some x∧ws=[x]
  | _=>False
 | .st _ o n=>match vs with
  | [.pt,.ag cs,x]=>x.plain=true∧x.cells.length=n∧o+n≤cs.length∧ws=[.ag (gV cs o x.cells)]
  | _=>False
 | .lr n agg=>match vs with
  | [.ro x]=>x.pC=agg∧x.cells.length=n∧ws=[x]
  | _=>False
 | .fa _ _ _=>match vs with
  | [.pt]=>ws=[.pt]
  | _=>False
 | .fr o n agg=>match vs with
  | [.ro (.ag cs)]=>∃x,gW cs o n agg=some x∧ws=[.ro x]
  | _=>False
 | .nc _ _=>match vs with
  | [.pt]=>ws=[.pt]
  | _=>False
 | .FY=>match vs with
  | [.ro x]=>ws=[.ro x]
  | _=>False
 | .ex i=>match vs with
  | [.tu vs]=>∃x,vs[i]?=some x∧ws=[x]
  | _=>False
 | .ap _ _ s nu=>match vs with
  | [.sl s' es,.sl pr fs,_,_]=>s'=s∧pr=s∧(∀x∈fs,x.cells.length=s)∧es.length+fs.length≤maxLen∧(es.length+fs.length) * nu≤140737488355328∧ws=[.sl s (es++fs),.dead,.dead]
  | _=>False
 | .DV _ _ nu=>match vs with
  | [.sl s' es,.v (.string b),_,_]=>s'=1∧es.length+b.data.toList.length≤maxLen∧(es.length+b.data.toList.length) * nu≤140737488355328∧ws=[.sl 1 (es++b.data.toList.map fT),.dead,.dead]
  | _=>False
 | .an _ s nu=>match vs with
  | [.sl pr fs,_]=>pr=s∧(∀x∈fs,x.cells.length=s)∧fs.length≤maxLen∧fs.length * nu≤140737488355328∧ws=[.sl s fs,.dead]
  | _=>False
 | .GF _ nu=>match vs with
  | [.v (.string b),_]=>b.data.toList.length≤maxLen∧b.data.toList.length * nu≤140737488355328∧ws=[.sl 1 (b.data.toList.map fT),.dead]
  | _=>False
 | .mk _ s nu z=>match vs with
  | [.v (.int .i64 l),.v (.int .i64 c),_]=>z.plain=true∧z.cells.length=s∧0≤l∧l≤c∧c * nu≤140737488355328∧c≤maxLen∧ws=[.sl s (List.replicate l.toNat z),.dead]
  | _=>False
 | .nl _ s=>match vs with
  | [_]=>ws=[.sl s [],.dead]
  | _=>False
 | .FJ _=>match vs with
  | [.v (.string b),_]=>b.data.toList.length≤maxLen∧ws=[.pt,.sl 1 (b.data.toList.map fT)]
  | _=>False
 | .FL _=>match vs with
  | [.pt,.sl _ es]=>ws=[.v (.int .i64 es.length)]
  | _=>False
 | .FN _ s=>match vs with
  | [.pt,.v (.int _ i),.sl s' es]=>s'=s∧0≤i∧i.toNat<es.length∧ws=[.el i.toNat s 0]
  | _=>False
 | .G5 _ o=>match vs with
  | [.el i s o']=>ws=[.el i s (o'+o)]
  | _=>False
 | .FM _ s n agg=>match vs with
  | [.el i s' o,.sl pr es]=>∃e x,s'=s∧pr=s∧es[i]?=some e∧px e o n agg=some x∧ws=[x]
  | _=>False
 | .FI _ s n=>match vs with
  | [.el i s' o,.sl pr es,x]=>∃e e',s'=s∧pr=s∧es[i]?=some e∧x.plain=true∧x.cells.length=n∧sw e o x=some e'∧ws=[.sl s (es.set i e')]
  | _=>False
 | .FO _ s=>match vs with
  | [.pt,.sl s' es]=>s'=s∧ws=[.sl s es,.sl s es,.dead]
  | _=>False
 | .jQ f n cZ i _ s=>∃es outs,vs[n]?=some (.sl s es)∧vs[i]?=some .pt∧(E.fs f).G ((vs.take n).set i (.sl s es)) outs∧outs.length=cZ∧ws=[if cZ=1 then outs.headD .dead else .tu outs]
 | .mI f _ cZ i s=>∃outs,vs[i]?=some (.sl s [])∧(E.fs f).G vs outs∧outs.length=cZ∧ws=[if cZ=1 then outs.headD .dead else .tu outs]
 | .A6 _ _ s nu=>match vs with
  | [.pt,.sl pr fs,.sl s' es,_]=>s'=s∧pr=s∧es.length+fs.length≤maxLen∧(es.length+fs.length) * nu≤140737488355328∧ws=[.pt,.sl s es,.sl s (es++fs)]
  | _=>False
 | .FK _=>match vs with
  | [.pt,.sl _ []]=>ws=[.ab]
  | [.pt,.sl _ (_ :: _)]=>ws=[.v (.bool false)]
  | _=>False
 | .Fs _ _ _ s nu=>match vs with
  | [.sl s' es,.pt,_,_,.sl pr fs]=>s'=s∧pr=s∧es.length+fs.length≤maxLen∧(es.length+fs.length) * nu≤140737488355328∧ws=[.sl s (es++fs),.dead,.dead]
  | _=>False
 | .la _ n s=>match vs with
  | [.pt,.v (.int _ i),.ag _]=>0≤i∧i<n∧ws=[.el i.toNat s 0]
  | _=>False
 | .ll _ s=>match vs with
  | [.el i s' o,.ag cs]=>∃x,s'=s∧gW cs (i * s+o) 1 false=some x∧ws=[x]
  | _=>False
 | .Kt=>match vs with
  | [.sl _ []]=>ws=[.ab]
  | [.sl _ (_ :: _)]=>ws=[.v (.bool false)]
  | _=>False
 | .Jj=>match vs with
  | [.v (.string b),.v (.int .u8 c)]=>ws=[.v (.int .i64 (Lib.indexByte b.data.toList c.toNat.toUInt8))]
  | _=>False
 | .FX _=>False
 | .lC f n cZ i _=>∃cs outs,vs[n]?=some (.ag cs)∧vs[i]?=some .pt∧(E.fs f).G ((vs.take n).set i (.ro (.ag cs))) outs∧outs.length=cZ∧(∀x∈outs,∃y,x = .v y)∧ws=[if cZ=1 then outs.headD .dead else .tu outs]
 | .yH _ ts=>match vs with
  | x :: _=>x.plain=true∧(∀t∈ts,x.cells[t.1]?=some .nil)∧ws = .pt :: .ag (kV x.cells ts) :: ts.map fun _ => .dead
  | _=>False
 | .qX _ o n ts=>match vs with
  | .pt :: .ag cs :: x :: _=>x.plain=true∧x.cells.length=n∧o+n≤cs.length∧(∀t∈ts,(gV cs o x.cells)[t.1]?=some .nil)∧ws = .ag (kV (gV cs o x.cells) ts) :: ts.map fun _ => .dead
  | _=>False
 | .call f c=>(match c.ref with | some (i,_)=>vs[i]?=some .pt | none=>True)∧∃outs,(E.fs f).G (c.ins vs) outs∧outs.length=c.cZ+c.jL.length∧ws=c.main outs :: (outs.drop c.cZ++c.mh.map fun _ => .dead)
end
def Gh.strip:Gh→Gh
 | .cl _ | .live _ | .used | .pv _ | .nO _ _ | .pc _ => .no
 | g=>g
def Gh.comp (i:Nat):Gh→Gh
 | .y4 ts p=>match ts.find? (fun t=>t.1 == i) with
  | some (_,k,s) => .fV k s
  | none=>match p with
   | some (j,m)=>if j=i then .ptr m 0 else .no
   | none => .no
 | _ => .no
def ft (k : K) (gs : List Gh) : Option (List Gh) :=
  match k with
  | .mv => match gs with
    | [g] => some [g.strip]
    | _ => none
  | .ex i => match gs with
    | [g] => some [g.comp i]
    | _ => none
  | .FE k => match gs with
    | [_, .no] => some [.fV k 1, .live 1]
    | _ => none
  | .blt s n k => if gs.drop n = [.no] then some [.fV k s, .live s] else none
  | .al m _ ts => if gs.length = 1 + ts.length ∧ gs.all (· = .no) ∧ (ts.map (·.2.1)).Nodup then some (.ptr m 0 :: .cl ts :: ts.map fun t => .live t.2.2) else none
  | .bx m => match gs with
    | [_, .no] => some [.ptr m 0, .cl []]
    | _ => none
  | .lC _ n _ i m => match gs[n]? with
    | some (.cl _) => if gs[i]? = some (.ptr m 0) then some [.no] else none
    | _ => none
  | .FX b => some (if b then [.no] else [])
  | .yH m ts => match gs with
    | _ :: rest => if rest.length = 1 + ts.length ∧ rest.all (· = .no) ∧ (ts.map (·.2.1)).Nodup then some (.ptr m 0 :: .cl ts :: ts.map fun t => .live t.2.2) else none
    | _ => none
  | .qX m o n ts => match gs with
    | .ptr m' o' :: .cl us :: _ :: rest => if m = m' ∧ o = o' ∧ rest.length = ts.length ∧ rest.all (· = .no) ∧ (ts.map (·.2.1)).Nodup then some (.cl (us.filter (fun t => t.1 < o || o + n ≤ t.1) ++ ts) :: ts.map fun t => .live t.2.2) else none
    | _ => none
  | .ld m o _ agg => match gs with
    | [.ptr m' o', .cl ts] => if m = m' ∧ o = o' then some [if agg then .no else match ts.find? (fun t => t.1 == o) with | some (_, k, s) => .fV k s | none => .no] else none
    | _ => none
  | .st m o n => match gs with
    | [.ptr m' o', .cl ts, g] => if m = m' ∧ o = o' then some [.cl (ts.filter (fun t => t.1 < o || o + n ≤ t.1) ++ match g with | .fV k s => if n = 1 then [(o, k, s)] else [] | _ => [])] else none
    | _ => none
  | .fa m o d => match gs with
    | [.ptr m' o'] => if m = m' ∧ o = o' then some [.ptr m (o + d)] else none
    | _ => none
  | .nc m o => match gs with
    | [.ptr m' o'] => if m = m' ∧ o = o' then some [.ptr m o] else none
    | _ => none
  | .ap k d s _ => match gs with
    | [.fV k' s', _, .live pr, .no] => if k = k' ∧ s = s' ∧ s = pr ∧ k ≠ d then some [.fV d s, .used, .live s] else none
    | _ => none
  | .DV k d _ => match gs with
    | [.fV k' s', _, .live pr, .no] => if k = k' ∧ 1 = s' ∧ 1 = pr ∧ k ≠ d then some [.fV d 1, .used, .live 1] else none
    | _ => none
  | .an d s _ => match gs with
    | [_, .no] => some [.fV d s, .live s]
    | _ => none
  | .GF d _ => match gs with
    | [_, .no] => some [.fV d 1, .live 1]
    | _ => none
  | .mk d s _ _ => match gs with
    | [_, _, .no] => some [.fV d s, .live s]
    | _ => none
  | .nl d s => match gs with
    | [.no] => some [.fV d s, .live s]
    | _ => none
  | .FJ k => match gs with
    | [_, .no] => some [.fV k 1, .pv 1]
    | _ => none
  | .FL k => match gs with
    | [.fV k' _, .pv _] => if k' = k then some [.no] else none
    | _ => none
  | .FN k s => match gs with
    | [.fV k' _, _, .pv s'] => if k' = k ∧ s' = s then some [.pe k] else none
    | _ => none
  | .G5 k _ => match gs with
    | [.pe k'] => if k' = k then some [.pe k] else none
    | _ => none
  | .FM k s _ _ => match gs with
    | [.pe k', .pv s'] => if k' = k ∧ s' = s then some [.no] else none
    | _ => none
  | .FI k s _ => match gs with
    | [.pe k', .pv s', _] => if k' = k ∧ s' = s then some [.pv s] else none
    | _ => none
  | .FO k s => match gs with
    | [.fV k' _, .pv s'] => if k' = k ∧ s' = s then some [.fV k s, .fV k s, .live s] else none
    | _ => none
  | .jQ _ n _ i k s => if gs[i]? = some (.fV k s) ∧ (gs[n]? = some (.pv s) ∨ gs[n]? = some (.pc s)) then some [.no] else none
  | .A6 k d s _ => match gs with
    | [.fV k' s', _, .pv pr, .no] => if k' = k ∧ s' = s ∧ pr = s ∧ k ≠ d then some [.fV d s, .nO (lk d) s, .pc s] else none
    | _ => none
  | .FK k => match gs with
    | [.fV k' _, .pv _] => if k' = k then some [.no] else none
    | _ => none
  | .Fs k d q s _ => match gs with
    | [.fV k' s', .fV q' s1, .live pr, .no, .pv s2] => if k = k' ∧ s = s' ∧ s = pr ∧ k ≠ d ∧ q' = q ∧ s1 = s ∧ s2 = s then some [.fV d s, .used, .live s] else none
    | _ => none
  | .la m _ s => match gs with
    | [.ptr m' o, _, .cl _] => if m' = m ∧ o = 0 ∧ 0 < s then some [.pm m] else none
    | _ => none
  | .ll m _ => match gs with
    | [.pm m', .cl ts] => if m' = m ∧ ts = [] then some [.no] else none
    | _ => none
  | .call _ c =>
    let rest := gs.drop c.n
    let nm := rest.take (c.new.map (·.2)).toList.length
    let rm := (rest.drop nm.length).take (c.ref.map (·.2)).toList.length
    let ls := rest.drop (nm.length + rm.length)
    if nm.all (· = .no) ∧
       (match c.ref, rm with
        | some (i, m), [.cl ts] => decide (gs[i]? = some (.ptr m 0) ∧ i < c.n ∧ ∀ t ∈ c.kF, t ∈ ts)
        | none, [] => true
        | _, _ => false) = true ∧
       ls = c.kF.map (fun t => Gh.live t.2.2) ++ (c.iI ++ c.own ++ c.fx).map fun _ => Gh.no
    then some (c.dg :: (c.new.toList.map (fun _ => .cl c.fx) ++ c.ref.toList.map (fun _ => .cl c.iI) ++ c.kF.map (fun _ => .used) ++ (c.iI ++ c.own ++ c.fx).map fun t => .live t.2.2)) else none
  | _ => some [.no]
end Go.Eng
namespace Go.Eng
open Go.RowKit
structure kZ where
 R:Reach
 β:Nat→Nat
 τ:Nat→Value
def jU (D:kZ):Gh→Value→Prop
 | .ptr m o,x=>x = .pointer (some ⟨D.β m,o,none⟩)
 | .fV k _,x=>x=D.τ (lk k)∧x.oneCell'=true
 | .pe k,x=>∃g n cap o,D.τ (lk k) = .slice (some ⟨g,0,none⟩) n cap∧x = .pointer (some ⟨g,o,none⟩)
 | .pm m,x=>∃o,x = .pointer (some ⟨D.β m,o,none⟩)
 | .y4 ts p,x=>∃ys:List Value,x = .tuple ⟨ys⟩∧(∀t∈ts,ys[t.1]?=some (D.τ (lk t.2.1))∧(D.τ (lk t.2.1)).oneCell'=true)∧(∀q,p=some q→ys[q.1]?=some (.pointer (some ⟨D.β q.2,0,none⟩)))
 | _,_=>True
abbrev AV.sk:AV := .tu []
def lM (D:kZ) (w:World) (s:AV) (g:Gh) (x:Value):Prop:=s = .dead∨(Rep D.R w s x∧(s ≠ .sk→jU D g x))
def gD (R:Reach) (w:World) (x:Value) (s:Nat):Prop :=
 x = .slice none 0 0∨∃g n cap cur e fz,x = .slice (some ⟨g,0,none⟩) n cap∧w.heap[g]?=some (.cells cur e fz)∧(∀o,o<cur.size→¬(fz.1≤o∧o<fz.2))∧cur.size=cap * s∧n≤cap∧cap≤maxLen∧∀o,n * s≤o→¬R g o
def iy (R:Reach) (w:World) (v:Value) (s:Nat) (x:AV):Prop :=
 (∀g,v.ownBlock=some g→∀o,¬R g o)∧(x = .dead∨∃es,x = .sl s es∧(∀e∈es,e.cells.length=s) ∧
  ((es=[]∧v = .slice none 0 0)∨∃g cap cur e fz,v = .slice (some ⟨g,0,none⟩) es.length cap∧w.heap[g]?=some (.cells cur e fz)∧eS R w (es.flatMap AV.cells) (cur.toList.take (es.length * s))))
def jG (R:Reach) (w:World) (x:AV) (b:Nat) (cs:List Value):Prop :=
 ∃elem,w.heap[b]?=some (.cells ⟨cs⟩ elem (0,0))∧(x = .dead∨∃A4,x = .ag A4∧eS R w A4 (cs.take A4.length))∧∀o,¬R b o
structure Ext (w0:World) (R0:Reach) (io:Nat→Prop) (w:World) (R:Reach):Prop where
 os:w.os=w0.os
 tape:w.tape=w0.tape
 output:w.output=w0.output
 size:w0.heap.size≤w.heap.size
 heap:∀b,b<w0.heap.size→¬io b→w.heap[b]?=w0.heap[b]?
 cq:gz R0 w0 R w
 qG:∀b o,R b o→R0 b o∨w0.heap.size≤b∨io b
def gw (D:kZ) (γ:Ga) (key:Nat):Option Nat :=
 match γ key with
 | .cl _=>some (D.β key)
 | .live _=>(D.τ key).ownBlock
 | .pv _=>(D.τ key).ownBlock
 | .nO _ _=>(D.τ key).ownBlock
 | .pc _=>(D.τ key).ownBlock
 | _=>none
structure Ctx where
 P:Program
 E:Env
 nt:Nat
 w0:World
 R0:Reach
 io:Nat→Prop
 fix:Option Nat
 O2:Option Value
def Ctx.mf (C:Ctx) (b:Nat):Prop:=C.io b∨C.w0.heap.size≤b
def Gh.gq:Gh→Bool | .cl _=>true | _=>false
def Gh.fL:Gh→Bool | .live _=>true | .used=>true | .pv _=>true | .nO _ _=>true | .pc _=>true | _=>false
def fZ (γ:Ga):Gh→Prop
 | .ptr m _=>(γ m).gq=true
 | .fV k _=>(γ (lk k)).fL=true
 | .cl ts=>∀t∈ts,(γ (lk t.2.1)).fL=true
 | .pe k=>(γ (lk k)).fL=true
 | .pm m=>(γ m).gq=true
 | .nO d _=>γ d = .used∨∃s,γ d = .pc s
 | .y4 ts p=>(∀t∈ts,(γ (lk t.2.1)).fL=true)∧∀q,p=some q→(γ q.2).gq=true
 | _=>True
def Gh.sH:Gh→Bool | .pv _=>true | .nO _ _=>true | .pc _=>true | _=>false
def Gh.par:Gh→Option Nat | .nO d _=>some d | _=>none
def Gh.BN:Gh→Option Nat | .pv s=>some s | .nO _ s=>some s | .pc s=>some s | _=>none
def s8 (σ:Sg) (γ:Ga) (key:Nat):Prop:=∀d s s',γ key = .nO d s→γ d = .pc s'→σ key = .dead∨σ d = .dead∨∃es more,σ key = .sl s es∧σ d = .sl s (es++more)
def yZ (D:kZ) (σ:Sg) (γ:Ga) (w:World):Prop :=
 ∀key s,(γ key).BN=some s→gD D.R w (D.τ key) s∧iy D.R w (D.τ key) s (σ key)∧s8 σ γ key
def s9 (C:Ctx) (D:kZ) (γ:Ga):Prop:=(∀b,C.fix=some b→D.β 999999=b)∧∀v,C.O2=some v→(γ (lk 999999)).sH=true∧D.τ (lk 999999)=v
theorem s9.of {C:Ctx} {D D':kZ} {γ nH:Ga} (h:s9 C D γ) (Az:D'.β 999999=D.β 999999) (hp:(γ (lk 999999)).sH=true→(nH (lk 999999)).sH=true∧D'.τ (lk 999999)=D.τ (lk 999999)):s9 C D' nH :=
 ⟨fun b hb=>Az.trans (h.1 b hb),fun v hv=>by
  obtain ⟨h1,h2⟩:=h.2 v hv
  obtain ⟨h3,h4⟩:=hp h1
  exact ⟨h3,h4.trans h2⟩⟩
theorem s9.dP {C:Ctx} {D D':kZ} {γ:Ga} {k:Nat} {g:Gh} (h:s9 C D γ) (hk:(γ k).sH=false) (Az:D'.β 999999=D.β 999999) (qb:D'.τ (lk 999999)=D.τ (lk 999999)):s9 C D' (Eng.dP γ k g) :=
 h.of Az fun hp=>by
  have:lk 999999≠k:=fun e=>by rw [e,hk] at hp;cases hp
  unfold Eng.dP
  rw [aj this]
  exact ⟨hp,qb⟩
structure dZ (C:Ctx) (D:kZ) (σ:Sg) (γ:Ga) (a:Act) (w:World):Prop where
 size:a.tmps.size=C.nt
 defers:a.defers=[]
 km:C.nt≤1000000
 kk:∀m,(γ m).gq=true→C.nt≤m∧m<1000000
 mg:∀m,(γ m).fL=true→1000000≤m
 slot:∀t,t<C.nt→lM D w (σ t) (γ t) (a.tmps.getD t undef)
 mem:∀m ts,γ m = .cl ts→∃cs,jG D.R w (σ m) (D.β m) cs∧∀t∈ts,cs[t.1]?=some (D.τ (lk t.2.1))
 fV:∀key s,γ key = .live s→gD D.R w (D.τ key) s
 ps:yZ D σ γ w
 sep:∀key iL g,gw D γ key=some g→gw D γ iL=some g→key=iL∨(γ key).par=some iL∨(γ iL).par=some key
 own:∀key g,gw D γ key=some g→C.mf g
 inv:∀key,fZ γ (γ key)
 ext:Ext C.w0 C.R0 C.io w D.R
 nF:∀b o,D.R b o→b<w.heap.size
 gl:∀n,Rep D.R w (C.E.gl n) (.pointer (some ⟨n,0,none⟩))
 fix:s9 C D γ
def jN (g:dw) (R:Reach) (w:World) (ins:List AV) (xs:List Value):Prop :=
 match g.ref with
 | none=>gT R w ins xs
 | some i=>∃(b:Nat) (cs:List Value) (x:AV) (tv:List Value),xs[i]?=some (.pointer (some ⟨b,0,none⟩))∧ins[i]?=some x∧jG R w x b cs∧gT R w (ins.set i .pt) xs ∧
   tv.length=g.fy.length∧(∀(p:Nat) (t:Nat × Nat) (v:Value),g.fy[p]?=some t→tv[p]?=some v→cs[t.1]?=some v∧gD R w v t.2) ∧
   (∀(p q h:Nat),(some b :: tv.map Value.ownBlock)[p]?=some (some h)→(some b :: tv.map Value.ownBlock)[q]?=some (some h)→p=q)
def oQ (g:dw) (w:World) (xs:List Value) (c:Nat):Prop :=
 match g.ref with
 | none=>False
 | some i=>∃(b:Nat) (cs:List Value) (elem:TypeId),xs[i]?=some (.pointer (some ⟨b,0,none⟩))∧w.heap[b]?=some (.cells ⟨cs⟩ elem (0,0))∧(c=b∨∃t∈g.fy,∃v,cs[t.1]?=some v∧v.ownBlock=some c)
def mc (g:dw) (bn br:Nat) (tv:List Value):List (Option Nat) :=
 (if g.new.isSome then [some bn] else [])++(if g.ref.isSome then [some br] else [])++tv.map Value.ownBlock
def Ae (g:dw) (R:Reach) (w:World) (mf:Nat→Prop) (xs:List Value) (outs:List AV) (x:Value):Prop :=
 ∃(ju tr gZ tn:List Value) (bn br:Nat) (cn cr:List Value),
  ju.length=g.cZ∧x=(if g.cZ=1 then ju.headD undef else .tuple ⟨ju⟩) ∧
  outs.length=g.cZ+(if g.new.isSome then 1 else 0)+(if g.ref.isSome then 1 else 0) ∧
  gT R w ((outs.take g.cZ).mapIdx fun i y=>if g.new=some i then .pt else y) ju ∧
  (∀j,g.new=some j→ju[j]?=some (.pointer (some ⟨bn,0,none⟩))∧jG R w (outs.getD g.cZ .dead) bn cn) ∧
  (∀i,g.ref=some i→xs[i]?=some (.pointer (some ⟨br,0,none⟩))∧jG R w (outs.getD (g.cZ+(if g.new.isSome then 1 else 0)) .dead) br cr) ∧
  tr.length=g.fy.length∧gZ.length=g.own.length∧tn.length=g.fx.length ∧
  (∀(p:Nat) (t:Nat × Nat) (v:Value),g.fy[p]?=some t→tr[p]?=some v→cr[t.1]?=some v) ∧
  (∀(p:Nat) (t:Nat × Nat) (v:Value),g.own[p]?=some t→gZ[p]?=some v→ju[t.1]?=some v) ∧
  (∀(p:Nat) (t:Nat × Nat) (v:Value),g.fx[p]?=some t→tn[p]?=some v→cn[t.1]?=some v) ∧
  (∀(p:Nat) (t:Nat × Nat) (v:Value),(g.fy++g.own++g.fx)[p]?=some t→(tr++gZ++tn)[p]?=some v→gD R w v t.2) ∧
  (∀(p q h:Nat),(mc g bn br (tr++gZ++tn))[p]?=some (some h)→(mc g bn br (tr++gZ++tn))[q]?=some (some h)→p=q) ∧
  (∀h,some h∈mc g bn br (tr++gZ++tn)→mf h)
def Md (P:Program) (gl:Nat→AV) (f:Nat) (S:FS):Prop :=
 ∀(w:World) (R:Reach) (ins outs:List AV) (xs:List Value),S.G ins outs→(∀b o,R b o→b<w.heap.size) →
  (∀n,Rep R w (gl n) (.pointer (some ⟨n,0,none⟩)))→jN S.sg R w ins xs →
  Calls P f ⟨xs⟩ w fun e w'=>∃x R',e = .returned x∧Ext w R (oQ S.sg w xs) w' R'∧(∀b o,R' b o→b<w'.heap.size) ∧
   Ae S.sg R' w' (fun b=>oQ S.sg w xs b∨w.heap.size≤b) xs outs x
def Mc (P:Program) (gl:Nat→AV) (f:Nat) (S:FS) (i s:Nat):Prop :=
 ∀(w:World) (R:Reach) (ins outs:List AV) (xs:List Value) (v:Value) (es:List AV),S.G ins outs→(∀b o,R b o→b<w.heap.size) →
  (∀n,Rep R w (gl n) (.pointer (some ⟨n,0,none⟩)))→xs[i]?=some v→ins[i]?=some (.sl s es)→gD R w v s→iy R w v s (.sl s es)→gT R w (ins.set i .pt) xs →
  Calls P f ⟨xs⟩ w fun e w'=>∃x R' ju,e = .returned x∧Ext w R (fun c=>v.ownBlock=some c) w' R'∧(∀b o,R' b o→b<w'.heap.size) ∧
   ju.length=S.sg.cZ∧x=(if S.sg.cZ=1 then ju.headD undef else .tuple ⟨ju⟩)∧gT R' w' outs ju∧gD R' w' v s∧iy R' w' v s (.sl s es)
def fF (P:Program) (gl:Nat→AV) (f:Nat) (S:FS):Prop :=
 (S.sg.ps=none→Md P gl f S)∧∀i s,S.sg.ps=some (i,s)→Mc P gl f S i s
inductive MX where
 | normal
 | exit (id:Nat)
 | ret
def mj (σ:Sg):Option (Nat × Bool)→Option Bool
 | none=>some true
 | some (t,b)=>match σ t with
  | .v (.bool x)=>some (x == b)
  | .tu []=>some false
  | _=>none
def FC (E:Env) (m:oU) (σ eX:Sg):Prop :=
 ∃ws,(match mj σ m.gd with
  | some true=>fW E m.k (m.rs.map (eI.ev E σ)) ws
  | some false=>ws=m.ds.map fun _ => .sk
  | none=>False)∧ws.length=m.ds.length∧eX=cY σ m.ds ws
def BD (E:Env):List oU→Sg→Sg→Prop
 | [],σ,eX=>eX=σ
 | m :: ms,σ,eX=>∃xI,FC E m σ xI∧BD E ms xI eX
def head (cq:List Nat) (jW:List AV):Sg:=cY (fun _ => .dead) cq jW
def Fx (σ:Sg):List Nat→List AV→Prop
 | [],[]=>True
 | k :: ks,v :: vs=>σ k=v∧Fx σ ks vs
 | _,_=>False
def Le (eX σ:Sg):Prop:=∀k,eX k=σ k∨eX k = .dead
def oJ (E:Env):M→(MX→Sg→Prop)→Sg→Prop
 | .skip,Q,σ=>Q .normal σ
 | .fD ms,Q,σ=>∃eX,BD E ms σ eX∧Q .normal eX
 | .seq a b,Q,σ=>oJ E a (fun e eX=>match e with | .normal=>∃DN,Le DN eX∧oJ E b Q DN | e=>Q e eX) σ
 | .cond x _ a b,Q,σ=>(∃t,x.ev E σ = .v (.bool t)∧(t=true→oJ E a Q σ)∧(t=false→oJ E b Q σ))∨(x.ev E σ = .ab∧oJ E a Q σ∧oJ E b Q σ)
 | .block id _ b,Q,σ=>oJ E b (fun e eX=>match e with | .exit j=>if j=id then Q .normal eX else Q (.exit j) eX | e=>Q e eX) σ
 | .loop cq _ b,Q,σ=>∃(ι:Type) (jW:ι→List AV) (μ:ι→Nat) (i0:ι),Fx σ cq (jW i0) ∧
   ∀i,oJ E b (fun e eX=>match e with | .normal=>∃j,μ j<μ i∧Fx eX cq (jW j) | e=>Q e eX) (head cq (jW i))
 | .exit id,Q,σ=>Q (.exit id) σ
 | .ret,Q,σ=>Q .ret σ
 | .BB b,Q,σ=>oJ E b Q σ
 | .BA b,Q,σ=>oJ E b Q σ
 | .A7 l cq _ r b,Q,σ=>∃(ι:Type) (jW:ι→List AV) (μ:ι→Nat),
   oJ E b (fun e eX=>match e with | .exit j=>if j=gid l then ∃i,Fx eX cq (jW i) else Q (.exit j) eX | e=>Q e eX) σ ∧
   ∀i,oJ E r (fun e eX=>match e with | .exit j=>if j=gid l then ∃k,μ k<μ i∧Fx eX cq (jW k) else Q (.exit j) eX | e=>Q e eX) (head cq (jW i))
abbrev GL:=List (Nat × Gh)
def GL.get (G:GL) (k:Nat):Gh:=match G with
 | [] => .no
 | (j,g) :: r=>if k=j then g else GL.get r k
def GL.cY:GL→List Nat→List Gh→GL
 | G,t :: ts,x :: xs=>(t,x) :: GL.cY G ts xs
 | G,_,_=>G
def za:Value→Value→Bool
 | .bool a,.bool b=>a == b
 | .int j a,.int k b=>j == k&&a == b
 | .float j a,.float k b=>j == k&&a == b
 | .string a,.string b=>a.data.toList == b.data.toList
 | .func (.func f) a b,.func (.func g) c d=>f == g&&a.isEmpty&&b.isEmpty&&c.isEmpty&&d.isEmpty
 | .nilFunc,.nilFunc=>true
 | .nilIface,.nilIface=>true
 | .pointer none,.pointer none=>true
 | _,_=>false
def jw (x:Value) (y:AV):Bool :=
 match x,y with
 | .slice none 0 0,.sl _ []=>true
 | .slice none 0 0,.v (.slice none 0 0)=>true
 | .slice none 0 0,_=>false
 | x,.v z=>za x z
 | _,_=>false
def gu:List Value→List AV→Bool
 | [],[]=>true
 | x :: xs,y :: ys=>jw x y&&gu xs ys
 | _,_=>false
def vE:Value→AV→Bool
 | .agg cs,.ag ys=>gu cs.toList ys
 | .agg _,_=>false
 | x,y=>jw x y
def dv:Operand→eI→Bool
 | .tmp t,.s u=>t == u
 | .const v,.c x=>vE v x
 | .func f,.c (.v (.func (.func g) a b))=>f == g&&a.isEmpty&&b.isEmpty
 | .global g,.g n=>g == n
 | _,_=>false
def dy:List Operand→List eI→Bool
 | [],[]=>true
 | x :: xs,y :: ys=>dv x y&&dy xs ys
 | _,_=>false
section
variable (P:Program)
def kS (t:TypeId):Option Bool:=(P.underlying t).map fun d=>match d with | .struct _=>true | .array _ _=>true | _=>false
def jg (t:TypeId):Option Nat:=(P.info? t).map (·.size)
def kO (t:TypeId):Option TypeId:=(P.underlying t).bind fun d=>match d with | .slice e=>some e | _=>none
def mw (t:TypeId) (f:Nat):Option Field:=(P.underlying t).bind fun d=>match d with | .struct fs=>fs[f]? | _=>none
def jZ (t:TypeId) (n:Nat) (agg:Bool):Bool:=jg P t == some n&&kS P t == some agg&&(agg || n == 1)
def ph (t:TypeId) (z:List AV):Bool:=((P.info? t).bind (·.zero)).any fun v=>gu v.cells.toList z
def ve (t:TypeId) (k:IntKind):Bool:=match P.underlying t with | some (.int j)=>j == k | _=>false
def vh (t:TypeId):Bool:=match P.underlying t with | some .bool=>true | _=>false
def j9 (t:TypeId):Bool:=match P.underlying t with | some .string=>true | _=>false
def jY (t:TypeId) (s b:Nat):Bool:=(kO P t).any fun e=>(P.info? e).any (fun i=>i.size == s&&i.bytes == b&&i.zero.any fun z=>z.cells.size == s)&&decide (0<s)
def nQ (t:TypeId) (s:Nat):Bool:=(kO P t).any fun e=>jg P e == some s&&decide (0<s)
def mC (t:TypeId) (s:Nat):Bool:=(kO P t).any fun e=>(P.info? e).any (fun i=>i.size == s&&i.zero.isSome)&&decide (0<s)
def ka (t:TypeId):Bool:=(kO P t).any fun e=>ve P e .u8
def rq (t:TypeId):Bool:=match P.underlying t with
 | some (.struct fs)=>fs.toList.all fun f=>(jg P f.type).isSome
 | some (.array _ e)=>(jg P e).isSome
 | _=>false
def sx (t:TypeId) (pl:List (Nat × Nat)) (parts:List (Nat × Operand)):Bool :=
 rq P t&&pl.length == parts.length&&(pl.zip parts).all fun (q,p) =>
  match P.underlying t with
  | some (.struct fs)=>(fs[p.1]?).any fun f=>f.offset == q.1&&jg P f.type == some q.2
  | some (.array _ e)=>jg P e == some q.2&&p.1 * q.2 == q.1
  | _=>false
def jI (f:Nat):Bool:=(P.funcs[f]?).any fun fn=>fn.body.isSome&&!(fn.name == "runtime.NumGoroutine")
def nh:String:=((Extern.BytealgIndexByte.rows[1]?).map Prod.fst).getD ""
def sS (f:Nat) (nm:String):Bool:=(P.funcs[f]?).any fun fn=>fn.name == nm&&fn.body.isNone&&(fn.origin == "" || fn.origin == nm)
def ga (sg:Nat→dw) (o:Oper) (m:oU):Bool :=
 match m.k with
 | .mv=>match o.op,m.rs with
  | .move x,rs=>dy [x] rs
  | .assign x,rs=>dy [x] rs
  | _,_=>false
 | .nl _ _=>match o.op,m.rs with
  | .move (.const (.slice none 0 0)),[_]=>true
  | .assign (.const (.slice none 0 0)),[_]=>true
  | _,_=>false
 | .pick=>match o.op,m.rs with
  | .pick c a b,rs=>dy [c,a,b] rs
  | _,_=>false
 | .bin b=>match o.op,m.rs with
  | .binOp b' _ x y _,rs=>b == b'&&dy [x,y] rs
  | _,_=>false
 | .be neg=>match o.op,m.rs with
  | .binOp o' t x y _,rs=>vh P t&&o' == (if neg then .neq else .eql)&&dy [x,y] rs
  | _,_=>false
 | .un b=>match o.op,m.rs with
  | .unOp b' _ x,rs=>b == b'&&dy [x] rs
  | _,_=>false
 | .ci k=>match o.op,m.rs with
  | .convert s d x,rs=>ve P d k&&(P.underlying s).isSome&&dy [x] rs
  | _,_=>false
 | .cs=>match o.op,m.rs with
  | .convert s d x,rs=>j9 P s&&j9 P d&&dy [x] rs
  | _,_=>false
 | .sb=>match o.op,m.rs with
  | .convert s d x,rs=>j9 P s&&ka P d&&dy [x] rs
  | _,_=>false
 | .FE _=>match o.op,m.rs with
  | .convert s d x,r :: _=>j9 P s&&ka P d&&dv x r
  | _,_=>false
 | .bs=>match o.op,m.rs with
  | .convert s d x,rs=>ka P s&&j9 P d&&dy [x] rs
  | _,_=>false
 | .len=>match o.op,m.rs with
  | .call { callee := .builtin .len,args,argTypes },rs=>argTypes.toList.length == 1&&argTypes.toList.all (fun t=>(kO P t).isSome)&&args.toList.length == 1&&dy args.toList rs
  | _,_=>false
 | .sC=>match o.op,m.rs with
  | .call { callee := .builtin .len,args,argTypes },rs=>argTypes.toList.length == 1&&argTypes.toList.all (fun t=>j9 P t)&&args.toList.length == 1&&dy args.toList rs
  | _,_=>false
 | .mn=>match o.op,m.rs with
  | .call { callee := .builtin .min,args,.. },rs=>args.toList.length == 2&&dy args.toList rs
  | _,_=>false
 | .mx=>match o.op,m.rs with
  | .call { callee := .builtin .max,args,.. },rs=>args.toList.length == 2&&dy args.toList rs
  | _,_=>false
 | .ix s=>match o.op,m.rs with
  | .indexAddr t x i,rs=>nQ P t s&&dy [x,i] rs
  | _,_=>false
 | .si=>match o.op,m.rs with
  | .index t x i,rs=>j9 P t&&dy [x,i] rs
  | _,_=>false
 | .ai n s agg=>match o.op,m.rs with
  | .index t x i,rs=>(match P.underlying t with | some (.array n' e)=>n == n'&&jZ P e s agg | _=>false)&&dy [x,i] rs
  | _,_=>false
 | .fe o' n agg=>match o.op,m.rs with
  | .field t x f,rs=>(mw P t f).any (fun fl=>fl.offset == o'&&jZ P fl.type n agg)&&dy [x] rs
  | _,_=>false
 | .sc s lo hi=>match o.op,m.rs with
  | .slice t x l h none,rs=>nQ P t s&&l.isSome == lo&&h.isSome == hi&&dy (x :: (l.toList++h.toList)) rs
  | _,_=>false
 | .ss lo hi=>match o.op,m.rs with
  | .slice t x l h none,rs=>j9 P t&&l.isSome == lo&&h.isSome == hi&&dy (x :: (l.toList++h.toList)) rs
  | _,_=>false
 | .bl s n=>match o.op,m.rs with
  | .buildSlice t len parts,rs=>mC P t s&&len == n&&decide (n * s≤2 ^ 24)&&parts.toList.map (·.1) == List.range n&&dy (parts.toList.map (·.2)) rs
  | _,_=>false
 | .blt s n _=>match o.op,m.rs with
  | .buildSlice t len parts,rs=>mC P t s&&len == n&&decide (n * s≤2 ^ 24)&&parts.toList.map (·.1) == List.range n&&dy (parts.toList.map (·.2)) (rs.take n)&&rs.length == n+1
  | _,_=>false
 | .bd z pl=>match o.op,m.rs with
  | .build t parts,rs=>ph P t z&&sx P t pl parts.toList&&dy (parts.toList.map (·.2)) rs
  | _,_=>false
 | .al _ z ts=>match o.op,m.rs with
  | .alloc t,_=>ph P t z&&ts.all fun q=>match z[q.1]? with | some (.sl _ [])=>true | _=>false
  | _,_=>false
 | .bx _=>match o.op,m.rs with
  | .box _ x,r :: _=>dv x r
  | _,_=>false
 | .ld _ _ n agg=>match o.op,m.rs with
  | .load t x,r :: _=>jZ P t n agg&&dv x r
  | _,_=>false
 | .st _ _ n=>match o.op,m.rs with
  | .store t x v,[p,_,r]=>jg P t == some n&&dv x p&&dv v r
  | _,_=>false
 | .lr n agg=>match o.op,m.rs with
  | .load t x,[r]=>jZ P t n agg&&dv x r
  | _,_=>false
 | .fa _ _ d=>match o.op,m.rs with
  | .fieldAddr t x f,[r]=>(mw P t f).any (fun fl=>fl.offset == d&&(jg P fl.type).any (fun n=>decide (0<n)))&&dv x r
  | _,_=>false
 | .fr d n agg=>match o.op,m.rs with
  | .fieldAddr t x f,[r]=>(mw P t f).any (fun fl=>fl.offset == d&&jZ P fl.type n agg&&decide (0<n))&&dv x r
  | _,_=>false
 | .nc _ _=>match o.op,m.rs with
  | .nilCheck x,[r]=>dv x r
  | _,_=>false
 | .FY=>match o.op,m.rs with
  | .nilCheck x,[r]=>dv x r
  | _,_=>false
 | .ex i=>match o.op,m.rs with
  | .extract x j,[r]=>i == j&&dv x r
  | _,_=>false
 | .ap _ _ s b=>match o.op,m.rs with
  | .call { callee := .builtin .append,args,argTypes },[r,q,_,_]=>dy args.toList [r,q]&&argTypes.toList.length == 2&&argTypes.toList.all (fun t=>jY P t s b)
  | _,_=>false
 | .DV _ _ b=>match o.op,m.rs with
  | .call { callee := .builtin .append,args,argTypes },[r,q,_,_]=>dy args.toList [r,q]&&(match argTypes.toList with | [t,u]=>jY P t 1 b&&ka P t&&j9 P u | _=>false)
  | _,_=>false
 | .an _ s b=>match o.op,m.rs with
  | .call { callee := .builtin .append,args,argTypes },[q,_]=>(match args.toList with | [.const (.slice none 0 0),x]=>dv x q | _=>false)&&argTypes.toList.length == 2&&argTypes.toList.all (fun t=>jY P t s b)
  | _,_=>false
 | .GF _ b=>match o.op,m.rs with
  | .call { callee := .builtin .append,args,argTypes },[q,_]=>(match args.toList with | [.const (.slice none 0 0),x]=>dv x q | _=>false)&&(match argTypes.toList with | [t,u]=>jY P t 1 b&&ka P t&&j9 P u | _=>false)
  | _,_=>false
 | .mk _ s b z=>match o.op,m.rs with
  | .makeSlice t l c,[r,q,_]=>jY P t s b&&dy [l,c] [r,q]&&(kO P t).any (fun e=>ph P e z.cells&&kS P e == some z.pC)
  | _,_=>false
 | .FJ _=>match o.op,m.rs with
  | .convert s d x,r :: _=>j9 P s&&ka P d&&dv x r
  | _,_=>false
 | .FL _=>match o.op,m.rs with
  | .call { callee := .builtin .len,args,argTypes },r :: _=>argTypes.toList.length == 1&&argTypes.toList.all (fun t=>(kO P t).isSome)&&dy args.toList [r]
  | _,_=>false
 | .FN _ s=>match o.op,m.rs with
  | .indexAddr t x i,[r,q,_]=>nQ P t s&&dy [x,i] [r,q]
  | _,_=>false
 | .G5 _ d=>match o.op,m.rs with
  | .fieldAddr t x f,[r]=>(mw P t f).any (fun fl=>fl.offset == d&&(jg P fl.type).any (fun n=>decide (0<n)))&&dv x r
  | _,_=>false
 | .FM _ _ n agg=>match o.op,m.rs with
  | .load t x,r :: _=>jZ P t n agg&&dv x r
  | _,_=>false
 | .FI _ _ n=>match o.op,m.rs with
  | .store t x v,[p,_,r]=>jg P t == some n&&dv x p&&dv v r
  | _,_=>false
 | .FO _ _=>match o.op,m.rs with
  | .move x,[r,_]=>dv x r
  | .assign x,[r,_]=>dv x r
  | _,_=>false
 | .jQ f n cZ i _ s=>match o.op,m.rs with
  | .call { callee := .value (.func g),args,.. },rs=>f == g&&jI P f&&decide ((sg f).ps=some (i,s)∧(sg f).cZ=cZ)&&dy args.toList (rs.take n)&&args.size == n&&decide (i<n)
  | _,_=>false
 | .mI f n cZ i s=>match o.op,m.rs with
  | .call { callee := .value (.func g),args,.. },rs=>f == g&&jI P f&&decide ((sg f).ps=some (i,s)∧(sg f).cZ=cZ)&&dy args.toList rs&&args.size == n &&
    (match args.toList[i]? with | some (.const (.slice none 0 0))=>true | _=>false)
  | _,_=>false
 | .A6 _ _ s b=>match o.op,m.rs with
  | .call { callee := .builtin .append,args,argTypes },[r,q,_,_]=>dy args.toList [r,q]&&argTypes.toList.length == 2&&argTypes.toList.all (fun t=>jY P t s b)
  | _,_=>false
 | .FK _=>match o.op,m.rs with
  | .binOp .eql t x (.const (.slice none 0 0)) _,[r,_]=>dv x r&&(kO P t).isSome
  | _,_=>false
 | .Fs _ _ _ s b=>match o.op,m.rs with
  | .call { callee := .builtin .append,args,argTypes },[r,q,_,_,_]=>dy args.toList [r,q]&&argTypes.toList.length == 2&&argTypes.toList.all (fun t=>jY P t s b)
  | _,_=>false
 | .la _ n s=>match o.op,m.rs with
  | .indexAddr t x i,[r,q,_]=>(match P.underlying t with | some (.array n' e)=>n' == n&&jg P e == some s | _=>false)&&dy [x,i] [r,q]
  | _,_=>false
 | .ll _ _=>match o.op,m.rs with
  | .load t x,r :: _=>jZ P t 1 false&&dv x r
  | _,_=>false
 | .FX _=>true
 | .lC f n cZ i _=>match o.op,m.rs with
  | .call { callee := .value (.func g),args,.. },rs=>f == g&&jI P f&&decide ((sg f).plain=true∧(sg f).cZ=cZ)&&dy args.toList (rs.take n)&&args.size == n&&decide (i<n)
  | _,_=>false
 | .yH _ _=>match o.op,m.rs with
  | .box _ x,r :: _=>dv x r
  | _,_=>false
 | .qX _ o' n ts=>match o.op,m.rs with
  | .store t x v,r :: _ :: q :: _=>jg P t == some n&&dv x r&&dv v q&&ts.all fun t=>decide (o'≤t.1∧t.1<o'+n)
  | _,_=>false
 | .Kt=>match o.op,m.rs with
  | .binOp .eql t x (.const (.slice none 0 0)) _,[r]=>dv x r&&(kO P t).isSome
  | _,_=>false
 | .Jj=>match o.op,m.rs with
  | .call { callee := .value (.func g),args,.. },rs=>sS P g nh&&dy args.toList rs&&args.size == 2
  | _,_=>false
 | .call f c=>match o.op,m.rs with
  | .call { callee := .value (.func g),args,.. },rs=>f == g&&jI P f&&c.fits (sg f)&&dy args.toList (rs.take c.n)&&args.size == c.n
  | _,_=>false
def small (nt:Nat) (l:List Operand):Bool:=l.all fun x=>match x with | .tmp t=>decide (t<nt) | _=>true
def dS (nt:Nat) (dst:Option Nat) (m:oU):Bool :=
 let slot:=fun x=>match x with | eI.s t=>some t | _=>none
 let tail:=fun (n:Nat) (ks:List Nat)=>m.rs.length == n+ks.length&&(m.rs.drop n).map slot == ks.map some
 let mr:=fun x=>decide (nt≤x)&&decide (x<1000000)
 let mn:=fun x=>decide (nt≤x)&&decide (x<999999)
 let qx:=fun (l:List Nat)=>match dst with | some d=>decide (d<nt)&&m.ds == d :: l | none=>false
 match m.k with
 | .al m0 _ ts=>mn m0&&tail 0 (m0 :: ts.map fun t=>lk t.2.1)&&qx (m0 :: ts.map fun t=>lk t.2.1)
 | .bx m0=>mn m0&&tail 1 [m0]&&qx [m0]
 | .lC _ n _ _ m0=>mr m0&&tail n [m0]&&qx []
 | .FX b=>match b with | true=>qx [] | false=>dst.isNone&&m.ds == []
 | .yH m0 ts=>mn m0&&tail 1 (m0 :: ts.map fun t=>lk t.2.1)&&qx (m0 :: ts.map fun t=>lk t.2.1)
 | .qX m0 _ _ ts=>mr m0&&dst.isNone&&m.ds == m0 :: (ts.map fun t=>lk t.2.1)&&tail 3 (ts.map fun t=>lk t.2.1)&&(match m.rs with | _ :: .s t :: _=>t == m0 | _=>false)
 | .ld m0 _ _ _=>mr m0&&tail 1 [m0]&&qx []
 | .st m0 _ _=>mr m0&&dst.isNone&&m.ds == [m0]&&(match m.rs with | [_,.s t,_]=>t == m0 | _=>false)
 | .FE k=>tail 1 [lk k]&&qx [lk k]
 | .blt _ n k=>tail n [lk k]&&qx [lk k]
 | .ap k d _ _=>tail 2 [lk k,lk d]&&qx [lk k,lk d]
 | .DV k d _=>tail 2 [lk k,lk d]&&qx [lk k,lk d]
 | .an d _ _=>tail 1 [lk d]&&qx [lk d]
 | .GF d _=>tail 1 [lk d]&&qx [lk d]
 | .mk d _ _ _=>tail 2 [lk d]&&qx [lk d]
 | .nl d _=>tail 0 [lk d]&&qx [lk d]
 | .FJ k=>tail 1 [lk k]&&qx [lk k]
 | .FL k=>tail 1 [lk k]&&qx []
 | .FN k _=>tail 2 [lk k]&&qx []
 | .FM k _ _ _=>tail 1 [lk k]&&qx []
 | .FI k _ _=>dst.isNone&&m.ds == [lk k]&&(match m.rs with | [_,.s t,_]=>t == lk k | _=>false)
 | .FO k _=>decide (k≠999999)&&tail 1 [lk k]&&(match m.rs with | .s j :: _=>decide (j<nt)&&qx [j,lk k] | _=>false)
 | .jQ _ n _ _ k _=>tail n [lk k]&&qx []
 | .mI _ n _ _ _=>m.rs.length == n&&qx []
 | .A6 k d _ _=>tail 2 [lk k,lk d]&&qx [lk k,lk d]
 | .FK k=>tail 1 [lk k]&&qx []
 | .Fs k d q _ _=>tail 2 [lk k,lk d,lk q]&&qx [lk k,lk d]
 | .la m0 _ _=>mr m0&&tail 2 [m0]&&qx []
 | .ll m0 _=>mr m0&&tail 1 [m0]&&qx []
 | .call _ c=>c.jL.all mr&&tail c.n (c.jL++c.mh)&&qx (c.jL++c.mh)&&decide ((c.jL++c.mh).Nodup)
 | _=>qx []
def rR (nt:Nat) (ops:Array Oper) (o:Oper) (m:oU):Bool :=
 match o.guard,m.gd with
 | none,none=>true
 | some (j,b),some (t,b')=>b == b'&&decide (t<nt)&&(match (ops[j]?).bind (·.dst) with | some d=>d == t | none=>false)&&m.ds.length == 1&&o.dst.isSome
 | _,_=>false
def oU.reads (m:oU):List Nat:=m.rs.filterMap (fun x=>match x with | .s t=>some t | _=>none)++m.gd.toList.map (·.1)
def z6 (m n:oU):Bool:=m.ds.any (fun d=>n.reads.contains d || n.ds.contains d) || n.ds.any (fun d=>m.reads.contains d)
def rF (o:Oper):List Nat:=(o.after.toList.filter (Region.binds .any)).map (·.on)
def Aa (ops:List Oper):List (List Nat) :=
 ops.foldl (fun acc o=>acc++[(rF o).flatMap fun e=>e :: (acc.getD e [])]) []
def E8 (ops:List Oper):Bool:=ops.zipIdx.all fun (o,i)=>(rF o).all fun e=>decide (e<i)
def uX (ops:List Oper) (ms:List oU):Bool :=
 E8 ops&&(let b:=Aa ops;ms.zipIdx.all fun (m,i)=>(ms.take i).zipIdx.all fun (n,j)=>!z6 n m || (b.getD i []).contains j)
def kE {A B:Type} (f:A→B→Bool):List A→List B→Bool
 | [],[]=>true
 | a :: as,b :: bs=>f a b&&kE f as bs
 | _,_=>false
def BI (sg:Nat→dw) (nt:Nat) (ops:Array Oper) (draw:Bool) (ms:List oU):Bool :=
 kE (fun o m=>ga P sg o m&&dS nt o.dst m&&rR nt ops o m&&small nt o.op.operands.toList) ops.toList ms&&(!draw || (P.follows .mixedOrders&&uX ops.toList ms))
def Gv (m:oU) (G:GL):Option GL:=(ft m.k (m.rs.map (eI.gh G.get))).bind fun gs=>if gs.length=m.ds.length then some (GL.cY G m.ds gs) else none
def AP:List oU→GL→Option GL
 | [],G=>some G
 | m :: ms,G=>(Gv m G).bind (AP ms)
def zi (G H:GL):List (Nat × Nat) :=
 H.flatMap fun (k,h)=>match h,G.get k with
  | .fV i _,.fV j _=>[(i,j)]
  | .cl ts,.cl us=>ts.flatMap fun t=>match us.find? (fun u=>u.1 == t.1) with | some u=>[(t.2.1,u.2.1)] | none=>[]
  | .pv _,_=>[(k - 1000000,k - 1000000)]
  | _,_=>[]
def lh (G H:GL):Bool :=
 let ρ:=zi G H
 let nm:=fun i=>(ρ.find? (fun p=>p.1 == i)).map (·.2)
 (!(G.get (lk 999999)).sH || (H.get (lk 999999)).sH)&&ρ.all (fun p=>ρ.all fun q=>(p.1 == q.1) == (p.2 == q.2)) &&
 H.all fun (k,h)=>match h,G.get k with
  | .no,_=>true
  | .ptr m o,.ptr m' o'=>m == m'&&o == o'&&(match H.get m with | .cl _=>true | _=>false)
  | .fV i s,.fV j s'=>s == s'&&nm i == some j&&(H.get (lk i)).fL
  | .cl ts,.cl us=>ts.all fun t=>(match us.find? (fun u=>u.1 == t.1) with | some u=>nm t.2.1 == some u.2.1&&t.2.2 == u.2.2 | none=>false)&&(H.get (lk t.2.1)).fL
  | .live s,_=>ρ.any fun p=>lk p.1 == k&&G.get (lk p.2) == .live s
  | .pv s,.pv s'=>s == s'&&ρ.any fun p=>lk p.1 == k&&p.1 == p.2
  | .pv s,.nO d s'=>s == s'&&!(H.get d).fL&&ρ.any fun p=>lk p.1 == k&&p.1 == p.2
  | .used,_=>decide (1000000≤k)
  | _,_=>false
mutual
def dp (sg:Nat→dw) (nt:Nat) (rt:GL→Bool):Code→M→GL→Option (Option GL × List (Nat × GL))
 | .skip,.skip,G=>some (some G,[])
 | .label _,.skip,G=>some (some G,[])
 | .region _ ops d,.fD ms,G=>if BI P sg nt ops d ms then (AP ms G).map fun G'=>(some G',[]) else none
 | .seq a b,.seq x y,G=>(dp sg nt rt a x G).bind fun r=>match r.1 with
  | none=>some (none,r.2)
  | some G1=>(dp sg nt rt b y G1).map fun q=>(q.1,r.2++q.2)
 | .cond c a b,.cond x H y z,G=>if dv c x&&small nt [c] then (dp sg nt rt a y G).bind fun r=>(dp sg nt rt b z G).bind fun q =>
   match r.1,q.1 with
   | none,n=>some (n,r.2++q.2)
   | n,none=>some (n,r.2++q.2)
   | some A,some B=>if lh A H&&lh B H then some (some H,r.2++q.2) else none
  else none
 | .block i b,.block j H y,G=>if i=j∧i<1000000 then (dp sg nt rt b y G).bind fun r =>
   if (r.1.toList++(r.2.filter (·.1 == i)).map (·.2)).all (lh · H) then
    some (if r.1.isNone&&(r.2.filter (·.1 == i)).isEmpty then none else some H,r.2.filter (·.1 != i)) else none
  else none
 | .loop b,.loop cq H y,G=>if lh G H&&H.all (fun p=>cq.contains p.1 || decide (1000000≤p.1))&&decide cq.Nodup then
   (dp sg nt rt b y H).bind fun r=>if r.1.all (lh · H) then some (none,r.2) else none
  else none
 | .exit i,.exit j,G=>if i=j∧i<1000000 then some (none,[(i,G)]) else none
 | .goto l,.exit j,G=>if j=gid l then some (none,[(j,G)]) else none
 | .ret,.ret,G=>if rt G then some (none,[]) else none
 | .scope c,.BB x,G=>(qk sg nt rt c x G).bind fun r=>if r.2.all (fun p=>decide (p.1<1000000)) then some r else none
 | _,_,_=>none
def qk (sg:Nat→dw) (nt:Nat) (rt:GL→Bool):Code→M→GL→Option (Option GL × List (Nat × GL))
 | c,.BA b,G=>dp sg nt rt c b G
 | c,.A7 l _ H r b,G=>match findLabel c l with
  | some rest=>(dp sg nt rt rest r H).bind fun q=>(qk sg nt rt c b G).bind fun p =>
   if ((q.2++p.2).filter (·.1 == gid l)).all (fun x=>lh x.2 H)&&(q.1.isNone || p.1.isNone) then
    some (if q.1.isNone then p.1 else q.1,(q.2++p.2).filter (·.1 != gid l)) else none
  | none=>none
 | _,_,_=>none
end
end
end Go.Eng
namespace Go.Eng
open Go.RowKit
theorem bK {X:Type} (σ:Nat→X) (t:Nat) (x:X):dP σ t x t=x:=by simp [dP]
theorem bO {X:Type} (σ:Nat→X) {t k:Nat} (x:X) (h:k≠t):dP σ t x k=σ k:=by simp [dP,h]
theorem jG.lt {R:Reach} {w:World} {x:AV} {b:Nat} {cs:List Value} (h:jG R w x b cs):b<w.heap.size:=by
 obtain ⟨_,h,_⟩:=h
 exact (Array.getElem?_eq_some_iff.1 h).1
theorem jG.Cd {R:Reach} {w:World} {x:AV} {b:Nat} {cs:List Value} (h:jG R w x b cs):∀o,¬R b o:=h.elim fun _ h=>h.2.2
theorem jG.ag {R:Reach} {w:World} {A4:List AV} {b:Nat} {cs:List Value} (h:jG R w (.ag A4) b cs):∃elem,w.heap[b]?=some (.cells ⟨cs⟩ elem (0,0))∧eS R w A4 (cs.take A4.length):=by
 obtain ⟨elem,h1,h2 | ⟨Sp,h2,h3⟩,_⟩:=h
 ·cases h2
 ·cases h2;exact ⟨elem,h1,h3⟩
theorem gD.lt {R:Reach} {w:World} {x:Value} {s g:Nat} (h:gD R w x s) (hg:x.ownBlock=some g):g<w.heap.size:=by
 rcases h with rfl | ⟨g',n,cap,cur,e,fz,rfl,h,_⟩
 ·simp [Value.ownBlock] at hg
 ·simp [Value.ownBlock] at hg;subst hg;exact (Array.getElem?_eq_some_iff.1 h).1
theorem jG.cq {R R':Reach} {w w':World} {x:AV} {b:Nat} {cs:List Value} (h:jG R w x b cs) (k:gz R w R' w') (hh:w'.heap[b]?=w.heap[b]?) (hr:∀o,¬R' b o):jG R' w' x b cs:=by
 obtain ⟨e,h1,h2,_⟩:=h
 exact ⟨e,hh.trans h1,h2.imp id (fun ⟨A4,h2,h3⟩=>⟨A4,h2,h3.mono k⟩),hr⟩
theorem gD.cq {R R':Reach} {w w':World} {x:Value} {s:Nat} (h:gD R w x s) (hh:∀g,x.ownBlock=some g→w'.heap[g]?=w.heap[g]?∧∀o,R' g o→R g o):gD R' w' x s:=by
 rcases h with rfl | ⟨g,n,cap,cur,e,fz,rfl,h1,h2,h3,h4,h5,h6⟩
 ·exact .inl rfl
 ·obtain ⟨e1,e2⟩:=hh g rfl
  exact .inr ⟨g,n,cap,cur,e,fz,rfl,e1.trans h1,h2,h3,h4,h5,fun o ho hr=>h6 o ho (e2 o hr)⟩
theorem jU.congr {D D':kZ} {γ:Ga} {g:Gh} {x:Value} (hm:fZ γ g) (Az:∀m,(γ m).gq=true→D'.β m=D.β m) (qb:∀k,(γ (lk k)).fL=true→D'.τ (lk k)=D.τ (lk k)) (h:jU D g x):jU D' g x:=by
 cases g with
 | ptr m o=>simp only [jU,fZ] at *;rw [Az m hm];exact h
 | fV k s=>simp only [jU,fZ] at *;rw [qb k hm];exact h
 | pe k=>simp only [jU,fZ] at *;rw [qb k hm];exact h
 | pm m=>simp only [jU,fZ] at *;rw [Az m hm];exact h
 | y4 ts p =>
  simp only [jU,fZ] at *
  obtain ⟨ys,h1,h2,h3⟩:=h
  exact ⟨ys,h1,fun t ht=>by rw [qb _ (hm.1 t ht)];exact h2 t ht,fun q hq=>by rw [Az _ (hm.2 q hq)];exact h3 q hq⟩
 | _=>trivial
theorem iy.cq {R R':Reach} {w w':World} {v:Value} {s:Nat} {x:AV} (h:iy R w v s x) (k:gz R w R' w') (hh:∀g,v.ownBlock=some g→w'.heap[g]?=w.heap[g]?∧∀o,R' g o→R g o):iy R' w' v s x:=by
 refine ⟨fun g hg o hr=>h.1 g hg o ((hh g hg).2 o hr),h.2.imp id ?_⟩
 rintro ⟨es,e1,e2,e3⟩
 refine ⟨es,e1,e2,e3.imp id ?_⟩
 rintro ⟨g,cap,cur,e,fz,rfl,f1,f2⟩
 exact ⟨g,cap,cur,e,fz,rfl,(hh g rfl).1.trans f1,f2.mono k⟩
theorem yZ.cq {D D':kZ} {σ eX:Sg} {γ nH:Ga} {w w':World} (h:yZ D σ γ w) (k:gz D.R w D'.R w')
  (hp:∀key,(nH key).sH=true→γ key=nH key∧eX key=σ key∧D'.τ key=D.τ key∧∀g,(D.τ key).ownBlock=some g→w'.heap[g]?=w.heap[g]?∧∀o,D'.R g o→D.R g o):yZ D' eX nH w':=by
 intro key s hk
 obtain ⟨e1,e2,e3,e4⟩:=hp key (by cases e:nH key <;> rw [e] at hk <;> simp [Gh.BN] at hk <;> rfl)
 have:=h key s ((congrArg Gh.BN e1).trans hk)
 rw [e2,e3]
 refine ⟨this.1.cq e4,this.2.1.cq k e4,fun d s1 s' h1 h2=>?_⟩
 obtain ⟨f1,f2,_,_⟩:=hp d (by rw [h2];rfl)
 rw [e2,f2]
 exact this.2.2 d s1 s' (e1.trans h1) (f1.trans h2)
theorem yZ.same {D D':kZ} {σ eX:Sg} {γ nH:Ga} {w:World} (h:yZ D σ γ w) (hR:D'.R=D.R) (hp:∀key,(nH key).sH=true→γ key=nH key∧eX key=σ key∧D'.τ key=D.τ key):yZ D' eX nH w :=
 h.cq (hR ▸ gz.refl _ _) fun key hk=>⟨(hp key hk).1,(hp key hk).2.1,(hp key hk).2.2,fun _ _=>⟨rfl,fun o hr=>hR ▸ hr⟩⟩
theorem Gh.pV {g:Gh} {s:Nat} (h:g.BN=some s):g.sH=true:=by cases g <;> simp [Gh.BN] at h <;> rfl
theorem Gh.H9 {g:Gh} (h:g.sH=true):g.fL=true∧g.gq=false:=by cases g <;> simp [Gh.sH] at h <;> exact ⟨rfl,rfl⟩
theorem Ext.refl (w:World) (R:Reach) (io:Nat→Prop):Ext w R io w R:=⟨rfl,rfl,rfl,Nat.le_refl _,fun _ _ _=>rfl,gz.refl _ _,fun _ _ h => .inl h⟩
theorem Ext.trans {w0 w1 w2:World} {R0 R1 R2:Reach} {io Pw:Nat→Prop} (h:Ext w0 R0 io w1 R1) (k:Ext w1 R1 Pw w2 R2) (hi:∀b,Pw b→io b∨w0.heap.size≤b):Ext w0 R0 io w2 R2 where
 os:=k.os.trans h.os
 tape:=k.tape.trans h.tape
 output:=k.output.trans h.output
 size:=Nat.le_trans h.size k.size
 heap b hb hn:=(k.heap b (Nat.lt_of_lt_of_le hb h.size) (fun c=>by rcases hi b c with c | c <;> first | exact hn c | omega)).trans (h.heap b hb hn)
 cq:=h.cq.trans k.cq
 qG b o hr:=by
  rcases k.qG b o hr with r | r | r
  ·exact h.qG b o r
  ·exact .inr (.inl (Nat.le_trans h.size r))
  ·rcases hi b r with r | r
   ·exact .inr (.inr r)
   ·exact .inr (.inl r)
section
variable {C:Ctx} {D:kZ} {σ:Sg} {γ:Ga} {a:Act} {w:World}
theorem iG {key:Nat} (h:(γ key).sH=true):gw D γ key=(D.τ key).ownBlock:=by
 unfold gw;cases hg:γ key <;> rw [hg] at h <;> first | cases h | rfl
theorem dZ.Ns (h:dZ C D σ γ a w) {key:Nat} (hp:(γ key).sH=true):∃s,(γ key).BN=some s∧gD D.R w (D.τ key) s∧iy D.R w (D.τ key) s (σ key)∧s8 σ γ key:=by
 cases hg:γ key <;> rw [hg] at hp <;> first | cases hp | skip
 all_goals exact ⟨_,rfl,h.ps key _ (by rw [hg];rfl)⟩
theorem dZ.lt (h:dZ C D σ γ a w) {key g:Nat} (hb:gw D γ key=some g):g<w.heap.size:=by
 cases hp:(γ key).sH with
 | true =>
  rw [iG hp] at hb
  obtain ⟨s,_,ht,_⟩:=h.Ns hp
  exact ht.lt hb
 | false =>
  unfold gw at hb
  split at hb
  ·rename_i ts hg
   cases hb
   obtain ⟨cs,hv,_⟩:=h.mem _ _ hg
   exact hv.lt
  ·rename_i s hg
   exact (h.fV _ _ hg).lt hb
  ·rename_i s hg;rw [hg] at hp;cases hp
  ·rename_i d s hg;rw [hg] at hp;cases hp
  ·rename_i s hg;rw [hg] at hp;cases hp
  ·cases hb
theorem dZ.rz (h:dZ C D σ γ a w) {key iL g:Nat} (hn:(γ key).sH=false) (h1:gw D γ key=some g) (h2:gw D γ iL=some g):key=iL:=by
 rcases h.sep key iL g h1 h2 with e | e | e
 ·exact e
 ·cases hg:γ key <;> rw [hg] at e hn <;> first | (cases hn;done) | (cases e;done)
 ·cases hg:γ iL <;> rw [hg] at e <;> first | (cases e;done) | skip
  cases e
  have:=h.inv iL
  rw [hg] at this
  rcases this with e | ⟨s,e⟩
  ·unfold gw at h1;rw [e] at h1;cases h1
  ·rw [e] at hn;cases hn
theorem iS {key:Nat} {ts:List (Nat × (Nat × Nat))} (h:γ key = .cl ts):gw D γ key=some (D.β key):=by simp [gw,h]
theorem iR {key s:Nat} (h:γ key = .live s):gw D γ key=(D.τ key).ownBlock:=by simp [gw,h]
theorem dZ.world (h:dZ C D σ γ a w) {w':World} {R':Reach} (os:w'.os=w.os) (tape:w'.tape=w.tape) (out:w'.output=w.output) (size:w.heap.size≤w'.heap.size)
  (hh:∀b,b<w.heap.size→((∃key,gw D γ key=some b)∨¬C.mf b)→w'.heap[b]?=w.heap[b]?) (cq:gz D.R w R' w')
  (new:∀b o,R' b o→D.R b o∨(C.mf b∧∀key,gw D γ key≠some b)) (lt:∀b o,R' b o→b<w'.heap.size):dZ C { D with R:=R' } σ γ a w' where
 size:=h.size
 defers:=h.defers
 km:=h.km
 kk:=h.kk
 mg:=h.mg
 slot t ht:=(h.slot t ht).imp id fun ⟨r,g⟩=>⟨r.mono cq,by cases hg:γ t <;> rw [hg] at g <;> exact g⟩
 mem m ts hm:=by
  obtain ⟨cs,hv,ht⟩:=h.mem m ts hm
  refine ⟨cs,hv.cq cq (hh _ hv.lt (.inl ⟨m,iS hm⟩)) (fun o hr=>?_),ht⟩
  rcases new _ _ hr with r | ⟨_,r⟩
  ·exact hv.Cd o r
  ·exact r m (iS hm)
 fV key s hk:=(h.fV key s hk).cq fun g hg=>by
  have hb:gw D γ key=some g:=(iR hk).trans hg
  refine ⟨hh g (h.lt hb) (.inl ⟨key,hb⟩),fun o hr=>?_⟩
  rcases new _ _ hr with r | ⟨_,r⟩
  ·exact r
  ·exact (r key hb).elim
 ps:=h.ps.cq cq fun key hp=>⟨rfl,rfl,rfl,fun g hg=>by
  have hb:gw D γ key=some g:=(iG hp).trans hg
  refine ⟨hh g (h.lt hb) (.inl ⟨key,hb⟩),fun o hr=>?_⟩
  rcases new _ _ hr with r | ⟨_,r⟩
  ·exact r
  ·exact (r key hb).elim⟩
 sep:=h.sep
 own:=h.own
 inv:=h.inv
 ext:=by
  refine ⟨os.trans h.ext.os,tape.trans h.ext.tape,out.trans h.ext.output,Nat.le_trans h.ext.size size,fun b hb hn=>?_,h.ext.cq.trans cq,fun b o hr=>?_⟩
  ·exact (hh b (Nat.lt_of_lt_of_le hb h.ext.size) (.inr fun hm=>by rcases hm with hm | hm <;> first | exact hn hm | omega)).trans (h.ext.heap b hb hn)
  ·rcases new b o hr with r | ⟨r,_⟩
   ·exact h.ext.qG b o r
   ·rcases r with r | r
    ·exact .inr (.inr r)
    ·exact .inr (.inl r)
 nF:=lt
 gl n:=(h.gl n).mono cq
 fix:=h.fix
theorem dZ.grow (h:dZ C D σ γ a w) {w':World} {R':Reach} (os:w'.os=w.os) (tape:w'.tape=w.tape) (out:w'.output=w.output) (size:w.heap.size≤w'.heap.size)
  (hh:∀b,b<w.heap.size→w'.heap[b]?=w.heap[b]?) (sub:∀b o,D.R b o→R' b o) (new:∀b o,R' b o→D.R b o∨w.heap.size≤b) (lt:∀b o,R' b o→b<w'.heap.size):dZ C { D with R:=R' } σ γ a w' :=
 h.world os tape out size (fun b hb _=>hh b hb) (fun b o hr=>⟨sub b o hr,World.cell?_of_block (w:=w) (hh b (h.nF b o hr))⟩)
  (fun b o hr=>(new b o hr).imp id fun hb=>⟨.inr (Nat.le_trans h.ext.size hb),fun key hk=>by have:=h.lt hk;omega⟩) lt
theorem dZ.drew (h:dZ C D σ γ a w):dZ C D σ γ a { w with drawn:=w.drawn+1 } :=
 h.grow (w':={ w with drawn:=w.drawn+1 }) (R':=D.R) rfl rfl rfl (Nat.le_refl _) (fun _ _=>rfl) (fun _ _ h=>h) (fun _ _ h => .inl h) h.nF
theorem Act.C6 (a:Act) (d t:Nat) (v:Value) (hd:d<a.tmps.size):(a.put (some d) v).tmps.getD t undef=if t=d then v else a.tmps.getD t undef:=by
 simp only [Act.put,Array.getD_eq_getD_getElem?,Array.getElem?_setIfInBounds]
 by_cases h:d=t
 ·subst h;simp [hd]
 ·simp [h,Ne.symm h]
theorem Act.size_put (a:Act) (d:Option Nat) (v:Value):(a.put d v).tmps.size=a.tmps.size:=by cases d <;> simp [Act.put]
theorem Act.yB (a:Act) (d:Option Nat) (v:Value):(a.put d v).defers=a.defers:=by cases d <;> simp [Act.put]
theorem dZ.Ks (h:dZ C D σ γ a w) {d:Nat} (hd:d<C.nt):(γ d).gq=false∧(γ d).fL=false:=by
 constructor
 ·cases hc:(γ d).gq with
  | false=>rfl
  | true=>have:=(h.kk d hc).1;omega
 ·cases hc:(γ d).fL with
  | false=>rfl
  | true=>have:=h.mg d hc;have:=h.km;omega
theorem fZ.vP {γ:Ga} {d:Nat} {g:Gh} (h1:(γ d).gq=false) (h2:(γ d).fL=false):∀{x:Gh},fZ γ x→fZ (dP γ d g) x:=by
 have hc:∀m,(γ m).gq=true→(dP γ d g m).gq=true:=fun m hm=>by
  by_cases e:m=d
  ·subst e;rw [h1] at hm;cases hm
  ·rw [bO _ _ e];exact hm
 have hl:∀m,(γ m).fL=true→(dP γ d g m).fL=true:=fun m hm=>by
  by_cases e:m=d
  ·subst e;rw [h2] at hm;cases hm
  ·rw [bO _ _ e];exact hm
 intro x hx
 cases x with
 | ptr m o=>exact hc m hx
 | fV k s=>exact hl _ hx
 | cl ts=>exact fun t ht=>hl _ (hx t ht)
 | y4 ts p=>exact ⟨fun t ht=>hl _ (hx.1 t ht),fun q hq=>hc _ (hx.2 q hq)⟩
 | pe k=>exact hl _ hx
 | pm m=>exact hc m hx
 | nO k s =>
  have hk:k≠d:=fun e=>by subst e;rcases hx with e | ⟨s',e⟩ <;> rw [e] at h2 <;> cases h2
  simp only [fZ,bO _ _ hk];exact hx
 | _=>trivial
theorem jJ {γ:Ga} {d:Nat} {g:Gh} (h2:(γ d).sH=false) (g2:g.sH=false) (key:Nat):(dP γ d g key).par=(γ key).par:=by
 by_cases e:key=d
 ·subst e;rw [bK]
  have f:∀g:Gh,g.sH=false→g.par=none:=fun g h=>by cases g <;> first | rfl | cases h
  rw [f _ g2,f _ h2]
 ·rw [bO _ _ e]
theorem Gh.B8 {g:Gh} (h:g.fL=false):g.sH=false:=by cases g <;> first | rfl | cases h
theorem qp {D:kZ} {γ:Ga} {d:Nat} {g:Gh} (h1:(γ d).gq=false) (h2:(γ d).fL=false) (g1:g.gq=false) (g2:g.fL=false) (key:Nat):gw D (dP γ d g) key=gw D γ key:=by
 unfold gw
 by_cases e:key=d
 ·subst e
  rw [bK]
  cases g <;> simp [Gh.gq,Gh.fL] at g1 g2 <;> cases hg:γ key <;> simp [hg,Gh.gq,Gh.fL] at h1 h2 <;> rfl
 ·rw [bO _ _ e]
theorem dZ.put (h:dZ C D σ γ a w) {d:Nat} (hd:d<C.nt) {s:AV} {g:Gh} {v:Value} (hs:lM D w s g v) (g1:g.gq=false) (g2:g.fL=false) (gm:fZ γ g) :
  dZ C D (dP σ d s) (dP γ d g) (a.put (some d) v) w:=by
 obtain ⟨h1,h2⟩:=h.Ks hd
 have gS:d<a.tmps.size:=by rw [h.size];exact hd
 have jM:∀m,C.nt≤m→m≠d:=fun m hm=>by omega
 have jK:∀m,(dP γ d g m).gq=true→m≠d:=fun m hm e=>by subst e;rw [bK,g1] at hm;cases hm
 have Lk:∀m,(dP γ d g m).fL=true→m≠d:=fun m hm e=>by subst e;rw [bK,g2] at hm;cases hm
 refine ⟨by rw [Act.size_put,h.size],by rw [Act.yB,h.defers],h.km,fun m hm=>?_,fun m hm=>?_,fun t ht=>?_,fun m ts hm=>?_,fun key s' hk=>?_,h.ps.same rfl (fun key hp=>?_),fun k k' g' hk ko=>?_,fun k g' hk=>?_,fun key=>?_,h.ext,h.nF,h.gl,h.fix.dP (Gh.B8 h2) rfl rfl⟩
 ·have e:=jK m hm;rw [bO _ _ e] at hm;exact h.kk m hm
 ·have e:=Lk m hm;rw [bO _ _ e] at hm;exact h.mg m hm
 ·rw [Act.C6 _ _ _ _ gS]
  by_cases e:t=d
  ·subst e;rw [bK,bK,aq rfl];exact hs
  ·rw [bO _ _ e,bO _ _ e,aj e];exact h.slot t ht
 ·have e:=jK m (by rw [hm];rfl);rw [bO _ _ e] at hm ⊢;exact h.mem m ts hm
 ·have e:=Lk key (by rw [hk];rfl);rw [bO _ _ e] at hk;exact h.fV key s' hk
 ·have e:=Lk key (Gh.H9 hp).1;rw [bO _ _ e,bO _ _ e];exact ⟨rfl,rfl,rfl⟩
 ·rw [qp h1 h2 g1 g2] at hk ko;rw [jJ (Gh.B8 h2) (Gh.B8 g2),jJ (Gh.B8 h2) (Gh.B8 g2)];exact h.sep k k' g' hk ko
 ·rw [qp h1 h2 g1 g2] at hk;exact h.own k g' hk
 ·by_cases e:key=d
  ·subst e;rw [bK];exact fZ.vP h1 h2 gm
  ·rw [bO _ _ e];exact fZ.vP h1 h2 (h.inv key)
theorem dZ.dead (h:dZ C D σ γ a w) {k:Nat} (hk:(γ k).gq=false):dZ C D (dP σ k .dead) γ a w:=by
 refine ⟨h.size,h.defers,h.km,h.kk,h.mg,fun t ht=>?_,fun m ts hm=>?_,h.fV,fun key s hs=>?_,h.sep,h.own,h.inv,h.ext,h.nF,h.gl,h.fix⟩
 ·by_cases e:t=k
  ·subst e;rw [bK];exact .inl rfl
  ·rw [bO _ _ e];exact h.slot t ht
 ·have e:m≠k:=fun e=>by subst e;rw [hm] at hk;cases hk
  rw [bO _ _ e];exact h.mem m ts hm
 ·obtain ⟨h1,h2⟩:=h.ps key s hs
  have qc:s8 (dP σ k .dead) γ key:=fun d s1 s' e1 e2=>by
   by_cases e:key=k
   ·subst e;rw [bK];exact .inl rfl
   ·by_cases e':d=k
    ·subst e';rw [bK];exact .inr (.inl rfl)
    ·rw [bO _ _ e,bO _ _ e'];exact h2.2 d s1 s' e1 e2
  by_cases e:key=k
  ·subst e;rw [bK];exact ⟨h1,⟨h2.1.1,.inl rfl⟩,qc⟩
  ·rw [bO _ _ e];exact ⟨h1,h2.1,qc⟩
theorem dZ.kill (h:dZ C D σ γ a w) {k s:Nat} (hk:γ k = .live s):dZ C D σ (dP γ k .used) a w:=by
 have Ts:=h.mg k (by rw [hk];rfl)
 have lQ:∀m,(dP γ k .used m).fL=(γ m).fL:=fun m=>by
  by_cases e:m=k
  ·subst e;rw [bK,hk];rfl
  ·rw [bO _ _ e]
 have jK:∀m,(dP γ k .used m).gq=(γ m).gq:=fun m=>by
  by_cases e:m=k
  ·subst e;rw [bK,hk];rfl
  ·rw [bO _ _ e]
 have hm:∀g,fZ γ g→fZ (dP γ k .used) g:=fun g hg=>by
  cases g <;> simp only [fZ,lQ,jK] at hg ⊢ <;> first | exact hg | skip
  rename_i d s'
  have hd:d≠k:=fun e=>by subst e;rcases hg with e | ⟨pr,e⟩ <;> rw [hk] at e <;> cases e
  rw [bO _ _ hd];exact hg
 have hb:∀key g,gw D (dP γ k .used) key=some g→gw D γ key=some g:=fun key g hg=>by
  unfold gw at hg ⊢
  by_cases e:key=k
  ·subst e;rw [bK] at hg;cases hg
  ·rw [bO _ _ e] at hg;exact hg
 refine ⟨h.size,h.defers,h.km,fun m hm=>h.kk m (by rwa [jK] at hm),fun m hm=>h.mg m (by rwa [lQ] at hm),fun t ht=>?_,fun m ts lP=>?_,fun key s' ko=>?_,h.ps.same rfl (fun key hp=>?_),fun p q g hp hq=>(by rw [jJ (by rw [hk];rfl) rfl,jJ (by rw [hk];rfl) rfl];exact h.sep p q g (hb p g hp) (hb q g hq)),fun p g hp=>h.own p g (hb p g hp),fun key=>?_,h.ext,h.nF,h.gl,h.fix.dP (by rw [hk];rfl) rfl rfl⟩
 ·have e:t≠k:=by have:=h.km;omega
  rw [bO _ _ e];exact h.slot t ht
 ·have e:m≠k:=fun e=>by subst e;rw [bK] at lP;cases lP
  rw [bO _ _ e] at lP;exact h.mem m ts lP
 ·have e:key≠k:=fun e=>by subst e;rw [bK] at ko;cases ko
  rw [bO _ _ e] at ko;exact h.fV key s' ko
 ·have e:key≠k:=fun e=>by subst e;rw [bK] at hp;cases hp
  rw [bO _ _ e];exact ⟨rfl,rfl,rfl⟩
 ·by_cases e:key=k
  ·subst e;rw [bK];trivial
  ·rw [bO _ _ e];exact hm _ (h.inv key)
theorem dZ.u0 (h:dZ C D σ γ a w) {k s:Nat} {v:Value} (hk:γ (lk k) = .no) (ht:gD D.R w v s) (hg:∀g,v.ownBlock=some g→C.mf g∧∀key,gw D γ key≠some g) :
  dZ C { D with τ:=dP D.τ (lk k) v } σ (dP γ (lk k) (.live s)) a w:=by
 have qb:∀j,(γ (lk j)).fL=true→dP D.τ (lk k) v (lk j)=D.τ (lk j):=fun j hj=>by
  have e:lk j≠lk k:=fun e=>by rw [e,hk] at hj;cases hj
  exact bO _ _ e
 have lQ:∀m,(γ m).fL=true→(dP γ (lk k) (.live s) m).fL=true:=fun m hm=>by
  by_cases e:m=lk k
  ·subst e;rw [bK];rfl
  ·rw [bO _ _ e];exact hm
 have jK:∀m,(dP γ (lk k) (.live s) m).gq=(γ m).gq:=fun m=>by
  by_cases e:m=lk k
  ·subst e;rw [bK,hk];rfl
  ·rw [bO _ _ e]
 have hm:∀g,fZ γ g→fZ (dP γ (lk k) (.live s)) g:=fun g hg=>by
  cases g with
  | ptr m o=>simp only [fZ,jK] at hg ⊢;exact hg
  | fV j s'=>exact lQ _ hg
  | cl ts=>exact fun t ht=>lQ _ (hg t ht)
  | y4 ts p=>exact ⟨fun t ht=>lQ _ (hg.1 t ht),fun q hq=>by rw [jK];exact hg.2 q hq⟩
  | pe j=>exact lQ _ hg
  | pm m=>simp only [fZ,jK] at hg ⊢;exact hg
  | nO d s' =>
   have hd:d≠lk k:=fun e=>by subst e;rcases hg with e | ⟨pr,e⟩ <;> rw [hk] at e <;> cases e
   simp only [fZ,bO _ _ hd];exact hg
  | _=>trivial
 have hb:∀key,gw { D with τ:=dP D.τ (lk k) v } (dP γ (lk k) (.live s)) key=if key=lk k then v.ownBlock else gw D γ key:=fun key=>by
  unfold gw
  by_cases e:key=lk k
  ·subst e;rw [bK];simp [bK]
  ·rw [bO _ _ e,aj e]
   cases hg:γ key with
   | live s'=>simp [bO _ _ e]
   | pv s'=>simp [bO _ _ e]
   | pc s'=>simp [bO _ _ e]
   | nO d s'=>simp [bO _ _ e]
   | _=>rfl
 refine ⟨h.size,h.defers,h.km,fun m hm=>h.kk m (by rwa [jK] at hm),fun m hm=>?_,fun t ht=>?_,fun m ts lP=>?_,fun key s' ko=>?_,h.ps.same rfl (fun key hp=>?_),fun p q g hp hq=>?_,fun p g hp=>?_,fun key=>?_,h.ext,h.nF,h.gl,h.fix.of rfl (fun hp=>by
  have e:lk 999999≠lk k:=fun e=>by rw [e,hk] at hp;cases hp
  rw [bO _ _ e];exact ⟨hp,bO _ _ e⟩)⟩
 ·by_cases e:m=lk k
  ·subst e;exact iu k
  ·rw [bO _ _ e] at hm;exact h.mg m hm
 ·have e:t≠lk k:=by have:=h.km;have:=iu k;omega
  rw [bO _ _ e]
  rcases h.slot t ht with e | ⟨r,g⟩
  ·exact .inl e
  ·exact .inr ⟨r,fun hs=>jU.congr (D:=D) (h.inv t) (fun _ _=>rfl) qb (g hs)⟩
 ·have e:m≠lk k:=fun e=>by subst e;rw [bK] at lP;cases lP
  rw [bO _ _ e] at lP
  obtain ⟨cs,hv,o0⟩:=h.mem m ts lP
  refine ⟨cs,hv,fun t ht=>?_⟩
  have hi:=h.inv m
  rw [lP] at hi
  show cs[t.1]?=some (dP D.τ (lk k) v (lk t.2.1))
  rw [qb _ (hi t ht)];exact o0 t ht
 ·by_cases e:key=lk k
  ·subst e;rw [bK] at ko;cases ko;simpa [bK] using ht
  ·rw [bO _ _ e] at ko
   have:=h.fV key s' ko
   rw [←bO D.τ v e] at this
   exact this
 ·have e:key≠lk k:=fun e=>by subst e;rw [bK] at hp;cases hp
  rw [bO _ _ e];exact ⟨rfl,rfl,bO _ _ e⟩
 ·rw [jJ (by rw [hk];rfl) rfl,jJ (by rw [hk];rfl) rfl]
  rw [hb] at hp hq
  split at hp <;> split at hq
  ·rename_i e1 e2;left;rw [e1,e2]
  ·exact ((hg g hp).2 q hq).elim
  ·exact ((hg g hq).2 p hp).elim
  ·exact h.sep p q g hp hq
 ·rw [hb] at hp
  split at hp
  ·exact (hg g hp).1
  ·exact h.own p g hp
 ·by_cases e:key=lk k
  ·subst e;rw [bK];trivial
  ·rw [bO _ _ e];exact hm _ (h.inv key)
theorem dZ.newVar (h:dZ C D σ γ a w) {m b:Nat} {x:AV} {cs:List Value} {ts:List (Nat × (Nat × Nat))} (hm:γ m = .no) (h1:C.nt≤m) (h2:m<999999) (hv:jG D.R w x b cs)
  (o0:∀t∈ts,(γ (lk t.2.1)).fL=true∧cs[t.1]?=some (D.τ (lk t.2.1))) (hb:C.mf b∧∀key,gw D γ key≠some b) :
  dZ C { D with β:=dP D.β m b } (dP σ m x) (dP γ m (.cl ts)) a w:=by
 have Az:∀j,(γ j).gq=true→dP D.β m b j=D.β j:=fun j hj=>by
  have e:j≠m:=fun e=>by subst e;rw [hm] at hj;cases hj
  exact bO _ _ e
 have jK:∀j,(γ j).gq=true→(dP γ m (.cl ts) j).gq=true:=fun j hj=>by
  by_cases e:j=m
  ·subst e;rw [bK];rfl
  ·rw [bO _ _ e];exact hj
 have lQ:∀j,(dP γ m (.cl ts) j).fL=(γ j).fL:=fun j=>by
  by_cases e:j=m
  ·subst e;rw [bK,hm];rfl
  ·rw [bO _ _ e]
 have hM:∀g,fZ γ g→fZ (dP γ m (.cl ts)) g:=fun g hg=>by
  cases g with
  | ptr j o=>exact jK _ hg
  | fV j s'=>simp only [fZ,lQ] at hg ⊢;exact hg
  | cl us=>exact fun t ht=>by rw [lQ];exact hg t ht
  | y4 us p=>exact ⟨fun t ht=>by rw [lQ];exact hg.1 t ht,fun q hq=>jK _ (hg.2 q hq)⟩
  | pe j=>simp only [fZ,lQ] at hg ⊢;exact hg
  | pm m=>exact jK _ hg
  | nO d s' =>
   have hd:d≠m:=fun e=>by subst e;rcases hg with e | ⟨pr,e⟩ <;> rw [hm] at e <;> cases e
   simp only [fZ,bO _ _ hd];exact hg
  | _=>trivial
 have hB:∀key,gw { D with β:=dP D.β m b } (dP γ m (.cl ts)) key=if key=m then some b else gw D γ key:=fun key=>by
  unfold gw
  by_cases e:key=m
  ·subst e;rw [bK];simp [bK]
  ·rw [bO _ _ e,aj e]
   cases hg:γ key with
   | cl us=>simp [bO _ _ e]
   | _=>rfl
 refine ⟨h.size,h.defers,h.km,fun j hj=>?_,fun j hj=>h.mg j (by rwa [lQ] at hj),fun t ht=>?_,fun j us hj=>?_,fun key s' ko=>?_,h.ps.same rfl (fun key hp=>?_),fun p q g hp hq=>?_,fun p g hp=>?_,fun key=>?_,h.ext,h.nF,h.gl,h.fix.dP (by rw [hm];rfl) (by
  have e:999999≠m:=by omega
  exact bO _ _ e) rfl⟩
 ·by_cases e:j=m
  ·subst e;exact ⟨h1,by omega⟩
  ·rw [bO _ _ e] at hj;exact h.kk j hj
 ·have e:t≠m:=by omega
  rw [bO _ _ e,bO _ _ e]
  rcases h.slot t ht with e | ⟨r,g⟩
  ·exact .inl e
  ·exact .inr ⟨r,fun hs=>jU.congr (D:=D) (h.inv t) Az (fun _ _=>rfl) (g hs)⟩
 ·by_cases e:j=m
  ·subst e;rw [bK] at hj;cases hj;rw [bK]
   exact ⟨cs,by simpa [bK] using hv,fun t ht=>(o0 t ht).2⟩
  ·rw [bO _ _ e] at hj;rw [bO _ _ e]
   simpa [bO _ _ e] using h.mem j us hj
 ·have e:key≠m:=fun e=>by subst e;rw [bK] at ko;cases ko
  rw [bO _ _ e] at ko;exact h.fV key s' ko
 ·have e:key≠m:=fun e=>by subst e;rw [bK] at hp;cases hp
  rw [bO _ _ e,bO _ _ e];exact ⟨rfl,rfl,rfl⟩
 ·rw [jJ (by rw [hm];rfl) rfl,jJ (by rw [hm];rfl) rfl]
  rw [hB] at hp hq
  split at hp <;> split at hq
  ·rename_i e1 e2;left;rw [e1,e2]
  ·cases hp;exact (hb.2 q hq).elim
  ·cases hq;exact (hb.2 p hp).elim
  ·exact h.sep p q g hp hq
 ·rw [hB] at hp
  split at hp
  ·cases hp;exact hb.1
  ·exact h.own p g hp
 ·by_cases e:key=m
  ·subst e;rw [bK];exact fun t ht=>by rw [lQ];exact (o0 t ht).1
  ·rw [bO _ _ e];exact hM _ (h.inv key)
theorem dZ.store (h:dZ C D σ γ a w) {m:Nat} {w':World} {x:AV} {cs:List Value} {ts us:List (Nat × (Nat × Nat))} (hm:γ m = .cl ts)
  (os:w'.os=w.os) (tape:w'.tape=w.tape) (out:w'.output=w.output) (size:w'.heap.size=w.heap.size) (hh:∀b,b≠D.β m→w'.heap[b]?=w.heap[b]?)
  (hv:jG D.R w' x (D.β m) cs) (CC:∀t∈us,(γ (lk t.2.1)).fL=true∧cs[t.1]?=some (D.τ (lk t.2.1))):dZ C D (dP σ m x) (dP γ m (.cl us)) a w':=by
 obtain ⟨cs0,hv0,_⟩:=h.mem m ts hm
 have qd:∀o,¬D.R (D.β m) o:=hv0.Cd
 have cq:gz D.R w D.R w':=fun b o hr=>⟨hr,World.cell?_of_block (w:=w) (hh b (fun e=>qd o (e ▸ hr)))⟩
 have jK:∀j,(dP γ m (.cl us) j).gq=(γ j).gq:=fun j=>by
  by_cases e:j=m
  ·subst e;rw [bK,hm];rfl
  ·rw [bO _ _ e]
 have lQ:∀j,(dP γ m (.cl us) j).fL=(γ j).fL:=fun j=>by
  by_cases e:j=m
  ·subst e;rw [bK,hm];rfl
  ·rw [bO _ _ e]
 have hM:∀g,fZ γ g→fZ (dP γ m (.cl us)) g:=fun g hg=>by
  cases g <;> simp only [fZ,jK,lQ] at hg ⊢ <;> first | exact hg | skip
  rename_i d s'
  have hd:d≠m:=fun e=>by subst e;rcases hg with e | ⟨pr,e⟩ <;> rw [hm] at e <;> cases e
  rw [bO _ _ hd];exact hg
 have hB:∀key,gw D (dP γ m (.cl us)) key=gw D γ key:=fun key=>by
  unfold gw
  by_cases e:key=m
  ·subst e;rw [bK,hm]
  ·rw [bO _ _ e]
 refine ⟨h.size,h.defers,h.km,fun j hj=>h.kk j (by rwa [jK] at hj),fun j hj=>h.mg j (by rwa [lQ] at hj),fun t ht=>?_,fun j vs hj=>?_,fun key s' ko=>?_,h.ps.cq cq (fun key hp=>?_),fun p q g hp hq=>(by rw [jJ (by rw [hm];rfl) rfl,jJ (by rw [hm];rfl) rfl];exact h.sep p q g (by rwa [hB] at hp) (by rwa [hB] at hq)),fun p g hp=>h.own p g (by rwa [hB] at hp),fun key=>?_,?_,fun b o hr=>by rw [size];exact h.nF b o hr,fun n=>(h.gl n).mono cq,h.fix.dP (by rw [hm];rfl) rfl rfl⟩
 ·have e:t≠m:=by have:=(h.kk m (by rw [hm];rfl)).1;omega
  rw [bO _ _ e,bO _ _ e]
  exact (h.slot t ht).imp id fun ⟨r,g⟩=>⟨r.mono cq,g⟩
 ·by_cases e:j=m
  ·subst e;rw [bK] at hj;cases hj;rw [bK];exact ⟨cs,hv,fun t ht=>(CC t ht).2⟩
  ·rw [bO _ _ e] at hj;rw [bO _ _ e]
   obtain ⟨MS,A8,vl⟩:=h.mem j vs hj
   have jM:D.β j≠D.β m:=fun he=>e (h.rz (by rw [hj];rfl) (by rw [iS hj,he]) (iS hm))
   exact ⟨MS,A8.cq cq (hh _ jM) A8.Cd,vl⟩
 ·have e:key≠m:=fun e=>by subst e;rw [bK] at ko;cases ko
  rw [bO _ _ e] at ko
  refine (h.fV key s' ko).cq fun g hg=>⟨hh g fun he=>e (h.rz (by rw [ko];rfl) (by rw [iR ko,hg,he]) (iS hm)),fun _ hr=>hr⟩
 ·have e:key≠m:=fun e=>by subst e;rw [bK] at hp;cases hp
  rw [bO _ _ e] at hp ⊢
  rw [bO _ _ e]
  exact ⟨rfl,rfl,rfl,fun g hg=>⟨hh g fun he=>e (h.rz (by rw [hm];rfl) (by rw [iS hm,←he]) ((iG hp).trans hg)).symm,fun _ hr=>hr⟩⟩
 ·by_cases e:key=m
  ·subst e;rw [bK];exact fun t ht=>by rw [lQ];exact (CC t ht).1
  ·rw [bO _ _ e];exact hM _ (h.inv key)
 ·have pb:=h.own m _ (iS hm)
  refine ⟨os.trans h.ext.os,tape.trans h.ext.tape,out.trans h.ext.output,by rw [size];exact h.ext.size,fun b hb hn=>?_,h.ext.cq.trans cq,h.ext.qG⟩
  refine (hh b fun e=>?_).trans (h.ext.heap b hb hn)
  subst e
  rcases pb with lP | lP
  ·exact hn lP
  ·omega
end
end Go.Eng
namespace Go.Eng
open Go.RowKit
theorem mK {x:Operand} {rs:List eI} (h:dy [x] rs=true):∃r,rs=[r]∧dv x r=true:=by
 match rs,h with
 | [r],h=>simp [dy] at h;exact ⟨r,rfl,h⟩
 | [],h=>simp [dy] at h
 | _ :: _ :: _,h=>simp [dy] at h
theorem j0 {x y:Operand} {rs:List eI} (h:dy [x,y] rs=true):∃r q,rs=[r,q]∧dv x r=true∧dv y q=true:=by
 match rs,h with
 | [r,q],h=>simp [dy] at h;exact ⟨r,q,rfl,h⟩
 | [],h=>simp [dy] at h
 | [_],h=>simp [dy] at h
 | _ :: _ :: _ :: _,h=>simp [dy] at h
theorem BV {x y z:Operand} {rs:List eI} (h:dy [x,y,z] rs=true):∃r q s,rs=[r,q,s]∧dv x r=true∧dv y q=true∧dv z s=true:=by
 match rs,h with
 | [r,q,s],h=>simp [dy] at h;exact ⟨r,q,s,rfl,h⟩
 | [],h=>simp [dy] at h
 | [_],h=>simp [dy] at h
 | [_,_],h=>simp [dy] at h
 | _ :: _ :: _ :: _ :: _,h=>simp [dy] at h
theorem vZ {x y:Value} (h:za x y=true):x=y:=by
 unfold za at h
 split at h <;> first | (simp at h;done) | (simp_all;done) | skip
 ·rename_i a b
  cases a;cases b;rename_i a b;cases a;cases b;simp_all
section
variable {R:Reach} {w:World}
theorem pf {x:Value} {y:AV} (h:jw x y=true):Rep R w y x:=by
 unfold jw at h
 split at h
 ·exact .nil _
 ·exact .v _
 ·cases h
 ·rw [vZ h];exact .v _
 ·cases h
theorem tx {x:Value} {y:AV} (h:jw x y=true):x.oneCell'=true:=by
 unfold jw at h
 split at h
 ·rfl
 ·rfl
 ·cases h
 ·have:=vZ h;subst this;unfold za at h;split at h <;> first | rfl | (simp at h)
 ·cases h
theorem js:∀{xs:List Value} {ys:List AV},gu xs ys=true→eS R w ys xs
 | [],[],_ => .nil
 | x :: xs,y :: ys,h=>by
  simp [gu] at h
  exact .cons (tx h.1) (pf h.1) (js h.2)
 | [],_ :: _,h=>by simp [gu] at h
 | _ :: _,[],h=>by simp [gu] at h
theorem xu {x:Value} {y:AV} (h:vE x y=true):Rep R w y x:=by
 unfold vE at h
 split at h
 ·rename_i cs ys;cases cs;exact .ag (js h)
 ·cases h
 ·exact pf h
end
section
variable {C:Ctx} {D:kZ} {σ:Sg} {γ:Ga} {a:Act} {w:World}
theorem dZ.jz (h:dZ C D σ γ a w) {x:Operand} {r:eI} (hx:dv x r=true) (hs:small C.nt [x]=true):lM D w (r.ev C.E σ) (r.gh γ) (a.eval x):=by
 unfold dv at hx
 split at hx
 ·simp at hx;subst hx;simp [small] at hs;exact h.slot _ hs
 ·exact .inr ⟨xu hx,fun _=>trivial⟩
 ·simp at hx;obtain ⟨⟨h1,h2⟩,h3⟩:=hx;subst h1;subst h2;subst h3;exact .inr ⟨.v _,fun _=>trivial⟩
 ·simp at hx;subst hx;exact .inr ⟨h.gl _,fun _=>trivial⟩
 ·cases hx
theorem lM.rep {s:AV} {g:Gh} {x:Value} (h:lM D w s g x) (hs:s ≠ .dead):Rep D.R w s x:=(h.resolve_left hs).1
theorem lM.gh {s:AV} {g:Gh} {x:Value} (h:lM D w s g x) (hs:s ≠ .dead) (hk:s ≠ .sk):jU D g x:=(h.resolve_left hs).2 hk
theorem lM.plain {s:AV} {x:Value} (h:Rep D.R w s x):lM D w s .no x := .inr ⟨h,fun _=>trivial⟩
theorem dZ.val (h:dZ C D σ γ a w) {o:Oper} {d:Nat} (hd:o.dst=some d) (hl:d<C.nt) {v:Value} {s:AV} {g:Gh} (hr:(execOp a.eval o).run C.P w = .ok (.value v) w)
  (hs:lM D w s g v) (g1:g.gq=false) (g2:g.fL=false) (gm:fZ γ g) {K:Act→World→Prop} {Q:Exit→Act→World→Prop}
  (hK:∀D' a' w',dZ C D' (dP σ d s) (dP γ d g) a' w'→K a' w'):o.wp C.P a w K Q:=by
 unfold Oper.wp
 rw [hr,Oper.upon_value,hd]
 exact hK _ _ _ (h.put hl hs g1 g2 gm)
theorem dZ.ir (h:dZ C D σ γ a w) {o:Oper} {d:Nat} (hd:o.dst=some d) (hl:d<C.nt) {v:Value} {s:AV} (hr:(execOp a.eval o).run C.P w = .ok (.value v) w)
  (hs:Rep D.R w s v) {K:Act→World→Prop} {Q:Exit→Act→World→Prop}
  (hK:∀D' a' w',dZ C D' (dP σ d s) (dP γ d .no) a' w'→K a' w'):o.wp C.P a w K Q :=
 h.val hd hl hr (.plain hs) rfl rfl trivial hK
theorem dZ.mM (h:dZ C D σ γ a w) (r:eI):fZ γ (r.gh γ):=by
 cases r with
 | s t=>exact h.inv t
 | _=>trivial
theorem fZ.strip {g:Gh} (h:fZ γ g):fZ γ g.strip:=by cases g <;> first | exact h | trivial
variable {o:Oper} {d:Nat} {K:Act→World→Prop} {Q:Exit→Act→World→Prop} (h:dZ C D σ γ a w) (hd:o.dst=some d) (hl:d<C.nt)
include h hd hl
theorem FU {x:Operand} {r:eI} (ho:o.op = .move x∨o.op = .assign x) (hx:dv x r=true) (hs:small C.nt [x]=true)
  (hK:∀D' a' w',dZ C D' (dP σ d (r.ev C.E σ)) (dP γ d (r.gh γ).strip) a' w'→K a' w'):o.wp C.P a w K Q:=by
 have hr:(execOp a.eval o).run C.P w = .ok (.value (a.eval x)) w:=by rcases ho with e | e <;> simp [execOp,e]
 refine h.val hd hl hr (g:=(r.gh γ).strip) ?_ ?_ ?_ (h.mM r).strip hK
 ·rcases h.jz hx hs with e | ⟨e1,e2⟩
  ·exact .inl e
  ·exact .inr ⟨e1,by cases hg:r.gh γ <;> rw [hg] at e2 <;> first | exact e2 | trivial⟩
 ·cases r.gh γ <;> rfl
 ·cases r.gh γ <;> rfl
theorem Em {c x y:Operand} {r q s:eI} {b:Bool} (ho:o.op = .pick c x y) (hc:dv c r=true) (hx:dv x q=true) (hy:dv y s=true) (hs:small C.nt [c]=true) (iw:small C.nt [x]=true) (pE:small C.nt [y]=true)
  (hb:r.ev C.E σ = .v (.bool b)) (hK:∀D' a' w',dZ C D' (dP σ d (if b then q.ev C.E σ else s.ev C.E σ)) (dP γ d .no) a' w'→K a' w'):o.wp C.P a w K Q:=by
 have hv:=(h.jz hc hs).rep (by rw [hb];simp)
 rw [hb] at hv
 have A8:a.eval c = .bool b:=by generalize a.eval c=z at hv;cases hv;rfl
 have hr:(execOp a.eval o).run C.P w = .ok (.value (if b then a.eval x else a.eval y)) w:=by cases b <;> simp [execOp,ho,A8,asBool]
 refine h.val hd hl hr (g := .no) ?_ rfl rfl trivial hK
 cases b with
 | true=>exact (h.jz hx iw).imp id fun e=>⟨e.1,fun _=>trivial⟩
 | false=>exact (h.jz hy pE).imp id fun e=>⟨e.1,fun _=>trivial⟩
omit h hd hl in
theorem Rep.iB {R:Reach} {x y:Value} (h:Rep R w (.v x) y):y=x:=by cases h;rfl
omit h hd hl in
theorem Dz {P:Program} {w:World} {op:BinOp} {t:TypeId} {x y z:Value} (h:kD op x y=some z):(binOp op t x y).run P w = .ok z w:=by
 unfold kD at h
 split at h
 all_goals repeat' split at h
 all_goals first
  | (cases h;done)
  | (cases h;simp only [binOp,Op.shift,Sem.run_ite];rw [aj (by assumption)];rfl)
  | (cases h;simp_all [binOp,Op.shift,Op.intArith,Op.intDiv,Op.intBits,Op.intCmp,Op.stringOp,eF];done)
  | skip
omit h hd hl in
theorem DW {P:Program} {w:World} {op:UnOp} {x z:Value} (h:JB op x=some z):(Op.unary op x).run P w = .ok z w:=by
 unfold JB at h
 split at h <;> cases h <;> simp [Op.unary,Op.intArith,Op.intBits,eF]
theorem Ho {b:BinOp} {t t':TypeId} {x y:Operand} {r q:eI} {u v z:Value} (ho:o.op = .binOp b t x y t') (hx:dv x r=true) (hy:dv y q=true) (iw:small C.nt [x]=true) (pE:small C.nt [y]=true)
  (hr:r.ev C.E σ = .v u) (hq:q.ev C.E σ = .v v) (hz:kD b u v=some z) (hK:∀D' a' w',dZ C D' (dP σ d (.v z)) (dP γ d .no) a' w'→K a' w'):o.wp C.P a w K Q:=by
 have e1:=(h.jz hx iw).rep (by rw [hr];simp)
 have e2:=(h.jz hy pE).rep (by rw [hq];simp)
 rw [hr] at e1;rw [hq] at e2
 have hg:eqGuard b t x y u v=pure ():=by
  unfold kD at hz
  split at hz <;> first | (cases hz;done) | (unfold eqGuard;split <;> simp_all)
 have eh:(execOp a.eval o).run C.P w = .ok (.value z) w:=by
  simp only [execOp,ho,e1.iB,e2.iB,hg,Sem.run_bind,Sem.run_pure,Result.andThen_ok,Dz hz]
 exact h.ir hd hl eh (.v z) hK
theorem Kk {neg:Bool} {b:BinOp} {t t':TypeId} {x y:Operand} {r q:eI} {u v:Bool} (ho:o.op = .binOp b t x y t') (hb:b=if neg then .neq else .eql) (ht:C.P.underlying t=some .bool) (hx:dv x r=true) (hy:dv y q=true) (iw:small C.nt [x]=true) (pE:small C.nt [y]=true)
  (hr:r.ev C.E σ = .v (.bool u)) (hq:q.ev C.E σ = .v (.bool v)) (hK:∀D' a' w',dZ C D' (dP σ d (.v (.bool (if neg then !(u == v) else u == v)))) (dP γ d .no) a' w'→K a' w'):o.wp C.P a w K Q:=by
 have e1:=(h.jz hx iw).rep (by rw [hr];simp)
 have e2:=(h.jz hy pE).rep (by rw [hq];simp)
 rw [hr] at e1;rw [hq] at e2
 have hg:eqGuard b t x y (.bool u) (.bool v)=pure ():=by unfold eqGuard;cases neg <;> simp [hb]
 have he:(Op.equal t (.bool u) (.bool v)).run C.P w = .ok (u == v) w:=by
  unfold Op.equal Op.maxDepth
  rw [show (10000:Nat)=9999+1 from rfl,Op.equalIn]
  simp [run_underlying ht]
 have eh:(execOp a.eval o).run C.P w = .ok (.value (.bool (if neg then !(u == v) else u == v))) w:=by
  simp only [execOp,ho,e1.iB,e2.iB,hg,Sem.run_bind,Sem.run_pure,Result.andThen_ok]
  cases neg <;> simp [hb,binOp,he]
 exact h.ir hd hl eh (.v _) hK
theorem J0 {b:UnOp} {t:TypeId} {x:Operand} {r:eI} {u z:Value} (ho:o.op = .unOp b t x) (hx:dv x r=true) (iw:small C.nt [x]=true)
  (hr:r.ev C.E σ = .v u) (hz:JB b u=some z) (hK:∀D' a' w',dZ C D' (dP σ d (.v z)) (dP γ d .no) a' w'→K a' w'):o.wp C.P a w K Q:=by
 have e1:=(h.jz hx iw).rep (by rw [hr];simp)
 rw [hr] at e1
 have eh:(execOp a.eval o).run C.P w = .ok (.value z) w:=by
  simp only [execOp,ho,e1.iB,Sem.run_bind,Sem.run_pure,Result.andThen_ok,DW hz]
 exact h.ir hd hl eh (.v z) hK
theorem Kh {k k':IntKind} {n:Int} {s t:TypeId} {x:Operand} {r:eI} (ho:o.op = .convert s t x) (ht:C.P.underlying t=some (.int k)) (hs:(C.P.underlying s).isSome=true) (hx:dv x r=true) (iw:small C.nt [x]=true)
  (hr:r.ev C.E σ = .v (.int k' n)) (hK:∀D' a' w',dZ C D' (dP σ d (.v (.int k (k.wrap n)))) (dP γ d .no) a' w'→K a' w'):o.wp C.P a w K Q:=by
 have e1:=(h.jz hx iw).rep (by rw [hr];simp)
 rw [hr] at e1
 obtain ⟨u,hu⟩:=Option.isSome_iff_exists.1 hs
 have eh:(execOp a.eval o).run C.P w = .ok (.value (.int k (k.wrap n))) w:=by
  simp only [execOp,ho,e1.iB,convert,Sem.run_bind,run_underlying hu,run_underlying ht,Result.andThen_ok,Conv.intToInt,Sem.run_pure]
 exact h.ir hd hl eh (.v _) hK
theorem Kg {s t:TypeId} {x:Operand} {r:eI} {b:ByteArray} (ho:o.op = .convert s t x) (ht:C.P.underlying t=some .string) (hs:C.P.underlying s=some .string) (hx:dv x r=true) (iw:small C.nt [x]=true)
  (hr:r.ev C.E σ = .v (.string b)) (hK:∀D' a' w',dZ C D' (dP σ d (.v (.string b))) (dP γ d .no) a' w'→K a' w'):o.wp C.P a w K Q:=by
 have e1:=(h.jz hx iw).rep (by rw [hr];simp)
 rw [hr] at e1
 have eh:(execOp a.eval o).run C.P w = .ok (.value (.string b)) w:=by
  simp [execOp,ho,e1.iB,convert,run_underlying hs,run_underlying ht]
 exact h.ir hd hl eh (.v _) hK
theorem tK {x y:Operand} {r q:eI} {k k':IntKind} {u v:Int} {mx:Bool} {ts:Array TypeId} (ho:o.op = .call { callee := .builtin (if mx then .max else .min),args:=#[x,y],argTypes:=ts }) (hx:dv x r=true) (hy:dv y q=true) (iw:small C.nt [x]=true) (pE:small C.nt [y]=true)
  (hr:r.ev C.E σ = .v (.int k u)) (hq:q.ev C.E σ = .v (.int k' v)) (hK:∀D' a' w',dZ C D' (dP σ d (.v (.int k (if mx then pX u v else Cg u v)))) (dP γ d .no) a' w'→K a' w'):o.wp C.P a w K Q:=by
 have e1:=(h.jz hx iw).rep (by rw [hr];simp)
 have e2:=(h.jz hy pE).rep (by rw [hq];simp)
 rw [hr] at e1;rw [hq] at e2
 have eh:(execOp a.eval o).run C.P w = .ok (.value (.int k (if mx then pX u v else Cg u v))) w:=by
  cases mx <;> simp [execOp,ho,e1.iB,e2.iB,resolve,invoke,builtin,Builtin.min_,Builtin.max_,Builtin.min2,Builtin.max2,Cg,pX]
 exact h.ir hd hl eh (.v _) hK
omit h hd hl in
theorem jU.comp {i:Nat} {ys:List Value} {y:Value} {g:Gh} (hg:jU D g (.tuple ⟨ys⟩)) (hy:ys[i]?=some y):jU D (g.comp i) y:=by
 cases g with
 | y4 ts p =>
  obtain ⟨zs,e,h1,h2⟩:=hg
  cases e
  simp only [Gh.comp]
  split
  ·rename_i t hf
   have hm:=List.mem_of_find?_eq_some hf
   have hp:=List.find?_some hf
   simp at hp
   have:=h1 _ hm
   simp only [hp,hy] at this
   have e:=Option.some.inj this.1
   exact ⟨e,by rw [e];exact this.2⟩
  ·split
   ·rename_i j m
    split
    ·rename_i e;subst e
     have:=h2 _ rfl
     rw [hy] at this
     exact Option.some.inj this
    ·trivial
   ·trivial
 | _=>trivial
omit h hd hl in
theorem fZ.comp {i:Nat} {g:Gh} (hg:fZ γ g):fZ γ (g.comp i):=by
 cases g with
 | y4 ts p =>
  simp only [Gh.comp]
  split
  ·rename_i t hf;exact hg.1 _ (List.mem_of_find?_eq_some hf)
  ·split
   ·rename_i j m
    split
    ·exact hg.2 _ rfl
    ·trivial
   ·trivial
 | _=>trivial
omit h hd hl in
theorem Gh.uk (i:Nat) (g:Gh):(g.comp i).gq=false∧(g.comp i).fL=false:=by
 unfold Gh.comp
 repeat' split
 all_goals exact ⟨rfl,rfl⟩
theorem Kf {i:Nat} {x:Operand} {r:eI} {vs:List AV} {s:AV} (ho:o.op = .extract x i) (hx:dv x r=true) (iw:small C.nt [x]=true)
  (hr:r.ev C.E σ = .tu vs) (hi:vs[i]?=some s) (hK:∀D' a' w',dZ C D' (dP σ d s) (dP γ d ((r.gh γ).comp i)) a' w'→K a' w'):o.wp C.P a w K Q:=by
 have e0:=h.jz hx iw
 have e1:=e0.rep (by rw [hr];simp)
 have e2:=e0.gh (by rw [hr];simp) (by rw [hr];rintro e;cases e;simp at hi)
 rw [hr] at e1
 obtain ⟨ys,hy,hT⟩:∃ys,a.eval x = .tuple ⟨ys⟩∧gT D.R w vs ys:=by generalize a.eval x=z at e1;cases e1;exact ⟨_,rfl,‹_›⟩
 obtain ⟨y,tZ,DQ⟩:=hT.get i s hi
 have eh:(execOp a.eval o).run C.P w = .ok (.value y) w:=by
  simp [execOp,ho,hy,Instr.extract,tZ]
 rw [hy] at e2
 exact h.val hd hl eh (.inr ⟨DQ,fun _=>e2.comp tZ⟩) (Gh.uk _ _).1 (Gh.uk _ _).2 (h.mM r).comp hK
end
end Go.Eng
namespace Go.Eng
open Go.RowKit
section
variable {P:Program}
theorem ic {t:TypeId} (h:j9 P t=true):P.underlying t=some .string:=by
 unfold j9 at h;split at h <;> simp_all
theorem vg {t:TypeId} (h:vh P t=true):P.underlying t=some .bool:=by
 unfold vh at h;split at h <;> simp_all
theorem rh {t:TypeId} {k:IntKind} (h:ve P t k=true):P.underlying t=some (.int k):=by
 unfold ve at h;split at h <;> simp_all
theorem iM {t e:TypeId} (h:kO P t=some e):P.underlying t=some (.slice e):=by
 unfold kO at h
 cases hu:P.underlying t with
 | none=>simp [hu] at h
 | some d=>simp only [hu,Option.bind_some] at h;split at h <;> simp_all
theorem iJ {t:TypeId} {n:Nat} (h:jg P t=some n):∃i,P.info? t=some i∧i.size=n:=by
 unfold jg at h
 cases hu:P.info? t with
 | none=>simp [hu] at h
 | some i=>simp [hu] at h;exact ⟨i,rfl,h⟩
theorem lZ {t:TypeId} {s:Nat} (h:nQ P t s=true):∃e i,P.underlying t=some (.slice e)∧P.info? e=some i∧i.size=s∧0<s:=by
 unfold nQ at h
 cases he:kO P t with
 | none=>simp [he] at h
 | some e =>
  simp [he] at h
  obtain ⟨i,h1,h2⟩:=iJ h.1
  exact ⟨e,i,iM he,h1,h2,h.2⟩
theorem kH {t:TypeId} (h:ka P t=true):∃e,P.underlying t=some (.slice e)∧P.underlying e=some (.int .u8):=by
 unfold ka at h
 cases he:kO P t with
 | none=>simp [he] at h
 | some e=>simp [he] at h;exact ⟨e,iM he,rh h⟩
theorem iV {t:TypeId} {n:Nat} {agg:Bool} (h:jZ P t n agg=true):∃i,P.info? t=some i∧i.size=n∧kS P t=some agg∧(agg=true∨n=1):=by
 unfold jZ at h
 simp at h
 obtain ⟨⟨h1,h2⟩,h3⟩:=h
 obtain ⟨i,e1,e2⟩:=iJ h1
 exact ⟨i,e1,e2,h2,h3⟩
theorem lU {t:TypeId} {f:Nat} {fl:Field} (h:mw P t f=some fl):∃fs,P.underlying t=some (.struct fs)∧fs[f]?=some fl:=by
 unfold mw at h
 cases hu:P.underlying t with
 | none=>simp [hu] at h
 | some d=>simp only [hu,Option.bind_some] at h;split at h <;> simp_all
theorem run_sizeOf {t:TypeId} {i:TypeInfo} (h:P.info? t=some i) (w:World):(sizeOf t).run P w = .ok i.size w:=by simp [sizeOf,typeInfo,h]
theorem qF {t:TypeId} {b:Bool} (h:kS P t=some b) (w:World):(isAgg t).run P w = .ok b w:=by
 unfold kS at h
 cases hu:P.underlying t with
 | none=>simp [hu] at h
 | some d =>
  simp only [hu,Option.map_some,ax] at h
  unfold isAgg
  simp only [Sem.run_bind,run_underlying hu,Result.andThen_ok]
  cases d <;> simp_all
theorem kJ {t:TypeId} {i:TypeInfo} {agg:Bool} (hi:P.info? t=some i) (ha:kS P t=some agg) (h1:agg=true∨i.size=1) {w:World} {b off:Nat} {ys:List Value} (hl:ys.length=i.size)
  (hc:∀j y,ys[j]?=some y→w.cell? ⟨b,off+j,none⟩=some y):(loadVar t ⟨b,off,none⟩).run P w = .ok (if agg then .agg ⟨ys⟩ else ys.headD undef) w:=by
 unfold loadVar
 simp only [Sem.run_bind,qF ha,Result.andThen_ok]
 cases agg with
 | true =>
  have:=run_loadCells_list (P:=P) w ⟨b,off,none⟩ ys (fun j v hj=>by
   have h:=hc j v hj
   unfold Addr.add
   split
   ·rename_i e;subst e;exact h
   ·exact h)
  simp [run_sizeOf hi,←hl,this]
 | false =>
  have hs:i.size=1:=by simpa using h1
  match ys,hl with
  | [y],_ =>
   have:=hc 0 y rfl
   simp at this
   simp [this]
  | [],hl=>simp [hs] at hl
  | _ :: _ :: _,hl=>simp [hs] at hl
end
theorem y5 {α:Type} {l:List α} {i:Nat} (h:i<l.length):(l.drop i).take 1=[l[i]]:=by
 rw [List.drop_eq_getElem_cons h,List.take_succ_cons,List.take_zero]
theorem bsize (b:ByteArray):b.data.toList.length=b.size:=by rw [Array.length_toList];rfl
theorem Pd {b:ByteArray} {i:Nat} {x:UInt8} (h:b.data.toList[i]?=some x):b[i]?=some x:=by
 have gS:=(aE.1 h).1
 rw [bsize] at gS
 rw [getElem?_pos b i gS,←(aE.1 h).2]
 rfl
section
variable {C:Ctx} {D:kZ} {σ:Sg} {γ:Ga} {a:Act} {w:World}
theorem Rep.qE {R:Reach} {w:World} {s:Nat} {es:List AV} {y:Value} (h:Rep R w (.sl s es) y) :
  (es=[]∧y = .slice none 0 0)∨(∃b off cap,y = .slice (some ⟨b,off,none⟩) es.length cap∧es.length≤cap∧cap≤maxLen∧jf R w s es b off)∨(es=[]∧∃ad cap,y = .slice (some ad) 0 cap∧cap≤maxLen):=by
 cases h with
 | nil=>exact .inl ⟨rfl,rfl⟩
 | sl h1 h2 h3 h4=>subst h1;exact .inr (.inl ⟨_,_,_,rfl,h2,h3,h4⟩)
 | em _ h=>exact .inr (.inr ⟨rfl,_,_,rfl,h⟩)
theorem Rep.GU {R:Reach} {w:World} {s s':Nat} {es:List AV} {y:Value} (h:Rep R w (.sl s es) y) (ht:gD R w y s') :
  (es=[]∧y = .slice none 0 0)∨∃b off cap,y = .slice (some ⟨b,off,none⟩) es.length cap∧es.length≤cap∧cap≤maxLen∧jf R w s es b off:=by
 rcases h.qE with e | e | ⟨rfl,ad,cap,rfl,hc⟩
 ·exact .inl e
 ·exact .inr e
 ·rcases ht with e | ⟨g,n,yG,cur,el,fz,e,_⟩
  ·cases e
  ·cases e;exact .inr ⟨_,_,_,rfl,Nat.zero_le _,hc,.nil _ _ _⟩
theorem Rep.xU {R:Reach} {w:World} {x:AV} {y:Value} (h:Rep R w (.ro x) y):∃b off s,y = .pointer (some ⟨b,off,none⟩)∧kY R w s x b off:=by
 cases h with
 | ro h=>exact ⟨_,_,_,rfl,h⟩
theorem Rep.DK {R:Reach} {w:World} {cs:List AV} {y:Value} (h:Rep R w (.ag cs) y):∃ys,y = .agg ⟨ys⟩∧eS R w cs ys:=by
 cases h with
 | ag h=>exact ⟨_,rfl,h⟩
theorem Rep.Bp {R:Reach} {w:World} {s:Nat} {es:List AV} {y:Value} (h:Rep R w (.sl s es) y):∃q cap,y = .slice q es.length cap:=by
 rcases h.qE with ⟨rfl,rfl⟩ | ⟨b,off,cap,rfl,_⟩ | ⟨rfl,ad,cap,rfl,_⟩
 ·exact ⟨_,_,rfl⟩
 ·exact ⟨_,_,rfl⟩
 ·exact ⟨_,_,rfl⟩
theorem JS {R:Reach} {x:AV} {ys:List Value} (h:eS R w x.cells ys):Rep R w x (if x.pC then .agg ⟨ys⟩ else ys.headD undef):=by
 cases x with
 | ag cs=>exact .ag h
 | _ =>
  simp only [AV.cells,AV.pC] at h ⊢
  cases h with
  | cons _ h1 h2=>cases h2;simpa using h1
theorem mJ {R:Reach} {cs:List AV} {ys:List Value} {o n:Nat} {agg:Bool} {x:AV} (h:eS R w cs ys) (hp:gW cs o n agg=some x) (h1:agg=true∨n=1) :
  ((ys.drop o).take n).length=n∧Rep R w x (if agg then .agg ⟨(ys.drop o).take n⟩ else ((ys.drop o).take n).headD undef):=by
 have hlen:=h.length
 unfold gW at hp
 cases agg with
 | true =>
  simp only [if_true] at hp
  split at hp
  ·rename_i hle
   cases hp
   exact ⟨by simp;omega,.ag ((h.drop o).take n)⟩
  ·cases hp
 | false =>
  simp at h1
  subst h1
  simp at hp
  obtain ⟨y,tZ,_,DQ⟩:=h.get o x hp
  have gS:=(aE.1 tZ).1
  refine ⟨by simp;omega,?_⟩
  have:(ys.drop o).take 1=[y]:=by
   rw [y5 gS,(aE.1 tZ).2]
  simpa [this] using DQ
variable {o:Oper} {d:Nat} {K:Act→World→Prop} {Q:Exit→Act→World→Prop} (h:dZ C D σ γ a w) (hd:o.dst=some d) (hl:d<C.nt)
include h hd hl
theorem Aq {x:Operand} {r:eI} {t e:TypeId} {s:Nat} {es:List AV} (ho:o.op = .call { callee := .builtin .len,args:=#[x],argTypes:=#[t] }) (ht:C.P.underlying t=some (.slice e)) (hx:dv x r=true) (iw:small C.nt [x]=true)
  (hr:r.ev C.E σ = .sl s es) (hK:∀D' a' w',dZ C D' (dP σ d (.v (.int .i64 es.length))) (dP γ d .no) a' w'→K a' w'):o.wp C.P a w K Q:=by
 have e1:=(h.jz hx iw).rep (by rw [hr];simp)
 rw [hr] at e1
 obtain ⟨q,cap,hq⟩:=e1.Bp
 have eh:(execOp a.eval o).run C.P w = .ok (.value (.int .i64 es.length)) w:=by
  simp [execOp,ho,hq,resolve,invoke,builtin,Builtin.len_,run_underlying ht,goInt]
 exact h.ir hd hl eh (.v _) hK
theorem ye {x:Operand} {r:eI} {t:TypeId} {b:ByteArray} (ho:o.op = .call { callee := .builtin .len,args:=#[x],argTypes:=#[t] }) (ht:C.P.underlying t=some .string) (hx:dv x r=true) (iw:small C.nt [x]=true)
  (hr:r.ev C.E σ = .v (.string b)) (hK:∀D' a' w',dZ C D' (dP σ d (.v (.int .i64 b.data.toList.length))) (dP γ d .no) a' w'→K a' w'):o.wp C.P a w K Q:=by
 have e1:=(h.jz hx iw).rep (by rw [hr];simp)
 rw [hr] at e1
 have eh:(execOp a.eval o).run C.P w = .ok (.value (.int .i64 b.data.toList.length)) w:=by
  rw [bsize]
  simp [execOp,ho,e1.iB,resolve,invoke,builtin,Builtin.len_,run_underlying ht,goInt]
 exact h.ir hd hl eh (.v _) hK
omit h hd hl in
theorem gC (b off n:Nat):(⟨b,off,none⟩:Addr).add n=⟨b,off+n,none⟩:=by
 unfold Addr.add;split
 ·rename_i e;subst e;rfl
 ·rfl
theorem Kb {x y:Operand} {r q:eI} {t e:TypeId} {inf:TypeInfo} {s:Nat} {es:List AV} {k:IntKind} {i:Int} {el:AV} (ho:o.op = .indexAddr t x y) (ht:C.P.underlying t=some (.slice e)) (hi:C.P.info? e=some inf) (hz:inf.size=s)
  (hx:dv x r=true) (hy:dv y q=true) (iw:small C.nt [x]=true) (pE:small C.nt [y]=true)
  (hr:r.ev C.E σ = .sl s es) (hq:q.ev C.E σ = .v (.int k i)) (h0:0≤i) (AJ:es[i.toNat]?=some el) (hK:∀D' a' w',dZ C D' (dP σ d (.ro el)) (dP γ d .no) a' w'→K a' w'):o.wp C.P a w K Q:=by
 have e1:=(h.jz hx iw).rep (by rw [hr];simp)
 have e2:=(h.jz hy pE).rep (by rw [hq];simp)
 rw [hr] at e1;rw [hq] at e2
 have gS:=(aE.1 AJ).1
 rcases e1.qE with ⟨rfl,_⟩ | ⟨b,off,cap,hv,_,_,hE⟩ | ⟨rfl,_⟩
 rotate_left 2
 ·simp at gS
 ·simp at gS
 ·have eh:(execOp a.eval o).run C.P w = .ok (.value (.pointer (some ⟨b,off+i.toNat * s,none⟩))) w:=by
   simp [execOp,ho,hv,e2.iB,Instr.indexAt,asIntOf,run_underlying ht,run_sizeOf hi,hz,h0,gC]
   omega
  exact h.ir hd hl eh (.ro (hE.get _ _ AJ)) hK
theorem J1 {x y:Operand} {r q:eI} {t:TypeId} {b:ByteArray} {k:IntKind} {i:Int} {el:UInt8} (ho:o.op = .index t x y) (ht:C.P.underlying t=some .string)
  (hx:dv x r=true) (hy:dv y q=true) (iw:small C.nt [x]=true) (pE:small C.nt [y]=true)
  (hr:r.ev C.E σ = .v (.string b)) (hq:q.ev C.E σ = .v (.int k i)) (h0:0≤i) (AJ:b.data.toList[i.toNat]?=some el) (hK:∀D' a' w',dZ C D' (dP σ d (fT el)) (dP γ d .no) a' w'→K a' w'):o.wp C.P a w K Q:=by
 have e1:=(h.jz hx iw).rep (by rw [hr];simp)
 have e2:=(h.jz hy pE).rep (by rw [hq];simp)
 rw [hr] at e1;rw [hq] at e2
 have hb:=Pd AJ
 have eh:(execOp a.eval o).run C.P w = .ok (.value (.int .u8 el.toNat)) w:=by
  simp [execOp,ho,e1.iB,e2.iB,Instr.index,asIntOf,run_underlying ht,h0,hb]
 exact h.ir hd hl eh (.v _) hK
theorem Kd {x:Operand} {r:eI} {t:TypeId} {f o' n:Nat} {agg:Bool} {fs:Array Field} {fl:Field} {inf:TypeInfo} {cs:List AV} {s:AV} (ho:o.op = .field t x f) (ht:C.P.underlying t=some (.struct fs)) (hf:fs[f]?=some fl) (wN:fl.offset=o') (hi:C.P.info? fl.type=some inf) (hz:inf.size=n) (ha:kS C.P fl.type=some agg) (h1:agg=true∨n=1)
  (hx:dv x r=true) (iw:small C.nt [x]=true) (hr:r.ev C.E σ = .ag cs) (hp:gW cs o' n agg=some s) (hK:∀D' a' w',dZ C D' (dP σ d s) (dP γ d .no) a' w'→K a' w'):o.wp C.P a w K Q:=by
 have e1:=(h.jz hx iw).rep (by rw [hr];simp)
 rw [hr] at e1
 obtain ⟨ys,hy,hL⟩:=e1.DK
 obtain ⟨hlen,kn⟩:=mJ hL hp h1
 have eh:(execOp a.eval o).run C.P w = .ok (.value (if agg then .agg ⟨(ys.drop o').take n⟩ else ((ys.drop o').take n).headD undef)) w:=by
  simp only [execOp,ho,hy,Instr.field,Sem.run_bind,run_underlying ht,Result.andThen_ok,hf,asAgg,Sem.run_pure,part,qF ha]
  cases agg with
  | true=>simp [run_sizeOf hi,hz,wN,List.extract_eq_take_drop]
  | false =>
   have hn:n=1:=by simpa using h1
   subst hn
   have gS:o'<ys.length:=by simp at hlen;omega
   rw [y5 gS]
   simp [wN,aD gS]
 exact h.ir hd hl eh kn hK
theorem Kp {x y:Operand} {r q:eI} {t e:TypeId} {nn s:Nat} {agg:Bool} {inf:TypeInfo} {cs:List AV} {k:IntKind} {i:Int} {el:AV} (ho:o.op = .index t x y) (ht:C.P.underlying t=some (.array nn e)) (hi:C.P.info? e=some inf) (hz:inf.size=s) (ha:kS C.P e=some agg) (h1:agg=true∨s=1)
  (hx:dv x r=true) (hy:dv y q=true) (iw:small C.nt [x]=true) (pE:small C.nt [y]=true)
  (hr:r.ev C.E σ = .ag cs) (hq:q.ev C.E σ = .v (.int k i)) (h0:0≤i) (hn:i<nn) (hp:gW cs (i.toNat * s) s agg=some el) (hK:∀D' a' w',dZ C D' (dP σ d el) (dP γ d .no) a' w'→K a' w'):o.wp C.P a w K Q:=by
 have e1:=(h.jz hx iw).rep (by rw [hr];simp)
 have e2:=(h.jz hy pE).rep (by rw [hq];simp)
 rw [hr] at e1;rw [hq] at e2
 obtain ⟨ys,N8,hL⟩:=e1.DK
 obtain ⟨hlen,kn⟩:=mJ hL hp h1
 have eh:(execOp a.eval o).run C.P w = .ok (.value (if agg then .agg ⟨(ys.drop (i.toNat * s)).take s⟩ else ((ys.drop (i.toNat * s)).take s).headD undef)) w:=by
  simp only [execOp,ho,N8,e2.iB,Instr.index,asIntOf,Sem.run_bind,run_underlying ht,Result.andThen_ok,Sem.run_pure,h0,hn,and_self,if_true,run_sizeOf hi,hz,part,qF ha]
  cases agg with
  | true=>simp [run_sizeOf hi,hz,List.extract_eq_take_drop]
  | false =>
   have hn:s=1:=by simpa using h1
   subst hn
   rw [Nat.mul_one] at hlen ⊢
   have gS:i.toNat<ys.length:=by simp at hlen;omega
   rw [y5 gS]
   simp [aD gS]
 exact h.ir hd hl eh kn hK
theorem J7 {x:Operand} {r:eI} {t:TypeId} {inf:TypeInfo} {n:Nat} {agg:Bool} {s:AV} (ho:o.op = .load t x) (hi:C.P.info? t=some inf) (hz:inf.size=n) (ha:kS C.P t=some agg) (h1:agg=true∨n=1)
  (hx:dv x r=true) (iw:small C.nt [x]=true) (hr:r.ev C.E σ = .ro s) (pE:s.pC=agg) (Q6:s.cells.length=n) (hK:∀D' a' w',dZ C D' (dP σ d s) (dP γ d .no) a' w'→K a' w'):o.wp C.P a w K Q:=by
 have e1:=(h.jz hx iw).rep (by rw [hr];simp)
 rw [hr] at e1
 obtain ⟨b,off,s',hv,hA⟩:=e1.xU
 obtain ⟨ys,Tr,hc,hL⟩:=hA.read
 have QQ:ys.length=n:=by rw [←hL.length,Q6]
 have eh:(execOp a.eval o).run C.P w = .ok (.value (if agg then .agg ⟨ys⟩ else ys.headD undef)) w:=by
  simp only [execOp,ho,hv,Instr.loadAt,Instr.sureAddr,Sem.run_bind,Sem.run_pure,Result.andThen_ok,kJ hi ha (hz ▸ h1) (QQ.trans hz.symm) hc]
 exact h.ir hd hl eh (by rw [←pE];exact JS hL) hK
theorem Kc {x:Operand} {r:eI} {t:TypeId} {f o' n:Nat} {agg:Bool} {fs:Array Field} {fl:Field} {inf:TypeInfo} {cs:List AV} {s:AV} (ho:o.op = .fieldAddr t x f) (ht:C.P.underlying t=some (.struct fs)) (hf:fs[f]?=some fl) (wN:fl.offset=o') (hi:C.P.info? fl.type=some inf) (hz:inf.size=n) (hn:0<n) (h1:agg=true∨n=1)
  (hx:dv x r=true) (iw:small C.nt [x]=true) (hr:r.ev C.E σ = .ro (.ag cs)) (hp:gW cs o' n agg=some s) (hK:∀D' a' w',dZ C D' (dP σ d (.ro s)) (dP γ d .no) a' w'→K a' w'):o.wp C.P a w K Q:=by
 have e1:=(h.jz hx iw).rep (by rw [hr];simp)
 rw [hr] at e1
 obtain ⟨b,off,s',hv,hA⟩:=e1.xU
 have jM:inf.size≠0:=by omega
 have eh:(execOp a.eval o).run C.P w = .ok (.value (.pointer (some ⟨b,off+o',none⟩))) w:=by
  simp [execOp,ho,hv,Instr.fieldAt,Instr.sureAddr,run_underlying ht,hf,fieldPlace,run_sizeOf hi,jM,gC,wN]
 refine h.ir hd hl eh ?_ hK
 cases hA with
 | one n _ _ _ _=>simp [AV.pC] at n
 | ag _ hC =>
  unfold gW at hp
  cases agg with
  | true =>
   simp only [if_true] at hp
   split at hp
   ·cases hp
    exact .ro (.ag rfl ((hC.drop o').take n))
   ·cases hp
  | false =>
   simp at hp
   have gS:=(aE.1 hp).1
   have hD:=hC.drop o'
   rw [List.drop_eq_getElem_cons gS] at hD
   have hs:cs[o']=s:=(aE.1 hp).2
   rw [hs] at hD
   cases hD with
   | cons r c a tj _ =>
    refine .ro (.one ?_ r c a tj)
    cases s with
    | ag _=>cases tj;simp [Value.oneCell'] at a
    | _=>rfl
theorem Hl {x:Operand} {r:eI} {s:AV} (ho:o.op = .nilCheck x) (hx:dv x r=true) (iw:small C.nt [x]=true) (hr:r.ev C.E σ = .ro s) (hK:∀D' a' w',dZ C D' (dP σ d (.ro s)) (dP γ d .no) a' w'→K a' w'):o.wp C.P a w K Q:=by
 have e1:=(h.jz hx iw).rep (by rw [hr];simp)
 rw [hr] at e1
 obtain ⟨b,off,s',hv,hA⟩:=e1.xU
 have eh:(execOp a.eval o).run C.P w = .ok (.value (.pointer (some ⟨b,off,none⟩))) w:=by simp [execOp,ho,hv]
 exact h.ir hd hl eh (.ro hA) hK
theorem Ke {x:Operand} {r:eI} {t:TypeId} {f m o' dd:Nat} {fs:Array Field} {fl:Field} {inf:TypeInfo} (ho:o.op = .fieldAddr t x f) (ht:C.P.underlying t=some (.struct fs)) (hf:fs[f]?=some fl) (wN:fl.offset=dd) (hi:C.P.info? fl.type=some inf) (hn:0<inf.size)
  (hx:dv x r=true) (iw:small C.nt [x]=true) (hr:r.ev C.E σ = .pt) (hg:r.gh γ = .ptr m o') (hK:∀D' a' w',dZ C D' (dP σ d .pt) (dP γ d (.ptr m (o'+dd))) a' w'→K a' w'):o.wp C.P a w K Q:=by
 have e0:=h.jz hx iw
 have hv:=e0.gh (by rw [hr];simp) (by rw [hr];simp)
 rw [hg] at hv
 simp only [jU] at hv
 have jM:inf.size≠0:=by omega
 have eh:(execOp a.eval o).run C.P w = .ok (.value (.pointer (some ⟨D.β m,o'+dd,none⟩))) w:=by
  simp [execOp,ho,hv,Instr.fieldAt,Instr.sureAddr,run_underlying ht,hf,fieldPlace,run_sizeOf hi,jM,gC,wN]
 have hm:=h.mM r
 rw [hg] at hm
 exact h.val (g := .ptr m (o'+dd)) hd hl eh (.inr ⟨.pt _,fun _=>rfl⟩) rfl rfl hm hK
theorem J5 {x:Operand} {r:eI} {m o':Nat} (ho:o.op = .nilCheck x) (hx:dv x r=true) (iw:small C.nt [x]=true) (hr:r.ev C.E σ = .pt) (hg:r.gh γ = .ptr m o') (hK:∀D' a' w',dZ C D' (dP σ d .pt) (dP γ d (.ptr m o')) a' w'→K a' w'):o.wp C.P a w K Q:=by
 have e0:=h.jz hx iw
 have hv:=e0.gh (by rw [hr];simp) (by rw [hr];simp)
 rw [hg] at hv
 simp only [jU] at hv
 have eh:(execOp a.eval o).run C.P w = .ok (.value (.pointer (some ⟨D.β m,o',none⟩))) w:=by simp [execOp,ho,hv]
 have hm:=h.mM r
 rw [hg] at hm
 exact h.val (g := .ptr m o') hd hl eh (.inr ⟨.pt _,fun _=>rfl⟩) rfl rfl hm hK
theorem J9 {x:Operand} {r:eI} {t:TypeId} {m o' n:Nat} {agg:Bool} {inf:TypeInfo} {cs:List AV} {ts:List (Nat × (Nat × Nat))} {s:AV} (ho:o.op = .load t x) (hi:C.P.info? t=some inf) (hz:inf.size=n) (ha:kS C.P t=some agg) (h1:agg=true∨n=1)
  (hx:dv x r=true) (iw:small C.nt [x]=true) (hr:r.ev C.E σ = .pt) (hg:r.gh γ = .ptr m o') (hm:γ m = .cl ts) (ny:σ m = .ag cs) (hp:gW cs o' n agg=some s)
  (hK:∀D' a' w',dZ C D' (dP σ d s) (dP γ d (if agg then .no else match ts.find? (fun t=>t.1 == o') with | some (_,k,s) => .fV k s | none => .no)) a' w'→K a' w'):o.wp C.P a w K Q:=by
 have e0:=h.jz hx iw
 have hv:=e0.gh (by rw [hr];simp) (by rw [hr];simp)
 rw [hg] at hv
 simp only [jU] at hv
 obtain ⟨ws,tp,Ih⟩:=h.mem m ts hm
 rw [ny] at tp
 obtain ⟨elem,hh,hL⟩:=tp.ag
 have K2:∀(j:Nat) (y:Value),(ws.take cs.length)[j]?=some y→ws[j]?=some y:=fun j y hj=>by
  rw [aT] at hj;split at hj
  ·exact hj
  ·cases hj
 have o0:agg=false→∀t∈ts,t.1=o'→(ws.take cs.length)[t.1]?=some (D.τ (lk t.2.1)):=fun ha t ht he=>by
  have gS:o'<cs.length:=by
   subst ha
   simp only [gW,bo,if_false] at hp
   exact (aE.1 hp).1
  rw [aT,aq (by omega)]
  exact Ih t ht
 generalize QV:ws.take cs.length=vs at hL o0 K2
 obtain ⟨hlen,kn⟩:=mJ hL hp h1
 have hc:∀j y,((vs.drop o').take n)[j]?=some y→w.cell? ⟨D.β m,o'+j,none⟩=some y:=by
  intro j y hj
  rw [aT] at hj
  split at hj
  ·rw [List.getElem?_drop] at hj
   have:=K2 _ _ hj
   simp only [World.cell?,hh]
   simpa using this
  ·cases hj
 have eh:(execOp a.eval o).run C.P w = .ok (.value (if agg then .agg ⟨(vs.drop o').take n⟩ else ((vs.drop o').take n).headD undef)) w:=by
  simp only [execOp,ho,hv,Instr.loadAt,Instr.sureAddr,Sem.run_bind,Sem.run_pure,Result.andThen_ok,kJ hi ha (hz ▸ h1) (hlen.trans hz.symm) hc]
 have wQ:=h.inv m
 rw [hm] at wQ
 refine h.val hd hl eh (.inr ⟨kn,fun _=>?_⟩) ?_ ?_ ?_ hK
 ·cases agg with
  | true=>trivial
  | false =>
   simp only [if_false,bo]
   split
   ·rename_i q k s' hf
    have Ri:=List.mem_of_find?_eq_some hf
    have Mv:=List.find?_some hf
    simp at Mv
    subst Mv
    have:=o0 rfl _ Ri rfl
    have hn:n=1:=by simpa using h1
    subst hn
    have gS:=(aE.1 this).1
    simp only [jU]
    rw [y5 gS]
    have e:=(aE.1 this).2
    exact ⟨e,hL.one _ (List.getElem_mem gS)⟩
   ·trivial
 ·split
  ·rfl
  ·split <;> rfl
 ·split
  ·rfl
  ·split <;> rfl
 ·split
  ·trivial
  ·split
   ·rename_i hf;exact wQ _ (List.mem_of_find?_eq_some hf)
   ·trivial
end
end Go.Eng
namespace Go.Eng
open Go.RowKit
theorem lf {P:Program} {t:TypeId} {s b:Nat} (h:jY P t s b=true):∃e i z,P.underlying t=some (.slice e)∧P.info? e=some i∧i.size=s∧i.bytes=b∧i.zero=some z∧z.cells.size=s∧0<s:=by
 unfold jY at h
 cases he:kO P t with
 | none=>simp [he] at h
 | some e =>
  simp [he] at h
  obtain ⟨h1,h0⟩:=h
  cases hi:P.info? e with
  | none=>simp [hi] at h1
  | some i =>
   simp [hi] at h1
   obtain ⟨⟨h1,h2⟩,h3⟩:=h1
   cases hz:i.zero with
   | none=>simp [hz] at h3
   | some z=>simp [hz] at h3;exact ⟨e,i,z,iM he,hi,h1,h2,hz,h3,h0⟩
theorem jy {P:Program} (g o:Nat) (t:TypeId) (fz:Nat × Nat):∀(vs:List Value) (i:Nat) (cur:Array Value) (w:World),w.heap[g]?=some (.cells cur t fz)→o+i+vs.length≤cur.size →
  (∀j,j<cur.size→¬(fz.1≤j∧j<fz.2))→(∀v∈vs,v.oneCell'=true) →
  (storeCells ⟨g,o,none⟩ vs i).run P w = .ok () (w.setRow g (cur.toList.take (o+i)++vs++cur.toList.drop (o+i+vs.length)).toArray)
 | [],i,cur,w,hg,_,_,_=>by
  simp only [storeCells,aM,aA,Nat.add_zero,List.take_append_drop,Array.toArray_toList]
  rw [setRow_self w g cur t fz hg]
  rfl
 | v :: rest,i,cur,w,hg,hl,hf,h1=>by
  have hi:o+i<cur.size:=by simp at hl;omega
  have OQ:(⟨g,o,none⟩:Addr).add i=⟨g,o+i,none⟩:=gC g o i
  have zJ:w.cell? ⟨g,o+i,none⟩=some cur[o+i]:=by simp [World.cell?,hg,hi]
  have OJ:w.frozen? ⟨g,o+i,none⟩=false:=by
   obtain ⟨f1,f2⟩:=fz
   have:=hf (o+i) hi
   simp only [World.frozen?,hg]
   simp only [Bool.and_eq_false_iff,decide_eq_false_iff_not]
   simp only at this
   omega
  have vL:(store ((⟨g,o,none⟩:Addr).add i) v).run P w = .ok () (w.setRow g (cur.setIfInBounds (o+i) v)):=by
   rw [OQ,run_store P w _ v _ (h1 v (by simp)),zJ]
   simp [OJ,setCell_eq_setRow w g (o+i) cur t fz v hg]
  have ih:=jy (P:=P) g o t fz rest (i+1) (cur.setIfInBounds (o+i) v) (w.setRow g (cur.setIfInBounds (o+i) v)) (setRow_heap w g cur _ t _ hg) (by simp at hl ⊢;omega) (by simpa using hf) (fun x hx=>h1 x (by simp [hx]))
  simp only [storeCells,Sem.run_bind,vL,Result.andThen_ok,ih,setRow_setRow]
  congr 3
  have e:=list_seg_step cur.toList (o+i) v rest (by simp at hl ⊢;omega)
  simpa [Array.toList_setIfInBounds,Nat.add_assoc] using e
theorem mG {R:Reach} {w:World} {x:AV} {v:Value} (h:Rep R w x v) (hp:x.plain=true):eS R w x.cells v.cells.toList:=by
 cases h with
 | v =>
  simp only [AV.plain] at hp
  simp only [AV.cells]
  cases v <;> simp [Value.oneCell'] at hp <;> exact .cons rfl (.v _) .nil
 | ag h=>exact h
 | nil s=>exact .cons rfl (.nil s) .nil
 | sl a b c d=>exact .cons rfl (.sl a b c d) .nil
 | em s h=>exact .cons rfl (.em s h) .nil
 | ro h=>exact .cons rfl (.ro h) .nil
 | tu=>simp [AV.plain] at hp
 | pt=>simp [AV.plain] at hp
 | el=>simp [AV.plain] at hp
 | ab=>simp [AV.plain] at hp
 | gv _=>simp [AV.plain] at hp
 | dead=>simp [AV.plain] at hp
section
variable {P:Program} {w:World}
def Source (P:Program) (w:World) (s:Nat) (x:Value) (m:Nat) (news:List Value):Prop :=
 (∀w',(Builtin.lenOf x).run P w' = .ok m w')∧(∀w':World,w'.heap=w.heap→(Builtin.firstCells s m x).run P w' = .ok ⟨news⟩ w')∧news.length=m * s∧∀v∈news,v.oneCell'=true
theorem mE {t u ty e:TypeId} {i:TypeInfo} {du:TypeDesc} (ht:P.underlying t=some (.slice e)) (hi:P.info? e=some i) (hu:P.underlying u=some du) (wZ:∀k,du ≠ .int k)
  {g n cap m:Nat} {cur:Array Value} {ce:TypeId} {fz:Nat × Nat} {x:Value} {news:List Value} (hg:w.heap[g]?=some (.cells cur ce fz)) (hf:∀j,j<cur.size→¬(fz.1≤j∧j<fz.2))
  (hx:Source P w i.size x m news) (n7:n+m≤cap) (mQ:cur.size=cap * i.size) :
  (Builtin.append_ #[t,u] ty #[.slice (some ⟨g,0,none⟩) n cap,x]).run P w =
   .ok (.slice (some ⟨g,0,none⟩) (n+m) cap) (w.setRow g (cur.toList.take (n * i.size)++news++cur.toList.drop (n * i.size+news.length)).toArray):=by
 obtain ⟨h1,h2,h3,h4⟩:=hx
 have hle:n * i.size+news.length≤cur.size:=by rw [h3,mQ,←Nat.add_mul];exact bu _ n7
 have vL:=jy (P:=P) g (n * i.size) ce fz news 0 cur w hg (by simpa using hle) hf h4
 simp only [Nat.add_zero] at vL
 have hz:(match du with | .int _=>true | _=>false)=false:=by cases du <;> first | rfl | exact (wZ _ rfl).elim
 simp only [Builtin.append_,List.getElem?_toArray,List.getElem?_cons_zero,List.getElem?_cons_succ,Sem.run_bind,run_underlying ht,run_underlying hu,Result.andThen_ok,run_sizeOf hi,Sem.run_pure,hz,bo,if_false,h1,n7,if_true,aV,h2 w rfl]
 simp [gC,vL]
theorem mF {t u ty e:TypeId} {i:TypeInfo} {z:Value} {du:TypeDesc} (ht:P.underlying t=some (.slice e)) (hi:P.info? e=some i) (hz:i.zero=some z) (hu:P.underlying u=some du) (wZ:∀k,du ≠ .int k)
  {q:Option Addr} {n cap m:Nat} {x:Value} {me news:List Value} (ho:∀w':World,w'.heap=w.heap→(Builtin.firstCells i.size n (.slice q n cap)).run P w' = .ok ⟨me⟩ w')
  (hx:Source P w i.size x m news) (hg:cap<n+m) (xM:n+m≤maxLen) (hb:(n+m) * i.bytes≤140737488355328) :
  (Builtin.append_ #[t,u] ty #[.slice q n cap,x]).run P w =
   .ok (.slice (some ⟨w.heap.size,0,none⟩) (n+m) (grownCap w (n+m) cap e))
    (w.drew.alloc (.cells ((⟨me⟩:Array Value)++⟨news⟩++Builtin.zeroCells z.cells (grownCap w (n+m) cap e - (n+m))) e)):=by
 obtain ⟨h1,h2,h3,h4⟩:=hx
 have hn:¬(n+m≤cap):=by omega
 have OW:¬(9223372036854775807<((n:Int)+(m:Int))):=by simp only [maxLen] at xM;omega
 have OX:¬(281474976710656<Builtin.nextslicecap (n+m) cap * i.bytes):=by
  have:=growslice_fits hg hb;omega
 have Lw:(match du with | .int _=>true | _=>false)=false:=by cases du <;> first | rfl | exact (wZ _ rfl).elim
 simp [Builtin.append_,run_underlying ht,run_underlying hu,Lw,sizeOf,typeInfo,zeroValue,hi,hz,h1,hn,OW,OX,Question.forced,ho w.drew rfl,h2 w.drew rfl,newRow,grownCap]
 congr 2
 apply Array.ext'
 simp [aZ]
end
section
variable {C:Ctx} {D:kZ} {σ:Sg} {γ:Ga} {a:Act} {w:World}
theorem dZ.newRow (h:dZ C D σ γ a w) {w':World} {cur:Array Value} {e:TypeId} {fz:Nat × Nat} {s cap:Nat} {es:List AV} {ys:List Value}
  (os:w'.os=w.os) (tape:w'.tape=w.tape) (out:w'.output=w.output) (hh:w'.heap=w.heap.push (.cells cur e fz))
  (ub:∀x∈es,x.cells.length=s) (hL:eS D.R w (es.flatMap AV.cells) ys) (IC:∀(j:Nat) (y:Value),ys[j]?=some y→cur[j]?=some y) (yt:es.length≤cap) (Gr:cap≤maxLen) :
  ∃R',dZ C { D with R:=R' } σ γ a w'∧Rep R' w' (.sl s es) (.slice (some ⟨w.heap.size,0,none⟩) es.length cap)∧(∀o,es.length * s≤o→¬R' w.heap.size o) ∧
   (∀b o,D.R b o→R' b o)∧gz D.R w R' w'∧w'.heap[w.heap.size]?=some (.cells cur e fz):=by
 have rE:w'.heap.size=w.heap.size+1:=by rw [hh];simp
 have hold:∀b,b<w.heap.size→w'.heap[b]?=w.heap[b]?:=fun b hb=>by rw [hh,Array.getElem?_push,aj (by omega)]
 have jT:w'.heap[w.heap.size]?=some (.cells cur e fz):=by rw [hh];simp
 let R':Reach:=fun b o=>D.R b o∨(b=w.heap.size∧o<es.length * s)
 have hS:=h.grow (w':=w') (R':=R') os tape out (by omega) hold (fun b o hr => .inl hr) (fun b o hr=>hr.imp id fun e=>by omega)
  (fun b o hr=>by
   rcases hr with hr | ⟨e,_⟩
   ·exact Nat.lt_trans (h.nF b o hr) (by omega)
   ·omega)
 have hk:gz D.R w R' w':=fun b o hr=>⟨.inl hr,World.cell?_of_block (w:=w) (hold b (h.nF b o hr))⟩
 refine ⟨R',hS,?_,fun o ho hr=>?_,fun b o hr => .inl hr,hk,jT⟩
 ·refine .sl rfl yt Gr (jf.write ub (hL.mono hk) (fun j hj => .inr ⟨rfl,by omega⟩) (fun j y hy=>?_))
  simp only [World.cell?,jT,Nat.zero_add]
  exact IC j y hy
 ·rcases hr with hr | ⟨_,hr⟩
  ·have:=h.nF _ _ hr;omega
  ·omega
theorem Source.B6 {P:Program} {R:Reach} {s:Nat} {fs:List AV} {x:Value} (h:Rep R w (.sl s fs) x):∃news,Source P w s x fs.length news∧eS R w (fs.flatMap AV.cells) news∧∀e∈fs,e.cells.length=s:=by
 rcases h.qE with ⟨rfl,rfl⟩ | ⟨b,off,cap,rfl,_,_,hE⟩ | ⟨rfl,ad,cap,rfl,_⟩
 rotate_left 2
 ·exact ⟨[],⟨fun _=>rfl,fun w' _=>run_firstCells_some (P:=P) w' s 0 ad 0 cap [] (by simp) (fun j v hj=>by simp at hj),by simp,by simp⟩,.nil,by simp⟩
 ·exact ⟨[],⟨fun _=>rfl,fun _ _=>rfl,by simp,by simp⟩,.nil,by simp⟩
 ·obtain ⟨ys,h1,h2,h3,h4⟩:=hE.cells
  refine ⟨ys,⟨fun _=>rfl,fun w' hw=>?_,h1,h3.one⟩,h3,h4⟩
  exact run_firstCells_some (P:=P) w' s fs.length ⟨b,off,none⟩ fs.length cap ys h1 (fun j v hj=>by rw [gC];rw [World.cell?_of_block (w:=w) (by rw [hw])];exact h2 j v hj)
theorem kQ (l:List UInt8):(l.map fT).flatMap AV.cells=l.map fT:=by
 induction l with
 | nil=>rfl
 | cons b l ih=>simp [ih];rfl
theorem ns {R:Reach} (l:List UInt8):eS R w (l.map fT) (l.map fun b => .int .u8 b.toNat):=by
 induction l with
 | nil=>exact .nil
 | cons b l ih=>exact .cons rfl (.v _) ih
theorem Source.of_string {P:Program} (b:ByteArray):Source P w 1 (.string b) b.data.toList.length (b.data.toList.map fun b => .int .u8 b.toNat):=by
 refine ⟨fun _=>?_,fun w' _=>?_,by simp,by simp;exact fun _ _=>rfl⟩
 ·rw [bsize];rfl
 ·have:b.extract 0 b.size=b:=by simp
  simp only [Builtin.firstCells,bsize,this,Sem.run_pure]
  congr 1
  apply Array.ext'
  simp
theorem dZ.append (h : dZ C D σ γ a w) {P : Program} {t u ty e : TypeId} {i : TypeInfo} {z : Value} {du : TypeDesc} (ht : P.underlying t = some (.slice e)) (hi : P.info? e = some i) (hz : i.zero = some z) (CA : z.cells.size = i.size) (hu : P.underlying u = some du) (wZ : ∀ k, du ≠ .int k)
    {x0 x : Value} {es fs : List AV} {news : List Value} (hr : Rep D.R w (.sl i.size es) x0) (K7 : gD D.R w x0 i.size) (qM : ∀ g, x0.ownBlock = some g → C.mf g ∧ ∀ key, gw D γ key ≠ some g)
    (hx : Source P w i.size x fs.length news) (hL : eS D.R w (fs.flatMap AV.cells) news) (rn : ∀ e ∈ fs, e.cells.length = i.size) (xM : es.length + fs.length ≤ maxLen) (hb : (es.length + fs.length) * i.bytes ≤ 140737488355328) :
    ∃ v w' R', (Builtin.append_ #[t, u] ty #[x0, x]).run P w = .ok v w' ∧ dZ C { D with R := R' } σ γ a w' ∧ Rep R' w' (.sl i.size (es ++ fs)) v ∧ gD R' w' v i.size ∧ gz D.R w R' w' ∧
      ∀ g, v.ownBlock = some g → C.mf g ∧ ∀ key, gw D γ key ≠ some g := by
  have wO := hx.2.2.1
  -- the row LP
  have grow : ∀ (q : Option Addr) (cap : Nat) (me : List Value), cap < es.length + fs.length → (∀ w' : World, w'.heap = w.heap → (Builtin.firstCells i.size es.length (.slice q es.length cap)).run P w' = .ok ⟨me⟩ w') →
      eS D.R w (es.flatMap AV.cells) me → (∀ e ∈ es, e.cells.length = i.size) → me.length = es.length * i.size →
      ∃ v w' R', (Builtin.append_ #[t, u] ty #[.slice q es.length cap, x]).run P w = .ok v w' ∧ dZ C { D with R := R' } σ γ a w' ∧ Rep R' w' (.sl i.size (es ++ fs)) v ∧ gD R' w' v i.size ∧ gz D.R w R' w' ∧
        ∀ g, v.ownBlock = some g → C.mf g ∧ ∀ key, gw D γ key ≠ some g := by
    intro q cap me gS ho E5 ub sL
    have eh := mF (ty := ty) ht hi hz hu wZ ho hx gS xM hb
    have zF := grownCap_ge w (es.length + fs.length) cap e
    have hle := grownCap_le_maxLen w (es.length + fs.length) cap e xM
    obtain ⟨R', hS, hR, hn, _, hk, hh⟩ := h.newRow (w' := w.drew.alloc (.cells ((⟨me⟩ : Array Value) ++ ⟨news⟩ ++ Builtin.zeroCells z.cells (grownCap w (es.length + fs.length) cap e - (es.length + fs.length))) e))
      (es := es ++ fs) (s := i.size) (ys := me ++ news) (cap := grownCap w (es.length + fs.length) cap e) rfl rfl rfl rfl
      (fun y hy => by rcases List.mem_append.1 hy with hy | hy; · exact ub y hy
                      · exact rn y hy)
      (by rw [List.flatMap_append]; exact E5.append hL)
      (fun j y hj => by
        rw [Array.getElem?_append_left (by simp; have := (aE.1 hj).1; simpa using this)]
        simpa using hj) (by simpa using zF) hle
    rw [aw] at hR hn
    refine ⟨_, _, R', eh, hS, hR, .inr ⟨_, _, _, _, _, _, rfl, hh, by simp, ?_, zF, hle, hn⟩, hk, fun g hg => ?_⟩
    · simp only [Array.size_append, List.size_toArray, size_zeroCells, CA, sL, wO, ← Nat.add_mul]
      congr 1; omega
    · simp [Value.ownBlock] at hg
      subst hg
      exact ⟨.inr h.ext.size, fun key hk => by have := h.lt hk; omega⟩
  rcases hr.GU K7 with ⟨rfl, rfl⟩ | ⟨b, off, cap, rfl, tm, zH, hE⟩
  · by_cases hm : fs.length = 0
    · have Iy : fs = [] := bA hm
      subst Iy
      refine ⟨.slice none 0 0, w, D.R, ?_, by cases D; exact h, .nil _, .inl rfl, gz.refl _ _, by simp [Value.ownBlock]⟩
      obtain ⟨h1, h2, h3, h4⟩ := hx
      have Lw : (match du with | .int _ => true | _ => false) = false := by cases du <;> first | rfl | exact (wZ _ rfl).elim
      have vx := h2 w rfl
      simp only [aA] at h1 vx
      simp [Builtin.append_, run_underlying ht, run_underlying hu, Lw, sizeOf, typeInfo, hi, h1, vx]
    · exact grow none 0 [] (by simp; omega) (fun _ _ => rfl) .nil (by simp) (by simp)
  · rcases K7 with e0 | ⟨g, n, yG, cur, ce, fz, e0, hg, hfz, zG, Ox, RB, qd⟩
    · cases e0
    · cases e0
      obtain ⟨me, sL, PI, E5, ub⟩ := hE.cells
      simp only [Nat.zero_add] at PI
      by_cases n7 : es.length + fs.length ≤ cap
      · obtain ⟨oR, qw⟩ := qM b rfl
        have eh := mE (ty := ty) ht hi hu wZ hg hfz hx n7 zG
        have hle : (es.length + fs.length) * i.size ≤ cap * i.size := bu _ n7
        rw [Nat.add_mul] at hle
        let nr : Array Value := (cur.toList.take (es.length * i.size) ++ news ++ cur.toList.drop (es.length * i.size + news.length)).toArray
        have LA : ∀ j, j < es.length * i.size → nr[j]? = cur[j]? := fun j hj => by
          have h1 : j < (cur.toList.take (es.length * i.size)).length := by simp; omega
          simp only [nr, List.getElem?_toArray, aZ]
          rw [List.getElem?_append_left h1, aT, aq hj]; simp
        have Lg : ∀ j y, news[j]? = some y → nr[es.length * i.size + j]? = some y := fun j y hj => by
          have h1 : (cur.toList.take (es.length * i.size)).length = es.length * i.size := by simp; omega
          have h2 := (aE.1 hj).1
          simp only [nr, List.getElem?_toArray, aZ]
          rw [aU (by omega), h1, Nat.add_sub_cancel_left, List.getElem?_append_left h2]; exact hj
        have zJ : ∀ j, (w.setRow b nr).cell? ⟨b, j, none⟩ = nr[j]? := fun j => cell_setRow_same w b j cur nr ce fz hg
        let R' : Reach := fun c o => D.R c o ∨ (c = b ∧ o < (es.length + fs.length) * i.size)
        have hk : gz D.R w R' (w.setRow b nr) := fun c o tj => ⟨.inl tj, by
          by_cases PK : c = b
          · subst PK
            have ho : o < es.length * i.size := by
              rcases Nat.lt_or_ge o (es.length * i.size) with ho | ho
              · exact ho
              · exact (qd o ho tj).elim
            rw [zJ, LA o ho]
            simp [World.cell?, hg]
          · exact cell_setRow_other w b nr ⟨c, o, none⟩ PK⟩
        have IE : b < w.heap.size := (Array.getElem?_eq_some_iff.1 hg).1
        have hS := h.world (w' := w.setRow b nr) (R' := R') rfl rfl rfl (by simp) (fun c hc Ld => setRow_other w b c nr (fun e => by
            subst e
            rcases Ld with ⟨key, tl⟩ | Ld
            · exact qw key tl
            · exact Ld oR)) hk
          (fun c o tj => tj.imp id fun ⟨e, _⟩ => by subst e; exact ⟨oR, qw⟩)
          (fun c o tj => by
            rw [setRow_size]
            rcases tj with tj | ⟨e, _⟩
            · exact h.nF c o tj
            · omega)
        refine ⟨_, _, R', eh, hS, ?_, .inr ⟨_, _, _, _, _, _, rfl, setRow_heap w b cur nr ce fz hg, ?_, ?_, n7, zH, fun o ho tj => ?_⟩, hk, fun g' mX => ?_⟩
        · rw [← aw]
          refine .sl rfl (by simpa using n7) zH ?_
          refine (hE.mono hk).append (jf.write rn (hL.mono hk) (fun j hj => .inr ⟨rfl, ?_⟩) (fun j y hj => ?_))
          · rw [Nat.add_mul]; omega
          · rw [zJ, Nat.zero_add]; exact Lg j y hj
        · intro o ho
          refine hfz o ?_
          simp [nr] at ho
          omega
        · simp [nr]; omega
        · rcases tj with tj | ⟨_, tj⟩
          · exact qd o (by rw [Nat.add_mul] at ho; omega) tj
          · omega
        · simp [Value.ownBlock] at mX
          subst mX
          exact ⟨oR, qw⟩
      · refine grow (some ⟨b, 0, none⟩) cap me (by omega) (fun w' hw => ?_) E5 ub sL
        exact run_firstCells_some (P := P) w' i.size es.length ⟨b, 0, none⟩ es.length cap me sL (fun j v hj => by
          rw [gC, Nat.zero_add, World.cell?_of_block (w := w) (by rw [hw])]; exact PI j v hj)
end
end Go.Eng
namespace Go.Eng
open Go.RowKit
theorem mA {X:Type} (σ:Nat→X) {a b:Nat} (x y:X) (h:a≠b):dP (dP σ a x) b y=dP (dP σ b y) a x:=by
 funext k
 simp only [dP]
 by_cases h1:k=a
 ·subst h1;simp [h]
 ·by_cases h2:k=b
  ·subst h2;simp [Ne.symm h]
  ·simp [h1,h2]
theorem Ja {s:ByteArray} {l:List UInt8} (h:s.data.toList=l):s=⟨⟨l⟩⟩:=by
 cases s with
 | mk d=>cases d with
  | mk t=>simp at h;rw [h]
section
variable {C:Ctx} {D:kZ} {σ:Sg} {γ:Ga} {a:Act} {w:World}
theorem dZ.qH (h:dZ C D σ γ a w) {d k s:Nat} {v:Value} {x:AV} (hd:d<C.nt) (hk:γ (lk k) = .no) (hr:Rep D.R w x v) (ht:gD D.R w v s) (hg:∀g,v.ownBlock=some g→C.mf g∧∀key,gw D γ key≠some g) :
  dZ C { D with τ:=dP D.τ (lk k) v } (cY σ [d,lk k] [x,.dead]) (cY γ [d,lk k] [.fV k s,.live s]) (a.put (some d) v) w:=by
 have h1:=h.u0 hk ht hg
 have h2:=h1.dead (k:=lk k) (by rw [bK];rfl)
 refine h2.put (g := .fV k s) hd (.inr ⟨hr,?_⟩) rfl rfl ?_
 ·intro _;show v=dP D.τ (lk k) v (lk k)∧v.oneCell'=true
  rw [bK]
  exact ⟨rfl,by rcases ht with rfl | ⟨_,_,_,_,_,_,rfl,_⟩ <;> rfl⟩
 ·show (dP γ (lk k) (.live s) (lk k)).fL=true
  rw [bK];rfl
variable {o:Oper} {d:Nat} {K:Act→World→Prop} {Q:Exit→Act→World→Prop} (h:dZ C D σ γ a w) (hd:o.dst=some d) (hl:d<C.nt)
include h hd hl
theorem FR {k s:Nat} (ho:o.op = .move (.const (.slice none 0 0))∨o.op = .assign (.const (.slice none 0 0))) (hk:γ (lk k) = .no)
  (hK:∀D' a' w',dZ C D' (cY σ [d,lk k] [.sl s [],.dead]) (cY γ [d,lk k] [.fV k s,.live s]) a' w'→K a' w'):o.wp C.P a w K Q:=by
 have hr:(execOp a.eval o).run C.P w = .ok (.value (.slice none 0 0)) w:=by rcases ho with e | e <;> simp [execOp,e,Act.eval]
 unfold Oper.wp
 rw [hr,Oper.upon_value,hd]
 exact hK _ _ _ (h.qH hl hk (.nil s) (.inl rfl) (by simp [Value.ownBlock]))
omit h in
theorem dZ.Bf {D':kZ} {w':World} {v:Value} {s:AV} (hr:(execOp a.eval o).run C.P w = .ok (.value v) w') (hS:dZ C D' σ γ a w') (hs:Rep D'.R w' s v)
  (hK:∀D' a' w',dZ C D' (dP σ d s) (dP γ d .no) a' w'→K a' w'):o.wp C.P a w K Q:=by
 unfold Oper.wp
 rw [hr,Oper.upon_value,hd]
 exact hK _ _ _ (hS.put hl (.plain hs) rfl rfl trivial)
theorem zm {x:Operand} {lo hi:Option Operand} {r:eI} {t e:TypeId} {inf:TypeInfo} {s:Nat} {es:List AV} {l u:Nat} (ho:o.op = .slice t x lo hi none) (ht:C.P.underlying t=some (.slice e)) (vq:C.P.info? e=some inf) (hz:inf.size=s)
  (hx:dv x r=true) (iw:small C.nt [x]=true) (hr:r.ev C.E σ = .sl s es)
  (sL:(lo=none∧l=0)∨∃y k,lo=some y∧a.eval y = .int k (l:Int)) (My:(hi=none∧u=es.length)∨∃y k,hi=some y∧a.eval y = .int k (u:Int)) (h1:l≤u) (h2:u≤es.length)
  (hK:∀D' a' w',dZ C D' (dP σ d (.sl s ((es.take u).drop l))) (dP γ d .no) a' w'→K a' w'):o.wp C.P a w K Q:=by
 have e1:=(h.jz hx iw).rep (by rw [hr];simp)
 rw [hr] at e1
 have hb:∀cap,es.length≤cap→(Instr.sliceBounds true es.length cap (lo.map a.eval) (hi.map a.eval) none).run C.P w = .ok (l,u,cap) w:=by
  intro cap tm
  have hu:u≤cap:=by omega
  unfold Instr.sliceBounds
  rcases sL with ⟨rfl,rfl⟩ | ⟨y,k,rfl,hy⟩ <;> rcases My with ⟨rfl,rfl⟩ | ⟨y',k',rfl,N8⟩ <;>
   simp [Instr.sliceBound,asIntOf, *]
 rcases e1.qE with ⟨rfl,hv⟩ | ⟨b,off,cap,hv,tm,zH,hE⟩ | ⟨rfl,ad,cap,hv,zH⟩
 rotate_left 2
 ·have Mw:l=0:=by simp at h2;omega
  have Gd:u=0:=by simpa using h2
  have AK:=hb cap (by simp)
  have eh:(execOp a.eval o).run C.P w = .ok (.value (.slice (some ad) 0 cap)) w:=by
   simp only [aA] at AK
   simp only [execOp,ho,hv,Instr.sliceAt,Instr.slice,Sem.run_bind,run_underlying ht,Result.andThen_ok,Option.map_none,AK,run_sizeOf vq,Sem.run_pure,Mw,Gd]
   simp [Addr.add]
  refine h.ir hd hl eh ?_ hK
  simp only [List.take_nil,List.drop_nil]
  exact .em s zH
 ·have Mw:l=0:=by simp at h2;omega
  have Gd:u=0:=by simpa using h2
  have AK:=hb 0 (by simp)
  have eh:(execOp a.eval o).run C.P w = .ok (.value (.slice none 0 0)) w:=by
   simp only [aA] at AK
   simp only [execOp,ho,hv,Instr.sliceAt,Instr.slice,Sem.run_bind,run_underlying ht,Result.andThen_ok,Option.map_none,AK,run_sizeOf vq,Sem.run_pure,Mw,Gd]
   simp
  refine h.ir hd hl eh ?_ hK
  simp only [List.take_nil,List.drop_nil]
  exact .nil s
 ·have eh:(execOp a.eval o).run C.P w = .ok (.value (.slice (some ⟨b,if cap=l then off else off+l * s,none⟩) (u - l) (cap - l))) w:=by
   simp only [execOp,ho,hv,Instr.sliceAt,Instr.slice,Sem.run_bind,run_underlying ht,Result.andThen_ok,Option.map_none,hb cap tm,run_sizeOf vq,Sem.run_pure,hz]
   split <;> simp [*,gC]
  have hlen:((es.take u).drop l).length=u - l:=by simp;omega
  refine h.ir hd hl eh ?_ hK
  rw [←hlen]
  refine .sl rfl (by rw [hlen];omega) (by omega) ?_
  by_cases hc:cap=l
  ·have:(es.take u).drop l=[]:=bA (by rw [hlen];omega)
   rw [this];exact .nil _ _ _
  ·rw [aj hc]
   exact (hE.take u).drop l
theorem zl {x:Operand} {lo hi:Option Operand} {r:eI} {t:TypeId} {b:ByteArray} {l u:Nat} (ho:o.op = .slice t x lo hi none) (ht:C.P.underlying t=some .string)
  (hx:dv x r=true) (iw:small C.nt [x]=true) (hr:r.ev C.E σ = .v (.string b))
  (sL:(lo=none∧l=0)∨∃y k,lo=some y∧a.eval y = .int k (l:Int)) (My:(hi=none∧u=b.data.toList.length)∨∃y k,hi=some y∧a.eval y = .int k (u:Int)) (h1:l≤u) (h2:u≤b.data.toList.length)
  (hK:∀D' a' w',dZ C D' (dP σ d (.v (.string ⟨⟨(b.data.toList.take u).drop l⟩⟩))) (dP γ d .no) a' w'→K a' w'):o.wp C.P a w K Q:=by
 have e1:=(h.jz hx iw).rep (by rw [hr];simp)
 rw [hr] at e1
 rw [bsize] at My h2
 have hb:(Instr.sliceBounds false b.size b.size (lo.map a.eval) (hi.map a.eval) none).run C.P w = .ok (l,u,b.size) w:=by
  unfold Instr.sliceBounds
  rcases sL with ⟨rfl,rfl⟩ | ⟨y,k,rfl,hy⟩ <;> rcases My with ⟨rfl,rfl⟩ | ⟨y',k',rfl,N8⟩ <;>
   simp [Instr.sliceBound,asIntOf, *]
 have eh:(execOp a.eval o).run C.P w = .ok (.value (.string (b.extract l u))) w:=by
  simp only [execOp,ho,e1.iB,Instr.sliceAt,Instr.slice,Sem.run_bind,run_underlying ht,Result.andThen_ok,Option.map_none,hb,Sem.run_pure]
  simp [hb]
 have he:b.extract l u=⟨⟨(b.data.toList.take u).drop l⟩⟩:=Ja (by rw [Lib.extract_data,List.drop_take])
 rw [he] at eh
 exact h.ir hd hl eh (.v _) hK
theorem Ki {x:Operand} {r:eI} {t u e:TypeId} {l:List UInt8} (ho:o.op = .convert t u x) (ht:C.P.underlying t=some (.slice e)) (he:C.P.underlying e=some (.int .u8)) (hu:C.P.underlying u=some .string)
  (hx:dv x r=true) (iw:small C.nt [x]=true) (hr:r.ev C.E σ = .sl 1 (l.map fT)) (hK:∀D' a' w',dZ C D' (dP σ d (.v (.string ⟨⟨l⟩⟩))) (dP γ d .no) a' w'→K a' w'):o.wp C.P a w K Q:=by
 have e1:=(h.jz hx iw).rep (by rw [hr];simp)
 rw [hr] at e1
 have eh:(execOp a.eval o).run C.P w = .ok (.value (.string ⟨⟨l⟩⟩)) w:=by
  rcases e1.qE with ⟨hn,hv⟩ | ⟨b,off,cap,hv,tm,zH,hE⟩ | ⟨hn,ad,cap,hv,zH⟩
  rotate_left 2
  ·have:l=[]:=by simpa using hn
   subst this
   have hc:=run_convert_bytes_back (P:=C.P) w t u e ad cap [] ht he hu (fun j hj=>by simp at hj)
   simp only [aA] at hc
   simp only [execOp,ho,hv,Sem.run_bind,hc,Result.andThen_ok,Sem.run_pure]
  ·have:l=[]:=by simpa using hn
   subst this
   simp only [execOp,ho,hv,Sem.run_bind,run_convert_bytes_nil w t e ht he 0 0 u hu,Result.andThen_ok,Sem.run_pure]
   rfl
  ·obtain ⟨ys,h1,h2,h3,h4⟩:=hE.cells
   rw [kQ] at h3
   rw [aQ] at hv
   have hc:=run_convert_bytes_back (P:=C.P) w t u e ⟨b,off,none⟩ cap l ht he hu (fun j hj=>by
    rw [gC]
    obtain ⟨y,tZ,_,DQ⟩:=h3.get j (fT l[j]) (by simp [hj])
    rw [h2 j y tZ,DQ.iB])
   simp only [execOp,ho,hv,Sem.run_bind,hc,Result.andThen_ok,Sem.run_pure]
 exact h.ir hd hl eh (.v _) hK
omit hd hl in
theorem dZ.tE {b:ByteArray} {u e:TypeId} {t:TypeId} (ht:C.P.underlying t=some .string) (hu:C.P.underlying u=some (.slice e)) (he:C.P.underlying e=some (.int .u8)) (hb:b.data.toList.length≤maxLen) :
  ∃v w' R',(convert t u (.string b)).run C.P w = .ok v w'∧dZ C { D with R:=R' } σ γ a w'∧Rep R' w' (.sl 1 (b.data.toList.map fT)) v∧gD R' w' v 1∧gz D.R w R' w' ∧
   ∀g,v.ownBlock=some g→C.mf g∧∀key,gw D γ key≠some g:=by
 have eh:=run_bytes_of_string (P:=C.P) w t u e b ht hu he
 have zF:=grownCap_ge w b.size 0 e
 have hle:=grownCap_le_maxLen w b.size 0 e (by rwa [bsize] at hb)
 obtain ⟨R',hS,hR,hn,_,hk,hh⟩:=h.newRow (w':=w.drew.alloc (.cells (bytesRow b (grownCap w b.size 0 e)) e ((bytesRow b (grownCap w b.size 0 e)).size,(bytesRow b (grownCap w b.size 0 e)).size+1)))
  (es:=b.data.toList.map fT) (s:=1) (ys:=b.data.toList.map fun x => .int .u8 x.toNat) (cap:=grownCap w b.size 0 e) rfl rfl rfl rfl
  (fun y hy=>by obtain ⟨x,_,rfl⟩:=aW.1 hy;rfl) (by rw [kQ];exact ns _)
  (fun j y hj=>by
   have gS:=(aE.1 hj).1
   unfold bytesRow
   rw [Array.getElem?_append_left (by simp at gS ⊢;exact gS)]
   simpa using hj) (by simp only [aQ,bsize];exact zF) hle
 simp only [aQ,bsize] at hR hn
 have rE:(bytesRow b (grownCap w b.size 0 e)).size=grownCap w b.size 0 e * 1:=by
  have:b.data.size=b.size:=rfl
  simp only [bytesRow,Array.size_append,Array.size_map,Array.size_replicate,this];omega
 refine ⟨_,_,R',eh,hS,hR,.inr ⟨_,_,_,_,_,_,rfl,hh,by simp only;intro o ho;omega,rE,zF,hle,hn⟩,hk,fun g hg=>?_⟩
 simp [Value.ownBlock] at hg
 subst hg
 exact ⟨.inr h.ext.size,fun key hk=>by have:=h.lt hk;omega⟩
theorem J4 {x:Operand} {r:eI} {t u e:TypeId} {b:ByteArray} (ho:o.op = .convert t u x) (ht:C.P.underlying t=some .string) (hu:C.P.underlying u=some (.slice e)) (he:C.P.underlying e=some (.int .u8))
  (hx:dv x r=true) (iw:small C.nt [x]=true) (hr:r.ev C.E σ = .v (.string b)) (hb:b.data.toList.length≤maxLen) (hK:∀D' a' w',dZ C D' (dP σ d (.sl 1 (b.data.toList.map fT))) (dP γ d .no) a' w'→K a' w'):o.wp C.P a w K Q:=by
 have e1:=(h.jz hx iw).rep (by rw [hr];simp)
 rw [hr] at e1
 obtain ⟨v,w',R',eh,hS,hR,_⟩:=h.tE ht hu he hb
 exact dZ.Bf hd hl (v:=v) (w':=w') (by simp only [execOp,ho,e1.iB,Sem.run_bind,eh,Result.andThen_ok,Sem.run_pure]) hS hR hK
theorem Hc {x:Operand} {r:eI} {t u e:TypeId} {b:ByteArray} {k:Nat} (ho:o.op = .convert t u x) (ht:C.P.underlying t=some .string) (hu:C.P.underlying u=some (.slice e)) (he:C.P.underlying e=some (.int .u8))
  (hx:dv x r=true) (iw:small C.nt [x]=true) (hr:r.ev C.E σ = .v (.string b)) (hb:b.data.toList.length≤maxLen) (hk:γ (lk k) = .no)
  (hK:∀D' a' w',dZ C D' (cY σ [d,lk k] [.sl 1 (b.data.toList.map fT),.dead]) (cY γ [d,lk k] [.fV k 1,.live 1]) a' w'→K a' w'):o.wp C.P a w K Q:=by
 have e1:=(h.jz hx iw).rep (by rw [hr];simp)
 rw [hr] at e1
 obtain ⟨v,w',R',eh,hS,hR,hT,_,hG⟩:=h.tE ht hu he hb
 unfold Oper.wp
 rw [show (execOp a.eval o).run C.P w = .ok (.value v) w' by simp only [execOp,ho,e1.iB,Sem.run_bind,eh,Result.andThen_ok,Sem.run_pure],Oper.upon_value,hd]
 exact hK _ _ _ (hS.qH hl hk hR hT hG)
theorem B4 {x y:Operand} {r q:eI} {t u e:TypeId} {i:TypeInfo} {z:Value} {du:TypeDesc} {k k' s:Nat} {es fs:List AV} (ho:o.op = .call { callee := .builtin .append,args:=#[x,y],argTypes:=#[t,u] })
  (ht:C.P.underlying t=some (.slice e)) (hi:C.P.info? e=some i) (hz:i.zero=some z) (CA:z.cells.size=i.size) (hu:C.P.underlying u=some du) (wZ:∀k,du ≠ .int k) (hs:i.size=s)
  (hx:dv x r=true) (iw:small C.nt [x]=true) (hr:r.ev C.E σ = .sl s es) (hg:r.gh γ = .fV k s) (lQ:γ (lk k) = .live s) (pa:γ (lk k') = .no) (jM:k≠k')
  {news:List Value} (vm:Source C.P w s (a.eval y) fs.length news) (hL:eS D.R w (fs.flatMap AV.cells) news) (rn:∀e∈fs,e.cells.length=s) (xM:es.length+fs.length≤maxLen) (hb:(es.length+fs.length) * i.bytes≤140737488355328)
  (hK:∀D' a' w',dZ C D' (cY σ [d,lk k,lk k'] [.sl s (es++fs),.dead,.dead]) (cY γ [d,lk k,lk k'] [.fV k' s,.used,.live s]) a' w'→K a' w'):o.wp C.P a w K Q:=by
 subst hs
 have e0:=h.jz hx iw
 have e1:=e0.rep (by rw [hr];simp)
 have e2:=e0.gh (by rw [hr];simp) (by rw [hr];simp)
 rw [hr] at e1
 rw [hg] at e2
 simp only [jU] at e2
 replace e2:=e2.1
 have hT:=h.fV _ _ lQ
 rw [←e2] at hT
 have h1:=h.kill lQ
 have vu:gw D γ (lk k)=(a.eval x).ownBlock:=by rw [iR lQ,←e2]
 have qM:∀g,(a.eval x).ownBlock=some g→C.mf g∧∀key,gw D (dP γ (lk k) .used) key≠some g:=fun g mX=>by
  refine ⟨h.own (lk k) g (vu.trans mX),fun key tl=>?_⟩
  by_cases e:key=lk k
  ·subst e;simp [gw,bK] at tl
  ·have:gw D γ key=some g:=by unfold gw at tl ⊢;rwa [bO _ _ e] at tl
   exact e (h.rz (key:=lk k) (by rw [lQ];rfl) (vu.trans mX) this).symm
 obtain ⟨v,w',R',eh,hS,hR,LI,_,hG⟩:=h1.append (ty:=o.type) ht hi hz CA hu wZ e1 hT qM vm hL rn xM hb
 unfold Oper.wp
 rw [show (execOp a.eval o).run C.P w = .ok (.value v) w' by simp [execOp,ho,resolve,invoke,builtin,eh],Oper.upon_value,hd]
 have Ov:dP γ (lk k) .used (lk k') = .no:=by rw [bO _ _ (fun e=>jM (j7 e).symm)];exact pa
 have hF:=(hS.dead (k:=lk k) (by rw [bK];rfl)).qH hl Ov hR LI hG
 have hc:lk k'≠lk k:=fun e=>jM (j7 e).symm
 have LU:cY σ [d,lk k,lk k'] [.sl i.size (es++fs),.dead,.dead]=cY (dP σ (lk k) .dead) [d,lk k'] [.sl i.size (es++fs),.dead]:=by
  simp only [cY];rw [mA σ _ _ hc]
 have IQ:cY γ [d,lk k,lk k'] [.fV k' i.size,.used,.live i.size]=cY (dP γ (lk k) .used) [d,lk k'] [.fV k' i.size,.live i.size]:=by
  simp only [cY];rw [mA γ _ _ hc]
 rw [LU,IQ] at hK
 exact hK _ _ _ hF
theorem FW {y:Operand} {t u e:TypeId} {i:TypeInfo} {z:Value} {du:TypeDesc} {k' s:Nat} {fs:List AV} (ho:o.op = .call { callee := .builtin .append,args:=#[.const (.slice none 0 0),y],argTypes:=#[t,u] })
  (ht:C.P.underlying t=some (.slice e)) (hi:C.P.info? e=some i) (hz:i.zero=some z) (CA:z.cells.size=i.size) (hu:C.P.underlying u=some du) (wZ:∀k,du ≠ .int k) (hs:i.size=s)
  (pa:γ (lk k') = .no) {news:List Value} (vm:Source C.P w s (a.eval y) fs.length news) (hL:eS D.R w (fs.flatMap AV.cells) news) (rn:∀e∈fs,e.cells.length=s) (xM:fs.length≤maxLen) (hb:fs.length * i.bytes≤140737488355328)
  (hK:∀D' a' w',dZ C D' (cY σ [d,lk k'] [.sl s fs,.dead]) (cY γ [d,lk k'] [.fV k' s,.live s]) a' w'→K a' w'):o.wp C.P a w K Q:=by
 subst hs
 obtain ⟨v,w',R',eh,hS,hR,LI,_,hG⟩:=h.append (ty:=o.type) (x0 := .slice none 0 0) (es:=[]) ht hi hz CA hu wZ (.nil _) (.inl rfl) (by simp [Value.ownBlock]) vm hL rn (by simpa using xM) (by simpa using hb)
 unfold Oper.wp
 rw [show (execOp a.eval o).run C.P w = .ok (.value v) w' by
  have hc:a.eval (.const (.slice none 0 0)) = .slice none 0 0:=rfl
  simp [execOp,ho,resolve,invoke,builtin,hc,eh],Oper.upon_value,hd]
 rw [bz] at hR
 exact hK _ _ _ (hS.qH hl pa hR LI hG)
end
end Go.Eng
namespace Go.Eng
open Go.RowKit
section
variable {R:Reach} {w:World}
theorem uf (l:List Value):∀(off k:Nat) (cells:Array Value),off+k+l.length≤cells.size →
  ((l.zipIdx k).foldl (fun cs p=>cs.setIfInBounds (off+p.2) p.1) cells).toList=cells.toList.take (off+k)++l++cells.toList.drop (off+k+l.length):=by
 induction l with
 | nil=>intro off k cells _;simp
 | cons v l ih =>
  intro off k cells hl
  simp only [List.zipIdx_cons,List.foldl_cons]
  rw [ih off (k+1) (cells.setIfInBounds (off+k) v) (by simp at hl ⊢;omega)]
  have e:=list_seg_step cells.toList (off+k) v l (by simp at hl ⊢;omega)
  simpa [Array.toList_setIfInBounds,Nat.add_assoc] using e
theorem xl (place:Nat→Option (Nat × Nat)):∀(parts:List (Nat × Value)) (pl:List (Nat × Nat)) (xs:List AV) (z cs:List AV) (cells:Array Value),eS R w z cells.toList→parts.length=pl.length →
  (∀(j:Nat) (p:Nat × Value) (q:Nat × Nat),parts[j]?=some p→pl[j]?=some q→place p.1=some q)→(∀(j:Nat) (p:Nat × Value) (x:AV),parts[j]?=some p→xs[j]?=some x→Rep R w x p.2)→mo z pl xs=some cs →
  ∃gY,Instr.fill place cells parts=some gY∧eS R w cs gY.toList
 | [],pl,xs,z,cs,cells,hz,hl,_,_,hf=>by
  have:pl=[]:=bA hl.symm
  subst this
  cases xs with
  | nil=>simp [mo] at hf;subst hf;exact ⟨cells,rfl,hz⟩
  | cons=>simp [mo] at hf
 | (i,v) :: parts,pl,xs,z,cs,cells,hz,hl,hp,hr,hf=>by
  cases pl with
  | nil=>simp at hl
  | cons q pl =>
   obtain ⟨off,n⟩:=q
   cases xs with
   | nil=>simp [mo] at hf
   | cons x xs =>
    simp only [mo] at hf
    split at hf
    ·rename_i hc
     obtain ⟨yt,Gr,Tv⟩:=hc
     have hx:=mG (hr 0 _ _ rfl rfl) yt
     have Mr:=hx.length
     have QO:=hz.length
     simp only [Array.length_toList] at Mr QO
     have Io:=hp 0 _ _ rfl rfl
     simp only at Io
     have hs:v.cells.size=n:=by omega
     have mQ:¬(v.cells.size≠n∨off+v.cells.size > cells.size):=by omega
     have vt:=uf v.cells.toList off 0 cells (by simp;omega)
     have QP:eS R w (gV z off x.cells) (v.cells.zipIdx.foldl (fun cs p=>cs.setIfInBounds (off+p.2) p.1) cells).toList:=by
      have e:(v.cells.zipIdx.foldl (fun cs p=>cs.setIfInBounds (off+p.2) p.1) cells)=(v.cells.toList.zipIdx 0).foldl (fun cs p=>cs.setIfInBounds (off+p.2) p.1) cells:=by
       rw [←Array.foldl_toList];simp
      rw [e,vt]
      have hle:v.cells.toList.length=x.cells.length:=by simp;omega
      simp only [gV,Nat.add_zero,hle]
      exact ((hz.take off).append hx).append (hz.drop _)
     obtain ⟨gY,h1,h2⟩:=xl place parts pl xs _ cs _ QP (by simpa using hl) (fun j p q h1 h2=>hp (j+1) p q (by simpa using h1) (by simpa using h2)) (fun j p y h1 h2=>hr (j+1) p y (by simpa using h1) (by simpa using h2)) hf
     refine ⟨gY,?_,h2⟩
     simp only [Instr.fill,Io]
     rw [aj (by simpa using mQ)]
     exact h1
    ·cases hf
end
section
variable {C:Ctx} {D:kZ} {σ:Sg} {γ:Ga} {a:Act} {w:World}
theorem dZ.wu (h:dZ C D σ γ a w) {w':World} {cs:List Value} {A4:List AV} {e:TypeId} (hw:w'={ w with heap:=w.heap.push (.cells ⟨cs⟩ e) }) (hL:eS D.R w A4 cs) :
  dZ C D σ γ a w'∧jG D.R w' (.ag A4) w.heap.size cs∧C.mf w.heap.size∧(∀key,gw D γ key≠some w.heap.size):=by
 subst hw
 have hold:∀b,b<w.heap.size→(w.heap.push (.cells ⟨cs⟩ e))[b]?=w.heap[b]?:=fun b hb=>by rw [Array.getElem?_push,aj (by omega)]
 have hS:=h.grow (w':={ w with heap:=w.heap.push (.cells ⟨cs⟩ e) }) (R':=D.R) rfl rfl rfl (by simp) hold (fun _ _ h=>h) (fun _ _ h => .inl h) (fun b o hr=>by simp;have:=h.nF b o hr;omega)
 have hk:gz D.R w D.R { w with heap:=w.heap.push (.cells ⟨cs⟩ e) }:=fun b o hr=>⟨hr,World.cell?_of_block (w:=w) (hold b (h.nF b o hr))⟩
 exact ⟨hS,⟨e,by simp,.inr ⟨A4,rfl,by rw [List.take_of_length_le (by rw [hL.length];exact Nat.le_refl _)];exact hL.mono hk⟩,fun o hr=>by have:=h.nF _ _ hr;omega⟩,.inr h.ext.size,fun key hk=>by have:=h.lt hk;omega⟩
theorem nI {P:Program} {t:TypeId} {z:List AV} (h:ph P t z=true):∃i v,P.info? t=some i∧i.zero=some v∧gu v.cells.toList z=true:=by
 unfold ph at h
 cases hi:P.info? t with
 | none=>simp [hi] at h
 | some i =>
  cases hz:i.zero with
  | none=>simp [hi,hz] at h
  | some v=>simp [hi,hz] at h;exact ⟨i,v,rfl,hz,h⟩
theorem pR {P:Program} {t:TypeId} {i:TypeInfo} {v:Value} (hi:P.info? t=some i) (hz:i.zero=some v) (w:World):(zeroValue t).run P w = .ok v w:=by simp [zeroValue,typeInfo,hi,hz]
theorem od:∀{xs:List Value} {ys:List AV},gu xs ys=true→∀(i:Nat) (y:AV),ys[i]?=some y→∃x,xs[i]?=some x∧jw x y=true
 | [],[],_,i,y,h=>by simp at h
 | x :: xs,z :: ys,hc,0,y,h=>by simp [gu] at hc;simp at h;subst h;exact ⟨x,rfl,hc.1⟩
 | x :: xs,z :: ys,hc,i+1,y,h=>by simp [gu] at hc;simpa using od hc.2 i y (by simpa using h)
 | [],_ :: _,h,_,_,_=>by simp [gu] at h
 | _ :: _,[],h,_,_,_=>by simp [gu] at h
theorem tz {x:Value} {s:Nat} (h:jw x (.sl s [])=true):x = .slice none 0 0:=by
 unfold jw at h;split at h <;> simp_all
theorem dZ.zo (ts:List (Nat × (Nat × Nat))):∀{D:kZ} {σ:Sg} {γ:Ga} {a:Act} {w:World},dZ C D σ γ a w→(∀t∈ts,γ (lk t.2.1) = .no)→(ts.map (·.2.1)).Nodup →
  ∃D',dZ C D' (cY σ (ts.map fun t=>lk t.2.1) (ts.map fun _ => .dead)) (cY γ (ts.map fun t=>lk t.2.1) (ts.map fun t => .live t.2.2)) a w∧D'.R=D.R∧(∀key,gw D γ key=none∨gw D' (cY γ (ts.map fun t=>lk t.2.1) (ts.map fun t => .live t.2.2)) key=gw D γ key) ∧
   (∀key g,gw D' (cY γ (ts.map fun t=>lk t.2.1) (ts.map fun t => .live t.2.2)) key=some g→gw D γ key=some g) ∧
   (∀t∈ts,D'.τ (lk t.2.1) = .slice none 0 0∧(cY γ (ts.map fun t=>lk t.2.1) (ts.map fun t => .live t.2.2) (lk t.2.1)).fL=true) ∧
   (∀key,(∀t∈ts,key≠lk t.2.1)→cY γ (ts.map fun t=>lk t.2.1) (ts.map fun t => .live t.2.2) key=γ key)∧(∀k,(∀t∈ts,k≠lk t.2.1)→D'.τ k=D.τ k)∧D'.β=D.β:=by
 induction ts with
 | nil=>exact fun {D σ γ a w} h _ _=>⟨D,h,rfl,fun _ => .inr rfl,fun _ _ h=>h,by simp,fun _ _=>rfl,fun _ _=>rfl,rfl⟩
 | cons t ts ih =>
  intro D σ γ a w h pa hnd
  simp only [ao,List.nodup_cons] at hnd
  obtain ⟨D1,h1,hR,IF,DS,ht1,gG,ED,EE⟩   := ih h (fun u hu=>pa u (by simp [hu])) hnd.2
  have jM:∀u∈ts,lk t.2.1≠lk u.2.1:=fun u hu e=>hnd.1 (aW.2 ⟨u,hu,(j7 e).symm⟩)
  have Ir:cY γ (ts.map fun t=>lk t.2.1) (ts.map fun t => .live t.2.2) (lk t.2.1) = .no:=by rw [gG _ jM];exact pa t (by simp)
  have h2:=(h1.u0 (k:=t.2.1) (s:=t.2.2) (v := .slice none 0 0) Ir (.inl rfl) (by simp [Value.ownBlock])).dead (k:=lk t.2.1) (by rw [bK];rfl)
  have vu:∀key,gw { D1 with τ:=dP D1.τ (lk t.2.1) (.slice none 0 0) } (dP (cY γ (ts.map fun t=>lk t.2.1) (ts.map fun t => .live t.2.2)) (lk t.2.1) (.live t.2.2)) key=if key=lk t.2.1 then none else gw D1 (cY γ (ts.map fun t=>lk t.2.1) (ts.map fun t => .live t.2.2)) key:=fun key=>by
   unfold gw
   by_cases e:key=lk t.2.1
   ·subst e;rw [bK];simp [bK,Value.ownBlock]
   ·rw [bO _ _ e,aj e]
    cases hg:cY γ (ts.map fun t=>lk t.2.1) (ts.map fun t => .live t.2.2) key with
    | live s'=>simp [bO _ _ e]
    | pv s'=>simp [bO _ _ e]
    | pc s'=>simp [bO _ _ e]
    | nO d s'=>simp [bO _ _ e]
    | _=>rfl
  refine ⟨_,h2,hR,fun key=>?_,fun key g hk=>?_,fun u hu=>?_,fun key hk=>?_,fun k hk=>?_,EE⟩
  ·simp only [ao,cY]
   rw [vu]
   by_cases e:key=lk t.2.1
   ·subst e;left;unfold gw;rw [pa t (by simp)]
   ·rw [aj e];exact IF key
  ·simp only [ao,cY] at hk
   rw [vu] at hk
   by_cases e:key=lk t.2.1
   ·simp [e] at hk
   ·rw [aj e] at hk;exact DS key g hk
  ·simp only [ao,cY]
   rcases bq.1 hu with rfl | hu
   ·exact ⟨bK _ _ _,by rw [bK];rfl⟩
   ·have hn:lk u.2.1≠lk t.2.1:=fun e=>jM u hu e.symm
    refine ⟨by show dP D1.τ (lk t.2.1) _ (lk u.2.1)=_;rw [bO _ _ hn];exact (ht1 u hu).1,?_⟩
    rw [bO _ _ (fun e=>jM u hu e.symm)];exact (ht1 u hu).2
  ·simp only [ao,cY]
   rw [bO _ _ (hk t (by simp))];exact gG key (fun u hu=>hk u (by simp [hu]))
  ·show dP D1.τ (lk t.2.1) _ k=_
   rw [bO _ _ (hk t (by simp))];exact ED k (fun u hu=>hk u (by simp [hu]))
variable {o:Oper} {d:Nat} {K:Act→World→Prop} {Q:Exit→Act→World→Prop} (h:dZ C D σ γ a w) (hd:o.dst=some d) (hl:d<C.nt)
include h hd hl
theorem Km {t:TypeId} {m:Nat} {z:List AV} {ts:List (Nat × (Nat × Nat))} (ho:o.op = .alloc t) (hz:ph C.P t z=true) (o0:∀q∈ts,∃s,z[q.1]?=some (.sl s [])) (hm:γ m = .no) (h1:C.nt≤m) (h2:m<999999)
  (pa:∀t∈ts,γ (lk t.2.1) = .no) (hnd:(ts.map (·.2.1)).Nodup)
  (hK:∀D' a' w',dZ C D' (cY σ (d :: m :: ts.map fun t=>lk t.2.1) (.pt :: .ag z :: ts.map fun _ => .dead)) (cY γ (d :: m :: ts.map fun t=>lk t.2.1) (.ptr m 0 :: .cl ts :: ts.map fun t => .live t.2.2)) a' w'→K a' w'):o.wp C.P a w K Q:=by
 obtain ⟨i,v,hi,Gc,PJ⟩:=nI hz
 have hL:eS D.R w z v.cells.toList:=js PJ
 have eh:(execOp a.eval o).run C.P w = .ok (.value (.pointer (some ⟨w.heap.size,0,none⟩))) { w with heap:=w.heap.push (.cells ⟨v.cells.toList⟩ t) }:=by
  simp [execOp,ho,Instr.alloc,pR hi Gc,newVar,newRow]
 obtain ⟨hS,hV,pb,wU⟩:=h.wu rfl hL
 obtain ⟨D1,RH,hR,IF,DS,ht1,gG,ED,EE⟩:=hS.zo ts pa hnd
 have CO:∀t∈ts,m≠lk t.2.1:=fun t _=>by have:=iu t.2.1;omega
 have oR:cY γ (ts.map fun t=>lk t.2.1) (ts.map fun t => .live t.2.2) m = .no:=by rw [gG m CO];exact hm
 have RF:jG D1.R { w with heap:=w.heap.push (.cells ⟨v.cells.toList⟩ t) } (.ag z) w.heap.size v.cells.toList:=by rw [hR];exact hV
 have E4:=RH.newVar (ts:=ts) oR h1 h2 RF (fun q hq=>⟨(ht1 q hq).2,by
  obtain ⟨s,hs⟩:=o0 q hq
  obtain ⟨y,tZ,_,DQ⟩:=hL.get q.1 _ hs
  rw [tZ,(ht1 q hq).1]
  obtain ⟨x,zx,CB⟩:=od PJ q.1 _ hs
  rw [tZ] at zx;cases zx
  rw [tz CB]⟩) ⟨pb,fun key hk=>wU key (DS key _ hk)⟩
 have OR:=E4.put (d:=d) (s := .pt) (g := .ptr m 0) (v := .pointer (some ⟨w.heap.size,0,none⟩)) hl (.inr ⟨.pt _,by intro _;show _=_;simp [bK]⟩) rfl rfl (by show Gh.gq (dP _ m _ m)=true;rw [bK];rfl)
 unfold Oper.wp
 rw [eh,Oper.upon_value,hd]
 exact hK _ _ _ OR
end
end Go.Eng
namespace Go.Eng
open Go.RowKit
section
variable {C:Ctx} {D:kZ} {σ:Sg} {γ:Ga} {a:Act} {w:World}
variable {o:Oper} {d:Nat} {K:Act→World→Prop} {Q:Exit→Act→World→Prop} (h:dZ C D σ γ a w)
include h
theorem FV {x:Operand} {r:eI} {t:TypeId} {m:Nat} (hd:o.dst=some d) (hl:d<C.nt) (ho:o.op = .box t x) (hx:dv x r=true) (iw:small C.nt [x]=true) (hp:(r.ev C.E σ).plain=true) (hm:γ m = .no) (h1:C.nt≤m) (h2:m<999999)
  (hK:∀D' a' w',dZ C D' (cY σ [d,m] [.pt,.ag (r.ev C.E σ).cells]) (cY γ [d,m] [.ptr m 0,.cl []]) a' w'→K a' w'):o.wp C.P a w K Q:=by
 have e1:=(h.jz hx iw).rep (by intro e;rw [e] at hp;cases hp)
 have hL:=mG e1 hp
 have eh:(execOp a.eval o).run C.P w = .ok (.value (.pointer (some ⟨w.heap.size,0,none⟩))) { w with heap:=w.heap.push (.cells ⟨(a.eval x).cells.toList⟩ t) }:=by
  simp [execOp,ho,Instr.box,newVar,newRow]
 obtain ⟨hS,hV,pb,wU⟩:=h.wu rfl hL
 have E4:=hS.newVar (ts:=[]) hm h1 h2 hV (by simp) ⟨pb,wU⟩
 have OR:=E4.put (d:=d) (s := .pt) (g := .ptr m 0) (v := .pointer (some ⟨w.heap.size,0,none⟩)) hl (.inr ⟨.pt _,by intro _;show _=_;simp [bK]⟩) rfl rfl (by show Gh.gq (dP _ m _ m)=true;rw [bK];rfl)
 unfold Oper.wp
 rw [eh,Oper.upon_value,hd]
 exact hK _ _ _ OR
theorem FQ {x v:Operand} {r q:eI} {t:TypeId} {inf:TypeInfo} {m o' n:Nat} {cs:List AV} {ts:List (Nat × (Nat × Nat))} (hd:o.dst=none) (ho:o.op = .store t x v) (hi:C.P.info? t=some inf) (hz:inf.size=n)
  (hx:dv x r=true) (iw:small C.nt [x]=true) (hv:dv v q=true) (pE:small C.nt [v]=true) (hr:r.ev C.E σ = .pt) (hg:r.gh γ = .ptr m o') (hm:γ m = .cl ts) (ny:σ m = .ag cs)
  (hp:(q.ev C.E σ).plain=true) (hn:(q.ev C.E σ).cells.length=n) (mQ:o'+n≤cs.length)
  (hK:∀D' a' w',dZ C D' (dP σ m (.ag (gV cs o' (q.ev C.E σ).cells))) (dP γ m (.cl (ts.filter (fun t=>t.1<o' || o'+n≤t.1)++match q.gh γ with | .fV k s=>if n=1 then [(o',k,s)] else [] | _=>[]))) a' w'→K a' w'):o.wp C.P a w K Q:=by
 have e0:=h.jz hx iw
 have Gg:=e0.gh (by rw [hr];simp) (by rw [hr];simp)
 rw [hg] at Gg
 simp only [jU] at Gg
 have q0:=h.jz hv pE
 have Mu:q.ev C.E σ ≠ .dead:=by intro e;rw [e] at hp;cases hp
 have Rb:q.ev C.E σ ≠ .sk:=by intro e;rw [e] at hp;cases hp
 have hL:=mG (q0.rep Mu) hp
 obtain ⟨vs,tp,o0⟩:=h.mem m ts hm
 rw [ny] at tp
 have qd:=tp.Cd
 obtain ⟨elem,hh,MD⟩:=tp.ag
 have jK:cs.length≤vs.length:=by have:=MD.length;simp at this;omega
 have hlen:=hL.length
 have Tq:=MD.length
 have MA:(a.eval v).cells.size=n:=by simp at hlen;omega
 have vL:=run_storeCells_at (P:=C.P) (D.β m) o' elem (a.eval v).cells.toList 0 ⟨vs⟩ w hh (by simp;omega) hL.one
 simp only [Nat.add_zero] at vL
 let new:List Value:=vs.take o'++(a.eval v).cells.toList++vs.drop (o'+(a.eval v).cells.toList.length)
 have eh:(execOp a.eval o).run C.P w = .ok .skip (w.setRow (D.β m) ⟨new⟩):=by
  have:¬((a.eval v).cells.size≠n):=by omega
  simp only [execOp,ho,Gg,Instr.storeAt,Instr.sureAddr,Sem.run_bind,Sem.run_pure,Result.andThen_ok,storeVar,run_sizeOf hi,hz,Sem.run_ite,this,if_false,vL]
  rfl
 have E1:=setRow_heap w (D.β m) ⟨vs⟩ ⟨new⟩ elem (0,0) hh
 have cq:gz D.R w D.R (w.setRow (D.β m) ⟨new⟩):=fun b o hr=>⟨hr,cell_setRow_other w (D.β m) _ ⟨b,o,none⟩ (fun e=>qd o (by have:b=D.β m:=e;rw [←this];exact hr))⟩
 have RK:eS D.R (w.setRow (D.β m) ⟨new⟩) (gV cs o' (q.ev C.E σ).cells) (new.take (gV cs o' (q.ev C.E σ).cells).length):=by
  have hle:(a.eval v).cells.toList.length=(q.ev C.E σ).cells.length:=hlen.symm
  have xJ:(gV cs o' (q.ev C.E σ).cells).length=cs.length:=by simp [gV];omega
  have ES:new.take cs.length=(vs.take cs.length).take o'++(a.eval v).cells.toList++(vs.take cs.length).drop (o'+(a.eval v).cells.toList.length):=by
   apply List.ext_getElem?
   intro j
   simp only [new,aT,List.getElem?_append,aw,bh,List.getElem?_drop,hle,hn]
   have e1:min o' vs.length=o':=by omega
   have e2:min o' (min cs.length vs.length)=o':=by omega
   simp only [e1,e2]
   by_cases c1:j<cs.length
   ·by_cases c2:j<o'
    ·simp [c1,c2,show j<o'+n by omega]
    ·by_cases c3:j<o'+n
     ·simp [c1,c2,c3]
     ·simp [c1,c2,c3,show o'+n+(j - (o'+n))<cs.length by omega]
   ·have c2:¬j<o':=by omega
    have c3:¬j<o'+n:=by omega
    simp [c1,c3,show ¬o'+n+(j - (o'+n))<cs.length by omega]
  rw [xJ,ES]
  simp only [gV,hle]
  have hX:=(((MD.take o').append hL).append (MD.drop (o'+(q.ev C.E σ).cells.length))).mono cq
  exact hX
 have wQ:=h.inv m
 rw [hm] at wQ
 have hS:=h.store (us:=ts.filter (fun t=>t.1<o' || o'+n≤t.1)++match q.gh γ with | .fV k s=>if n=1 then [(o',k,s)] else [] | _=>[]) hm (w':=w.setRow (D.β m) ⟨new⟩) rfl rfl rfl (by simp) (fun b hb=>setRow_other w (D.β m) b _ hb)
  ⟨elem,E1,.inr ⟨_,rfl,RK⟩,qd⟩ (fun t ht=>by
   rcases List.mem_append.1 ht with ht | ht
   ·have lP:=List.mem_filter.1 ht
    refine ⟨wQ t lP.1,?_⟩
    have hc:=o0 t lP.1
    have gS:=(aE.1 hc).1
    have w8:=lP.2
    simp only [Bool.or_eq_true,az] at w8
    have QW:(a.eval v).cells.toList.length=n:=by simp;exact MA
    simp only [new]
    rcases w8 with yt | yt
    ·rw [aZ,List.getElem?_append_left (by simp;omega),aT,aq yt];exact hc
    ·rw [aU (by simp;omega)]
     simp only [aw,bh,QW,List.getElem?_drop]
     rw [←hc];congr 1;omega
   ·revert ht
    split
    ·rename_i k s PF
     split
     ·rename_i wP
      intro ht
      simp at ht
      subst ht
      have wR:=h.mM q
      rw [PF] at wR
      refine ⟨wR,?_⟩
      have OG:=q0.gh Mu Rb
      rw [PF] at OG
      simp only [jU] at OG
      have yt:(a.eval v).cells.toList=[D.τ (lk k)]:=by
       obtain ⟨e1,e2⟩:=OG
       rw [←e1]
       generalize a.eval v=y at e2
       cases y <;> first | rfl | (simp [Value.oneCell'] at e2)
      simp only [new,yt]
      rw [aZ,aU (by simp;omega)]
      simp
      have:o' - min o' vs.length=0:=by omega
      simp [this]
     ·intro ht;cases ht
    ·intro ht;cases ht)
 unfold Oper.wp
 rw [eh,Oper.upon_skip,hd]
 exact hK _ _ _ (by simpa [Act.put] using hS)
theorem dZ.wm:∀{l:List Operand} {rs:List eI},dy l rs=true→small C.nt l=true→gT D.R w (rs.map (eI.ev C.E σ)) (l.map a.eval)
 | [],[],_,_ => .nil
 | x :: xs,r :: rs,hx,hs=>by
  simp [dy] at hx
  have h1:small C.nt [x]=true:=by simp [small] at hs ⊢;exact hs.1
  have h2:small C.nt xs=true:=by simp only [small,List.all_cons,af] at hs;exact hs.2
  refine .cons ?_ (dZ.wm hx.2 h2)
  rcases h.jz hx.1 h1 with e | e
  ·rw [e];exact .dead _
  ·exact e.1
 | [],_ :: _,hx,_=>by simp [dy] at hx
 | _ :: _,[],hx,_=>by simp [dy] at hx
omit h
theorem uh (s:Nat):∀(vs:List Value) (k:Nat) (cells:Array Value),(∀v∈vs,v.cells.size=s)→(k+vs.length) * s=cells.size →
  ∃gY,Instr.fill (fun i=>some (i * s,s)) cells ((vs.zipIdx k).map fun p=>(p.2,p.1))=some gY∧gY.toList=cells.toList.take (k * s)++vs.flatMap fun v=>v.cells.toList
 | [],k,cells,_,hl=>by
  refine ⟨cells,rfl,?_⟩
  simp at hl
  simp [List.take_of_length_le,hl]
 | v :: vs,k,cells,hv,hl=>by
  have h0:=hv v (by simp)
  simp only [aL] at hl
  have hm:(k+(vs.length+1)) * s=k * s+s+vs.length * s:=by rw [Nat.add_mul,Nat.succ_mul];omega
  have mQ:¬(v.cells.size≠s∨k * s+v.cells.size > cells.size):=by omega
  have vt:=uf v.cells.toList (k * s) 0 cells (by simp;omega)
  have e:(v.cells.zipIdx.foldl (fun cs p=>cs.setIfInBounds (k * s+p.2) p.1) cells)=(v.cells.toList.zipIdx 0).foldl (fun cs p=>cs.setIfInBounds (k * s+p.2) p.1) cells:=by
   rw [←Array.foldl_toList];simp
  have rE:(v.cells.zipIdx.foldl (fun cs p=>cs.setIfInBounds (k * s+p.2) p.1) cells).size=cells.size:=by
   rw [e,←Array.length_toList,vt];simp;omega
  obtain ⟨gY,h1,h2⟩:=uh s vs (k+1) (v.cells.zipIdx.foldl (fun cs p=>cs.setIfInBounds (k * s+p.2) p.1) cells) (fun u hu=>hv u (by simp [hu])) (by rw [rE,←hl];congr 1;omega)
  refine ⟨gY,?_,?_⟩
  ·simp only [List.zipIdx_cons,ao,Instr.fill]
   rw [aj (by simpa using mQ)]
   exact h1
  ·rw [h2,e,vt]
   have gG:(k+1) * s=k * s+s:=Nat.succ_mul k s
   have hL:(cells.toList.take (k * s+0)++v.cells.toList).length=(k+1) * s:=by simp;omega
   rw [aZ,←aZ (cells.toList.take (k * s+0)),List.take_left' hL]
   simp
theorem tJ {α:Type}:∀(l:List (Nat × α)) (k:Nat),l.map (·.1)=List.range' k l.length→l=((l.map (·.2)).zipIdx k).map fun p=>(p.2,p.1)
 | [],_,_=>rfl
 | (i,x) :: l,k,h=>by
  simp only [ao,aL,List.range'_succ,ar] at h
  simp only [ao,List.zipIdx_cons]
  rw [←tJ l (k+1) h.2,h.1]
theorem tH {R:Reach} {w:World} {s:Nat}:∀{xs:List AV} {vs:List Value},gT R w xs vs→(∀x∈xs,x.plain=true∧x.cells.length=s)→eS R w (xs.flatMap AV.cells) (vs.flatMap fun v=>v.cells.toList)∧∀v∈vs,v.cells.size=s
 | _,_,.nil,_=>⟨.nil,by simp⟩
 | _,_,.cons (x:=x) h t,hx=>by
  obtain ⟨h1,h2⟩:=tH t (fun x N9=>hx x (by simp [N9]))
  obtain ⟨p1,p2⟩:=hx x (by simp)
  have hL:=mG h p1
  refine ⟨by simpa using hL.append h1,fun v hv=>?_⟩
  rcases bq.1 hv with rfl | hv
  ·have:=hL.length;simp at this;omega
  ·exact h2 v hv
theorem xi {s:Nat}:∀{l:List AV},(∀x∈l,x.plain=true∧x.cells.length=s)→(l.flatMap AV.cells).length=l.length * s
 | [],_=>by simp
 | x :: l,hl=>by
  simp only [List.flatMap_cons,aw,aL,Nat.succ_mul]
  rw [xi (fun y hy=>hl y (by simp [hy])),(hl x (by simp)).2];omega
theorem oY {P:Program} {t:TypeId} {s:Nat} (h:mC P t s=true):∃e i z,P.underlying t=some (.slice e)∧P.info? e=some i∧i.size=s∧i.zero=some z∧0<s:=by
 unfold mC at h
 cases he:kO P t with
 | none=>simp [he] at h
 | some e =>
  simp [he] at h
  obtain ⟨h1,h0⟩:=h
  cases hi:P.info? e with
  | none=>simp [hi] at h1
  | some i =>
   simp [hi] at h1
   obtain ⟨h1,h2⟩:=h1
   obtain ⟨z,hz⟩:=Option.isSome_iff_exists.1 h2
   exact ⟨e,i,z,iM he,hi,h1,hz,h0⟩
theorem dZ.Cp (h:dZ C D σ γ a w) {t e:TypeId} {inf:TypeInfo} {zv:Value} {s n:Nat} {parts:Array (Nat × Operand)} {rs:List eI} (ht:C.P.underlying t=some (.slice e)) (hi:C.P.info? e=some inf) (hz:inf.size=s) (Gc:inf.zero=some zv)
  (EW:n * s≤2 ^ 24) (EU:n≤maxLen) (DR:parts.toList.map (·.1)=List.range n) (hx:dy (parts.toList.map (·.2)) rs=true) (fc:small C.nt (parts.toList.map (·.2))=true)
  (yk:∀x∈rs.map (eI.ev C.E σ),x.plain=true∧x.cells.length=s) :
  ∃v w' R',(Instr.buildSlice t n (parts.map fun p=>(p.1,a.eval p.2))).run C.P w = .ok v w'∧dZ C { D with R:=R' } σ γ a w'∧Rep R' w' (.sl s (rs.map (eI.ev C.E σ))) v∧gD R' w' v s∧gz D.R w R' w' ∧
   ∀g,v.ownBlock=some g→C.mf g∧∀key,gw D γ key≠some g:=by
 have hT:=h.wm hx fc
 obtain ⟨hL,rE⟩:=tH hT yk
 have hlen:parts.toList.length=n:=by have:=congrArg List.length DR;simpa using this
 have PB:parts.size=n:=by simpa using hlen
 have sJ:(rs.map (eI.ev C.E σ)).length=n:=by have:=hT.length;simp at this ⊢;omega
 have hp:(parts.map fun p=>(p.1,a.eval p.2)).toList=((((parts.toList.map (·.2)).map a.eval).zipIdx 0).map fun p=>(p.2,p.1)):=by
  have e:=tJ ((parts.map fun p=>(p.1,a.eval p.2)).toList) 0 (by simp only [Array.toList_map,bk,aQ,hlen];rw [←List.range_eq_range',←DR];rfl)
  rw [e]
  simp [Function.comp_def]
 let zc:Array Value:=if n * s=0 then #[] else zv.cells
 let c0:Array Value:=(Array.range (n * s)).map (zc[· % zc.size]!)
 obtain ⟨gY,hf,OO⟩:=uh s ((parts.toList.map (·.2)).map a.eval) 0 c0 rE (by simp [c0,hlen])
 simp only [Nat.zero_mul,List.take_zero,bz] at OO
 have eh:(Instr.buildSlice t n (parts.map fun p=>(p.1,a.eval p.2))).run C.P w = .ok (.slice (some ⟨w.heap.size,0,none⟩) n n) { w with heap:=w.heap.push (.cells gY e) }:=by
  have Gu:¬(n * s > 2 ^ 24):=by omega
  rw [←hp] at hf
  simp only [c0,zc] at hf
  simp only [Instr.buildSlice,Sem.run_bind,run_underlying ht,Result.andThen_ok,run_sizeOf hi,hz,Gu,if_false,Sem.run_pure]
  by_cases h0:n * s=0
  ·rw [aq h0] at hf ⊢
   simp only [Sem.run_bind,Sem.run_pure,Result.andThen_ok]
   rw [hf]
   simp [Go.newRow]
  ·rw [aj h0] at hf ⊢
   simp only [Sem.run_bind,Sem.run_pure,Result.andThen_ok,pR hi Gc]
   rw [hf]
   simp [Go.newRow]
 have zG:gY.size=n * s:=by
  rw [←Array.length_toList,OO,←hL.length,xi yk,sJ]
 obtain ⟨R',hS,hR,qd,_,hk,hh⟩:=h.newRow (w':={ w with heap:=w.heap.push (.cells gY e) }) (es:=rs.map (eI.ev C.E σ)) (s:=s) (cap:=n) rfl rfl rfl rfl (fun x hx=>(yk x hx).2) hL
  (fun j y hj=>by rw [←OO] at hj;simpa using hj) (by omega) EU
 rw [sJ] at hR qd
 refine ⟨_,_,R',eh,hS,hR,.inr ⟨_,_,_,_,_,_,rfl,hh,by simp,zG,Nat.le_refl _,EU,qd⟩,hk,fun g hg=>?_⟩
 simp [Value.ownBlock] at hg
 subst hg
 exact ⟨.inr h.ext.size,fun key hk=>by have:=h.lt hk;omega⟩
variable (h:dZ C D σ γ a w) (hd:o.dst=some d) (hl:d<C.nt)
include h hd hl
theorem Kj {t:TypeId} {s n:Nat} {parts:Array (Nat × Operand)} {rs:List eI} (ho:o.op = .buildSlice t n parts) (ht:mC C.P t s=true) (EW:n * s≤2 ^ 24)
  (DR:parts.toList.map (·.1)=List.range n) (hx:dy (parts.toList.map (·.2)) rs=true) (fc:small C.nt (parts.toList.map (·.2))=true) (yk:∀x∈rs.map (eI.ev C.E σ),x.plain=true∧x.cells.length=s)
  (hK:∀D' a' w',dZ C D' (dP σ d (.sl s (rs.map (eI.ev C.E σ)))) (dP γ d .no) a' w'→K a' w'):o.wp C.P a w K Q:=by
 obtain ⟨e,i,z,h1,h2,h3,h4,h5⟩:=oY ht
 have EU:n≤maxLen:=by
  have:n≤n * s:=Nat.le_mul_of_pos_right n h5
  simp only [maxLen];omega
 obtain ⟨v,w',R',eh,hS,hR,_⟩:=h.Cp h1 h2 h3 h4 EW EU DR hx fc yk
 exact dZ.Bf hd hl (v:=v) (w':=w') (by simp only [execOp,ho,Sem.run_bind,eh,Result.andThen_ok,Sem.run_pure]) hS hR hK
theorem Hn {t:TypeId} {s n k:Nat} {parts:Array (Nat × Operand)} {rs:List eI} (ho:o.op = .buildSlice t n parts) (ht:mC C.P t s=true) (EW:n * s≤2 ^ 24)
  (DR:parts.toList.map (·.1)=List.range n) (hx:dy (parts.toList.map (·.2)) rs=true) (fc:small C.nt (parts.toList.map (·.2))=true) (yk:∀x∈rs.map (eI.ev C.E σ),x.plain=true∧x.cells.length=s) (hk:γ (lk k) = .no)
  (hK:∀D' a' w',dZ C D' (cY σ [d,lk k] [.sl s (rs.map (eI.ev C.E σ)),.dead]) (cY γ [d,lk k] [.fV k s,.live s]) a' w'→K a' w'):o.wp C.P a w K Q:=by
 obtain ⟨e,i,z,h1,h2,h3,h4,h5⟩:=oY ht
 have EU:n≤maxLen:=by
  have:n≤n * s:=Nat.le_mul_of_pos_right n h5
  simp only [maxLen];omega
 obtain ⟨v,w',R',eh,hS,hR,hT,_,hG⟩:=h.Cp h1 h2 h3 h4 EW EU DR hx fc yk
 unfold Oper.wp
 rw [show (execOp a.eval o).run C.P w = .ok (.value v) w' by simp only [execOp,ho,Sem.run_bind,eh,Result.andThen_ok,Sem.run_pure],Oper.upon_value,hd]
 exact hK _ _ _ (hS.qH hl hk hR hT hG)
omit h hd hl in
theorem rp {α:Type} {zs:List α} (hz:0<zs.length):∀(l j:Nat) (y:α),(List.replicate l zs).flatten[j]?=some y→zs[j % zs.length]?=some y
 | 0,j,y,h=>by simp at h
 | l+1,j,y,h=>by
  simp only [List.replicate_succ,List.flatten_cons] at h
  by_cases hj:j<zs.length
  ·rw [List.getElem?_append_left hj] at h;rwa [Nat.mod_eq_of_lt hj]
  ·rw [aU (by omega)] at h
   have:=rp hz l _ y h
   rwa [Nat.mod_eq_sub_mod (by omega)]
omit h hd hl in
theorem nS {R:Reach} {w:World} {xs:List AV} {ys:List Value} (h:eS R w xs ys):∀n,eS R w (List.replicate n xs).flatten (List.replicate n ys).flatten
 | 0 => .nil
 | n+1=>by simp only [List.replicate_succ,List.flatten_cons];exact h.append (nS h n)
theorem J6 {t e:TypeId} {x y:Operand} {r q:eI} {i:TypeInfo} {zv:Value} {k s:Nat} {z:AV} {l c:Int} (ho:o.op = .makeSlice t x y) (ht:C.P.underlying t=some (.slice e)) (hi:C.P.info? e=some i) (hz:i.size=s) (Gc:i.zero=some zv) (CA:zv.cells.size=s) (Tz:0<s)
  (N6:gu zv.cells.toList z.cells=true) (hx:dv x r=true) (hy:dv y q=true) (iw:small C.nt [x]=true) (pE:small C.nt [y]=true) (hr:r.ev C.E σ = .v (.int .i64 l)) (hq:q.ev C.E σ = .v (.int .i64 c))
  (hp:z.cells.length=s) (h0:0≤l) (Rl:l≤c) (hb:c * i.bytes≤140737488355328) (zH:c≤maxLen) (hk:γ (lk k) = .no)
  (hK:∀D' a' w',dZ C D' (cY σ [d,lk k] [.sl s (List.replicate l.toNat z),.dead]) (cY γ [d,lk k] [.fV k s,.live s]) a' w'→K a' w'):o.wp C.P a w K Q:=by
 have e1:=(h.jz hx iw).rep (by rw [hr];simp)
 have e2:=(h.jz hy pE).rep (by rw [hq];simp)
 rw [hr] at e1;rw [hq] at e2
 have Rh:=run_make (P:=C.P) w t e i zv ht hi Gc .i64 .i64 l c h0 Rl (by rw [Int.mul_comm];omega) (by simp only [maxLen] at zH;omega)
 have eh:(execOp a.eval o).run C.P w = .ok (.value (.slice (some ⟨w.heap.size,0,none⟩) l.toNat c.toNat)) (w.alloc (.cells (madeCells zv.cells (c.toNat * i.size)) e)):=by
  simp only [execOp,ho,e1.iB,e2.iB,Sem.run_bind,Rh,Result.andThen_ok,Sem.run_pure]
 have hL:eS D.R w z.cells zv.cells.toList:=js N6
 have Rw:(List.replicate l.toNat z).flatMap AV.cells=(List.replicate l.toNat z.cells).flatten:=by rw [List.flatMap_def,List.map_replicate]
 have Iu:l.toNat≤c.toNat:=by omega
 obtain ⟨R',hS,hR,qd,_,_,hh⟩:=h.newRow (w':=w.alloc (.cells (madeCells zv.cells (c.toNat * i.size)) e)) (es:=List.replicate l.toNat z) (s:=s) (cap:=c.toNat) (ys:=(List.replicate l.toNat zv.cells.toList).flatten) rfl rfl rfl rfl
  (fun x hx=>by rw [List.eq_of_mem_replicate hx];exact hp) (by rw [Rw];exact nS hL _)
  (fun j y hj=>by
   have h1:=rp (by simp;omega) _ _ _ hj
   have gS:=(aE.1 hj).1
   have Lv:(List.replicate l.toNat zv.cells.toList).flatten.length=l.toNat * s:=by simp [CA]
   rw [Lv] at gS
   have hle:l.toNat * s≤c.toNat * s:=bu _ Iu
   have hm:j<c.toNat * i.size:=by rw [hz];omega
   simp only [madeCells,Array.getElem?_map,Array.getElem?_range,hm,if_true,Option.map_some]
   simp only [Array.length_toList,Array.getElem?_toList] at h1
   rw [getElem!_def,h1]) (by simpa using Iu) (by omega)
 simp only [List.length_replicate] at hR qd
 unfold Oper.wp
 rw [eh,Oper.upon_value,hd]
 refine hK _ _ _ (hS.qH hl hk hR (.inr ⟨_,_,_,_,_,_,rfl,hh,by simp,by rw [size_madeCells,hz],Iu,by omega,qd⟩) fun g hg=>?_)
 simp [Value.ownBlock] at hg
 subst hg
 exact ⟨.inr h.ext.size,fun key hk=>by have:=h.lt hk;omega⟩
omit h hd hl in
theorem nR {P:Program} {w:World}:∀(fs:List Field),(∀f∈fs,(sizeOf f.type).run P w = .ok ((jg P f.type).getD 0) w) →
  ((fs.mapM fun (f:Field)=>do pure (f.offset,←sizeOf f.type)):Sem (List (Nat × Nat))).run P w = .ok (fs.map fun f=>(f.offset,(jg P f.type).getD 0)) w
 | [],_=>rfl
 | f :: fs,hs=>by
  simp only [List.mapM_cons,Sem.run_bind,hs f (by simp),Result.andThen_ok,Sem.run_pure,nR fs (fun g hg=>hs g (by simp [hg])),ao]
theorem Kl {t:TypeId} {z:List AV} {pl:List (Nat × Nat)} {parts:Array (Nat × Operand)} {rs:List eI} {cs:List AV} (ho:o.op = .build t parts) (hz:ph C.P t z=true) (Io:sx C.P t pl parts.toList=true) (hx:dy (parts.toList.map (·.2)) rs=true) (fc:small C.nt (parts.toList.map (·.2))=true)
  (hf:mo z pl (rs.map (eI.ev C.E σ))=some cs) (hK:∀D' a' w',dZ C D' (dP σ d (.ag cs)) (dP γ d .no) a' w'→K a' w'):o.wp C.P a w K Q:=by
 have hT:=h.wm hx fc
 obtain ⟨i,zv,hi,Gc,N6⟩:=nI hz
 have hL:eS D.R w z zv.cells.toList:=js N6
 simp only [sx,af,beq_iff_eq] at Io
 obtain ⟨⟨rn,hlen⟩,qP⟩:=Io
 have kN:∀(j:Nat) (p:Nat × Operand) (q:Nat × Nat),parts.toList[j]?=some p→pl[j]?=some q→(match C.P.underlying t with | some (.struct fs)=>(fs[p.1]?).any fun f=>f.offset == q.1&&jg C.P f.type == some q.2 | some (.array _ e)=>jg C.P e == some q.2&&p.1 * q.2 == q.1 | _=>false)=true:=fun j p q hp hq=>by
  have:=bj.1 qP (q,p) (bf (i:=j) (by simp [List.getElem?_zip_eq_some,hq,hp]))
  exact this
 have K4:∀(j:Nat) (p:Nat × Value) (x:AV),((parts.map fun p=>(p.1,a.eval p.2)).toList)[j]?=some p→(rs.map (eI.ev C.E σ))[j]?=some x→Rep D.R w x p.2:=fun j p x hp QS=>by
  obtain ⟨y,tZ,DQ⟩:=hT.get j x QS
  simp only [Array.toList_map,aP,bk] at hp tZ
  cases hq:parts.toList[j]? with
  | none=>simp [hq] at hp
  | some q=>simp [hq] at hp tZ;subst hp;rw [tZ];exact DQ
 have Im:∀place:Nat→Option (Nat × Nat),(∀(j:Nat) (p:Nat × Operand) (q:Nat × Nat),parts.toList[j]?=some p→pl[j]?=some q→place p.1=some q) →
   ∃gY,Instr.fill place zv.cells (parts.map fun p=>(p.1,a.eval p.2)).toList=some gY∧eS D.R w cs gY.toList:=fun place Om =>
  xl place _ pl _ z cs zv.cells hL (by simp [hlen]) (fun j p q hp hq=>by
   simp only [Array.toList_map,aP] at hp
   cases AD:parts.toList[j]? with
   | none=>simp [AD] at hp
   | some q'=>simp [AD] at hp;subst hp;exact Om j q' q AD hq) K4 hf
 unfold rq at rn
 cases hu:C.P.underlying t with
 | none=>simp [hu] at rn
 | some dd =>
  have fin:∀place:Nat→Option (Nat × Nat),(∀(j:Nat) (p:Nat × Operand) (q:Nat × Nat),parts.toList[j]?=some p→pl[j]?=some q→place p.1=some q) →
    (∀gY,Instr.fill place zv.cells (parts.map fun p=>(p.1,a.eval p.2)).toList=some gY→(execOp a.eval o).run C.P w = .ok (.value (.agg gY)) w)→o.wp C.P a w K Q:=fun place Om Q7=>by
   obtain ⟨gY,wV,hR⟩:=Im place Om
   exact h.ir hd hl (v := .agg gY) (Q7 gY wV) (by cases gY with | mk l=>exact .ag hR) hK
  cases dd with
  | struct fs =>
   simp only [hu] at rn
   have rE:∀f∈fs.toList,(sizeOf f.type).run C.P w = .ok ((jg C.P f.type).getD 0) w:=fun f hf=>by
    have:=bj.1 rn f hf
    obtain ⟨n,hn⟩:=Option.isSome_iff_exists.1 this
    obtain ⟨i',h1,h2⟩:=iJ hn
    rw [run_sizeOf h1,hn,h2];rfl
   refine fin (fun i=>(fs.map fun f=>(f.offset,(jg C.P f.type).getD 0))[i]?) (fun j p q hp hq=>?_) (fun gY hc=>?_)
   ·have:=kN j p q hp hq
    rw [hu] at this
    simp only at this
    cases OK:fs[p.1]? with
    | none=>simp [OK] at this
    | some f =>
     simp [OK] at this
     simp [OK,this.1,this.2]
   ·have hm:=nR fs.toList rE
    have wQ:((fs.mapM fun (f:Field)=>do pure (f.offset,←sizeOf f.type)):Sem (Array (Nat × Nat))).run C.P w = .ok (fs.map fun f=>(f.offset,(jg C.P f.type).getD 0)) w:=by
     rw [Array.mapM_eq_mapM_toList,Sem.run_map,hm]
     simp only [Result.andThen_ok]
     congr 1
     apply Array.ext'
     simp
    simp only [execOp,ho,Instr.build,Sem.run_bind,pR hi Gc,run_underlying hu,Result.andThen_ok,wQ]
    rw [hc]
    simp
  | array n e =>
   simp only [hu] at rn
   obtain ⟨s,hs⟩:=Option.isSome_iff_exists.1 rn
   obtain ⟨i',h1,h2⟩:=iJ hs
   refine fin (fun i=>some (i * s,s)) (fun j p q hp hq=>?_) (fun gY hc=>?_)
   ·have:=kN j p q hp hq
    rw [hu] at this
    simp [hs] at this
    obtain ⟨q1,q2⟩:=q
    simp at this
    rw [this.1,this.2]
   ·simp only [execOp,ho,Instr.build,Sem.run_bind,pR hi Gc,run_underlying hu,Result.andThen_ok,run_sizeOf h1,h2]
    rw [hc]
    simp
  | _=>simp [hu] at rn
end
end Go.Eng
namespace Go.Eng
open Go.RowKit
section
variable {X:Type}
theorem nM:∀{σ:Nat→X} {A B:List Nat} {xs ys:List X},A.length=xs.length→cY σ (A++B) (xs++ys)=cY (cY σ B ys) A xs
 | σ,[],B,[],ys,_=>by cases B <;> cases ys <;> rfl
 | σ,a :: A,B,x :: xs,ys,h=>by simp only [List.cons_append,cY];rw [nM (by simpa using h)]
 | σ,[],B,_ :: _,ys,h=>by simp at h
 | σ,_ :: _,B,[],ys,h=>by simp at h
theorem jk:∀{σ:Nat→X} {A:List Nat} {xs:List X} {k:Nat},k ∉ A→cY σ A xs k=σ k
 | σ,[],xs,k,_=>by cases xs <;> rfl
 | σ,a :: A,[],k,_=>rfl
 | σ,a :: A,x :: xs,k,h=>by
  simp only [cY]
  rw [bO _ _ (fun e=>h (by simp [e])),jk (fun e=>h (by simp [e]))]
theorem iZ:∀{σ:Nat→X} {A:List Nat} {xs:List X} {k:Nat} {x:X},k ∉ A→cY (dP σ k x) A xs=dP (cY σ A xs) k x
 | σ,[],xs,k,x,_=>by cases xs <;> rfl
 | σ,a :: A,[],k,x,_=>rfl
 | σ,a :: A,y :: xs,k,x,h=>by
  simp only [cY]
  rw [iZ (fun e=>h (by simp [e])),mA _ _ _ (fun e=>h (by simp [e]))]
theorem qA:∀{σ:Nat→X} {A B:List Nat} {xs ys:List X},(∀a∈A,a ∉ B)→cY (cY σ A xs) B ys=cY (cY σ B ys) A xs
 | σ,[],B,xs,ys,_=>by cases xs <;> rfl
 | σ,a :: A,B,[],ys,_=>rfl
 | σ,a :: A,B,x :: xs,ys,h=>by
  simp only [cY]
  rw [iZ (h a (by simp)),qA (fun c hc=>h c (by simp [hc]))]
theorem oq (σ:Nat→X) (k:Nat) (x y:X):dP (dP σ k x) k y=dP σ k y:=by
 funext j;simp only [dP];split <;> rfl
end
section
variable {C:Ctx} {D:kZ} {σ:Sg} {γ:Ga} {a:Act} {w:World}
theorem dZ.Dn:∀(ks:List Nat) {σ:Sg},dZ C D σ γ a w→(∀k∈ks,(γ k).gq=false)→dZ C D (cY σ ks (ks.map fun _ => .dead)) γ a w
 | [],_,h,_=>h
 | k :: ks,_,h,hk=>(dZ.Dn ks h (fun j hj=>hk j (by simp [hj]))).dead (hk k (by simp))
theorem dZ.F7:∀(ts:List (Nat × Nat)) {γ:Ga},dZ C D σ γ a w→(∀t∈ts,γ t.1 = .live t.2)→(ts.map (·.1)).Nodup→dZ C D σ (cY γ (ts.map (·.1)) (ts.map fun _ => .used)) a w
 | [],_,h,_,_=>h
 | t :: ts,γ,h,hk,hn=>by
  simp only [ao,List.nodup_cons] at hn
  have h1:=dZ.F7 ts h (fun u hu=>hk u (by simp [hu])) hn.2
  simp only [ao,cY]
  exact h1.kill (s:=t.2) (by rw [jk hn.1];exact hk t (by simp))
theorem dZ.fy (ts:List (Nat × (Nat × Value))):∀{D:kZ} {γ:Ga},dZ C D σ γ a w→(∀t∈ts,γ (lk t.1) = .no)→(ts.map (·.1)).Nodup →
  (∀t∈ts,gD D.R w t.2.2 t.2.1)→(∀t∈ts,∀g,t.2.2.ownBlock=some g→C.mf g∧∀key,gw D γ key≠some g)→(∀(i j:Nat) (t u:Nat × (Nat × Value)) (g:Nat),ts[i]?=some t→ts[j]?=some u→t.2.2.ownBlock=some g→u.2.2.ownBlock=some g→i=j) →
  ∃D',dZ C D' σ (cY γ (ts.map fun t=>lk t.1) (ts.map fun t => .live t.2.1)) a w∧D'.R=D.R∧D'.β=D.β∧(∀t∈ts,D'.τ (lk t.1)=t.2.2)∧(∀k,(∀t∈ts,k≠lk t.1)→D'.τ k=D.τ k) ∧
   (∀key g,gw D' (cY γ (ts.map fun t=>lk t.1) (ts.map fun t => .live t.2.1)) key=some g→gw D γ key=some g∨∃t∈ts,t.2.2.ownBlock=some g):=by
 induction ts with
 | nil=>exact fun {D γ} h _ _ _ _ _=>⟨D,h,rfl,rfl,by simp,fun _ _=>rfl,fun _ _ hk => .inl hk⟩
 | cons t ts ih =>
  intro D γ h pa hn hT qM EL
  simp only [ao,List.nodup_cons] at hn
  obtain ⟨D1,h1,hR,Az,qb,Ic,hb⟩:=ih h (fun u hu=>pa u (by simp [hu])) hn.2 (fun u hu=>hT u (by simp [hu])) (fun u hu=>qM u (by simp [hu]))
   (fun i j u v g hi hj hu hv=>by have:=EL (i+1) (j+1) u v g (by simpa using hi) (by simpa using hj) hu hv;omega)
  have jM:∀u∈ts,lk t.1≠lk u.1:=fun u hu e=>hn.1 (aW.2 ⟨u,hu,(j7 e).symm⟩)
  have ET:lk t.1 ∉ ts.map fun t=>lk t.1:=fun hm=>by obtain ⟨u,hu,e⟩:=aW.1 hm;exact jM u hu e.symm
  have Ir:cY γ (ts.map fun t=>lk t.1) (ts.map fun t => .live t.2.1) (lk t.1) = .no:=by rw [jk ET];exact pa t (by simp)
  have wU:∀g,t.2.2.ownBlock=some g→C.mf g∧∀key,gw D1 (cY γ (ts.map fun t=>lk t.1) (ts.map fun t => .live t.2.1)) key≠some g:=fun g hg=>by
   obtain ⟨m1,m2⟩:=qM t (by simp) g hg
   refine ⟨m1,fun key hk=>?_⟩
   rcases hb key g hk with hk | ⟨u,hu,Ob⟩
   ·exact m2 key hk
   ·obtain ⟨j,hj⟩:=bC hu
    have:=EL 0 (j+1) t u g rfl (by simpa using hj) hg Ob
    omega
  have h2:=h1.u0 Ir (by rw [hR];exact hT t (by simp)) wU
  refine ⟨_,h2,hR,Az,fun u hu=>?_,fun k hk=>?_,fun key g hk=>?_⟩
  ·rcases bq.1 hu with rfl | hu
   ·exact bK _ _ _
   ·show dP D1.τ (lk t.1) _ (lk u.1)=_
    rw [bO _ _ (fun e=>jM u hu e.symm)];exact qb u hu
  ·show dP D1.τ (lk t.1) _ k=_
   rw [bO _ _ (hk t (by simp))];exact Ic k (fun u hu=>hk u (by simp [hu]))
  ·by_cases e:key=lk t.1
   ·subst e
    right
    simp only [ao,cY,gw,bK] at hk
    exact ⟨t,by simp,hk⟩
   ·have:gw D1 (cY γ (ts.map fun t=>lk t.1) (ts.map fun t => .live t.2.1)) key=some g:=by
     simp only [ao,cY,gw] at hk
     rw [bO _ _ e] at hk
     unfold gw
     revert hk
     cases hg:cY γ (ts.map fun t=>lk t.1) (ts.map fun t => .live t.2.1) key with
     | live s'=>simp [bO _ _ e]
     | pv s'=>simp [bO _ _ e]
     | pc s'=>simp [bO _ _ e]
     | nO d s'=>simp [bO _ _ e]
     | _=>exact id
    rcases hb key g this with hk | ⟨u,hu,Ob⟩
    ·exact .inl hk
    ·exact .inr ⟨u,by simp [hu],Ob⟩
theorem dZ.A0 (h:dZ C D σ γ a w) {m:Nat} {w':World} {R':Reach} {io:Nat→Prop} {x:AV} {cs:List Value} {ts:List (Nat × (Nat × Nat))} (hm:γ m = .cl ts) (he:Ext w D.R io w' R')
  (wS:∀b,io b→b=D.β m∨(C.mf b∧∀key,gw D γ key≠some b)) (hv:jG R' w' x (D.β m) cs) (lt:∀b o,R' b o→b<w'.heap.size) :
  dZ C { D with R:=R' } (dP σ m x) (dP γ m (.cl [])) a w':=by
 have jK:∀j,(dP γ m (.cl []) j).gq=(γ j).gq:=fun j=>by
  by_cases e:j=m
  ·subst e;rw [bK,hm];rfl
  ·rw [bO _ _ e]
 have lQ:∀j,(dP γ m (.cl []) j).fL=(γ j).fL:=fun j=>by
  by_cases e:j=m
  ·subst e;rw [bK,hm];rfl
  ·rw [bO _ _ e]
 have hM:∀g,fZ γ g→fZ (dP γ m (.cl [])) g:=fun g hg=>by
  cases g <;> simp only [fZ,jK,lQ] at hg ⊢ <;> first | exact hg | skip
  rename_i d s'
  have hd:d≠m:=fun e=>by subst e;rcases hg with e | ⟨pr,e⟩ <;> rw [hm] at e <;> cases e
  rw [bO _ _ hd];exact hg
 have hB:∀key,gw { D with R:=R' } (dP γ m (.cl [])) key=gw D γ key:=fun key=>by
  unfold gw
  by_cases e:key=m
  ·subst e;rw [bK,hm]
  ·rw [bO _ _ e]
 have qN:∀key g,key≠m→gw D γ key=some g→w'.heap[g]?=w.heap[g]?∧∀o,R' g o→D.R g o:=fun key g jM hk=>by
  have Lf:¬io g:=fun hi=>by
   rcases wS g hi with e | ⟨_,e⟩
   ·exact jM (h.rz (key:=m) (by rw [hm];rfl) (by rw [iS hm,e]) hk).symm
   ·exact e key hk
  refine ⟨he.heap g (h.lt hk) Lf,fun o hr=>?_⟩
  rcases he.qG g o hr with r | r | r
  ·exact r
  ·have:=h.lt hk;omega
  ·exact (Lf r).elim
 refine ⟨h.size,h.defers,h.km,fun j hj=>h.kk j (by rwa [jK] at hj),fun j hj=>h.mg j (by rwa [lQ] at hj),fun t ht=>?_,fun j vs hj=>?_,fun key s' ko=>?_,h.ps.cq he.cq (fun key hp=>?_),fun p q g hp hq=>(by rw [jJ (by rw [hm];rfl) rfl,jJ (by rw [hm];rfl) rfl];exact h.sep p q g (by rwa [hB] at hp) (by rwa [hB] at hq)),fun p g hp=>h.own p g (by rwa [hB] at hp),fun key=>?_,?_,lt,fun n=>(h.gl n).mono he.cq,h.fix.dP (by rw [hm];rfl) rfl rfl⟩
 ·have e:t≠m:=by have:=(h.kk m (by rw [hm];rfl)).1;omega
  rw [bO _ _ e,bO _ _ e]
  exact (h.slot t ht).imp id fun ⟨r,g⟩=>⟨r.mono he.cq,by cases hg:γ t <;> rw [hg] at g <;> exact g⟩
 ·by_cases e:j=m
  ·subst e;rw [bK] at hj;cases hj;rw [bK];exact ⟨cs,hv,by simp⟩
  ·rw [bO _ _ e] at hj;rw [bO _ _ e]
   obtain ⟨MS,A8,vl⟩:=h.mem j vs hj
   obtain ⟨e1,e2⟩:=qN j _ e (iS hj)
   exact ⟨MS,A8.cq he.cq e1 (fun o hr=>A8.Cd o (e2 o hr)),vl⟩
 ·have e:key≠m:=fun e=>by subst e;rw [bK] at ko;cases ko
  rw [bO _ _ e] at ko
  exact (h.fV key s' ko).cq fun g hg=>qN key g e ((iR ko).trans hg)
 ·have e:key≠m:=fun e=>by subst e;rw [bK] at hp;cases hp
  rw [bO _ _ e] at hp ⊢
  rw [bO _ _ e]
  exact ⟨rfl,rfl,rfl,fun g hg=>qN key g e ((iG hp).trans hg)⟩
 ·by_cases e:key=m
  ·subst e;rw [bK];exact fun t ht=>by cases ht
  ·rw [bO _ _ e];exact hM _ (h.inv key)
 ·refine h.ext.trans he fun b hb=>?_
  rcases wS b hb with e | ⟨e,_⟩
  ·subst e;exact h.own m _ (iS hm)
  ·exact e
theorem dZ.xB (h:dZ C D σ γ a w) {w':World} {R':Reach} (he:Ext w D.R (fun _=>False) w' R') (lt:∀b o,R' b o→b<w'.heap.size):dZ C { D with R:=R' } σ γ a w' :=
 h.grow he.os he.tape he.output he.size (fun b hb=>he.heap b hb id) (fun b o hr=>(he.cq b o hr).1) (fun b o hr=>by
  rcases he.qG b o hr with r | r | r
  ·exact .inl r
  ·exact .inr r
  ·exact r.elim) lt
end
end Go.Eng
namespace Go.Eng
open Go.RowKit
theorem rZ {L:List (Nat × (Nat × Nat))} {vs:List Value} {p:Nat} {t:Nat × (Nat × Value)} (h:(List.zipWith (fun t v=>(t.2.1,(t.2.2,v))) L vs)[p]?=some t) :
  ∃q v,L[p]?=some q∧vs[p]?=some v∧t=(q.2.1,(q.2.2,v)):=by
 rw [List.getElem?_zipWith] at h
 cases h1:L[p]? with
 | none=>simp [h1] at h
 | some q =>
  cases h2:vs[p]? with
  | none=>simp [h1,h2] at h
  | some v=>simp [h1,h2] at h;exact ⟨q,v,rfl,rfl,h.symm⟩
theorem pL {β:Type} (f:Nat × Nat→β):∀{L:List (Nat × (Nat × Nat))} {vs:List Value},L.length=vs.length →
  (List.zipWith (fun t v=>(t.2.1,(t.2.2,v))) L vs).map (fun t=>f (t.1,t.2.1))=L.map fun t=>f (t.2.1,t.2.2)
 | [],[],_=>rfl
 | q :: L,v :: vs,h=>by
  simp only [List.zipWith_cons_cons,ao]
  rw [pL f (by simpa using h)]
 | [],_ :: _,h=>by simp at h
 | _ :: _,[],h=>by simp at h
theorem lJ {L:List (Nat × (Nat × Nat))} {p:Nat} {q:Nat × (Nat × Nat)} (h:L[p]?=some q):(jr L)[p]?=some (q.1,q.2.2):=by simp [jr,h]
section
variable {C:Ctx} {D:kZ} {σ:Sg} {γ:Ga} {a:Act} {w:World}
variable {o:Oper} {d:Nat} {K:Act→World→Prop} {Q:Exit→Act→World→Prop}
theorem qn {f:Nat} {args:Array Operand} {ts:Array TypeId} (ho:o.op = .call { callee := .value (.func f),args,argTypes:=ts }) (hp:jI C.P f=true):(execOp a.eval o).run C.P w = .ok (.enter f (args.map a.eval)) w:=by
 unfold jI at hp
 cases hf:C.P.funcs[f]? with
 | none=>simp [hf] at hp
 | some fn =>
  simp only [hf,Option.any_some,af,Bool.not_eq_true',beq_eq_false_iff_ne,ne_eq] at hp
  obtain ⟨h1,h2⟩:=hp
  have IN:fn.body.isNone=false:=by cases hb:fn.body <;> simp [hb] at h1 ⊢
  have he:a.eval (.func f) = .func (.func f) #[] #[]:=rfl
  simp [execOp,ho,resolve,Deferred.ofValue,he,invoke,callFunc,hf]
  rw [aj h2,aj (by intro e;rw [e] at h1;cases h1)]
theorem dZ.Dy (h:dZ C D σ γ a w) (hd:o.dst=some d) {f:Nat} {args:Array Operand} {ts:Array TypeId} (ho:o.op = .call { callee := .value (.func f),args,argTypes:=ts }) (hp:jI C.P f=true)
  {S:FS} (hS:fF C.P C.E.gl f S) (lO:S.sg.ps=none) {ins outs:List AV} (hG:S.G ins outs) (hA:jN S.sg D.R w ins (args.toList.map a.eval))
  (hK:∀x R' w',Ext w D.R (oQ S.sg w (args.toList.map a.eval)) w' R'→(∀b o,R' b o→b<w'.heap.size) →
   Ae S.sg R' w' (fun b=>oQ S.sg w (args.toList.map a.eval) b∨w.heap.size≤b) (args.toList.map a.eval) outs x→K (a.put (some d) x) w'):o.wp C.P a w K Q:=by
 unfold Oper.wp
 rw [qn ho hp,Oper.upon_enter]
 have:=hS.1 lO w D.R ins outs (args.toList.map a.eval) hG h.nF h.gl hA
 have e:(⟨args.toList.map a.eval⟩:Array Value)=args.map a.eval:=by apply Array.ext';simp
 rw [e] at this
 refine this.mono ?_
 rintro e w' ⟨x,R',rfl,h1,h2,h3⟩
 simp only
 rw [hd]
 exact hK x R' w' h1 h2 h3
theorem CS.oH (c:CS):c.dg.gq=false∧c.dg.fL=false:=by
 unfold CS.dg
 repeat' split
 all_goals exact ⟨rfl,rfl⟩
theorem CS.vD {c:CS} (h1:∀t∈c.own,(γ (lk t.2.1)).fL=true) (h2:∀q,c.new=some q→(γ q.2).gq=true):fZ γ c.dg:=by
 unfold CS.dg
 split
 ·split
  ·rename_i hn;exact h2 _ hn
  ·rename_i ho;exact h1 _ (by rw [ho];exact List.mem_singleton.2 rfl)
  ·trivial
 ·exact ⟨h1,h2⟩
theorem CS.Dg {c:CS} {ju:List Value} {x:Value} (hl:ju.length=c.cZ) (hx:x=if c.cZ=1 then ju.headD undef else .tuple ⟨ju⟩)
  (h1:∀t∈c.own,ju[t.1]?=some (D.τ (lk t.2.1))∧(D.τ (lk t.2.1)).oneCell'=true) (h2:∀q,c.new=some q→ju[q.1]?=some (.pointer (some ⟨D.β q.2,0,none⟩))):jU D c.dg x:=by
 unfold CS.dg
 split
 ·rename_i e
  rw [aq e] at hx
  rw [e] at hl
  match ju,hl with
  | [y],_ =>
   simp at hx;subst hx
   cases hn:c.new with
   | some q =>
    obtain ⟨j,m⟩:=q
    have:=h2 _ hn
    have hj:j=0:=by
     have:=(aE.1 this).1
     simp at this;exact this
    subst hj
    simpa [jU] using this
   | none =>
    split
    ·rename_i e;cases e
    ·rename_i q k s _ ho
     have:=h1 (0,k,s) (by rw [ho];simp)
     simp at this
     exact ⟨this.1,by rw [this.1];exact this.2⟩
    ·trivial
 ·rename_i e
  rw [aj e] at hx
  exact ⟨ju,hx,h1,h2⟩
theorem wy {c:CS} {g:dw} {R:Reach} {w:World} {outs:List AV} {ju:List Value} {x:Value} (hn:c.cZ=g.cZ) (jT:c.new.map (·.1)=g.new) (hl:ju.length=g.cZ) (hx:x=if g.cZ=1 then ju.headD undef else .tuple ⟨ju⟩)
  (hj:∀q∈c.new.toList,q.1<c.cZ) (hT:gT R w ((outs.take g.cZ).mapIdx fun i y=>if g.new=some i then .pt else y) ju):Rep R w (c.main outs) x:=by
 have OI:(fun (i:Nat) (y:AV)=>if g.new=some i then AV.pt else y)=fun i y=>if c.new.any (·.1 == i) then .pt else y:=by
  funext i y
  rw [←jT]
  cases c.new with
  | none=>simp
  | some q=>simp
 rw [OI] at hT
 unfold CS.main
 rw [hn]
 by_cases e:g.cZ=1
 ·rw [aq e] at hx ⊢
  rw [e] at hl hT
  match ju,hl with
  | [y],_ =>
   simp at hx;subst hx
   cases hc:c.new with
   | some q=>simp;exact .pt _
   | none =>
    simp only [hc,Option.isSome_none,bo,if_false]
    rw [hc] at hT
    cases outs with
    | nil=>simp at hT;cases hT
    | cons o1 os =>
     simp at hT
     cases hT with
     | cons h1 _=>simpa using h1
 ·rw [aj e] at hx ⊢
  subst hx
  exact .tu hT
end
end Go.Eng
namespace Go.Eng
open Go.RowKit
theorem Dp {L:List (Nat × (Nat × Nat))} (h:jr L=[]):L=[]:=by cases L with | nil=>rfl | cons=>simp [jr] at h
section
variable {C:Ctx} {D:kZ} {σ:Sg} {γ:Ga} {a:Act} {w:World}
variable {o:Oper} {d:Nat} {K:Act→World→Prop} {Q:Exit→Act→World→Prop}
theorem dZ.vT (h:dZ C D σ γ a w) {L:List (Nat × (Nat × Nat))} {vs:List Value} (hl:L.length=vs.length) (pa:∀t∈L,γ (lk t.2.1) = .no) (hnd:(L.map (·.2.1)).Nodup)
  (hT:∀(p:Nat) (t:Nat × Nat) (v:Value),(jr L)[p]?=some t→vs[p]?=some v→gD D.R w v t.2)
  (qM:∀v∈vs,∀g,v.ownBlock=some g→C.mf g∧∀key,gw D γ key≠some g) (EL:∀(p q g:Nat),(vs.map Value.ownBlock)[p]?=some (some g)→(vs.map Value.ownBlock)[q]?=some (some g)→p=q) :
  ∃D',dZ C D' (cY σ (L.map fun t=>lk t.2.1) (L.map fun _ => .dead)) (cY γ (L.map fun t=>lk t.2.1) (L.map fun t => .live t.2.2)) a w∧D'.R=D.R∧D'.β=D.β ∧
   (∀(p:Nat) (t:Nat × (Nat × Nat)) (v:Value),L[p]?=some t→vs[p]?=some v→D'.τ (lk t.2.1)=v)∧(∀k,(∀t∈L,k≠lk t.2.1)→D'.τ k=D.τ k) ∧
   (∀key g,gw D' (cY γ (L.map fun t=>lk t.2.1) (L.map fun t => .live t.2.2)) key=some g→gw D γ key=some g∨∃v∈vs,v.ownBlock=some g):=by
 let T:=List.zipWith (fun t v=>(t.2.1,(t.2.2,v))) L vs
 have e1:(T.map fun t=>lk t.1)=L.map fun t=>lk t.2.1:=pL (fun p=>lk p.1) hl
 have e2:(T.map fun t=>Gh.live t.2.1)=L.map fun t => .live t.2.2:=pL (fun p=>Gh.live p.2) hl
 have e3:T.map (·.1)=L.map (·.2.1):=pL (fun p=>p.1) hl
 have qe:∀t∈T,∃(p:Nat) (q:Nat × (Nat × Nat)) (v:Value),T[p]?=some t∧L[p]?=some q∧vs[p]?=some v∧t=(q.2.1,(q.2.2,v)):=fun t ht=>by
  obtain ⟨p,hp⟩:=bC ht
  obtain ⟨q,v,h1,h2,h3⟩:=rZ hp
  exact ⟨p,q,v,hp,h1,h2,h3⟩
 obtain ⟨D',h1,hR,Az,qb,Ic,hb⟩:=h.fy T (fun t ht=>by obtain ⟨p,q,v,_,h1,_,rfl⟩:=qe t ht;exact pa q (bf h1)) (by rw [e3];exact hnd)
  (fun t ht=>by obtain ⟨p,q,v,_,h1,h2,rfl⟩:=qe t ht;exact hT p (q.1,q.2.2) v (lJ h1) h2)
  (fun t ht g hg=>by obtain ⟨p,q,v,_,h1,h2,rfl⟩:=qe t ht;exact qM v (bf h2) g hg)
  (fun i j t u g hi hj ht hu=>by
   obtain ⟨q,v,h1,h2,rfl⟩:=rZ hi
   obtain ⟨q',v',IN,vx,rfl⟩:=rZ hj
   exact EL i j g (by simp [h2];exact ht) (by simp [vx];exact hu))
 rw [e1,e2] at h1 hb
 have h2:=h1.Dn (L.map fun t=>lk t.2.1) (fun k hk=>by
  cases hc:(cY γ (L.map fun t=>lk t.2.1) (L.map fun t=>Gh.live t.2.2) k).gq with
  | false=>rfl
  | true =>
   have:=(h1.kk k hc).2
   obtain ⟨t,_,e⟩:=aW.1 hk
   have:=iu t.2.1
   omega)
 rw [bk] at h2
 refine ⟨D',h2,hR,Az,fun p t v ht hv=>?_,fun k hk=>?_,fun key g hk=>?_⟩
 ·have hp:T[p]?=some (t.2.1,(t.2.2,v)):=by simp only [T];rw [List.getElem?_zipWith];simp [ht,hv]
  exact qb _ (bf hp)
 ·exact Ic k (fun t ht=>by obtain ⟨p,q,v,_,h1,_,rfl⟩:=qe t ht;exact hk q (bf h1))
 ·rcases hb key g hk with hk | ⟨t,ht,hg⟩
  ·exact .inl hk
  ·obtain ⟨p,q,v,_,h1,h2,rfl⟩:=qe t ht
   exact .inr ⟨v,bf h2,hg⟩
theorem qR {c:CS} {g:dw} (h:c.fits g=true):c.ref.map (·.1)=g.ref∧jr c.kF=g.fy∧jr c.iI=g.fy∧c.cZ=g.cZ∧jr c.own=g.own∧c.new.map (·.1)=g.new∧jr c.fx=g.fx ∧
  ((c.kF++c.iI++c.own++c.fx).map (·.2.1)).Nodup∧(c.ref=none→c.kF=[])∧(c.new=none→c.fx=[])∧(c.ref=none∨c.new=none)∧(∀q∈c.new.toList,q.1<c.cZ∧q.2<999999)∧g.ps=none:=by
 unfold CS.fits at h;exact aF h
variable (h:dZ C D σ γ a w) (hd:o.dst=some d) (hl:d<C.nt)
include h hd hl
theorem B3 {f:Nat} {args:Array Operand} {ts:Array TypeId} {c:CS} {rs:List eI} (ho:o.op = .call { callee := .value (.func f),args,argTypes:=ts }) (hp:jI C.P f=true)
  {S:FS} (hS:fF C.P C.E.gl f S) (hc:c.fits S.sg=true) (jj:c.ref=none) (hx:dy args.toList rs=true) (fc:small C.nt args.toList=true) {outs:List AV}
  (hG:S.G (rs.map (eI.ev C.E σ)) outs) (ua:outs.length=c.cZ+c.jL.length)
  (jT:∀q,c.new=some q→γ q.2 = .no∧C.nt≤q.2∧q.2<1000000) (pa:∀t∈c.own++c.fx,γ (lk t.2.1) = .no)
  (hK:∀D' a' w',dZ C D' (cY σ (d :: (c.jL++c.mh)) (c.main outs :: (outs.drop c.cZ++c.mh.map fun _ => .dead)))
   (cY γ (d :: (c.jL++c.mh)) (c.dg :: (c.new.toList.map (fun _ => .cl c.fx)++c.ref.toList.map (fun _ => .cl c.iI)++c.kF.map (fun _ => .used)++(c.iI++c.own++c.fx).map fun t => .live t.2.2))) a' w'→K a' w'):o.wp C.P a w K Q:=by
 obtain ⟨f1,f2,f3,f4,f5,f6,f7,f8,f9,f10,f11,f12,f13⟩:=qR hc
 have wI:=f9 jj
 have rl:S.sg.ref=none:=by rw [←f1,jj];rfl
 have zz:S.sg.fy=[]:=by rw [←f2,wI];rfl
 have zy:c.iI=[]:=Dp (by rw [f3,zz])
 have CP:c.mh=(c.own++c.fx).map fun t=>lk t.2.1:=by simp [CS.mh,wI,zy]
 have hnd:((c.own++c.fx).map (·.2.1)).Nodup:=by simpa [wI,zy] using f8
 have hA:jN S.sg D.R w (rs.map (eI.ev C.E σ)) (args.toList.map a.eval):=by
  unfold jN;rw [rl];exact h.wm hx fc
 refine h.Dy hd ho hp hS f13 hG hA ?_
 intro x R' w' hE gS hO
 have wS:oQ S.sg w (args.toList.map a.eval)=fun _=>False:=by funext b;simp [oQ,rl]
 rw [wS] at hE
 obtain ⟨ju,tr,gZ,tn,bn,br,cn,cr,o1,o2,o3,o4,o5,_,o7,o8,o9,_,Nv,Qw,Jl,Hq,Kq⟩:=hO
 have Q0:tr=[]:=bA (by rw [o7,zz];rfl)
 subst Q0
 have h1:=h.xB hE gS
 have C2:(c.own++c.fx).length=(gZ++tn).length:=by
  simp only [aw,o8,o9,←f5,←f7,jr,aQ]
 have CY:jr (c.own++c.fx)=S.sg.own++S.sg.fx:=by rw [←f5,←f7];simp [jr]
 -- Ps blocks Pu Sl
 have CJ:mc S.sg bn br ([]++gZ++tn)=(if S.sg.new.isSome then [some bn] else [])++(gZ++tn).map Value.ownBlock:=by
  simp [mc,rl]
 rw [CJ] at Hq Kq
 have pb:∀g,some g∈(if S.sg.new.isSome then [some bn] else [])++(gZ++tn).map Value.ownBlock→w.heap.size≤g:=fun g hg=>by
  rcases Kq g hg with e | e
  ·rw [wS] at e;exact e.elim
  ·exact e
 obtain ⟨D2,h2,OS,QN,K1,_,DS⟩:=h1.vT (L:=c.own++c.fx) (vs:=gZ++tn) C2 pa hnd
  (fun p t v ht hv=>by rw [CY] at ht;exact Jl p t v (by rw [zz];exact ht) hv)
  (fun v hv g hg=>by
   have zF:=pb g (List.mem_append.2 (.inr (aW.2 ⟨v,hv,hg⟩)))
   exact ⟨.inr (Nat.le_trans h.ext.size zF),fun key hk=>by have:=h.lt (show gw D γ key=some g from hk);omega⟩)
  (fun p q g hp hq=>by
   have:=Hq ((if S.sg.new.isSome then [some bn] else []).length+p) ((if S.sg.new.isSome then [some bn] else []).length+q) g
    (by rw [aU (by omega),Nat.add_sub_cancel_left];exact hp) (by rw [aU (by omega),Nat.add_sub_cancel_left];exact hq)
   omega)
 have kW:∀t∈c.own++c.fx,(cY γ ((c.own++c.fx).map fun t=>lk t.2.1) ((c.own++c.fx).map fun t => .live t.2.2) (lk t.2.1)).fL=true:=by
  intro t ht
  have:∀(L:List (Nat × (Nat × Nat))),t∈L→(cY γ (L.map fun t=>lk t.2.1) (L.map fun t => .live t.2.2) (lk t.2.1)).fL=true:=by
   intro L
   induction L with
   | nil=>intro hm;cases hm
   | cons u L ih =>
    intro hm
    simp only [ao,cY]
    by_cases e:lk t.2.1=lk u.2.1
    ·rw [e,bK];rfl
    ·rw [bO _ _ e]
     rcases bq.1 hm with rfl | hm
     ·exact (e rfl).elim
     ·exact ih hm
  exact this _ ht
 have AF:∀(p:Nat) (t:Nat × (Nat × Nat)) (v:Value),(c.own++c.fx)[p]?=some t→(gZ++tn)[p]?=some v→v.oneCell'=true:=fun p t v ht hv=>by
  have LB:=lJ ht
  rw [CY] at LB
  rcases Jl p _ v (by rw [zz];exact LB) hv with rfl | ⟨_,_,_,_,_,_,rfl,_⟩ <;> rfl
 have zC:∀t∈c.own,ju[t.1]?=some (D2.τ (lk t.2.1))∧(D2.τ (lk t.2.1)).oneCell'=true:=fun t ht=>by
  obtain ⟨p,jV⟩:=bC ht
  have yo:=(aE.1 jV).1
  have sL:gZ.length=c.own.length:=by rw [o8,←f5];simp [jr]
  have hv:gZ[p]?=some gZ[p]:=aD (by omega)
  have e1:(c.own++c.fx)[p]?=some t:=by rw [List.getElem?_append_left yo];exact jV
  have e2:(gZ++tn)[p]?=some gZ[p]:=by rw [List.getElem?_append_left (by omega)];exact hv
  have e3:=Nv p _ _ (by rw [←f5];exact lJ jV) hv
  rw [K1 p t _ e1 e2]
  exact ⟨e3,AF p t _ e1 e2⟩
 have kn:=wy (R:=R') (w:=w') f4 f6 o1 o2 (fun q hq=>(f12 q hq).1) o4
 cases hn:c.new with
 | none =>
  have n9:c.jL=[]:=by simp [CS.jL,hn,jj]
  have rj:=f10 hn
  have nz:outs.drop c.cZ=[]:=aJ (by rw [ua,n9];simp)
  have h3:=h2.put (d:=d) (s:=c.main outs) (g:=c.dg) (v:=x) hl (.inr ⟨by rw [OS];exact kn,fun _=>CS.Dg (by rw [o1,f4]) (by rw [f4];exact o2) zC (by simp [hn])⟩)
   (CS.oH c).1 (CS.oH c).2 (CS.vD (fun t ht=>kW t (by simp [ht])) (by simp [hn]))
  refine hK D2 (a.put (some d) x) w' ?_
  simp only [n9,CP,nz,hn,jj,wI,zy,Option.toList,au,bz,cY]
  simpa [Function.comp_def] using h3
 | some q =>
  obtain ⟨j,m⟩:=q
  obtain ⟨oR,qw,xK⟩:=jT _ hn
  have Mz:S.sg.new=some j:=by rw [←f6,hn];rfl
  have n9:c.jL=[m]:=by simp [CS.jL,hn,jj]
  obtain ⟨p1,p2⟩:=o5 j Mz
  have Ot:outs.length=c.cZ+1:=by rw [ua,n9];rfl
  have Ll:c.cZ<outs.length:=by omega
  have nz:outs.drop c.cZ=[outs.getD S.sg.cZ .dead]:=by
   rw [List.drop_eq_getElem_cons Ll,aJ (by omega),←f4]
   simp [List.getD,Ll]
  have CO:m ∉ (c.own++c.fx).map fun t=>lk t.2.1:=fun hm=>by
   obtain ⟨t,_,e⟩:=aW.1 hm
   have:=iu t.2.1
   simp at e xK
   omega
  have EY:cY γ ((c.own++c.fx).map fun t=>lk t.2.1) ((c.own++c.fx).map fun t => .live t.2.2) m = .no:=by rw [jk CO];exact oR
  have RC:w.heap.size≤bn:=pb bn (by simp [Mz])
  have h3:=h2.newVar (m:=m) (b:=bn) (x:=outs.getD S.sg.cZ .dead) (cs:=cn) (ts:=c.fx) EY qw (f12 (j,m) (by rw [hn];exact List.mem_singleton.2 rfl)).2 (by rw [OS];exact p2)
   (fun t ht=>⟨kW t (by simp [ht]),by
    obtain ⟨p,jV⟩:=bC ht
    have yo:=(aE.1 jV).1
    have sL:gZ.length=c.own.length:=by rw [o8,←f5];simp [jr]
    have Tp:tn.length=c.fx.length:=by rw [o9,←f7];simp [jr]
    have hv:tn[p]?=some tn[p]:=aD (by omega)
    rw [K1 (c.own.length+p) t tn[p] (by rw [aU (by omega),Nat.add_sub_cancel_left];exact jV) (by rw [aU (by omega),sL,Nat.add_sub_cancel_left];exact hv)]
    exact Qw p _ _ (by rw [←f7];exact lJ jV) hv⟩)
   ⟨.inr (Nat.le_trans h.ext.size RC),fun key hk=>by
    rcases DS key bn hk with e | ⟨v,hv,e⟩
    ·have:=h.lt (show gw D γ key=some bn from e);omega
    ·obtain ⟨p,jV⟩:=bC hv
     have:=Hq 0 (1+p) bn (by simp [Mz]) (by simp only [Mz,Option.isSome_some,if_true];rw [aU (by simp),show 1+p - [some bn].length=p by simp,aP,jV];simp [e])
     omega⟩
  have h4:=h3.put (d:=d) (s:=c.main outs) (g:=c.dg) (v:=x) hl (.inr ⟨by show Rep D2.R w' _ _;rw [OS];exact kn,fun _=>CS.Dg (by rw [o1,f4]) (by rw [f4];exact o2) zC (fun q hq=>by
    rw [hn] at hq;cases hq
    show ju[j]?=some (.pointer (some ⟨dP D2.β m bn m,0,none⟩))
    rw [bK];exact p1)⟩)
   (CS.oH c).1 (CS.oH c).2 (CS.vD (fun t ht=>by
    have jM:lk t.2.1≠m:=by have:=iu t.2.1;simp at xK;omega
    rw [bO _ _ jM];exact kW t (by simp [ht])) (fun q hq=>by rw [hn] at hq;cases hq;rw [bK];rfl))
  refine hK { D2 with β:=dP D2.β m bn } (a.put (some d) x) w' ?_
  simp only [n9,CP,nz,hn,jj,wI,zy,Option.toList,au,bz,ao,List.cons_append,cY]
  simpa [Function.comp_def] using h4
end
end Go.Eng
namespace Go.Eng
open Go.RowKit
theorem y8 {α:Type} {l:List α} {i:Nat} {x:α} (h:l[i]?=some x):l.set i x=l:=by
 apply List.ext_getElem?
 intro j
 rw [List.getElem?_set]
 split
 ·rename_i e;subst e
  rw [aq (aE.1 h).1,h]
 ·rfl
theorem tL {α:Type}:∀{l:List α} {i j:Nat} {x:α},l.Nodup→l[i]?=some x→l[j]?=some x→i=j
 | [],i,j,x,_,h,_=>by simp at h
 | a :: l,0,0,x,_,_,_=>rfl
 | a :: l,0,j+1,x,hn,h,k=>by
  simp at h k
  subst h
  exact ((List.nodup_cons.1 hn).1 (bf k)).elim
 | a :: l,i+1,0,x,hn,h,k=>by
  simp at h k
  subst k
  exact ((List.nodup_cons.1 hn).1 (bf h)).elim
 | a :: l,i+1,j+1,x,hn,h,k=>by
  have:=tL (i:=i) (j:=j) (List.nodup_cons.1 hn).2 (by simpa using h) (by simpa using k)
  omega
section
variable {C:Ctx} {D:kZ} {σ:Sg} {γ:Ga} {a:Act} {w:World}
variable {o:Oper} {d:Nat} {K:Act→World→Prop} {Q:Exit→Act→World→Prop}
variable (h:dZ C D σ γ a w) (hd:o.dst=some d) (hl:d<C.nt)
include h hd hl
theorem B2 {f : Nat} {args : Array Operand} {rV : Array TypeId} {c : CS} {rs : List eI} {i m : Nat} {ts : List (Nat × (Nat × Nat))} (ho : o.op = .call { callee := .value (.func f), args, argTypes := rV }) (hp : jI C.P f = true)
    {S : FS} (hS : fF C.P C.E.gl f S) (hc : c.fits S.sg = true) (jj : c.ref = some (i, m)) (hx : dy args.toList rs = true) (fc : small C.nt args.toList = true) {outs : List AV}
    (A9 : (rs.map (eI.ev C.E σ))[i]? = some .pt) (Ix : (rs.map (eI.gh γ))[i]? = some (.ptr m 0)) (hm : γ m = .cl ts) (o0 : ∀ t ∈ c.kF, t ∈ ts) (kW : ∀ t ∈ c.kF, γ (lk t.2.1) = .live t.2.2)
    (hG : S.G ((rs.map (eI.ev C.E σ)).set i (σ m)) outs) (ua : outs.length = c.cZ + c.jL.length) (pa : ∀ t ∈ c.iI ++ c.own, γ (lk t.2.1) = .no)
    (hK : ∀ D' a' w', dZ C D' (cY σ (d :: (c.jL ++ c.mh)) (c.main outs :: (outs.drop c.cZ ++ c.mh.map fun _ => .dead)))
      (cY γ (d :: (c.jL ++ c.mh)) (c.dg :: (c.new.toList.map (fun _ => .cl c.fx) ++ c.ref.toList.map (fun _ => .cl c.iI) ++ c.kF.map (fun _ => .used) ++ (c.iI ++ c.own ++ c.fx).map fun t => .live t.2.2))) a' w' → K a' w') : o.wp C.P a w K Q := by
  obtain ⟨f1, f2, f3, f4, f5, f6, f7, f8, f9, f10, f11, f12, f13⟩ := qR hc
  have jT : c.new = none := by rcases f11 with e | e; · rw [jj] at e; cases e
                               · exact e
  have rj := f10 jT
  have rl : S.sg.ref = some i := by rw [← f1, jj]; rfl
  have Gm : S.sg.new = none := by rw [← f6, jT]; rfl
  have yp : S.sg.fx = [] := by rw [← f7, rj]; rfl
  have n9 : c.jL = [m] := by simp [CS.jL, jT, jj]
  have CP : c.mh = (c.kF.map fun t => lk t.2.1) ++ (c.iI ++ c.own).map fun t => lk t.2.1 := by simp [CS.mh, rj]
  simp only [rj, aM] at f8
  have Lh : (c.kF.map (·.2.1)).Nodup := by
    rw [aZ, List.map_append] at f8; exact (List.nodup_append.1 f8).1
  have Ow : ((c.iI ++ c.own).map (·.2.1)).Nodup := by
    rw [aZ, List.map_append] at f8; exact (List.nodup_append.1 f8).2.1
  have Lz : ∀ t ∈ c.kF, ∀ u ∈ c.iI ++ c.own, t.2.1 ≠ u.2.1 := by
    rw [aZ, List.map_append] at f8
    intro t ht u hu
    exact (List.nodup_append.1 f8).2.2 _ (aW.2 ⟨t, ht, rfl⟩) _ (aW.2 ⟨u, hu, rfl⟩)
  obtain ⟨oR, qw⟩ := h.kk m (by rw [hm]; rfl)
  have AG : ∀ k, m ≠ lk k := fun k => by have := iu k; omega
  -- the arguments
  obtain ⟨cs, hV, zG⟩ := h.mem m ts hm
  have hT := h.wm hx fc
  have Iw := (aE.1 A9).1
  obtain ⟨y, tZ, _⟩ := hT.get i .pt A9
  have Il : (args.toList.map a.eval)[i]? = some (.pointer (some ⟨D.β m, 0, none⟩)) := by
    have key : ∀ {l : List Operand} {qs : List eI} {i : Nat}, dy l qs = true → small C.nt l = true → (qs.map (eI.ev C.E σ))[i]? = some .pt → (qs.map (eI.gh γ))[i]? = some (.ptr m 0) → (l.map a.eval)[i]? = some (.pointer (some ⟨D.β m, 0, none⟩)) := by
      intro l
      induction l with
      | nil => intro qs i hq _ jV; cases qs with
        | nil => simp at jV
        | cons => simp [dy] at hq
      | cons x l ih =>
        intro qs i hq Mt jV mX
        cases qs with
        | nil => simp [dy] at hq
        | cons q qs =>
          simp [dy] at hq
          have s1 : small C.nt [x] = true := by simp [small] at Mt ⊢; exact Mt.1
          have s2 : small C.nt l = true := by simp only [small, List.all_cons, af] at Mt; exact Mt.2
          cases i with
          | zero =>
            simp at jV mX
            have := (h.jz hq.1 s1).gh (by rw [jV]; simp) (by rw [jV]; simp)
            rw [mX] at this
            simpa [jU] using this
          | succ i => simpa using ih hq.2 s2 (by simpa using jV) (by simpa using mX)
    exact key hx fc A9 Ix
  let tv : List Value := c.kF.map fun t => D.τ (lk t.2.1)
  have Jn : ∀ (p : Nat) (t : Nat × (Nat × Nat)), c.kF[p]? = some t → tv[p]? = some (D.τ (lk t.2.1)) := fun p t ht => by simp [tv, ht]
  have w9 : ∀ t ∈ c.kF, gw D γ (lk t.2.1) = (D.τ (lk t.2.1)).ownBlock := fun t ht => iR (kW t ht)
  have hA : jN S.sg D.R w ((rs.map (eI.ev C.E σ)).set i (σ m)) (args.toList.map a.eval) := by
    unfold jN
    rw [rl]
    refine ⟨D.β m, cs, σ m, tv, Il, List.getElem?_set_self Iw, hV, ?_, ?_, ?_, ?_⟩
    · rw [List.set_set, y8 A9]; exact hT
    · simp [tv, ← f2, jr]
    · intro p t v ht hv
      rw [← f2] at ht
      simp only [jr, aP] at ht
      cases hq : c.kF[p]? with
      | none => simp [hq] at ht
      | some q =>
        simp [hq] at ht
        subst ht
        have e := Jn p q hq
        rw [hv] at e
        cases e
        have qe := bf hq
        exact ⟨zG q (o0 q qe), h.fV _ _ (kW q qe)⟩
    · have tl : ∀ (p g : Nat), (some (D.β m) :: tv.map Value.ownBlock)[p]? = some (some g) → ∃ key, gw D γ key = some g ∧ ((p = 0 ∧ key = m) ∨ ∃ p' t, p = p' + 1 ∧ c.kF[p']? = some t ∧ key = lk t.2.1) := by
        intro p g jV
        cases p with
        | zero => simp at jV; exact ⟨m, by rw [iS hm, jV], .inl ⟨rfl, rfl⟩⟩
        | succ p =>
          simp only [List.getElem?_cons_succ, tv, bk, aP] at jV
          cases hq : c.kF[p]? with
          | none => simp [hq] at jV
          | some q =>
            simp [hq] at jV
            exact ⟨lk q.2.1, by rw [w9 q (bf hq)]; exact jV, .inr ⟨p, q, rfl, hq, rfl⟩⟩
      intro p q g jV AD
      obtain ⟨k1, e1, c1⟩ := tl p g jV
      obtain ⟨k2, e2, c2⟩ := tl q g AD
      have OE : k1 = k2 := h.rz (by
        rcases c1 with ⟨_, e⟩ | ⟨p', t, _, ht, e⟩
        · rw [e, hm]; rfl
        · rw [e, kW t (bf ht)]; rfl) e1 e2
      rcases c1 with ⟨rfl, rfl⟩ | ⟨p', t, rfl, ht, rfl⟩ <;> rcases c2 with ⟨rfl, rfl⟩ | ⟨q', u, rfl, hu, rfl⟩
      · rfl
      · exact (AG _ OE).elim
      · exact (AG _ OE.symm).elim
      · have hid := j7 OE
        have h1 : (c.kF.map (·.2.1))[p']? = some t.2.1 := by simp [ht]
        have h2 : (c.kF.map (·.2.1))[q']? = some t.2.1 := by simp [hu, hid]
        have := tL Lh h1 h2
        omega
  refine h.Dy hd ho hp hS f13 hG hA ?_
  intro x R' w' hE gS hO
  obtain ⟨ju, tr, gZ, tn, bn, br, cn, cr, o1, o2, o3, o4, _, o6, o7, o8, o9, Ml, Nv, _, Jl, Hq, Kq⟩ := hO
  have Q1 : tn = [] := bA (by rw [o9, yp]; rfl)
  subst Q1
  obtain ⟨p1, p2⟩ := o6 i rl
  rw [Il] at p1
  cases p1
  simp only [Gm, Option.isSome_none, bo, if_false, Nat.add_zero] at p2 o3
  -- Qu the call may have written
  have wS : ∀ b, oQ S.sg w (args.toList.map a.eval) b → b = D.β m ∨ ∃ t ∈ c.kF, (D.τ (lk t.2.1)).ownBlock = some b := by
    intro b hb
    unfold oQ at hb
    rw [rl] at hb
    obtain ⟨b', MS, e', q1, q2, q3⟩ := hb
    rw [Il] at q1
    cases q1
    rcases q3 with q3 | ⟨t, ht, v, hv, Oa⟩
    · exact .inl q3
    · right
      obtain ⟨_, hh, _⟩ := hV
      rw [hh] at q2
      cases q2
      rw [← f2] at ht
      obtain ⟨q, hq, rfl⟩ := aW.1 ht
      have := zG q (o0 q hq)
      simp only at hv
      rw [this] at hv
      cases hv
      exact ⟨q, hq, Oa⟩
  -- the Ta fy Sl used up
  have h1 := h.F7 (c.kF.map fun t => (lk t.2.1, t.2.2)) (fun u hu => by obtain ⟨t, ht, rfl⟩ := aW.1 hu; exact kW t ht) (by
    rw [bk]
    have : ((fun x : Nat × Nat => x.1) ∘ fun t : Nat × (Nat × Nat) => (lk t.2.1, t.2.2)) = lk ∘ fun t => t.2.1 := rfl
    rw [this, ← bk]
    exact List.Pairwise.map _ (fun _ _ jM e => jM (j7 e)) Lh)
  simp only [bk] at h1
  have eT : (c.kF.map ((fun x : Nat × Nat => x.1) ∘ fun t : Nat × (Nat × Nat) => (lk t.2.1, t.2.2))) = c.kF.map fun t => lk t.2.1 := rfl
  have eU : (c.kF.map ((fun _ : Nat × Nat => Gh.used) ∘ fun t : Nat × (Nat × Nat) => (lk t.2.1, t.2.2))) = c.kF.map fun _ => Gh.used := rfl
  rw [eT, eU] at h1
  have OB : m ∉ c.kF.map fun t => lk t.2.1 := fun lP => by obtain ⟨t, _, e⟩ := aW.1 lP; exact AG _ e.symm
  have OC : m ∉ (c.iI ++ c.own).map fun t => lk t.2.1 := fun lP => by obtain ⟨t, _, e⟩ := aW.1 lP; exact AG _ e.symm
  have Gs : ∀ key g, gw D (cY γ (c.kF.map fun t => lk t.2.1) (c.kF.map fun _ => Gh.used)) key = some g → gw D γ key = some g ∧ ∀ t ∈ c.kF, key ≠ lk t.2.1 := by
    intro key g hk
    have ET : key ∉ c.kF.map fun t => lk t.2.1 := fun qe => by
      have : ∀ (L : List (Nat × (Nat × Nat))), key ∈ (L.map fun t => lk t.2.1) → cY γ (L.map fun t => lk t.2.1) (L.map fun _ => Gh.used) key = .used := by
        intro L
        induction L with
        | nil => intro lP; cases lP
        | cons u L ih =>
          intro lP
          simp only [ao, cY]
          by_cases e : key = lk u.2.1
          · rw [e, bK]
          · rw [bO _ _ e]
            rcases bq.1 lP with e' | lP
            · exact (e e').elim
            · exact ih lP
      unfold gw at hk
      rw [this _ qe] at hk
      cases hk
    refine ⟨by unfold gw at hk ⊢; rwa [jk ET] at hk, fun t ht e => ET (aW.2 ⟨t, ht, e.symm⟩)⟩
  have EY : cY γ (c.kF.map fun t => lk t.2.1) (c.kF.map fun _ => Gh.used) m = .cl ts := by rw [jk OB]; exact hm
  have h2 := h1.A0 EY hE (fun b hb => by
      rcases wS b hb with e | ⟨t, ht, e⟩
      · exact .inl e
      · refine .inr ⟨h.own (lk t.2.1) b (by rw [w9 t ht]; exact e), fun key hk => ?_⟩
        obtain ⟨k1, k2⟩ := Gs key b hk
        exact k2 t ht (h.rz (key := lk t.2.1) (by rw [kW t ht]; rfl) (by rw [w9 t ht]; exact e) k1).symm) p2 gS
  -- the new fy
  have CJ : mc S.sg bn (D.β m) (tr ++ gZ ++ []) = some (D.β m) :: (tr ++ gZ).map Value.ownBlock := by simp [mc, rl, Gm]
  rw [CJ] at Hq Kq
  simp only [aM] at Jl
  have C2 : (c.iI ++ c.own).length = (tr ++ gZ).length := by simp only [aw, o7, o8, ← f3, ← f5, jr, aQ]
  have CY : jr (c.iI ++ c.own) = S.sg.fy ++ S.sg.own := by rw [← f3, ← f5]; simp [jr]
  have LD : ∀ key g, gw { D with R := R' } (dP (cY γ (c.kF.map fun t => lk t.2.1) (c.kF.map fun _ => Gh.used)) m (.cl [])) key = some g → gw D γ key = some g ∧ ∀ t ∈ c.kF, key ≠ lk t.2.1 := by
    intro key g hk
    apply Gs
    unfold gw at hk ⊢
    by_cases e : key = m
    · subst e; rw [bK] at hk; rw [EY]; exact hk
    · rw [bO _ _ e] at hk; exact hk
  obtain ⟨D3, h3, PO, N5, K0, _, _⟩ := h2.vT (L := c.iI ++ c.own) (vs := tr ++ gZ) C2
    (fun t ht => by
      rw [bO _ _ (AG _).symm, jk (fun qe => by obtain ⟨u, hu, e⟩ := aW.1 qe; exact Lz u hu t ht (j7 e))]
      exact pa t ht) Ow
    (fun p t v ht hv => by rw [CY] at ht; exact Jl p t v (by rw [yp, aM]; exact ht) hv)
    (fun v hv g hg => by
      have ho := Kq g (bq.2 (.inr (aW.2 ⟨v, hv, hg⟩)))
      obtain ⟨p, jV⟩ := bC hv
      have jM : g ≠ D.β m := fun e => by
        have := Hq 0 (p + 1) g (by simp [e]) (by rw [List.getElem?_cons_succ, aP, jV]; simp [hg])
        omega
      refine ⟨?_, fun key hk => ?_⟩
      · rcases ho with ho | ho
        · rcases wS g ho with e | ⟨t, ht, e⟩
          · exact (jM e).elim
          · exact h.own (lk t.2.1) g (by rw [w9 t ht]; exact e)
        · exact .inr (Nat.le_trans h.ext.size ho)
      · obtain ⟨k1, k2⟩ := LD key g hk
        rcases ho with ho | ho
        · rcases wS g ho with e | ⟨t, ht, e⟩
          · exact jM e
          · exact k2 t ht (h.rz (key := lk t.2.1) (by rw [kW t ht]; rfl) (by rw [w9 t ht]; exact e) k1).symm
        · have := h.lt k1; omega)
    (fun p q g jV AD => by
      have := Hq (p + 1) (q + 1) g (by simpa using jV) (by simpa using AD)
      omega)
  have CQ : ∀ (Pq : Ga) (t : Nat × (Nat × Nat)) (L : List (Nat × (Nat × Nat))), t ∈ L → (cY Pq (L.map fun t => lk t.2.1) (L.map fun t => .live t.2.2) (lk t.2.1)).fL = true := by
    intro Pq t L
    induction L with
    | nil => intro lP; cases lP
    | cons u L ih =>
      intro lP
      simp only [ao, cY]
      by_cases e : lk t.2.1 = lk u.2.1
      · rw [e, bK]; rfl
      · rw [bO _ _ e]
        rcases bq.1 lP with rfl | lP
        · exact (e rfl).elim
        · exact ih lP
  have sL : tr.length = c.iI.length := by rw [o7, ← f3]; simp [jr]
  have Rj : gZ.length = c.own.length := by rw [o8, ← f5]; simp [jr]
  have AF : ∀ (p : Nat) (t : Nat × (Nat × Nat)) (v : Value), (c.iI ++ c.own)[p]? = some t → (tr ++ gZ)[p]? = some v → v.oneCell' = true := fun p t v ht hv => by
    have LB := lJ ht
    rw [CY] at LB
    rcases Jl p _ v (by rw [yp, aM]; exact LB) hv with rfl | ⟨_, _, _, _, _, _, rfl, _⟩ <;> rfl
  have xK : cY (dP (cY γ (c.kF.map fun t => lk t.2.1) (c.kF.map fun _ => Gh.used)) m (.cl [])) ((c.iI ++ c.own).map fun t => lk t.2.1) ((c.iI ++ c.own).map fun t => .live t.2.2) m = .cl [] := by rw [jk OC, bK]
  have h4 := h3.store (us := c.iI) (x := outs.getD S.sg.cZ .dead) (cs := cr) xK rfl rfl rfl rfl (fun _ _ => rfl) (by rw [N5, PO]; exact p2) (fun t ht => ⟨CQ _ t _ (by simp [ht]), by
      obtain ⟨p, jV⟩ := bC ht
      have yo := (aE.1 jV).1
      have hv : tr[p]? = some tr[p] := aD (by omega)
      rw [K0 p t tr[p] (by rw [List.getElem?_append_left yo]; exact jV) (by rw [List.getElem?_append_left (by omega)]; exact hv)]
      exact Ml p _ _ (by rw [← f3]; exact lJ jV) hv⟩)
  have h5 := h4.Dn (c.kF.map fun t => lk t.2.1) (fun k hk => by
    cases jK : (dP (cY (dP (cY γ (c.kF.map fun t => lk t.2.1) (c.kF.map fun _ => Gh.used)) m (.cl [])) ((c.iI ++ c.own).map fun t => lk t.2.1) ((c.iI ++ c.own).map fun t => .live t.2.2)) m (.cl c.iI) k).gq with
    | false => rfl
    | true =>
      have := (h4.kk k jK).2
      obtain ⟨t, _, e⟩ := aW.1 hk
      have := iu t.2.1
      omega)
  have zC : ∀ t ∈ c.own, ju[t.1]? = some (D3.τ (lk t.2.1)) ∧ (D3.τ (lk t.2.1)).oneCell' = true := fun t ht => by
    obtain ⟨p, jV⟩ := bC ht
    have yo := (aE.1 jV).1
    have hv : gZ[p]? = some gZ[p] := aD (by omega)
    have e1 : (c.iI ++ c.own)[c.iI.length + p]? = some t := by rw [aU (by omega), Nat.add_sub_cancel_left]; exact jV
    have e2 : (tr ++ gZ)[c.iI.length + p]? = some gZ[p] := by rw [aU (by omega), sL, Nat.add_sub_cancel_left]; exact hv
    have e3 := Nv p _ _ (by rw [← f5]; exact lJ jV) hv
    rw [K0 _ t _ e1 e2]
    exact ⟨e3, AF _ t _ e1 e2⟩
  have kn := wy (R := R') (w := w') f4 f6 o1 o2 (fun q hq => (f12 q hq).1) o4
  have h6 := h5.put (d := d) (s := c.main outs) (g := c.dg) (v := x) hl (.inr ⟨by rw [PO]; exact kn, fun _ => CS.Dg (by rw [o1, f4]) (by rw [f4]; exact o2) zC (by simp [jT])⟩)
    (CS.oH c).1 (CS.oH c).2 (CS.vD (fun t ht => by rw [bO _ _ (AG _).symm]; exact CQ _ t _ (by simp [ht])) (by simp [jT]))
  refine hK D3 (a.put (some d) x) w' ?_
  have Ot : outs.length = c.cZ + 1 := by rw [ua, n9]; rfl
  have nz : outs.drop c.cZ = [outs.getD S.sg.cZ .dead] := by
    rw [List.drop_eq_getElem_cons (by omega), aJ (by omega), ← f4]
    simp [List.getD, show c.cZ < outs.length by omega]
  have Ly : ∀ k ∈ c.kF.map (fun t => lk t.2.1), k ∉ (c.iI ++ c.own).map fun t => lk t.2.1 := fun k hk ko => by
    obtain ⟨t, ht, rfl⟩ := aW.1 hk
    obtain ⟨u, hu, e⟩ := aW.1 ko
    exact Lz t ht u hu (j7 e).symm
  have LU : cY σ (c.jL ++ c.mh) (outs.drop c.cZ ++ c.mh.map fun _ => .dead) =
      cY (dP (cY (dP σ m (outs.getD S.sg.cZ .dead)) ((c.iI ++ c.own).map fun t => lk t.2.1) ((c.iI ++ c.own).map fun _ => .dead)) m (outs.getD S.sg.cZ .dead)) (c.kF.map fun t => lk t.2.1) ((c.kF.map fun t => lk t.2.1).map fun _ => .dead) := by
    rw [n9, nz, CP]
    simp only [List.cons_append, bz, cY]
    have e : ∀ (A B : List Nat), ((A ++ B).map fun _ => AV.dead) = (A.map fun _ => .dead) ++ B.map fun _ => .dead := fun A B => List.map_append
    rw [iZ OB, iZ OC, iZ OB, oq, e (c.kF.map fun t => lk t.2.1), nM (by simp), bk (l := c.iI ++ c.own)]
    rfl
  have IQ : cY γ (c.jL ++ c.mh) (c.new.toList.map (fun _ => Gh.cl c.fx) ++ c.ref.toList.map (fun _ => .cl c.iI) ++ c.kF.map (fun _ => .used) ++ (c.iI ++ c.own ++ c.fx).map fun t => .live t.2.2) =
      dP (cY (dP (cY γ (c.kF.map fun t => lk t.2.1) (c.kF.map fun _ => Gh.used)) m (.cl [])) ((c.iI ++ c.own).map fun t => lk t.2.1) ((c.iI ++ c.own).map fun t => .live t.2.2)) m (.cl c.iI) := by
    rw [n9, CP, jT, jj, rj]
    simp only [Option.toList, au, bz, ao, List.cons_append, aM, cY]
    rw [iZ OC, oq, qA Ly, nM (by simp)]
  simp only [cY]
  rw [LU, IQ]
  exact h6
end
end Go.Eng
namespace Go.Eng
open Go.RowKit
section
variable {C:Ctx} {D:kZ} {σ:Sg} {γ:Ga} {a:Act} {w:World}
theorem bQ {nt:Nat} {l:List Operand} (h:small nt l=true) {x:Operand} (hx:x∈l):small nt [x]=true:=by
 simp only [small,List.all_cons,List.all_nil,Bool.and_true]
 exact bj.1 h x hx
theorem ku {nt:Nat} {l l':List Operand} (h:small nt l=true) (hs:∀x∈l',x∈l):small nt l'=true :=
 bj.2 fun x hx=>bj.1 h x (hs x hx)
theorem gx {nt:Nat} {dst:Option Nat} {l ds:List Nat} (h:(match dst with | some d=>decide (d<nt)&&ds == d :: l | none=>false)=true):∃d,dst=some d∧d<nt∧ds=d :: l:=by
 cases dst with
 | none=>cases h
 | some d=>simp at h;exact ⟨d,rfl,h.1,h.2⟩
theorem oO {α:Type} {l:List α} (h:l.length=1):∃x,l=[x]:=by
 match l,h with
 | [x],_=>exact ⟨x,rfl⟩
theorem wz {α:Type} {l:List α} (h:l.length=2):∃x y,l=[x,y]:=by
 match l,h with
 | [x,y],_=>exact ⟨x,y,rfl⟩
theorem A3 {α:Type} {l:Array α} {x:α} (h:l.toList=[x]):l=#[x]:=by apply Array.ext';simpa using h
theorem s7 {α:Type} {l:Array α} {x y:α} (h:l.toList=[x,y]):l=#[x,y]:=by apply Array.ext';simpa using h
theorem iW:∀{l:List Operand} {rs:List eI},dy l rs=true→l.length=rs.length
 | [],[],_=>rfl
 | _ :: _,_ :: _,h=>by simp [dy] at h;simp [iW h.2]
 | [],_ :: _,h=>by simp [dy] at h
 | _ :: _,[],h=>by simp [dy] at h
variable {sg:Nat→dw} {dst:Option Nat} {op:Op} {ty:TypeId} {pos:String} {after:Array Edge} {guard:Option (Nat × Bool)} {k:K} {rs:List eI} {ds:List Nat} {gd:Option (Nat × Bool)} {ws:List AV} {gs:List Gh}
 {K':Act→World→Prop} {Q:Exit→Act→World→Prop}
def ei (C:Ctx) (sg:Nat→dw) (k:K):Prop :=
 ∀{D:kZ} {σ:Sg} {γ:Ga} {a:Act} {w:World} {dst:Option Nat} {op:Op} {ty:TypeId} {pos:String} {after:Array Edge} {guard:Option (Nat × Bool)} {rs:List eI} {ds:List Nat} {gd:Option (Nat × Bool)} {ws:List AV} {gs:List Gh}
  {K':Act→World→Prop} {Q:Exit→Act→World→Prop},dZ C D σ γ a w→ga C.P sg ⟨dst,op,ty,pos,after,guard⟩ ⟨k,rs,ds,gd⟩=true→dS C.nt dst ⟨k,rs,ds,gd⟩=true→small C.nt op.operands.toList=true →
  fW C.E k (rs.map (eI.ev C.E σ)) ws→ft k (rs.map (eI.gh γ))=some gs →
  (∀D' a' w',dZ C D' (cY σ ds ws) (cY γ ds gs) a' w'→K' a' w')→(⟨dst,op,ty,pos,after,guard⟩:Oper).wp C.P a w K' Q
theorem NI:ei C sg .mv:=by
 intro D σ γ a w dst op ty pos after guard rs ds gd ws gs K' Q h ho hk fc hs hg hK
 obtain ⟨d,rfl,hl,rfl⟩:=gx (l:=[]) hk
 simp only [ga] at ho
 split at ho
 ·rename_i x _
  obtain ⟨r,rfl,hx⟩:=mK ho
  simp only [ao,au,fW] at hs
  simp only [ao,au,ft,ax] at hg
  subst hs;subst hg
  exact FU h rfl hl (.inl rfl) hx (bQ fc (by simp [Op.operands])) hK
 ·rename_i x _
  obtain ⟨r,rfl,hx⟩:=mK ho
  simp only [ao,au,fW] at hs
  simp only [ao,au,ft,ax] at hg
  subst hs;subst hg
  exact FU h rfl hl (.inr rfl) hx (bQ fc (by simp [Op.operands])) hK
 ·cases ho
theorem NF {k s:Nat}:ei C sg (.nl k s):=by
 intro D σ γ a w dst op ty pos after guard rs ds gd ws gs K' Q h ho hk fc hs hg hK
 simp only [dS,af] at hk
 obtain ⟨gG,jx⟩:=hk
 obtain ⟨d,rfl,hl,rfl⟩:=gx jx
 simp only [ga] at ho
 split at ho
 ·rename_i r
  simp at gG
  cases r <;> simp at gG
  subst gG
  simp only [ao,au,fW] at hs
  subst hs
  simp only [ao,au,eI.gh] at hg
  simp only [ft] at hg
  split at hg
  ·rename_i e;cases hg;simp at e;exact FR h rfl hl (.inl rfl) e hK
  ·cases hg
 ·rename_i r
  simp at gG
  cases r <;> simp at gG
  subst gG
  simp only [ao,au,fW] at hs
  subst hs
  simp only [ao,au,eI.gh] at hg
  simp only [ft] at hg
  split at hg
  ·rename_i e;cases hg;simp at e;exact FR h rfl hl (.inr rfl) e hK
  ·cases hg
 ·cases ho
theorem Hy:ei C sg .pick:=by
 intro D σ γ a w dst op ty pos after guard rs ds gd ws gs K' Q h ho hk fc hs hg hK
 obtain ⟨d,rfl,hl,rfl⟩:=gx (l:=[]) hk
 simp only [ft,ax] at hg
 subst hg
 simp only [ga] at ho
 split at ho
 ·obtain ⟨r,q,s,rfl,hc,hx,hy⟩:=BV ho
  simp only [ao,au,fW] at hs
  split at hs
  ·rename_i b x y heq
   simp only [ar,and_true] at heq
   obtain ⟨e1,e2,e3⟩:=heq
   subst e2;subst e3;subst hs
   exact Em h rfl hl rfl hc hx hy (bQ fc (by simp [Op.operands])) (bQ fc (by simp [Op.operands])) (bQ fc (by simp [Op.operands])) e1 hK
  ·cases hs
 ·cases ho
theorem KS {b:BinOp}:ei C sg (.bin b):=by
 intro D σ γ a w dst op ty pos after guard rs ds gd ws gs K' Q h ho hk fc hs hg hK
 obtain ⟨d,rfl,hl,rfl⟩:=gx (l:=[]) hk
 simp only [ft,ax] at hg
 subst hg
 simp only [ga] at ho
 split at ho
 ·simp only [af,beq_iff_eq] at ho
  obtain ⟨hb,ho⟩:=ho
  subst hb
  obtain ⟨r,q,rfl,hx,hy⟩:=j0 ho
  simp only [ao,au,fW] at hs
  split at hs
  ·rename_i u v heq
   simp only [ar,and_true] at heq
   obtain ⟨e1,e2⟩:=heq
   obtain ⟨z,hz,rfl⟩:=hs
   exact Ho h rfl hl rfl hx hy (bQ fc (by simp [Op.operands])) (bQ fc (by simp [Op.operands])) e1 e2 hz hK
  ·cases hs
 ·cases ho
theorem NZ {neg:Bool}:ei C sg (.be neg):=by
 intro D σ γ a w dst op ty pos after guard rs ds gd ws gs K' Q h ho hk fc hs hg hK
 obtain ⟨d,rfl,hl,rfl⟩:=gx (l:=[]) hk
 simp only [ft,ax] at hg
 subst hg
 simp only [ga] at ho
 split at ho
 ·simp only [af,beq_iff_eq] at ho
  obtain ⟨⟨ht,hb⟩,ho⟩:=ho
  obtain ⟨r,q,rfl,hx,hy⟩:=j0 ho
  simp only [ao,au,fW] at hs
  split at hs
  ·rename_i u v heq
   simp only [ar,and_true] at heq
   obtain ⟨e1,e2⟩:=heq
   subst hs
   exact Kk h rfl hl rfl hb (vg ht) hx hy (bQ fc (by simp [Op.operands])) (bQ fc (by simp [Op.operands])) e1 e2 hK
  ·cases hs
 ·cases ho
theorem Ny {b:UnOp}:ei C sg (.un b):=by
 intro D σ γ a w dst op ty pos after guard rs ds gd ws gs K' Q h ho hk fc hs hg hK
 obtain ⟨d,rfl,hl,rfl⟩:=gx (l:=[]) hk
 simp only [ft,ax] at hg
 subst hg
 simp only [ga] at ho
 split at ho
 ·simp only [af,beq_iff_eq] at ho
  obtain ⟨hb,ho⟩:=ho
  subst hb
  obtain ⟨r,rfl,hx⟩:=mK ho
  simp only [ao,au,fW] at hs
  split at hs
  ·rename_i u heq
   simp only [ar,and_true] at heq
   obtain ⟨z,hz,rfl⟩:=hs
   exact J0 h rfl hl rfl hx (bQ fc (by simp [Op.operands])) heq hz hK
  ·cases hs
 ·cases ho
theorem NU {k:IntKind}:ei C sg (.ci k):=by
 intro D σ γ a w dst op ty pos after guard rs ds gd ws gs K' Q h ho hk fc hs hg hK
 obtain ⟨d,rfl,hl,rfl⟩:=gx (l:=[]) hk
 simp only [ft,ax] at hg
 subst hg
 simp only [ga] at ho
 split at ho
 ·simp only [af] at ho
  obtain ⟨⟨ht,hu⟩,ho⟩:=ho
  obtain ⟨r,rfl,hx⟩:=mK ho
  simp only [ao,au,fW] at hs
  split at hs
  ·rename_i k' n heq
   simp only [ar,and_true] at heq
   subst hs
   exact Kh h rfl hl rfl (rh ht) hu hx (bQ fc (by simp [Op.operands])) heq hK
  ·cases hs
 ·cases ho
theorem NT:ei C sg .cs:=by
 intro D σ γ a w dst op ty pos after guard rs ds gd ws gs K' Q h ho hk fc hs hg hK
 obtain ⟨d,rfl,hl,rfl⟩:=gx (l:=[]) hk
 simp only [ft,ax] at hg
 subst hg
 simp only [ga] at ho
 split at ho
 ·simp only [af] at ho
  obtain ⟨⟨ht,hu⟩,ho⟩:=ho
  obtain ⟨r,rfl,hx⟩:=mK ho
  simp only [ao,au,fW] at hs
  split at hs
  ·rename_i b heq
   simp only [ar,and_true] at heq
   subst hs
   exact Kg h rfl hl rfl (ic hu) (ic ht) hx (bQ fc (by simp [Op.operands])) heq hK
  ·cases hs
 ·cases ho
theorem ND:ei C sg .sb:=by
 intro D σ γ a w dst op ty pos after guard rs ds gd ws gs K' Q h ho hk fc hs hg hK
 obtain ⟨d,rfl,hl,rfl⟩:=gx (l:=[]) hk
 simp only [ft,ax] at hg
 subst hg
 simp only [ga] at ho
 split at ho
 ·simp only [af] at ho
  obtain ⟨⟨ht,hu⟩,ho⟩:=ho
  obtain ⟨e,K6,K5⟩:=kH hu
  obtain ⟨r,rfl,hx⟩:=mK ho
  simp only [ao,au,fW] at hs
  split at hs
  ·rename_i b heq
   simp only [ar,and_true] at heq
   obtain ⟨hb,rfl⟩:=hs
   exact J4 h rfl hl rfl (ic ht) K6 K5 hx (bQ fc (by simp [Op.operands])) heq hb hK
  ·cases hs
 ·cases ho
theorem KB {k:Nat}:ei C sg (.FE k):=by
 intro D σ γ a w dst op ty pos after guard rs ds gd ws gs K' Q h ho hk fc hs hg hK
 simp only [dS,af] at hk
 obtain ⟨⟨mi,gG⟩,jx⟩:=hk
 obtain ⟨d,rfl,hl,rfl⟩:=gx jx
 simp only [ga] at ho
 split at ho
 ·rename_i s u x r rest _ _
  simp only [af] at ho
  obtain ⟨⟨ht,hu⟩,ho⟩:=ho
  obtain ⟨e,K6,K5⟩:=kH hu
  simp at mi
  obtain ⟨q,rfl⟩:=oO mi
  cases q <;> simp at gG
  subst gG
  simp only [ao,au,fW] at hs
  simp only [ao,au,ft] at hg
  split at hs
  ·rename_i b y heq
   simp only [ar,and_true] at heq
   obtain ⟨hb,rfl⟩:=hs
   split at hg
   ·rename_i g fC
    simp only [ar,and_true,eI.gh] at fC
    cases hg
    exact Hc h rfl hl rfl (ic ht) K6 K5 ho (bQ fc (by simp [Op.operands])) heq.1 hb fC.2 hK
   ·cases hg
  ·cases hs
 ·cases ho
theorem NW:ei C sg .bs:=by
 intro D σ γ a w dst op ty pos after guard rs ds gd ws gs K' Q h ho hk fc hs hg hK
 obtain ⟨d,rfl,hl,rfl⟩:=gx (l:=[]) hk
 simp only [ft,ax] at hg
 subst hg
 simp only [ga] at ho
 split at ho
 ·simp only [af] at ho
  obtain ⟨⟨ht,hu⟩,ho⟩:=ho
  obtain ⟨e,ht1,ht2⟩:=kH ht
  obtain ⟨r,rfl,hx⟩:=mK ho
  simp only [ao,au,fW] at hs
  split at hs
  ·rename_i s es heq
   simp only [ar,and_true] at heq
   obtain ⟨l,rfl,rfl,rfl⟩:=hs
   exact Ki h rfl hl rfl ht1 ht2 (ic hu) hx (bQ fc (by simp [Op.operands])) heq hK
  ·cases hs
 ·cases ho
theorem KP:ei C sg .len:=by
 intro D σ γ a w dst op ty pos after guard rs ds gd ws gs K' Q h ho hk fc hs hg hK
 obtain ⟨d,rfl,hl,rfl⟩:=gx (l:=[]) hk
 simp only [ft,ax] at hg
 subst hg
 simp only [ga] at ho
 split at ho
 ·rename_i rV _
  simp only [af,beq_iff_eq] at ho
  obtain ⟨⟨⟨h1,h2⟩,h3⟩,ho⟩:=ho
  obtain ⟨t,ht⟩:=oO h1
  obtain ⟨x,pD⟩:=oO h3
  rw [ht] at h2
  simp only [List.all_cons,List.all_nil,Bool.and_true] at h2
  rw [pD] at ho
  obtain ⟨r,rfl,hx⟩:=mK ho
  have ea:=A3 pD
  have et:=A3 ht
  subst ea;subst et
  simp only [ao,au,fW] at hs
  split at hs
  ·rename_i s es heq
   simp only [ar,and_true] at heq
   subst hs
   obtain ⟨e,he⟩:=Option.isSome_iff_exists.1 h2
   exact Aq h rfl hl rfl (iM he) hx (bQ fc (by simp [Op.operands,Call.operands])) heq hK
  ·cases hs
 ·cases ho
theorem KN:ei C sg .sC:=by
 intro D σ γ a w dst op ty pos after guard rs ds gd ws gs K' Q h ho hk fc hs hg hK
 obtain ⟨d,rfl,hl,rfl⟩:=gx (l:=[]) hk
 simp only [ft,ax] at hg
 subst hg
 simp only [ga] at ho
 split at ho
 ·rename_i rV _
  simp only [af,beq_iff_eq] at ho
  obtain ⟨⟨⟨h1,h2⟩,h3⟩,ho⟩:=ho
  obtain ⟨t,ht⟩:=oO h1
  obtain ⟨x,pD⟩:=oO h3
  rw [ht] at h2
  simp only [List.all_cons,List.all_nil,Bool.and_true] at h2
  rw [pD] at ho
  obtain ⟨r,rfl,hx⟩:=mK ho
  have ea:=A3 pD
  have et:=A3 ht
  subst ea;subst et
  simp only [ao,au,fW] at hs
  split at hs
  ·rename_i b heq
   simp only [ar,and_true] at heq
   subst hs
   exact ye h rfl hl rfl (ic h2) hx (bQ fc (by simp [Op.operands,Call.operands])) heq hK
  ·cases hs
 ·cases ho
theorem NJ:ei C sg .mn:=by
 intro D σ γ a w dst op ty pos after guard rs ds gd ws gs K' Q h ho hk fc hs hg hK
 obtain ⟨d,rfl,hl,rfl⟩:=gx (l:=[]) hk
 simp only [ft,ax] at hg
 subst hg
 simp only [ga] at ho
 split at ho
 ·rename_i rV _
  simp only [af,beq_iff_eq] at ho
  obtain ⟨h3,ho⟩:=ho
  obtain ⟨x,y,pD⟩:=wz h3
  rw [pD] at ho
  obtain ⟨r,q,rfl,hx,hy⟩:=j0 ho
  have ea:=s7 pD
  subst ea
  simp only [ao,au,fW] at hs
  split at hs
  ·rename_i k u k' v heq
   simp only [ar,and_true] at heq
   subst hs
   exact tK (mx:=false) h rfl hl rfl hx hy (bQ fc (by simp [Op.operands,Call.operands])) (bQ fc (by simp [Op.operands,Call.operands])) heq.1 heq.2 hK
  ·cases hs
 ·cases ho
theorem NH:ei C sg .mx:=by
 intro D σ γ a w dst op ty pos after guard rs ds gd ws gs K' Q h ho hk fc hs hg hK
 obtain ⟨d,rfl,hl,rfl⟩:=gx (l:=[]) hk
 simp only [ft,ax] at hg
 subst hg
 simp only [ga] at ho
 split at ho
 ·rename_i rV _
  simp only [af,beq_iff_eq] at ho
  obtain ⟨h3,ho⟩:=ho
  obtain ⟨x,y,pD⟩:=wz h3
  rw [pD] at ho
  obtain ⟨r,q,rfl,hx,hy⟩:=j0 ho
  have ea:=s7 pD
  subst ea
  simp only [ao,au,fW] at hs
  split at hs
  ·rename_i k u k' v heq
   simp only [ar,and_true] at heq
   subst hs
   exact tK (mx:=true) h rfl hl rfl hx hy (bQ fc (by simp [Op.operands,Call.operands])) (bQ fc (by simp [Op.operands,Call.operands])) heq.1 heq.2 hK
  ·cases hs
 ·cases ho
theorem NO {s:Nat}:ei C sg (.ix s):=by
 intro D σ γ a w dst op ty pos after guard rs ds gd ws gs K' Q h ho hk fc hs hg hK
 obtain ⟨d,rfl,hl,rfl⟩:=gx (l:=[]) hk
 simp only [ft,ax] at hg
 subst hg
 simp only [ga] at ho
 split at ho
 ·simp only [af] at ho
  obtain ⟨ht,ho⟩:=ho
  obtain ⟨e,i,h1,h2,h3,h4⟩:=lZ ht
  obtain ⟨r,q,rfl,hx,hy⟩:=j0 ho
  simp only [ao,au,fW] at hs
  split at hs
  ·rename_i s' es k i heq
   simp only [ar,and_true] at heq
   obtain ⟨el,rfl,h0,AJ,rfl⟩:=hs
   exact Kb h rfl hl rfl h1 h2 h3 hx hy (bQ fc (by simp [Op.operands])) (bQ fc (by simp [Op.operands])) heq.1 heq.2 h0 AJ hK
  ·cases hs
 ·cases ho
theorem NB:ei C sg .si:=by
 intro D σ γ a w dst op ty pos after guard rs ds gd ws gs K' Q h ho hk fc hs hg hK
 obtain ⟨d,rfl,hl,rfl⟩:=gx (l:=[]) hk
 simp only [ft,ax] at hg
 subst hg
 simp only [ga] at ho
 split at ho
 ·simp only [af] at ho
  obtain ⟨ht,ho⟩:=ho
  obtain ⟨r,q,rfl,hx,hy⟩:=j0 ho
  simp only [ao,au,fW] at hs
  split at hs
  ·rename_i b k i heq
   simp only [ar,and_true] at heq
   obtain ⟨el,h0,AJ,rfl⟩:=hs
   exact J1 h rfl hl rfl (ic ht) hx hy (bQ fc (by simp [Op.operands])) (bQ fc (by simp [Op.operands])) heq.1 heq.2 h0 AJ hK
  ·cases hs
 ·cases ho
theorem N4 {n s:Nat} {agg:Bool}:ei C sg (.ai n s agg):=by
 intro D σ γ a w dst op ty pos after guard rs ds gd ws gs K' Q h ho hk fc hs hg hK
 obtain ⟨d,rfl,hl,rfl⟩:=gx (l:=[]) hk
 simp only [ft,ax] at hg
 subst hg
 simp only [ga] at ho
 split at ho
 ·rename_i t x y _
  simp only [af] at ho
  obtain ⟨ht,ho⟩:=ho
  split at ht
  ·rename_i n' e hu
   simp only [af,beq_iff_eq] at ht
   obtain ⟨rfl,ht⟩:=ht
   obtain ⟨inf,h1,h2,h3,h4⟩:=iV ht
   obtain ⟨r,q,rfl,hx,hy⟩:=j0 ho
   simp only [ao,au,fW] at hs
   split at hs
   ·rename_i cs k i heq
    simp only [ar,and_true] at heq
    obtain ⟨el,h0,hn,AJ,rfl⟩:=hs
    exact Kp h rfl hl rfl hu h1 h2 h3 h4 hx hy (bQ fc (by simp [Op.operands])) (bQ fc (by simp [Op.operands])) heq.1 heq.2 h0 hn AJ hK
   ·cases hs
  ·cases ht
 ·cases ho
theorem NQ {o' n:Nat} {agg:Bool}:ei C sg (.fe o' n agg):=by
 intro D σ γ a w dst op ty pos after guard rs ds gd ws gs K' Q h ho hk fc hs hg hK
 obtain ⟨d,rfl,hl,rfl⟩:=gx (l:=[]) hk
 simp only [ft,ax] at hg
 subst hg
 simp only [ga] at ho
 split at ho
 ·rename_i t x f
  simp only [af] at ho
  obtain ⟨ht,ho⟩:=ho
  cases hf:mw C.P t f with
  | none=>simp [hf] at ht
  | some fl =>
   simp only [hf,Option.any_some,af,beq_iff_eq] at ht
   obtain ⟨h0,ht⟩:=ht
   obtain ⟨fs,hu,rn⟩:=lU hf
   obtain ⟨inf,h1,h2,h3,h4⟩:=iV ht
   obtain ⟨r,rfl,hx⟩:=mK ho
   simp only [ao,au,fW] at hs
   split at hs
   ·rename_i cs heq
    simp only [ar,and_true] at heq
    obtain ⟨el,AJ,rfl⟩:=hs
    exact Kd h rfl hl rfl hu rn h0 h1 h2 h3 h4 hx (bQ fc (by simp [Op.operands])) heq AJ hK
   ·cases hs
 ·cases ho
theorem NL {n:Nat} {agg:Bool}:ei C sg (.lr n agg):=by
 intro D σ γ a w dst op ty pos after guard rs ds gd ws gs K' Q h ho hk fc hs hg hK
 obtain ⟨d,rfl,hl,rfl⟩:=gx (l:=[]) hk
 simp only [ft,ax] at hg
 subst hg
 simp only [ga] at ho
 split at ho
 ·simp only [af] at ho
  obtain ⟨ht,hx⟩:=ho
  obtain ⟨inf,h1,h2,h3,h4⟩:=iV ht
  simp only [ao,au,fW] at hs
  split at hs
  ·rename_i x heq
   simp only [ar,and_true] at heq
   obtain ⟨p1,p2,rfl⟩:=hs
   exact J7 h rfl hl rfl h1 h2 h3 h4 hx (bQ fc (by simp [Op.operands])) heq p1 p2 hK
  ·cases hs
 ·cases ho
theorem KM:ei C sg .FY:=by
 intro D σ γ a w dst op ty pos after guard rs ds gd ws gs K' Q h ho hk fc hs hg hK
 obtain ⟨d,rfl,hl,rfl⟩:=gx (l:=[]) hk
 simp only [ft,ax] at hg
 subst hg
 simp only [ga] at ho
 split at ho
 ·simp only [ao,au,fW] at hs
  split at hs
  ·rename_i x heq
   simp only [ar,and_true] at heq
   subst hs
   exact Hl h rfl hl rfl ho (bQ fc (by simp [Op.operands])) heq hK
  ·cases hs
 ·cases ho
theorem NS {i:Nat}:ei C sg (.ex i):=by
 intro D σ γ a w dst op ty pos after guard rs ds gd ws gs K' Q h ho hk fc hs hg hK
 obtain ⟨d,rfl,hl,rfl⟩:=gx (l:=[]) hk
 simp only [ga] at ho
 split at ho
 ·simp only [af,beq_iff_eq] at ho
  obtain ⟨rfl,hx⟩:=ho
  simp only [ao,au,ft,ax] at hg
  subst hg
  simp only [ao,au,fW] at hs
  split at hs
  ·rename_i vs heq
   simp only [ar,and_true] at heq
   obtain ⟨x,zx,rfl⟩:=hs
   exact Kf h rfl hl rfl hx (bQ fc (by simp [Op.operands])) heq zx hK
  ·cases hs
 ·cases ho
end
end Go.Eng
namespace Go.Eng
open Go.RowKit
section
variable {C:Ctx} {sg:Nat→dw}
theorem lV {D:kZ} {σ:Sg} {γ:Ga} {a:Act} {w:World} (h:dZ C D σ γ a w) {x:Operand} {r:eI} {k:IntKind} {i:Int} (hx:dv x r=true) (hs:small C.nt [x]=true) (hr:r.ev C.E σ = .v (.int k i)):a.eval x = .int k i:=by
 have e1:=(h.jz hx hs).rep (by rw [hr];simp)
 rw [hr] at e1
 exact e1.iB
theorem sB {r:eI} {m:Nat} (h:(match r with | eI.s t=>some t | _=>none)=some m):r = .s m:=by
 cases r <;> simp at h;subst h;rfl
theorem ly:∀{rs:List eI} {ks:List Nat},(rs.map fun r=>match r with | eI.s t=>some t | _=>none)=ks.map some→rs=ks.map eI.s
 | [],[],_=>rfl
 | r :: rs,k :: ks,h=>by
  simp only [ao,ar] at h
  rw [sB h.1,ly h.2];rfl
 | [],_ :: _,h=>by simp at h
 | _ :: _,[],h=>by simp at h
theorem NC {s:Nat} {lo hi:Bool}:ei C sg (.sc s lo hi):=by
 intro D σ γ a w dst op ty pos after guard rs ds gd ws gs K' Q h ho hk fc hs hg hK
 obtain ⟨d,rfl,hl,rfl⟩:=gx (l:=[]) hk
 simp only [ft,ax] at hg
 subst hg
 simp only [ga] at ho
 split at ho
 ·rename_i t x l u
  simp only [af,beq_iff_eq] at ho
  obtain ⟨⟨⟨ht,h1⟩,h2⟩,ho⟩:=ho
  obtain ⟨e,i,q1,q2,q3,q4⟩:=lZ ht
  subst h1;subst h2
  cases l with
  | none =>
   cases u with
   | none =>
    obtain ⟨r,rfl,hx⟩:=mK ho
    simp only [Option.isSome_none,ao,au,fW] at hs
    split at hs
    ·rename_i s' es heq
     simp only [ar,and_true] at heq
     obtain ⟨rfl,rfl⟩:=hs
     exact zm (l:=0) (u:=es.length) h rfl hl rfl q1 q2 q3 hx (bQ fc (by simp [Op.operands])) heq (.inl ⟨rfl,rfl⟩) (.inl ⟨rfl,rfl⟩) (by omega) (by omega) (by simpa [cY] using hK)
    ·cases hs
   | some y =>
    obtain ⟨r,q,rfl,hx,hy⟩:=j0 ho
    simp only [Option.isSome_none,Option.isSome_some,ao,au,fW] at hs
    split at hs
    ·rename_i s' es k b heq
     simp only [ar,and_true] at heq
     obtain ⟨rfl,p1,p2,rfl⟩:=hs
     have hb:=lV h hy (bQ fc (by simp [Op.operands])) heq.2
     exact zm (l:=0) (u:=b.toNat) h rfl hl rfl q1 q2 q3 hx (bQ fc (by simp [Op.operands])) heq.1 (.inl ⟨rfl,rfl⟩) (.inr ⟨y,k,rfl,by rw [hb];congr 1;omega⟩) (by omega) (by omega) (by simpa [cY] using hK)
    ·cases hs
  | some y =>
   cases u with
   | none =>
    obtain ⟨r,q,rfl,hx,hy⟩:=j0 ho
    simp only [Option.isSome_none,Option.isSome_some,ao,au,fW] at hs
    split at hs
    ·rename_i s' es k b heq
     simp only [ar,and_true] at heq
     obtain ⟨rfl,p1,p2,rfl⟩:=hs
     have hb:=lV h hy (bQ fc (by simp [Op.operands])) heq.2
     exact zm (l:=b.toNat) (u:=es.length) h rfl hl rfl q1 q2 q3 hx (bQ fc (by simp [Op.operands])) heq.1 (.inr ⟨y,k,rfl,by rw [hb];congr 1;omega⟩) (.inl ⟨rfl,rfl⟩) (by omega) (by omega) (by simpa [cY] using hK)
    ·cases hs
   | some z =>
    obtain ⟨r,q,q',rfl,hx,hy,hz⟩:=BV ho
    simp only [Option.isSome_some,ao,au,fW] at hs
    split at hs
    ·rename_i s' es k b k' c heq
     simp only [ar,and_true] at heq
     obtain ⟨rfl,p1,p2,p3,rfl⟩:=hs
     have hb:=lV h hy (bQ fc (by simp [Op.operands])) heq.2.1
     have hc:=lV h hz (bQ fc (by simp [Op.operands])) heq.2.2
     exact zm (l:=b.toNat) (u:=c.toNat) h rfl hl rfl q1 q2 q3 hx (bQ fc (by simp [Op.operands])) heq.1 (.inr ⟨y,k,rfl,by rw [hb];congr 1;omega⟩) (.inr ⟨z,k',rfl,by rw [hc];congr 1;omega⟩) (by omega) (by omega) hK
    ·cases hs
 ·cases ho
theorem NA {lo hi:Bool}:ei C sg (.ss lo hi):=by
 intro D σ γ a w dst op ty pos after guard rs ds gd ws gs K' Q h ho hk fc hs hg hK
 obtain ⟨d,rfl,hl,rfl⟩:=gx (l:=[]) hk
 simp only [ft,ax] at hg
 subst hg
 simp only [ga] at ho
 split at ho
 ·rename_i t x l u
  simp only [af,beq_iff_eq] at ho
  obtain ⟨⟨⟨ht,h1⟩,h2⟩,ho⟩:=ho
  have q1:=ic ht
  subst h1;subst h2
  cases l with
  | none =>
   cases u with
   | none =>
    obtain ⟨r,rfl,hx⟩:=mK ho
    simp only [Option.isSome_none,ao,au,fW] at hs
    split at hs
    ·rename_i b heq
     simp only [ar,and_true] at heq
     subst hs
     have e:(⟨⟨(b.data.toList.take b.data.toList.length).drop 0⟩⟩:ByteArray)=b:=by cases b with | mk t=>cases t;simp
     exact zl (l:=0) (u:=b.data.toList.length) h rfl hl rfl q1 hx (bQ fc (by simp [Op.operands])) heq (.inl ⟨rfl,rfl⟩) (.inl ⟨rfl,rfl⟩) (by omega) (by omega) (by rw [e];exact hK)
    ·cases hs
   | some y =>
    obtain ⟨r,q,rfl,hx,hy⟩:=j0 ho
    simp only [Option.isSome_none,Option.isSome_some,ao,au,fW] at hs
    split at hs
    ·rename_i b k c heq
     simp only [ar,and_true] at heq
     obtain ⟨p1,p2,rfl⟩:=hs
     have hb:=lV h hy (bQ fc (by simp [Op.operands])) heq.2
     exact zl (l:=0) (u:=c.toNat) h rfl hl rfl q1 hx (bQ fc (by simp [Op.operands])) heq.1 (.inl ⟨rfl,rfl⟩) (.inr ⟨y,k,rfl,by rw [hb];congr 1;omega⟩) (by omega) (by omega) (by simpa [cY] using hK)
    ·cases hs
  | some y =>
   cases u with
   | none =>
    obtain ⟨r,q,rfl,hx,hy⟩:=j0 ho
    simp only [Option.isSome_none,Option.isSome_some,ao,au,fW] at hs
    split at hs
    ·rename_i b k c heq
     simp only [ar,and_true] at heq
     obtain ⟨p1,p2,rfl⟩:=hs
     have hb:=lV h hy (bQ fc (by simp [Op.operands])) heq.2
     exact zl (l:=c.toNat) (u:=b.data.toList.length) h rfl hl rfl q1 hx (bQ fc (by simp [Op.operands])) heq.1 (.inr ⟨y,k,rfl,by rw [hb];congr 1;omega⟩) (.inl ⟨rfl,rfl⟩) (by omega) (by omega) (by rw [List.take_length];exact hK)
    ·cases hs
   | some z =>
    obtain ⟨r,q,q',rfl,hx,hy,hz⟩:=BV ho
    simp only [Option.isSome_some,ao,au,fW] at hs
    split at hs
    ·rename_i b k c k' e heq
     simp only [ar,and_true] at heq
     obtain ⟨p1,p2,p3,rfl⟩:=hs
     have hb:=lV h hy (bQ fc (by simp [Op.operands])) heq.2.1
     have hc:=lV h hz (bQ fc (by simp [Op.operands])) heq.2.2
     exact zl (l:=c.toNat) (u:=e.toNat) h rfl hl rfl q1 hx (bQ fc (by simp [Op.operands])) heq.1 (.inr ⟨y,k,rfl,by rw [hb];congr 1;omega⟩) (.inr ⟨z,k',rfl,by rw [hc];congr 1;omega⟩) (by omega) (by omega) hK
    ·cases hs
 ·cases ho
theorem NY {s n:Nat}:ei C sg (.bl s n):=by
 intro D σ γ a w dst op ty pos after guard rs ds gd ws gs K' Q h ho hk fc hs hg hK
 obtain ⟨d,rfl,hl,rfl⟩:=gx (l:=[]) hk
 simp only [ft,ax] at hg
 subst hg
 simp only [ga] at ho
 split at ho
 ·simp only [af,beq_iff_eq,az] at ho
  obtain ⟨⟨⟨⟨h1,rfl⟩,h3⟩,h4⟩,h5⟩:=ho
  simp only [fW] at hs
  obtain ⟨p1,p2,rfl⟩:=hs
  exact Kj h rfl hl rfl h1 h3 h4 h5 (ku fc (by simp [Op.operands])) p2 hK
 ·cases ho
theorem KR {s n k:Nat}:ei C sg (.blt s n k):=by
 intro D σ γ a w dst op ty pos after guard rs ds gd ws gs K' Q h ho hk fc hs hg hK
 simp only [dS,af] at hk
 obtain ⟨⟨mi,gG⟩,jx⟩:=hk
 obtain ⟨d,rfl,hl,rfl⟩:=gx jx
 simp only [ga] at ho
 split at ho
 ·rename_i t len parts
  simp only [af,beq_iff_eq,az] at ho
  obtain ⟨⟨⟨⟨⟨h1,rfl⟩,h3⟩,h4⟩,h5⟩,h6⟩:=ho
  simp only [fW] at hs
  obtain ⟨p1,p2,rfl⟩:=hs
  simp only [ft] at hg
  split at hg
  ·rename_i pa
   cases hg
   rw [←List.map_drop] at pa
   have RA:(rs.drop len).length=1:=by simp;omega
   obtain ⟨q,hq⟩:=oO RA
   rw [hq] at pa gG
   simp only [ao,au,ar,and_true] at pa
   simp only [ao,au,beq_iff_eq,ar,and_true] at gG
   have AD:=sB gG
   subst AD
   rw [←List.map_take] at p2
   simp only [←List.map_take] at hK
   exact Hn h rfl hl rfl h1 h3 h4 h5 (ku fc (by simp [Op.operands])) p2 pa hK
  ·cases hg
 ·cases ho
theorem N0 {z:List AV} {pl:List (Nat × Nat)}:ei C sg (.bd z pl):=by
 intro D σ γ a w dst op ty pos after guard rs ds gd ws gs K' Q h ho hk fc hs hg hK
 obtain ⟨d,rfl,hl,rfl⟩:=gx (l:=[]) hk
 simp only [ft,ax] at hg
 subst hg
 simp only [ga] at ho
 split at ho
 ·simp only [af] at ho
  obtain ⟨⟨h1,h2⟩,h3⟩:=ho
  simp only [fW] at hs
  obtain ⟨cs,p1,rfl⟩:=hs
  exact Kl h rfl hl rfl h1 h2 h3 (ku fc (by simp [Op.operands])) p1 hK
 ·cases ho
theorem N3 {m:Nat} {z:List AV} {ts:List (Nat × (Nat × Nat))}:ei C sg (.al m z ts):=by
 intro D σ γ a w dst op ty pos after guard rs ds gd ws gs K' Q h ho hk fc hs hg hK
 simp only [dS,af,az,beq_iff_eq,bc,Nat.zero_add] at hk
 obtain ⟨⟨⟨oR,qw⟩,mi,gG⟩,jx⟩:=hk
 obtain ⟨d,rfl,hl,rfl⟩:=gx jx
 simp only [ga] at ho
 split at ho
 ·simp only [af] at ho
  obtain ⟨h1,h2⟩:=ho
  simp only [fW] at hs
  subst hs
  simp only [ft] at hg
  split at hg
  ·rename_i hc
   cases hg
   obtain ⟨c1,c2,c3⟩:=hc
   have sJ:=ly gG
   subst sJ
   simp only [bk,bj,aW,az] at c2
   refine Km h rfl hl rfl h1 (fun q hq=>?_) (c2 _ ⟨m,by simp,rfl⟩) oR qw (fun t ht=>c2 _ ⟨lk t.2.1,bq.2 (.inr (aW.2 ⟨t,ht,rfl⟩)),rfl⟩) c3 hK
   have:=bj.1 h2 q hq
   split at this
   ·exact ⟨_,‹_›⟩
   ·cases this
  ·cases hg
 ·cases ho
theorem NV {m:Nat}:ei C sg (.bx m):=by
 intro D σ γ a w dst op ty pos after guard rs ds gd ws gs K' Q h ho hk fc hs hg hK
 simp only [dS,af,az,beq_iff_eq] at hk
 obtain ⟨⟨⟨oR,qw⟩,mi,gG⟩,jx⟩:=hk
 obtain ⟨d,rfl,hl,rfl⟩:=gx jx
 simp only [ga] at ho
 split at ho
 ·rename_i t x r rest
  simp at mi
  obtain ⟨q,rfl⟩:=oO mi
  simp only [List.drop_succ_cons,bc,ao,au,ar,and_true] at gG
  have hq:=sB gG
  subst hq
  simp only [ao,au,fW] at hs
  obtain ⟨p1,rfl⟩:=hs
  simp only [ao,au,ft] at hg
  split at hg
  ·rename_i g heq
   simp only [ar,and_true,eI.gh] at heq
   cases hg
   exact FV h rfl hl rfl ho (bQ fc (by simp [Op.operands])) p1 heq.2 oR qw hK
  ·cases hg
 ·cases ho
theorem k_ld {m o' n:Nat} {agg:Bool}:ei C sg (.ld m o' n agg):=by
 intro D σ γ a w dst op ty pos after guard rs ds gd ws gs K' Q h ho hk fc hs hg hK
 simp only [dS,af,az,beq_iff_eq] at hk
 obtain ⟨⟨⟨oR,qw⟩,mi,gG⟩,jx⟩:=hk
 obtain ⟨d,rfl,hl,rfl⟩:=gx (l:=[]) jx
 simp only [ga] at ho
 split at ho
 ·rename_i t x r rest
  simp at mi
  obtain ⟨q,rfl⟩:=oO mi
  simp only [List.drop_succ_cons,bc,ao,au,ar,and_true] at gG
  have hq:=sB gG
  subst hq
  simp only [af] at ho
  obtain ⟨ht,ho⟩:=ho
  obtain ⟨inf,h1,h2,h3,h4⟩:=iV ht
  simp only [ao,au,fW] at hs
  split at hs
  ·rename_i cs heq
   simp only [ar,and_true,eI.ev] at heq
   obtain ⟨x',p1,rfl⟩:=hs
   simp only [ao,au,ft] at hg
   split at hg
   ·rename_i m' Mm ts fC
    simp only [ar,and_true,eI.gh] at fC
    split at hg
    ·rename_i hc
     obtain ⟨rfl,rfl⟩:=hc
     cases hg
     exact J9 h rfl hl rfl h1 h2 h3 h4 ho (bQ fc (by simp [Op.operands])) heq.1 fC.1 fC.2 heq.2 p1 hK
    ·cases hg
   ·cases hg
  ·cases hs
 ·cases ho
theorem Nz {m o' n:Nat}:ei C sg (.st m o' n):=by
 intro D σ γ a w dst op ty pos after guard rs ds gd ws gs K' Q h ho hk fc hs hg hK
 simp only [dS,af,az,beq_iff_eq,Option.isNone_iff_eq_none] at hk
 obtain ⟨⟨⟨⟨oR,qw⟩,rfl⟩,rfl⟩,gG⟩:=hk
 simp only [ga] at ho
 split at ho
 ·rename_i t x v p q r
  simp only [af,beq_iff_eq] at ho
  obtain ⟨⟨ht,hx⟩,hv⟩:=ho
  obtain ⟨inf,h1,h2⟩:=iJ ht
  cases q with
  | s j =>
   simp at gG
   subst gG
   simp only [ao,au,fW] at hs
   split at hs
   ·rename_i cs y heq
    simp only [ar,and_true,eI.ev] at heq
    obtain ⟨e1,e2,e3⟩:=heq
    obtain ⟨p1,p2,p3,rfl⟩:=hs
    subst e3
    simp only [ao,au,ft] at hg
    split at hg
    ·rename_i m' Mm ts g fC
     simp only [ar,and_true,eI.gh] at fC
     obtain ⟨f1,f2,f3⟩:=fC
     subst f3
     split at hg
     ·rename_i hc
      obtain ⟨rfl,rfl⟩:=hc
      cases hg
      exact FQ h rfl rfl h1 h2 hx (bQ fc (by simp [Op.operands])) hv (bQ fc (by simp [Op.operands])) e1 f1 f2 e2 p1 p2 p3 hK
     ·cases hg
    ·cases hg
   ·cases hs
  | c=>simp at gG
  | g=>simp at gG
 ·cases ho
theorem NR {m o' dd:Nat}:ei C sg (.fa m o' dd):=by
 intro D σ γ a w dst op ty pos after guard rs ds gd ws gs K' Q h ho hk fc hs hg hK
 obtain ⟨d,rfl,hl,rfl⟩:=gx (l:=[]) hk
 simp only [ga] at ho
 split at ho
 ·rename_i t x f r
  simp only [af] at ho
  obtain ⟨ht,hx⟩:=ho
  cases hf:mw C.P t f with
  | none=>simp [hf] at ht
  | some fl =>
   simp only [hf,Option.any_some,af,beq_iff_eq] at ht
   obtain ⟨h0,ht⟩:=ht
   cases hz:jg C.P fl.type with
   | none=>simp [hz] at ht
   | some n =>
    simp [hz] at ht
    obtain ⟨inf,h1,h2⟩:=iJ hz
    obtain ⟨fs,hu,rn⟩:=lU hf
    simp only [ao,au,fW] at hs
    split at hs
    ·rename_i heq
     simp only [ar,and_true] at heq
     subst hs
     simp only [ao,au,ft] at hg
     split at hg
     ·rename_i m' Mm fC
      simp only [ar,and_true] at fC
      split at hg
      ·rename_i hc
       obtain ⟨rfl,rfl⟩:=hc
       cases hg
       exact Ke h rfl hl rfl hu rn h0 h1 (by omega) hx (bQ fc (by simp [Op.operands])) heq fC hK
      ·cases hg
     ·cases hg
    ·cases hs
 ·cases ho
theorem NP {o' n:Nat} {agg:Bool}:ei C sg (.fr o' n agg):=by
 intro D σ γ a w dst op ty pos after guard rs ds gd ws gs K' Q h ho hk fc hs hg hK
 obtain ⟨d,rfl,hl,rfl⟩:=gx (l:=[]) hk
 simp only [ft,ax] at hg
 subst hg
 simp only [ga] at ho
 split at ho
 ·rename_i t x f r
  simp only [af] at ho
  obtain ⟨ht,hx⟩:=ho
  cases hf:mw C.P t f with
  | none=>simp [hf] at ht
  | some fl =>
   simp only [hf,Option.any_some,af,beq_iff_eq,az] at ht
   obtain ⟨⟨h0,ht⟩,hn⟩:=ht
   obtain ⟨inf,h1,h2,h3,h4⟩:=iV ht
   obtain ⟨fs,hu,rn⟩:=lU hf
   simp only [ao,au,fW] at hs
   split at hs
   ·rename_i cs heq
    simp only [ar,and_true] at heq
    obtain ⟨x',p1,rfl⟩:=hs
    exact Kc h rfl hl rfl hu rn h0 h1 h2 hn h4 hx (bQ fc (by simp [Op.operands])) heq p1 hK
   ·cases hs
 ·cases ho
theorem NG {m o':Nat}:ei C sg (.nc m o'):=by
 intro D σ γ a w dst op ty pos after guard rs ds gd ws gs K' Q h ho hk fc hs hg hK
 obtain ⟨d,rfl,hl,rfl⟩:=gx (l:=[]) hk
 simp only [ga] at ho
 split at ho
 ·simp only [ao,au,fW] at hs
  split at hs
  ·rename_i heq
   simp only [ar,and_true] at heq
   subst hs
   simp only [ao,au,ft] at hg
   split at hg
   ·rename_i m' Mm fC
    simp only [ar,and_true] at fC
    split at hg
    ·rename_i hc
     obtain ⟨rfl,rfl⟩:=hc
     cases hg
     exact J5 h rfl hl rfl ho (bQ fc (by simp [Op.operands])) heq fC hK
    ·cases hg
   ·cases hg
  ·cases hs
 ·cases ho
end
end Go.Eng
namespace Go.Eng
open Go.RowKit
section
variable {C:Ctx} {sg:Nat→dw}
theorem rY {P:Program} {rV:Array TypeId} {s b:Nat} (h1:rV.toList.length=2) (h2:(rV.toList.all fun t=>jY P t s b)=true) :
  ∃t u e i z du,rV=#[t,u]∧P.underlying t=some (.slice e)∧P.info? e=some i∧i.size=s∧i.bytes=b∧i.zero=some z∧z.cells.size=i.size∧P.underlying u=some du∧(∀k,du ≠ .int k):=by
 obtain ⟨t,u,h⟩:=wz h1
 rw [h] at h2
 simp only [List.all_cons,List.all_nil,Bool.and_true,af] at h2
 obtain ⟨e,i,z,q1,q2,q3,q4,q5,q6,q7⟩:=lf h2.1
 obtain ⟨e',i',z',r1,_⟩:=lf h2.2
 exact ⟨t,u,e,i,z,_,s7 h,q1,q2,q3,q4,q5,q6.trans q3.symm,r1,by simp⟩
theorem xD {P:Program} {rV:Array TypeId} {b:Nat} (h2:(match rV.toList with | [t,u]=>jY P t 1 b&&ka P t&&j9 P u | _=>false)=true) :
  ∃t u e i z du,rV=#[t,u]∧P.underlying t=some (.slice e)∧P.info? e=some i∧i.size=1∧i.bytes=b∧i.zero=some z∧z.cells.size=i.size∧P.underlying u=some du∧(∀k,du ≠ .int k):=by
 split at h2
 ·rename_i t u h
  simp only [af] at h2
  obtain ⟨e,i,z,q1,q2,q3,q4,q5,q6,q7⟩:=lf h2.1.1
  exact ⟨t,u,e,i,z,_,s7 h,q1,q2,q3,q4,q5,q6.trans q3.symm,ic h2.2,by simp⟩
 ·cases h2
theorem Bk {rs:List eI} {n a b:Nat} (h:(rs.drop n).map (fun r=>match r with | eI.s t=>some t | _=>none)=[some a,some b]):rs.drop n=[.s a,.s b] :=
 ly (ks:=[a,b]) h
theorem N1 {k d' s b:Nat}:ei C sg (.ap k d' s b):=by
 intro D σ γ a w dst op ty pos after guard rs ds gd ws gs K' Q h ho hk fc hs hg hK
 simp only [dS,af,beq_iff_eq,ao,au] at hk
 obtain ⟨⟨mi,gG⟩,jx⟩:=hk
 obtain ⟨d,rfl,hl,rfl⟩:=gx jx
 simp only [ga] at ho
 split at ho
 ·rename_i args rV r q r3 r4
  simp only [af,beq_iff_eq] at ho
  obtain ⟨⟨ho,h1⟩,h2⟩:=ho
  obtain ⟨t,u,e,i,z,du,rfl,q1,q2,q3,q4,q5,q6,q7,q8⟩:=rY h1 h2
  have ht:=Bk gG
  simp only [List.drop_succ_cons,bc,ar,and_true] at ht
  obtain ⟨rfl,rfl⟩:=ht
  obtain ⟨x,y,pD⟩:=wz (l:=args.toList) (by rw [iW ho];rfl)
  rw [pD] at ho
  obtain ⟨r',q',zB,hx,hy⟩:=j0 ho
  simp only [ar,and_true] at zB
  obtain ⟨rfl,rfl⟩:=zB
  have ea:=s7 pD
  subst ea
  simp only [ao,au,fW] at hs
  split at hs
  ·rename_i s' es pr fs v1 v2 heq
   simp only [ar,and_true] at heq
   obtain ⟨e1,e2,_⟩:=heq
   obtain ⟨rfl,rfl,p1,p2,p3,rfl⟩:=hs
   simp only [ao,au,ft] at hg
   split at hg
   ·rename_i k1 s1 g s2 fC
    simp only [ar,and_true,eI.gh] at fC
    obtain ⟨g1,g2,g3,g4⟩:=fC
    split at hg
    ·rename_i hc
     obtain ⟨rfl,rfl,rfl,jM⟩:=hc
     cases hg
     have kn:=(h.jz hy (bQ fc (by simp [Op.operands,Call.operands]))).rep (by rw [e2];simp)
     rw [e2] at kn
     obtain ⟨news,n1,n2,n3⟩:=Source.B6 (P:=C.P) kn
     exact B4 (q:=q) h rfl hl rfl q1 q2 q5 q6 q7 q8 q3 hx (bQ fc (by simp [Op.operands,Call.operands])) e1 g1 g3 g4 jM n1 n2 p1 p2 (by rw [q4];exact p3) hK
    ·cases hg
   ·cases hg
  ·cases hs
 ·cases ho
theorem KT {k d' b:Nat}:ei C sg (.DV k d' b):=by
 intro D σ γ a w dst op ty pos after guard rs ds gd ws gs K' Q h ho hk fc hs hg hK
 simp only [dS,af,beq_iff_eq,ao,au] at hk
 obtain ⟨⟨mi,gG⟩,jx⟩:=hk
 obtain ⟨d,rfl,hl,rfl⟩:=gx jx
 simp only [ga] at ho
 split at ho
 ·rename_i args rV r q r3 r4
  simp only [af] at ho
  obtain ⟨ho,h2⟩:=ho
  obtain ⟨t,u,e,i,z,du,rfl,q1,q2,q3,q4,q5,q6,q7,q8⟩:=xD h2
  have ht:=Bk gG
  simp only [List.drop_succ_cons,bc,ar,and_true] at ht
  obtain ⟨rfl,rfl⟩:=ht
  obtain ⟨x,y,pD⟩:=wz (l:=args.toList) (by rw [iW ho];rfl)
  rw [pD] at ho
  obtain ⟨r',q',zB,hx,hy⟩:=j0 ho
  simp only [ar,and_true] at zB
  obtain ⟨rfl,rfl⟩:=zB
  have ea:=s7 pD
  subst ea
  simp only [ao,au,fW] at hs
  split at hs
  ·rename_i s' es bb v1 v2 heq
   simp only [ar,and_true] at heq
   obtain ⟨e1,e2,_⟩:=heq
   obtain ⟨rfl,p2,p3,rfl⟩:=hs
   simp only [ao,au,ft] at hg
   split at hg
   ·rename_i k1 s1 g s2 fC
    simp only [ar,and_true,eI.gh] at fC
    obtain ⟨g1,g2,g3,g4⟩:=fC
    split at hg
    ·rename_i hc
     obtain ⟨rfl,rfl,rfl,jM⟩:=hc
     cases hg
     have kn:=(h.jz hy (bQ fc (by simp [Op.operands,Call.operands]))).rep (by rw [e2];simp)
     rw [e2] at kn
     have vm:Source C.P w 1 (a.eval y) (bb.data.toList.map fT).length (bb.data.toList.map fun b => .int .u8 b.toNat):=by
      rw [kn.iB,aQ];exact Source.of_string bb
     exact B4 (q:=q) h rfl hl rfl q1 q2 q5 q6 q7 q8 q3 hx (bQ fc (by simp [Op.operands,Call.operands])) e1 g1 g3 g4 jM vm (by rw [kQ];exact ns _)
      (fun e he=>by obtain ⟨x,_,rfl⟩:=aW.1 he;rfl) (by rw [aQ];exact p2) (by rw [aQ,q4];exact p3) hK
    ·cases hg
   ·cases hg
  ·cases hs
 ·cases ho
theorem Ce {args:List Operand} {q:eI} (h:(match args with | [.const (.slice none 0 0),x]=>dv x q | _=>false)=true):∃x,args=[.const (.slice none 0 0),x]∧dv x q=true:=by
 split at h
 ·exact ⟨_,rfl,h⟩
 ·cases h
theorem N2 {d' s b:Nat}:ei C sg (.an d' s b):=by
 intro D σ γ a w dst op ty pos after guard rs ds gd ws gs K' Q h ho hk fc hs hg hK
 simp only [dS,af,beq_iff_eq,ao,au] at hk
 obtain ⟨⟨mi,gG⟩,jx⟩:=hk
 obtain ⟨d,rfl,hl,rfl⟩:=gx jx
 simp only [ga] at ho
 split at ho
 ·rename_i args rV q r2
  simp only [af,beq_iff_eq] at ho
  obtain ⟨⟨ho,h1⟩,h2⟩:=ho
  obtain ⟨t,u,e,i,z,du,rfl,q1,q2,q3,q4,q5,q6,q7,q8⟩:=rY h1 h2
  simp only [List.drop_succ_cons,bc,ao,au,ar,and_true] at gG
  have hq:=sB gG
  subst hq
  obtain ⟨y,N7,hy⟩:=Ce ho
  have ea:=s7 N7
  subst ea
  simp only [ao,au,fW] at hs
  split at hs
  ·rename_i pr fs v1 heq
   simp only [ar,and_true] at heq
   obtain ⟨rfl,p1,p2,p3,rfl⟩:=hs
   simp only [ao,au,ft] at hg
   split at hg
   ·rename_i g fC
    simp only [ar,and_true,eI.gh] at fC
    cases hg
    have kn:=(h.jz hy (bQ fc (by simp [Op.operands,Call.operands]))).rep (by rw [heq.1];simp)
    rw [heq.1] at kn
    obtain ⟨news,n1,n2,n3⟩:=Source.B6 (P:=C.P) kn
    exact FW h rfl hl rfl q1 q2 q5 q6 q7 q8 q3 fC.2 n1 n2 p1 p2 (by rw [q4];exact p3) hK
   ·cases hg
  ·cases hs
 ·cases ho
theorem KV {d' b:Nat}:ei C sg (.GF d' b):=by
 intro D σ γ a w dst op ty pos after guard rs ds gd ws gs K' Q h ho hk fc hs hg hK
 simp only [dS,af,beq_iff_eq,ao,au] at hk
 obtain ⟨⟨mi,gG⟩,jx⟩:=hk
 obtain ⟨d,rfl,hl,rfl⟩:=gx jx
 simp only [ga] at ho
 split at ho
 ·rename_i args rV q r2
  simp only [af] at ho
  obtain ⟨ho,h2⟩:=ho
  obtain ⟨t,u,e,i,z,du,rfl,q1,q2,q3,q4,q5,q6,q7,q8⟩:=xD h2
  simp only [List.drop_succ_cons,bc,ao,au,ar,and_true] at gG
  have hq:=sB gG
  subst hq
  obtain ⟨y,N7,hy⟩:=Ce ho
  have ea:=s7 N7
  subst ea
  simp only [ao,au,fW] at hs
  split at hs
  ·rename_i bb v1 heq
   simp only [ar,and_true] at heq
   obtain ⟨p2,p3,rfl⟩:=hs
   simp only [ao,au,ft] at hg
   split at hg
   ·rename_i g fC
    simp only [ar,and_true,eI.gh] at fC
    cases hg
    have kn:=(h.jz hy (bQ fc (by simp [Op.operands,Call.operands]))).rep (by rw [heq.1];simp)
    rw [heq.1] at kn
    have vm:Source C.P w 1 (a.eval y) (bb.data.toList.map fT).length (bb.data.toList.map fun b => .int .u8 b.toNat):=by
     rw [kn.iB,aQ];exact Source.of_string bb
    exact FW h rfl hl rfl q1 q2 q5 q6 q7 q8 q3 fC.2 vm (by rw [kQ];exact ns _)
     (fun e he=>by obtain ⟨x,_,rfl⟩:=aW.1 he;rfl) (by rw [aQ];exact p2) (by rw [aQ,q4];exact p3) hK
   ·cases hg
  ·cases hs
 ·cases ho
theorem NK {d' s b:Nat} {z:AV}:ei C sg (.mk d' s b z):=by
 intro D σ γ a w dst op ty pos after guard rs ds gd ws gs K' Q h ho hk fc hs hg hK
 simp only [dS,af,beq_iff_eq,ao,au] at hk
 obtain ⟨⟨mi,gG⟩,jx⟩:=hk
 obtain ⟨d,rfl,hl,rfl⟩:=gx jx
 simp only [ga] at ho
 split at ho
 ·rename_i t l c r q r3
  simp only [af] at ho
  obtain ⟨⟨ht,ho⟩,hz⟩:=ho
  obtain ⟨e,i,zv,q1,q2,q3,q4,q5,q6,q7⟩:=lf ht
  obtain ⟨r',q',zB,hx,hy⟩:=j0 ho
  simp only [ar,and_true] at zB
  obtain ⟨rfl,rfl⟩:=zB
  simp only [List.drop_succ_cons,bc,ao,au,ar,and_true] at gG
  have hq:=sB gG
  subst hq
  have he:kO C.P t=some e:=by unfold kO;rw [q1];rfl
  rw [he] at hz
  simp only [Option.any_some,af] at hz
  obtain ⟨i',S9,z1,z2,z3⟩:=nI hz.1
  rw [q2] at z1
  cases z1
  rw [q5] at z2
  cases z2
  simp only [ao,au,fW] at hs
  split at hs
  ·rename_i ll cc v1 heq
   simp only [ar,and_true] at heq
   obtain ⟨p1,p2,p3,p4,p5,p6,rfl⟩:=hs
   simp only [ao,au,ft] at hg
   split at hg
   ·rename_i g1 g2 fC
    simp only [ar,and_true,eI.gh] at fC
    cases hg
    exact J6 h rfl hl rfl q1 q2 q3 q5 q6 q7 z3 hx hy (bQ fc (by simp [Op.operands])) (bQ fc (by simp [Op.operands])) heq.1 heq.2.1 p2 p3 p4 (by rw [q4];exact p5) p6 fC.2.2 hK
   ·cases hg
  ·cases hs
 ·cases ho
end
end Go.Eng
