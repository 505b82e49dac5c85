/- Texts of my own, one behind the other: EngA, EngB, EngC, EngD, EngE, EngF, EngG, EngH, EngI, EngJ, EngK, EngL, EngM, EngN, EngO, EngP, EngQ. -/
import Derived.Calls
import Derived.Below
import Derived.Laws.OwnMore
import Derived.Lib.Bytealg
import Derived.Orders
import Derived.Laws.IdiomStrings
import Derived.Laws.Entries
import Derived.Laws.BytesString
import Derived.Lib.Strings
import Derived.Laws.BytesArg
import Derived.Laws.MakeOwn
set_option linter.unusedVariables false
set_option linter.unusedSimpArgs false
namespace Go.Eng
abbrev aa:=@decide_eq_true
abbrev ae:=@Bool.and_eq_true
abbrev af:=@decide_eq_false
abbrev ah:=@if_neg
abbrev aj:=@cond_false
abbrev ak:=@List.map_cons
abbrev ao:=@if_pos
abbrev aq:=@cond_true
abbrev ar:=@List.cons.injEq
abbrev au:=@List.map_nil
abbrev aw:=@List.length_append
abbrev ax:=@Option.some.injEq
abbrev ay:=@Nat.eq_of_beq_eq_true
abbrev az:=@Option.ite_none_right_eq_some
abbrev aA:=@List.length_nil
abbrev aB:=@decide_eq_true_eq
abbrev aC:=@List.getElem?_eq_some_iff
abbrev aD:=@of_decide_eq_true
abbrev aE:=@List.getElem?_eq_getElem
abbrev aF:=@List.length_cons
abbrev aG:=@List.getD_eq_getElem?_getD
abbrev aH:=@UInt64.lt_iff_toNat_lt
abbrev aI:=@List.drop_of_length_le
abbrev aJ:=@UInt64.le_iff_toNat_le
abbrev aK:=@Int.toNat_natCast
abbrev aL:=@List.getElem?_map
abbrev aM:=@Bool.and_self
abbrev aN:=@List.length_map
abbrev aO:=@List.append_nil
abbrev aP:=@Bool.not_or_self
abbrev aQ:=@List.length_singleton
abbrev aR:=@List.getElem?_take
abbrev aS:=@List.getElem?_append_right
abbrev aT:=@List.mem_map
abbrev aU:=@List.append_assoc
abbrev aV:=@Bool.not_true
abbrev aW:=@List.length_drop
abbrev aX:=@Bool.not_false
abbrev aY:=@Bool.eq_iff_iff
abbrev aZ:=@UInt64.toNat_inj
abbrev ba:=@Int.emod_eq_of_lt
abbrev bc:=@List.mem_of_getElem?
abbrev bf:=@Option.map_eq_some_iff
abbrev bg:=@List.drop_zero
abbrev bh:=@List.map_map
abbrev bj:=@List.all_eq_true
abbrev bk:=@Bool.false_eq_true
abbrev bm:=@List.eq_nil_of_length_eq_zero
abbrev bo:=@List.length_take
abbrev bq:=@List.mem_cons
abbrev bt:=@Option.bind_eq_some_iff
abbrev bu:=@Nat.mul_le_mul_right
abbrev bw:=@Bool.and_eq_true_iff
abbrev bz:=@List.getElem?_of_mem
abbrev bA:=@List.nil_append
abbrev bB:=@Bool.or_not_self
abbrev bC:=@decide_eq_decide
end Go.Eng
namespace Go.Eng
open Go.RowKit
inductive AV where
 | v (x:Value)
 | ag (cs:List AV)
 | tu (vs:List AV)
 | sl (s:Nat) (es:List AV)
 | ro (x:AV)
 | pt
 | dead
 | el (i s o:Nat)
 | ab
 | gv (zs:List Value)
 deriving Inhabited
def AV.cells:AV→List AV
 | .ag cs=>cs
 | x=>[x]
def AV.pj:AV→Bool
 | .ag _=>true
 | _=>false
abbrev Reach:=Nat→Nat→Prop
mutual
inductive Rep (R:Reach) (w:World):AV→Value→Prop
 | v (x:Value):Rep R w (.v x) x
 | ag {cs:List AV} {ys:List Value}:eL R w cs ys→Rep R w (.ag cs) (.agg ⟨ys⟩)
 | tu {vs:List AV} {ys:List Value}:gP R w vs ys→Rep R w (.tu vs) (.tuple ⟨ys⟩)
 | nil (s:Nat):Rep R w (.sl s []) (.slice none 0 0)
 | sl {s:Nat} {es:List AV} {b off n cap:Nat}:n=es.length→n≤cap→cap≤maxLen→iU R w s es b off→Rep R w (.sl s es) (.slice (some ⟨b,off,none⟩) n cap)
 | em {a:Addr} {cap:Nat} (s:Nat):cap≤maxLen→Rep R w (.sl s []) (.slice (some a) 0 cap)
 | ro {x:AV} {b off s:Nat}:kU R w s x b off→Rep R w (.ro x) (.pointer (some ⟨b,off,none⟩))
 | pt (y:Value):Rep R w .pt y
 | dead (y:Value):Rep R w .dead y
 | el (i s o b:Nat):Rep R w (.el i s o) (.pointer (some ⟨b,i * s+o,none⟩))
 | ab (x:Bool):Rep R w .ab (.bool x)
 | gv {zs:List Value} {b:Nat}:(∀o,R b o)→(∀o,w.cell? ⟨b,o,none⟩=zs[o]?)→Rep R w (.gv zs) (.pointer (some ⟨b,0,none⟩))
inductive eL (R:Reach) (w:World):List AV→List Value→Prop
 | nil:eL R w [] []
 | cons {x:AV} {y:Value} {xs:List AV} {ys:List Value}:y.oneCell'=true→Rep R w x y→eL R w xs ys→eL R w (x :: xs) (y :: ys)
inductive gP (R:Reach) (w:World):List AV→List Value→Prop
 | nil:gP R w [] []
 | cons {x:AV} {y:Value} {xs:List AV} {ys:List Value}:Rep R w x y→gP R w xs ys→gP R w (x :: xs) (y :: ys)
inductive kn (R:Reach) (w:World):List AV→Nat→Nat→Prop
 | nil (b off:Nat):kn R w [] b off
 | cons {x:AV} {y:Value} {xs:List AV} {b off:Nat}:R b off→w.cell? ⟨b,off,none⟩=some y→y.oneCell'=true→Rep R w x y→kn R w xs b (off+1)→kn R w (x :: xs) b off
inductive kU (R:Reach) (w:World):Nat→AV→Nat→Nat→Prop
 | ag {cs:List AV} {b off s:Nat}:s=cs.length→kn R w cs b off→kU R w s (.ag cs) b off
 | one {x:AV} {y:Value} {b off:Nat}:x.pj=false→R b off→w.cell? ⟨b,off,none⟩=some y→y.oneCell'=true→Rep R w x y→kU R w 1 x b off
inductive iU (R:Reach) (w:World):Nat→List AV→Nat→Nat→Prop
 | nil (s b off:Nat):iU R w s [] b off
 | cons {s:Nat} {x:AV} {xs:List AV} {b off:Nat}:kU R w s x b off→iU R w s xs b (off+s)→iU R w s (x :: xs) b off
end
def gF (R:Reach) (w:World) (R':Reach) (w':World):Prop:=∀b o,R b o→R' b o∧w'.cell? ⟨b,o,none⟩=w.cell? ⟨b,o,none⟩
theorem gF.refl (R:Reach) (w:World):gF R w R w:=fun _ _ h=>⟨h,rfl⟩
theorem gF.trans {R R' PL:Reach} {w w' Pb:World} (h:gF R w R' w') (k:gF R' w' PL Pb):gF R w PL Pb :=
 fun b o hr=>⟨(k b o (h b o hr).1).1,(k b o (h b o hr).1).2.trans (h b o hr).2⟩
section
variable {R R':Reach} {w w':World}
mutual
theorem Rep.mono (k:gF R w R' w'):∀{x:AV} {y:Value},Rep R w x y→Rep R' w' x y
 | _,_,.v x => .v x
 | _,_,.ag h => .ag (eL.mono k h)
 | _,_,.tu h => .tu (gP.mono k h)
 | _,_,.nil s => .nil s
 | _,_,.sl a b c h => .sl a b c (iU.mono k h)
 | _,_,.em s h => .em s h
 | _,_,.ro h => .ro (kU.mono k h)
 | _,_,.pt y => .pt y
 | _,_,.dead y => .dead y
 | _,_,.el i s o b => .el i s o b
 | _,_,.ab x => .ab x
 | _,_,.gv h1 h2 => .gv (fun o=>(k _ o (h1 o)).1) (fun o=>(k _ o (h1 o)).2.trans (h2 o))
theorem eL.mono (k:gF R w R' w'):∀{x:List AV} {y:List Value},eL R w x y→eL R' w' x y
 | _,_,.nil => .nil
 | _,_,.cons a h t => .cons a (Rep.mono k h) (eL.mono k t)
theorem gP.mono (k:gF R w R' w'):∀{x:List AV} {y:List Value},gP R w x y→gP R' w' x y
 | _,_,.nil => .nil
 | _,_,.cons h t => .cons (Rep.mono k h) (gP.mono k t)
theorem kn.mono (k:gF R w R' w'):∀{x:List AV} {b o:Nat},kn R w x b o→kn R' w' x b o
 | _,_,_,.nil b o => .nil b o
 | _,_,_,.cons r c a h t => .cons (k _ _ r).1 ((k _ _ r).2.trans c) a (Rep.mono k h) (kn.mono k t)
theorem kU.mono (k:gF R w R' w'):∀{s:Nat} {x:AV} {b o:Nat},kU R w s x b o→kU R' w' s x b o
 | _,_,_,_,.ag e h => .ag e (kn.mono k h)
 | _,_,_,_,.one n r c a h => .one n (k _ _ r).1 ((k _ _ r).2.trans c) a (Rep.mono k h)
theorem iU.mono (k:gF R w R' w'):∀{s:Nat} {x:List AV} {b o:Nat},iU R w s x b o→iU R' w' s x b o
 | _,_,_,_,.nil s b o => .nil s b o
 | _,_,_,_,.cons h t => .cons (kU.mono k h) (iU.mono k t)
end
end
section
variable {R:Reach} {w:World}
theorem eL.length:∀{xs:List AV} {ys:List Value},eL R w xs ys→xs.length=ys.length
 | _,_,.nil=>rfl
 | _,_,.cons _ _ t=>by simp [eL.length t]
theorem gP.length:∀{xs:List AV} {ys:List Value},gP R w xs ys→xs.length=ys.length
 | _,_,.nil=>rfl
 | _,_,.cons _ t=>by simp [gP.length t]
theorem eL.get:∀{xs:List AV} {ys:List Value} (_:eL R w xs ys) (i:Nat) (x:AV),xs[i]?=some x→∃y,ys[i]?=some y∧y.oneCell'=true∧Rep R w x y
 | _,_,.cons a h _,0,x,e=>by simp at e;subst e;exact ⟨_,rfl,a,h⟩
 | _,_,.cons _ _ t,i+1,x,e=>by simpa using eL.get t i x (by simpa using e)
theorem gP.get:∀{xs:List AV} {ys:List Value} (_:gP R w xs ys) (i:Nat) (x:AV),xs[i]?=some x→∃y,ys[i]?=some y∧Rep R w x y
 | _,_,.cons h _,0,x,e=>by simp at e;subst e;exact ⟨_,rfl,h⟩
 | _,_,.cons _ t,i+1,x,e=>by simpa using gP.get t i x (by simpa using e)
theorem eL.one:∀{xs:List AV} {ys:List Value},eL R w xs ys→∀y∈ys,y.oneCell'=true
 | _,_,.cons a _ t,y,hy=>by
  rcases bq.1 hy with rfl | h
  ·exact a
  ·exact eL.one t y h
theorem eL.append:∀{xs:List AV} {ys:List Value} {Mc:List AV} {O9:List Value},eL R w xs ys→eL R w Mc O9→eL R w (xs++Mc) (ys++O9)
 | _,_,_,_,.nil,h=>h
 | _,_,_,_,.cons a h t,k => .cons a h (eL.append t k)
theorem eL.take:∀{xs:List AV} {ys:List Value} (n:Nat),eL R w xs ys→eL R w (xs.take n) (ys.take n)
 | _,_,0,_=>by simp;exact .nil
 | _,_,n+1,.nil=>by simp;exact .nil
 | _,_,n+1,.cons a h t=>by simp;exact .cons a h (eL.take n t)
theorem eL.drop:∀{xs:List AV} {ys:List Value} (n:Nat),eL R w xs ys→eL R w (xs.drop n) (ys.drop n)
 | _,_,0,h=>by simpa using h
 | _,_,n+1,.nil=>by simp;exact .nil
 | _,_,n+1,.cons a h t=>by simp;exact eL.drop n t
theorem kn.read:∀{xs:List AV} {b o:Nat},kn R w xs b o→∃ys,eL R w xs ys∧∀j y,ys[j]?=some y→w.cell? ⟨b,o+j,none⟩=some y
 | _,_,_,.nil _ _=>⟨[],.nil,by simp⟩
 | _,b,o,.cons (y:=y) r c a h t=>by
  obtain ⟨ys,hl,hc⟩:=kn.read t
  refine ⟨y :: ys,.cons a h hl,fun j z hz=>?_⟩
  cases j with
  | zero=>simp at hz;subst hz;exact c
  | succ j=>have:=hc j z (by simpa using hz);rw [show o+(j+1)=o+1+j by omega];exact this
theorem kn.write:∀{xs:List AV} {ys:List Value} {b o:Nat},eL R w xs ys→(∀j,j<ys.length→R b (o+j))→(∀j y,ys[j]?=some y→w.cell? ⟨b,o+j,none⟩=some y)→kn R w xs b o
 | _,_,b,o,.nil,_,_ => .nil b o
 | _,_,b,o,.cons a h t,hr,hc => .cons (hr 0 (by simp)) (hc 0 _ rfl) a h
   (kn.write t (fun j hj=>by have:=hr (j+1) (by simp;omega);rwa [show o+(j+1)=o+1+j by omega] at this)
    (fun j y hy=>by have:=hc (j+1) y (by simpa using hy);rwa [show o+(j+1)=o+1+j by omega] at this))
theorem kn.drop:∀{xs:List AV} {b o:Nat} (n:Nat),kn R w xs b o→kn R w (xs.drop n) b (o+n)
 | _,b,o,0,h=>by simpa using h
 | _,b,o,n+1,.nil _ _=>by simp;exact .nil _ _
 | _,b,o,n+1,.cons r c a h t=>by simp;have:=kn.drop n t;rwa [show o+1+n=o+(n+1) by omega] at this
theorem kn.take:∀{xs:List AV} {b o:Nat} (n:Nat),kn R w xs b o→kn R w (xs.take n) b o
 | _,b,o,0,h=>by simp;exact .nil _ _
 | _,b,o,n+1,.nil _ _=>by simp;exact .nil _ _
 | _,b,o,n+1,.cons r c a h t=>by simp;exact .cons r c a h (kn.take n t)
theorem kn.lt:∀{xs:List AV} {b o:Nat},kn R w xs b o→∀j,j<xs.length→R b (o+j)
 | _,b,o,.cons r _ _ _ t,0,_=>r
 | _,b,o,.cons _ _ _ _ t,j+1,hj=>by have:=kn.lt t j (by simpa using hj);rwa [show o+1+j=o+(j+1) by omega] at this
theorem iU.get:∀{s:Nat} {es:List AV} {b o:Nat} (_:iU R w s es b o) (i:Nat) (x:AV),es[i]?=some x→kU R w s x b (o+i * s)
 | s,_,b,o,.cons h _,0,x,e=>by simp at e;subst e;simpa using h
 | s,_,b,o,.cons _ t,i+1,x,e=>by
  have:=iU.get t i x (by simpa using e)
  rwa [show o+s+i * s=o+(i+1) * s by rw [Nat.succ_mul];omega] at this
theorem iU.drop:∀{s:Nat} {es:List AV} {b o:Nat} (n:Nat),iU R w s es b o→iU R w s (es.drop n) b (o+n * s)
 | s,_,b,o,0,h=>by simpa using h
 | s,_,b,o,n+1,.nil _ _ _=>by simp;exact .nil _ _ _
 | s,_,b,o,n+1,.cons h t=>by simp;have:=iU.drop n t;rwa [show o+s+n * s=o+(n+1) * s by rw [Nat.succ_mul];omega] at this
theorem iU.take:∀{s:Nat} {es:List AV} {b o:Nat} (n:Nat),iU R w s es b o→iU R w s (es.take n) b o
 | s,_,b,o,0,h=>by simp;exact .nil _ _ _
 | s,_,b,o,n+1,.nil _ _ _=>by simp;exact .nil _ _ _
 | s,_,b,o,n+1,.cons h t=>by simp;exact .cons h (iU.take n t)
theorem iU.append:∀{s:Nat} {es fs:List AV} {b o:Nat},iU R w s es b o→iU R w s fs b (o+es.length * s)→iU R w s (es++fs) b o
 | s,[],fs,b,o,_,h=>by simpa using h
 | s,e :: es,fs,b,o,.cons h t,k => .cons h (iU.append t (by rwa [show o+s+es.length * s=o+(e :: es).length * s by rw [aF,Nat.succ_mul];omega]))
theorem kU.read {s:Nat} {x:AV} {b o:Nat} (h:kU R w s x b o):∃ys:List Value,ys.length=s∧(∀j y,ys[j]?=some y→w.cell? ⟨b,o+j,none⟩=some y)∧eL R w x.cells ys:=by
 cases h with
 | ag e h=>obtain ⟨ys,hl,hc⟩:=h.read;exact ⟨ys,by rw [e,hl.length],hc,hl⟩
 | one n r c a h =>
  rename_i y
  refine ⟨[y],rfl,?_,?_⟩
  ·intro j z hz
   cases j with
   | zero=>simp at hz;subst hz;exact c
   | succ j=>simp at hz
  ·cases x <;> simp [AV.cells,AV.pj] at n ⊢ <;> exact .cons a h .nil
theorem kU.write {s:Nat} {x:AV} {ys:List Value} {b o:Nat} (hs:x.cells.length=s) (h:eL R w x.cells ys) (hr:∀j,j<s→R b (o+j)) (hc:∀j y,ys[j]?=some y→w.cell? ⟨b,o+j,none⟩=some y):kU R w s x b o:=by
 have hl:=h.length
 cases x with
 | ag cs=>exact .ag hs.symm (kn.write h (fun j hj=>hr j (by omega)) hc)
 | _ =>
  simp only [AV.cells,aQ] at hs h hl
  subst hs
  cases h with
  | cons a h t=>exact .one rfl (hr 0 (by omega)) (hc 0 _ rfl) a h
theorem iU.cells:∀{s:Nat} {es:List AV} {b o:Nat},iU R w s es b o→∃ys:List Value,ys.length=es.length * s∧(∀j y,ys[j]?=some y→w.cell? ⟨b,o+j,none⟩=some y)∧eL R w (es.flatMap AV.cells) ys∧∀e∈es,e.cells.length=s
 | s,_,b,o,.nil _ _ _=>⟨[],by simp,by simp,.nil,by simp⟩
 | s,_,b,o,.cons (x:=x) (xs:=xs) h t=>by
  obtain ⟨ys,hl,hc,hr⟩:=h.read
  obtain ⟨zs,kl,kc,kr,ke⟩:=iU.cells t
  have hx:x.cells.length=s:=by rw [hr.length,hl]
  refine ⟨ys++zs,by simp [hl,kl,Nat.succ_mul];omega,?_,?_,?_⟩
  ·intro j y hy
   by_cases hj:j<ys.length
   ·exact hc j y (by rwa [List.getElem?_append_left hj] at hy)
   ·rw [aS (by omega)] at hy
    have:=kc _ y hy
    rwa [show o+s+(j - ys.length)=o+j by omega] at this
  ·simpa using hr.append kr
  ·intro e he
   rcases bq.1 he with rfl | h'
   ·exact hx
   ·exact ke e h'
theorem iU.write:∀{s:Nat} {es:List AV} {ys:List Value} {b o:Nat},(∀e∈es,e.cells.length=s)→eL R w (es.flatMap AV.cells) ys→(∀j,j<es.length * s→R b (o+j)) →
  (∀j y,ys[j]?=some y→w.cell? ⟨b,o+j,none⟩=some y)→iU R w s es b o
 | s,[],ys,b,o,_,_,_,_ => .nil _ _ _
 | s,e :: es,ys,b,o,he,h,hr,hc=>by
  have hs:=he e (by simp)
  have hl:=h.length
  simp only [List.flatMap_cons,aw] at hl
  have h1:eL R w e.cells (ys.take s):=by simpa [hs] using h.take s
  have h2:eL R w (es.flatMap AV.cells) (ys.drop s):=by have:=h.drop s;simpa [List.drop_append,hs,aI] using this
  refine .cons (.write hs h1 (fun j hj=>hr j (by simp [Nat.succ_mul];omega)) (fun j y hy=>hc j y ?_))
   (iU.write (fun e' h'=>he e' (by simp [h'])) h2 (fun j hj=>?_) (fun j y hy=>?_))
  ·rw [aR] at hy;split at hy
   ·exact hy
   ·cases hy
  ·have:=hr (s+j) (by simp [Nat.succ_mul];omega);rwa [←Nat.add_assoc] at this
  ·have:=hc (s+j) y (by simpa using hy);rwa [←Nat.add_assoc] at this
end
end Go.Eng
namespace Go.Eng
inductive Gh where
 | no
 | ptr (m o:Nat)
 | gb (k s:Nat)
 | cl (ts:List (Nat × (Nat × Nat)))
 | yy (ts:List (Nat × (Nat × Nat))) (p:Option (Nat × Nat))
 | live (s:Nat)
 | used
 | pv (s:Nat)
 | nC (d s:Nat)
 | pe (k:Nat)
 | pm (m:Nat)
 | pc (s:Nat)
 deriving DecidableEq,Inhabited
def lk (k:Nat):Nat:=1000000+k
theorem hU (k:Nat):1000000≤lk k:=by unfold lk;omega
theorem jZ {j k:Nat} (h:lk j=lk k):j=k:=by unfold lk at h;omega
attribute [irreducible] lk
inductive eB where
 | s (t:Nat)
 | c (x:AV)
 | g (n:Nat)
 deriving Inhabited
structure CS where
 n:Nat
 ref:Option (Nat × Nat)
 kD:List (Nat × (Nat × Nat))
 iu:List (Nat × (Nat × Nat))
 cS:Nat
 own:List (Nat × (Nat × Nat))
 new:Option (Nat × Nat)
 fx:List (Nat × (Nat × Nat))
def CS.plain (n cS:Nat):CS:=⟨n,none,[],[],cS,[],none,[]⟩
structure dq where
 ref:Option Nat:=none
 fA:List (Nat × Nat):=[]
 cS:Nat:=1
 own:List (Nat × Nat):=[]
 new:Option Nat:=none
 fx:List (Nat × Nat):=[]
 ps:Option (Nat × Nat):=none
 deriving DecidableEq,Inhabited
def dq.plain (g:dq):Bool:=g.ref.isNone&&g.fA.isEmpty&&g.own.isEmpty&&g.new.isNone&&g.fx.isEmpty&&g.ps.isNone
def jk (l:List (Nat × (Nat × Nat))):List (Nat × Nat):=l.map fun t=>(t.1,t.2.2)
def CS.fits (c:CS) (g:dq):Bool :=
 decide (c.ref.map (·.1)=g.ref∧jk c.kD=g.fA∧jk c.iu=g.fA∧c.cS=g.cS∧jk c.own=g.own∧c.new.map (·.1)=g.new∧jk c.fx=g.fx ∧
  ((c.kD++c.iu++c.own++c.fx).map (·.2.1)).Nodup∧(c.ref=none→c.kD=[])∧(c.new=none→c.fx=[])∧(c.ref=none∨c.new=none)∧(∀q∈c.new.toList,q.1<c.cS∧q.2<999999)∧g.ps=none)
def CS.lT (c:CS):List Nat:=(c.kD++c.iu++c.own++c.fx).map fun t=>lk t.2.1
def CS.jE (c:CS):List Nat:=(c.new.map (·.2)).toList++(c.ref.map (·.2)).toList
inductive K where
 | mv
 | pick
 | bin (o:BinOp)
 | be (neg:Bool)
 | un (o:UnOp)
 | ci (k:IntKind)
 | cs
 | sb
 | DV (k:Nat)
 | bs
 | len
 | uO
 | mn
 | mx
 | ix (s:Nat)
 | si
 | ai (n s:Nat) (agg:Bool)
 | fe (o n:Nat) (agg:Bool)
 | sc (s:Nat) (lo hi:Bool)
 | ss (lo hi:Bool)
 | bl (s n:Nat)
 | blt (s n k:Nat)
 | bd (z:List AV) (pl:List (Nat × Nat))
 | al (m:Nat) (z:List AV) (ts:List (Nat × (Nat × Nat)))
 | bx (m:Nat)
 | ld (m o n:Nat) (agg:Bool)
 | st (m o n:Nat)
 | lr (n:Nat) (agg:Bool)
 | fa (m o d:Nat)
 | fr (o n:Nat) (agg:Bool)
 | nc (m o:Nat)
 | FK
 | ex (i:Nat)
 | ap (k d s mZ:Nat)
 | zp (k d mZ:Nat)
 | an (d s mZ:Nat)
 | Gn (d mZ:Nat)
 | mk (d s mZ:Nat) (z:AV)
 | nl (d s:Nat)
 | call (f:Nat) (c:CS)
 | Fw (k:Nat)
 | Fy (k:Nat)
 | FA (k s:Nat)
 | GQ (k o:Nat)
 | Fz (k s n:Nat) (agg:Bool)
 | Fv (k s n:Nat)
 | FB (k s:Nat)
 | jK (f n cS i k s:Nat)
 | mq (f n cS i s:Nat)
 | AO (k d s mZ:Nat)
 | Fx (k:Nat)
 | Fi (k d q s mZ:Nat)
 | la (m n s:Nat)
 | ll (m s:Nat)
 | Ju
 | Ir
 | FJ (b:Bool)
 | lj (f n cS i m:Nat)
 | yn (m:Nat) (ts:List (Nat × (Nat × Nat)))
 | pF (m o n:Nat) (ts:List (Nat × (Nat × Nat)))
structure ov where
 k:K
 rs:List eB
 ds:List Nat
 gd:Option (Nat × Bool):=none
inductive M where
 | skip
 | fK (ops:List ov)
 | seq (a b:M)
 | cond (x:eB) (G:List (Nat × Gh)) (a b:M)
 | block (id:Nat) (G:List (Nat × Gh)) (b:M)
 | loop (cd:List Nat) (G:List (Nat × Gh)) (b:M)
 | exit (id:Nat)
 | ret
 | Bp (b:M)
 | Bo (b:M)
 | AP (l:Nat) (cd:List Nat) (G:List (Nat × Gh)) (r b:M)
def gid (l:Nat):Nat:=1000000+l
structure FS where
 G:List AV→List AV→Prop
 sg:dq
abbrev Sg:=Nat→AV
abbrev Ga:=Nat→Gh
def dJ {X:Type} (σ:Nat→X) (t:Nat) (x:X):Nat→X:=fun k=>if k=t then x else σ k
def cQ {X:Type} (σ:Nat→X):List Nat→List X→Nat→X
 | t :: ts,x :: xs=>dJ (cQ σ ts xs) t x
 | _,_=>σ
structure Env where
 fs:Nat→FS
 gl:Nat→AV
def eB.ev (E:Env) (σ:Sg):eB→AV
 | .s t=>σ t
 | .c x=>x
 | .g n=>E.gl n
def eB.gh (γ:Ga):eB→Gh
 | .s t=>γ t
 | _ => .no
def eA (o:BinOp) (k:IntKind) (x y:Int):Int :=
 let a:=BitVec.ofInt k.bits x
 let b:=BitVec.ofInt k.bits y
 match o with
 | .and=>k.wrap (a &&& b).toNat
 | .or=>k.wrap (a ||| b).toNat
 | .xor=>k.wrap (a ^^^ b).toNat
 | _=>k.wrap (a &&& ~~~b).toNat
def kB:BinOp→Value→Value→Option Value
 | .shl,.int k a,.int _ b=>if b<0 then none else some (.int k (k.wrap (a * 2 ^ (min b.toNat k.bits))))
 | .shr,.int k a,.int _ b=>if b<0 then none else some (.int k (a.fdiv (2 ^ (min b.toNat k.bits))))
 | .add,.int k a,.int k' b=>if k=k' then some (.int k (k.wrap (a+b))) else none
 | .sub,.int k a,.int k' b=>if k=k' then some (.int k (k.wrap (a - b))) else none
 | .mul,.int k a,.int k' b=>if k=k' then some (.int k (k.wrap (a * b))) else none
 | .quo,.int k a,.int k' b=>if k=k' then (if b=0 then none else some (.int k (k.wrap (a.tdiv b)))) else none
 | .rem,.int k a,.int k' b=>if k=k' then (if b=0 then none else some (.int k (a.tmod b))) else none
 | .and,.int k a,.int k' b=>if k=k' then some (.int k (eA .and k a b)) else none
 | .or,.int k a,.int k' b=>if k=k' then some (.int k (eA .or k a b)) else none
 | .xor,.int k a,.int k' b=>if k=k' then some (.int k (eA .xor k a b)) else none
 | .andNot,.int k a,.int k' b=>if k=k' then some (.int k (eA .andNot k a b)) else none
 | .eql,.int k a,.int k' b=>if k=k' then some (.bool (a == b)) else none
 | .neq,.int k a,.int k' b=>if k=k' then some (.bool (a != b)) else none
 | .lss,.int k a,.int k' b=>if k=k' then some (.bool (decide (a<b))) else none
 | .leq,.int k a,.int k' b=>if k=k' then some (.bool (decide (a≤b))) else none
 | .gtr,.int k a,.int k' b=>if k=k' then some (.bool (decide (a > b))) else none
 | .geq,.int k a,.int k' b=>if k=k' then some (.bool (decide (a ≥ b))) else none
 | .add,.string a,.string b=>if ((a.size+b.size:Nat):Int) > IntKind.i64.max then none else some (.string (a++b))
 | .eql,.string a,.string b=>some (.bool (a.toList == b.toList))
 | .neq,.string a,.string b=>some (.bool (!(a.toList == b.toList)))
 | _,_,_=>none
def IH:UnOp→Value→Option Value
 | .neg,.int k n=>some (.int k (k.wrap (0 - n)))
 | .xor,.int k n=>some (.int k (eA .xor k (if k.signed then -1 else k.max) n))
 | .not,.bool b=>some (.bool !b)
 | _,_=>none
def fQ (b:UInt8):AV := .v (.int .u8 b.toNat)
def AV.plain:AV→Bool
 | .v x=>x.oneCell'
 | .ag _ | .sl _ _ | .ro _=>true
 | _=>false
def gS (cs:List AV) (o n:Nat) (agg:Bool):Option AV :=
 if agg then (if o+n≤cs.length then some (.ag ((cs.drop o).take n)) else none) else cs[o]?
def pa (e:AV) (o n:Nat) (agg:Bool):Option AV :=
 match e with
 | .ag cs=>gS cs o n agg
 | x=>if o=0∧n=1∧agg=false then some x else none
def gR (cs:List AV) (o:Nat) (xs:List AV):List AV:=cs.take o++xs++cs.drop (o+xs.length)
def sf (e:AV) (o:Nat) (x:AV):Option AV :=
 match e with
 | .ag cs=>if o+x.cells.length≤cs.length then some (.ag (gR cs o x.cells)) else none
 | _=>if o=0∧x.pj=false then some x else none
def lV (z:List AV):List (Nat × Nat)→List AV→Option (List AV)
 | [],[]=>some z
 | (o,n) :: pl,x :: xs=>if x.plain=true∧x.cells.length=n∧o+n≤z.length then lV (gR z o x.cells) pl xs else none
 | _,_=>none
def B1 (a b:Int):Int:=if b<a then b else a
def nJ (a b:Int):Int:=if a<b then b else a
def CS.ins (c:CS) (vs:List AV):List AV :=
 match c.ref with
 | some (i,_)=>(vs.take c.n).set i (vs.getD (c.n+(c.new.map (·.2)).toList.length) .dead)
 | none=>vs.take c.n
def CS.main (c:CS) (outs:List AV):AV :=
 if c.cS=1 then (if c.new.isSome then .pt else outs.headD .dead)
 else .tu ((outs.take c.cS).mapIdx fun i x=>if c.new.any (·.1 == i) then .pt else x)
def kQ (cs:List AV):List (Nat × (Nat × Nat))→List AV
 | []=>cs
 | t :: ts=>(kQ cs ts).set t.1 (.sl t.2.2 [])
abbrev AV.nil:AV := .v (.slice none 0 0)
def CS.dg (c:CS):Gh:=if c.cS=1 then (match c.new,c.own with | some (_,m),_=>Gh.ptr m 0 | none,[(0,k,s)] => .gb k s | none,_ => .no) else .yy c.own c.new
section
variable (E:Env)
def gf (k:K) (vs ws:List AV):Prop :=
 match k with
 | .mv=>match vs with
  | [x]=>ws=[x]
  | _=>False
 | .pick=>match vs with
  | [.v (.bool b),x,y]=>ws=[if b then x else y]
  | _=>False
 | .bin o=>match vs with
  | [.v a,.v b]=>∃x,kB o a b=some x∧ws=[.v x]
  | _=>False
 | .be neg=>match vs with
  | [.v (.bool a),.v (.bool b)]=>ws=[.v (.bool (if neg then !(a == b) else a == b))]
  | _=>False
 | .un o=>match vs with
  | [.v a]=>∃x,IH o a=some x∧ws=[.v x]
  | _=>False
 | .ci k=>match vs with
  | [.v (.int _ n)]=>ws=[.v (.int k (k.wrap n))]
  | _=>False
 | .cs=>match vs with
  | [.v (.string b)]=>ws=[.v (.string b)]
  | _=>False
 | .sb=>match vs with
  | [.v (.string b)]=>b.data.toList.length≤maxLen∧ws=[.sl 1 (b.data.toList.map fQ)]
  | _=>False
 | .DV _=>match vs with
  | [.v (.string b),_]=>b.data.toList.length≤maxLen∧ws=[.sl 1 (b.data.toList.map fQ),.dead]
  | _=>False
 | .bs=>match vs with
  | [.sl s es]=>∃l:List UInt8,s=1∧es=l.map fQ∧ws=[.v (.string ⟨⟨l⟩⟩)]
  | _=>False
 | .len=>match vs with
  | [.sl _ es]=>ws=[.v (.int .i64 es.length)]
  | _=>False
 | .uO=>match vs with
  | [.v (.string b)]=>ws=[.v (.int .i64 b.data.toList.length)]
  | _=>False
 | .mn=>match vs with
  | [.v (.int k a),.v (.int _ b)]=>ws=[.v (.int k (B1 a b))]
  | _=>False
 | .mx=>match vs with
  | [.v (.int k a),.v (.int _ b)]=>ws=[.v (.int k (nJ a b))]
  | _=>False
 | .ix s=>match vs with
  | [.sl s' es,.v (.int _ i)]=>∃x,s=s'∧0≤i∧es[i.toNat]?=some x∧ws=[.ro x]
  | _=>False
 | .si=>match vs with
  | [.v (.string b),.v (.int _ i)]=>∃x,0≤i∧b.data.toList[i.toNat]?=some x∧ws=[fQ x]
  | _=>False
 | .ai n s agg=>match vs with
  | [.ag cs,.v (.int _ i)]=>∃x,0≤i∧i<n∧gS cs (i.toNat * s) s agg=some x∧ws=[x]
  | _=>False
 | .fe o n agg=>match vs with
  | [.ag cs]=>∃x,gS cs o n agg=some x∧ws=[x]
  | _=>False
 | .sc s true true=>match vs with
  | [.sl s' es,.v (.int _ l),.v (.int _ h)]=>s=s'∧0≤l∧l≤h∧h≤es.length∧ws=[.sl s ((es.take h.toNat).drop l.toNat)]
  | _=>False
 | .sc s true false=>match vs with
  | [.sl s' es,.v (.int _ l)]=>s=s'∧0≤l∧l≤es.length∧ws=[.sl s (es.drop l.toNat)]
  | _=>False
 | .sc s false true=>match vs with
  | [.sl s' es,.v (.int _ h)]=>s=s'∧0≤h∧h≤es.length∧ws=[.sl s (es.take h.toNat)]
  | _=>False
 | .sc s false false=>match vs with
  | [.sl s' es]=>s=s'∧ws=[.sl s es]
  | _=>False
 | .ss true true=>match vs with
  | [.v (.string b),.v (.int _ l),.v (.int _ h)]=>0≤l∧l≤h∧h≤b.data.toList.length∧ws=[.v (.string ⟨⟨(b.data.toList.take h.toNat).drop l.toNat⟩⟩)]
  | _=>False
 | .ss true false=>match vs with
  | [.v (.string b),.v (.int _ l)]=>0≤l∧l≤b.data.toList.length∧ws=[.v (.string ⟨⟨b.data.toList.drop l.toNat⟩⟩)]
  | _=>False
 | .ss false true=>match vs with
  | [.v (.string b),.v (.int _ h)]=>0≤h∧h≤b.data.toList.length∧ws=[.v (.string ⟨⟨b.data.toList.take h.toNat⟩⟩)]
  | _=>False
 | .ss false false=>match vs with
  | [.v (.string b)]=>ws=[.v (.string b)]
  | _=>False
 | .bl s n=>vs.length=n∧(∀x∈vs,x.plain=true∧x.cells.length=s)∧ws=[.sl s vs]
 | .blt s n _=>vs.length=n+1∧(∀x∈vs.take n,x.plain=true∧x.cells.length=s)∧ws=[.sl s (vs.take n),.dead]
 | .bd z pl=>∃cs,lV z pl vs=some cs∧ws=[.ag cs]
 | .al _ z ts=>ws = .pt :: .ag z :: ts.map fun _ => .dead
 | .bx _=>match vs with
  | [x,_]=>x.plain=true∧ws=[.pt,.ag x.cells]
  | _=>False
 | .ld _ o n agg=>match vs with
  | [.pt,.ag cs]=>∃x,gS cs o n agg=some x∧ws=[x]
  | _=>False
 | .st _ o n=>match vs with
  | [.pt,.ag cs,x]=>x.plain=true∧x.cells.length=n∧o+n≤cs.length∧ws=[.ag (gR cs o x.cells)]
  | _=>False
 | .lr n agg=>match vs with
  | [.ro x]=>x.pj=agg∧x.cells.length=n∧ws=[x]
  | _=>False
 | .fa _ _ _=>match vs with
  | [.pt]=>ws=[.pt]
  | _=>False
 | .fr o n agg=>match vs with
  | [.ro (.ag cs)]=>∃x,gS cs o n agg=some x∧ws=[.ro x]
  | _=>False
 | .nc _ _=>match vs with
  | [.pt]=>ws=[.pt]
  | _=>False
 | .FK=>match vs with
  | [.ro x]=>ws=[.ro x]
  | _=>False
 | .ex i=>match vs with
  | [.tu vs]=>∃x,vs[i]?=some x∧ws=[x]
  | _=>False
 | .ap _ _ s mZ=>match vs with
  | [.sl s' es,.sl o0 fs,_,_]=>s'=s∧o0=s∧(∀x∈fs,x.cells.length=s)∧es.length+fs.length≤maxLen∧(es.length+fs.length) * mZ≤140737488355328∧ws=[.sl s (es++fs),.dead,.dead]
  | _=>False
 | .zp _ _ mZ=>match vs with
  | [.sl s' es,.v (.string b),_,_]=>s'=1∧es.length+b.data.toList.length≤maxLen∧(es.length+b.data.toList.length) * mZ≤140737488355328∧ws=[.sl 1 (es++b.data.toList.map fQ),.dead,.dead]
  | _=>False
 | .an _ s mZ=>match vs with
  | [.sl o0 fs,_]=>o0=s∧(∀x∈fs,x.cells.length=s)∧fs.length≤maxLen∧fs.length * mZ≤140737488355328∧ws=[.sl s fs,.dead]
  | _=>False
 | .Gn _ mZ=>match vs with
  | [.v (.string b),_]=>b.data.toList.length≤maxLen∧b.data.toList.length * mZ≤140737488355328∧ws=[.sl 1 (b.data.toList.map fQ),.dead]
  | _=>False
 | .mk _ s mZ z=>match vs with
  | [.v (.int .i64 l),.v (.int .i64 c),_]=>z.plain=true∧z.cells.length=s∧0≤l∧l≤c∧c * mZ≤140737488355328∧c≤maxLen∧ws=[.sl s (List.replicate l.toNat z),.dead]
  | _=>False
 | .nl _ s=>match vs with
  | [_]=>ws=[.sl s [],.dead]
  | _=>False
 | .Fw _=>match vs with
  | [.v (.string b),_]=>b.data.toList.length≤maxLen∧ws=[.pt,.sl 1 (b.data.toList.map fQ)]
  | _=>False
 | .Fy _=>match vs with
  | [.pt,.sl _ es]=>ws=[.v (.int .i64 es.length)]
  | _=>False
 | .FA _ s=>match vs with
  | [.pt,.v (.int _ i),.sl s' es]=>s'=s∧0≤i∧i.toNat<es.length∧ws=[.el i.toNat s 0]
  | _=>False
 | .GQ _ o=>match vs with
  | [.el i s o']=>ws=[.el i s (o'+o)]
  | _=>False
 | .Fz _ s n agg=>match vs with
  | [.el i s' o,.sl o0 es]=>∃e x,s'=s∧o0=s∧es[i]?=some e∧pa e o n agg=some x∧ws=[x]
  | _=>False
 | .Fv _ s n=>match vs with
  | [.el i s' o,.sl o0 es,x]=>∃e e',s'=s∧o0=s∧es[i]?=some e∧x.plain=true∧x.cells.length=n∧sf e o x=some e'∧ws=[.sl s (es.set i e')]
  | _=>False
 | .FB _ s=>match vs with
  | [.pt,.sl s' es]=>s'=s∧ws=[.sl s es,.sl s es,.dead]
  | _=>False
 | .jK f n cS i _ s=>∃es outs,vs[n]?=some (.sl s es)∧vs[i]?=some .pt∧(E.fs f).G ((vs.take n).set i (.sl s es)) outs∧outs.length=cS∧ws=[if cS=1 then outs.headD .dead else .tu outs]
 | .mq f _ cS i s=>∃outs,vs[i]?=some (.sl s [])∧(E.fs f).G vs outs∧outs.length=cS∧ws=[if cS=1 then outs.headD .dead else .tu outs]
 | .AO _ _ s mZ=>match vs with
  | [.pt,.sl o0 fs,.sl s' es,_]=>s'=s∧o0=s∧es.length+fs.length≤maxLen∧(es.length+fs.length) * mZ≤140737488355328∧ws=[.pt,.sl s es,.sl s (es++fs)]
  | _=>False
 | .Fx _=>match vs with
  | [.pt,.sl _ []]=>ws=[.ab]
  | [.pt,.sl _ (_ :: _)]=>ws=[.v (.bool false)]
  | _=>False
 | .Fi _ _ _ s mZ=>match vs with
  | [.sl s' es,.pt,_,_,.sl o0 fs]=>s'=s∧o0=s∧es.length+fs.length≤maxLen∧(es.length+fs.length) * mZ≤140737488355328∧ws=[.sl s (es++fs),.dead,.dead]
  | _=>False
 | .la _ n s=>match vs with
  | [.pt,.v (.int _ i),.ag _]=>0≤i∧i<n∧ws=[.el i.toNat s 0]
  | _=>False
 | .ll _ s=>match vs with
  | [.el i s' o,.ag cs]=>∃x,s'=s∧gS cs (i * s+o) 1 false=some x∧ws=[x]
  | _=>False
 | .Ju=>match vs with
  | [.sl _ []]=>ws=[.ab]
  | [.sl _ (_ :: _)]=>ws=[.v (.bool false)]
  | _=>False
 | .Ir=>match vs with
  | [.v (.string b),.v (.int .u8 c)]=>ws=[.v (.int .i64 (Lib.indexByte b.data.toList c.toNat.toUInt8))]
  | _=>False
 | .FJ _=>False
 | .lj f n cS i _=>∃cs outs,vs[n]?=some (.ag cs)∧vs[i]?=some .pt∧(E.fs f).G ((vs.take n).set i (.ro (.ag cs))) outs∧outs.length=cS∧(∀x∈outs,∃y,x = .v y)∧ws=[if cS=1 then outs.headD .dead else .tu outs]
 | .yn _ ts=>match vs with
  | x :: _=>x.plain=true∧(∀t∈ts,x.cells[t.1]?=some .nil)∧ws = .pt :: .ag (kQ x.cells ts) :: ts.map fun _ => .dead
  | _=>False
 | .pF _ o n ts=>match vs with
  | .pt :: .ag cs :: x :: _=>x.plain=true∧x.cells.length=n∧o+n≤cs.length∧(∀t∈ts,(gR cs o x.cells)[t.1]?=some .nil)∧ws = .ag (kQ (gR cs o x.cells) ts) :: ts.map fun _ => .dead
  | _=>False
 | .call f c=>(match c.ref with | some (i,_)=>vs[i]?=some .pt | none=>True)∧∃outs,(E.fs f).G (c.ins vs) outs∧outs.length=c.cS+c.jE.length∧ws=c.main outs :: (outs.drop c.cS++c.lT.map fun _ => .dead)
end
def Gh.strip:Gh→Gh
 | .cl _ | .live _ | .used | .pv _ | .nC _ _ | .pc _ => .no
 | g=>g
def Gh.comp (i:Nat):Gh→Gh
 | .yy ts p=>match ts.find? (fun t=>t.1 == i) with
  | some (_,k,s) => .gb k s
  | none=>match p with
   | some (j,m)=>if j=i then .ptr m 0 else .no
   | none => .no
 | _ => .no
def fu (k : K) (gs : List Gh) : Option (List Gh) :=
  match k with
  | .mv => match gs with
    | [g] => some [g.strip]
    | _ => none
  | .ex i => match gs with
    | [g] => some [g.comp i]
    | _ => none
  | .DV k => match gs with
    | [_, .no] => some [.gb k 1, .live 1]
    | _ => none
  | .blt s n k => if gs.drop n = [.no] then some [.gb k s, .live s] else none
  | .al m _ ts => if gs.length = 1 + ts.length ∧ gs.all (· = .no) ∧ (ts.map (·.2.1)).Nodup then some (.ptr m 0 :: .cl ts :: ts.map fun t => .live t.2.2) else none
  | .bx m => match gs with
    | [_, .no] => some [.ptr m 0, .cl []]
    | _ => none
  | .lj _ n _ i m => match gs[n]? with
    | some (.cl _) => if gs[i]? = some (.ptr m 0) then some [.no] else none
    | _ => none
  | .FJ b => some (if b then [.no] else [])
  | .yn m ts => match gs with
    | _ :: rest => if rest.length = 1 + ts.length ∧ rest.all (· = .no) ∧ (ts.map (·.2.1)).Nodup then some (.ptr m 0 :: .cl ts :: ts.map fun t => .live t.2.2) else none
    | _ => none
  | .pF m o n ts => match gs with
    | .ptr m' o' :: .cl us :: _ :: rest => if m = m' ∧ o = o' ∧ rest.length = ts.length ∧ rest.all (· = .no) ∧ (ts.map (·.2.1)).Nodup then some (.cl (us.filter (fun t => t.1 < o || o + n ≤ t.1) ++ ts) :: ts.map fun t => .live t.2.2) else none
    | _ => none
  | .ld m o _ agg => match gs with
    | [.ptr m' o', .cl ts] => if m = m' ∧ o = o' then some [if agg then .no else match ts.find? (fun t => t.1 == o) with | some (_, k, s) => .gb k s | none => .no] else none
    | _ => none
  | .st m o n => match gs with
    | [.ptr m' o', .cl ts, g] => if m = m' ∧ o = o' then some [.cl (ts.filter (fun t => t.1 < o || o + n ≤ t.1) ++ match g with | .gb k s => if n = 1 then [(o, k, s)] else [] | _ => [])] else none
    | _ => none
  | .fa m o d => match gs with
    | [.ptr m' o'] => if m = m' ∧ o = o' then some [.ptr m (o + d)] else none
    | _ => none
  | .nc m o => match gs with
    | [.ptr m' o'] => if m = m' ∧ o = o' then some [.ptr m o] else none
    | _ => none
  | .ap k d s _ => match gs with
    | [.gb k' s', _, .live o0, .no] => if k = k' ∧ s = s' ∧ s = o0 ∧ k ≠ d then some [.gb d s, .used, .live s] else none
    | _ => none
  | .zp k d _ => match gs with
    | [.gb k' s', _, .live o0, .no] => if k = k' ∧ 1 = s' ∧ 1 = o0 ∧ k ≠ d then some [.gb d 1, .used, .live 1] else none
    | _ => none
  | .an d s _ => match gs with
    | [_, .no] => some [.gb d s, .live s]
    | _ => none
  | .Gn d _ => match gs with
    | [_, .no] => some [.gb d 1, .live 1]
    | _ => none
  | .mk d s _ _ => match gs with
    | [_, _, .no] => some [.gb d s, .live s]
    | _ => none
  | .nl d s => match gs with
    | [.no] => some [.gb d s, .live s]
    | _ => none
  | .Fw k => match gs with
    | [_, .no] => some [.gb k 1, .pv 1]
    | _ => none
  | .Fy k => match gs with
    | [.gb k' _, .pv _] => if k' = k then some [.no] else none
    | _ => none
  | .FA k s => match gs with
    | [.gb k' _, _, .pv s'] => if k' = k ∧ s' = s then some [.pe k] else none
    | _ => none
  | .GQ k _ => match gs with
    | [.pe k'] => if k' = k then some [.pe k] else none
    | _ => none
  | .Fz k s _ _ => match gs with
    | [.pe k', .pv s'] => if k' = k ∧ s' = s then some [.no] else none
    | _ => none
  | .Fv k s _ => match gs with
    | [.pe k', .pv s', _] => if k' = k ∧ s' = s then some [.pv s] else none
    | _ => none
  | .FB k s => match gs with
    | [.gb k' _, .pv s'] => if k' = k ∧ s' = s then some [.gb k s, .gb k s, .live s] else none
    | _ => none
  | .jK _ n _ i k s => if gs[i]? = some (.gb k s) ∧ (gs[n]? = some (.pv s) ∨ gs[n]? = some (.pc s)) then some [.no] else none
  | .AO k d s _ => match gs with
    | [.gb k' s', _, .pv o0, .no] => if k' = k ∧ s' = s ∧ o0 = s ∧ k ≠ d then some [.gb d s, .nC (lk d) s, .pc s] else none
    | _ => none
  | .Fx k => match gs with
    | [.gb k' _, .pv _] => if k' = k then some [.no] else none
    | _ => none
  | .Fi k d q s _ => match gs with
    | [.gb k' s', .gb q' s1, .live o0, .no, .pv s2] => if k = k' ∧ s = s' ∧ s = o0 ∧ k ≠ d ∧ q' = q ∧ s1 = s ∧ s2 = s then some [.gb d s, .used, .live s] else none
    | _ => none
  | .la m _ s => match gs with
    | [.ptr m' o, _, .cl _] => if m' = m ∧ o = 0 ∧ 0 < s then some [.pm m] else none
    | _ => none
  | .ll m _ => match gs with
    | [.pm m', .cl ts] => if m' = m ∧ ts = [] then some [.no] else none
    | _ => none
  | .call _ c =>
    let rest := gs.drop c.n
    let nm := rest.take (c.new.map (·.2)).toList.length
    let rm := (rest.drop nm.length).take (c.ref.map (·.2)).toList.length
    let ls := rest.drop (nm.length + rm.length)
    if nm.all (· = .no) ∧
       (match c.ref, rm with
        | some (i, m), [.cl ts] => decide (gs[i]? = some (.ptr m 0) ∧ i < c.n ∧ ∀ t ∈ c.kD, t ∈ ts)
        | none, [] => true
        | _, _ => false) = true ∧
       ls = c.kD.map (fun t => Gh.live t.2.2) ++ (c.iu ++ c.own ++ c.fx).map fun _ => Gh.no
    then some (c.dg :: (c.new.toList.map (fun _ => .cl c.fx) ++ c.ref.toList.map (fun _ => .cl c.iu) ++ c.kD.map (fun _ => .used) ++ (c.iu ++ c.own ++ c.fx).map fun t => .live t.2.2)) else none
  | _ => some [.no]
end Go.Eng
namespace Go.Eng
open Go.RowKit
structure kV where
 R:Reach
 β:Nat→Nat
 τ:Nat→Value
def jR (D:kV):Gh→Value→Prop
 | .ptr m o,x=>x = .pointer (some ⟨D.β m,o,none⟩)
 | .gb k _,x=>x=D.τ (lk k)∧x.oneCell'=true
 | .pe k,x=>∃g n cap o,D.τ (lk k) = .slice (some ⟨g,0,none⟩) n cap∧x = .pointer (some ⟨g,o,none⟩)
 | .pm m,x=>∃o,x = .pointer (some ⟨D.β m,o,none⟩)
 | .yy ts p,x=>∃ys:List Value,x = .tuple ⟨ys⟩∧(∀t∈ts,ys[t.1]?=some (D.τ (lk t.2.1))∧(D.τ (lk t.2.1)).oneCell'=true)∧(∀q,p=some q→ys[q.1]?=some (.pointer (some ⟨D.β q.2,0,none⟩)))
 | _,_=>True
abbrev AV.sk:AV := .tu []
def lB (D:kV) (w:World) (s:AV) (g:Gh) (x:Value):Prop:=s = .dead∨(Rep D.R w s x∧(s ≠ .sk→jR D g x))
def gG (R:Reach) (w:World) (x:Value) (s:Nat):Prop :=
 x = .slice none 0 0∨∃g n cap cur e fz,x = .slice (some ⟨g,0,none⟩) n cap∧w.heap[g]?=some (.cells cur e fz)∧(∀o,o<cur.size→¬(fz.1≤o∧o<fz.2))∧cur.size=cap * s∧n≤cap∧cap≤maxLen∧∀o,n * s≤o→¬R g o
def hZ (R:Reach) (w:World) (v:Value) (s:Nat) (x:AV):Prop :=
 (∀g,v.ownBlock=some g→∀o,¬R g o)∧(x = .dead∨∃es,x = .sl s es∧(∀e∈es,e.cells.length=s) ∧
  ((es=[]∧v = .slice none 0 0)∨∃g cap cur e fz,v = .slice (some ⟨g,0,none⟩) es.length cap∧w.heap[g]?=some (.cells cur e fz)∧eL R w (es.flatMap AV.cells) (cur.toList.take (es.length * s))))
def jy (R:Reach) (w:World) (x:AV) (b:Nat) (cs:List Value):Prop :=
 ∃elem,w.heap[b]?=some (.cells ⟨cs⟩ elem (0,0))∧(x = .dead∨∃AG,x = .ag AG∧eL R w AG (cs.take AG.length))∧∀o,¬R b o
structure Ext (w0:World) (R0:Reach) (io:Nat→Prop) (w:World) (R:Reach):Prop where
 os:w.os=w0.os
 tape:w.tape=w0.tape
 output:w.output=w0.output
 size:w0.heap.size≤w.heap.size
 heap:∀b,b<w0.heap.size→¬io b→w.heap[b]?=w0.heap[b]?
 cd:gF R0 w0 R w
 qn:∀b o,R b o→R0 b o∨w0.heap.size≤b∨io b
def gC (D:kV) (γ:Ga) (key:Nat):Option Nat :=
 match γ key with
 | .cl _=>some (D.β key)
 | .live _=>(D.τ key).ownBlock
 | .pv _=>(D.τ key).ownBlock
 | .nC _ _=>(D.τ key).ownBlock
 | .pc _=>(D.τ key).ownBlock
 | _=>none
structure Ctx where
 P:Program
 E:Env
 nt:Nat
 w0:World
 R0:Reach
 io:Nat→Prop
 fix:Option Nat
 OM:Option Value
def Ctx.lR (C:Ctx) (b:Nat):Prop:=C.io b∨C.w0.heap.size≤b
def Gh.gy:Gh→Bool | .cl _=>true | _=>false
def Gh.fL:Gh→Bool | .live _=>true | .used=>true | .pv _=>true | .nC _ _=>true | .pc _=>true | _=>false
def gn (γ:Ga):Gh→Prop
 | .ptr m _=>(γ m).gy=true
 | .gb k _=>(γ (lk k)).fL=true
 | .cl ts=>∀t∈ts,(γ (lk t.2.1)).fL=true
 | .pe k=>(γ (lk k)).fL=true
 | .pm m=>(γ m).gy=true
 | .nC d _=>γ d = .used∨∃s,γ d = .pc s
 | .yy ts p=>(∀t∈ts,(γ (lk t.2.1)).fL=true)∧∀q,p=some q→(γ q.2).gy=true
 | _=>True
def Gh.sB:Gh→Bool | .pv _=>true | .nC _ _=>true | .pc _=>true | _=>false
def Gh.par:Gh→Option Nat | .nC d _=>some d | _=>none
def Gh.By:Gh→Option Nat | .pv s=>some s | .nC _ s=>some s | .pc s=>some s | _=>none
def sX (σ:Sg) (γ:Ga) (key:Nat):Prop:=∀d s s',γ key = .nC d s→γ d = .pc s'→σ key = .dead∨σ d = .dead∨∃es more,σ key = .sl s es∧σ d = .sl s (es++more)
def yw (D:kV) (σ:Sg) (γ:Ga) (w:World):Prop :=
 ∀key s,(γ key).By=some s→gG D.R w (D.τ key) s∧hZ D.R w (D.τ key) s (σ key)∧sX σ γ key
def sY (C:Ctx) (D:kV) (γ:Ga):Prop:=(∀b,C.fix=some b→D.β 999999=b)∧∀v,C.OM=some v→(γ (lk 999999)).sB=true∧D.τ (lk 999999)=v
theorem sY.of {C:Ctx} {D D':kV} {γ nu:Ga} (h:sY C D γ) (z6:D'.β 999999=D.β 999999) (hp:(γ (lk 999999)).sB=true→(nu (lk 999999)).sB=true∧D'.τ (lk 999999)=D.τ (lk 999999)):sY C D' nu :=
 ⟨fun b hb=>z6.trans (h.1 b hb),fun v hv=>by
  obtain ⟨h1,h2⟩:=h.2 v hv
  obtain ⟨h3,h4⟩:=hp h1
  exact ⟨h3,h4.trans h2⟩⟩
theorem sY.dJ {C:Ctx} {D D':kV} {γ:Ga} {k:Nat} {g:Gh} (h:sY C D γ) (hk:(γ k).sB=false) (z6:D'.β 999999=D.β 999999) (pO:D'.τ (lk 999999)=D.τ (lk 999999)):sY C D' (Eng.dJ γ k g) :=
 h.of z6 fun hp=>by
  have:lk 999999≠k:=fun e=>by rw [e,hk] at hp;cases hp
  unfold Eng.dJ
  rw [ah this]
  exact ⟨hp,pO⟩
structure dU (C:Ctx) (D:kV) (σ:Sg) (γ:Ga) (a:Act) (w:World):Prop where
 size:a.tmps.size=C.nt
 defers:a.defers=[]
 kj:C.nt≤1000000
 nr:∀m,(γ m).gy=true→C.nt≤m∧m<1000000
 lS:∀m,(γ m).fL=true→1000000≤m
 slot:∀t,t<C.nt→lB D w (σ t) (γ t) (a.tmps.getD t undef)
 mem:∀m ts,γ m = .cl ts→∃cs,jy D.R w (σ m) (D.β m) cs∧∀t∈ts,cs[t.1]?=some (D.τ (lk t.2.1))
 gb:∀key s,γ key = .live s→gG D.R w (D.τ key) s
 ps:yw D σ γ w
 sep:∀key iz g,gC D γ key=some g→gC D γ iz=some g→key=iz∨(γ key).par=some iz∨(γ iz).par=some key
 own:∀key g,gC D γ key=some g→C.lR g
 inv:∀key,gn γ (γ key)
 ext:Ext C.w0 C.R0 C.io w D.R
 ns:∀b o,D.R b o→b<w.heap.size
 gl:∀n,Rep D.R w (C.E.gl n) (.pointer (some ⟨n,0,none⟩))
 fix:sY C D γ
def jG (g:dq) (R:Reach) (w:World) (ins:List AV) (xs:List Value):Prop :=
 match g.ref with
 | none=>gP R w ins xs
 | some i=>∃(b:Nat) (cs:List Value) (x:AV) (tv:List Value),xs[i]?=some (.pointer (some ⟨b,0,none⟩))∧ins[i]?=some x∧jy R w x b cs∧gP R w (ins.set i .pt) xs ∧
   tv.length=g.fA.length∧(∀(p:Nat) (t:Nat × Nat) (v:Value),g.fA[p]?=some t→tv[p]?=some v→cs[t.1]?=some v∧gG R w v t.2) ∧
   (∀(p q h:Nat),(some b :: tv.map Value.ownBlock)[p]?=some (some h)→(some b :: tv.map Value.ownBlock)[q]?=some (some h)→p=q)
def ot (g:dq) (w:World) (xs:List Value) (c:Nat):Prop :=
 match g.ref with
 | none=>False
 | some i=>∃(b:Nat) (cs:List Value) (elem:TypeId),xs[i]?=some (.pointer (some ⟨b,0,none⟩))∧w.heap[b]?=some (.cells ⟨cs⟩ elem (0,0))∧(c=b∨∃t∈g.fA,∃v,cs[t.1]?=some v∧v.ownBlock=some c)
def lP (g:dq) (bn br:Nat) (tv:List Value):List (Option Nat) :=
 (if g.new.isSome then [some bn] else [])++(if g.ref.isSome then [some br] else [])++tv.map Value.ownBlock
def zw (g:dq) (R:Reach) (w:World) (lR:Nat→Prop) (xs:List Value) (outs:List AV) (x:Value):Prop :=
 ∃(ki tr gW tn:List Value) (bn br:Nat) (cn cr:List Value),
  ki.length=g.cS∧x=(if g.cS=1 then ki.headD undef else .tuple ⟨ki⟩) ∧
  outs.length=g.cS+(if g.new.isSome then 1 else 0)+(if g.ref.isSome then 1 else 0) ∧
  gP R w ((outs.take g.cS).mapIdx fun i y=>if g.new=some i then .pt else y) ki ∧
  (∀j,g.new=some j→ki[j]?=some (.pointer (some ⟨bn,0,none⟩))∧jy R w (outs.getD g.cS .dead) bn cn) ∧
  (∀i,g.ref=some i→xs[i]?=some (.pointer (some ⟨br,0,none⟩))∧jy R w (outs.getD (g.cS+(if g.new.isSome then 1 else 0)) .dead) br cr) ∧
  tr.length=g.fA.length∧gW.length=g.own.length∧tn.length=g.fx.length ∧
  (∀(p:Nat) (t:Nat × Nat) (v:Value),g.fA[p]?=some t→tr[p]?=some v→cr[t.1]?=some v) ∧
  (∀(p:Nat) (t:Nat × Nat) (v:Value),g.own[p]?=some t→gW[p]?=some v→ki[t.1]?=some v) ∧
  (∀(p:Nat) (t:Nat × Nat) (v:Value),g.fx[p]?=some t→tn[p]?=some v→cn[t.1]?=some v) ∧
  (∀(p:Nat) (t:Nat × Nat) (v:Value),(g.fA++g.own++g.fx)[p]?=some t→(tr++gW++tn)[p]?=some v→gG R w v t.2) ∧
  (∀(p q h:Nat),(lP g bn br (tr++gW++tn))[p]?=some (some h)→(lP g bn br (tr++gW++tn))[q]?=some (some h)→p=q) ∧
  (∀h,some h∈lP g bn br (tr++gW++tn)→lR h)
def Li (P:Program) (gl:Nat→AV) (f:Nat) (S:FS):Prop :=
 ∀(w:World) (R:Reach) (ins outs:List AV) (xs:List Value),S.G ins outs→(∀b o,R b o→b<w.heap.size) →
  (∀n,Rep R w (gl n) (.pointer (some ⟨n,0,none⟩)))→jG S.sg R w ins xs →
  Calls P f ⟨xs⟩ w fun e w'=>∃x R',e = .returned x∧Ext w R (ot S.sg w xs) w' R'∧(∀b o,R' b o→b<w'.heap.size) ∧
   zw S.sg R' w' (fun b=>ot S.sg w xs b∨w.heap.size≤b) xs outs x
def Lh (P:Program) (gl:Nat→AV) (f:Nat) (S:FS) (i s:Nat):Prop :=
 ∀(w:World) (R:Reach) (ins outs:List AV) (xs:List Value) (v:Value) (es:List AV),S.G ins outs→(∀b o,R b o→b<w.heap.size) →
  (∀n,Rep R w (gl n) (.pointer (some ⟨n,0,none⟩)))→xs[i]?=some v→ins[i]?=some (.sl s es)→gG R w v s→hZ R w v s (.sl s es)→gP R w (ins.set i .pt) xs →
  Calls P f ⟨xs⟩ w fun e w'=>∃x R' ki,e = .returned x∧Ext w R (fun c=>v.ownBlock=some c) w' R'∧(∀b o,R' b o→b<w'.heap.size) ∧
   ki.length=S.sg.cS∧x=(if S.sg.cS=1 then ki.headD undef else .tuple ⟨ki⟩)∧gP R' w' outs ki∧gG R' w' v s∧hZ R' w' v s (.sl s es)
def fH (P:Program) (gl:Nat→AV) (f:Nat) (S:FS):Prop :=
 (S.sg.ps=none→Li P gl f S)∧∀i s,S.sg.ps=some (i,s)→Lh P gl f S i s
inductive MX where
 | normal
 | exit (id:Nat)
 | ret
def lU (σ:Sg):Option (Nat × Bool)→Option Bool
 | none=>some true
 | some (t,b)=>match σ t with
  | .v (.bool x)=>some (x == b)
  | .tu []=>some false
  | _=>none
def Fs (E:Env) (m:ov) (σ eO:Sg):Prop :=
 ∃ws,(match lU σ m.gd with
  | some true=>gf E m.k (m.rs.map (eB.ev E σ)) ws
  | some false=>ws=m.ds.map fun _ => .sk
  | none=>False)∧ws.length=m.ds.length∧eO=cQ σ m.ds ws
def Bq (E:Env):List ov→Sg→Sg→Prop
 | [],σ,eO=>eO=σ
 | m :: ms,σ,eO=>∃xx,Fs E m σ xx∧Bq E ms xx eO
def head (cd:List Nat) (jT:List AV):Sg:=cQ (fun _ => .dead) cd jT
def Fm (σ:Sg):List Nat→List AV→Prop
 | [],[]=>True
 | k :: ks,v :: vs=>σ k=v∧Fm σ ks vs
 | _,_=>False
def Le (eO σ:Sg):Prop:=∀k,eO k=σ k∨eO k = .dead
def oo (E:Env):M→(MX→Sg→Prop)→Sg→Prop
 | .skip,Q,σ=>Q .normal σ
 | .fK ms,Q,σ=>∃eO,Bq E ms σ eO∧Q .normal eO
 | .seq a b,Q,σ=>oo E a (fun e eO=>match e with | .normal=>∃DB,Le DB eO∧oo E b Q DB | e=>Q e eO) σ
 | .cond x _ a b,Q,σ=>(∃t,x.ev E σ = .v (.bool t)∧(t=true→oo E a Q σ)∧(t=false→oo E b Q σ))∨(x.ev E σ = .ab∧oo E a Q σ∧oo E b Q σ)
 | .block id _ b,Q,σ=>oo E b (fun e eO=>match e with | .exit j=>if j=id then Q .normal eO else Q (.exit j) eO | e=>Q e eO) σ
 | .loop cd _ b,Q,σ=>∃(ι:Type) (jT:ι→List AV) (μ:ι→Nat) (i0:ι),Fm σ cd (jT i0) ∧
   ∀i,oo E b (fun e eO=>match e with | .normal=>∃j,μ j<μ i∧Fm eO cd (jT j) | e=>Q e eO) (head cd (jT i))
 | .exit id,Q,σ=>Q (.exit id) σ
 | .ret,Q,σ=>Q .ret σ
 | .Bp b,Q,σ=>oo E b Q σ
 | .Bo b,Q,σ=>oo E b Q σ
 | .AP l cd _ r b,Q,σ=>∃(ι:Type) (jT:ι→List AV) (μ:ι→Nat),
   oo E b (fun e eO=>match e with | .exit j=>if j=gid l then ∃i,Fm eO cd (jT i) else Q (.exit j) eO | e=>Q e eO) σ ∧
   ∀i,oo E r (fun e eO=>match e with | .exit j=>if j=gid l then ∃k,μ k<μ i∧Fm eO cd (jT k) else Q (.exit j) eO | e=>Q e eO) (head cd (jT i))
abbrev GL:=List (Nat × Gh)
def GL.get (G:GL) (k:Nat):Gh:=match G with
 | [] => .no
 | (j,g) :: r=>if k=j then g else GL.get r k
def GL.cQ:GL→List Nat→List Gh→GL
 | G,t :: ts,x :: xs=>(t,x) :: GL.cQ G ts xs
 | G,_,_=>G
def yE:Value→Value→Bool
 | .bool a,.bool b=>a == b
 | .int j a,.int k b=>j == k&&a == b
 | .float j a,.float k b=>j == k&&a == b
 | .string a,.string b=>a.data.toList == b.data.toList
 | .func (.func f) a b,.func (.func g) c d=>f == g&&a.isEmpty&&b.isEmpty&&c.isEmpty&&d.isEmpty
 | .nilFunc,.nilFunc=>true
 | .nilIface,.nilIface=>true
 | .pointer none,.pointer none=>true
 | _,_=>false
def jn (x:Value) (y:AV):Bool :=
 match x,y with
 | .slice none 0 0,.sl _ []=>true
 | .slice none 0 0,.v (.slice none 0 0)=>true
 | .slice none 0 0,_=>false
 | x,.v z=>yE x z
 | _,_=>false
def gA:List Value→List AV→Bool
 | [],[]=>true
 | x :: xs,y :: ys=>jn x y&&gA xs ys
 | _,_=>false
def vk:Value→AV→Bool
 | .agg cs,.ag ys=>gA cs.toList ys
 | .agg _,_=>false
 | x,y=>jn x y
def dh:Operand→eB→Bool
 | .tmp t,.s u=>t == u
 | .const v,.c x=>vk v x
 | .func f,.c (.v (.func (.func g) a b))=>f == g&&a.isEmpty&&b.isEmpty
 | .global g,.g n=>g == n
 | _,_=>false
def dk:List Operand→List eB→Bool
 | [],[]=>true
 | x :: xs,y :: ys=>dh x y&&dk xs ys
 | _,_=>false
section
variable (P:Program)
def kO (t:TypeId):Option Bool:=(P.underlying t).map fun d=>match d with | .struct _=>true | .array _ _=>true | _=>false
def iW (t:TypeId):Option Nat:=(P.info? t).map (·.size)
def kL (t:TypeId):Option TypeId:=(P.underlying t).bind fun d=>match d with | .slice e=>some e | _=>none
def lX (t:TypeId) (f:Nat):Option Field:=(P.underlying t).bind fun d=>match d with | .struct fs=>fs[f]? | _=>none
def jX (t:TypeId) (n:Nat) (agg:Bool):Bool:=iW P t == some n&&kO P t == some agg&&(agg || n == 1)
def oQ (t:TypeId) (z:List AV):Bool:=((P.info? t).bind (·.zero)).any fun v=>gA v.cells.toList z
def uU (t:TypeId) (k:IntKind):Bool:=match P.underlying t with | some (.int j)=>j == k | _=>false
def uX (t:TypeId):Bool:=match P.underlying t with | some .bool=>true | _=>false
def j6 (t:TypeId):Bool:=match P.underlying t with | some .string=>true | _=>false
def jW (t:TypeId) (s b:Nat):Bool:=(kL P t).any fun e=>(P.info? e).any (fun i=>i.size == s&&i.bytes == b&&i.zero.any fun z=>z.cells.size == s)&&decide (0<s)
def nE (t:TypeId) (s:Nat):Bool:=(kL P t).any fun e=>iW P e == some s&&decide (0<s)
def mc (t:TypeId) (s:Nat):Bool:=(kL P t).any fun e=>(P.info? e).any (fun i=>i.size == s&&i.zero.isSome)&&decide (0<s)
def j7 (t:TypeId):Bool:=(kL P t).any fun e=>uU P e .u8
def rb (t:TypeId):Bool:=match P.underlying t with
 | some (.struct fs)=>fs.toList.all fun f=>(iW P f.type).isSome
 | some (.array _ e)=>(iW P e).isSome
 | _=>false
def sh (t:TypeId) (pl:List (Nat × Nat)) (parts:List (Nat × Operand)):Bool :=
 rb P t&&pl.length == parts.length&&(pl.zip parts).all fun (q,p) =>
  match P.underlying t with
  | some (.struct fs)=>(fs[p.1]?).any fun f=>f.offset == q.1&&iW P f.type == some q.2
  | some (.array _ e)=>iW P e == some q.2&&p.1 * q.2 == q.1
  | _=>false
def jB (f:Nat):Bool:=(P.funcs[f]?).any fun fn=>fn.body.isSome&&!(fn.name == "runtime.NumGoroutine")
def mS:String:=((Extern.BytealgIndexByte.rows[1]?).map Prod.fst).getD ""
def sM (f:Nat) (nm:String):Bool:=(P.funcs[f]?).any fun fn=>fn.name == nm&&fn.body.isNone&&(fn.origin == "" || fn.origin == nm)
def gq (sg:Nat→dq) (o:Oper) (m:ov):Bool :=
 match m.k with
 | .mv=>match o.op,m.rs with
  | .move x,rs=>dk [x] rs
  | .assign x,rs=>dk [x] rs
  | _,_=>false
 | .nl _ _=>match o.op,m.rs with
  | .move (.const (.slice none 0 0)),[_]=>true
  | .assign (.const (.slice none 0 0)),[_]=>true
  | _,_=>false
 | .pick=>match o.op,m.rs with
  | .pick c a b,rs=>dk [c,a,b] rs
  | _,_=>false
 | .bin b=>match o.op,m.rs with
  | .binOp b' _ x y _,rs=>b == b'&&dk [x,y] rs
  | _,_=>false
 | .be neg=>match o.op,m.rs with
  | .binOp o' t x y _,rs=>uX P t&&o' == (if neg then .neq else .eql)&&dk [x,y] rs
  | _,_=>false
 | .un b=>match o.op,m.rs with
  | .unOp b' _ x,rs=>b == b'&&dk [x] rs
  | _,_=>false
 | .ci k=>match o.op,m.rs with
  | .convert s d x,rs=>uU P d k&&(P.underlying s).isSome&&dk [x] rs
  | _,_=>false
 | .cs=>match o.op,m.rs with
  | .convert s d x,rs=>j6 P s&&j6 P d&&dk [x] rs
  | _,_=>false
 | .sb=>match o.op,m.rs with
  | .convert s d x,rs=>j6 P s&&j7 P d&&dk [x] rs
  | _,_=>false
 | .DV _=>match o.op,m.rs with
  | .convert s d x,r :: _=>j6 P s&&j7 P d&&dh x r
  | _,_=>false
 | .bs=>match o.op,m.rs with
  | .convert s d x,rs=>j7 P s&&j6 P d&&dk [x] rs
  | _,_=>false
 | .len=>match o.op,m.rs with
  | .call { callee := .builtin .len,args,argTypes },rs=>argTypes.toList.length == 1&&argTypes.toList.all (fun t=>(kL P t).isSome)&&args.toList.length == 1&&dk args.toList rs
  | _,_=>false
 | .uO=>match o.op,m.rs with
  | .call { callee := .builtin .len,args,argTypes },rs=>argTypes.toList.length == 1&&argTypes.toList.all (fun t=>j6 P t)&&args.toList.length == 1&&dk args.toList rs
  | _,_=>false
 | .mn=>match o.op,m.rs with
  | .call { callee := .builtin .min,args,.. },rs=>args.toList.length == 2&&dk args.toList rs
  | _,_=>false
 | .mx=>match o.op,m.rs with
  | .call { callee := .builtin .max,args,.. },rs=>args.toList.length == 2&&dk args.toList rs
  | _,_=>false
 | .ix s=>match o.op,m.rs with
  | .indexAddr t x i,rs=>nE P t s&&dk [x,i] rs
  | _,_=>false
 | .si=>match o.op,m.rs with
  | .index t x i,rs=>j6 P t&&dk [x,i] rs
  | _,_=>false
 | .ai n s agg=>match o.op,m.rs with
  | .index t x i,rs=>(match P.underlying t with | some (.array n' e)=>n == n'&&jX P e s agg | _=>false)&&dk [x,i] rs
  | _,_=>false
 | .fe o' n agg=>match o.op,m.rs with
  | .field t x f,rs=>(lX P t f).any (fun fl=>fl.offset == o'&&jX P fl.type n agg)&&dk [x] rs
  | _,_=>false
 | .sc s lo hi=>match o.op,m.rs with
  | .slice t x l h none,rs=>nE P t s&&l.isSome == lo&&h.isSome == hi&&dk (x :: (l.toList++h.toList)) rs
  | _,_=>false
 | .ss lo hi=>match o.op,m.rs with
  | .slice t x l h none,rs=>j6 P t&&l.isSome == lo&&h.isSome == hi&&dk (x :: (l.toList++h.toList)) rs
  | _,_=>false
 | .bl s n=>match o.op,m.rs with
  | .buildSlice t len parts,rs=>mc P t s&&len == n&&decide (n * s≤2 ^ 24)&&parts.toList.map (·.1) == List.range n&&dk (parts.toList.map (·.2)) rs
  | _,_=>false
 | .blt s n _=>match o.op,m.rs with
  | .buildSlice t len parts,rs=>mc P t s&&len == n&&decide (n * s≤2 ^ 24)&&parts.toList.map (·.1) == List.range n&&dk (parts.toList.map (·.2)) (rs.take n)&&rs.length == n+1
  | _,_=>false
 | .bd z pl=>match o.op,m.rs with
  | .build t parts,rs=>oQ P t z&&sh P t pl parts.toList&&dk (parts.toList.map (·.2)) rs
  | _,_=>false
 | .al _ z ts=>match o.op,m.rs with
  | .alloc t,_=>oQ P t z&&ts.all fun q=>match z[q.1]? with | some (.sl _ [])=>true | _=>false
  | _,_=>false
 | .bx _=>match o.op,m.rs with
  | .box _ x,r :: _=>dh x r
  | _,_=>false
 | .ld _ _ n agg=>match o.op,m.rs with
  | .load t x,r :: _=>jX P t n agg&&dh x r
  | _,_=>false
 | .st _ _ n=>match o.op,m.rs with
  | .store t x v,[p,_,r]=>iW P t == some n&&dh x p&&dh v r
  | _,_=>false
 | .lr n agg=>match o.op,m.rs with
  | .load t x,[r]=>jX P t n agg&&dh x r
  | _,_=>false
 | .fa _ _ d=>match o.op,m.rs with
  | .fieldAddr t x f,[r]=>(lX P t f).any (fun fl=>fl.offset == d&&(iW P fl.type).any (fun n=>decide (0<n)))&&dh x r
  | _,_=>false
 | .fr d n agg=>match o.op,m.rs with
  | .fieldAddr t x f,[r]=>(lX P t f).any (fun fl=>fl.offset == d&&jX P fl.type n agg&&decide (0<n))&&dh x r
  | _,_=>false
 | .nc _ _=>match o.op,m.rs with
  | .nilCheck x,[r]=>dh x r
  | _,_=>false
 | .FK=>match o.op,m.rs with
  | .nilCheck x,[r]=>dh x r
  | _,_=>false
 | .ex i=>match o.op,m.rs with
  | .extract x j,[r]=>i == j&&dh x r
  | _,_=>false
 | .ap _ _ s b=>match o.op,m.rs with
  | .call { callee := .builtin .append,args,argTypes },[r,q,_,_]=>dk args.toList [r,q]&&argTypes.toList.length == 2&&argTypes.toList.all (fun t=>jW P t s b)
  | _,_=>false
 | .zp _ _ b=>match o.op,m.rs with
  | .call { callee := .builtin .append,args,argTypes },[r,q,_,_]=>dk args.toList [r,q]&&(match argTypes.toList with | [t,u]=>jW P t 1 b&&j7 P t&&j6 P u | _=>false)
  | _,_=>false
 | .an _ s b=>match o.op,m.rs with
  | .call { callee := .builtin .append,args,argTypes },[q,_]=>(match args.toList with | [.const (.slice none 0 0),x]=>dh x q | _=>false)&&argTypes.toList.length == 2&&argTypes.toList.all (fun t=>jW P t s b)
  | _,_=>false
 | .Gn _ b=>match o.op,m.rs with
  | .call { callee := .builtin .append,args,argTypes },[q,_]=>(match args.toList with | [.const (.slice none 0 0),x]=>dh x q | _=>false)&&(match argTypes.toList with | [t,u]=>jW P t 1 b&&j7 P t&&j6 P u | _=>false)
  | _,_=>false
 | .mk _ s b z=>match o.op,m.rs with
  | .makeSlice t l c,[r,q,_]=>jW P t s b&&dk [l,c] [r,q]&&(kL P t).any (fun e=>oQ P e z.cells&&kO P e == some z.pj)
  | _,_=>false
 | .Fw _=>match o.op,m.rs with
  | .convert s d x,r :: _=>j6 P s&&j7 P d&&dh x r
  | _,_=>false
 | .Fy _=>match o.op,m.rs with
  | .call { callee := .builtin .len,args,argTypes },r :: _=>argTypes.toList.length == 1&&argTypes.toList.all (fun t=>(kL P t).isSome)&&dk args.toList [r]
  | _,_=>false
 | .FA _ s=>match o.op,m.rs with
  | .indexAddr t x i,[r,q,_]=>nE P t s&&dk [x,i] [r,q]
  | _,_=>false
 | .GQ _ d=>match o.op,m.rs with
  | .fieldAddr t x f,[r]=>(lX P t f).any (fun fl=>fl.offset == d&&(iW P fl.type).any (fun n=>decide (0<n)))&&dh x r
  | _,_=>false
 | .Fz _ _ n agg=>match o.op,m.rs with
  | .load t x,r :: _=>jX P t n agg&&dh x r
  | _,_=>false
 | .Fv _ _ n=>match o.op,m.rs with
  | .store t x v,[p,_,r]=>iW P t == some n&&dh x p&&dh v r
  | _,_=>false
 | .FB _ _=>match o.op,m.rs with
  | .move x,[r,_]=>dh x r
  | .assign x,[r,_]=>dh x r
  | _,_=>false
 | .jK f n cS i _ s=>match o.op,m.rs with
  | .call { callee := .value (.func g),args,.. },rs=>f == g&&jB P f&&decide ((sg f).ps=some (i,s)∧(sg f).cS=cS)&&dk args.toList (rs.take n)&&args.size == n&&decide (i<n)
  | _,_=>false
 | .mq f n cS i s=>match o.op,m.rs with
  | .call { callee := .value (.func g),args,.. },rs=>f == g&&jB P f&&decide ((sg f).ps=some (i,s)∧(sg f).cS=cS)&&dk args.toList rs&&args.size == n &&
    (match args.toList[i]? with | some (.const (.slice none 0 0))=>true | _=>false)
  | _,_=>false
 | .AO _ _ s b=>match o.op,m.rs with
  | .call { callee := .builtin .append,args,argTypes },[r,q,_,_]=>dk args.toList [r,q]&&argTypes.toList.length == 2&&argTypes.toList.all (fun t=>jW P t s b)
  | _,_=>false
 | .Fx _=>match o.op,m.rs with
  | .binOp .eql t x (.const (.slice none 0 0)) _,[r,_]=>dh x r&&(kL P t).isSome
  | _,_=>false
 | .Fi _ _ _ s b=>match o.op,m.rs with
  | .call { callee := .builtin .append,args,argTypes },[r,q,_,_,_]=>dk args.toList [r,q]&&argTypes.toList.length == 2&&argTypes.toList.all (fun t=>jW P t s b)
  | _,_=>false
 | .la _ n s=>match o.op,m.rs with
  | .indexAddr t x i,[r,q,_]=>(match P.underlying t with | some (.array n' e)=>n' == n&&iW P e == some s | _=>false)&&dk [x,i] [r,q]
  | _,_=>false
 | .ll _ _=>match o.op,m.rs with
  | .load t x,r :: _=>jX P t 1 false&&dh x r
  | _,_=>false
 | .FJ _=>true
 | .lj f n cS i _=>match o.op,m.rs with
  | .call { callee := .value (.func g),args,.. },rs=>f == g&&jB P f&&decide ((sg f).plain=true∧(sg f).cS=cS)&&dk args.toList (rs.take n)&&args.size == n&&decide (i<n)
  | _,_=>false
 | .yn _ _=>match o.op,m.rs with
  | .box _ x,r :: _=>dh x r
  | _,_=>false
 | .pF _ o' n ts=>match o.op,m.rs with
  | .store t x v,r :: _ :: q :: _=>iW P t == some n&&dh x r&&dh v q&&ts.all fun t=>decide (o'≤t.1∧t.1<o'+n)
  | _,_=>false
 | .Ju=>match o.op,m.rs with
  | .binOp .eql t x (.const (.slice none 0 0)) _,[r]=>dh x r&&(kL P t).isSome
  | _,_=>false
 | .Ir=>match o.op,m.rs with
  | .call { callee := .value (.func g),args,.. },rs=>sM P g mS&&dk args.toList rs&&args.size == 2
  | _,_=>false
 | .call f c=>match o.op,m.rs with
  | .call { callee := .value (.func g),args,.. },rs=>f == g&&jB P f&&c.fits (sg f)&&dk args.toList (rs.take c.n)&&args.size == c.n
  | _,_=>false
def small (nt:Nat) (l:List Operand):Bool:=l.all fun x=>match x with | .tmp t=>decide (t<nt) | _=>true
def dM (nt:Nat) (dst:Option Nat) (m:ov):Bool :=
 let slot:=fun x=>match x with | eB.s t=>some t | _=>none
 let tail:=fun (n:Nat) (ks:List Nat)=>m.rs.length == n+ks.length&&(m.rs.drop n).map slot == ks.map some
 let mr:=fun x=>decide (nt≤x)&&decide (x<1000000)
 let mn:=fun x=>decide (nt≤x)&&decide (x<999999)
 let qf:=fun (l:List Nat)=>match dst with | some d=>decide (d<nt)&&m.ds == d :: l | none=>false
 match m.k with
 | .al m0 _ ts=>mn m0&&tail 0 (m0 :: ts.map fun t=>lk t.2.1)&&qf (m0 :: ts.map fun t=>lk t.2.1)
 | .bx m0=>mn m0&&tail 1 [m0]&&qf [m0]
 | .lj _ n _ _ m0=>mr m0&&tail n [m0]&&qf []
 | .FJ b=>match b with | true=>qf [] | false=>dst.isNone&&m.ds == []
 | .yn m0 ts=>mn m0&&tail 1 (m0 :: ts.map fun t=>lk t.2.1)&&qf (m0 :: ts.map fun t=>lk t.2.1)
 | .pF m0 _ _ ts=>mr m0&&dst.isNone&&m.ds == m0 :: (ts.map fun t=>lk t.2.1)&&tail 3 (ts.map fun t=>lk t.2.1)&&(match m.rs with | _ :: .s t :: _=>t == m0 | _=>false)
 | .ld m0 _ _ _=>mr m0&&tail 1 [m0]&&qf []
 | .st m0 _ _=>mr m0&&dst.isNone&&m.ds == [m0]&&(match m.rs with | [_,.s t,_]=>t == m0 | _=>false)
 | .DV k=>tail 1 [lk k]&&qf [lk k]
 | .blt _ n k=>tail n [lk k]&&qf [lk k]
 | .ap k d _ _=>tail 2 [lk k,lk d]&&qf [lk k,lk d]
 | .zp k d _=>tail 2 [lk k,lk d]&&qf [lk k,lk d]
 | .an d _ _=>tail 1 [lk d]&&qf [lk d]
 | .Gn d _=>tail 1 [lk d]&&qf [lk d]
 | .mk d _ _ _=>tail 2 [lk d]&&qf [lk d]
 | .nl d _=>tail 0 [lk d]&&qf [lk d]
 | .Fw k=>tail 1 [lk k]&&qf [lk k]
 | .Fy k=>tail 1 [lk k]&&qf []
 | .FA k _=>tail 2 [lk k]&&qf []
 | .Fz k _ _ _=>tail 1 [lk k]&&qf []
 | .Fv k _ _=>dst.isNone&&m.ds == [lk k]&&(match m.rs with | [_,.s t,_]=>t == lk k | _=>false)
 | .FB k _=>decide (k≠999999)&&tail 1 [lk k]&&(match m.rs with | .s j :: _=>decide (j<nt)&&qf [j,lk k] | _=>false)
 | .jK _ n _ _ k _=>tail n [lk k]&&qf []
 | .mq _ n _ _ _=>m.rs.length == n&&qf []
 | .AO k d _ _=>tail 2 [lk k,lk d]&&qf [lk k,lk d]
 | .Fx k=>tail 1 [lk k]&&qf []
 | .Fi k d q _ _=>tail 2 [lk k,lk d,lk q]&&qf [lk k,lk d]
 | .la m0 _ _=>mr m0&&tail 2 [m0]&&qf []
 | .ll m0 _=>mr m0&&tail 1 [m0]&&qf []
 | .call _ c=>c.jE.all mr&&tail c.n (c.jE++c.lT)&&qf (c.jE++c.lT)&&decide ((c.jE++c.lT).Nodup)
 | _=>qf []
def rJ (nt:Nat) (ops:Array Oper) (o:Oper) (m:ov):Bool :=
 match o.guard,m.gd with
 | none,none=>true
 | some (j,b),some (t,b')=>b == b'&&decide (t<nt)&&(match (ops[j]?).bind (·.dst) with | some d=>d == t | none=>false)&&m.ds.length == 1&&o.dst.isSome
 | _,_=>false
def ov.reads (m:ov):List Nat:=m.rs.filterMap (fun x=>match x with | .s t=>some t | _=>none)++m.gd.toList.map (·.1)
def zj (m n:ov):Bool:=m.ds.any (fun d=>n.reads.contains d || n.ds.contains d) || n.ds.any (fun d=>m.reads.contains d)
def rr (o:Oper):List Nat:=(o.after.toList.filter (Region.binds .any)).map (·.on)
def zm (ops:List Oper):List (List Nat) :=
 ops.foldl (fun acc o=>acc++[(rr o).flatMap fun e=>e :: (acc.getD e [])]) []
def EY (ops:List Oper):Bool:=ops.zipIdx.all fun (o,i)=>(rr o).all fun e=>decide (e<i)
def uI (ops:List Oper) (ms:List ov):Bool :=
 EY ops&&(let b:=zm ops;ms.zipIdx.all fun (m,i)=>(ms.take i).zipIdx.all fun (n,j)=>!zj n m || (b.getD i []).contains j)
def kC {A B:Type} (f:A→B→Bool):List A→List B→Bool
 | [],[]=>true
 | a :: as,b :: bs=>f a b&&kC f as bs
 | _,_=>false
def Bv (sg:Nat→dq) (nt:Nat) (ops:Array Oper) (draw:Bool) (ms:List ov):Bool :=
 kC (fun o m=>gq P sg o m&&dM nt o.dst m&&rJ nt ops o m&&small nt o.op.operands.toList) ops.toList ms&&(!draw || (P.follows .mixedOrders&&uI ops.toList ms))
def F9 (m:ov) (G:GL):Option GL:=(fu m.k (m.rs.map (eB.gh G.get))).bind fun gs=>if gs.length=m.ds.length then some (GL.cQ G m.ds gs) else none
def Am:List ov→GL→Option GL
 | [],G=>some G
 | m :: ms,G=>(F9 m G).bind (Am ms)
def yJ (G H:GL):List (Nat × Nat) :=
 H.flatMap fun (k,h)=>match h,G.get k with
  | .gb i _,.gb j _=>[(i,j)]
  | .cl ts,.cl us=>ts.flatMap fun t=>match us.find? (fun u=>u.1 == t.1) with | some u=>[(t.2.1,u.2.1)] | none=>[]
  | .pv _,_=>[(k - 1000000,k - 1000000)]
  | _,_=>[]
def kX (G H:GL):Bool :=
 let ρ:=yJ G H
 let nm:=fun i=>(ρ.find? (fun p=>p.1 == i)).map (·.2)
 (!(G.get (lk 999999)).sB || (H.get (lk 999999)).sB)&&ρ.all (fun p=>ρ.all fun q=>(p.1 == q.1) == (p.2 == q.2)) &&
 H.all fun (k,h)=>match h,G.get k with
  | .no,_=>true
  | .ptr m o,.ptr m' o'=>m == m'&&o == o'&&(match H.get m with | .cl _=>true | _=>false)
  | .gb i s,.gb j s'=>s == s'&&nm i == some j&&(H.get (lk i)).fL
  | .cl ts,.cl us=>ts.all fun t=>(match us.find? (fun u=>u.1 == t.1) with | some u=>nm t.2.1 == some u.2.1&&t.2.2 == u.2.2 | none=>false)&&(H.get (lk t.2.1)).fL
  | .live s,_=>ρ.any fun p=>lk p.1 == k&&G.get (lk p.2) == .live s
  | .pv s,.pv s'=>s == s'&&ρ.any fun p=>lk p.1 == k&&p.1 == p.2
  | .pv s,.nC d s'=>s == s'&&!(H.get d).fL&&ρ.any fun p=>lk p.1 == k&&p.1 == p.2
  | .used,_=>decide (1000000≤k)
  | _,_=>false
mutual
def di (sg:Nat→dq) (nt:Nat) (rt:GL→Bool):Code→M→GL→Option (Option GL × List (Nat × GL))
 | .skip,.skip,G=>some (some G,[])
 | .label _,.skip,G=>some (some G,[])
 | .region _ ops d,.fK ms,G=>if Bv P sg nt ops d ms then (Am ms G).map fun G'=>(some G',[]) else none
 | .seq a b,.seq x y,G=>(di sg nt rt a x G).bind fun r=>match r.1 with
  | none=>some (none,r.2)
  | some G1=>(di sg nt rt b y G1).map fun q=>(q.1,r.2++q.2)
 | .cond c a b,.cond x H y z,G=>if dh c x&&small nt [c] then (di sg nt rt a y G).bind fun r=>(di sg nt rt b z G).bind fun q =>
   match r.1,q.1 with
   | none,n=>some (n,r.2++q.2)
   | n,none=>some (n,r.2++q.2)
   | some A,some B=>if kX A H&&kX B H then some (some H,r.2++q.2) else none
  else none
 | .block i b,.block j H y,G=>if i=j∧i<1000000 then (di sg nt rt b y G).bind fun r =>
   if (r.1.toList++(r.2.filter (·.1 == i)).map (·.2)).all (kX · H) then
    some (if r.1.isNone&&(r.2.filter (·.1 == i)).isEmpty then none else some H,r.2.filter (·.1 != i)) else none
  else none
 | .loop b,.loop cd H y,G=>if kX G H&&H.all (fun p=>cd.contains p.1 || decide (1000000≤p.1))&&decide cd.Nodup then
   (di sg nt rt b y H).bind fun r=>if r.1.all (kX · H) then some (none,r.2) else none
  else none
 | .exit i,.exit j,G=>if i=j∧i<1000000 then some (none,[(i,G)]) else none
 | .goto l,.exit j,G=>if j=gid l then some (none,[(j,G)]) else none
 | .ret,.ret,G=>if rt G then some (none,[]) else none
 | .scope c,.Bp x,G=>(pW sg nt rt c x G).bind fun r=>if r.2.all (fun p=>decide (p.1<1000000)) then some r else none
 | _,_,_=>none
def pW (sg:Nat→dq) (nt:Nat) (rt:GL→Bool):Code→M→GL→Option (Option GL × List (Nat × GL))
 | c,.Bo b,G=>di sg nt rt c b G
 | c,.AP l _ H r b,G=>match findLabel c l with
  | some rest=>(di sg nt rt rest r H).bind fun q=>(pW sg nt rt c b G).bind fun p =>
   if ((q.2++p.2).filter (·.1 == gid l)).all (fun x=>kX x.2 H)&&(q.1.isNone || p.1.isNone) then
    some (if q.1.isNone then p.1 else q.1,(q.2++p.2).filter (·.1 != gid l)) else none
  | none=>none
 | _,_,_=>none
end
end
end Go.Eng
namespace Go.Eng
open Go.RowKit
theorem bI {X:Type} (σ:Nat→X) (t:Nat) (x:X):dJ σ t x t=x:=by simp [dJ]
theorem bO {X:Type} (σ:Nat→X) {t k:Nat} (x:X) (h:k≠t):dJ σ t x k=σ k:=by simp [dJ,h]
theorem jy.lt {R:Reach} {w:World} {x:AV} {b:Nat} {cs:List Value} (h:jy R w x b cs):b<w.heap.size:=by
 obtain ⟨_,h,_⟩:=h
 exact (Array.getElem?_eq_some_iff.1 h).1
theorem jy.BY {R:Reach} {w:World} {x:AV} {b:Nat} {cs:List Value} (h:jy R w x b cs):∀o,¬R b o:=h.elim fun _ h=>h.2.2
theorem jy.ag {R:Reach} {w:World} {AG:List AV} {b:Nat} {cs:List Value} (h:jy R w (.ag AG) b cs):∃elem,w.heap[b]?=some (.cells ⟨cs⟩ elem (0,0))∧eL R w AG (cs.take AG.length):=by
 obtain ⟨elem,h1,h2 | ⟨R5,h2,h3⟩,_⟩:=h
 ·cases h2
 ·cases h2;exact ⟨elem,h1,h3⟩
theorem gG.lt {R:Reach} {w:World} {x:Value} {s g:Nat} (h:gG R w x s) (hg:x.ownBlock=some g):g<w.heap.size:=by
 rcases h with rfl | ⟨g',n,cap,cur,e,fz,rfl,h,_⟩
 ·simp [Value.ownBlock] at hg
 ·simp [Value.ownBlock] at hg;subst hg;exact (Array.getElem?_eq_some_iff.1 h).1
theorem jy.cd {R R':Reach} {w w':World} {x:AV} {b:Nat} {cs:List Value} (h:jy R w x b cs) (k:gF R w R' w') (hh:w'.heap[b]?=w.heap[b]?) (hr:∀o,¬R' b o):jy R' w' x b cs:=by
 obtain ⟨e,h1,h2,_⟩:=h
 exact ⟨e,hh.trans h1,h2.imp id (fun ⟨AG,h2,h3⟩=>⟨AG,h2,h3.mono k⟩),hr⟩
theorem gG.cd {R R':Reach} {w w':World} {x:Value} {s:Nat} (h:gG R w x s) (hh:∀g,x.ownBlock=some g→w'.heap[g]?=w.heap[g]?∧∀o,R' g o→R g o):gG R' w' x s:=by
 rcases h with rfl | ⟨g,n,cap,cur,e,fz,rfl,h1,h2,h3,h4,h5,h6⟩
 ·exact .inl rfl
 ·obtain ⟨e1,e2⟩:=hh g rfl
  exact .inr ⟨g,n,cap,cur,e,fz,rfl,e1.trans h1,h2,h3,h4,h5,fun o ho hr=>h6 o ho (e2 o hr)⟩
theorem jR.congr {D D':kV} {γ:Ga} {g:Gh} {x:Value} (hm:gn γ g) (z6:∀m,(γ m).gy=true→D'.β m=D.β m) (pO:∀k,(γ (lk k)).fL=true→D'.τ (lk k)=D.τ (lk k)) (h:jR D g x):jR D' g x:=by
 cases g with
 | ptr m o=>simp only [jR,gn] at *;rw [z6 m hm];exact h
 | gb k s=>simp only [jR,gn] at *;rw [pO k hm];exact h
 | pe k=>simp only [jR,gn] at *;rw [pO k hm];exact h
 | pm m=>simp only [jR,gn] at *;rw [z6 m hm];exact h
 | yy ts p =>
  simp only [jR,gn] at *
  obtain ⟨ys,h1,h2,h3⟩:=h
  exact ⟨ys,h1,fun t ht=>by rw [pO _ (hm.1 t ht)];exact h2 t ht,fun q hq=>by rw [z6 _ (hm.2 q hq)];exact h3 q hq⟩
 | _=>trivial
theorem hZ.cd {R R':Reach} {w w':World} {v:Value} {s:Nat} {x:AV} (h:hZ R w v s x) (k:gF R w R' w') (hh:∀g,v.ownBlock=some g→w'.heap[g]?=w.heap[g]?∧∀o,R' g o→R g o):hZ R' w' v s x:=by
 refine ⟨fun g hg o hr=>h.1 g hg o ((hh g hg).2 o hr),h.2.imp id ?_⟩
 rintro ⟨es,e1,e2,e3⟩
 refine ⟨es,e1,e2,e3.imp id ?_⟩
 rintro ⟨g,cap,cur,e,fz,rfl,f1,f2⟩
 exact ⟨g,cap,cur,e,fz,rfl,(hh g rfl).1.trans f1,f2.mono k⟩
theorem yw.cd {D D':kV} {σ eO:Sg} {γ nu:Ga} {w w':World} (h:yw D σ γ w) (k:gF D.R w D'.R w')
  (hp:∀key,(nu key).sB=true→γ key=nu key∧eO key=σ key∧D'.τ key=D.τ key∧∀g,(D.τ key).ownBlock=some g→w'.heap[g]?=w.heap[g]?∧∀o,D'.R g o→D.R g o):yw D' eO nu w':=by
 intro key s hk
 obtain ⟨e1,e2,e3,e4⟩:=hp key (by cases e:nu key <;> rw [e] at hk <;> simp [Gh.By] at hk <;> rfl)
 have:=h key s ((congrArg Gh.By e1).trans hk)
 rw [e2,e3]
 refine ⟨this.1.cd e4,this.2.1.cd k e4,fun d s1 s' h1 h2=>?_⟩
 obtain ⟨f1,f2,_,_⟩:=hp d (by rw [h2];rfl)
 rw [e2,f2]
 exact this.2.2 d s1 s' (e1.trans h1) (f1.trans h2)
theorem yw.same {D D':kV} {σ eO:Sg} {γ nu:Ga} {w:World} (h:yw D σ γ w) (hR:D'.R=D.R) (hp:∀key,(nu key).sB=true→γ key=nu key∧eO key=σ key∧D'.τ key=D.τ key):yw D' eO nu w :=
 h.cd (hR ▸ gF.refl _ _) fun key hk=>⟨(hp key hk).1,(hp key hk).2.1,(hp key hk).2.2,fun _ _=>⟨rfl,fun o hr=>hR ▸ hr⟩⟩
theorem Gh.pI {g:Gh} {s:Nat} (h:g.By=some s):g.sB=true:=by cases g <;> simp [Gh.By] at h <;> rfl
theorem Gh.Hq {g:Gh} (h:g.sB=true):g.fL=true∧g.gy=false:=by cases g <;> simp [Gh.sB] at h <;> exact ⟨rfl,rfl⟩
theorem Ext.refl (w:World) (R:Reach) (io:Nat→Prop):Ext w R io w R:=⟨rfl,rfl,rfl,Nat.le_refl _,fun _ _ _=>rfl,gF.refl _ _,fun _ _ h => .inl h⟩
theorem Ext.trans {w0 w1 w2:World} {R0 R1 R2:Reach} {io Pd:Nat→Prop} (h:Ext w0 R0 io w1 R1) (k:Ext w1 R1 Pd w2 R2) (hi:∀b,Pd b→io b∨w0.heap.size≤b):Ext w0 R0 io w2 R2 where
 os:=k.os.trans h.os
 tape:=k.tape.trans h.tape
 output:=k.output.trans h.output
 size:=Nat.le_trans h.size k.size
 heap b hb hn:=(k.heap b (Nat.lt_of_lt_of_le hb h.size) (fun c=>by rcases hi b c with c | c <;> first | exact hn c | omega)).trans (h.heap b hb hn)
 cd:=h.cd.trans k.cd
 qn b o hr:=by
  rcases k.qn b o hr with r | r | r
  ·exact h.qn b o r
  ·exact .inr (.inl (Nat.le_trans h.size r))
  ·rcases hi b r with r | r
   ·exact .inr (.inr r)
   ·exact .inr (.inl r)
section
variable {C:Ctx} {D:kV} {σ:Sg} {γ:Ga} {a:Act} {w:World}
theorem iq {key:Nat} (h:(γ key).sB=true):gC D γ key=(D.τ key).ownBlock:=by
 unfold gC;cases hg:γ key <;> rw [hg] at h <;> first | cases h | rfl
theorem dU.Mz (h:dU C D σ γ a w) {key:Nat} (hp:(γ key).sB=true):∃s,(γ key).By=some s∧gG D.R w (D.τ key) s∧hZ D.R w (D.τ key) s (σ key)∧sX σ γ key:=by
 cases hg:γ key <;> rw [hg] at hp <;> first | cases hp | skip
 all_goals exact ⟨_,rfl,h.ps key _ (by rw [hg];rfl)⟩
theorem dU.lt (h:dU C D σ γ a w) {key g:Nat} (hb:gC D γ key=some g):g<w.heap.size:=by
 cases hp:(γ key).sB with
 | true =>
  rw [iq hp] at hb
  obtain ⟨s,_,ht,_⟩:=h.Mz hp
  exact ht.lt hb
 | false =>
  unfold gC at hb
  split at hb
  ·rename_i ts hg
   cases hb
   obtain ⟨cs,hv,_⟩:=h.mem _ _ hg
   exact hv.lt
  ·rename_i s hg
   exact (h.gb _ _ hg).lt hb
  ·rename_i s hg;rw [hg] at hp;cases hp
  ·rename_i d s hg;rw [hg] at hp;cases hp
  ·rename_i s hg;rw [hg] at hp;cases hp
  ·cases hb
theorem dU.rh (h:dU C D σ γ a w) {key iz g:Nat} (hn:(γ key).sB=false) (h1:gC D γ key=some g) (h2:gC D γ iz=some g):key=iz:=by
 rcases h.sep key iz g h1 h2 with e | e | e
 ·exact e
 ·cases hg:γ key <;> rw [hg] at e hn <;> first | (cases hn;done) | (cases e;done)
 ·cases hg:γ iz <;> rw [hg] at e <;> first | (cases e;done) | skip
  cases e
  have:=h.inv iz
  rw [hg] at this
  rcases this with e | ⟨s,e⟩
  ·unfold gC at h1;rw [e] at h1;cases h1
  ·rw [e] at hn;cases hn
theorem iI {key:Nat} {ts:List (Nat × (Nat × Nat))} (h:γ key = .cl ts):gC D γ key=some (D.β key):=by simp [gC,h]
theorem iH {key s:Nat} (h:γ key = .live s):gC D γ key=(D.τ key).ownBlock:=by simp [gC,h]
theorem dU.world (h:dU C D σ γ a w) {w':World} {R':Reach} (os:w'.os=w.os) (tape:w'.tape=w.tape) (out:w'.output=w.output) (size:w.heap.size≤w'.heap.size)
  (hh:∀b,b<w.heap.size→((∃key,gC D γ key=some b)∨¬C.lR b)→w'.heap[b]?=w.heap[b]?) (cd:gF D.R w R' w')
  (new:∀b o,R' b o→D.R b o∨(C.lR b∧∀key,gC D γ key≠some b)) (lt:∀b o,R' b o→b<w'.heap.size):dU C { D with R:=R' } σ γ a w' where
 size:=h.size
 defers:=h.defers
 kj:=h.kj
 nr:=h.nr
 lS:=h.lS
 slot t ht:=(h.slot t ht).imp id fun ⟨r,g⟩=>⟨r.mono cd,by cases hg:γ t <;> rw [hg] at g <;> exact g⟩
 mem m ts hm:=by
  obtain ⟨cs,hv,ht⟩:=h.mem m ts hm
  refine ⟨cs,hv.cd cd (hh _ hv.lt (.inl ⟨m,iI hm⟩)) (fun o hr=>?_),ht⟩
  rcases new _ _ hr with r | ⟨_,r⟩
  ·exact hv.BY o r
  ·exact r m (iI hm)
 gb key s hk:=(h.gb key s hk).cd fun g hg=>by
  have hb:gC D γ key=some g:=(iH hk).trans hg
  refine ⟨hh g (h.lt hb) (.inl ⟨key,hb⟩),fun o hr=>?_⟩
  rcases new _ _ hr with r | ⟨_,r⟩
  ·exact r
  ·exact (r key hb).elim
 ps:=h.ps.cd cd fun key hp=>⟨rfl,rfl,rfl,fun g hg=>by
  have hb:gC D γ key=some g:=(iq hp).trans hg
  refine ⟨hh g (h.lt hb) (.inl ⟨key,hb⟩),fun o hr=>?_⟩
  rcases new _ _ hr with r | ⟨_,r⟩
  ·exact r
  ·exact (r key hb).elim⟩
 sep:=h.sep
 own:=h.own
 inv:=h.inv
 ext:=by
  refine ⟨os.trans h.ext.os,tape.trans h.ext.tape,out.trans h.ext.output,Nat.le_trans h.ext.size size,fun b hb hn=>?_,h.ext.cd.trans cd,fun b o hr=>?_⟩
  ·exact (hh b (Nat.lt_of_lt_of_le hb h.ext.size) (.inr fun hm=>by rcases hm with hm | hm <;> first | exact hn hm | omega)).trans (h.ext.heap b hb hn)
  ·rcases new b o hr with r | ⟨r,_⟩
   ·exact h.ext.qn b o r
   ·rcases r with r | r
    ·exact .inr (.inr r)
    ·exact .inr (.inl r)
 ns:=lt
 gl n:=(h.gl n).mono cd
 fix:=h.fix
theorem dU.grow (h:dU C D σ γ a w) {w':World} {R':Reach} (os:w'.os=w.os) (tape:w'.tape=w.tape) (out:w'.output=w.output) (size:w.heap.size≤w'.heap.size)
  (hh:∀b,b<w.heap.size→w'.heap[b]?=w.heap[b]?) (sub:∀b o,D.R b o→R' b o) (new:∀b o,R' b o→D.R b o∨w.heap.size≤b) (lt:∀b o,R' b o→b<w'.heap.size):dU C { D with R:=R' } σ γ a w' :=
 h.world os tape out size (fun b hb _=>hh b hb) (fun b o hr=>⟨sub b o hr,World.cell?_of_block (w:=w) (hh b (h.ns b o hr))⟩)
  (fun b o hr=>(new b o hr).imp id fun hb=>⟨.inr (Nat.le_trans h.ext.size hb),fun key hk=>by have:=h.lt hk;omega⟩) lt
theorem dU.drew (h:dU C D σ γ a w):dU C D σ γ a { w with drawn:=w.drawn+1 } :=
 h.grow (w':={ w with drawn:=w.drawn+1 }) (R':=D.R) rfl rfl rfl (Nat.le_refl _) (fun _ _=>rfl) (fun _ _ h=>h) (fun _ _ h => .inl h) h.ns
theorem Act.CV (a:Act) (d t:Nat) (v:Value) (hd:d<a.tmps.size):(a.put (some d) v).tmps.getD t undef=if t=d then v else a.tmps.getD t undef:=by
 simp only [Act.put,Array.getD_eq_getD_getElem?,Array.getElem?_setIfInBounds]
 by_cases h:d=t
 ·subst h;simp [hd]
 ·simp [h,Ne.symm h]
theorem Act.size_put (a:Act) (d:Option Nat) (v:Value):(a.put d v).tmps.size=a.tmps.size:=by cases d <;> simp [Act.put]
theorem Act.yi (a:Act) (d:Option Nat) (v:Value):(a.put d v).defers=a.defers:=by cases d <;> simp [Act.put]
theorem dU.Jt (h:dU C D σ γ a w) {d:Nat} (hd:d<C.nt):(γ d).gy=false∧(γ d).fL=false:=by
 constructor
 ·cases hc:(γ d).gy with
  | false=>rfl
  | true=>have:=(h.nr d hc).1;omega
 ·cases hc:(γ d).fL with
  | false=>rfl
  | true=>have:=h.lS d hc;have:=h.kj;omega
theorem gn.vy {γ:Ga} {d:Nat} {g:Gh} (h1:(γ d).gy=false) (h2:(γ d).fL=false):∀{x:Gh},gn γ x→gn (dJ γ d g) x:=by
 have hc:∀m,(γ m).gy=true→(dJ γ d g m).gy=true:=fun m hm=>by
  by_cases e:m=d
  ·subst e;rw [h1] at hm;cases hm
  ·rw [bO _ _ e];exact hm
 have hl:∀m,(γ m).fL=true→(dJ γ d g m).fL=true:=fun m hm=>by
  by_cases e:m=d
  ·subst e;rw [h2] at hm;cases hm
  ·rw [bO _ _ e];exact hm
 intro x hx
 cases x with
 | ptr m o=>exact hc m hx
 | gb k s=>exact hl _ hx
 | cl ts=>exact fun t ht=>hl _ (hx t ht)
 | yy ts p=>exact ⟨fun t ht=>hl _ (hx.1 t ht),fun q hq=>hc _ (hx.2 q hq)⟩
 | pe k=>exact hl _ hx
 | pm m=>exact hc m hx
 | nC k s =>
  have hk:k≠d:=fun e=>by subst e;rcases hx with e | ⟨s',e⟩ <;> rw [e] at h2 <;> cases h2
  simp only [gn,bO _ _ hk];exact hx
 | _=>trivial
theorem jC {γ:Ga} {d:Nat} {g:Gh} (h2:(γ d).sB=false) (g2:g.sB=false) (key:Nat):(dJ γ d g key).par=(γ key).par:=by
 by_cases e:key=d
 ·subst e;rw [bI]
  have f:∀g:Gh,g.sB=false→g.par=none:=fun g h=>by cases g <;> first | rfl | cases h
  rw [f _ g2,f _ h2]
 ·rw [bO _ _ e]
theorem Gh.BU {g:Gh} (h:g.fL=false):g.sB=false:=by cases g <;> first | rfl | cases h
theorem qa {D:kV} {γ:Ga} {d:Nat} {g:Gh} (h1:(γ d).gy=false) (h2:(γ d).fL=false) (g1:g.gy=false) (g2:g.fL=false) (key:Nat):gC D (dJ γ d g) key=gC D γ key:=by
 unfold gC
 by_cases e:key=d
 ·subst e
  rw [bI]
  cases g <;> simp [Gh.gy,Gh.fL] at g1 g2 <;> cases hg:γ key <;> simp [hg,Gh.gy,Gh.fL] at h1 h2 <;> rfl
 ·rw [bO _ _ e]
theorem dU.put (h:dU C D σ γ a w) {d:Nat} (hd:d<C.nt) {s:AV} {g:Gh} {v:Value} (hs:lB D w s g v) (g1:g.gy=false) (g2:g.fL=false) (gm:gn γ g) :
  dU C D (dJ σ d s) (dJ γ d g) (a.put (some d) v) w:=by
 obtain ⟨h1,h2⟩:=h.Jt hd
 have gM:d<a.tmps.size:=by rw [h.size];exact hd
 have jQ:∀m,C.nt≤m→m≠d:=fun m hm=>by omega
 have jD:∀m,(dJ γ d g m).gy=true→m≠d:=fun m hm e=>by subst e;rw [bI,g1] at hm;cases hm
 have Kl:∀m,(dJ γ d g m).fL=true→m≠d:=fun m hm e=>by subst e;rw [bI,g2] at hm;cases hm
 refine ⟨by rw [Act.size_put,h.size],by rw [Act.yi,h.defers],h.kj,fun m hm=>?_,fun m hm=>?_,fun t ht=>?_,fun m ts hm=>?_,fun key s' hk=>?_,h.ps.same rfl (fun key hp=>?_),fun k k' g' hk km=>?_,fun k g' hk=>?_,fun key=>?_,h.ext,h.ns,h.gl,h.fix.dJ (Gh.BU h2) rfl rfl⟩
 ·have e:=jD m hm;rw [bO _ _ e] at hm;exact h.nr m hm
 ·have e:=Kl m hm;rw [bO _ _ e] at hm;exact h.lS m hm
 ·rw [Act.CV _ _ _ _ gM]
  by_cases e:t=d
  ·subst e;rw [bI,bI,ao rfl];exact hs
  ·rw [bO _ _ e,bO _ _ e,ah e];exact h.slot t ht
 ·have e:=jD m (by rw [hm];rfl);rw [bO _ _ e] at hm ⊢;exact h.mem m ts hm
 ·have e:=Kl key (by rw [hk];rfl);rw [bO _ _ e] at hk;exact h.gb key s' hk
 ·have e:=Kl key (Gh.Hq hp).1;rw [bO _ _ e,bO _ _ e];exact ⟨rfl,rfl,rfl⟩
 ·rw [qa h1 h2 g1 g2] at hk km;rw [jC (Gh.BU h2) (Gh.BU g2),jC (Gh.BU h2) (Gh.BU g2)];exact h.sep k k' g' hk km
 ·rw [qa h1 h2 g1 g2] at hk;exact h.own k g' hk
 ·by_cases e:key=d
  ·subst e;rw [bI];exact gn.vy h1 h2 gm
  ·rw [bO _ _ e];exact gn.vy h1 h2 (h.inv key)
theorem dU.dead (h:dU C D σ γ a w) {k:Nat} (hk:(γ k).gy=false):dU C D (dJ σ k .dead) γ a w:=by
 refine ⟨h.size,h.defers,h.kj,h.nr,h.lS,fun t ht=>?_,fun m ts hm=>?_,h.gb,fun key s hs=>?_,h.sep,h.own,h.inv,h.ext,h.ns,h.gl,h.fix⟩
 ·by_cases e:t=k
  ·subst e;rw [bI];exact .inl rfl
  ·rw [bO _ _ e];exact h.slot t ht
 ·have e:m≠k:=fun e=>by subst e;rw [hm] at hk;cases hk
  rw [bO _ _ e];exact h.mem m ts hm
 ·obtain ⟨h1,h2⟩:=h.ps key s hs
  have pP:sX (dJ σ k .dead) γ key:=fun d s1 s' e1 e2=>by
   by_cases e:key=k
   ·subst e;rw [bI];exact .inl rfl
   ·by_cases e':d=k
    ·subst e';rw [bI];exact .inr (.inl rfl)
    ·rw [bO _ _ e,bO _ _ e'];exact h2.2 d s1 s' e1 e2
  by_cases e:key=k
  ·subst e;rw [bI];exact ⟨h1,⟨h2.1.1,.inl rfl⟩,pP⟩
  ·rw [bO _ _ e];exact ⟨h1,h2.1,pP⟩
theorem dU.kill (h:dU C D σ γ a w) {k s:Nat} (hk:γ k = .live s):dU C D σ (dJ γ k .used) a w:=by
 have S8:=h.lS k (by rw [hk];rfl)
 have lF:∀m,(dJ γ k .used m).fL=(γ m).fL:=fun m=>by
  by_cases e:m=k
  ·subst e;rw [bI,hk];rfl
  ·rw [bO _ _ e]
 have jD:∀m,(dJ γ k .used m).gy=(γ m).gy:=fun m=>by
  by_cases e:m=k
  ·subst e;rw [bI,hk];rfl
  ·rw [bO _ _ e]
 have hm:∀g,gn γ g→gn (dJ γ k .used) g:=fun g hg=>by
  cases g <;> simp only [gn,lF,jD] at hg ⊢ <;> first | exact hg | skip
  rename_i d s'
  have hd:d≠k:=fun e=>by subst e;rcases hg with e | ⟨o0,e⟩ <;> rw [hk] at e <;> cases e
  rw [bO _ _ hd];exact hg
 have hb:∀key g,gC D (dJ γ k .used) key=some g→gC D γ key=some g:=fun key g hg=>by
  unfold gC at hg ⊢
  by_cases e:key=k
  ·subst e;rw [bI] at hg;cases hg
  ·rw [bO _ _ e] at hg;exact hg
 refine ⟨h.size,h.defers,h.kj,fun m hm=>h.nr m (by rwa [jD] at hm),fun m hm=>h.lS m (by rwa [lF] at hm),fun t ht=>?_,fun m ts lE=>?_,fun key s' km=>?_,h.ps.same rfl (fun key hp=>?_),fun p q g hp hq=>(by rw [jC (by rw [hk];rfl) rfl,jC (by rw [hk];rfl) rfl];exact h.sep p q g (hb p g hp) (hb q g hq)),fun p g hp=>h.own p g (hb p g hp),fun key=>?_,h.ext,h.ns,h.gl,h.fix.dJ (by rw [hk];rfl) rfl rfl⟩
 ·have e:t≠k:=by have:=h.kj;omega
  rw [bO _ _ e];exact h.slot t ht
 ·have e:m≠k:=fun e=>by subst e;rw [bI] at lE;cases lE
  rw [bO _ _ e] at lE;exact h.mem m ts lE
 ·have e:key≠k:=fun e=>by subst e;rw [bI] at km;cases km
  rw [bO _ _ e] at km;exact h.gb key s' km
 ·have e:key≠k:=fun e=>by subst e;rw [bI] at hp;cases hp
  rw [bO _ _ e];exact ⟨rfl,rfl,rfl⟩
 ·by_cases e:key=k
  ·subst e;rw [bI];trivial
  ·rw [bO _ _ e];exact hm _ (h.inv key)
theorem dU.uK (h:dU C D σ γ a w) {k s:Nat} {v:Value} (hk:γ (lk k) = .no) (ht:gG D.R w v s) (hg:∀g,v.ownBlock=some g→C.lR g∧∀key,gC D γ key≠some g) :
  dU C { D with τ:=dJ D.τ (lk k) v } σ (dJ γ (lk k) (.live s)) a w:=by
 have pO:∀j,(γ (lk j)).fL=true→dJ D.τ (lk k) v (lk j)=D.τ (lk j):=fun j hj=>by
  have e:lk j≠lk k:=fun e=>by rw [e,hk] at hj;cases hj
  exact bO _ _ e
 have lF:∀m,(γ m).fL=true→(dJ γ (lk k) (.live s) m).fL=true:=fun m hm=>by
  by_cases e:m=lk k
  ·subst e;rw [bI];rfl
  ·rw [bO _ _ e];exact hm
 have jD:∀m,(dJ γ (lk k) (.live s) m).gy=(γ m).gy:=fun m=>by
  by_cases e:m=lk k
  ·subst e;rw [bI,hk];rfl
  ·rw [bO _ _ e]
 have hm:∀g,gn γ g→gn (dJ γ (lk k) (.live s)) g:=fun g hg=>by
  cases g with
  | ptr m o=>simp only [gn,jD] at hg ⊢;exact hg
  | gb j s'=>exact lF _ hg
  | cl ts=>exact fun t ht=>lF _ (hg t ht)
  | yy ts p=>exact ⟨fun t ht=>lF _ (hg.1 t ht),fun q hq=>by rw [jD];exact hg.2 q hq⟩
  | pe j=>exact lF _ hg
  | pm m=>simp only [gn,jD] at hg ⊢;exact hg
  | nC d s' =>
   have hd:d≠lk k:=fun e=>by subst e;rcases hg with e | ⟨o0,e⟩ <;> rw [hk] at e <;> cases e
   simp only [gn,bO _ _ hd];exact hg
  | _=>trivial
 have hb:∀key,gC { D with τ:=dJ D.τ (lk k) v } (dJ γ (lk k) (.live s)) key=if key=lk k then v.ownBlock else gC D γ key:=fun key=>by
  unfold gC
  by_cases e:key=lk k
  ·subst e;rw [bI];simp [bI]
  ·rw [bO _ _ e,ah e]
   cases hg:γ key with
   | live s'=>simp [bO _ _ e]
   | pv s'=>simp [bO _ _ e]
   | pc s'=>simp [bO _ _ e]
   | nC d s'=>simp [bO _ _ e]
   | _=>rfl
 refine ⟨h.size,h.defers,h.kj,fun m hm=>h.nr m (by rwa [jD] at hm),fun m hm=>?_,fun t ht=>?_,fun m ts lE=>?_,fun key s' km=>?_,h.ps.same rfl (fun key hp=>?_),fun p q g hp hq=>?_,fun p g hp=>?_,fun key=>?_,h.ext,h.ns,h.gl,h.fix.of rfl (fun hp=>by
  have e:lk 999999≠lk k:=fun e=>by rw [e,hk] at hp;cases hp
  rw [bO _ _ e];exact ⟨hp,bO _ _ e⟩)⟩
 ·by_cases e:m=lk k
  ·subst e;exact hU k
  ·rw [bO _ _ e] at hm;exact h.lS m hm
 ·have e:t≠lk k:=by have:=h.kj;have:=hU k;omega
  rw [bO _ _ e]
  rcases h.slot t ht with e | ⟨r,g⟩
  ·exact .inl e
  ·exact .inr ⟨r,fun hs=>jR.congr (D:=D) (h.inv t) (fun _ _=>rfl) pO (g hs)⟩
 ·have e:m≠lk k:=fun e=>by subst e;rw [bI] at lE;cases lE
  rw [bO _ _ e] at lE
  obtain ⟨cs,hv,oD⟩:=h.mem m ts lE
  refine ⟨cs,hv,fun t ht=>?_⟩
  have hi:=h.inv m
  rw [lE] at hi
  show cs[t.1]?=some (dJ D.τ (lk k) v (lk t.2.1))
  rw [pO _ (hi t ht)];exact oD t ht
 ·by_cases e:key=lk k
  ·subst e;rw [bI] at km;cases km;simpa [bI] using ht
  ·rw [bO _ _ e] at km
   have:=h.gb key s' km
   rw [←bO D.τ v e] at this
   exact this
 ·have e:key≠lk k:=fun e=>by subst e;rw [bI] at hp;cases hp
  rw [bO _ _ e];exact ⟨rfl,rfl,bO _ _ e⟩
 ·rw [jC (by rw [hk];rfl) rfl,jC (by rw [hk];rfl) rfl]
  rw [hb] at hp hq
  split at hp <;> split at hq
  ·rename_i e1 e2;left;rw [e1,e2]
  ·exact ((hg g hp).2 q hq).elim
  ·exact ((hg g hq).2 p hp).elim
  ·exact h.sep p q g hp hq
 ·rw [hb] at hp
  split at hp
  ·exact (hg g hp).1
  ·exact h.own p g hp
 ·by_cases e:key=lk k
  ·subst e;rw [bI];trivial
  ·rw [bO _ _ e];exact hm _ (h.inv key)
theorem dU.newVar (h:dU C D σ γ a w) {m b:Nat} {x:AV} {cs:List Value} {ts:List (Nat × (Nat × Nat))} (hm:γ m = .no) (h1:C.nt≤m) (h2:m<999999) (hv:jy D.R w x b cs)
  (oD:∀t∈ts,(γ (lk t.2.1)).fL=true∧cs[t.1]?=some (D.τ (lk t.2.1))) (hb:C.lR b∧∀key,gC D γ key≠some b) :
  dU C { D with β:=dJ D.β m b } (dJ σ m x) (dJ γ m (.cl ts)) a w:=by
 have z6:∀j,(γ j).gy=true→dJ D.β m b j=D.β j:=fun j hj=>by
  have e:j≠m:=fun e=>by subst e;rw [hm] at hj;cases hj
  exact bO _ _ e
 have jD:∀j,(γ j).gy=true→(dJ γ m (.cl ts) j).gy=true:=fun j hj=>by
  by_cases e:j=m
  ·subst e;rw [bI];rfl
  ·rw [bO _ _ e];exact hj
 have lF:∀j,(dJ γ m (.cl ts) j).fL=(γ j).fL:=fun j=>by
  by_cases e:j=m
  ·subst e;rw [bI,hm];rfl
  ·rw [bO _ _ e]
 have hM:∀g,gn γ g→gn (dJ γ m (.cl ts)) g:=fun g hg=>by
  cases g with
  | ptr j o=>exact jD _ hg
  | gb j s'=>simp only [gn,lF] at hg ⊢;exact hg
  | cl us=>exact fun t ht=>by rw [lF];exact hg t ht
  | yy us p=>exact ⟨fun t ht=>by rw [lF];exact hg.1 t ht,fun q hq=>jD _ (hg.2 q hq)⟩
  | pe j=>simp only [gn,lF] at hg ⊢;exact hg
  | pm m=>exact jD _ hg
  | nC d s' =>
   have hd:d≠m:=fun e=>by subst e;rcases hg with e | ⟨o0,e⟩ <;> rw [hm] at e <;> cases e
   simp only [gn,bO _ _ hd];exact hg
  | _=>trivial
 have hB:∀key,gC { D with β:=dJ D.β m b } (dJ γ m (.cl ts)) key=if key=m then some b else gC D γ key:=fun key=>by
  unfold gC
  by_cases e:key=m
  ·subst e;rw [bI];simp [bI]
  ·rw [bO _ _ e,ah e]
   cases hg:γ key with
   | cl us=>simp [bO _ _ e]
   | _=>rfl
 refine ⟨h.size,h.defers,h.kj,fun j hj=>?_,fun j hj=>h.lS j (by rwa [lF] at hj),fun t ht=>?_,fun j us hj=>?_,fun key s' km=>?_,h.ps.same rfl (fun key hp=>?_),fun p q g hp hq=>?_,fun p g hp=>?_,fun key=>?_,h.ext,h.ns,h.gl,h.fix.dJ (by rw [hm];rfl) (by
  have e:999999≠m:=by omega
  exact bO _ _ e) rfl⟩
 ·by_cases e:j=m
  ·subst e;exact ⟨h1,by omega⟩
  ·rw [bO _ _ e] at hj;exact h.nr j hj
 ·have e:t≠m:=by omega
  rw [bO _ _ e,bO _ _ e]
  rcases h.slot t ht with e | ⟨r,g⟩
  ·exact .inl e
  ·exact .inr ⟨r,fun hs=>jR.congr (D:=D) (h.inv t) z6 (fun _ _=>rfl) (g hs)⟩
 ·by_cases e:j=m
  ·subst e;rw [bI] at hj;cases hj;rw [bI]
   exact ⟨cs,by simpa [bI] using hv,fun t ht=>(oD t ht).2⟩
  ·rw [bO _ _ e] at hj;rw [bO _ _ e]
   simpa [bO _ _ e] using h.mem j us hj
 ·have e:key≠m:=fun e=>by subst e;rw [bI] at km;cases km
  rw [bO _ _ e] at km;exact h.gb key s' km
 ·have e:key≠m:=fun e=>by subst e;rw [bI] at hp;cases hp
  rw [bO _ _ e,bO _ _ e];exact ⟨rfl,rfl,rfl⟩
 ·rw [jC (by rw [hm];rfl) rfl,jC (by rw [hm];rfl) rfl]
  rw [hB] at hp hq
  split at hp <;> split at hq
  ·rename_i e1 e2;left;rw [e1,e2]
  ·cases hp;exact (hb.2 q hq).elim
  ·cases hq;exact (hb.2 p hp).elim
  ·exact h.sep p q g hp hq
 ·rw [hB] at hp
  split at hp
  ·cases hp;exact hb.1
  ·exact h.own p g hp
 ·by_cases e:key=m
  ·subst e;rw [bI];exact fun t ht=>by rw [lF];exact (oD t ht).1
  ·rw [bO _ _ e];exact hM _ (h.inv key)
theorem dU.store (h:dU C D σ γ a w) {m:Nat} {w':World} {x:AV} {cs:List Value} {ts us:List (Nat × (Nat × Nat))} (hm:γ m = .cl ts)
  (os:w'.os=w.os) (tape:w'.tape=w.tape) (out:w'.output=w.output) (size:w'.heap.size=w.heap.size) (hh:∀b,b≠D.β m→w'.heap[b]?=w.heap[b]?)
  (hv:jy D.R w' x (D.β m) cs) (Cw:∀t∈us,(γ (lk t.2.1)).fL=true∧cs[t.1]?=some (D.τ (lk t.2.1))):dU C D (dJ σ m x) (dJ γ m (.cl us)) a w':=by
 obtain ⟨cs0,hv0,_⟩:=h.mem m ts hm
 have pQ:∀o,¬D.R (D.β m) o:=hv0.BY
 have cd:gF D.R w D.R w':=fun b o hr=>⟨hr,World.cell?_of_block (w:=w) (hh b (fun e=>pQ o (e ▸ hr)))⟩
 have jD:∀j,(dJ γ m (.cl us) j).gy=(γ j).gy:=fun j=>by
  by_cases e:j=m
  ·subst e;rw [bI,hm];rfl
  ·rw [bO _ _ e]
 have lF:∀j,(dJ γ m (.cl us) j).fL=(γ j).fL:=fun j=>by
  by_cases e:j=m
  ·subst e;rw [bI,hm];rfl
  ·rw [bO _ _ e]
 have hM:∀g,gn γ g→gn (dJ γ m (.cl us)) g:=fun g hg=>by
  cases g <;> simp only [gn,jD,lF] at hg ⊢ <;> first | exact hg | skip
  rename_i d s'
  have hd:d≠m:=fun e=>by subst e;rcases hg with e | ⟨o0,e⟩ <;> rw [hm] at e <;> cases e
  rw [bO _ _ hd];exact hg
 have hB:∀key,gC D (dJ γ m (.cl us)) key=gC D γ key:=fun key=>by
  unfold gC
  by_cases e:key=m
  ·subst e;rw [bI,hm]
  ·rw [bO _ _ e]
 refine ⟨h.size,h.defers,h.kj,fun j hj=>h.nr j (by rwa [jD] at hj),fun j hj=>h.lS j (by rwa [lF] at hj),fun t ht=>?_,fun j vs hj=>?_,fun key s' km=>?_,h.ps.cd cd (fun key hp=>?_),fun p q g hp hq=>(by rw [jC (by rw [hm];rfl) rfl,jC (by rw [hm];rfl) rfl];exact h.sep p q g (by rwa [hB] at hp) (by rwa [hB] at hq)),fun p g hp=>h.own p g (by rwa [hB] at hp),fun key=>?_,?_,fun b o hr=>by rw [size];exact h.ns b o hr,fun n=>(h.gl n).mono cd,h.fix.dJ (by rw [hm];rfl) rfl rfl⟩
 ·have e:t≠m:=by have:=(h.nr m (by rw [hm];rfl)).1;omega
  rw [bO _ _ e,bO _ _ e]
  exact (h.slot t ht).imp id fun ⟨r,g⟩=>⟨r.mono cd,g⟩
 ·by_cases e:j=m
  ·subst e;rw [bI] at hj;cases hj;rw [bI];exact ⟨cs,hv,fun t ht=>(Cw t ht).2⟩
  ·rw [bO _ _ e] at hj;rw [bO _ _ e]
   obtain ⟨L1,AR,uZ⟩:=h.mem j vs hj
   have jQ:D.β j≠D.β m:=fun he=>e (h.rh (by rw [hj];rfl) (by rw [iI hj,he]) (iI hm))
   exact ⟨L1,AR.cd cd (hh _ jQ) AR.BY,uZ⟩
 ·have e:key≠m:=fun e=>by subst e;rw [bI] at km;cases km
  rw [bO _ _ e] at km
  refine (h.gb key s' km).cd fun g hg=>⟨hh g fun he=>e (h.rh (by rw [km];rfl) (by rw [iH km,hg,he]) (iI hm)),fun _ hr=>hr⟩
 ·have e:key≠m:=fun e=>by subst e;rw [bI] at hp;cases hp
  rw [bO _ _ e] at hp ⊢
  rw [bO _ _ e]
  exact ⟨rfl,rfl,rfl,fun g hg=>⟨hh g fun he=>e (h.rh (by rw [hm];rfl) (by rw [iI hm,←he]) ((iq hp).trans hg)).symm,fun _ hr=>hr⟩⟩
 ·by_cases e:key=m
  ·subst e;rw [bI];exact fun t ht=>by rw [lF];exact (Cw t ht).1
  ·rw [bO _ _ e];exact hM _ (h.inv key)
 ·have oH:=h.own m _ (iI hm)
  refine ⟨os.trans h.ext.os,tape.trans h.ext.tape,out.trans h.ext.output,by rw [size];exact h.ext.size,fun b hb hn=>?_,h.ext.cd.trans cd,h.ext.qn⟩
  refine (hh b fun e=>?_).trans (h.ext.heap b hb hn)
  subst e
  rcases oH with lE | lE
  ·exact hn lE
  ·omega
end
end Go.Eng
namespace Go.Eng
open Go.RowKit
theorem mz {x:Operand} {rs:List eB} (h:dk [x] rs=true):∃r,rs=[r]∧dh x r=true:=by
 match rs,h with
 | [r],h=>simp [dk] at h;exact ⟨r,rfl,h⟩
 | [],h=>simp [dk] at h
 | _ :: _ :: _,h=>simp [dk] at h
theorem jY {x y:Operand} {rs:List eB} (h:dk [x,y] rs=true):∃r q,rs=[r,q]∧dh x r=true∧dh y q=true:=by
 match rs,h with
 | [r,q],h=>simp [dk] at h;exact ⟨r,q,rfl,h⟩
 | [],h=>simp [dk] at h
 | [_],h=>simp [dk] at h
 | _ :: _ :: _ :: _,h=>simp [dk] at h
theorem BG {x y z:Operand} {rs:List eB} (h:dk [x,y,z] rs=true):∃r q s,rs=[r,q,s]∧dh x r=true∧dh y q=true∧dh z s=true:=by
 match rs,h with
 | [r,q,s],h=>simp [dk] at h;exact ⟨r,q,s,rfl,h⟩
 | [],h=>simp [dk] at h
 | [_],h=>simp [dk] at h
 | [_,_],h=>simp [dk] at h
 | _ :: _ :: _ :: _ :: _,h=>simp [dk] at h
theorem vJ {x y:Value} (h:yE x y=true):x=y:=by
 unfold yE at h
 split at h <;> first | (simp at h;done) | (simp_all;done) | skip
 ·rename_i a b
  cases a;cases b;rename_i a b;cases a;cases b;simp_all
section
variable {R:Reach} {w:World}
theorem oJ {x:Value} {y:AV} (h:jn x y=true):Rep R w y x:=by
 unfold jn at h
 split at h
 ·exact .nil _
 ·exact .v _
 ·cases h
 ·rw [vJ h];exact .v _
 ·cases h
theorem tj {x:Value} {y:AV} (h:jn x y=true):x.oneCell'=true:=by
 unfold jn at h
 split at h
 ·rfl
 ·rfl
 ·cases h
 ·have:=vJ h;subst this;unfold yE at h;split at h <;> first | rfl | (simp at h)
 ·cases h
theorem jl:∀{xs:List Value} {ys:List AV},gA xs ys=true→eL R w ys xs
 | [],[],_ => .nil
 | x :: xs,y :: ys,h=>by
  simp [gA] at h
  exact .cons (tj h.1) (oJ h.1) (jl h.2)
 | [],_ :: _,h=>by simp [gA] at h
 | _ :: _,[],h=>by simp [gA] at h
theorem xg {x:Value} {y:AV} (h:vk x y=true):Rep R w y x:=by
 unfold vk at h
 split at h
 ·rename_i cs ys;cases cs;exact .ag (jl h)
 ·cases h
 ·exact oJ h
end
section
variable {C:Ctx} {D:kV} {σ:Sg} {γ:Ga} {a:Act} {w:World}
theorem dU.jr (h:dU C D σ γ a w) {x:Operand} {r:eB} (hx:dh x r=true) (hs:small C.nt [x]=true):lB D w (r.ev C.E σ) (r.gh γ) (a.eval x):=by
 unfold dh at hx
 split at hx
 ·simp at hx;subst hx;simp [small] at hs;exact h.slot _ hs
 ·exact .inr ⟨xg hx,fun _=>trivial⟩
 ·simp at hx;obtain ⟨⟨h1,h2⟩,h3⟩:=hx;subst h1;subst h2;subst h3;exact .inr ⟨.v _,fun _=>trivial⟩
 ·simp at hx;subst hx;exact .inr ⟨h.gl _,fun _=>trivial⟩
 ·cases hx
theorem lB.rep {s:AV} {g:Gh} {x:Value} (h:lB D w s g x) (hs:s ≠ .dead):Rep D.R w s x:=(h.resolve_left hs).1
theorem lB.gh {s:AV} {g:Gh} {x:Value} (h:lB D w s g x) (hs:s ≠ .dead) (hk:s ≠ .sk):jR D g x:=(h.resolve_left hs).2 hk
theorem lB.plain {s:AV} {x:Value} (h:Rep D.R w s x):lB D w s .no x := .inr ⟨h,fun _=>trivial⟩
theorem dU.val (h:dU C D σ γ a w) {o:Oper} {d:Nat} (hd:o.dst=some d) (hl:d<C.nt) {v:Value} {s:AV} {g:Gh} (hr:(execOp a.eval o).run C.P w = .ok (.value v) w)
  (hs:lB D w s g v) (g1:g.gy=false) (g2:g.fL=false) (gm:gn γ g) {K:Act→World→Prop} {Q:Exit→Act→World→Prop}
  (hK:∀D' a' w',dU C D' (dJ σ d s) (dJ γ d g) a' w'→K a' w'):o.wp C.P a w K Q:=by
 unfold Oper.wp
 rw [hr,Oper.upon_value,hd]
 exact hK _ _ _ (h.put hl hs g1 g2 gm)
theorem dU.gZ (h:dU C D σ γ a w) {o:Oper} {d:Nat} (hd:o.dst=some d) (hl:d<C.nt) {v:Value} {s:AV} (hr:(execOp a.eval o).run C.P w = .ok (.value v) w)
  (hs:Rep D.R w s v) {K:Act→World→Prop} {Q:Exit→Act→World→Prop}
  (hK:∀D' a' w',dU C D' (dJ σ d s) (dJ γ d .no) a' w'→K a' w'):o.wp C.P a w K Q :=
 h.val hd hl hr (.plain hs) rfl rfl trivial hK
theorem dU.mB (h:dU C D σ γ a w) (r:eB):gn γ (r.gh γ):=by
 cases r with
 | s t=>exact h.inv t
 | _=>trivial
theorem gn.strip {g:Gh} (h:gn γ g):gn γ g.strip:=by cases g <;> first | exact h | trivial
variable {o:Oper} {d:Nat} {K:Act→World→Prop} {Q:Exit→Act→World→Prop} (h:dU C D σ γ a w) (hd:o.dst=some d) (hl:d<C.nt)
include h hd hl
theorem FG {x:Operand} {r:eB} (ho:o.op = .move x∨o.op = .assign x) (hx:dh x r=true) (hs:small C.nt [x]=true)
  (hK:∀D' a' w',dU C D' (dJ σ d (r.ev C.E σ)) (dJ γ d (r.gh γ).strip) a' w'→K a' w'):o.wp C.P a w K Q:=by
 have hr:(execOp a.eval o).run C.P w = .ok (.value (a.eval x)) w:=by rcases ho with e | e <;> simp [execOp,e]
 refine h.val hd hl hr (g:=(r.gh γ).strip) ?_ ?_ ?_ (h.mB r).strip hK
 ·rcases h.jr hx hs with e | ⟨e1,e2⟩
  ·exact .inl e
  ·exact .inr ⟨e1,by cases hg:r.gh γ <;> rw [hg] at e2 <;> first | exact e2 | trivial⟩
 ·cases r.gh γ <;> rfl
 ·cases r.gh γ <;> rfl
theorem D7 {c x y:Operand} {r q s:eB} {b:Bool} (ho:o.op = .pick c x y) (hc:dh c r=true) (hx:dh x q=true) (hy:dh y s=true) (hs:small C.nt [c]=true) (hY:small C.nt [x]=true) (pn:small C.nt [y]=true)
  (hb:r.ev C.E σ = .v (.bool b)) (hK:∀D' a' w',dU C D' (dJ σ d (if b then q.ev C.E σ else s.ev C.E σ)) (dJ γ d .no) a' w'→K a' w'):o.wp C.P a w K Q:=by
 have hv:=(h.jr hc hs).rep (by rw [hb];simp)
 rw [hb] at hv
 have AR:a.eval c = .bool b:=by generalize a.eval c=z at hv;cases hv;rfl
 have hr:(execOp a.eval o).run C.P w = .ok (.value (if b then a.eval x else a.eval y)) w:=by cases b <;> simp [execOp,ho,AR,asBool]
 refine h.val hd hl hr (g := .no) ?_ rfl rfl trivial hK
 cases b with
 | true=>exact (h.jr hx hY).imp id fun e=>⟨e.1,fun _=>trivial⟩
 | false=>exact (h.jr hy pn).imp id fun e=>⟨e.1,fun _=>trivial⟩
omit h hd hl in
theorem Rep.ib {R:Reach} {x y:Value} (h:Rep R w (.v x) y):y=x:=by cases h;rfl
omit h hd hl in
theorem Dm {P:Program} {w:World} {op:BinOp} {t:TypeId} {x y z:Value} (h:kB op x y=some z):(binOp op t x y).run P w = .ok z w:=by
 unfold kB at h
 split at h
 all_goals repeat' split at h
 all_goals first
  | (cases h;done)
  | (cases h;simp only [binOp,Op.shift,Sem.run_ite];rw [ah (by assumption)];rfl)
  | (cases h;simp_all [binOp,Op.shift,Op.intArith,Op.intDiv,Op.intBits,Op.intCmp,Op.stringOp,eA];done)
  | skip
omit h hd hl in
theorem DI {P:Program} {w:World} {op:UnOp} {x z:Value} (h:IH op x=some z):(Op.unary op x).run P w = .ok z w:=by
 unfold IH at h
 split at h <;> cases h <;> simp [Op.unary,Op.intArith,Op.intBits,eA]
theorem He {b:BinOp} {t t':TypeId} {x y:Operand} {r q:eB} {u v z:Value} (ho:o.op = .binOp b t x y t') (hx:dh x r=true) (hy:dh y q=true) (hY:small C.nt [x]=true) (pn:small C.nt [y]=true)
  (hr:r.ev C.E σ = .v u) (hq:q.ev C.E σ = .v v) (hz:kB b u v=some z) (hK:∀D' a' w',dU C D' (dJ σ d (.v z)) (dJ γ d .no) a' w'→K a' w'):o.wp C.P a w K Q:=by
 have e1:=(h.jr hx hY).rep (by rw [hr];simp)
 have e2:=(h.jr hy pn).rep (by rw [hq];simp)
 rw [hr] at e1;rw [hq] at e2
 have hg:eqGuard b t x y u v=pure ():=by
  unfold kB at hz
  split at hz <;> first | (cases hz;done) | (unfold eqGuard;split <;> simp_all)
 have dX:(execOp a.eval o).run C.P w = .ok (.value z) w:=by
  simp only [execOp,ho,e1.ib,e2.ib,hg,Sem.run_bind,Sem.run_pure,Result.andThen_ok,Dm hz]
 exact h.gZ hd hl dX (.v z) hK
theorem Jo {neg:Bool} {b:BinOp} {t t':TypeId} {x y:Operand} {r q:eB} {u v:Bool} (ho:o.op = .binOp b t x y t') (hb:b=if neg then .neq else .eql) (ht:C.P.underlying t=some .bool) (hx:dh x r=true) (hy:dh y q=true) (hY:small C.nt [x]=true) (pn:small C.nt [y]=true)
  (hr:r.ev C.E σ = .v (.bool u)) (hq:q.ev C.E σ = .v (.bool v)) (hK:∀D' a' w',dU C D' (dJ σ d (.v (.bool (if neg then !(u == v) else u == v)))) (dJ γ d .no) a' w'→K a' w'):o.wp C.P a w K Q:=by
 have e1:=(h.jr hx hY).rep (by rw [hr];simp)
 have e2:=(h.jr hy pn).rep (by rw [hq];simp)
 rw [hr] at e1;rw [hq] at e2
 have hg:eqGuard b t x y (.bool u) (.bool v)=pure ():=by unfold eqGuard;cases neg <;> simp [hb]
 have he:(Op.equal t (.bool u) (.bool v)).run C.P w = .ok (u == v) w:=by
  unfold Op.equal Op.maxDepth
  rw [show (10000:Nat)=9999+1 from rfl,Op.equalIn]
  simp [run_underlying ht]
 have dX:(execOp a.eval o).run C.P w = .ok (.value (.bool (if neg then !(u == v) else u == v))) w:=by
  simp only [execOp,ho,e1.ib,e2.ib,hg,Sem.run_bind,Sem.run_pure,Result.andThen_ok]
  cases neg <;> simp [hb,binOp,he]
 exact h.gZ hd hl dX (.v _) hK
theorem I6 {b:UnOp} {t:TypeId} {x:Operand} {r:eB} {u z:Value} (ho:o.op = .unOp b t x) (hx:dh x r=true) (hY:small C.nt [x]=true)
  (hr:r.ev C.E σ = .v u) (hz:IH b u=some z) (hK:∀D' a' w',dU C D' (dJ σ d (.v z)) (dJ γ d .no) a' w'→K a' w'):o.wp C.P a w K Q:=by
 have e1:=(h.jr hx hY).rep (by rw [hr];simp)
 rw [hr] at e1
 have dX:(execOp a.eval o).run C.P w = .ok (.value z) w:=by
  simp only [execOp,ho,e1.ib,Sem.run_bind,Sem.run_pure,Result.andThen_ok,DI hz]
 exact h.gZ hd hl dX (.v z) hK
theorem Jl {k k':IntKind} {n:Int} {s t:TypeId} {x:Operand} {r:eB} (ho:o.op = .convert s t x) (ht:C.P.underlying t=some (.int k)) (hs:(C.P.underlying s).isSome=true) (hx:dh x r=true) (hY:small C.nt [x]=true)
  (hr:r.ev C.E σ = .v (.int k' n)) (hK:∀D' a' w',dU C D' (dJ σ d (.v (.int k (k.wrap n)))) (dJ γ d .no) a' w'→K a' w'):o.wp C.P a w K Q:=by
 have e1:=(h.jr hx hY).rep (by rw [hr];simp)
 rw [hr] at e1
 obtain ⟨u,hu⟩:=Option.isSome_iff_exists.1 hs
 have dX:(execOp a.eval o).run C.P w = .ok (.value (.int k (k.wrap n))) w:=by
  simp only [execOp,ho,e1.ib,convert,Sem.run_bind,run_underlying hu,run_underlying ht,Result.andThen_ok,Conv.intToInt,Sem.run_pure]
 exact h.gZ hd hl dX (.v _) hK
theorem Jk {s t:TypeId} {x:Operand} {r:eB} {b:ByteArray} (ho:o.op = .convert s t x) (ht:C.P.underlying t=some .string) (hs:C.P.underlying s=some .string) (hx:dh x r=true) (hY:small C.nt [x]=true)
  (hr:r.ev C.E σ = .v (.string b)) (hK:∀D' a' w',dU C D' (dJ σ d (.v (.string b))) (dJ γ d .no) a' w'→K a' w'):o.wp C.P a w K Q:=by
 have e1:=(h.jr hx hY).rep (by rw [hr];simp)
 rw [hr] at e1
 have dX:(execOp a.eval o).run C.P w = .ok (.value (.string b)) w:=by
  simp [execOp,ho,e1.ib,convert,run_underlying hs,run_underlying ht]
 exact h.gZ hd hl dX (.v _) hK
theorem tE {x y:Operand} {r q:eB} {k k':IntKind} {u v:Int} {mx:Bool} {ts:Array TypeId} (ho:o.op = .call { callee := .builtin (if mx then .max else .min),args:=#[x,y],argTypes:=ts }) (hx:dh x r=true) (hy:dh y q=true) (hY:small C.nt [x]=true) (pn:small C.nt [y]=true)
  (hr:r.ev C.E σ = .v (.int k u)) (hq:q.ev C.E σ = .v (.int k' v)) (hK:∀D' a' w',dU C D' (dJ σ d (.v (.int k (if mx then nJ u v else B1 u v)))) (dJ γ d .no) a' w'→K a' w'):o.wp C.P a w K Q:=by
 have e1:=(h.jr hx hY).rep (by rw [hr];simp)
 have e2:=(h.jr hy pn).rep (by rw [hq];simp)
 rw [hr] at e1;rw [hq] at e2
 have dX:(execOp a.eval o).run C.P w = .ok (.value (.int k (if mx then nJ u v else B1 u v))) w:=by
  cases mx <;> simp [execOp,ho,e1.ib,e2.ib,resolve,invoke,builtin,Builtin.min_,Builtin.max_,Builtin.min2,Builtin.max2,B1,nJ]
 exact h.gZ hd hl dX (.v _) hK
omit h hd hl in
theorem jR.comp {i:Nat} {ys:List Value} {y:Value} {g:Gh} (hg:jR D g (.tuple ⟨ys⟩)) (hy:ys[i]?=some y):jR D (g.comp i) y:=by
 cases g with
 | yy ts p =>
  obtain ⟨zs,e,h1,h2⟩:=hg
  cases e
  simp only [Gh.comp]
  split
  ·rename_i t hf
   have hm:=List.mem_of_find?_eq_some hf
   have hp:=List.find?_some hf
   simp at hp
   have:=h1 _ hm
   simp only [hp,hy] at this
   have e:=Option.some.inj this.1
   exact ⟨e,by rw [e];exact this.2⟩
  ·split
   ·rename_i j m
    split
    ·rename_i e;subst e
     have:=h2 _ rfl
     rw [hy] at this
     exact Option.some.inj this
    ·trivial
   ·trivial
 | _=>trivial
omit h hd hl in
theorem gn.comp {i:Nat} {g:Gh} (hg:gn γ g):gn γ (g.comp i):=by
 cases g with
 | yy ts p =>
  simp only [Gh.comp]
  split
  ·rename_i t hf;exact hg.1 _ (List.mem_of_find?_eq_some hf)
  ·split
   ·rename_i j m
    split
    ·exact hg.2 _ rfl
    ·trivial
   ·trivial
 | _=>trivial
omit h hd hl in
theorem Gh.ue (i:Nat) (g:Gh):(g.comp i).gy=false∧(g.comp i).fL=false:=by
 unfold Gh.comp
 repeat' split
 all_goals exact ⟨rfl,rfl⟩
theorem Jj {i:Nat} {x:Operand} {r:eB} {vs:List AV} {s:AV} (ho:o.op = .extract x i) (hx:dh x r=true) (hY:small C.nt [x]=true)
  (hr:r.ev C.E σ = .tu vs) (hi:vs[i]?=some s) (hK:∀D' a' w',dU C D' (dJ σ d s) (dJ γ d ((r.gh γ).comp i)) a' w'→K a' w'):o.wp C.P a w K Q:=by
 have e0:=h.jr hx hY
 have e1:=e0.rep (by rw [hr];simp)
 have e2:=e0.gh (by rw [hr];simp) (by rw [hr];rintro e;cases e;simp at hi)
 rw [hr] at e1
 obtain ⟨ys,hy,hT⟩:∃ys,a.eval x = .tuple ⟨ys⟩∧gP D.R w vs ys:=by generalize a.eval x=z at e1;cases e1;exact ⟨_,rfl,‹_›⟩
 obtain ⟨y,tV,DD⟩:=hT.get i s hi
 have dX:(execOp a.eval o).run C.P w = .ok (.value y) w:=by
  simp [execOp,ho,hy,Instr.extract,tV]
 rw [hy] at e2
 exact h.val hd hl dX (.inr ⟨DD,fun _=>e2.comp tV⟩) (Gh.ue _ _).1 (Gh.ue _ _).2 (h.mB r).comp hK
end
end Go.Eng
namespace Go.Eng
open Go.RowKit
section
variable {P:Program}
theorem gX {t:TypeId} (h:j6 P t=true):P.underlying t=some .string:=by
 unfold j6 at h;split at h <;> simp_all
theorem uW {t:TypeId} (h:uX P t=true):P.underlying t=some .bool:=by
 unfold uX at h;split at h <;> simp_all
theorem qT {t:TypeId} {k:IntKind} (h:uU P t k=true):P.underlying t=some (.int k):=by
 unfold uU at h;split at h <;> simp_all
theorem iA {t e:TypeId} (h:kL P t=some e):P.underlying t=some (.slice e):=by
 unfold kL at h
 cases hu:P.underlying t with
 | none=>simp [hu] at h
 | some d=>simp only [hu,Option.bind_some] at h;split at h <;> simp_all
theorem iv {t:TypeId} {n:Nat} (h:iW P t=some n):∃i,P.info? t=some i∧i.size=n:=by
 unfold iW at h
 cases hu:P.info? t with
 | none=>simp [hu] at h
 | some i=>simp [hu] at h;exact ⟨i,rfl,h⟩
theorem lM {t:TypeId} {s:Nat} (h:nE P t s=true):∃e i,P.underlying t=some (.slice e)∧P.info? e=some i∧i.size=s∧0<s:=by
 unfold nE at h
 cases he:kL P t with
 | none=>simp [he] at h
 | some e =>
  simp [he] at h
  obtain ⟨i,h1,h2⟩:=iv h.1
  exact ⟨e,i,iA he,h1,h2,h.2⟩
theorem kF {t:TypeId} (h:j7 P t=true):∃e,P.underlying t=some (.slice e)∧P.underlying e=some (.int .u8):=by
 unfold j7 at h
 cases he:kL P t with
 | none=>simp [he] at h
 | some e=>simp [he] at h;exact ⟨e,iA he,qT h⟩
theorem iK {t:TypeId} {n:Nat} {agg:Bool} (h:jX P t n agg=true):∃i,P.info? t=some i∧i.size=n∧kO P t=some agg∧(agg=true∨n=1):=by
 unfold jX at h
 simp at h
 obtain ⟨⟨h1,h2⟩,h3⟩:=h
 obtain ⟨i,e1,e2⟩:=iv h1
 exact ⟨i,e1,e2,h2,h3⟩
theorem lI {t:TypeId} {f:Nat} {fl:Field} (h:lX P t f=some fl):∃fs,P.underlying t=some (.struct fs)∧fs[f]?=some fl:=by
 unfold lX at h
 cases hu:P.underlying t with
 | none=>simp [hu] at h
 | some d=>simp only [hu,Option.bind_some] at h;split at h <;> simp_all
theorem run_sizeOf {t:TypeId} {i:TypeInfo} (h:P.info? t=some i) (w:World):(sizeOf t).run P w = .ok i.size w:=by simp [sizeOf,typeInfo,h]
theorem qm {t:TypeId} {b:Bool} (h:kO P t=some b) (w:World):(isAgg t).run P w = .ok b w:=by
 unfold kO at h
 cases hu:P.underlying t with
 | none=>simp [hu] at h
 | some d =>
  simp only [hu,Option.map_some,ax] at h
  unfold isAgg
  simp only [Sem.run_bind,run_underlying hu,Result.andThen_ok]
  cases d <;> simp_all
theorem kG {t:TypeId} {i:TypeInfo} {agg:Bool} (hi:P.info? t=some i) (ha:kO P t=some agg) (h1:agg=true∨i.size=1) {w:World} {b off:Nat} {ys:List Value} (hl:ys.length=i.size)
  (hc:∀j y,ys[j]?=some y→w.cell? ⟨b,off+j,none⟩=some y):(loadVar t ⟨b,off,none⟩).run P w = .ok (if agg then .agg ⟨ys⟩ else ys.headD undef) w:=by
 unfold loadVar
 simp only [Sem.run_bind,qm ha,Result.andThen_ok]
 cases agg with
 | true =>
  have:=run_loadCells_list (P:=P) w ⟨b,off,none⟩ ys (fun j v hj=>by
   have h:=hc j v hj
   unfold Addr.add
   split
   ·rename_i e;subst e;exact h
   ·exact h)
  simp [run_sizeOf hi,←hl,this]
 | false =>
  have hs:i.size=1:=by simpa using h1
  match ys,hl with
  | [y],_ =>
   have:=hc 0 y rfl
   simp at this
   simp [this]
  | [],hl=>simp [hs] at hl
  | _ :: _ :: _,hl=>simp [hs] at hl
end
theorem yz {α:Type} {l:List α} {i:Nat} (h:i<l.length):(l.drop i).take 1=[l[i]]:=by
 rw [List.drop_eq_getElem_cons h,List.take_succ_cons,List.take_zero]
theorem bsize (b:ByteArray):b.data.toList.length=b.size:=by rw [Array.length_toList];rfl
theorem OX {b:ByteArray} {i:Nat} {x:UInt8} (h:b.data.toList[i]?=some x):b[i]?=some x:=by
 have gM:=(aC.1 h).1
 rw [bsize] at gM
 rw [getElem?_pos b i gM,←(aC.1 h).2]
 rfl
section
variable {C:Ctx} {D:kV} {σ:Sg} {γ:Ga} {a:Act} {w:World}
theorem Rep.ql {R:Reach} {w:World} {s:Nat} {es:List AV} {y:Value} (h:Rep R w (.sl s es) y) :
  (es=[]∧y = .slice none 0 0)∨(∃b off cap,y = .slice (some ⟨b,off,none⟩) es.length cap∧es.length≤cap∧cap≤maxLen∧iU R w s es b off)∨(es=[]∧∃ad cap,y = .slice (some ad) 0 cap∧cap≤maxLen):=by
 cases h with
 | nil=>exact .inl ⟨rfl,rfl⟩
 | sl h1 h2 h3 h4=>subst h1;exact .inr (.inl ⟨_,_,_,rfl,h2,h3,h4⟩)
 | em _ h=>exact .inr (.inr ⟨rfl,_,_,rfl,h⟩)
theorem Rep.GC {R:Reach} {w:World} {s s':Nat} {es:List AV} {y:Value} (h:Rep R w (.sl s es) y) (ht:gG R w y s') :
  (es=[]∧y = .slice none 0 0)∨∃b off cap,y = .slice (some ⟨b,off,none⟩) es.length cap∧es.length≤cap∧cap≤maxLen∧iU R w s es b off:=by
 rcases h.ql with e | e | ⟨rfl,ad,cap,rfl,hc⟩
 ·exact .inl e
 ·exact .inr e
 ·rcases ht with e | ⟨g,n,ym,cur,el,fz,e,_⟩
  ·cases e
  ·cases e;exact .inr ⟨_,_,_,rfl,Nat.zero_le _,hc,.nil _ _ _⟩
theorem Rep.xC {R:Reach} {w:World} {x:AV} {y:Value} (h:Rep R w (.ro x) y):∃b off s,y = .pointer (some ⟨b,off,none⟩)∧kU R w s x b off:=by
 cases h with
 | ro h=>exact ⟨_,_,_,rfl,h⟩
theorem Rep.Dy {R:Reach} {w:World} {cs:List AV} {y:Value} (h:Rep R w (.ag cs) y):∃ys,y = .agg ⟨ys⟩∧eL R w cs ys:=by
 cases h with
 | ag h=>exact ⟨_,rfl,h⟩
theorem Rep.Bc {R:Reach} {w:World} {s:Nat} {es:List AV} {y:Value} (h:Rep R w (.sl s es) y):∃q cap,y = .slice q es.length cap:=by
 rcases h.ql with ⟨rfl,rfl⟩ | ⟨b,off,cap,rfl,_⟩ | ⟨rfl,ad,cap,rfl,_⟩
 ·exact ⟨_,_,rfl⟩
 ·exact ⟨_,_,rfl⟩
 ·exact ⟨_,_,rfl⟩
theorem IY {R:Reach} {x:AV} {ys:List Value} (h:eL R w x.cells ys):Rep R w x (if x.pj then .agg ⟨ys⟩ else ys.headD undef):=by
 cases x with
 | ag cs=>exact .ag h
 | _ =>
  simp only [AV.cells,AV.pj] at h ⊢
  cases h with
  | cons _ h1 h2=>cases h2;simpa using h1
theorem mw {R:Reach} {cs:List AV} {ys:List Value} {o n:Nat} {agg:Bool} {x:AV} (h:eL R w cs ys) (hp:gS cs o n agg=some x) (h1:agg=true∨n=1) :
  ((ys.drop o).take n).length=n∧Rep R w x (if agg then .agg ⟨(ys.drop o).take n⟩ else ((ys.drop o).take n).headD undef):=by
 have hlen:=h.length
 unfold gS at hp
 cases agg with
 | true =>
  simp only [if_true] at hp
  split at hp
  ·rename_i hle
   cases hp
   exact ⟨by simp;omega,.ag ((h.drop o).take n)⟩
  ·cases hp
 | false =>
  simp at h1
  subst h1
  simp at hp
  obtain ⟨y,tV,_,DD⟩:=h.get o x hp
  have gM:=(aC.1 tV).1
  refine ⟨by simp;omega,?_⟩
  have:(ys.drop o).take 1=[y]:=by
   rw [yz gM,(aC.1 tV).2]
  simpa [this] using DD
variable {o:Oper} {d:Nat} {K:Act→World→Prop} {Q:Exit→Act→World→Prop} (h:dU C D σ γ a w) (hd:o.dst=some d) (hl:d<C.nt)
include h hd hl
theorem zO {x:Operand} {r:eB} {t e:TypeId} {s:Nat} {es:List AV} (ho:o.op = .call { callee := .builtin .len,args:=#[x],argTypes:=#[t] }) (ht:C.P.underlying t=some (.slice e)) (hx:dh x r=true) (hY:small C.nt [x]=true)
  (hr:r.ev C.E σ = .sl s es) (hK:∀D' a' w',dU C D' (dJ σ d (.v (.int .i64 es.length))) (dJ γ d .no) a' w'→K a' w'):o.wp C.P a w K Q:=by
 have e1:=(h.jr hx hY).rep (by rw [hr];simp)
 rw [hr] at e1
 obtain ⟨q,cap,hq⟩:=e1.Bc
 have dX:(execOp a.eval o).run C.P w = .ok (.value (.int .i64 es.length)) w:=by
  simp [execOp,ho,hq,resolve,invoke,builtin,Builtin.len_,run_underlying ht,goInt]
 exact h.gZ hd hl dX (.v _) hK
theorem xM {x:Operand} {r:eB} {t:TypeId} {b:ByteArray} (ho:o.op = .call { callee := .builtin .len,args:=#[x],argTypes:=#[t] }) (ht:C.P.underlying t=some .string) (hx:dh x r=true) (hY:small C.nt [x]=true)
  (hr:r.ev C.E σ = .v (.string b)) (hK:∀D' a' w',dU C D' (dJ σ d (.v (.int .i64 b.data.toList.length))) (dJ γ d .no) a' w'→K a' w'):o.wp C.P a w K Q:=by
 have e1:=(h.jr hx hY).rep (by rw [hr];simp)
 rw [hr] at e1
 have dX:(execOp a.eval o).run C.P w = .ok (.value (.int .i64 b.data.toList.length)) w:=by
  rw [bsize]
  simp [execOp,ho,e1.ib,resolve,invoke,builtin,Builtin.len_,run_underlying ht,goInt]
 exact h.gZ hd hl dX (.v _) hK
omit h hd hl in
theorem gB (b off n:Nat):(⟨b,off,none⟩:Addr).add n=⟨b,off+n,none⟩:=by
 unfold Addr.add;split
 ·rename_i e;subst e;rfl
 ·rfl
theorem Jf {x y:Operand} {r q:eB} {t e:TypeId} {inf:TypeInfo} {s:Nat} {es:List AV} {k:IntKind} {i:Int} {el:AV} (ho:o.op = .indexAddr t x y) (ht:C.P.underlying t=some (.slice e)) (hi:C.P.info? e=some inf) (hz:inf.size=s)
  (hx:dh x r=true) (hy:dh y q=true) (hY:small C.nt [x]=true) (pn:small C.nt [y]=true)
  (hr:r.ev C.E σ = .sl s es) (hq:q.ev C.E σ = .v (.int k i)) (h0:0≤i) (Ag:es[i.toNat]?=some el) (hK:∀D' a' w',dU C D' (dJ σ d (.ro el)) (dJ γ d .no) a' w'→K a' w'):o.wp C.P a w K Q:=by
 have e1:=(h.jr hx hY).rep (by rw [hr];simp)
 have e2:=(h.jr hy pn).rep (by rw [hq];simp)
 rw [hr] at e1;rw [hq] at e2
 have gM:=(aC.1 Ag).1
 rcases e1.ql with ⟨rfl,_⟩ | ⟨b,off,cap,hv,_,_,hE⟩ | ⟨rfl,_⟩
 rotate_left 2
 ·simp at gM
 ·simp at gM
 ·have dX:(execOp a.eval o).run C.P w = .ok (.value (.pointer (some ⟨b,off+i.toNat * s,none⟩))) w:=by
   simp [execOp,ho,hv,e2.ib,Instr.indexAt,asIntOf,run_underlying ht,run_sizeOf hi,hz,h0,gB]
   omega
  exact h.gZ hd hl dX (.ro (hE.get _ _ Ag)) hK
theorem I7 {x y:Operand} {r q:eB} {t:TypeId} {b:ByteArray} {k:IntKind} {i:Int} {el:UInt8} (ho:o.op = .index t x y) (ht:C.P.underlying t=some .string)
  (hx:dh x r=true) (hy:dh y q=true) (hY:small C.nt [x]=true) (pn:small C.nt [y]=true)
  (hr:r.ev C.E σ = .v (.string b)) (hq:q.ev C.E σ = .v (.int k i)) (h0:0≤i) (Ag:b.data.toList[i.toNat]?=some el) (hK:∀D' a' w',dU C D' (dJ σ d (fQ el)) (dJ γ d .no) a' w'→K a' w'):o.wp C.P a w K Q:=by
 have e1:=(h.jr hx hY).rep (by rw [hr];simp)
 have e2:=(h.jr hy pn).rep (by rw [hq];simp)
 rw [hr] at e1;rw [hq] at e2
 have hb:=OX Ag
 have dX:(execOp a.eval o).run C.P w = .ok (.value (.int .u8 el.toNat)) w:=by
  simp [execOp,ho,e1.ib,e2.ib,Instr.index,asIntOf,run_underlying ht,h0,hb]
 exact h.gZ hd hl dX (.v _) hK
theorem Jh {x:Operand} {r:eB} {t:TypeId} {f o' n:Nat} {agg:Bool} {fs:Array Field} {fl:Field} {inf:TypeInfo} {cs:List AV} {s:AV} (ho:o.op = .field t x f) (ht:C.P.underlying t=some (.struct fs)) (hf:fs[f]?=some fl) (wx:fl.offset=o') (hi:C.P.info? fl.type=some inf) (hz:inf.size=n) (ha:kO C.P fl.type=some agg) (h1:agg=true∨n=1)
  (hx:dh x r=true) (hY:small C.nt [x]=true) (hr:r.ev C.E σ = .ag cs) (hp:gS cs o' n agg=some s) (hK:∀D' a' w',dU C D' (dJ σ d s) (dJ γ d .no) a' w'→K a' w'):o.wp C.P a w K Q:=by
 have e1:=(h.jr hx hY).rep (by rw [hr];simp)
 rw [hr] at e1
 obtain ⟨ys,hy,hL⟩:=e1.Dy
 obtain ⟨hlen,kk⟩:=mw hL hp h1
 have dX:(execOp a.eval o).run C.P w = .ok (.value (if agg then .agg ⟨(ys.drop o').take n⟩ else ((ys.drop o').take n).headD undef)) w:=by
  simp only [execOp,ho,hy,Instr.field,Sem.run_bind,run_underlying ht,Result.andThen_ok,hf,asAgg,Sem.run_pure,part,qm ha]
  cases agg with
  | true=>simp [run_sizeOf hi,hz,wx,List.extract_eq_take_drop]
  | false =>
   have hn:n=1:=by simpa using h1
   subst hn
   have gM:o'<ys.length:=by simp at hlen;omega
   rw [yz gM]
   simp [wx,aE gM]
 exact h.gZ hd hl dX kk hK
theorem Jr {x y:Operand} {r q:eB} {t e:TypeId} {nn s:Nat} {agg:Bool} {inf:TypeInfo} {cs:List AV} {k:IntKind} {i:Int} {el:AV} (ho:o.op = .index t x y) (ht:C.P.underlying t=some (.array nn e)) (hi:C.P.info? e=some inf) (hz:inf.size=s) (ha:kO C.P e=some agg) (h1:agg=true∨s=1)
  (hx:dh x r=true) (hy:dh y q=true) (hY:small C.nt [x]=true) (pn:small C.nt [y]=true)
  (hr:r.ev C.E σ = .ag cs) (hq:q.ev C.E σ = .v (.int k i)) (h0:0≤i) (hn:i<nn) (hp:gS cs (i.toNat * s) s agg=some el) (hK:∀D' a' w',dU C D' (dJ σ d el) (dJ γ d .no) a' w'→K a' w'):o.wp C.P a w K Q:=by
 have e1:=(h.jr hx hY).rep (by rw [hr];simp)
 have e2:=(h.jr hy pn).rep (by rw [hq];simp)
 rw [hr] at e1;rw [hq] at e2
 obtain ⟨ys,NP,hL⟩:=e1.Dy
 obtain ⟨hlen,kk⟩:=mw hL hp h1
 have dX:(execOp a.eval o).run C.P w = .ok (.value (if agg then .agg ⟨(ys.drop (i.toNat * s)).take s⟩ else ((ys.drop (i.toNat * s)).take s).headD undef)) w:=by
  simp only [execOp,ho,NP,e2.ib,Instr.index,asIntOf,Sem.run_bind,run_underlying ht,Result.andThen_ok,Sem.run_pure,h0,hn,and_self,if_true,run_sizeOf hi,hz,part,qm ha]
  cases agg with
  | true=>simp [run_sizeOf hi,hz,List.extract_eq_take_drop]
  | false =>
   have hn:s=1:=by simpa using h1
   subst hn
   rw [Nat.mul_one] at hlen ⊢
   have gM:i.toNat<ys.length:=by simp at hlen;omega
   rw [yz gM]
   simp [aE gM]
 exact h.gZ hd hl dX kk hK
theorem Jb {x:Operand} {r:eB} {t:TypeId} {inf:TypeInfo} {n:Nat} {agg:Bool} {s:AV} (ho:o.op = .load t x) (hi:C.P.info? t=some inf) (hz:inf.size=n) (ha:kO C.P t=some agg) (h1:agg=true∨n=1)
  (hx:dh x r=true) (hY:small C.nt [x]=true) (hr:r.ev C.E σ = .ro s) (pn:s.pj=agg) (QO:s.cells.length=n) (hK:∀D' a' w',dU C D' (dJ σ d s) (dJ γ d .no) a' w'→K a' w'):o.wp C.P a w K Q:=by
 have e1:=(h.jr hx hY).rep (by rw [hr];simp)
 rw [hr] at e1
 obtain ⟨b,off,s',hv,hA⟩:=e1.xC
 obtain ⟨ys,S7,hc,hL⟩:=hA.read
 have Qy:ys.length=n:=by rw [←hL.length,QO]
 have dX:(execOp a.eval o).run C.P w = .ok (.value (if agg then .agg ⟨ys⟩ else ys.headD undef)) w:=by
  simp only [execOp,ho,hv,Instr.loadAt,Instr.sureAddr,Sem.run_bind,Sem.run_pure,Result.andThen_ok,kG hi ha (hz ▸ h1) (Qy.trans hz.symm) hc]
 exact h.gZ hd hl dX (by rw [←pn];exact IY hL) hK
theorem Jg {x:Operand} {r:eB} {t:TypeId} {f o' n:Nat} {agg:Bool} {fs:Array Field} {fl:Field} {inf:TypeInfo} {cs:List AV} {s:AV} (ho:o.op = .fieldAddr t x f) (ht:C.P.underlying t=some (.struct fs)) (hf:fs[f]?=some fl) (wx:fl.offset=o') (hi:C.P.info? fl.type=some inf) (hz:inf.size=n) (hn:0<n) (h1:agg=true∨n=1)
  (hx:dh x r=true) (hY:small C.nt [x]=true) (hr:r.ev C.E σ = .ro (.ag cs)) (hp:gS cs o' n agg=some s) (hK:∀D' a' w',dU C D' (dJ σ d (.ro s)) (dJ γ d .no) a' w'→K a' w'):o.wp C.P a w K Q:=by
 have e1:=(h.jr hx hY).rep (by rw [hr];simp)
 rw [hr] at e1
 obtain ⟨b,off,s',hv,hA⟩:=e1.xC
 have jQ:inf.size≠0:=by omega
 have dX:(execOp a.eval o).run C.P w = .ok (.value (.pointer (some ⟨b,off+o',none⟩))) w:=by
  simp [execOp,ho,hv,Instr.fieldAt,Instr.sureAddr,run_underlying ht,hf,fieldPlace,run_sizeOf hi,jQ,gB,wx]
 refine h.gZ hd hl dX ?_ hK
 cases hA with
 | one n _ _ _ _=>simp [AV.pj] at n
 | ag _ hC =>
  unfold gS at hp
  cases agg with
  | true =>
   simp only [if_true] at hp
   split at hp
   ·cases hp
    exact .ro (.ag rfl ((hC.drop o').take n))
   ·cases hp
  | false =>
   simp at hp
   have gM:=(aC.1 hp).1
   have hD:=hC.drop o'
   rw [List.drop_eq_getElem_cons gM] at hD
   have hs:cs[o']=s:=(aC.1 hp).2
   rw [hs] at hD
   cases hD with
   | cons r c a s8 _ =>
    refine .ro (.one ?_ r c a s8)
    cases s with
    | ag _=>cases s8;simp [Value.oneCell'] at a
    | _=>rfl
theorem Hb {x:Operand} {r:eB} {s:AV} (ho:o.op = .nilCheck x) (hx:dh x r=true) (hY:small C.nt [x]=true) (hr:r.ev C.E σ = .ro s) (hK:∀D' a' w',dU C D' (dJ σ d (.ro s)) (dJ γ d .no) a' w'→K a' w'):o.wp C.P a w K Q:=by
 have e1:=(h.jr hx hY).rep (by rw [hr];simp)
 rw [hr] at e1
 obtain ⟨b,off,s',hv,hA⟩:=e1.xC
 have dX:(execOp a.eval o).run C.P w = .ok (.value (.pointer (some ⟨b,off,none⟩))) w:=by simp [execOp,ho,hv]
 exact h.gZ hd hl dX (.ro hA) hK
theorem Ji {x:Operand} {r:eB} {t:TypeId} {f m o' dd:Nat} {fs:Array Field} {fl:Field} {inf:TypeInfo} (ho:o.op = .fieldAddr t x f) (ht:C.P.underlying t=some (.struct fs)) (hf:fs[f]?=some fl) (wx:fl.offset=dd) (hi:C.P.info? fl.type=some inf) (hn:0<inf.size)
  (hx:dh x r=true) (hY:small C.nt [x]=true) (hr:r.ev C.E σ = .pt) (hg:r.gh γ = .ptr m o') (hK:∀D' a' w',dU C D' (dJ σ d .pt) (dJ γ d (.ptr m (o'+dd))) a' w'→K a' w'):o.wp C.P a w K Q:=by
 have e0:=h.jr hx hY
 have hv:=e0.gh (by rw [hr];simp) (by rw [hr];simp)
 rw [hg] at hv
 simp only [jR] at hv
 have jQ:inf.size≠0:=by omega
 have dX:(execOp a.eval o).run C.P w = .ok (.value (.pointer (some ⟨D.β m,o'+dd,none⟩))) w:=by
  simp [execOp,ho,hv,Instr.fieldAt,Instr.sureAddr,run_underlying ht,hf,fieldPlace,run_sizeOf hi,jQ,gB,wx]
 have hm:=h.mB r
 rw [hg] at hm
 exact h.val (g := .ptr m (o'+dd)) hd hl dX (.inr ⟨.pt _,fun _=>rfl⟩) rfl rfl hm hK
theorem I9 {x:Operand} {r:eB} {m o':Nat} (ho:o.op = .nilCheck x) (hx:dh x r=true) (hY:small C.nt [x]=true) (hr:r.ev C.E σ = .pt) (hg:r.gh γ = .ptr m o') (hK:∀D' a' w',dU C D' (dJ σ d .pt) (dJ γ d (.ptr m o')) a' w'→K a' w'):o.wp C.P a w K Q:=by
 have e0:=h.jr hx hY
 have hv:=e0.gh (by rw [hr];simp) (by rw [hr];simp)
 rw [hg] at hv
 simp only [jR] at hv
 have dX:(execOp a.eval o).run C.P w = .ok (.value (.pointer (some ⟨D.β m,o',none⟩))) w:=by simp [execOp,ho,hv]
 have hm:=h.mB r
 rw [hg] at hm
 exact h.val (g := .ptr m o') hd hl dX (.inr ⟨.pt _,fun _=>rfl⟩) rfl rfl hm hK
theorem Jd {x:Operand} {r:eB} {t:TypeId} {m o' n:Nat} {agg:Bool} {inf:TypeInfo} {cs:List AV} {ts:List (Nat × (Nat × Nat))} {s:AV} (ho:o.op = .load t x) (hi:C.P.info? t=some inf) (hz:inf.size=n) (ha:kO C.P t=some agg) (h1:agg=true∨n=1)
  (hx:dh x r=true) (hY:small C.nt [x]=true) (hr:r.ev C.E σ = .pt) (hg:r.gh γ = .ptr m o') (hm:γ m = .cl ts) (nh:σ m = .ag cs) (hp:gS cs o' n agg=some s)
  (hK:∀D' a' w',dU C D' (dJ σ d s) (dJ γ d (if agg then .no else match ts.find? (fun t=>t.1 == o') with | some (_,k,s) => .gb k s | none => .no)) a' w'→K a' w'):o.wp C.P a w K Q:=by
 have e0:=h.jr hx hY
 have hv:=e0.gh (by rw [hr];simp) (by rw [hr];simp)
 rw [hg] at hv
 simp only [jR] at hv
 obtain ⟨ws,td,Hu⟩:=h.mem m ts hm
 rw [nh] at td
 obtain ⟨elem,hh,hL⟩:=td.ag
 have J0:∀(j:Nat) (y:Value),(ws.take cs.length)[j]?=some y→ws[j]?=some y:=fun j y hj=>by
  rw [aR] at hj;split at hj
  ·exact hj
  ·cases hj
 have oD:agg=false→∀t∈ts,t.1=o'→(ws.take cs.length)[t.1]?=some (D.τ (lk t.2.1)):=fun ha t ht he=>by
  have gM:o'<cs.length:=by
   subst ha
   simp only [gS,bk,if_false] at hp
   exact (aC.1 hp).1
  rw [aR,ao (by omega)]
  exact Hu t ht
 generalize QC:ws.take cs.length=vs at hL oD J0
 obtain ⟨hlen,kk⟩:=mw hL hp h1
 have hc:∀j y,((vs.drop o').take n)[j]?=some y→w.cell? ⟨D.β m,o'+j,none⟩=some y:=by
  intro j y hj
  rw [aR] at hj
  split at hj
  ·rw [List.getElem?_drop] at hj
   have:=J0 _ _ hj
   simp only [World.cell?,hh]
   simpa using this
  ·cases hj
 have dX:(execOp a.eval o).run C.P w = .ok (.value (if agg then .agg ⟨(vs.drop o').take n⟩ else ((vs.drop o').take n).headD undef)) w:=by
  simp only [execOp,ho,hv,Instr.loadAt,Instr.sureAddr,Sem.run_bind,Sem.run_pure,Result.andThen_ok,kG hi ha (hz ▸ h1) (hlen.trans hz.symm) hc]
 have wA:=h.inv m
 rw [hm] at wA
 refine h.val hd hl dX (.inr ⟨kk,fun _=>?_⟩) ?_ ?_ ?_ hK
 ·cases agg with
  | true=>trivial
  | false =>
   simp only [if_false,bk]
   split
   ·rename_i q k s' hf
    have QZ:=List.mem_of_find?_eq_some hf
    have Lz:=List.find?_some hf
    simp at Lz
    subst Lz
    have:=oD rfl _ QZ rfl
    have hn:n=1:=by simpa using h1
    subst hn
    have gM:=(aC.1 this).1
    simp only [jR]
    rw [yz gM]
    have e:=(aC.1 this).2
    exact ⟨e,hL.one _ (List.getElem_mem gM)⟩
   ·trivial
 ·split
  ·rfl
  ·split <;> rfl
 ·split
  ·rfl
  ·split <;> rfl
 ·split
  ·trivial
  ·split
   ·rename_i hf;exact wA _ (List.mem_of_find?_eq_some hf)
   ·trivial
end
end Go.Eng
namespace Go.Eng
open Go.RowKit
theorem kW {P:Program} {t:TypeId} {s b:Nat} (h:jW P t s b=true):∃e i z,P.underlying t=some (.slice e)∧P.info? e=some i∧i.size=s∧i.bytes=b∧i.zero=some z∧z.cells.size=s∧0<s:=by
 unfold jW at h
 cases he:kL P t with
 | none=>simp [he] at h
 | some e =>
  simp [he] at h
  obtain ⟨h1,h0⟩:=h
  cases hi:P.info? e with
  | none=>simp [hi] at h1
  | some i =>
   simp [hi] at h1
   obtain ⟨⟨h1,h2⟩,h3⟩:=h1
   cases hz:i.zero with
   | none=>simp [hz] at h3
   | some z=>simp [hz] at h3;exact ⟨e,i,z,iA he,hi,h1,h2,hz,h3,h0⟩
theorem jq {P:Program} (g o:Nat) (t:TypeId) (fz:Nat × Nat):∀(vs:List Value) (i:Nat) (cur:Array Value) (w:World),w.heap[g]?=some (.cells cur t fz)→o+i+vs.length≤cur.size →
  (∀j,j<cur.size→¬(fz.1≤j∧j<fz.2))→(∀v∈vs,v.oneCell'=true) →
  (storeCells ⟨g,o,none⟩ vs i).run P w = .ok () (w.setRow g (cur.toList.take (o+i)++vs++cur.toList.drop (o+i+vs.length)).toArray)
 | [],i,cur,w,hg,_,_,_=>by
  simp only [storeCells,aO,aA,Nat.add_zero,List.take_append_drop,Array.toArray_toList]
  rw [setRow_self w g cur t fz hg]
  rfl
 | v :: rest,i,cur,w,hg,hl,hf,h1=>by
  have hi:o+i<cur.size:=by simp at hl;omega
  have Oz:(⟨g,o,none⟩:Addr).add i=⟨g,o+i,none⟩:=gB g o i
  have hcell:w.cell? ⟨g,o+i,none⟩=some cur[o+i]:=by simp [World.cell?,hg,hi]
  have Oo:w.frozen? ⟨g,o+i,none⟩=false:=by
   obtain ⟨f1,f2⟩:=fz
   have:=hf (o+i) hi
   simp only [World.frozen?,hg]
   simp only [Bool.and_eq_false_iff,decide_eq_false_iff_not]
   simp only at this
   omega
  have vu:(store ((⟨g,o,none⟩:Addr).add i) v).run P w = .ok () (w.setRow g (cur.setIfInBounds (o+i) v)):=by
   rw [Oz,run_store P w _ v _ (h1 v (by simp)),hcell]
   simp [Oo,setCell_eq_setRow w g (o+i) cur t fz v hg]
  have ih:=jq (P:=P) g o t fz rest (i+1) (cur.setIfInBounds (o+i) v) (w.setRow g (cur.setIfInBounds (o+i) v)) (setRow_heap w g cur _ t _ hg) (by simp at hl ⊢;omega) (by simpa using hf) (fun x hx=>h1 x (by simp [hx]))
  simp only [storeCells,Sem.run_bind,vu,Result.andThen_ok,ih,setRow_setRow]
  congr 3
  have e:=list_seg_step cur.toList (o+i) v rest (by simp at hl ⊢;omega)
  simpa [Array.toList_setIfInBounds,Nat.add_assoc] using e
theorem mm {R:Reach} {w:World} {x:AV} {v:Value} (h:Rep R w x v) (hp:x.plain=true):eL R w x.cells v.cells.toList:=by
 cases h with
 | v =>
  simp only [AV.plain] at hp
  simp only [AV.cells]
  cases v <;> simp [Value.oneCell'] at hp <;> exact .cons rfl (.v _) .nil
 | ag h=>exact h
 | nil s=>exact .cons rfl (.nil s) .nil
 | sl a b c d=>exact .cons rfl (.sl a b c d) .nil
 | em s h=>exact .cons rfl (.em s h) .nil
 | ro h=>exact .cons rfl (.ro h) .nil
 | tu=>simp [AV.plain] at hp
 | pt=>simp [AV.plain] at hp
 | el=>simp [AV.plain] at hp
 | ab=>simp [AV.plain] at hp
 | gv _=>simp [AV.plain] at hp
 | dead=>simp [AV.plain] at hp
section
variable {P:Program} {w:World}
def Source (P:Program) (w:World) (s:Nat) (x:Value) (m:Nat) (news:List Value):Prop :=
 (∀w',(Builtin.lenOf x).run P w' = .ok m w')∧(∀w':World,w'.heap=w.heap→(Builtin.firstCells s m x).run P w' = .ok ⟨news⟩ w')∧news.length=m * s∧∀v∈news,v.oneCell'=true
theorem mg {t u ty e:TypeId} {i:TypeInfo} {du:TypeDesc} (ht:P.underlying t=some (.slice e)) (hi:P.info? e=some i) (hu:P.underlying u=some du) (wJ:∀k,du ≠ .int k)
  {g n cap m:Nat} {cur:Array Value} {ce:TypeId} {fz:Nat × Nat} {x:Value} {news:List Value} (hg:w.heap[g]?=some (.cells cur ce fz)) (hf:∀j,j<cur.size→¬(fz.1≤j∧j<fz.2))
  (hx:Source P w i.size x m news) (nO:n+m≤cap) (qy:cur.size=cap * i.size) :
  (Builtin.append_ #[t,u] ty #[.slice (some ⟨g,0,none⟩) n cap,x]).run P w =
   .ok (.slice (some ⟨g,0,none⟩) (n+m) cap) (w.setRow g (cur.toList.take (n * i.size)++news++cur.toList.drop (n * i.size+news.length)).toArray):=by
 obtain ⟨h1,h2,h3,h4⟩:=hx
 have hle:n * i.size+news.length≤cur.size:=by rw [h3,qy,←Nat.add_mul];exact bu _ nO
 have vu:=jq (P:=P) g (n * i.size) ce fz news 0 cur w hg (by simpa using hle) hf h4
 simp only [Nat.add_zero] at vu
 have hz:(match du with | .int _=>true | _=>false)=false:=by cases du <;> first | rfl | exact (wJ _ rfl).elim
 simp only [Builtin.append_,List.getElem?_toArray,List.getElem?_cons_zero,List.getElem?_cons_succ,Sem.run_bind,run_underlying ht,run_underlying hu,Result.andThen_ok,run_sizeOf hi,Sem.run_pure,hz,bk,if_false,h1,nO,if_true,aX,h2 w rfl]
 simp [gB,vu]
theorem mh {t u ty e:TypeId} {i:TypeInfo} {z:Value} {du:TypeDesc} (ht:P.underlying t=some (.slice e)) (hi:P.info? e=some i) (hz:i.zero=some z) (hu:P.underlying u=some du) (wJ:∀k,du ≠ .int k)
  {q:Option Addr} {n cap m:Nat} {x:Value} {lQ news:List Value} (ho:∀w':World,w'.heap=w.heap→(Builtin.firstCells i.size n (.slice q n cap)).run P w' = .ok ⟨lQ⟩ w')
  (hx:Source P w i.size x m news) (hg:cap<n+m) (xz:n+m≤maxLen) (hb:(n+m) * i.bytes≤140737488355328) :
  (Builtin.append_ #[t,u] ty #[.slice q n cap,x]).run P w =
   .ok (.slice (some ⟨w.heap.size,0,none⟩) (n+m) (grownCap w (n+m) cap e))
    (w.drew.alloc (.cells ((⟨lQ⟩:Array Value)++⟨news⟩++Builtin.zeroCells z.cells (grownCap w (n+m) cap e - (n+m))) e)):=by
 obtain ⟨h1,h2,h3,h4⟩:=hx
 have hn:¬(n+m≤cap):=by omega
 have OD:¬(9223372036854775807<((n:Int)+(m:Int))):=by simp only [maxLen] at xz;omega
 have OE:¬(281474976710656<Builtin.nextslicecap (n+m) cap * i.bytes):=by
  have:=growslice_fits hg hb;omega
 have KA:(match du with | .int _=>true | _=>false)=false:=by cases du <;> first | rfl | exact (wJ _ rfl).elim
 simp [Builtin.append_,run_underlying ht,run_underlying hu,KA,sizeOf,typeInfo,zeroValue,hi,hz,h1,hn,OD,OE,Question.forced,ho w.drew rfl,h2 w.drew rfl,newRow,grownCap]
 congr 2
 apply Array.ext'
 simp [aU]
end
section
variable {C:Ctx} {D:kV} {σ:Sg} {γ:Ga} {a:Act} {w:World}
theorem dU.newRow (h:dU C D σ γ a w) {w':World} {cur:Array Value} {e:TypeId} {fz:Nat × Nat} {s cap:Nat} {es:List AV} {ys:List Value}
  (os:w'.os=w.os) (tape:w'.tape=w.tape) (out:w'.output=w.output) (hh:w'.heap=w.heap.push (.cells cur e fz))
  (tX:∀x∈es,x.cells.length=s) (hL:eL D.R w (es.flatMap AV.cells) ys) (HP:∀(j:Nat) (y:Value),ys[j]?=some y→cur[j]?=some y) (CP:es.length≤cap) (Ow:cap≤maxLen) :
  ∃R',dU C { D with R:=R' } σ γ a w'∧Rep R' w' (.sl s es) (.slice (some ⟨w.heap.size,0,none⟩) es.length cap)∧(∀o,es.length * s≤o→¬R' w.heap.size o) ∧
   (∀b o,D.R b o→R' b o)∧gF D.R w R' w'∧w'.heap[w.heap.size]?=some (.cells cur e fz):=by
 have rn:w'.heap.size=w.heap.size+1:=by rw [hh];simp
 have hold:∀b,b<w.heap.size→w'.heap[b]?=w.heap[b]?:=fun b hb=>by rw [hh,Array.getElem?_push,ah (by omega)]
 have jP:w'.heap[w.heap.size]?=some (.cells cur e fz):=by rw [hh];simp
 let R':Reach:=fun b o=>D.R b o∨(b=w.heap.size∧o<es.length * s)
 have hS:=h.grow (w':=w') (R':=R') os tape out (by omega) hold (fun b o hr => .inl hr) (fun b o hr=>hr.imp id fun e=>by omega)
  (fun b o hr=>by
   rcases hr with hr | ⟨e,_⟩
   ·exact Nat.lt_trans (h.ns b o hr) (by omega)
   ·omega)
 have hk:gF D.R w R' w':=fun b o hr=>⟨.inl hr,World.cell?_of_block (w:=w) (hold b (h.ns b o hr))⟩
 refine ⟨R',hS,?_,fun o ho hr=>?_,fun b o hr => .inl hr,hk,jP⟩
 ·refine .sl rfl CP Ow (iU.write tX (hL.mono hk) (fun j hj => .inr ⟨rfl,by omega⟩) (fun j y hy=>?_))
  simp only [World.cell?,jP,Nat.zero_add]
  exact HP j y hy
 ·rcases hr with hr | ⟨_,hr⟩
  ·have:=h.ns _ _ hr;omega
  ·omega
theorem Source.BR {P:Program} {R:Reach} {s:Nat} {fs:List AV} {x:Value} (h:Rep R w (.sl s fs) x):∃news,Source P w s x fs.length news∧eL R w (fs.flatMap AV.cells) news∧∀e∈fs,e.cells.length=s:=by
 rcases h.ql with ⟨rfl,rfl⟩ | ⟨b,off,cap,rfl,_,_,hE⟩ | ⟨rfl,ad,cap,rfl,_⟩
 rotate_left 2
 ·exact ⟨[],⟨fun _=>rfl,fun w' _=>run_firstCells_some (P:=P) w' s 0 ad 0 cap [] (by simp) (fun j v hj=>by simp at hj),by simp,by simp⟩,.nil,by simp⟩
 ·exact ⟨[],⟨fun _=>rfl,fun _ _=>rfl,by simp,by simp⟩,.nil,by simp⟩
 ·obtain ⟨ys,h1,h2,h3,h4⟩:=hE.cells
  refine ⟨ys,⟨fun _=>rfl,fun w' hw=>?_,h1,h3.one⟩,h3,h4⟩
  exact run_firstCells_some (P:=P) w' s fs.length ⟨b,off,none⟩ fs.length cap ys h1 (fun j v hj=>by rw [gB];rw [World.cell?_of_block (w:=w) (by rw [hw])];exact h2 j v hj)
theorem kM (l:List UInt8):(l.map fQ).flatMap AV.cells=l.map fQ:=by
 induction l with
 | nil=>rfl
 | cons b l ih=>simp [ih];rfl
theorem mY {R:Reach} (l:List UInt8):eL R w (l.map fQ) (l.map fun b => .int .u8 b.toNat):=by
 induction l with
 | nil=>exact .nil
 | cons b l ih=>exact .cons rfl (.v _) ih
theorem Source.of_string {P:Program} (b:ByteArray):Source P w 1 (.string b) b.data.toList.length (b.data.toList.map fun b => .int .u8 b.toNat):=by
 refine ⟨fun _=>?_,fun w' _=>?_,by simp,by simp;exact fun _ _=>rfl⟩
 ·rw [bsize];rfl
 ·have:b.extract 0 b.size=b:=by simp
  simp only [Builtin.firstCells,bsize,this,Sem.run_pure]
  congr 1
  apply Array.ext'
  simp
theorem dU.append (h : dU C D σ γ a w) {P : Program} {t u ty e : TypeId} {i : TypeInfo} {z : Value} {du : TypeDesc} (ht : P.underlying t = some (.slice e)) (hi : P.info? e = some i) (hz : i.zero = some z) (Cu : z.cells.size = i.size) (hu : P.underlying u = some du) (wJ : ∀ k, du ≠ .int k)
    {x0 x : Value} {es fs : List AV} {news : List Value} (hr : Rep D.R w (.sl i.size es) x0) (J8 : gG D.R w x0 i.size) (qw : ∀ g, x0.ownBlock = some g → C.lR g ∧ ∀ key, gC D γ key ≠ some g)
    (hx : Source P w i.size x fs.length news) (hL : eL D.R w (fs.flatMap AV.cells) news) (qY : ∀ e ∈ fs, e.cells.length = i.size) (xz : es.length + fs.length ≤ maxLen) (hb : (es.length + fs.length) * i.bytes ≤ 140737488355328) :
    ∃ v w' R', (Builtin.append_ #[t, u] ty #[x0, x]).run P w = .ok v w' ∧ dU C { D with R := R' } σ γ a w' ∧ Rep R' w' (.sl i.size (es ++ fs)) v ∧ gG R' w' v i.size ∧ gF D.R w R' w' ∧
      ∀ g, v.ownBlock = some g → C.lR g ∧ ∀ key, gC D γ key ≠ some g := by
  have wy := hx.2.2.1
  -- the row KV
  have grow : ∀ (q : Option Addr) (cap : Nat) (lQ : List Value), cap < es.length + fs.length → (∀ w' : World, w'.heap = w.heap → (Builtin.firstCells i.size es.length (.slice q es.length cap)).run P w' = .ok ⟨lQ⟩ w') →
      eL D.R w (es.flatMap AV.cells) lQ → (∀ e ∈ es, e.cells.length = i.size) → lQ.length = es.length * i.size →
      ∃ v w' R', (Builtin.append_ #[t, u] ty #[.slice q es.length cap, x]).run P w = .ok v w' ∧ dU C { D with R := R' } σ γ a w' ∧ Rep R' w' (.sl i.size (es ++ fs)) v ∧ gG R' w' v i.size ∧ gF D.R w R' w' ∧
        ∀ g, v.ownBlock = some g → C.lR g ∧ ∀ key, gC D γ key ≠ some g := by
    intro q cap lQ gM ho ER tX sE
    have dX := mh (ty := ty) ht hi hz hu wJ ho hx gM xz hb
    have za := grownCap_ge w (es.length + fs.length) cap e
    have hle := grownCap_le_maxLen w (es.length + fs.length) cap e xz
    obtain ⟨R', hS, hR, hn, _, hk, hh⟩ := h.newRow (w' := w.drew.alloc (.cells ((⟨lQ⟩ : Array Value) ++ ⟨news⟩ ++ Builtin.zeroCells z.cells (grownCap w (es.length + fs.length) cap e - (es.length + fs.length))) e))
      (es := es ++ fs) (s := i.size) (ys := lQ ++ news) (cap := grownCap w (es.length + fs.length) cap e) rfl rfl rfl rfl
      (fun y hy => by rcases List.mem_append.1 hy with hy | hy; · exact tX y hy
                      · exact qY y hy)
      (by rw [List.flatMap_append]; exact ER.append hL)
      (fun j y hj => by
        rw [Array.getElem?_append_left (by simp; have := (aC.1 hj).1; simpa using this)]
        simpa using hj) (by simpa using za) hle
    rw [aw] at hR hn
    refine ⟨_, _, R', dX, hS, hR, .inr ⟨_, _, _, _, _, _, rfl, hh, by simp, ?_, za, hle, hn⟩, hk, fun g hg => ?_⟩
    · simp only [Array.size_append, List.size_toArray, size_zeroCells, Cu, sE, wy, ← Nat.add_mul]
      congr 1; omega
    · simp [Value.ownBlock] at hg
      subst hg
      exact ⟨.inr h.ext.size, fun key hk => by have := h.lt hk; omega⟩
  rcases hr.GC J8 with ⟨rfl, rfl⟩ | ⟨b, off, cap, rfl, tc, zb, hE⟩
  · by_cases hm : fs.length = 0
    · have HL : fs = [] := bm hm
      subst HL
      refine ⟨.slice none 0 0, w, D.R, ?_, by cases D; exact h, .nil _, .inl rfl, gF.refl _ _, by simp [Value.ownBlock]⟩
      obtain ⟨h1, h2, h3, h4⟩ := hx
      have KA : (match du with | .int _ => true | _ => false) = false := by cases du <;> first | rfl | exact (wJ _ rfl).elim
      have te := h2 w rfl
      simp only [aA] at h1 te
      simp [Builtin.append_, run_underlying ht, run_underlying hu, KA, sizeOf, typeInfo, hi, h1, te]
    · exact grow none 0 [] (by simp; omega) (fun _ _ => rfl) .nil (by simp) (by simp)
  · rcases J8 with e0 | ⟨g, n, ym, cur, ce, fz, e0, hg, hfz, hcs, Ob, Rl, pQ⟩
    · cases e0
    · cases e0
      obtain ⟨lQ, sE, Pq, ER, tX⟩ := hE.cells
      simp only [Nat.zero_add] at Pq
      by_cases nO : es.length + fs.length ≤ cap
      · obtain ⟨pr, qW⟩ := qw b rfl
        have dX := mg (ty := ty) ht hi hu wJ hg hfz hx nO hcs
        have hle : (es.length + fs.length) * i.size ≤ cap * i.size := bu _ nO
        rw [Nat.add_mul] at hle
        let mX : Array Value := (cur.toList.take (es.length * i.size) ++ news ++ cur.toList.drop (es.length * i.size + news.length)).toArray
        have KF : ∀ j, j < es.length * i.size → mX[j]? = cur[j]? := fun j hj => by
          have h1 : j < (cur.toList.take (es.length * i.size)).length := by simp; omega
          simp only [mX, List.getElem?_toArray, aU]
          rw [List.getElem?_append_left h1, aR, ao hj]; simp
        have Kh : ∀ j y, news[j]? = some y → mX[es.length * i.size + j]? = some y := fun j y hj => by
          have h1 : (cur.toList.take (es.length * i.size)).length = es.length * i.size := by simp; omega
          have h2 := (aC.1 hj).1
          simp only [mX, List.getElem?_toArray, aU]
          rw [aS (by omega), h1, Nat.add_sub_cancel_left, List.getElem?_append_left h2]; exact hj
        have hcell : ∀ j, (w.setRow b mX).cell? ⟨b, j, none⟩ = mX[j]? := fun j => cell_setRow_same w b j cur mX ce fz hg
        let R' : Reach := fun c o => D.R c o ∨ (c = b ∧ o < (es.length + fs.length) * i.size)
        have hk : gF D.R w R' (w.setRow b mX) := fun c o s8 => ⟨.inl s8, by
          by_cases Ps : c = b
          · subst Ps
            have ho : o < es.length * i.size := by
              rcases Nat.lt_or_ge o (es.length * i.size) with ho | ho
              · exact ho
              · exact (pQ o ho s8).elim
            rw [hcell, KF o ho]
            simp [World.cell?, hg]
          · exact cell_setRow_other w b mX ⟨c, o, none⟩ Ps⟩
        have HS : b < w.heap.size := (Array.getElem?_eq_some_iff.1 hg).1
        have hS := h.world (w' := w.setRow b mX) (R' := R') rfl rfl rfl (by simp) (fun c hc Ke => setRow_other w b c mX (fun e => by
            subst e
            rcases Ke with ⟨key, s9⟩ | Ke
            · exact qW key s9
            · exact Ke pr)) hk
          (fun c o s8 => s8.imp id fun ⟨e, _⟩ => by subst e; exact ⟨pr, qW⟩)
          (fun c o s8 => by
            rw [setRow_size]
            rcases s8 with s8 | ⟨e, _⟩
            · exact h.ns c o s8
            · omega)
        refine ⟨_, _, R', dX, hS, ?_, .inr ⟨_, _, _, _, _, _, rfl, setRow_heap w b cur mX ce fz hg, ?_, ?_, nO, zb, fun o ho s8 => ?_⟩, hk, fun g' mN => ?_⟩
        · rw [← aw]
          refine .sl rfl (by simpa using nO) zb ?_
          refine (hE.mono hk).append (iU.write qY (hL.mono hk) (fun j hj => .inr ⟨rfl, ?_⟩) (fun j y hj => ?_))
          · rw [Nat.add_mul]; omega
          · rw [hcell, Nat.zero_add]; exact Kh j y hj
        · intro o ho
          refine hfz o ?_
          simp [mX] at ho
          omega
        · simp [mX]; omega
        · rcases s8 with s8 | ⟨_, s8⟩
          · exact pQ o (by rw [Nat.add_mul] at ho; omega) s8
          · omega
        · simp [Value.ownBlock] at mN
          subst mN
          exact ⟨pr, qW⟩
      · refine grow (some ⟨b, 0, none⟩) cap lQ (by omega) (fun w' hw => ?_) ER tX sE
        exact run_firstCells_some (P := P) w' i.size es.length ⟨b, 0, none⟩ es.length cap lQ sE (fun j v hj => by
          rw [gB, Nat.zero_add, World.cell?_of_block (w := w) (by rw [hw])]; exact Pq j v hj)
end
end Go.Eng
namespace Go.Eng
open Go.RowKit
theorem ma {X:Type} (σ:Nat→X) {a b:Nat} (x y:X) (h:a≠b):dJ (dJ σ a x) b y=dJ (dJ σ b y) a x:=by
 funext k
 simp only [dJ]
 by_cases h1:k=a
 ·subst h1;simp [h]
 ·by_cases h2:k=b
  ·subst h2;simp [Ne.symm h]
  ·simp [h1,h2]
theorem Ik {s:ByteArray} {l:List UInt8} (h:s.data.toList=l):s=⟨⟨l⟩⟩:=by
 cases s with
 | mk d=>cases d with
  | mk t=>simp at h;rw [h]
section
variable {C:Ctx} {D:kV} {σ:Sg} {γ:Ga} {a:Act} {w:World}
theorem dU.qp (h:dU C D σ γ a w) {d k s:Nat} {v:Value} {x:AV} (hd:d<C.nt) (hk:γ (lk k) = .no) (hr:Rep D.R w x v) (ht:gG D.R w v s) (hg:∀g,v.ownBlock=some g→C.lR g∧∀key,gC D γ key≠some g) :
  dU C { D with τ:=dJ D.τ (lk k) v } (cQ σ [d,lk k] [x,.dead]) (cQ γ [d,lk k] [.gb k s,.live s]) (a.put (some d) v) w:=by
 have h1:=h.uK hk ht hg
 have h2:=h1.dead (k:=lk k) (by rw [bI];rfl)
 refine h2.put (g := .gb k s) hd (.inr ⟨hr,?_⟩) rfl rfl ?_
 ·intro _;show v=dJ D.τ (lk k) v (lk k)∧v.oneCell'=true
  rw [bI]
  exact ⟨rfl,by rcases ht with rfl | ⟨_,_,_,_,_,_,rfl,_⟩ <;> rfl⟩
 ·show (dJ γ (lk k) (.live s) (lk k)).fL=true
  rw [bI];rfl
variable {o:Oper} {d:Nat} {K:Act→World→Prop} {Q:Exit→Act→World→Prop} (h:dU C D σ γ a w) (hd:o.dst=some d) (hl:d<C.nt)
include h hd hl
theorem FF {k s:Nat} (ho:o.op = .move (.const (.slice none 0 0))∨o.op = .assign (.const (.slice none 0 0))) (hk:γ (lk k) = .no)
  (hK:∀D' a' w',dU C D' (cQ σ [d,lk k] [.sl s [],.dead]) (cQ γ [d,lk k] [.gb k s,.live s]) a' w'→K a' w'):o.wp C.P a w K Q:=by
 have hr:(execOp a.eval o).run C.P w = .ok (.value (.slice none 0 0)) w:=by rcases ho with e | e <;> simp [execOp,e,Act.eval]
 unfold Oper.wp
 rw [hr,Oper.upon_value,hd]
 exact hK _ _ _ (h.qp hl hk (.nil s) (.inl rfl) (by simp [Value.ownBlock]))
omit h in
theorem dU.AZ {D':kV} {w':World} {v:Value} {s:AV} (hr:(execOp a.eval o).run C.P w = .ok (.value v) w') (hS:dU C D' σ γ a w') (hs:Rep D'.R w' s v)
  (hK:∀D' a' w',dU C D' (dJ σ d s) (dJ γ d .no) a' w'→K a' w'):o.wp C.P a w K Q:=by
 unfold Oper.wp
 rw [hr,Oper.upon_value,hd]
 exact hK _ _ _ (hS.put hl (.plain hs) rfl rfl trivial)
theorem yN {x:Operand} {lo hi:Option Operand} {r:eB} {t e:TypeId} {inf:TypeInfo} {s:Nat} {es:List AV} {l u:Nat} (ho:o.op = .slice t x lo hi none) (ht:C.P.underlying t=some (.slice e)) (ta:C.P.info? e=some inf) (hz:inf.size=s)
  (hx:dh x r=true) (hY:small C.nt [x]=true) (hr:r.ev C.E σ = .sl s es)
  (sE:(lo=none∧l=0)∨∃y k,lo=some y∧a.eval y = .int k (l:Int)) (LB:(hi=none∧u=es.length)∨∃y k,hi=some y∧a.eval y = .int k (u:Int)) (h1:l≤u) (h2:u≤es.length)
  (hK:∀D' a' w',dU C D' (dJ σ d (.sl s ((es.take u).drop l))) (dJ γ d .no) a' w'→K a' w'):o.wp C.P a w K Q:=by
 have e1:=(h.jr hx hY).rep (by rw [hr];simp)
 rw [hr] at e1
 have hb:∀cap,es.length≤cap→(Instr.sliceBounds true es.length cap (lo.map a.eval) (hi.map a.eval) none).run C.P w = .ok (l,u,cap) w:=by
  intro cap tc
  have hu:u≤cap:=by omega
  unfold Instr.sliceBounds
  rcases sE with ⟨rfl,rfl⟩ | ⟨y,k,rfl,hy⟩ <;> rcases LB with ⟨rfl,rfl⟩ | ⟨y',k',rfl,NP⟩ <;>
   simp [Instr.sliceBound,asIntOf, *]
 rcases e1.ql with ⟨rfl,hv⟩ | ⟨b,off,cap,hv,tc,zb,hE⟩ | ⟨rfl,ad,cap,hv,zb⟩
 rotate_left 2
 ·have Oj:l=0:=by simp at h2;omega
  have FN:u=0:=by simpa using h2
  have Ah:=hb cap (by simp)
  have dX:(execOp a.eval o).run C.P w = .ok (.value (.slice (some ad) 0 cap)) w:=by
   simp only [aA] at Ah
   simp only [execOp,ho,hv,Instr.sliceAt,Instr.slice,Sem.run_bind,run_underlying ht,Result.andThen_ok,Option.map_none,Ah,run_sizeOf ta,Sem.run_pure,Oj,FN]
   simp [Addr.add]
  refine h.gZ hd hl dX ?_ hK
  simp only [List.take_nil,List.drop_nil]
  exact .em s zb
 ·have Oj:l=0:=by simp at h2;omega
  have FN:u=0:=by simpa using h2
  have Ah:=hb 0 (by simp)
  have dX:(execOp a.eval o).run C.P w = .ok (.value (.slice none 0 0)) w:=by
   simp only [aA] at Ah
   simp only [execOp,ho,hv,Instr.sliceAt,Instr.slice,Sem.run_bind,run_underlying ht,Result.andThen_ok,Option.map_none,Ah,run_sizeOf ta,Sem.run_pure,Oj,FN]
   simp
  refine h.gZ hd hl dX ?_ hK
  simp only [List.take_nil,List.drop_nil]
  exact .nil s
 ·have dX:(execOp a.eval o).run C.P w = .ok (.value (.slice (some ⟨b,if cap=l then off else off+l * s,none⟩) (u - l) (cap - l))) w:=by
   simp only [execOp,ho,hv,Instr.sliceAt,Instr.slice,Sem.run_bind,run_underlying ht,Result.andThen_ok,Option.map_none,hb cap tc,run_sizeOf ta,Sem.run_pure,hz]
   split <;> simp [*,gB]
  have hlen:((es.take u).drop l).length=u - l:=by simp;omega
  refine h.gZ hd hl dX ?_ hK
  rw [←hlen]
  refine .sl rfl (by rw [hlen];omega) (by omega) ?_
  by_cases hc:cap=l
  ·have:(es.take u).drop l=[]:=bm (by rw [hlen];omega)
   rw [this];exact .nil _ _ _
  ·rw [ah hc]
   exact (hE.take u).drop l
theorem yM {x:Operand} {lo hi:Option Operand} {r:eB} {t:TypeId} {b:ByteArray} {l u:Nat} (ho:o.op = .slice t x lo hi none) (ht:C.P.underlying t=some .string)
  (hx:dh x r=true) (hY:small C.nt [x]=true) (hr:r.ev C.E σ = .v (.string b))
  (sE:(lo=none∧l=0)∨∃y k,lo=some y∧a.eval y = .int k (l:Int)) (LB:(hi=none∧u=b.data.toList.length)∨∃y k,hi=some y∧a.eval y = .int k (u:Int)) (h1:l≤u) (h2:u≤b.data.toList.length)
  (hK:∀D' a' w',dU C D' (dJ σ d (.v (.string ⟨⟨(b.data.toList.take u).drop l⟩⟩))) (dJ γ d .no) a' w'→K a' w'):o.wp C.P a w K Q:=by
 have e1:=(h.jr hx hY).rep (by rw [hr];simp)
 rw [hr] at e1
 rw [bsize] at LB h2
 have hb:(Instr.sliceBounds false b.size b.size (lo.map a.eval) (hi.map a.eval) none).run C.P w = .ok (l,u,b.size) w:=by
  unfold Instr.sliceBounds
  rcases sE with ⟨rfl,rfl⟩ | ⟨y,k,rfl,hy⟩ <;> rcases LB with ⟨rfl,rfl⟩ | ⟨y',k',rfl,NP⟩ <;>
   simp [Instr.sliceBound,asIntOf, *]
 have dX:(execOp a.eval o).run C.P w = .ok (.value (.string (b.extract l u))) w:=by
  simp only [execOp,ho,e1.ib,Instr.sliceAt,Instr.slice,Sem.run_bind,run_underlying ht,Result.andThen_ok,Option.map_none,hb,Sem.run_pure]
  simp [hb]
 have he:b.extract l u=⟨⟨(b.data.toList.take u).drop l⟩⟩:=Ik (by rw [Lib.extract_data,List.drop_take])
 rw [he] at dX
 exact h.gZ hd hl dX (.v _) hK
theorem Jm {x:Operand} {r:eB} {t u e:TypeId} {l:List UInt8} (ho:o.op = .convert t u x) (ht:C.P.underlying t=some (.slice e)) (he:C.P.underlying e=some (.int .u8)) (hu:C.P.underlying u=some .string)
  (hx:dh x r=true) (hY:small C.nt [x]=true) (hr:r.ev C.E σ = .sl 1 (l.map fQ)) (hK:∀D' a' w',dU C D' (dJ σ d (.v (.string ⟨⟨l⟩⟩))) (dJ γ d .no) a' w'→K a' w'):o.wp C.P a w K Q:=by
 have e1:=(h.jr hx hY).rep (by rw [hr];simp)
 rw [hr] at e1
 have dX:(execOp a.eval o).run C.P w = .ok (.value (.string ⟨⟨l⟩⟩)) w:=by
  rcases e1.ql with ⟨hn,hv⟩ | ⟨b,off,cap,hv,tc,zb,hE⟩ | ⟨hn,ad,cap,hv,zb⟩
  rotate_left 2
  ·have:l=[]:=by simpa using hn
   subst this
   have hc:=run_convert_bytes_back (P:=C.P) w t u e ad cap [] ht he hu (fun j hj=>by simp at hj)
   simp only [aA] at hc
   simp only [execOp,ho,hv,Sem.run_bind,hc,Result.andThen_ok,Sem.run_pure]
  ·have:l=[]:=by simpa using hn
   subst this
   simp only [execOp,ho,hv,Sem.run_bind,run_convert_bytes_nil w t e ht he 0 0 u hu,Result.andThen_ok,Sem.run_pure]
   rfl
  ·obtain ⟨ys,h1,h2,h3,h4⟩:=hE.cells
   rw [kM] at h3
   rw [aN] at hv
   have hc:=run_convert_bytes_back (P:=C.P) w t u e ⟨b,off,none⟩ cap l ht he hu (fun j hj=>by
    rw [gB]
    obtain ⟨y,tV,_,DD⟩:=h3.get j (fQ l[j]) (by simp [hj])
    rw [h2 j y tV,DD.ib])
   simp only [execOp,ho,hv,Sem.run_bind,hc,Result.andThen_ok,Sem.run_pure]
 exact h.gZ hd hl dX (.v _) hK
omit hd hl in
theorem dU.tt {b:ByteArray} {u e:TypeId} {t:TypeId} (ht:C.P.underlying t=some .string) (hu:C.P.underlying u=some (.slice e)) (he:C.P.underlying e=some (.int .u8)) (hb:b.data.toList.length≤maxLen) :
  ∃v w' R',(convert t u (.string b)).run C.P w = .ok v w'∧dU C { D with R:=R' } σ γ a w'∧Rep R' w' (.sl 1 (b.data.toList.map fQ)) v∧gG R' w' v 1∧gF D.R w R' w' ∧
   ∀g,v.ownBlock=some g→C.lR g∧∀key,gC D γ key≠some g:=by
 have dX:=run_bytes_of_string (P:=C.P) w t u e b ht hu he
 have za:=grownCap_ge w b.size 0 e
 have hle:=grownCap_le_maxLen w b.size 0 e (by rwa [bsize] at hb)
 obtain ⟨R',hS,hR,hn,_,hk,hh⟩:=h.newRow (w':=w.drew.alloc (.cells (bytesRow b (grownCap w b.size 0 e)) e ((bytesRow b (grownCap w b.size 0 e)).size,(bytesRow b (grownCap w b.size 0 e)).size+1)))
  (es:=b.data.toList.map fQ) (s:=1) (ys:=b.data.toList.map fun x => .int .u8 x.toNat) (cap:=grownCap w b.size 0 e) rfl rfl rfl rfl
  (fun y hy=>by obtain ⟨x,_,rfl⟩:=aT.1 hy;rfl) (by rw [kM];exact mY _)
  (fun j y hj=>by
   have gM:=(aC.1 hj).1
   unfold bytesRow
   rw [Array.getElem?_append_left (by simp at gM ⊢;exact gM)]
   simpa using hj) (by simp only [aN,bsize];exact za) hle
 simp only [aN,bsize] at hR hn
 have rn:(bytesRow b (grownCap w b.size 0 e)).size=grownCap w b.size 0 e * 1:=by
  have:b.data.size=b.size:=rfl
  simp only [bytesRow,Array.size_append,Array.size_map,Array.size_replicate,this];omega
 refine ⟨_,_,R',dX,hS,hR,.inr ⟨_,_,_,_,_,_,rfl,hh,by simp only;intro o ho;omega,rn,za,hle,hn⟩,hk,fun g hg=>?_⟩
 simp [Value.ownBlock] at hg
 subst hg
 exact ⟨.inr h.ext.size,fun key hk=>by have:=h.lt hk;omega⟩
theorem I8 {x:Operand} {r:eB} {t u e:TypeId} {b:ByteArray} (ho:o.op = .convert t u x) (ht:C.P.underlying t=some .string) (hu:C.P.underlying u=some (.slice e)) (he:C.P.underlying e=some (.int .u8))
  (hx:dh x r=true) (hY:small C.nt [x]=true) (hr:r.ev C.E σ = .v (.string b)) (hb:b.data.toList.length≤maxLen) (hK:∀D' a' w',dU C D' (dJ σ d (.sl 1 (b.data.toList.map fQ))) (dJ γ d .no) a' w'→K a' w'):o.wp C.P a w K Q:=by
 have e1:=(h.jr hx hY).rep (by rw [hr];simp)
 rw [hr] at e1
 obtain ⟨v,w',R',dX,hS,hR,_⟩:=h.tt ht hu he hb
 exact dU.AZ hd hl (v:=v) (w':=w') (by simp only [execOp,ho,e1.ib,Sem.run_bind,dX,Result.andThen_ok,Sem.run_pure]) hS hR hK
theorem G2 {x:Operand} {r:eB} {t u e:TypeId} {b:ByteArray} {k:Nat} (ho:o.op = .convert t u x) (ht:C.P.underlying t=some .string) (hu:C.P.underlying u=some (.slice e)) (he:C.P.underlying e=some (.int .u8))
  (hx:dh x r=true) (hY:small C.nt [x]=true) (hr:r.ev C.E σ = .v (.string b)) (hb:b.data.toList.length≤maxLen) (hk:γ (lk k) = .no)
  (hK:∀D' a' w',dU C D' (cQ σ [d,lk k] [.sl 1 (b.data.toList.map fQ),.dead]) (cQ γ [d,lk k] [.gb k 1,.live 1]) a' w'→K a' w'):o.wp C.P a w K Q:=by
 have e1:=(h.jr hx hY).rep (by rw [hr];simp)
 rw [hr] at e1
 obtain ⟨v,w',R',dX,hS,hR,hT,_,hG⟩:=h.tt ht hu he hb
 unfold Oper.wp
 rw [show (execOp a.eval o).run C.P w = .ok (.value v) w' by simp only [execOp,ho,e1.ib,Sem.run_bind,dX,Result.andThen_ok,Sem.run_pure],Oper.upon_value,hd]
 exact hK _ _ _ (hS.qp hl hk hR hT hG)
theorem BP {x y:Operand} {r q:eB} {t u e:TypeId} {i:TypeInfo} {z:Value} {du:TypeDesc} {k k' s:Nat} {es fs:List AV} (ho:o.op = .call { callee := .builtin .append,args:=#[x,y],argTypes:=#[t,u] })
  (ht:C.P.underlying t=some (.slice e)) (hi:C.P.info? e=some i) (hz:i.zero=some z) (Cu:z.cells.size=i.size) (hu:C.P.underlying u=some du) (wJ:∀k,du ≠ .int k) (hs:i.size=s)
  (hx:dh x r=true) (hY:small C.nt [x]=true) (hr:r.ev C.E σ = .sl s es) (hg:r.gh γ = .gb k s) (lF:γ (lk k) = .live s) (oF:γ (lk k') = .no) (jQ:k≠k')
  {news:List Value} (u0:Source C.P w s (a.eval y) fs.length news) (hL:eL D.R w (fs.flatMap AV.cells) news) (qY:∀e∈fs,e.cells.length=s) (xz:es.length+fs.length≤maxLen) (hb:(es.length+fs.length) * i.bytes≤140737488355328)
  (hK:∀D' a' w',dU C D' (cQ σ [d,lk k,lk k'] [.sl s (es++fs),.dead,.dead]) (cQ γ [d,lk k,lk k'] [.gb k' s,.used,.live s]) a' w'→K a' w'):o.wp C.P a w K Q:=by
 subst hs
 have e0:=h.jr hx hY
 have e1:=e0.rep (by rw [hr];simp)
 have e2:=e0.gh (by rw [hr];simp) (by rw [hr];simp)
 rw [hr] at e1
 rw [hg] at e2
 simp only [jR] at e2
 replace e2:=e2.1
 have hT:=h.gb _ _ lF
 rw [←e2] at hT
 have h1:=h.kill lF
 have qz:gC D γ (lk k)=(a.eval x).ownBlock:=by rw [iH lF,←e2]
 have qw:∀g,(a.eval x).ownBlock=some g→C.lR g∧∀key,gC D (dJ γ (lk k) .used) key≠some g:=fun g mN=>by
  refine ⟨h.own (lk k) g (qz.trans mN),fun key s9=>?_⟩
  by_cases e:key=lk k
  ·subst e;simp [gC,bI] at s9
  ·have:gC D γ key=some g:=by unfold gC at s9 ⊢;rwa [bO _ _ e] at s9
   exact e (h.rh (key:=lk k) (by rw [lF];rfl) (qz.trans mN) this).symm
 obtain ⟨v,w',R',dX,hS,hR,KN,_,hG⟩:=h1.append (ty:=o.type) ht hi hz Cu hu wJ e1 hT qw u0 hL qY xz hb
 unfold Oper.wp
 rw [show (execOp a.eval o).run C.P w = .ok (.value v) w' by simp [execOp,ho,resolve,invoke,builtin,dX],Oper.upon_value,hd]
 have N9:dJ γ (lk k) .used (lk k') = .no:=by rw [bO _ _ (fun e=>jQ (jZ e).symm)];exact oF
 have hF:=(hS.dead (k:=lk k) (by rw [bI];rfl)).qp hl N9 hR KN hG
 have hc:lk k'≠lk k:=fun e=>jQ (jZ e).symm
 have KZ:cQ σ [d,lk k,lk k'] [.sl i.size (es++fs),.dead,.dead]=cQ (dJ σ (lk k) .dead) [d,lk k'] [.sl i.size (es++fs),.dead]:=by
  simp only [cQ];rw [ma σ _ _ hc]
 have HY:cQ γ [d,lk k,lk k'] [.gb k' i.size,.used,.live i.size]=cQ (dJ γ (lk k) .used) [d,lk k'] [.gb k' i.size,.live i.size]:=by
  simp only [cQ];rw [ma γ _ _ hc]
 rw [KZ,HY] at hK
 exact hK _ _ _ hF
theorem FI {y:Operand} {t u e:TypeId} {i:TypeInfo} {z:Value} {du:TypeDesc} {k' s:Nat} {fs:List AV} (ho:o.op = .call { callee := .builtin .append,args:=#[.const (.slice none 0 0),y],argTypes:=#[t,u] })
  (ht:C.P.underlying t=some (.slice e)) (hi:C.P.info? e=some i) (hz:i.zero=some z) (Cu:z.cells.size=i.size) (hu:C.P.underlying u=some du) (wJ:∀k,du ≠ .int k) (hs:i.size=s)
  (oF:γ (lk k') = .no) {news:List Value} (u0:Source C.P w s (a.eval y) fs.length news) (hL:eL D.R w (fs.flatMap AV.cells) news) (qY:∀e∈fs,e.cells.length=s) (xz:fs.length≤maxLen) (hb:fs.length * i.bytes≤140737488355328)
  (hK:∀D' a' w',dU C D' (cQ σ [d,lk k'] [.sl s fs,.dead]) (cQ γ [d,lk k'] [.gb k' s,.live s]) a' w'→K a' w'):o.wp C.P a w K Q:=by
 subst hs
 obtain ⟨v,w',R',dX,hS,hR,KN,_,hG⟩:=h.append (ty:=o.type) (x0 := .slice none 0 0) (es:=[]) ht hi hz Cu hu wJ (.nil _) (.inl rfl) (by simp [Value.ownBlock]) u0 hL qY (by simpa using xz) (by simpa using hb)
 unfold Oper.wp
 rw [show (execOp a.eval o).run C.P w = .ok (.value v) w' by
  have hc:a.eval (.const (.slice none 0 0)) = .slice none 0 0:=rfl
  simp [execOp,ho,resolve,invoke,builtin,hc,dX],Oper.upon_value,hd]
 rw [bA] at hR
 exact hK _ _ _ (hS.qp hl oF hR KN hG)
end
end Go.Eng
namespace Go.Eng
open Go.RowKit
section
variable {R:Reach} {w:World}
theorem tZ (l:List Value):∀(off k:Nat) (cells:Array Value),off+k+l.length≤cells.size →
  ((l.zipIdx k).foldl (fun cs p=>cs.setIfInBounds (off+p.2) p.1) cells).toList=cells.toList.take (off+k)++l++cells.toList.drop (off+k+l.length):=by
 induction l with
 | nil=>intro off k cells _;simp
 | cons v l ih =>
  intro off k cells hl
  simp only [List.zipIdx_cons,List.foldl_cons]
  rw [ih off (k+1) (cells.setIfInBounds (off+k) v) (by simp at hl ⊢;omega)]
  have e:=list_seg_step cells.toList (off+k) v l (by simp at hl ⊢;omega)
  simpa [Array.toList_setIfInBounds,Nat.add_assoc] using e
theorem wW (place:Nat→Option (Nat × Nat)):∀(parts:List (Nat × Value)) (pl:List (Nat × Nat)) (xs:List AV) (z cs:List AV) (cells:Array Value),eL R w z cells.toList→parts.length=pl.length →
  (∀(j:Nat) (p:Nat × Value) (q:Nat × Nat),parts[j]?=some p→pl[j]?=some q→place p.1=some q)→(∀(j:Nat) (p:Nat × Value) (x:AV),parts[j]?=some p→xs[j]?=some x→Rep R w x p.2)→lV z pl xs=some cs →
  ∃gU,Instr.fill place cells parts=some gU∧eL R w cs gU.toList
 | [],pl,xs,z,cs,cells,hz,hl,_,_,hf=>by
  have:pl=[]:=bm hl.symm
  subst this
  cases xs with
  | nil=>simp [lV] at hf;subst hf;exact ⟨cells,rfl,hz⟩
  | cons=>simp [lV] at hf
 | (i,v) :: parts,pl,xs,z,cs,cells,hz,hl,hp,hr,hf=>by
  cases pl with
  | nil=>simp at hl
  | cons q pl =>
   obtain ⟨off,n⟩:=q
   cases xs with
   | nil=>simp [lV] at hf
   | cons x xs =>
    simp only [lV] at hf
    split at hf
    ·rename_i hc
     obtain ⟨CP,Ow,Ta⟩:=hc
     have hx:=mm (hr 0 _ _ rfl rfl) CP
     have Lv:=hx.length
     have Qw:=hz.length
     simp only [Array.length_toList] at Lv Qw
     have HB:=hp 0 _ _ rfl rfl
     simp only at HB
     have hs:v.cells.size=n:=by omega
     have qy:¬(v.cells.size≠n∨off+v.cells.size > cells.size):=by omega
     have vb:=tZ v.cells.toList off 0 cells (by simp;omega)
     have Qx:eL R w (gR z off x.cells) (v.cells.zipIdx.foldl (fun cs p=>cs.setIfInBounds (off+p.2) p.1) cells).toList:=by
      have e:(v.cells.zipIdx.foldl (fun cs p=>cs.setIfInBounds (off+p.2) p.1) cells)=(v.cells.toList.zipIdx 0).foldl (fun cs p=>cs.setIfInBounds (off+p.2) p.1) cells:=by
       rw [←Array.foldl_toList];simp
      rw [e,vb]
      have hle:v.cells.toList.length=x.cells.length:=by simp;omega
      simp only [gR,Nat.add_zero,hle]
      exact ((hz.take off).append hx).append (hz.drop _)
     obtain ⟨gU,h1,h2⟩:=wW place parts pl xs _ cs _ Qx (by simpa using hl) (fun j p q h1 h2=>hp (j+1) p q (by simpa using h1) (by simpa using h2)) (fun j p y h1 h2=>hr (j+1) p y (by simpa using h1) (by simpa using h2)) hf
     refine ⟨gU,?_,h2⟩
     simp only [Instr.fill,HB]
     rw [ah (by simpa using qy)]
     exact h1
    ·cases hf
end
section
variable {C:Ctx} {D:kV} {σ:Sg} {γ:Ga} {a:Act} {w:World}
theorem dU.vW (h:dU C D σ γ a w) {w':World} {cs:List Value} {AG:List AV} {e:TypeId} (hw:w'={ w with heap:=w.heap.push (.cells ⟨cs⟩ e) }) (hL:eL D.R w AG cs) :
  dU C D σ γ a w'∧jy D.R w' (.ag AG) w.heap.size cs∧C.lR w.heap.size∧(∀key,gC D γ key≠some w.heap.size):=by
 subst hw
 have hold:∀b,b<w.heap.size→(w.heap.push (.cells ⟨cs⟩ e))[b]?=w.heap[b]?:=fun b hb=>by rw [Array.getElem?_push,ah (by omega)]
 have hS:=h.grow (w':={ w with heap:=w.heap.push (.cells ⟨cs⟩ e) }) (R':=D.R) rfl rfl rfl (by simp) hold (fun _ _ h=>h) (fun _ _ h => .inl h) (fun b o hr=>by simp;have:=h.ns b o hr;omega)
 have hk:gF D.R w D.R { w with heap:=w.heap.push (.cells ⟨cs⟩ e) }:=fun b o hr=>⟨hr,World.cell?_of_block (w:=w) (hold b (h.ns b o hr))⟩
 exact ⟨hS,⟨e,by simp,.inr ⟨AG,rfl,by rw [List.take_of_length_le (by rw [hL.length];exact Nat.le_refl _)];exact hL.mono hk⟩,fun o hr=>by have:=h.ns _ _ hr;omega⟩,.inr h.ext.size,fun key hk=>by have:=h.lt hk;omega⟩
theorem nv {P:Program} {t:TypeId} {z:List AV} (h:oQ P t z=true):∃i v,P.info? t=some i∧i.zero=some v∧gA v.cells.toList z=true:=by
 unfold oQ at h
 cases hi:P.info? t with
 | none=>simp [hi] at h
 | some i =>
  cases hz:i.zero with
  | none=>simp [hi,hz] at h
  | some v=>simp [hi,hz] at h;exact ⟨i,v,rfl,hz,h⟩
theorem pG {P:Program} {t:TypeId} {i:TypeInfo} {v:Value} (hi:P.info? t=some i) (hz:i.zero=some v) (w:World):(zeroValue t).run P w = .ok v w:=by simp [zeroValue,typeInfo,hi,hz]
theorem nU:∀{xs:List Value} {ys:List AV},gA xs ys=true→∀(i:Nat) (y:AV),ys[i]?=some y→∃x,xs[i]?=some x∧jn x y=true
 | [],[],_,i,y,h=>by simp at h
 | x :: xs,z :: ys,hc,0,y,h=>by simp [gA] at hc;simp at h;subst h;exact ⟨x,rfl,hc.1⟩
 | x :: xs,z :: ys,hc,i+1,y,h=>by simp [gA] at hc;simpa using nU hc.2 i y (by simpa using h)
 | [],_ :: _,h,_,_,_=>by simp [gA] at h
 | _ :: _,[],h,_,_,_=>by simp [gA] at h
theorem tl {x:Value} {s:Nat} (h:jn x (.sl s [])=true):x = .slice none 0 0:=by
 unfold jn at h;split at h <;> simp_all
theorem dU.yP (ts:List (Nat × (Nat × Nat))):∀{D:kV} {σ:Sg} {γ:Ga} {a:Act} {w:World},dU C D σ γ a w→(∀t∈ts,γ (lk t.2.1) = .no)→(ts.map (·.2.1)).Nodup →
  ∃D',dU C D' (cQ σ (ts.map fun t=>lk t.2.1) (ts.map fun _ => .dead)) (cQ γ (ts.map fun t=>lk t.2.1) (ts.map fun t => .live t.2.2)) a w∧D'.R=D.R∧(∀key,gC D γ key=none∨gC D' (cQ γ (ts.map fun t=>lk t.2.1) (ts.map fun t => .live t.2.2)) key=gC D γ key) ∧
   (∀key g,gC D' (cQ γ (ts.map fun t=>lk t.2.1) (ts.map fun t => .live t.2.2)) key=some g→gC D γ key=some g) ∧
   (∀t∈ts,D'.τ (lk t.2.1) = .slice none 0 0∧(cQ γ (ts.map fun t=>lk t.2.1) (ts.map fun t => .live t.2.2) (lk t.2.1)).fL=true) ∧
   (∀key,(∀t∈ts,key≠lk t.2.1)→cQ γ (ts.map fun t=>lk t.2.1) (ts.map fun t => .live t.2.2) key=γ key)∧(∀k,(∀t∈ts,k≠lk t.2.1)→D'.τ k=D.τ k)∧D'.β=D.β:=by
 induction ts with
 | nil=>exact fun {D σ γ a w} h _ _=>⟨D,h,rfl,fun _ => .inr rfl,fun _ _ h=>h,by simp,fun _ _=>rfl,fun _ _=>rfl,rfl⟩
 | cons t ts ih =>
  intro D σ γ a w h oF hnd
  simp only [ak,List.nodup_cons] at hnd
  obtain ⟨D1,h1,hR,EO,AU,ht1,gK,Ep,Er⟩   := ih h (fun u hu=>oF u (by simp [hu])) hnd.2
  have jQ:∀u∈ts,lk t.2.1≠lk u.2.1:=fun u hu e=>hnd.1 (aT.2 ⟨u,hu,(jZ e).symm⟩)
  have HE:cQ γ (ts.map fun t=>lk t.2.1) (ts.map fun t => .live t.2.2) (lk t.2.1) = .no:=by rw [gK _ jQ];exact oF t (by simp)
  have h2:=(h1.uK (k:=t.2.1) (s:=t.2.2) (v := .slice none 0 0) HE (.inl rfl) (by simp [Value.ownBlock])).dead (k:=lk t.2.1) (by rw [bI];rfl)
  have qz:∀key,gC { D1 with τ:=dJ D1.τ (lk t.2.1) (.slice none 0 0) } (dJ (cQ γ (ts.map fun t=>lk t.2.1) (ts.map fun t => .live t.2.2)) (lk t.2.1) (.live t.2.2)) key=if key=lk t.2.1 then none else gC D1 (cQ γ (ts.map fun t=>lk t.2.1) (ts.map fun t => .live t.2.2)) key:=fun key=>by
   unfold gC
   by_cases e:key=lk t.2.1
   ·subst e;rw [bI];simp [bI,Value.ownBlock]
   ·rw [bO _ _ e,ah e]
    cases hg:cQ γ (ts.map fun t=>lk t.2.1) (ts.map fun t => .live t.2.2) key with
    | live s'=>simp [bO _ _ e]
    | pv s'=>simp [bO _ _ e]
    | pc s'=>simp [bO _ _ e]
    | nC d s'=>simp [bO _ _ e]
    | _=>rfl
  refine ⟨_,h2,hR,fun key=>?_,fun key g hk=>?_,fun u hu=>?_,fun key hk=>?_,fun k hk=>?_,Er⟩
  ·simp only [ak,cQ]
   rw [qz]
   by_cases e:key=lk t.2.1
   ·subst e;left;unfold gC;rw [oF t (by simp)]
   ·rw [ah e];exact EO key
  ·simp only [ak,cQ] at hk
   rw [qz] at hk
   by_cases e:key=lk t.2.1
   ·simp [e] at hk
   ·rw [ah e] at hk;exact AU key g hk
  ·simp only [ak,cQ]
   rcases bq.1 hu with rfl | hu
   ·exact ⟨bI _ _ _,by rw [bI];rfl⟩
   ·have hn:lk u.2.1≠lk t.2.1:=fun e=>jQ u hu e.symm
    refine ⟨by show dJ D1.τ (lk t.2.1) _ (lk u.2.1)=_;rw [bO _ _ hn];exact (ht1 u hu).1,?_⟩
    rw [bO _ _ (fun e=>jQ u hu e.symm)];exact (ht1 u hu).2
  ·simp only [ak,cQ]
   rw [bO _ _ (hk t (by simp))];exact gK key (fun u hu=>hk u (by simp [hu]))
  ·show dJ D1.τ (lk t.2.1) _ k=_
   rw [bO _ _ (hk t (by simp))];exact Ep k (fun u hu=>hk u (by simp [hu]))
variable {o:Oper} {d:Nat} {K:Act→World→Prop} {Q:Exit→Act→World→Prop} (h:dU C D σ γ a w) (hd:o.dst=some d) (hl:d<C.nt)
include h hd hl
theorem Jq {t:TypeId} {m:Nat} {z:List AV} {ts:List (Nat × (Nat × Nat))} (ho:o.op = .alloc t) (hz:oQ C.P t z=true) (oD:∀q∈ts,∃s,z[q.1]?=some (.sl s [])) (hm:γ m = .no) (h1:C.nt≤m) (h2:m<999999)
  (oF:∀t∈ts,γ (lk t.2.1) = .no) (hnd:(ts.map (·.2.1)).Nodup)
  (hK:∀D' a' w',dU C D' (cQ σ (d :: m :: ts.map fun t=>lk t.2.1) (.pt :: .ag z :: ts.map fun _ => .dead)) (cQ γ (d :: m :: ts.map fun t=>lk t.2.1) (.ptr m 0 :: .cl ts :: ts.map fun t => .live t.2.2)) a' w'→K a' w'):o.wp C.P a w K Q:=by
 obtain ⟨i,v,hi,FM,Pr⟩:=nv hz
 have hL:eL D.R w z v.cells.toList:=jl Pr
 have dX:(execOp a.eval o).run C.P w = .ok (.value (.pointer (some ⟨w.heap.size,0,none⟩))) { w with heap:=w.heap.push (.cells ⟨v.cells.toList⟩ t) }:=by
  simp [execOp,ho,Instr.alloc,pG hi FM,newVar,newRow]
 obtain ⟨hS,hV,oH,wF⟩:=h.vW rfl hL
 obtain ⟨D1,Rq,hR,EO,AU,ht1,gK,Ep,Er⟩:=hS.yP ts oF hnd
 have CE:∀t∈ts,m≠lk t.2.1:=fun t _=>by have:=hU t.2.1;omega
 have pr:cQ γ (ts.map fun t=>lk t.2.1) (ts.map fun t => .live t.2.2) m = .no:=by rw [gK m CE];exact hm
 have Rp:jy D1.R { w with heap:=w.heap.push (.cells ⟨v.cells.toList⟩ t) } (.ag z) w.heap.size v.cells.toList:=by rw [hR];exact hV
 have EP:=Rq.newVar (ts:=ts) pr h1 h2 Rp (fun q hq=>⟨(ht1 q hq).2,by
  obtain ⟨s,hs⟩:=oD q hq
  obtain ⟨y,tV,_,DD⟩:=hL.get q.1 _ hs
  rw [tV,(ht1 q hq).1]
  obtain ⟨x,yY,Cv⟩:=nU Pr q.1 _ hs
  rw [tV] at yY;cases yY
  rw [tl Cv]⟩) ⟨oH,fun key hk=>wF key (AU key _ hk)⟩
 have OA:=EP.put (d:=d) (s := .pt) (g := .ptr m 0) (v := .pointer (some ⟨w.heap.size,0,none⟩)) hl (.inr ⟨.pt _,by intro _;show _=_;simp [bI]⟩) rfl rfl (by show Gh.gy (dJ _ m _ m)=true;rw [bI];rfl)
 unfold Oper.wp
 rw [dX,Oper.upon_value,hd]
 exact hK _ _ _ OA
end
end Go.Eng
namespace Go.Eng
open Go.RowKit
section
variable {C:Ctx} {D:kV} {σ:Sg} {γ:Ga} {a:Act} {w:World}
variable {o:Oper} {d:Nat} {K:Act→World→Prop} {Q:Exit→Act→World→Prop} (h:dU C D σ γ a w)
include h
theorem FH {x:Operand} {r:eB} {t:TypeId} {m:Nat} (hd:o.dst=some d) (hl:d<C.nt) (ho:o.op = .box t x) (hx:dh x r=true) (hY:small C.nt [x]=true) (hp:(r.ev C.E σ).plain=true) (hm:γ m = .no) (h1:C.nt≤m) (h2:m<999999)
  (hK:∀D' a' w',dU C D' (cQ σ [d,m] [.pt,.ag (r.ev C.E σ).cells]) (cQ γ [d,m] [.ptr m 0,.cl []]) a' w'→K a' w'):o.wp C.P a w K Q:=by
 have e1:=(h.jr hx hY).rep (by intro e;rw [e] at hp;cases hp)
 have hL:=mm e1 hp
 have dX:(execOp a.eval o).run C.P w = .ok (.value (.pointer (some ⟨w.heap.size,0,none⟩))) { w with heap:=w.heap.push (.cells ⟨(a.eval x).cells.toList⟩ t) }:=by
  simp [execOp,ho,Instr.box,newVar,newRow]
 obtain ⟨hS,hV,oH,wF⟩:=h.vW rfl hL
 have EP:=hS.newVar (ts:=[]) hm h1 h2 hV (by simp) ⟨oH,wF⟩
 have OA:=EP.put (d:=d) (s := .pt) (g := .ptr m 0) (v := .pointer (some ⟨w.heap.size,0,none⟩)) hl (.inr ⟨.pt _,by intro _;show _=_;simp [bI]⟩) rfl rfl (by show Gh.gy (dJ _ m _ m)=true;rw [bI];rfl)
 unfold Oper.wp
 rw [dX,Oper.upon_value,hd]
 exact hK _ _ _ OA
theorem FE {x v:Operand} {r q:eB} {t:TypeId} {inf:TypeInfo} {m o' n:Nat} {cs:List AV} {ts:List (Nat × (Nat × Nat))} (hd:o.dst=none) (ho:o.op = .store t x v) (hi:C.P.info? t=some inf) (hz:inf.size=n)
  (hx:dh x r=true) (hY:small C.nt [x]=true) (hv:dh v q=true) (pn:small C.nt [v]=true) (hr:r.ev C.E σ = .pt) (hg:r.gh γ = .ptr m o') (hm:γ m = .cl ts) (nh:σ m = .ag cs)
  (hp:(q.ev C.E σ).plain=true) (hn:(q.ev C.E σ).cells.length=n) (qy:o'+n≤cs.length)
  (hK:∀D' a' w',dU C D' (dJ σ m (.ag (gR cs o' (q.ev C.E σ).cells))) (dJ γ m (.cl (ts.filter (fun t=>t.1<o' || o'+n≤t.1)++match q.gh γ with | .gb k s=>if n=1 then [(o',k,s)] else [] | _=>[]))) a' w'→K a' w'):o.wp C.P a w K Q:=by
 have e0:=h.jr hx hY
 have FP:=e0.gh (by rw [hr];simp) (by rw [hr];simp)
 rw [hg] at FP
 simp only [jR] at FP
 have q0:=h.jr hv pn
 have Ly:q.ev C.E σ ≠ .dead:=by intro e;rw [e] at hp;cases hp
 have QT:q.ev C.E σ ≠ .sk:=by intro e;rw [e] at hp;cases hp
 have hL:=mm (q0.rep Ly) hp
 obtain ⟨vs,td,oD⟩:=h.mem m ts hm
 rw [nh] at td
 have pQ:=td.BY
 obtain ⟨elem,hh,LH⟩:=td.ag
 have jD:cs.length≤vs.length:=by have:=LH.length;simp at this;omega
 have hlen:=hL.length
 have S6:=LH.length
 have LD:(a.eval v).cells.size=n:=by simp at hlen;omega
 have vu:=run_storeCells_at (P:=C.P) (D.β m) o' elem (a.eval v).cells.toList 0 ⟨vs⟩ w hh (by simp;omega) hL.one
 simp only [Nat.add_zero] at vu
 let new:List Value:=vs.take o'++(a.eval v).cells.toList++vs.drop (o'+(a.eval v).cells.toList.length)
 have dX:(execOp a.eval o).run C.P w = .ok .skip (w.setRow (D.β m) ⟨new⟩):=by
  have:¬((a.eval v).cells.size≠n):=by omega
  simp only [execOp,ho,FP,Instr.storeAt,Instr.sureAddr,Sem.run_bind,Sem.run_pure,Result.andThen_ok,storeVar,run_sizeOf hi,hz,Sem.run_ite,this,if_false,vu]
  rfl
 have y9:=setRow_heap w (D.β m) ⟨vs⟩ ⟨new⟩ elem (0,0) hh
 have cd:gF D.R w D.R (w.setRow (D.β m) ⟨new⟩):=fun b o hr=>⟨hr,cell_setRow_other w (D.β m) _ ⟨b,o,none⟩ (fun e=>pQ o (by have:b=D.β m:=e;rw [←this];exact hr))⟩
 have Rt:eL D.R (w.setRow (D.β m) ⟨new⟩) (gR cs o' (q.ev C.E σ).cells) (new.take (gR cs o' (q.ev C.E σ).cells).length):=by
  have hle:(a.eval v).cells.toList.length=(q.ev C.E σ).cells.length:=hlen.symm
  have y4:(gR cs o' (q.ev C.E σ).cells).length=cs.length:=by simp [gR];omega
  have EE:new.take cs.length=(vs.take cs.length).take o'++(a.eval v).cells.toList++(vs.take cs.length).drop (o'+(a.eval v).cells.toList.length):=by
   apply List.ext_getElem?
   intro j
   simp only [new,aR,List.getElem?_append,aw,bo,List.getElem?_drop,hle,hn]
   have e1:min o' vs.length=o':=by omega
   have e2:min o' (min cs.length vs.length)=o':=by omega
   simp only [e1,e2]
   by_cases c1:j<cs.length
   ·by_cases c2:j<o'
    ·simp [c1,c2,show j<o'+n by omega]
    ·by_cases c3:j<o'+n
     ·simp [c1,c2,c3]
     ·simp [c1,c2,c3,show o'+n+(j - (o'+n))<cs.length by omega]
   ·have c2:¬j<o':=by omega
    have c3:¬j<o'+n:=by omega
    simp [c1,c3,show ¬o'+n+(j - (o'+n))<cs.length by omega]
  rw [y4,EE]
  simp only [gR,hle]
  have hX:=(((LH.take o').append hL).append (LH.drop (o'+(q.ev C.E σ).cells.length))).mono cd
  exact hX
 have wA:=h.inv m
 rw [hm] at wA
 have hS:=h.store (us:=ts.filter (fun t=>t.1<o' || o'+n≤t.1)++match q.gh γ with | .gb k s=>if n=1 then [(o',k,s)] else [] | _=>[]) hm (w':=w.setRow (D.β m) ⟨new⟩) rfl rfl rfl (by simp) (fun b hb=>setRow_other w (D.β m) b _ hb)
  ⟨elem,y9,.inr ⟨_,rfl,Rt⟩,pQ⟩ (fun t ht=>by
   rcases List.mem_append.1 ht with ht | ht
   ·have lE:=List.mem_filter.1 ht
    refine ⟨wA t lE.1,?_⟩
    have hc:=oD t lE.1
    have gM:=(aC.1 hc).1
    have wK:=lE.2
    simp only [Bool.or_eq_true,aB] at wK
    have QD:(a.eval v).cells.toList.length=n:=by simp;exact LD
    simp only [new]
    rcases wK with CP | CP
    ·rw [aU,List.getElem?_append_left (by simp;omega),aR,ao CP];exact hc
    ·rw [aS (by simp;omega)]
     simp only [aw,bo,QD,List.getElem?_drop]
     rw [←hc];congr 1;omega
   ·revert ht
    split
    ·rename_i k s Pn
     split
     ·rename_i wz
      intro ht
      simp at ht
      subst ht
      have wB:=h.mB q
      rw [Pn] at wB
      refine ⟨wB,?_⟩
      have Ol:=q0.gh Ly QT
      rw [Pn] at Ol
      simp only [jR] at Ol
      have CP:(a.eval v).cells.toList=[D.τ (lk k)]:=by
       obtain ⟨e1,e2⟩:=Ol
       rw [←e1]
       generalize a.eval v=y at e2
       cases y <;> first | rfl | (simp [Value.oneCell'] at e2)
      simp only [new,CP]
      rw [aU,aS (by simp;omega)]
      simp
      have:o' - min o' vs.length=0:=by omega
      simp [this]
     ·intro ht;cases ht
    ·intro ht;cases ht)
 unfold Oper.wp
 rw [dX,Oper.upon_skip,hd]
 exact hK _ _ _ (by simpa [Act.put] using hS)
theorem dU.vS:∀{l:List Operand} {rs:List eB},dk l rs=true→small C.nt l=true→gP D.R w (rs.map (eB.ev C.E σ)) (l.map a.eval)
 | [],[],_,_ => .nil
 | x :: xs,r :: rs,hx,hs=>by
  simp [dk] at hx
  have h1:small C.nt [x]=true:=by simp [small] at hs ⊢;exact hs.1
  have h2:small C.nt xs=true:=by simp only [small,List.all_cons,ae] at hs;exact hs.2
  refine .cons ?_ (dU.vS hx.2 h2)
  rcases h.jr hx.1 h1 with e | e
  ·rw [e];exact .dead _
  ·exact e.1
 | [],_ :: _,hx,_=>by simp [dk] at hx
 | _ :: _,[],hx,_=>by simp [dk] at hx
omit h
theorem ub (s:Nat):∀(vs:List Value) (k:Nat) (cells:Array Value),(∀v∈vs,v.cells.size=s)→(k+vs.length) * s=cells.size →
  ∃gU,Instr.fill (fun i=>some (i * s,s)) cells ((vs.zipIdx k).map fun p=>(p.2,p.1))=some gU∧gU.toList=cells.toList.take (k * s)++vs.flatMap fun v=>v.cells.toList
 | [],k,cells,_,hl=>by
  refine ⟨cells,rfl,?_⟩
  simp at hl
  simp [List.take_of_length_le,hl]
 | v :: vs,k,cells,hv,hl=>by
  have h0:=hv v (by simp)
  simp only [aF] at hl
  have hm:(k+(vs.length+1)) * s=k * s+s+vs.length * s:=by rw [Nat.add_mul,Nat.succ_mul];omega
  have qy:¬(v.cells.size≠s∨k * s+v.cells.size > cells.size):=by omega
  have vb:=tZ v.cells.toList (k * s) 0 cells (by simp;omega)
  have e:(v.cells.zipIdx.foldl (fun cs p=>cs.setIfInBounds (k * s+p.2) p.1) cells)=(v.cells.toList.zipIdx 0).foldl (fun cs p=>cs.setIfInBounds (k * s+p.2) p.1) cells:=by
   rw [←Array.foldl_toList];simp
  have rn:(v.cells.zipIdx.foldl (fun cs p=>cs.setIfInBounds (k * s+p.2) p.1) cells).size=cells.size:=by
   rw [e,←Array.length_toList,vb];simp;omega
  obtain ⟨gU,h1,h2⟩:=ub s vs (k+1) (v.cells.zipIdx.foldl (fun cs p=>cs.setIfInBounds (k * s+p.2) p.1) cells) (fun u hu=>hv u (by simp [hu])) (by rw [rn,←hl];congr 1;omega)
  refine ⟨gU,?_,?_⟩
  ·simp only [List.zipIdx_cons,ak,Instr.fill]
   rw [ah (by simpa using qy)]
   exact h1
  ·rw [h2,e,vb]
   have gK:(k+1) * s=k * s+s:=Nat.succ_mul k s
   have hL:(cells.toList.take (k * s+0)++v.cells.toList).length=(k+1) * s:=by simp;omega
   rw [aU,←aU (cells.toList.take (k * s+0)),List.take_left' hL]
   simp
theorem tC {α:Type}:∀(l:List (Nat × α)) (k:Nat),l.map (·.1)=List.range' k l.length→l=((l.map (·.2)).zipIdx k).map fun p=>(p.2,p.1)
 | [],_,_=>rfl
 | (i,x) :: l,k,h=>by
  simp only [ak,aF,List.range'_succ,ar] at h
  simp only [ak,List.zipIdx_cons]
  rw [←tC l (k+1) h.2,h.1]
theorem tB {R:Reach} {w:World} {s:Nat}:∀{xs:List AV} {vs:List Value},gP R w xs vs→(∀x∈xs,x.plain=true∧x.cells.length=s)→eL R w (xs.flatMap AV.cells) (vs.flatMap fun v=>v.cells.toList)∧∀v∈vs,v.cells.size=s
 | _,_,.nil,_=>⟨.nil,by simp⟩
 | _,_,.cons (x:=x) h t,hx=>by
  obtain ⟨h1,h2⟩:=tB t (fun x NQ=>hx x (by simp [NQ]))
  obtain ⟨p1,p2⟩:=hx x (by simp)
  have hL:=mm h p1
  refine ⟨by simpa using hL.append h1,fun v hv=>?_⟩
  rcases bq.1 hv with rfl | hv
  ·have:=hL.length;simp at this;omega
  ·exact h2 v hv
theorem wT {s:Nat}:∀{l:List AV},(∀x∈l,x.plain=true∧x.cells.length=s)→(l.flatMap AV.cells).length=l.length * s
 | [],_=>by simp
 | x :: l,hl=>by
  simp only [List.flatMap_cons,aw,aF,Nat.succ_mul]
  rw [wT (fun y hy=>hl y (by simp [hy])),(hl x (by simp)).2];omega
theorem ox {P:Program} {t:TypeId} {s:Nat} (h:mc P t s=true):∃e i z,P.underlying t=some (.slice e)∧P.info? e=some i∧i.size=s∧i.zero=some z∧0<s:=by
 unfold mc at h
 cases he:kL P t with
 | none=>simp [he] at h
 | some e =>
  simp [he] at h
  obtain ⟨h1,h0⟩:=h
  cases hi:P.info? e with
  | none=>simp [hi] at h1
  | some i =>
   simp [hi] at h1
   obtain ⟨h1,h2⟩:=h1
   obtain ⟨z,hz⟩:=Option.isSome_iff_exists.1 h2
   exact ⟨e,i,z,iA he,hi,h1,hz,h0⟩
theorem dU.Ca (h:dU C D σ γ a w) {t e:TypeId} {inf:TypeInfo} {zv:Value} {s n:Nat} {parts:Array (Nat × Operand)} {rs:List eB} (ht:C.P.underlying t=some (.slice e)) (hi:C.P.info? e=some inf) (hz:inf.size=s) (FM:inf.zero=some zv)
  (EH:n * s≤2 ^ 24) (EG:n≤maxLen) (DE:parts.toList.map (·.1)=List.range n) (hx:dk (parts.toList.map (·.2)) rs=true) (fg:small C.nt (parts.toList.map (·.2))=true)
  (xR:∀x∈rs.map (eB.ev C.E σ),x.plain=true∧x.cells.length=s) :
  ∃v w' R',(Instr.buildSlice t n (parts.map fun p=>(p.1,a.eval p.2))).run C.P w = .ok v w'∧dU C { D with R:=R' } σ γ a w'∧Rep R' w' (.sl s (rs.map (eB.ev C.E σ))) v∧gG R' w' v s∧gF D.R w R' w' ∧
   ∀g,v.ownBlock=some g→C.lR g∧∀key,gC D γ key≠some g:=by
 have hT:=h.vS hx fg
 obtain ⟨hL,rn⟩:=tB hT xR
 have hlen:parts.toList.length=n:=by have:=congrArg List.length DE;simpa using this
 have Pj:parts.size=n:=by simpa using hlen
 have sC:(rs.map (eB.ev C.E σ)).length=n:=by have:=hT.length;simp at this ⊢;omega
 have hp:(parts.map fun p=>(p.1,a.eval p.2)).toList=((((parts.toList.map (·.2)).map a.eval).zipIdx 0).map fun p=>(p.2,p.1)):=by
  have e:=tC ((parts.map fun p=>(p.1,a.eval p.2)).toList) 0 (by simp only [Array.toList_map,bh,aN,hlen];rw [←List.range_eq_range',←DE];rfl)
  rw [e]
  simp [Function.comp_def]
 let zc:Array Value:=if n * s=0 then #[] else zv.cells
 let c0:Array Value:=(Array.range (n * s)).map (zc[· % zc.size]!)
 obtain ⟨gU,hf,Ox⟩:=ub s ((parts.toList.map (·.2)).map a.eval) 0 c0 rn (by simp [c0,hlen])
 simp only [Nat.zero_mul,List.take_zero,bA] at Ox
 have dX:(Instr.buildSlice t n (parts.map fun p=>(p.1,a.eval p.2))).run C.P w = .ok (.slice (some ⟨w.heap.size,0,none⟩) n n) { w with heap:=w.heap.push (.cells gU e) }:=by
  have F8:¬(n * s > 2 ^ 24):=by omega
  rw [←hp] at hf
  simp only [c0,zc] at hf
  simp only [Instr.buildSlice,Sem.run_bind,run_underlying ht,Result.andThen_ok,run_sizeOf hi,hz,F8,if_false,Sem.run_pure]
  by_cases h0:n * s=0
  ·rw [ao h0] at hf ⊢
   simp only [Sem.run_bind,Sem.run_pure,Result.andThen_ok]
   rw [hf]
   simp [Go.newRow]
  ·rw [ah h0] at hf ⊢
   simp only [Sem.run_bind,Sem.run_pure,Result.andThen_ok,pG hi FM]
   rw [hf]
   simp [Go.newRow]
 have hcs:gU.size=n * s:=by
  rw [←Array.length_toList,Ox,←hL.length,wT xR,sC]
 obtain ⟨R',hS,hR,pQ,_,hk,hh⟩:=h.newRow (w':={ w with heap:=w.heap.push (.cells gU e) }) (es:=rs.map (eB.ev C.E σ)) (s:=s) (cap:=n) rfl rfl rfl rfl (fun x hx=>(xR x hx).2) hL
  (fun j y hj=>by rw [←Ox] at hj;simpa using hj) (by omega) EG
 rw [sC] at hR pQ
 refine ⟨_,_,R',dX,hS,hR,.inr ⟨_,_,_,_,_,_,rfl,hh,by simp,hcs,Nat.le_refl _,EG,pQ⟩,hk,fun g hg=>?_⟩
 simp [Value.ownBlock] at hg
 subst hg
 exact ⟨.inr h.ext.size,fun key hk=>by have:=h.lt hk;omega⟩
variable (h:dU C D σ γ a w) (hd:o.dst=some d) (hl:d<C.nt)
include h hd hl
theorem Jn {t:TypeId} {s n:Nat} {parts:Array (Nat × Operand)} {rs:List eB} (ho:o.op = .buildSlice t n parts) (ht:mc C.P t s=true) (EH:n * s≤2 ^ 24)
  (DE:parts.toList.map (·.1)=List.range n) (hx:dk (parts.toList.map (·.2)) rs=true) (fg:small C.nt (parts.toList.map (·.2))=true) (xR:∀x∈rs.map (eB.ev C.E σ),x.plain=true∧x.cells.length=s)
  (hK:∀D' a' w',dU C D' (dJ σ d (.sl s (rs.map (eB.ev C.E σ)))) (dJ γ d .no) a' w'→K a' w'):o.wp C.P a w K Q:=by
 obtain ⟨e,i,z,h1,h2,h3,h4,h5⟩:=ox ht
 have EG:n≤maxLen:=by
  have:n≤n * s:=Nat.le_mul_of_pos_right n h5
  simp only [maxLen];omega
 obtain ⟨v,w',R',dX,hS,hR,_⟩:=h.Ca h1 h2 h3 h4 EH EG DE hx fg xR
 exact dU.AZ hd hl (v:=v) (w':=w') (by simp only [execOp,ho,Sem.run_bind,dX,Result.andThen_ok,Sem.run_pure]) hS hR hK
theorem Hd {t:TypeId} {s n k:Nat} {parts:Array (Nat × Operand)} {rs:List eB} (ho:o.op = .buildSlice t n parts) (ht:mc C.P t s=true) (EH:n * s≤2 ^ 24)
  (DE:parts.toList.map (·.1)=List.range n) (hx:dk (parts.toList.map (·.2)) rs=true) (fg:small C.nt (parts.toList.map (·.2))=true) (xR:∀x∈rs.map (eB.ev C.E σ),x.plain=true∧x.cells.length=s) (hk:γ (lk k) = .no)
  (hK:∀D' a' w',dU C D' (cQ σ [d,lk k] [.sl s (rs.map (eB.ev C.E σ)),.dead]) (cQ γ [d,lk k] [.gb k s,.live s]) a' w'→K a' w'):o.wp C.P a w K Q:=by
 obtain ⟨e,i,z,h1,h2,h3,h4,h5⟩:=ox ht
 have EG:n≤maxLen:=by
  have:n≤n * s:=Nat.le_mul_of_pos_right n h5
  simp only [maxLen];omega
 obtain ⟨v,w',R',dX,hS,hR,hT,_,hG⟩:=h.Ca h1 h2 h3 h4 EH EG DE hx fg xR
 unfold Oper.wp
 rw [show (execOp a.eval o).run C.P w = .ok (.value v) w' by simp only [execOp,ho,Sem.run_bind,dX,Result.andThen_ok,Sem.run_pure],Oper.upon_value,hd]
 exact hK _ _ _ (hS.qp hl hk hR hT hG)
omit h hd hl in
theorem q9 {α:Type} {zs:List α} (hz:0<zs.length):∀(l j:Nat) (y:α),(List.replicate l zs).flatten[j]?=some y→zs[j % zs.length]?=some y
 | 0,j,y,h=>by simp at h
 | l+1,j,y,h=>by
  simp only [List.replicate_succ,List.flatten_cons] at h
  by_cases hj:j<zs.length
  ·rw [List.getElem?_append_left hj] at h;rwa [Nat.mod_eq_of_lt hj]
  ·rw [aS (by omega)] at h
   have:=q9 hz l _ y h
   rwa [Nat.mod_eq_sub_mod (by omega)]
omit h hd hl in
theorem nG {R:Reach} {w:World} {xs:List AV} {ys:List Value} (h:eL R w xs ys):∀n,eL R w (List.replicate n xs).flatten (List.replicate n ys).flatten
 | 0 => .nil
 | n+1=>by simp only [List.replicate_succ,List.flatten_cons];exact h.append (nG h n)
theorem Ja {t e:TypeId} {x y:Operand} {r q:eB} {i:TypeInfo} {zv:Value} {k s:Nat} {z:AV} {l c:Int} (ho:o.op = .makeSlice t x y) (ht:C.P.underlying t=some (.slice e)) (hi:C.P.info? e=some i) (hz:i.size=s) (FM:i.zero=some zv) (Cu:zv.cells.size=s) (Te:0<s)
  (NN:gA zv.cells.toList z.cells=true) (hx:dh x r=true) (hy:dh y q=true) (hY:small C.nt [x]=true) (pn:small C.nt [y]=true) (hr:r.ev C.E σ = .v (.int .i64 l)) (hq:q.ev C.E σ = .v (.int .i64 c))
  (hp:z.cells.length=s) (h0:0≤l) (Q3:l≤c) (hb:c * i.bytes≤140737488355328) (zb:c≤maxLen) (hk:γ (lk k) = .no)
  (hK:∀D' a' w',dU C D' (cQ σ [d,lk k] [.sl s (List.replicate l.toNat z),.dead]) (cQ γ [d,lk k] [.gb k s,.live s]) a' w'→K a' w'):o.wp C.P a w K Q:=by
 have e1:=(h.jr hx hY).rep (by rw [hr];simp)
 have e2:=(h.jr hy pn).rep (by rw [hq];simp)
 rw [hr] at e1;rw [hq] at e2
 have QY:=run_make (P:=C.P) w t e i zv ht hi FM .i64 .i64 l c h0 Q3 (by rw [Int.mul_comm];omega) (by simp only [maxLen] at zb;omega)
 have dX:(execOp a.eval o).run C.P w = .ok (.value (.slice (some ⟨w.heap.size,0,none⟩) l.toNat c.toNat)) (w.alloc (.cells (madeCells zv.cells (c.toNat * i.size)) e)):=by
  simp only [execOp,ho,e1.ib,e2.ib,Sem.run_bind,QY,Result.andThen_ok,Sem.run_pure]
 have hL:eL D.R w z.cells zv.cells.toList:=jl NN
 have Rf:(List.replicate l.toNat z).flatMap AV.cells=(List.replicate l.toNat z.cells).flatten:=by rw [List.flatMap_def,List.map_replicate]
 have HG:l.toNat≤c.toNat:=by omega
 obtain ⟨R',hS,hR,pQ,_,_,hh⟩:=h.newRow (w':=w.alloc (.cells (madeCells zv.cells (c.toNat * i.size)) e)) (es:=List.replicate l.toNat z) (s:=s) (cap:=c.toNat) (ys:=(List.replicate l.toNat zv.cells.toList).flatten) rfl rfl rfl rfl
  (fun x hx=>by rw [List.eq_of_mem_replicate hx];exact hp) (by rw [Rf];exact nG hL _)
  (fun j y hj=>by
   have h1:=q9 (by simp;omega) _ _ _ hj
   have gM:=(aC.1 hj).1
   have Kz:(List.replicate l.toNat zv.cells.toList).flatten.length=l.toNat * s:=by simp [Cu]
   rw [Kz] at gM
   have hle:l.toNat * s≤c.toNat * s:=bu _ HG
   have hm:j<c.toNat * i.size:=by rw [hz];omega
   simp only [madeCells,Array.getElem?_map,Array.getElem?_range,hm,if_true,Option.map_some]
   simp only [Array.length_toList,Array.getElem?_toList] at h1
   rw [getElem!_def,h1]) (by simpa using HG) (by omega)
 simp only [List.length_replicate] at hR pQ
 unfold Oper.wp
 rw [dX,Oper.upon_value,hd]
 refine hK _ _ _ (hS.qp hl hk hR (.inr ⟨_,_,_,_,_,_,rfl,hh,by simp,by rw [size_madeCells,hz],HG,by omega,pQ⟩) fun g hg=>?_)
 simp [Value.ownBlock] at hg
 subst hg
 exact ⟨.inr h.ext.size,fun key hk=>by have:=h.lt hk;omega⟩
omit h hd hl in
theorem nF {P:Program} {w:World}:∀(fs:List Field),(∀f∈fs,(sizeOf f.type).run P w = .ok ((iW P f.type).getD 0) w) →
  ((fs.mapM fun (f:Field)=>do pure (f.offset,←sizeOf f.type)):Sem (List (Nat × Nat))).run P w = .ok (fs.map fun f=>(f.offset,(iW P f.type).getD 0)) w
 | [],_=>rfl
 | f :: fs,hs=>by
  simp only [List.mapM_cons,Sem.run_bind,hs f (by simp),Result.andThen_ok,Sem.run_pure,nF fs (fun g hg=>hs g (by simp [hg])),ak]
theorem Jp {t:TypeId} {z:List AV} {pl:List (Nat × Nat)} {parts:Array (Nat × Operand)} {rs:List eB} {cs:List AV} (ho:o.op = .build t parts) (hz:oQ C.P t z=true) (HB:sh C.P t pl parts.toList=true) (hx:dk (parts.toList.map (·.2)) rs=true) (fg:small C.nt (parts.toList.map (·.2))=true)
  (hf:lV z pl (rs.map (eB.ev C.E σ))=some cs) (hK:∀D' a' w',dU C D' (dJ σ d (.ag cs)) (dJ γ d .no) a' w'→K a' w'):o.wp C.P a w K Q:=by
 have hT:=h.vS hx fg
 obtain ⟨i,zv,hi,FM,NN⟩:=nv hz
 have hL:eL D.R w z zv.cells.toList:=jl NN
 simp only [sh,ae,beq_iff_eq] at HB
 obtain ⟨⟨qY,hlen⟩,qB⟩:=HB
 have kK:∀(j:Nat) (p:Nat × Operand) (q:Nat × Nat),parts.toList[j]?=some p→pl[j]?=some q→(match C.P.underlying t with | some (.struct fs)=>(fs[p.1]?).any fun f=>f.offset == q.1&&iW C.P f.type == some q.2 | some (.array _ e)=>iW C.P e == some q.2&&p.1 * q.2 == q.1 | _=>false)=true:=fun j p q hp hq=>by
  have:=bj.1 qB (q,p) (bc (i:=j) (by simp [List.getElem?_zip_eq_some,hq,hp]))
  exact this
 have J4:∀(j:Nat) (p:Nat × Value) (x:AV),((parts.map fun p=>(p.1,a.eval p.2)).toList)[j]?=some p→(rs.map (eB.ev C.E σ))[j]?=some x→Rep D.R w x p.2:=fun j p x hp QA=>by
  obtain ⟨y,tV,DD⟩:=hT.get j x QA
  simp only [Array.toList_map,aL,bh] at hp tV
  cases hq:parts.toList[j]? with
  | none=>simp [hq] at hp
  | some q=>simp [hq] at hp tV;subst hp;rw [tV];exact DD
 have HA:∀place:Nat→Option (Nat × Nat),(∀(j:Nat) (p:Nat × Operand) (q:Nat × Nat),parts.toList[j]?=some p→pl[j]?=some q→place p.1=some q) →
   ∃gU,Instr.fill place zv.cells (parts.map fun p=>(p.1,a.eval p.2)).toList=some gU∧eL D.R w cs gU.toList:=fun place N3 =>
  wW place _ pl _ z cs zv.cells hL (by simp [hlen]) (fun j p q hp hq=>by
   simp only [Array.toList_map,aL] at hp
   cases Cz:parts.toList[j]? with
   | none=>simp [Cz] at hp
   | some q'=>simp [Cz] at hp;subst hp;exact N3 j q' q Cz hq) J4 hf
 unfold rb at qY
 cases hu:C.P.underlying t with
 | none=>simp [hu] at qY
 | some dd =>
  have fin:∀place:Nat→Option (Nat × Nat),(∀(j:Nat) (p:Nat × Operand) (q:Nat × Nat),parts.toList[j]?=some p→pl[j]?=some q→place p.1=some q) →
    (∀gU,Instr.fill place zv.cells (parts.map fun p=>(p.1,a.eval p.2)).toList=some gU→(execOp a.eval o).run C.P w = .ok (.value (.agg gU)) w)→o.wp C.P a w K Q:=fun place N3 QP=>by
   obtain ⟨gU,wG,hR⟩:=HA place N3
   exact h.gZ hd hl (v := .agg gU) (QP gU wG) (by cases gU with | mk l=>exact .ag hR) hK
  cases dd with
  | struct fs =>
   simp only [hu] at qY
   have rn:∀f∈fs.toList,(sizeOf f.type).run C.P w = .ok ((iW C.P f.type).getD 0) w:=fun f hf=>by
    have:=bj.1 qY f hf
    obtain ⟨n,hn⟩:=Option.isSome_iff_exists.1 this
    obtain ⟨i',h1,h2⟩:=iv hn
    rw [run_sizeOf h1,hn,h2];rfl
   refine fin (fun i=>(fs.map fun f=>(f.offset,(iW C.P f.type).getD 0))[i]?) (fun j p q hp hq=>?_) (fun gU hc=>?_)
   ·have:=kK j p q hp hq
    rw [hu] at this
    simp only at this
    cases Oq:fs[p.1]? with
    | none=>simp [Oq] at this
    | some f =>
     simp [Oq] at this
     simp [Oq,this.1,this.2]
   ·have hm:=nF fs.toList rn
    have wA:((fs.mapM fun (f:Field)=>do pure (f.offset,←sizeOf f.type)):Sem (Array (Nat × Nat))).run C.P w = .ok (fs.map fun f=>(f.offset,(iW C.P f.type).getD 0)) w:=by
     rw [Array.mapM_eq_mapM_toList,Sem.run_map,hm]
     simp only [Result.andThen_ok]
     congr 1
     apply Array.ext'
     simp
    simp only [execOp,ho,Instr.build,Sem.run_bind,pG hi FM,run_underlying hu,Result.andThen_ok,wA]
    rw [hc]
    simp
  | array n e =>
   simp only [hu] at qY
   obtain ⟨s,hs⟩:=Option.isSome_iff_exists.1 qY
   obtain ⟨i',h1,h2⟩:=iv hs
   refine fin (fun i=>some (i * s,s)) (fun j p q hp hq=>?_) (fun gU hc=>?_)
   ·have:=kK j p q hp hq
    rw [hu] at this
    simp [hs] at this
    obtain ⟨q1,q2⟩:=q
    simp at this
    rw [this.1,this.2]
   ·simp only [execOp,ho,Instr.build,Sem.run_bind,pG hi FM,run_underlying hu,Result.andThen_ok,run_sizeOf h1,h2]
    rw [hc]
    simp
  | _=>simp [hu] at qY
end
end Go.Eng
namespace Go.Eng
open Go.RowKit
section
variable {X:Type}
theorem nz:∀{σ:Nat→X} {A B:List Nat} {xs ys:List X},A.length=xs.length→cQ σ (A++B) (xs++ys)=cQ (cQ σ B ys) A xs
 | σ,[],B,[],ys,_=>by cases B <;> cases ys <;> rfl
 | σ,a :: A,B,x :: xs,ys,h=>by simp only [List.cons_append,cQ];rw [nz (by simpa using h)]
 | σ,[],B,_ :: _,ys,h=>by simp at h
 | σ,_ :: _,B,[],ys,h=>by simp at h
theorem jf:∀{σ:Nat→X} {A:List Nat} {xs:List X} {k:Nat},k ∉ A→cQ σ A xs k=σ k
 | σ,[],xs,k,_=>by cases xs <;> rfl
 | σ,a :: A,[],k,_=>rfl
 | σ,a :: A,x :: xs,k,h=>by
  simp only [cQ]
  rw [bO _ _ (fun e=>h (by simp [e])),jf (fun e=>h (by simp [e]))]
theorem iQ:∀{σ:Nat→X} {A:List Nat} {xs:List X} {k:Nat} {x:X},k ∉ A→cQ (dJ σ k x) A xs=dJ (cQ σ A xs) k x
 | σ,[],xs,k,x,_=>by cases xs <;> rfl
 | σ,a :: A,[],k,x,_=>rfl
 | σ,a :: A,y :: xs,k,x,h=>by
  simp only [cQ]
  rw [iQ (fun e=>h (by simp [e])),ma _ _ _ (fun e=>h (by simp [e]))]
theorem qh:∀{σ:Nat→X} {A B:List Nat} {xs ys:List X},(∀a∈A,a ∉ B)→cQ (cQ σ A xs) B ys=cQ (cQ σ B ys) A xs
 | σ,[],B,xs,ys,_=>by cases xs <;> rfl
 | σ,a :: A,B,[],ys,_=>rfl
 | σ,a :: A,B,x :: xs,ys,h=>by
  simp only [cQ]
  rw [iQ (h a (by simp)),qh (fun c hc=>h c (by simp [hc]))]
theorem oa (σ:Nat→X) (k:Nat) (x y:X):dJ (dJ σ k x) k y=dJ σ k y:=by
 funext j;simp only [dJ];split <;> rfl
end
section
variable {C:Ctx} {D:kV} {σ:Sg} {γ:Ga} {a:Act} {w:World}
theorem dU.C8:∀(ks:List Nat) {σ:Sg},dU C D σ γ a w→(∀k∈ks,(γ k).gy=false)→dU C D (cQ σ ks (ks.map fun _ => .dead)) γ a w
 | [],_,h,_=>h
 | k :: ks,_,h,hk=>(dU.C8 ks h (fun j hj=>hk j (by simp [hj]))).dead (hk k (by simp))
theorem dU.FL:∀(ts:List (Nat × Nat)) {γ:Ga},dU C D σ γ a w→(∀t∈ts,γ t.1 = .live t.2)→(ts.map (·.1)).Nodup→dU C D σ (cQ γ (ts.map (·.1)) (ts.map fun _ => .used)) a w
 | [],_,h,_,_=>h
 | t :: ts,γ,h,hk,hn=>by
  simp only [ak,List.nodup_cons] at hn
  have h1:=dU.FL ts h (fun u hu=>hk u (by simp [hu])) hn.2
  simp only [ak,cQ]
  exact h1.kill (s:=t.2) (by rw [jf hn.1];exact hk t (by simp))
theorem dU.fA (ts:List (Nat × (Nat × Value))):∀{D:kV} {γ:Ga},dU C D σ γ a w→(∀t∈ts,γ (lk t.1) = .no)→(ts.map (·.1)).Nodup →
  (∀t∈ts,gG D.R w t.2.2 t.2.1)→(∀t∈ts,∀g,t.2.2.ownBlock=some g→C.lR g∧∀key,gC D γ key≠some g)→(∀(i j:Nat) (t u:Nat × (Nat × Value)) (g:Nat),ts[i]?=some t→ts[j]?=some u→t.2.2.ownBlock=some g→u.2.2.ownBlock=some g→i=j) →
  ∃D',dU C D' σ (cQ γ (ts.map fun t=>lk t.1) (ts.map fun t => .live t.2.1)) a w∧D'.R=D.R∧D'.β=D.β∧(∀t∈ts,D'.τ (lk t.1)=t.2.2)∧(∀k,(∀t∈ts,k≠lk t.1)→D'.τ k=D.τ k) ∧
   (∀key g,gC D' (cQ γ (ts.map fun t=>lk t.1) (ts.map fun t => .live t.2.1)) key=some g→gC D γ key=some g∨∃t∈ts,t.2.2.ownBlock=some g):=by
 induction ts with
 | nil=>exact fun {D γ} h _ _ _ _ _=>⟨D,h,rfl,rfl,by simp,fun _ _=>rfl,fun _ _ hk => .inl hk⟩
 | cons t ts ih =>
  intro D γ h oF hn hT qw Ey
  simp only [ak,List.nodup_cons] at hn
  obtain ⟨D1,h1,hR,z6,pO,Hr,hb⟩:=ih h (fun u hu=>oF u (by simp [hu])) hn.2 (fun u hu=>hT u (by simp [hu])) (fun u hu=>qw u (by simp [hu]))
   (fun i j u v g hi hj hu hv=>by have:=Ey (i+1) (j+1) u v g (by simpa using hi) (by simpa using hj) hu hv;omega)
  have jQ:∀u∈ts,lk t.1≠lk u.1:=fun u hu e=>hn.1 (aT.2 ⟨u,hu,(jZ e).symm⟩)
  have EF:lk t.1 ∉ ts.map fun t=>lk t.1:=fun hm=>by obtain ⟨u,hu,e⟩:=aT.1 hm;exact jQ u hu e.symm
  have HE:cQ γ (ts.map fun t=>lk t.1) (ts.map fun t => .live t.2.1) (lk t.1) = .no:=by rw [jf EF];exact oF t (by simp)
  have wF:∀g,t.2.2.ownBlock=some g→C.lR g∧∀key,gC D1 (cQ γ (ts.map fun t=>lk t.1) (ts.map fun t => .live t.2.1)) key≠some g:=fun g hg=>by
   obtain ⟨m1,m2⟩:=qw t (by simp) g hg
   refine ⟨m1,fun key hk=>?_⟩
   rcases hb key g hk with hk | ⟨u,hu,NS⟩
   ·exact m2 key hk
   ·obtain ⟨j,hj⟩:=bz hu
    have:=Ey 0 (j+1) t u g rfl (by simpa using hj) hg NS
    omega
  have h2:=h1.uK HE (by rw [hR];exact hT t (by simp)) wF
  refine ⟨_,h2,hR,z6,fun u hu=>?_,fun k hk=>?_,fun key g hk=>?_⟩
  ·rcases bq.1 hu with rfl | hu
   ·exact bI _ _ _
   ·show dJ D1.τ (lk t.1) _ (lk u.1)=_
    rw [bO _ _ (fun e=>jQ u hu e.symm)];exact pO u hu
  ·show dJ D1.τ (lk t.1) _ k=_
   rw [bO _ _ (hk t (by simp))];exact Hr k (fun u hu=>hk u (by simp [hu]))
  ·by_cases e:key=lk t.1
   ·subst e
    right
    simp only [ak,cQ,gC,bI] at hk
    exact ⟨t,by simp,hk⟩
   ·have:gC D1 (cQ γ (ts.map fun t=>lk t.1) (ts.map fun t => .live t.2.1)) key=some g:=by
     simp only [ak,cQ,gC] at hk
     rw [bO _ _ e] at hk
     unfold gC
     revert hk
     cases hg:cQ γ (ts.map fun t=>lk t.1) (ts.map fun t => .live t.2.1) key with
     | live s'=>simp [bO _ _ e]
     | pv s'=>simp [bO _ _ e]
     | pc s'=>simp [bO _ _ e]
     | nC d s'=>simp [bO _ _ e]
     | _=>exact id
    rcases hb key g this with hk | ⟨u,hu,NS⟩
    ·exact .inl hk
    ·exact .inr ⟨u,by simp [hu],NS⟩
theorem dU.AB (h:dU C D σ γ a w) {m:Nat} {w':World} {R':Reach} {io:Nat→Prop} {x:AV} {cs:List Value} {ts:List (Nat × (Nat × Nat))} (hm:γ m = .cl ts) (he:Ext w D.R io w' R')
  (wD:∀b,io b→b=D.β m∨(C.lR b∧∀key,gC D γ key≠some b)) (hv:jy R' w' x (D.β m) cs) (lt:∀b o,R' b o→b<w'.heap.size) :
  dU C { D with R:=R' } (dJ σ m x) (dJ γ m (.cl [])) a w':=by
 have jD:∀j,(dJ γ m (.cl []) j).gy=(γ j).gy:=fun j=>by
  by_cases e:j=m
  ·subst e;rw [bI,hm];rfl
  ·rw [bO _ _ e]
 have lF:∀j,(dJ γ m (.cl []) j).fL=(γ j).fL:=fun j=>by
  by_cases e:j=m
  ·subst e;rw [bI,hm];rfl
  ·rw [bO _ _ e]
 have hM:∀g,gn γ g→gn (dJ γ m (.cl [])) g:=fun g hg=>by
  cases g <;> simp only [gn,jD,lF] at hg ⊢ <;> first | exact hg | skip
  rename_i d s'
  have hd:d≠m:=fun e=>by subst e;rcases hg with e | ⟨o0,e⟩ <;> rw [hm] at e <;> cases e
  rw [bO _ _ hd];exact hg
 have hB:∀key,gC { D with R:=R' } (dJ γ m (.cl [])) key=gC D γ key:=fun key=>by
  unfold gC
  by_cases e:key=m
  ·subst e;rw [bI,hm]
  ·rw [bO _ _ e]
 have qx:∀key g,key≠m→gC D γ key=some g→w'.heap[g]?=w.heap[g]?∧∀o,R' g o→D.R g o:=fun key g jQ hk=>by
  have Kg:¬io g:=fun hi=>by
   rcases wD g hi with e | ⟨_,e⟩
   ·exact jQ (h.rh (key:=m) (by rw [hm];rfl) (by rw [iI hm,e]) hk).symm
   ·exact e key hk
  refine ⟨he.heap g (h.lt hk) Kg,fun o hr=>?_⟩
  rcases he.qn g o hr with r | r | r
  ·exact r
  ·have:=h.lt hk;omega
  ·exact (Kg r).elim
 refine ⟨h.size,h.defers,h.kj,fun j hj=>h.nr j (by rwa [jD] at hj),fun j hj=>h.lS j (by rwa [lF] at hj),fun t ht=>?_,fun j vs hj=>?_,fun key s' km=>?_,h.ps.cd he.cd (fun key hp=>?_),fun p q g hp hq=>(by rw [jC (by rw [hm];rfl) rfl,jC (by rw [hm];rfl) rfl];exact h.sep p q g (by rwa [hB] at hp) (by rwa [hB] at hq)),fun p g hp=>h.own p g (by rwa [hB] at hp),fun key=>?_,?_,lt,fun n=>(h.gl n).mono he.cd,h.fix.dJ (by rw [hm];rfl) rfl rfl⟩
 ·have e:t≠m:=by have:=(h.nr m (by rw [hm];rfl)).1;omega
  rw [bO _ _ e,bO _ _ e]
  exact (h.slot t ht).imp id fun ⟨r,g⟩=>⟨r.mono he.cd,by cases hg:γ t <;> rw [hg] at g <;> exact g⟩
 ·by_cases e:j=m
  ·subst e;rw [bI] at hj;cases hj;rw [bI];exact ⟨cs,hv,by simp⟩
  ·rw [bO _ _ e] at hj;rw [bO _ _ e]
   obtain ⟨L1,AR,uZ⟩:=h.mem j vs hj
   obtain ⟨e1,e2⟩:=qx j _ e (iI hj)
   exact ⟨L1,AR.cd he.cd e1 (fun o hr=>AR.BY o (e2 o hr)),uZ⟩
 ·have e:key≠m:=fun e=>by subst e;rw [bI] at km;cases km
  rw [bO _ _ e] at km
  exact (h.gb key s' km).cd fun g hg=>qx key g e ((iH km).trans hg)
 ·have e:key≠m:=fun e=>by subst e;rw [bI] at hp;cases hp
  rw [bO _ _ e] at hp ⊢
  rw [bO _ _ e]
  exact ⟨rfl,rfl,rfl,fun g hg=>qx key g e ((iq hp).trans hg)⟩
 ·by_cases e:key=m
  ·subst e;rw [bI];exact fun t ht=>by cases ht
  ·rw [bO _ _ e];exact hM _ (h.inv key)
 ·refine h.ext.trans he fun b hb=>?_
  rcases wD b hb with e | ⟨e,_⟩
  ·subst e;exact h.own m _ (iI hm)
  ·exact e
theorem dU.xn (h:dU C D σ γ a w) {w':World} {R':Reach} (he:Ext w D.R (fun _=>False) w' R') (lt:∀b o,R' b o→b<w'.heap.size):dU C { D with R:=R' } σ γ a w' :=
 h.grow he.os he.tape he.output he.size (fun b hb=>he.heap b hb id) (fun b o hr=>(he.cd b o hr).1) (fun b o hr=>by
  rcases he.qn b o hr with r | r | r
  ·exact .inl r
  ·exact .inr r
  ·exact r.elim) lt
end
end Go.Eng
namespace Go.Eng
open Go.RowKit
theorem rQ {L:List (Nat × (Nat × Nat))} {vs:List Value} {p:Nat} {t:Nat × (Nat × Value)} (h:(List.zipWith (fun t v=>(t.2.1,(t.2.2,v))) L vs)[p]?=some t) :
  ∃q v,L[p]?=some q∧vs[p]?=some v∧t=(q.2.1,(q.2.2,v)):=by
 rw [List.getElem?_zipWith] at h
 cases h1:L[p]? with
 | none=>simp [h1] at h
 | some q =>
  cases h2:vs[p]? with
  | none=>simp [h1,h2] at h
  | some v=>simp [h1,h2] at h;exact ⟨q,v,rfl,rfl,h.symm⟩
theorem pz {β:Type} (f:Nat × Nat→β):∀{L:List (Nat × (Nat × Nat))} {vs:List Value},L.length=vs.length →
  (List.zipWith (fun t v=>(t.2.1,(t.2.2,v))) L vs).map (fun t=>f (t.1,t.2.1))=L.map fun t=>f (t.2.1,t.2.2)
 | [],[],_=>rfl
 | q :: L,v :: vs,h=>by
  simp only [List.zipWith_cons_cons,ak]
  rw [pz f (by simpa using h)]
 | [],_ :: _,h=>by simp at h
 | _ :: _,[],h=>by simp at h
theorem ly {L:List (Nat × (Nat × Nat))} {p:Nat} {q:Nat × (Nat × Nat)} (h:L[p]?=some q):(jk L)[p]?=some (q.1,q.2.2):=by simp [jk,h]
section
variable {C:Ctx} {D:kV} {σ:Sg} {γ:Ga} {a:Act} {w:World}
variable {o:Oper} {d:Nat} {K:Act→World→Prop} {Q:Exit→Act→World→Prop}
theorem pZ {f:Nat} {args:Array Operand} {ts:Array TypeId} (ho:o.op = .call { callee := .value (.func f),args,argTypes:=ts }) (hp:jB C.P f=true):(execOp a.eval o).run C.P w = .ok (.enter f (args.map a.eval)) w:=by
 unfold jB at hp
 cases hf:C.P.funcs[f]? with
 | none=>simp [hf] at hp
 | some fn =>
  simp only [hf,Option.any_some,ae,Bool.not_eq_true',beq_eq_false_iff_ne,ne_eq] at hp
  obtain ⟨h1,h2⟩:=hp
  have KU:fn.body.isNone=false:=by cases hb:fn.body <;> simp [hb] at h1 ⊢
  have he:a.eval (.func f) = .func (.func f) #[] #[]:=rfl
  simp [execOp,ho,resolve,Deferred.ofValue,he,invoke,callFunc,hf]
  rw [ah h2,ah (by intro e;rw [e] at h1;cases h1)]
theorem dU.Dl (h:dU C D σ γ a w) (hd:o.dst=some d) {f:Nat} {args:Array Operand} {ts:Array TypeId} (ho:o.op = .call { callee := .value (.func f),args,argTypes:=ts }) (hp:jB C.P f=true)
  {S:FS} (hS:fH C.P C.E.gl f S) (lD:S.sg.ps=none) {ins outs:List AV} (hG:S.G ins outs) (hA:jG S.sg D.R w ins (args.toList.map a.eval))
  (hK:∀x R' w',Ext w D.R (ot S.sg w (args.toList.map a.eval)) w' R'→(∀b o,R' b o→b<w'.heap.size) →
   zw S.sg R' w' (fun b=>ot S.sg w (args.toList.map a.eval) b∨w.heap.size≤b) (args.toList.map a.eval) outs x→K (a.put (some d) x) w'):o.wp C.P a w K Q:=by
 unfold Oper.wp
 rw [pZ ho hp,Oper.upon_enter]
 have:=hS.1 lD w D.R ins outs (args.toList.map a.eval) hG h.ns h.gl hA
 have e:(⟨args.toList.map a.eval⟩:Array Value)=args.map a.eval:=by apply Array.ext';simp
 rw [e] at this
 refine this.mono ?_
 rintro e w' ⟨x,R',rfl,h1,h2,h3⟩
 simp only
 rw [hd]
 exact hK x R' w' h1 h2 h3
theorem CS.om (c:CS):c.dg.gy=false∧c.dg.fL=false:=by
 unfold CS.dg
 repeat' split
 all_goals exact ⟨rfl,rfl⟩
theorem CS.vi {c:CS} (h1:∀t∈c.own,(γ (lk t.2.1)).fL=true) (h2:∀q,c.new=some q→(γ q.2).gy=true):gn γ c.dg:=by
 unfold CS.dg
 split
 ·split
  ·rename_i hn;exact h2 _ hn
  ·rename_i ho;exact h1 _ (by rw [ho];exact List.mem_singleton.2 rfl)
  ·trivial
 ·exact ⟨h1,h2⟩
theorem CS.C6 {c:CS} {ki:List Value} {x:Value} (hl:ki.length=c.cS) (hx:x=if c.cS=1 then ki.headD undef else .tuple ⟨ki⟩)
  (h1:∀t∈c.own,ki[t.1]?=some (D.τ (lk t.2.1))∧(D.τ (lk t.2.1)).oneCell'=true) (h2:∀q,c.new=some q→ki[q.1]?=some (.pointer (some ⟨D.β q.2,0,none⟩))):jR D c.dg x:=by
 unfold CS.dg
 split
 ·rename_i e
  rw [ao e] at hx
  rw [e] at hl
  match ki,hl with
  | [y],_ =>
   simp at hx;subst hx
   cases hn:c.new with
   | some q =>
    obtain ⟨j,m⟩:=q
    have:=h2 _ hn
    have hj:j=0:=by
     have:=(aC.1 this).1
     simp at this;exact this
    subst hj
    simpa [jR] using this
   | none =>
    split
    ·rename_i e;cases e
    ·rename_i q k s _ ho
     have:=h1 (0,k,s) (by rw [ho];simp)
     simp at this
     exact ⟨this.1,by rw [this.1];exact this.2⟩
    ·trivial
 ·rename_i e
  rw [ah e] at hx
  exact ⟨ki,hx,h1,h2⟩
theorem vZ {c:CS} {g:dq} {R:Reach} {w:World} {outs:List AV} {ki:List Value} {x:Value} (hn:c.cS=g.cS) (jP:c.new.map (·.1)=g.new) (hl:ki.length=g.cS) (hx:x=if g.cS=1 then ki.headD undef else .tuple ⟨ki⟩)
  (hj:∀q∈c.new.toList,q.1<c.cS) (hT:gP R w ((outs.take g.cS).mapIdx fun i y=>if g.new=some i then .pt else y) ki):Rep R w (c.main outs) x:=by
 have On:(fun (i:Nat) (y:AV)=>if g.new=some i then AV.pt else y)=fun i y=>if c.new.any (·.1 == i) then .pt else y:=by
  funext i y
  rw [←jP]
  cases c.new with
  | none=>simp
  | some q=>simp
 rw [On] at hT
 unfold CS.main
 rw [hn]
 by_cases e:g.cS=1
 ·rw [ao e] at hx ⊢
  rw [e] at hl hT
  match ki,hl with
  | [y],_ =>
   simp at hx;subst hx
   cases hc:c.new with
   | some q=>simp;exact .pt _
   | none =>
    simp only [hc,Option.isSome_none,bk,if_false]
    rw [hc] at hT
    cases outs with
    | nil=>simp at hT;cases hT
    | cons o1 os =>
     simp at hT
     cases hT with
     | cons h1 _=>simpa using h1
 ·rw [ah e] at hx ⊢
  subst hx
  exact .tu hT
end
end Go.Eng
namespace Go.Eng
open Go.RowKit
theorem C9 {L:List (Nat × (Nat × Nat))} (h:jk L=[]):L=[]:=by cases L with | nil=>rfl | cons=>simp [jk] at h
section
variable {C:Ctx} {D:kV} {σ:Sg} {γ:Ga} {a:Act} {w:World}
variable {o:Oper} {d:Nat} {K:Act→World→Prop} {Q:Exit→Act→World→Prop}
theorem dU.vE (h:dU C D σ γ a w) {L:List (Nat × (Nat × Nat))} {vs:List Value} (hl:L.length=vs.length) (oF:∀t∈L,γ (lk t.2.1) = .no) (hnd:(L.map (·.2.1)).Nodup)
  (hT:∀(p:Nat) (t:Nat × Nat) (v:Value),(jk L)[p]?=some t→vs[p]?=some v→gG D.R w v t.2)
  (qw:∀v∈vs,∀g,v.ownBlock=some g→C.lR g∧∀key,gC D γ key≠some g) (Ey:∀(p q g:Nat),(vs.map Value.ownBlock)[p]?=some (some g)→(vs.map Value.ownBlock)[q]?=some (some g)→p=q) :
  ∃D',dU C D' (cQ σ (L.map fun t=>lk t.2.1) (L.map fun _ => .dead)) (cQ γ (L.map fun t=>lk t.2.1) (L.map fun t => .live t.2.2)) a w∧D'.R=D.R∧D'.β=D.β ∧
   (∀(p:Nat) (t:Nat × (Nat × Nat)) (v:Value),L[p]?=some t→vs[p]?=some v→D'.τ (lk t.2.1)=v)∧(∀k,(∀t∈L,k≠lk t.2.1)→D'.τ k=D.τ k) ∧
   (∀key g,gC D' (cQ γ (L.map fun t=>lk t.2.1) (L.map fun t => .live t.2.2)) key=some g→gC D γ key=some g∨∃v∈vs,v.ownBlock=some g):=by
 let T:=List.zipWith (fun t v=>(t.2.1,(t.2.2,v))) L vs
 have e1:(T.map fun t=>lk t.1)=L.map fun t=>lk t.2.1:=pz (fun p=>lk p.1) hl
 have e2:(T.map fun t=>Gh.live t.2.1)=L.map fun t => .live t.2.2:=pz (fun p=>Gh.live p.2) hl
 have e3:T.map (·.1)=L.map (·.2.1):=pz (fun p=>p.1) hl
 have pR:∀t∈T,∃(p:Nat) (q:Nat × (Nat × Nat)) (v:Value),T[p]?=some t∧L[p]?=some q∧vs[p]?=some v∧t=(q.2.1,(q.2.2,v)):=fun t ht=>by
  obtain ⟨p,hp⟩:=bz ht
  obtain ⟨q,v,h1,h2,h3⟩:=rQ hp
  exact ⟨p,q,v,hp,h1,h2,h3⟩
 obtain ⟨D',h1,hR,z6,pO,Hr,hb⟩:=h.fA T (fun t ht=>by obtain ⟨p,q,v,_,h1,_,rfl⟩:=pR t ht;exact oF q (bc h1)) (by rw [e3];exact hnd)
  (fun t ht=>by obtain ⟨p,q,v,_,h1,h2,rfl⟩:=pR t ht;exact hT p (q.1,q.2.2) v (ly h1) h2)
  (fun t ht g hg=>by obtain ⟨p,q,v,_,h1,h2,rfl⟩:=pR t ht;exact qw v (bc h2) g hg)
  (fun i j t u g hi hj ht hu=>by
   obtain ⟨q,v,h1,h2,rfl⟩:=rQ hi
   obtain ⟨q',v',KU,te,rfl⟩:=rQ hj
   exact Ey i j g (by simp [h2];exact ht) (by simp [te];exact hu))
 rw [e1,e2] at h1 hb
 have h2:=h1.C8 (L.map fun t=>lk t.2.1) (fun k hk=>by
  cases hc:(cQ γ (L.map fun t=>lk t.2.1) (L.map fun t=>Gh.live t.2.2) k).gy with
  | false=>rfl
  | true =>
   have:=(h1.nr k hc).2
   obtain ⟨t,_,e⟩:=aT.1 hk
   have:=hU t.2.1
   omega)
 rw [bh] at h2
 refine ⟨D',h2,hR,z6,fun p t v ht hv=>?_,fun k hk=>?_,fun key g hk=>?_⟩
 ·have hp:T[p]?=some (t.2.1,(t.2.2,v)):=by simp only [T];rw [List.getElem?_zipWith];simp [ht,hv]
  exact pO _ (bc hp)
 ·exact Hr k (fun t ht=>by obtain ⟨p,q,v,_,h1,_,rfl⟩:=pR t ht;exact hk q (bc h1))
 ·rcases hb key g hk with hk | ⟨t,ht,hg⟩
  ·exact .inl hk
  ·obtain ⟨p,q,v,_,h1,h2,rfl⟩:=pR t ht
   exact .inr ⟨v,bc h2,hg⟩
theorem qC {c:CS} {g:dq} (h:c.fits g=true):c.ref.map (·.1)=g.ref∧jk c.kD=g.fA∧jk c.iu=g.fA∧c.cS=g.cS∧jk c.own=g.own∧c.new.map (·.1)=g.new∧jk c.fx=g.fx ∧
  ((c.kD++c.iu++c.own++c.fx).map (·.2.1)).Nodup∧(c.ref=none→c.kD=[])∧(c.new=none→c.fx=[])∧(c.ref=none∨c.new=none)∧(∀q∈c.new.toList,q.1<c.cS∧q.2<999999)∧g.ps=none:=by
 unfold CS.fits at h;exact aD h
variable (h:dU C D σ γ a w) (hd:o.dst=some d) (hl:d<C.nt)
include h hd hl
theorem BO {f:Nat} {args:Array Operand} {ts:Array TypeId} {c:CS} {rs:List eB} (ho:o.op = .call { callee := .value (.func f),args,argTypes:=ts }) (hp:jB C.P f=true)
  {S:FS} (hS:fH C.P C.E.gl f S) (hc:c.fits S.sg=true) (jb:c.ref=none) (hx:dk args.toList rs=true) (fg:small C.nt args.toList=true) {outs:List AV}
  (hG:S.G (rs.map (eB.ev C.E σ)) outs) (tW:outs.length=c.cS+c.jE.length)
  (jP:∀q,c.new=some q→γ q.2 = .no∧C.nt≤q.2∧q.2<1000000) (oF:∀t∈c.own++c.fx,γ (lk t.2.1) = .no)
  (hK:∀D' a' w',dU C D' (cQ σ (d :: (c.jE++c.lT)) (c.main outs :: (outs.drop c.cS++c.lT.map fun _ => .dead)))
   (cQ γ (d :: (c.jE++c.lT)) (c.dg :: (c.new.toList.map (fun _ => .cl c.fx)++c.ref.toList.map (fun _ => .cl c.iu)++c.kD.map (fun _ => .used)++(c.iu++c.own++c.fx).map fun t => .live t.2.2))) a' w'→K a' w'):o.wp C.P a w K Q:=by
 obtain ⟨f1,f2,f3,f4,f5,f6,f7,f8,f9,f10,f11,f12,f13⟩:=qC hc
 have wm:=f9 jb
 have qX:S.sg.ref=none:=by rw [←f1,jb];rfl
 have y0:S.sg.fA=[]:=by rw [←f2,wm];rfl
 have yZ:c.iu=[]:=C9 (by rw [f3,y0])
 have CF:c.lT=(c.own++c.fx).map fun t=>lk t.2.1:=by simp [CS.lT,wm,yZ]
 have hnd:((c.own++c.fx).map (·.2.1)).Nodup:=by simpa [wm,yZ] using f8
 have hA:jG S.sg D.R w (rs.map (eB.ev C.E σ)) (args.toList.map a.eval):=by
  unfold jG;rw [qX];exact h.vS hx fg
 refine h.Dl hd ho hp hS f13 hG hA ?_
 intro x R' w' hE gM hO
 have wD:ot S.sg w (args.toList.map a.eval)=fun _=>False:=by funext b;simp [ot,qX]
 rw [wD] at hE
 obtain ⟨ki,tr,gW,tn,bn,br,cn,cr,o1,o2,o3,o4,o5,_,o7,o8,o9,_,MC,Qe,It,Hg,Js⟩:=hO
 have QI:tr=[]:=bm (by rw [o7,y0];rfl)
 subst QI
 have h1:=h.xn hE gM
 have CR:(c.own++c.fx).length=(gW++tn).length:=by
  simp only [aw,o8,o9,←f5,←f7,jk,aN]
 have CN:jk (c.own++c.fx)=S.sg.own++S.sg.fx:=by rw [←f5,←f7];simp [jk]
 -- Pa blocks Pc RY
 have CB:lP S.sg bn br ([]++gW++tn)=(if S.sg.new.isSome then [some bn] else [])++(gW++tn).map Value.ownBlock:=by
  simp [lP,qX]
 rw [CB] at Hg Js
 have oH:∀g,some g∈(if S.sg.new.isSome then [some bn] else [])++(gW++tn).map Value.ownBlock→w.heap.size≤g:=fun g hg=>by
  rcases Js g hg with e | e
  ·rw [wD] at e;exact e.elim
  ·exact e
 obtain ⟨D2,h2,OB,Qv,JZ,_,AU⟩:=h1.vE (L:=c.own++c.fx) (vs:=gW++tn) CR oF hnd
  (fun p t v ht hv=>by rw [CN] at ht;exact It p t v (by rw [y0];exact ht) hv)
  (fun v hv g hg=>by
   have za:=oH g (List.mem_append.2 (.inr (aT.2 ⟨v,hv,hg⟩)))
   exact ⟨.inr (Nat.le_trans h.ext.size za),fun key hk=>by have:=h.lt (show gC D γ key=some g from hk);omega⟩)
  (fun p q g hp hq=>by
   have:=Hg ((if S.sg.new.isSome then [some bn] else []).length+p) ((if S.sg.new.isSome then [some bn] else []).length+q) g
    (by rw [aS (by omega),Nat.add_sub_cancel_left];exact hp) (by rw [aS (by omega),Nat.add_sub_cancel_left];exact hq)
   omega)
 have kR:∀t∈c.own++c.fx,(cQ γ ((c.own++c.fx).map fun t=>lk t.2.1) ((c.own++c.fx).map fun t => .live t.2.2) (lk t.2.1)).fL=true:=by
  intro t ht
  have:∀(L:List (Nat × (Nat × Nat))),t∈L→(cQ γ (L.map fun t=>lk t.2.1) (L.map fun t => .live t.2.2) (lk t.2.1)).fL=true:=by
   intro L
   induction L with
   | nil=>intro hm;cases hm
   | cons u L ih =>
    intro hm
    simp only [ak,cQ]
    by_cases e:lk t.2.1=lk u.2.1
    ·rw [e,bI];rfl
    ·rw [bO _ _ e]
     rcases bq.1 hm with rfl | hm
     ·exact (e rfl).elim
     ·exact ih hm
  exact this _ ht
 have Ab:∀(p:Nat) (t:Nat × (Nat × Nat)) (v:Value),(c.own++c.fx)[p]?=some t→(gW++tn)[p]?=some v→v.oneCell'=true:=fun p t v ht hv=>by
  have KG:=ly ht
  rw [CN] at KG
  rcases It p _ v (by rw [y0];exact KG) hv with rfl | ⟨_,_,_,_,_,_,rfl,_⟩ <;> rfl
 have y7:∀t∈c.own,ki[t.1]?=some (D2.τ (lk t.2.1))∧(D2.τ (lk t.2.1)).oneCell'=true:=fun t ht=>by
  obtain ⟨p,jS⟩:=bz ht
  have xW:=(aC.1 jS).1
  have sE:gW.length=c.own.length:=by rw [o8,←f5];simp [jk]
  have hv:gW[p]?=some gW[p]:=aE (by omega)
  have e1:(c.own++c.fx)[p]?=some t:=by rw [List.getElem?_append_left xW];exact jS
  have e2:(gW++tn)[p]?=some gW[p]:=by rw [List.getElem?_append_left (by omega)];exact hv
  have e3:=MC p _ _ (by rw [←f5];exact ly jS) hv
  rw [JZ p t _ e1 e2]
  exact ⟨e3,Ab p t _ e1 e2⟩
 have kk:=vZ (R:=R') (w:=w') f4 f6 o1 o2 (fun q hq=>(f12 q hq).1) o4
 cases hn:c.new with
 | none =>
  have nP:c.jE=[]:=by simp [CS.jE,hn,jb]
  have qV:=f10 hn
  have ni:outs.drop c.cS=[]:=aI (by rw [tW,nP];simp)
  have h3:=h2.put (d:=d) (s:=c.main outs) (g:=c.dg) (v:=x) hl (.inr ⟨by rw [OB];exact kk,fun _=>CS.C6 (by rw [o1,f4]) (by rw [f4];exact o2) y7 (by simp [hn])⟩)
   (CS.om c).1 (CS.om c).2 (CS.vi (fun t ht=>kR t (by simp [ht])) (by simp [hn]))
  refine hK D2 (a.put (some d) x) w' ?_
  simp only [nP,CF,ni,hn,jb,wm,yZ,Option.toList,au,bA,cQ]
  simpa [Function.comp_def] using h3
 | some q =>
  obtain ⟨j,m⟩:=q
  obtain ⟨pr,qW,xV⟩:=jP _ hn
  have LC:S.sg.new=some j:=by rw [←f6,hn];rfl
  have nP:c.jE=[m]:=by simp [CS.jE,hn,jb]
  obtain ⟨p1,p2⟩:=o5 j LC
  have N7:outs.length=c.cS+1:=by rw [tW,nP];rfl
  have Km:c.cS<outs.length:=by omega
  have ni:outs.drop c.cS=[outs.getD S.sg.cS .dead]:=by
   rw [List.drop_eq_getElem_cons Km,aI (by omega),←f4]
   simp [List.getD,Km]
  have CE:m ∉ (c.own++c.fx).map fun t=>lk t.2.1:=fun hm=>by
   obtain ⟨t,_,e⟩:=aT.1 hm
   have:=hU t.2.1
   simp at e xV
   omega
  have EJ:cQ γ ((c.own++c.fx).map fun t=>lk t.2.1) ((c.own++c.fx).map fun t => .live t.2.2) m = .no:=by rw [jf CE];exact pr
  have Rm:w.heap.size≤bn:=oH bn (by simp [LC])
  have h3:=h2.newVar (m:=m) (b:=bn) (x:=outs.getD S.sg.cS .dead) (cs:=cn) (ts:=c.fx) EJ qW (f12 (j,m) (by rw [hn];exact List.mem_singleton.2 rfl)).2 (by rw [OB];exact p2)
   (fun t ht=>⟨kR t (by simp [ht]),by
    obtain ⟨p,jS⟩:=bz ht
    have xW:=(aC.1 jS).1
    have sE:gW.length=c.own.length:=by rw [o8,←f5];simp [jk]
    have S5:tn.length=c.fx.length:=by rw [o9,←f7];simp [jk]
    have hv:tn[p]?=some tn[p]:=aE (by omega)
    rw [JZ (c.own.length+p) t tn[p] (by rw [aS (by omega),Nat.add_sub_cancel_left];exact jS) (by rw [aS (by omega),sE,Nat.add_sub_cancel_left];exact hv)]
    exact Qe p _ _ (by rw [←f7];exact ly jS) hv⟩)
   ⟨.inr (Nat.le_trans h.ext.size Rm),fun key hk=>by
    rcases AU key bn hk with e | ⟨v,hv,e⟩
    ·have:=h.lt (show gC D γ key=some bn from e);omega
    ·obtain ⟨p,jS⟩:=bz hv
     have:=Hg 0 (1+p) bn (by simp [LC]) (by simp only [LC,Option.isSome_some,if_true];rw [aS (by simp),show 1+p - [some bn].length=p by simp,aL,jS];simp [e])
     omega⟩
  have h4:=h3.put (d:=d) (s:=c.main outs) (g:=c.dg) (v:=x) hl (.inr ⟨by show Rep D2.R w' _ _;rw [OB];exact kk,fun _=>CS.C6 (by rw [o1,f4]) (by rw [f4];exact o2) y7 (fun q hq=>by
    rw [hn] at hq;cases hq
    show ki[j]?=some (.pointer (some ⟨dJ D2.β m bn m,0,none⟩))
    rw [bI];exact p1)⟩)
   (CS.om c).1 (CS.om c).2 (CS.vi (fun t ht=>by
    have jQ:lk t.2.1≠m:=by have:=hU t.2.1;simp at xV;omega
    rw [bO _ _ jQ];exact kR t (by simp [ht])) (fun q hq=>by rw [hn] at hq;cases hq;rw [bI];rfl))
  refine hK { D2 with β:=dJ D2.β m bn } (a.put (some d) x) w' ?_
  simp only [nP,CF,ni,hn,jb,wm,yZ,Option.toList,au,bA,ak,List.cons_append,cQ]
  simpa [Function.comp_def] using h4
end
end Go.Eng
namespace Go.Eng
open Go.RowKit
theorem yC {α:Type} {l:List α} {i:Nat} {x:α} (h:l[i]?=some x):l.set i x=l:=by
 apply List.ext_getElem?
 intro j
 rw [List.getElem?_set]
 split
 ·rename_i e;subst e
  rw [ao (aC.1 h).1,h]
 ·rfl
theorem tF {α:Type}:∀{l:List α} {i j:Nat} {x:α},l.Nodup→l[i]?=some x→l[j]?=some x→i=j
 | [],i,j,x,_,h,_=>by simp at h
 | a :: l,0,0,x,_,_,_=>rfl
 | a :: l,0,j+1,x,hn,h,k=>by
  simp at h k
  subst h
  exact ((List.nodup_cons.1 hn).1 (bc k)).elim
 | a :: l,i+1,0,x,hn,h,k=>by
  simp at h k
  subst k
  exact ((List.nodup_cons.1 hn).1 (bc h)).elim
 | a :: l,i+1,j+1,x,hn,h,k=>by
  have:=tF (i:=i) (j:=j) (List.nodup_cons.1 hn).2 (by simpa using h) (by simpa using k)
  omega
section
variable {C:Ctx} {D:kV} {σ:Sg} {γ:Ga} {a:Act} {w:World}
variable {o:Oper} {d:Nat} {K:Act→World→Prop} {Q:Exit→Act→World→Prop}
variable (h:dU C D σ γ a w) (hd:o.dst=some d) (hl:d<C.nt)
include h hd hl
theorem BN {f : Nat} {args : Array Operand} {rN : Array TypeId} {c : CS} {rs : List eB} {i m : Nat} {ts : List (Nat × (Nat × Nat))} (ho : o.op = .call { callee := .value (.func f), args, argTypes := rN }) (hp : jB C.P f = true)
    {S : FS} (hS : fH C.P C.E.gl f S) (hc : c.fits S.sg = true) (jb : c.ref = some (i, m)) (hx : dk args.toList rs = true) (fg : small C.nt args.toList = true) {outs : List AV}
    (AS : (rs.map (eB.ev C.E σ))[i]? = some .pt) (HK : (rs.map (eB.gh γ))[i]? = some (.ptr m 0)) (hm : γ m = .cl ts) (oD : ∀ t ∈ c.kD, t ∈ ts) (kR : ∀ t ∈ c.kD, γ (lk t.2.1) = .live t.2.2)
    (hG : S.G ((rs.map (eB.ev C.E σ)).set i (σ m)) outs) (tW : outs.length = c.cS + c.jE.length) (oF : ∀ t ∈ c.iu ++ c.own, γ (lk t.2.1) = .no)
    (hK : ∀ D' a' w', dU C D' (cQ σ (d :: (c.jE ++ c.lT)) (c.main outs :: (outs.drop c.cS ++ c.lT.map fun _ => .dead)))
      (cQ γ (d :: (c.jE ++ c.lT)) (c.dg :: (c.new.toList.map (fun _ => .cl c.fx) ++ c.ref.toList.map (fun _ => .cl c.iu) ++ c.kD.map (fun _ => .used) ++ (c.iu ++ c.own ++ c.fx).map fun t => .live t.2.2))) a' w' → K a' w') : o.wp C.P a w K Q := by
  obtain ⟨f1, f2, f3, f4, f5, f6, f7, f8, f9, f10, f11, f12, f13⟩ := qC hc
  have jP : c.new = none := by rcases f11 with e | e; · rw [jb] at e; cases e
                               · exact e
  have qV := f10 jP
  have qX : S.sg.ref = some i := by rw [← f1, jb]; rfl
  have FV : S.sg.new = none := by rw [← f6, jP]; rfl
  have xX : S.sg.fx = [] := by rw [← f7, qV]; rfl
  have nP : c.jE = [m] := by simp [CS.jE, jP, jb]
  have CF : c.lT = (c.kD.map fun t => lk t.2.1) ++ (c.iu ++ c.own).map fun t => lk t.2.1 := by simp [CS.lT, qV]
  simp only [qV, aO] at f8
  have Ki : (c.kD.map (·.2.1)).Nodup := by
    rw [aU, List.map_append] at f8; exact (List.nodup_append.1 f8).1
  have Oa : ((c.iu ++ c.own).map (·.2.1)).Nodup := by
    rw [aU, List.map_append] at f8; exact (List.nodup_append.1 f8).2.1
  have KD : ∀ t ∈ c.kD, ∀ u ∈ c.iu ++ c.own, t.2.1 ≠ u.2.1 := by
    rw [aU, List.map_append] at f8
    intro t ht u hu
    exact (List.nodup_append.1 f8).2.2 _ (aT.2 ⟨t, ht, rfl⟩) _ (aT.2 ⟨u, hu, rfl⟩)
  obtain ⟨pr, qW⟩ := h.nr m (by rw [hm]; rfl)
  have Ad : ∀ k, m ≠ lk k := fun k => by have := hU k; omega
  -- the arguments
  obtain ⟨cs, hV, hcs⟩ := h.mem m ts hm
  have hT := h.vS hx fg
  have HJ := (aC.1 AS).1
  obtain ⟨y, tV, _⟩ := hT.get i .pt AS
  have Hz : (args.toList.map a.eval)[i]? = some (.pointer (some ⟨D.β m, 0, none⟩)) := by
    have key : ∀ {l : List Operand} {qs : List eB} {i : Nat}, dk l qs = true → small C.nt l = true → (qs.map (eB.ev C.E σ))[i]? = some .pt → (qs.map (eB.gh γ))[i]? = some (.ptr m 0) → (l.map a.eval)[i]? = some (.pointer (some ⟨D.β m, 0, none⟩)) := by
      intro l
      induction l with
      | nil => intro qs i hq _ jS; cases qs with
        | nil => simp at jS
        | cons => simp [dk] at hq
      | cons x l ih =>
        intro qs i hq Lx jS mN
        cases qs with
        | nil => simp [dk] at hq
        | cons q qs =>
          simp [dk] at hq
          have s1 : small C.nt [x] = true := by simp [small] at Lx ⊢; exact Lx.1
          have s2 : small C.nt l = true := by simp only [small, List.all_cons, ae] at Lx; exact Lx.2
          cases i with
          | zero =>
            simp at jS mN
            have := (h.jr hq.1 s1).gh (by rw [jS]; simp) (by rw [jS]; simp)
            rw [mN] at this
            simpa [jR] using this
          | succ i => simpa using ih hq.2 s2 (by simpa using jS) (by simpa using mN)
    exact key hx fg AS HK
  let tv : List Value := c.kD.map fun t => D.τ (lk t.2.1)
  have Iv : ∀ (p : Nat) (t : Nat × (Nat × Nat)), c.kD[p]? = some t → tv[p]? = some (D.τ (lk t.2.1)) := fun p t ht => by simp [tv, ht]
  have wL : ∀ t ∈ c.kD, gC D γ (lk t.2.1) = (D.τ (lk t.2.1)).ownBlock := fun t ht => iH (kR t ht)
  have hA : jG S.sg D.R w ((rs.map (eB.ev C.E σ)).set i (σ m)) (args.toList.map a.eval) := by
    unfold jG
    rw [qX]
    refine ⟨D.β m, cs, σ m, tv, Hz, List.getElem?_set_self HJ, hV, ?_, ?_, ?_, ?_⟩
    · rw [List.set_set, yC AS]; exact hT
    · simp [tv, ← f2, jk]
    · intro p t v ht hv
      rw [← f2] at ht
      simp only [jk, aL] at ht
      cases hq : c.kD[p]? with
      | none => simp [hq] at ht
      | some q =>
        simp [hq] at ht
        subst ht
        have e := Iv p q hq
        rw [hv] at e
        cases e
        have pR := bc hq
        exact ⟨hcs q (oD q pR), h.gb _ _ (kR q pR)⟩
    · have s9 : ∀ (p g : Nat), (some (D.β m) :: tv.map Value.ownBlock)[p]? = some (some g) → ∃ key, gC D γ key = some g ∧ ((p = 0 ∧ key = m) ∨ ∃ p' t, p = p' + 1 ∧ c.kD[p']? = some t ∧ key = lk t.2.1) := by
        intro p g jS
        cases p with
        | zero => simp at jS; exact ⟨m, by rw [iI hm, jS], .inl ⟨rfl, rfl⟩⟩
        | succ p =>
          simp only [List.getElem?_cons_succ, tv, bh, aL] at jS
          cases hq : c.kD[p]? with
          | none => simp [hq] at jS
          | some q =>
            simp [hq] at jS
            exact ⟨lk q.2.1, by rw [wL q (bc hq)]; exact jS, .inr ⟨p, q, rfl, hq, rfl⟩⟩
      intro p q g jS Cz
      obtain ⟨k1, e1, c1⟩ := s9 p g jS
      obtain ⟨k2, e2, c2⟩ := s9 q g Cz
      have Ok : k1 = k2 := h.rh (by
        rcases c1 with ⟨_, e⟩ | ⟨p', t, _, ht, e⟩
        · rw [e, hm]; rfl
        · rw [e, kR t (bc ht)]; rfl) e1 e2
      rcases c1 with ⟨rfl, rfl⟩ | ⟨p', t, rfl, ht, rfl⟩ <;> rcases c2 with ⟨rfl, rfl⟩ | ⟨q', u, rfl, hu, rfl⟩
      · rfl
      · exact (Ad _ Ok).elim
      · exact (Ad _ Ok.symm).elim
      · have hid := jZ Ok
        have h1 : (c.kD.map (·.2.1))[p']? = some t.2.1 := by simp [ht]
        have h2 : (c.kD.map (·.2.1))[q']? = some t.2.1 := by simp [hu, hid]
        have := tF Ki h1 h2
        omega
  refine h.Dl hd ho hp hS f13 hG hA ?_
  intro x R' w' hE gM hO
  obtain ⟨ki, tr, gW, tn, bn, br, cn, cr, o1, o2, o3, o4, _, o6, o7, o8, o9, Iu, MC, _, It, Hg, Js⟩ := hO
  have QJ : tn = [] := bm (by rw [o9, xX]; rfl)
  subst QJ
  obtain ⟨p1, p2⟩ := o6 i qX
  rw [Hz] at p1
  cases p1
  simp only [FV, Option.isSome_none, bk, if_false, Nat.add_zero] at p2 o3
  -- Qc the call may have written
  have wD : ∀ b, ot S.sg w (args.toList.map a.eval) b → b = D.β m ∨ ∃ t ∈ c.kD, (D.τ (lk t.2.1)).ownBlock = some b := by
    intro b hb
    unfold ot at hb
    rw [qX] at hb
    obtain ⟨b', L1, e', q1, q2, q3⟩ := hb
    rw [Hz] at q1
    cases q1
    rcases q3 with q3 | ⟨t, ht, v, hv, NR⟩
    · exact .inl q3
    · right
      obtain ⟨_, hh, _⟩ := hV
      rw [hh] at q2
      cases q2
      rw [← f2] at ht
      obtain ⟨q, hq, rfl⟩ := aT.1 ht
      have := hcs q (oD q hq)
      simp only at hv
      rw [this] at hv
      cases hv
      exact ⟨q, hq, NR⟩
  -- the SU fA RY used up
  have h1 := h.FL (c.kD.map fun t => (lk t.2.1, t.2.2)) (fun u hu => by obtain ⟨t, ht, rfl⟩ := aT.1 hu; exact kR t ht) (by
    rw [bh]
    have : ((fun x : Nat × Nat => x.1) ∘ fun t : Nat × (Nat × Nat) => (lk t.2.1, t.2.2)) = lk ∘ fun t => t.2.1 := rfl
    rw [this, ← bh]
    exact List.Pairwise.map _ (fun _ _ jQ e => jQ (jZ e)) Ki)
  simp only [bh] at h1
  have eT : (c.kD.map ((fun x : Nat × Nat => x.1) ∘ fun t : Nat × (Nat × Nat) => (lk t.2.1, t.2.2))) = c.kD.map fun t => lk t.2.1 := rfl
  have eU : (c.kD.map ((fun _ : Nat × Nat => Gh.used) ∘ fun t : Nat × (Nat × Nat) => (lk t.2.1, t.2.2))) = c.kD.map fun _ => Gh.used := rfl
  rw [eT, eU] at h1
  have Of : m ∉ c.kD.map fun t => lk t.2.1 := fun lE => by obtain ⟨t, _, e⟩ := aT.1 lE; exact Ad _ e.symm
  have Og : m ∉ (c.iu ++ c.own).map fun t => lk t.2.1 := fun lE => by obtain ⟨t, _, e⟩ := aT.1 lE; exact Ad _ e.symm
  have FZ : ∀ key g, gC D (cQ γ (c.kD.map fun t => lk t.2.1) (c.kD.map fun _ => Gh.used)) key = some g → gC D γ key = some g ∧ ∀ t ∈ c.kD, key ≠ lk t.2.1 := by
    intro key g hk
    have EF : key ∉ c.kD.map fun t => lk t.2.1 := fun pR => by
      have : ∀ (L : List (Nat × (Nat × Nat))), key ∈ (L.map fun t => lk t.2.1) → cQ γ (L.map fun t => lk t.2.1) (L.map fun _ => Gh.used) key = .used := by
        intro L
        induction L with
        | nil => intro lE; cases lE
        | cons u L ih =>
          intro lE
          simp only [ak, cQ]
          by_cases e : key = lk u.2.1
          · rw [e, bI]
          · rw [bO _ _ e]
            rcases bq.1 lE with e' | lE
            · exact (e e').elim
            · exact ih lE
      unfold gC at hk
      rw [this _ pR] at hk
      cases hk
    refine ⟨by unfold gC at hk ⊢; rwa [jf EF] at hk, fun t ht e => EF (aT.2 ⟨t, ht, e.symm⟩)⟩
  have EJ : cQ γ (c.kD.map fun t => lk t.2.1) (c.kD.map fun _ => Gh.used) m = .cl ts := by rw [jf Of]; exact hm
  have h2 := h1.AB EJ hE (fun b hb => by
      rcases wD b hb with e | ⟨t, ht, e⟩
      · exact .inl e
      · refine .inr ⟨h.own (lk t.2.1) b (by rw [wL t ht]; exact e), fun key hk => ?_⟩
        obtain ⟨k1, k2⟩ := FZ key b hk
        exact k2 t ht (h.rh (key := lk t.2.1) (by rw [kR t ht]; rfl) (by rw [wL t ht]; exact e) k1).symm) p2 gM
  -- the new fA
  have CB : lP S.sg bn (D.β m) (tr ++ gW ++ []) = some (D.β m) :: (tr ++ gW).map Value.ownBlock := by simp [lP, qX, FV]
  rw [CB] at Hg Js
  simp only [aO] at It
  have CR : (c.iu ++ c.own).length = (tr ++ gW).length := by simp only [aw, o7, o8, ← f3, ← f5, jk, aN]
  have CN : jk (c.iu ++ c.own) = S.sg.fA ++ S.sg.own := by rw [← f3, ← f5]; simp [jk]
  have KI : ∀ key g, gC { D with R := R' } (dJ (cQ γ (c.kD.map fun t => lk t.2.1) (c.kD.map fun _ => Gh.used)) m (.cl [])) key = some g → gC D γ key = some g ∧ ∀ t ∈ c.kD, key ≠ lk t.2.1 := by
    intro key g hk
    apply FZ
    unfold gC at hk ⊢
    by_cases e : key = m
    · subst e; rw [bI] at hk; rw [EJ]; exact hk
    · rw [bO _ _ e] at hk; exact hk
  obtain ⟨D3, h3, Px, NM, JY, _, _⟩ := h2.vE (L := c.iu ++ c.own) (vs := tr ++ gW) CR
    (fun t ht => by
      rw [bO _ _ (Ad _).symm, jf (fun pR => by obtain ⟨u, hu, e⟩ := aT.1 pR; exact KD u hu t ht (jZ e))]
      exact oF t ht) Oa
    (fun p t v ht hv => by rw [CN] at ht; exact It p t v (by rw [xX, aO]; exact ht) hv)
    (fun v hv g hg => by
      have ho := Js g (bq.2 (.inr (aT.2 ⟨v, hv, hg⟩)))
      obtain ⟨p, jS⟩ := bz hv
      have jQ : g ≠ D.β m := fun e => by
        have := Hg 0 (p + 1) g (by simp [e]) (by rw [List.getElem?_cons_succ, aL, jS]; simp [hg])
        omega
      refine ⟨?_, fun key hk => ?_⟩
      · rcases ho with ho | ho
        · rcases wD g ho with e | ⟨t, ht, e⟩
          · exact (jQ e).elim
          · exact h.own (lk t.2.1) g (by rw [wL t ht]; exact e)
        · exact .inr (Nat.le_trans h.ext.size ho)
      · obtain ⟨k1, k2⟩ := KI key g hk
        rcases ho with ho | ho
        · rcases wD g ho with e | ⟨t, ht, e⟩
          · exact jQ e
          · exact k2 t ht (h.rh (key := lk t.2.1) (by rw [kR t ht]; rfl) (by rw [wL t ht]; exact e) k1).symm
        · have := h.lt k1; omega)
    (fun p q g jS Cz => by
      have := Hg (p + 1) (q + 1) g (by simpa using jS) (by simpa using Cz)
      omega)
  have CG : ∀ (O8 : Ga) (t : Nat × (Nat × Nat)) (L : List (Nat × (Nat × Nat))), t ∈ L → (cQ O8 (L.map fun t => lk t.2.1) (L.map fun t => .live t.2.2) (lk t.2.1)).fL = true := by
    intro O8 t L
    induction L with
    | nil => intro lE; cases lE
    | cons u L ih =>
      intro lE
      simp only [ak, cQ]
      by_cases e : lk t.2.1 = lk u.2.1
      · rw [e, bI]; rfl
      · rw [bO _ _ e]
        rcases bq.1 lE with rfl | lE
        · exact (e rfl).elim
        · exact ih lE
  have sE : tr.length = c.iu.length := by rw [o7, ← f3]; simp [jk]
  have Q1 : gW.length = c.own.length := by rw [o8, ← f5]; simp [jk]
  have Ab : ∀ (p : Nat) (t : Nat × (Nat × Nat)) (v : Value), (c.iu ++ c.own)[p]? = some t → (tr ++ gW)[p]? = some v → v.oneCell' = true := fun p t v ht hv => by
    have KG := ly ht
    rw [CN] at KG
    rcases It p _ v (by rw [xX, aO]; exact KG) hv with rfl | ⟨_, _, _, _, _, _, rfl, _⟩ <;> rfl
  have xV : cQ (dJ (cQ γ (c.kD.map fun t => lk t.2.1) (c.kD.map fun _ => Gh.used)) m (.cl [])) ((c.iu ++ c.own).map fun t => lk t.2.1) ((c.iu ++ c.own).map fun t => .live t.2.2) m = .cl [] := by rw [jf Og, bI]
  have h4 := h3.store (us := c.iu) (x := outs.getD S.sg.cS .dead) (cs := cr) xV rfl rfl rfl rfl (fun _ _ => rfl) (by rw [NM, Px]; exact p2) (fun t ht => ⟨CG _ t _ (by simp [ht]), by
      obtain ⟨p, jS⟩ := bz ht
      have xW := (aC.1 jS).1
      have hv : tr[p]? = some tr[p] := aE (by omega)
      rw [JY p t tr[p] (by rw [List.getElem?_append_left xW]; exact jS) (by rw [List.getElem?_append_left (by omega)]; exact hv)]
      exact Iu p _ _ (by rw [← f3]; exact ly jS) hv⟩)
  have h5 := h4.C8 (c.kD.map fun t => lk t.2.1) (fun k hk => by
    cases jD : (dJ (cQ (dJ (cQ γ (c.kD.map fun t => lk t.2.1) (c.kD.map fun _ => Gh.used)) m (.cl [])) ((c.iu ++ c.own).map fun t => lk t.2.1) ((c.iu ++ c.own).map fun t => .live t.2.2)) m (.cl c.iu) k).gy with
    | false => rfl
    | true =>
      have := (h4.nr k jD).2
      obtain ⟨t, _, e⟩ := aT.1 hk
      have := hU t.2.1
      omega)
  have y7 : ∀ t ∈ c.own, ki[t.1]? = some (D3.τ (lk t.2.1)) ∧ (D3.τ (lk t.2.1)).oneCell' = true := fun t ht => by
    obtain ⟨p, jS⟩ := bz ht
    have xW := (aC.1 jS).1
    have hv : gW[p]? = some gW[p] := aE (by omega)
    have e1 : (c.iu ++ c.own)[c.iu.length + p]? = some t := by rw [aS (by omega), Nat.add_sub_cancel_left]; exact jS
    have e2 : (tr ++ gW)[c.iu.length + p]? = some gW[p] := by rw [aS (by omega), sE, Nat.add_sub_cancel_left]; exact hv
    have e3 := MC p _ _ (by rw [← f5]; exact ly jS) hv
    rw [JY _ t _ e1 e2]
    exact ⟨e3, Ab _ t _ e1 e2⟩
  have kk := vZ (R := R') (w := w') f4 f6 o1 o2 (fun q hq => (f12 q hq).1) o4
  have h6 := h5.put (d := d) (s := c.main outs) (g := c.dg) (v := x) hl (.inr ⟨by rw [Px]; exact kk, fun _ => CS.C6 (by rw [o1, f4]) (by rw [f4]; exact o2) y7 (by simp [jP])⟩)
    (CS.om c).1 (CS.om c).2 (CS.vi (fun t ht => by rw [bO _ _ (Ad _).symm]; exact CG _ t _ (by simp [ht])) (by simp [jP]))
  refine hK D3 (a.put (some d) x) w' ?_
  have N7 : outs.length = c.cS + 1 := by rw [tW, nP]; rfl
  have ni : outs.drop c.cS = [outs.getD S.sg.cS .dead] := by
    rw [List.drop_eq_getElem_cons (by omega), aI (by omega), ← f4]
    simp [List.getD, show c.cS < outs.length by omega]
  have KC : ∀ k ∈ c.kD.map (fun t => lk t.2.1), k ∉ (c.iu ++ c.own).map fun t => lk t.2.1 := fun k hk km => by
    obtain ⟨t, ht, rfl⟩ := aT.1 hk
    obtain ⟨u, hu, e⟩ := aT.1 km
    exact KD t ht u hu (jZ e).symm
  have KZ : cQ σ (c.jE ++ c.lT) (outs.drop c.cS ++ c.lT.map fun _ => .dead) =
      cQ (dJ (cQ (dJ σ m (outs.getD S.sg.cS .dead)) ((c.iu ++ c.own).map fun t => lk t.2.1) ((c.iu ++ c.own).map fun _ => .dead)) m (outs.getD S.sg.cS .dead)) (c.kD.map fun t => lk t.2.1) ((c.kD.map fun t => lk t.2.1).map fun _ => .dead) := by
    rw [nP, ni, CF]
    simp only [List.cons_append, bA, cQ]
    have e : ∀ (A B : List Nat), ((A ++ B).map fun _ => AV.dead) = (A.map fun _ => .dead) ++ B.map fun _ => .dead := fun A B => List.map_append
    rw [iQ Of, iQ Og, iQ Of, oa, e (c.kD.map fun t => lk t.2.1), nz (by simp), bh (l := c.iu ++ c.own)]
    rfl
  have HY : cQ γ (c.jE ++ c.lT) (c.new.toList.map (fun _ => Gh.cl c.fx) ++ c.ref.toList.map (fun _ => .cl c.iu) ++ c.kD.map (fun _ => .used) ++ (c.iu ++ c.own ++ c.fx).map fun t => .live t.2.2) =
      dJ (cQ (dJ (cQ γ (c.kD.map fun t => lk t.2.1) (c.kD.map fun _ => Gh.used)) m (.cl [])) ((c.iu ++ c.own).map fun t => lk t.2.1) ((c.iu ++ c.own).map fun t => .live t.2.2)) m (.cl c.iu) := by
    rw [nP, CF, jP, jb, qV]
    simp only [Option.toList, au, bA, ak, List.cons_append, aO, cQ]
    rw [iQ Og, oa, qh KC, nz (by simp)]
  simp only [cQ]
  rw [KZ, HY]
  exact h6
end
end Go.Eng
namespace Go.Eng
open Go.RowKit
section
variable {C:Ctx} {D:kV} {σ:Sg} {γ:Ga} {a:Act} {w:World}
theorem bQ {nt:Nat} {l:List Operand} (h:small nt l=true) {x:Operand} (hx:x∈l):small nt [x]=true:=by
 simp only [small,List.all_cons,List.all_nil,Bool.and_true]
 exact bj.1 h x hx
theorem kq {nt:Nat} {l l':List Operand} (h:small nt l=true) (hs:∀x∈l',x∈l):small nt l'=true :=
 bj.2 fun x hx=>bj.1 h x (hs x hx)
theorem gE {nt:Nat} {dst:Option Nat} {l ds:List Nat} (h:(match dst with | some d=>decide (d<nt)&&ds == d :: l | none=>false)=true):∃d,dst=some d∧d<nt∧ds=d :: l:=by
 cases dst with
 | none=>cases h
 | some d=>simp at h;exact ⟨d,rfl,h.1,h.2⟩
theorem len1 {α:Type} {l:List α} (h:l.length=1):∃x,l=[x]:=by
 match l,h with
 | [x],_=>exact ⟨x,rfl⟩
theorem wa {α:Type} {l:List α} (h:l.length=2):∃x y,l=[x,y]:=by
 match l,h with
 | [x,y],_=>exact ⟨x,y,rfl⟩
theorem AF {α:Type} {l:Array α} {x:α} (h:l.toList=[x]):l=#[x]:=by apply Array.ext';simpa using h
theorem sW {α:Type} {l:Array α} {x y:α} (h:l.toList=[x,y]):l=#[x,y]:=by apply Array.ext';simpa using h
theorem iM:∀{l:List Operand} {rs:List eB},dk l rs=true→l.length=rs.length
 | [],[],_=>rfl
 | _ :: _,_ :: _,h=>by simp [dk] at h;simp [iM h.2]
 | [],_ :: _,h=>by simp [dk] at h
 | _ :: _,[],h=>by simp [dk] at h
variable {sg:Nat→dq} {dst:Option Nat} {op:Op} {ty:TypeId} {pos:String} {after:Array Edge} {guard:Option (Nat × Bool)} {k:K} {rs:List eB} {ds:List Nat} {gd:Option (Nat × Bool)} {ws:List AV} {gs:List Gh}
 {K':Act→World→Prop} {Q:Exit→Act→World→Prop}
def dY (C:Ctx) (sg:Nat→dq) (k:K):Prop :=
 ∀{D:kV} {σ:Sg} {γ:Ga} {a:Act} {w:World} {dst:Option Nat} {op:Op} {ty:TypeId} {pos:String} {after:Array Edge} {guard:Option (Nat × Bool)} {rs:List eB} {ds:List Nat} {gd:Option (Nat × Bool)} {ws:List AV} {gs:List Gh}
  {K':Act→World→Prop} {Q:Exit→Act→World→Prop},dU C D σ γ a w→gq C.P sg ⟨dst,op,ty,pos,after,guard⟩ ⟨k,rs,ds,gd⟩=true→dM C.nt dst ⟨k,rs,ds,gd⟩=true→small C.nt op.operands.toList=true →
  gf C.E k (rs.map (eB.ev C.E σ)) ws→fu k (rs.map (eB.gh γ))=some gs →
  (∀D' a' w',dU C D' (cQ σ ds ws) (cQ γ ds gs) a' w'→K' a' w')→(⟨dst,op,ty,pos,after,guard⟩:Oper).wp C.P a w K' Q
theorem MO:dY C sg .mv:=by
 intro D σ γ a w dst op ty pos after guard rs ds gd ws gs K' Q h ho hk fg hs hg hK
 obtain ⟨d,rfl,hl,rfl⟩:=gE (l:=[]) hk
 simp only [gq] at ho
 split at ho
 ·rename_i x _
  obtain ⟨r,rfl,hx⟩:=mz ho
  simp only [ak,au,gf] at hs
  simp only [ak,au,fu,ax] at hg
  subst hs;subst hg
  exact FG h rfl hl (.inl rfl) hx (bQ fg (by simp [Op.operands])) hK
 ·rename_i x _
  obtain ⟨r,rfl,hx⟩:=mz ho
  simp only [ak,au,gf] at hs
  simp only [ak,au,fu,ax] at hg
  subst hs;subst hg
  exact FG h rfl hl (.inr rfl) hx (bQ fg (by simp [Op.operands])) hK
 ·cases ho
theorem ML {k s:Nat}:dY C sg (.nl k s):=by
 intro D σ γ a w dst op ty pos after guard rs ds gd ws gs K' Q h ho hk fg hs hg hK
 simp only [dM,ae] at hk
 obtain ⟨gK,js⟩:=hk
 obtain ⟨d,rfl,hl,rfl⟩:=gE js
 simp only [gq] at ho
 split at ho
 ·rename_i r
  simp at gK
  cases r <;> simp at gK
  subst gK
  simp only [ak,au,gf] at hs
  subst hs
  simp only [ak,au,eB.gh] at hg
  simp only [fu] at hg
  split at hg
  ·rename_i e;cases hg;simp at e;exact FF h rfl hl (.inl rfl) e hK
  ·cases hg
 ·rename_i r
  simp at gK
  cases r <;> simp at gK
  subst gK
  simp only [ak,au,gf] at hs
  subst hs
  simp only [ak,au,eB.gh] at hg
  simp only [fu] at hg
  split at hg
  ·rename_i e;cases hg;simp at e;exact FF h rfl hl (.inr rfl) e hK
  ·cases hg
 ·cases ho
theorem Hm:dY C sg .pick:=by
 intro D σ γ a w dst op ty pos after guard rs ds gd ws gs K' Q h ho hk fg hs hg hK
 obtain ⟨d,rfl,hl,rfl⟩:=gE (l:=[]) hk
 simp only [fu,ax] at hg
 subst hg
 simp only [gq] at ho
 split at ho
 ·obtain ⟨r,q,s,rfl,hc,hx,hy⟩:=BG ho
  simp only [ak,au,gf] at hs
  split at hs
  ·rename_i b x y heq
   simp only [ar,and_true] at heq
   obtain ⟨e1,e2,e3⟩:=heq
   subst e2;subst e3;subst hs
   exact D7 h rfl hl rfl hc hx hy (bQ fg (by simp [Op.operands])) (bQ fg (by simp [Op.operands])) (bQ fg (by simp [Op.operands])) e1 hK
  ·cases hs
 ·cases ho
theorem JR {b:BinOp}:dY C sg (.bin b):=by
 intro D σ γ a w dst op ty pos after guard rs ds gd ws gs K' Q h ho hk fg hs hg hK
 obtain ⟨d,rfl,hl,rfl⟩:=gE (l:=[]) hk
 simp only [fu,ax] at hg
 subst hg
 simp only [gq] at ho
 split at ho
 ·simp only [ae,beq_iff_eq] at ho
  obtain ⟨hb,ho⟩:=ho
  subst hb
  obtain ⟨r,q,rfl,hx,hy⟩:=jY ho
  simp only [ak,au,gf] at hs
  split at hs
  ·rename_i u v heq
   simp only [ar,and_true] at heq
   obtain ⟨e1,e2⟩:=heq
   obtain ⟨z,hz,rfl⟩:=hs
   exact He h rfl hl rfl hx hy (bQ fg (by simp [Op.operands])) (bQ fg (by simp [Op.operands])) e1 e2 hz hK
  ·cases hs
 ·cases ho
theorem M6 {neg:Bool}:dY C sg (.be neg):=by
 intro D σ γ a w dst op ty pos after guard rs ds gd ws gs K' Q h ho hk fg hs hg hK
 obtain ⟨d,rfl,hl,rfl⟩:=gE (l:=[]) hk
 simp only [fu,ax] at hg
 subst hg
 simp only [gq] at ho
 split at ho
 ·simp only [ae,beq_iff_eq] at ho
  obtain ⟨⟨ht,hb⟩,ho⟩:=ho
  obtain ⟨r,q,rfl,hx,hy⟩:=jY ho
  simp only [ak,au,gf] at hs
  split at hs
  ·rename_i u v heq
   simp only [ar,and_true] at heq
   obtain ⟨e1,e2⟩:=heq
   subst hs
   exact Jo h rfl hl rfl hb (uW ht) hx hy (bQ fg (by simp [Op.operands])) (bQ fg (by simp [Op.operands])) e1 e2 hK
  ·cases hs
 ·cases ho
theorem MF {b:UnOp}:dY C sg (.un b):=by
 intro D σ γ a w dst op ty pos after guard rs ds gd ws gs K' Q h ho hk fg hs hg hK
 obtain ⟨d,rfl,hl,rfl⟩:=gE (l:=[]) hk
 simp only [fu,ax] at hg
 subst hg
 simp only [gq] at ho
 split at ho
 ·simp only [ae,beq_iff_eq] at ho
  obtain ⟨hb,ho⟩:=ho
  subst hb
  obtain ⟨r,rfl,hx⟩:=mz ho
  simp only [ak,au,gf] at hs
  split at hs
  ·rename_i u heq
   simp only [ar,and_true] at heq
   obtain ⟨z,hz,rfl⟩:=hs
   exact I6 h rfl hl rfl hx (bQ fg (by simp [Op.operands])) heq hz hK
  ·cases hs
 ·cases ho
theorem M1 {k:IntKind}:dY C sg (.ci k):=by
 intro D σ γ a w dst op ty pos after guard rs ds gd ws gs K' Q h ho hk fg hs hg hK
 obtain ⟨d,rfl,hl,rfl⟩:=gE (l:=[]) hk
 simp only [fu,ax] at hg
 subst hg
 simp only [gq] at ho
 split at ho
 ·simp only [ae] at ho
  obtain ⟨⟨ht,hu⟩,ho⟩:=ho
  obtain ⟨r,rfl,hx⟩:=mz ho
  simp only [ak,au,gf] at hs
  split at hs
  ·rename_i k' n heq
   simp only [ar,and_true] at heq
   subst hs
   exact Jl h rfl hl rfl (qT ht) hu hx (bQ fg (by simp [Op.operands])) heq hK
  ·cases hs
 ·cases ho
theorem M0:dY C sg .cs:=by
 intro D σ γ a w dst op ty pos after guard rs ds gd ws gs K' Q h ho hk fg hs hg hK
 obtain ⟨d,rfl,hl,rfl⟩:=gE (l:=[]) hk
 simp only [fu,ax] at hg
 subst hg
 simp only [gq] at ho
 split at ho
 ·simp only [ae] at ho
  obtain ⟨⟨ht,hu⟩,ho⟩:=ho
  obtain ⟨r,rfl,hx⟩:=mz ho
  simp only [ak,au,gf] at hs
  split at hs
  ·rename_i b heq
   simp only [ar,and_true] at heq
   subst hs
   exact Jk h rfl hl rfl (gX hu) (gX ht) hx (bQ fg (by simp [Op.operands])) heq hK
  ·cases hs
 ·cases ho
theorem MK:dY C sg .sb:=by
 intro D σ γ a w dst op ty pos after guard rs ds gd ws gs K' Q h ho hk fg hs hg hK
 obtain ⟨d,rfl,hl,rfl⟩:=gE (l:=[]) hk
 simp only [fu,ax] at hg
 subst hg
 simp only [gq] at ho
 split at ho
 ·simp only [ae] at ho
  obtain ⟨⟨ht,hu⟩,ho⟩:=ho
  obtain ⟨e,J7,J6⟩:=kF hu
  obtain ⟨r,rfl,hx⟩:=mz ho
  simp only [ak,au,gf] at hs
  split at hs
  ·rename_i b heq
   simp only [ar,and_true] at heq
   obtain ⟨hb,rfl⟩:=hs
   exact I8 h rfl hl rfl (gX ht) J7 J6 hx (bQ fg (by simp [Op.operands])) heq hb hK
  ·cases hs
 ·cases ho
theorem JB {k:Nat}:dY C sg (.DV k):=by
 intro D σ γ a w dst op ty pos after guard rs ds gd ws gs K' Q h ho hk fg hs hg hK
 simp only [dM,ae] at hk
 obtain ⟨⟨lY,gK⟩,js⟩:=hk
 obtain ⟨d,rfl,hl,rfl⟩:=gE js
 simp only [gq] at ho
 split at ho
 ·rename_i s u x r rest _ _
  simp only [ae] at ho
  obtain ⟨⟨ht,hu⟩,ho⟩:=ho
  obtain ⟨e,J7,J6⟩:=kF hu
  simp at lY
  obtain ⟨q,rfl⟩:=len1 lY
  cases q <;> simp at gK
  subst gK
  simp only [ak,au,gf] at hs
  simp only [ak,au,fu] at hg
  split at hs
  ·rename_i b y heq
   simp only [ar,and_true] at heq
   obtain ⟨hb,rfl⟩:=hs
   split at hg
   ·rename_i g fC
    simp only [ar,and_true,eB.gh] at fC
    cases hg
    exact G2 h rfl hl rfl (gX ht) J7 J6 ho (bQ fg (by simp [Op.operands])) heq.1 hb fC.2 hK
   ·cases hg
  ·cases hs
 ·cases ho
theorem M4:dY C sg .bs:=by
 intro D σ γ a w dst op ty pos after guard rs ds gd ws gs K' Q h ho hk fg hs hg hK
 obtain ⟨d,rfl,hl,rfl⟩:=gE (l:=[]) hk
 simp only [fu,ax] at hg
 subst hg
 simp only [gq] at ho
 split at ho
 ·simp only [ae] at ho
  obtain ⟨⟨ht,hu⟩,ho⟩:=ho
  obtain ⟨e,ht1,ht2⟩:=kF ht
  obtain ⟨r,rfl,hx⟩:=mz ho
  simp only [ak,au,gf] at hs
  split at hs
  ·rename_i s es heq
   simp only [ar,and_true] at heq
   obtain ⟨l,rfl,rfl,rfl⟩:=hs
   exact Jm h rfl hl rfl ht1 ht2 (gX hu) hx (bQ fg (by simp [Op.operands])) heq hK
  ·cases hs
 ·cases ho
theorem JO:dY C sg .len:=by
 intro D σ γ a w dst op ty pos after guard rs ds gd ws gs K' Q h ho hk fg hs hg hK
 obtain ⟨d,rfl,hl,rfl⟩:=gE (l:=[]) hk
 simp only [fu,ax] at hg
 subst hg
 simp only [gq] at ho
 split at ho
 ·rename_i rN _
  simp only [ae,beq_iff_eq] at ho
  obtain ⟨⟨⟨h1,h2⟩,h3⟩,ho⟩:=ho
  obtain ⟨t,ht⟩:=len1 h1
  obtain ⟨x,pk⟩:=len1 h3
  rw [ht] at h2
  simp only [List.all_cons,List.all_nil,Bool.and_true] at h2
  rw [pk] at ho
  obtain ⟨r,rfl,hx⟩:=mz ho
  have ea:=AF pk
  have et:=AF ht
  subst ea;subst et
  simp only [ak,au,gf] at hs
  split at hs
  ·rename_i s es heq
   simp only [ar,and_true] at heq
   subst hs
   obtain ⟨e,he⟩:=Option.isSome_iff_exists.1 h2
   exact zO h rfl hl rfl (iA he) hx (bQ fg (by simp [Op.operands,Call.operands])) heq hK
  ·cases hs
 ·cases ho
theorem JN:dY C sg .uO:=by
 intro D σ γ a w dst op ty pos after guard rs ds gd ws gs K' Q h ho hk fg hs hg hK
 obtain ⟨d,rfl,hl,rfl⟩:=gE (l:=[]) hk
 simp only [fu,ax] at hg
 subst hg
 simp only [gq] at ho
 split at ho
 ·rename_i rN _
  simp only [ae,beq_iff_eq] at ho
  obtain ⟨⟨⟨h1,h2⟩,h3⟩,ho⟩:=ho
  obtain ⟨t,ht⟩:=len1 h1
  obtain ⟨x,pk⟩:=len1 h3
  rw [ht] at h2
  simp only [List.all_cons,List.all_nil,Bool.and_true] at h2
  rw [pk] at ho
  obtain ⟨r,rfl,hx⟩:=mz ho
  have ea:=AF pk
  have et:=AF ht
  subst ea;subst et
  simp only [ak,au,gf] at hs
  split at hs
  ·rename_i b heq
   simp only [ar,and_true] at heq
   subst hs
   exact xM h rfl hl rfl (gX h2) hx (bQ fg (by simp [Op.operands,Call.operands])) heq hK
  ·cases hs
 ·cases ho
theorem MP:dY C sg .mn:=by
 intro D σ γ a w dst op ty pos after guard rs ds gd ws gs K' Q h ho hk fg hs hg hK
 obtain ⟨d,rfl,hl,rfl⟩:=gE (l:=[]) hk
 simp only [fu,ax] at hg
 subst hg
 simp only [gq] at ho
 split at ho
 ·rename_i rN _
  simp only [ae,beq_iff_eq] at ho
  obtain ⟨h3,ho⟩:=ho
  obtain ⟨x,y,pk⟩:=wa h3
  rw [pk] at ho
  obtain ⟨r,q,rfl,hx,hy⟩:=jY ho
  have ea:=sW pk
  subst ea
  simp only [ak,au,gf] at hs
  split at hs
  ·rename_i k u k' v heq
   simp only [ar,and_true] at heq
   subst hs
   exact tE (mx:=false) h rfl hl rfl hx hy (bQ fg (by simp [Op.operands,Call.operands])) (bQ fg (by simp [Op.operands,Call.operands])) heq.1 heq.2 hK
  ·cases hs
 ·cases ho
theorem MN:dY C sg .mx:=by
 intro D σ γ a w dst op ty pos after guard rs ds gd ws gs K' Q h ho hk fg hs hg hK
 obtain ⟨d,rfl,hl,rfl⟩:=gE (l:=[]) hk
 simp only [fu,ax] at hg
 subst hg
 simp only [gq] at ho
 split at ho
 ·rename_i rN _
  simp only [ae,beq_iff_eq] at ho
  obtain ⟨h3,ho⟩:=ho
  obtain ⟨x,y,pk⟩:=wa h3
  rw [pk] at ho
  obtain ⟨r,q,rfl,hx,hy⟩:=jY ho
  have ea:=sW pk
  subst ea
  simp only [ak,au,gf] at hs
  split at hs
  ·rename_i k u k' v heq
   simp only [ar,and_true] at heq
   subst hs
   exact tE (mx:=true) h rfl hl rfl hx hy (bQ fg (by simp [Op.operands,Call.operands])) (bQ fg (by simp [Op.operands,Call.operands])) heq.1 heq.2 hK
  ·cases hs
 ·cases ho
theorem MU {s:Nat}:dY C sg (.ix s):=by
 intro D σ γ a w dst op ty pos after guard rs ds gd ws gs K' Q h ho hk fg hs hg hK
 obtain ⟨d,rfl,hl,rfl⟩:=gE (l:=[]) hk
 simp only [fu,ax] at hg
 subst hg
 simp only [gq] at ho
 split at ho
 ·simp only [ae] at ho
  obtain ⟨ht,ho⟩:=ho
  obtain ⟨e,i,h1,h2,h3,h4⟩:=lM ht
  obtain ⟨r,q,rfl,hx,hy⟩:=jY ho
  simp only [ak,au,gf] at hs
  split at hs
  ·rename_i s' es k i heq
   simp only [ar,and_true] at heq
   obtain ⟨el,rfl,h0,Ag,rfl⟩:=hs
   exact Jf h rfl hl rfl h1 h2 h3 hx hy (bQ fg (by simp [Op.operands])) (bQ fg (by simp [Op.operands])) heq.1 heq.2 h0 Ag hK
  ·cases hs
 ·cases ho
theorem MI:dY C sg .si:=by
 intro D σ γ a w dst op ty pos after guard rs ds gd ws gs K' Q h ho hk fg hs hg hK
 obtain ⟨d,rfl,hl,rfl⟩:=gE (l:=[]) hk
 simp only [fu,ax] at hg
 subst hg
 simp only [gq] at ho
 split at ho
 ·simp only [ae] at ho
  obtain ⟨ht,ho⟩:=ho
  obtain ⟨r,q,rfl,hx,hy⟩:=jY ho
  simp only [ak,au,gf] at hs
  split at hs
  ·rename_i b k i heq
   simp only [ar,and_true] at heq
   obtain ⟨el,h0,Ag,rfl⟩:=hs
   exact I7 h rfl hl rfl (gX ht) hx hy (bQ fg (by simp [Op.operands])) (bQ fg (by simp [Op.operands])) heq.1 heq.2 h0 Ag hK
  ·cases hs
 ·cases ho
theorem Nb {n s:Nat} {agg:Bool}:dY C sg (.ai n s agg):=by
 intro D σ γ a w dst op ty pos after guard rs ds gd ws gs K' Q h ho hk fg hs hg hK
 obtain ⟨d,rfl,hl,rfl⟩:=gE (l:=[]) hk
 simp only [fu,ax] at hg
 subst hg
 simp only [gq] at ho
 split at ho
 ·rename_i t x y _
  simp only [ae] at ho
  obtain ⟨ht,ho⟩:=ho
  split at ht
  ·rename_i n' e hu
   simp only [ae,beq_iff_eq] at ht
   obtain ⟨rfl,ht⟩:=ht
   obtain ⟨inf,h1,h2,h3,h4⟩:=iK ht
   obtain ⟨r,q,rfl,hx,hy⟩:=jY ho
   simp only [ak,au,gf] at hs
   split at hs
   ·rename_i cs k i heq
    simp only [ar,and_true] at heq
    obtain ⟨el,h0,hn,Ag,rfl⟩:=hs
    exact Jr h rfl hl rfl hu h1 h2 h3 h4 hx hy (bQ fg (by simp [Op.operands])) (bQ fg (by simp [Op.operands])) heq.1 heq.2 h0 hn Ag hK
   ·cases hs
  ·cases ht
 ·cases ho
theorem MW {o' n:Nat} {agg:Bool}:dY C sg (.fe o' n agg):=by
 intro D σ γ a w dst op ty pos after guard rs ds gd ws gs K' Q h ho hk fg hs hg hK
 obtain ⟨d,rfl,hl,rfl⟩:=gE (l:=[]) hk
 simp only [fu,ax] at hg
 subst hg
 simp only [gq] at ho
 split at ho
 ·rename_i t x f
  simp only [ae] at ho
  obtain ⟨ht,ho⟩:=ho
  cases hf:lX C.P t f with
  | none=>simp [hf] at ht
  | some fl =>
   simp only [hf,Option.any_some,ae,beq_iff_eq] at ht
   obtain ⟨h0,ht⟩:=ht
   obtain ⟨fs,hu,qY⟩:=lI hf
   obtain ⟨inf,h1,h2,h3,h4⟩:=iK ht
   obtain ⟨r,rfl,hx⟩:=mz ho
   simp only [ak,au,gf] at hs
   split at hs
   ·rename_i cs heq
    simp only [ar,and_true] at heq
    obtain ⟨el,Ag,rfl⟩:=hs
    exact Jh h rfl hl rfl hu qY h0 h1 h2 h3 h4 hx (bQ fg (by simp [Op.operands])) heq Ag hK
   ·cases hs
 ·cases ho
theorem MR {n:Nat} {agg:Bool}:dY C sg (.lr n agg):=by
 intro D σ γ a w dst op ty pos after guard rs ds gd ws gs K' Q h ho hk fg hs hg hK
 obtain ⟨d,rfl,hl,rfl⟩:=gE (l:=[]) hk
 simp only [fu,ax] at hg
 subst hg
 simp only [gq] at ho
 split at ho
 ·simp only [ae] at ho
  obtain ⟨ht,hx⟩:=ho
  obtain ⟨inf,h1,h2,h3,h4⟩:=iK ht
  simp only [ak,au,gf] at hs
  split at hs
  ·rename_i x heq
   simp only [ar,and_true] at heq
   obtain ⟨p1,p2,rfl⟩:=hs
   exact Jb h rfl hl rfl h1 h2 h3 h4 hx (bQ fg (by simp [Op.operands])) heq p1 p2 hK
  ·cases hs
 ·cases ho
theorem JM:dY C sg .FK:=by
 intro D σ γ a w dst op ty pos after guard rs ds gd ws gs K' Q h ho hk fg hs hg hK
 obtain ⟨d,rfl,hl,rfl⟩:=gE (l:=[]) hk
 simp only [fu,ax] at hg
 subst hg
 simp only [gq] at ho
 split at ho
 ·simp only [ak,au,gf] at hs
  split at hs
  ·rename_i x heq
   simp only [ar,and_true] at heq
   subst hs
   exact Hb h rfl hl rfl ho (bQ fg (by simp [Op.operands])) heq hK
  ·cases hs
 ·cases ho
theorem MZ {i:Nat}:dY C sg (.ex i):=by
 intro D σ γ a w dst op ty pos after guard rs ds gd ws gs K' Q h ho hk fg hs hg hK
 obtain ⟨d,rfl,hl,rfl⟩:=gE (l:=[]) hk
 simp only [gq] at ho
 split at ho
 ·simp only [ae,beq_iff_eq] at ho
  obtain ⟨rfl,hx⟩:=ho
  simp only [ak,au,fu,ax] at hg
  subst hg
  simp only [ak,au,gf] at hs
  split at hs
  ·rename_i vs heq
   simp only [ar,and_true] at heq
   obtain ⟨x,yY,rfl⟩:=hs
   exact Jj h rfl hl rfl hx (bQ fg (by simp [Op.operands])) heq yY hK
  ·cases hs
 ·cases ho
end
end Go.Eng
namespace Go.Eng
open Go.RowKit
section
variable {C:Ctx} {sg:Nat→dq}
theorem lJ {D:kV} {σ:Sg} {γ:Ga} {a:Act} {w:World} (h:dU C D σ γ a w) {x:Operand} {r:eB} {k:IntKind} {i:Int} (hx:dh x r=true) (hs:small C.nt [x]=true) (hr:r.ev C.E σ = .v (.int k i)):a.eval x = .int k i:=by
 have e1:=(h.jr hx hs).rep (by rw [hr];simp)
 rw [hr] at e1
 exact e1.ib
theorem su {r:eB} {m:Nat} (h:(match r with | eB.s t=>some t | _=>none)=some m):r = .s m:=by
 cases r <;> simp at h;subst h;rfl
theorem lg:∀{rs:List eB} {ks:List Nat},(rs.map fun r=>match r with | eB.s t=>some t | _=>none)=ks.map some→rs=ks.map eB.s
 | [],[],_=>rfl
 | r :: rs,k :: ks,h=>by
  simp only [ak,ar] at h
  rw [su h.1,lg h.2];rfl
 | [],_ :: _,h=>by simp at h
 | _ :: _,[],h=>by simp at h
theorem MJ {s:Nat} {lo hi:Bool}:dY C sg (.sc s lo hi):=by
 intro D σ γ a w dst op ty pos after guard rs ds gd ws gs K' Q h ho hk fg hs hg hK
 obtain ⟨d,rfl,hl,rfl⟩:=gE (l:=[]) hk
 simp only [fu,ax] at hg
 subst hg
 simp only [gq] at ho
 split at ho
 ·rename_i t x l u
  simp only [ae,beq_iff_eq] at ho
  obtain ⟨⟨⟨ht,h1⟩,h2⟩,ho⟩:=ho
  obtain ⟨e,i,q1,q2,q3,q4⟩:=lM ht
  subst h1;subst h2
  cases l with
  | none =>
   cases u with
   | none =>
    obtain ⟨r,rfl,hx⟩:=mz ho
    simp only [Option.isSome_none,ak,au,gf] at hs
    split at hs
    ·rename_i s' es heq
     simp only [ar,and_true] at heq
     obtain ⟨rfl,rfl⟩:=hs
     exact yN (l:=0) (u:=es.length) h rfl hl rfl q1 q2 q3 hx (bQ fg (by simp [Op.operands])) heq (.inl ⟨rfl,rfl⟩) (.inl ⟨rfl,rfl⟩) (by omega) (by omega) (by simpa [cQ] using hK)
    ·cases hs
   | some y =>
    obtain ⟨r,q,rfl,hx,hy⟩:=jY ho
    simp only [Option.isSome_none,Option.isSome_some,ak,au,gf] at hs
    split at hs
    ·rename_i s' es k b heq
     simp only [ar,and_true] at heq
     obtain ⟨rfl,p1,p2,rfl⟩:=hs
     have hb:=lJ h hy (bQ fg (by simp [Op.operands])) heq.2
     exact yN (l:=0) (u:=b.toNat) h rfl hl rfl q1 q2 q3 hx (bQ fg (by simp [Op.operands])) heq.1 (.inl ⟨rfl,rfl⟩) (.inr ⟨y,k,rfl,by rw [hb];congr 1;omega⟩) (by omega) (by omega) (by simpa [cQ] using hK)
    ·cases hs
  | some y =>
   cases u with
   | none =>
    obtain ⟨r,q,rfl,hx,hy⟩:=jY ho
    simp only [Option.isSome_none,Option.isSome_some,ak,au,gf] at hs
    split at hs
    ·rename_i s' es k b heq
     simp only [ar,and_true] at heq
     obtain ⟨rfl,p1,p2,rfl⟩:=hs
     have hb:=lJ h hy (bQ fg (by simp [Op.operands])) heq.2
     exact yN (l:=b.toNat) (u:=es.length) h rfl hl rfl q1 q2 q3 hx (bQ fg (by simp [Op.operands])) heq.1 (.inr ⟨y,k,rfl,by rw [hb];congr 1;omega⟩) (.inl ⟨rfl,rfl⟩) (by omega) (by omega) (by simpa [cQ] using hK)
    ·cases hs
   | some z =>
    obtain ⟨r,q,q',rfl,hx,hy,hz⟩:=BG ho
    simp only [Option.isSome_some,ak,au,gf] at hs
    split at hs
    ·rename_i s' es k b k' c heq
     simp only [ar,and_true] at heq
     obtain ⟨rfl,p1,p2,p3,rfl⟩:=hs
     have hb:=lJ h hy (bQ fg (by simp [Op.operands])) heq.2.1
     have hc:=lJ h hz (bQ fg (by simp [Op.operands])) heq.2.2
     exact yN (l:=b.toNat) (u:=c.toNat) h rfl hl rfl q1 q2 q3 hx (bQ fg (by simp [Op.operands])) heq.1 (.inr ⟨y,k,rfl,by rw [hb];congr 1;omega⟩) (.inr ⟨z,k',rfl,by rw [hc];congr 1;omega⟩) (by omega) (by omega) hK
    ·cases hs
 ·cases ho
theorem MH {lo hi:Bool}:dY C sg (.ss lo hi):=by
 intro D σ γ a w dst op ty pos after guard rs ds gd ws gs K' Q h ho hk fg hs hg hK
 obtain ⟨d,rfl,hl,rfl⟩:=gE (l:=[]) hk
 simp only [fu,ax] at hg
 subst hg
 simp only [gq] at ho
 split at ho
 ·rename_i t x l u
  simp only [ae,beq_iff_eq] at ho
  obtain ⟨⟨⟨ht,h1⟩,h2⟩,ho⟩:=ho
  have q1:=gX ht
  subst h1;subst h2
  cases l with
  | none =>
   cases u with
   | none =>
    obtain ⟨r,rfl,hx⟩:=mz ho
    simp only [Option.isSome_none,ak,au,gf] at hs
    split at hs
    ·rename_i b heq
     simp only [ar,and_true] at heq
     subst hs
     have e:(⟨⟨(b.data.toList.take b.data.toList.length).drop 0⟩⟩:ByteArray)=b:=by cases b with | mk t=>cases t;simp
     exact yM (l:=0) (u:=b.data.toList.length) h rfl hl rfl q1 hx (bQ fg (by simp [Op.operands])) heq (.inl ⟨rfl,rfl⟩) (.inl ⟨rfl,rfl⟩) (by omega) (by omega) (by rw [e];exact hK)
    ·cases hs
   | some y =>
    obtain ⟨r,q,rfl,hx,hy⟩:=jY ho
    simp only [Option.isSome_none,Option.isSome_some,ak,au,gf] at hs
    split at hs
    ·rename_i b k c heq
     simp only [ar,and_true] at heq
     obtain ⟨p1,p2,rfl⟩:=hs
     have hb:=lJ h hy (bQ fg (by simp [Op.operands])) heq.2
     exact yM (l:=0) (u:=c.toNat) h rfl hl rfl q1 hx (bQ fg (by simp [Op.operands])) heq.1 (.inl ⟨rfl,rfl⟩) (.inr ⟨y,k,rfl,by rw [hb];congr 1;omega⟩) (by omega) (by omega) (by simpa [cQ] using hK)
    ·cases hs
  | some y =>
   cases u with
   | none =>
    obtain ⟨r,q,rfl,hx,hy⟩:=jY ho
    simp only [Option.isSome_none,Option.isSome_some,ak,au,gf] at hs
    split at hs
    ·rename_i b k c heq
     simp only [ar,and_true] at heq
     obtain ⟨p1,p2,rfl⟩:=hs
     have hb:=lJ h hy (bQ fg (by simp [Op.operands])) heq.2
     exact yM (l:=c.toNat) (u:=b.data.toList.length) h rfl hl rfl q1 hx (bQ fg (by simp [Op.operands])) heq.1 (.inr ⟨y,k,rfl,by rw [hb];congr 1;omega⟩) (.inl ⟨rfl,rfl⟩) (by omega) (by omega) (by rw [List.take_length];exact hK)
    ·cases hs
   | some z =>
    obtain ⟨r,q,q',rfl,hx,hy,hz⟩:=BG ho
    simp only [Option.isSome_some,ak,au,gf] at hs
    split at hs
    ·rename_i b k c k' e heq
     simp only [ar,and_true] at heq
     obtain ⟨p1,p2,p3,rfl⟩:=hs
     have hb:=lJ h hy (bQ fg (by simp [Op.operands])) heq.2.1
     have hc:=lJ h hz (bQ fg (by simp [Op.operands])) heq.2.2
     exact yM (l:=c.toNat) (u:=e.toNat) h rfl hl rfl q1 hx (bQ fg (by simp [Op.operands])) heq.1 (.inr ⟨y,k,rfl,by rw [hb];congr 1;omega⟩) (.inr ⟨z,k',rfl,by rw [hc];congr 1;omega⟩) (by omega) (by omega) hK
    ·cases hs
 ·cases ho
theorem M5 {s n:Nat}:dY C sg (.bl s n):=by
 intro D σ γ a w dst op ty pos after guard rs ds gd ws gs K' Q h ho hk fg hs hg hK
 obtain ⟨d,rfl,hl,rfl⟩:=gE (l:=[]) hk
 simp only [fu,ax] at hg
 subst hg
 simp only [gq] at ho
 split at ho
 ·simp only [ae,beq_iff_eq,aB] at ho
  obtain ⟨⟨⟨⟨h1,rfl⟩,h3⟩,h4⟩,h5⟩:=ho
  simp only [gf] at hs
  obtain ⟨p1,p2,rfl⟩:=hs
  exact Jn h rfl hl rfl h1 h3 h4 h5 (kq fg (by simp [Op.operands])) p2 hK
 ·cases ho
theorem JQ {s n k:Nat}:dY C sg (.blt s n k):=by
 intro D σ γ a w dst op ty pos after guard rs ds gd ws gs K' Q h ho hk fg hs hg hK
 simp only [dM,ae] at hk
 obtain ⟨⟨lY,gK⟩,js⟩:=hk
 obtain ⟨d,rfl,hl,rfl⟩:=gE js
 simp only [gq] at ho
 split at ho
 ·rename_i t len parts
  simp only [ae,beq_iff_eq,aB] at ho
  obtain ⟨⟨⟨⟨⟨h1,rfl⟩,h3⟩,h4⟩,h5⟩,h6⟩:=ho
  simp only [gf] at hs
  obtain ⟨p1,p2,rfl⟩:=hs
  simp only [fu] at hg
  split at hg
  ·rename_i oF
   cases hg
   rw [←List.map_drop] at oF
   have Rk:(rs.drop len).length=1:=by simp;omega
   obtain ⟨q,hq⟩:=len1 Rk
   rw [hq] at oF gK
   simp only [ak,au,ar,and_true] at oF
   simp only [ak,au,beq_iff_eq,ar,and_true] at gK
   have Cz:=su gK
   subst Cz
   rw [←List.map_take] at p2
   simp only [←List.map_take] at hK
   exact Hd h rfl hl rfl h1 h3 h4 h5 (kq fg (by simp [Op.operands])) p2 oF hK
  ·cases hg
 ·cases ho
theorem M7 {z:List AV} {pl:List (Nat × Nat)}:dY C sg (.bd z pl):=by
 intro D σ γ a w dst op ty pos after guard rs ds gd ws gs K' Q h ho hk fg hs hg hK
 obtain ⟨d,rfl,hl,rfl⟩:=gE (l:=[]) hk
 simp only [fu,ax] at hg
 subst hg
 simp only [gq] at ho
 split at ho
 ·simp only [ae] at ho
  obtain ⟨⟨h1,h2⟩,h3⟩:=ho
  simp only [gf] at hs
  obtain ⟨cs,p1,rfl⟩:=hs
  exact Jp h rfl hl rfl h1 h2 h3 (kq fg (by simp [Op.operands])) p1 hK
 ·cases ho
theorem Na {m:Nat} {z:List AV} {ts:List (Nat × (Nat × Nat))}:dY C sg (.al m z ts):=by
 intro D σ γ a w dst op ty pos after guard rs ds gd ws gs K' Q h ho hk fg hs hg hK
 simp only [dM,ae,aB,beq_iff_eq,bg,Nat.zero_add] at hk
 obtain ⟨⟨⟨pr,qW⟩,lY,gK⟩,js⟩:=hk
 obtain ⟨d,rfl,hl,rfl⟩:=gE js
 simp only [gq] at ho
 split at ho
 ·simp only [ae] at ho
  obtain ⟨h1,h2⟩:=ho
  simp only [gf] at hs
  subst hs
  simp only [fu] at hg
  split at hg
  ·rename_i hc
   cases hg
   obtain ⟨c1,c2,c3⟩:=hc
   have sC:=lg gK
   subst sC
   simp only [bh,bj,aT,aB] at c2
   refine Jq h rfl hl rfl h1 (fun q hq=>?_) (c2 _ ⟨m,by simp,rfl⟩) pr qW (fun t ht=>c2 _ ⟨lk t.2.1,bq.2 (.inr (aT.2 ⟨t,ht,rfl⟩)),rfl⟩) c3 hK
   have:=bj.1 h2 q hq
   split at this
   ·exact ⟨_,‹_›⟩
   ·cases this
  ·cases hg
 ·cases ho
theorem M3 {m:Nat}:dY C sg (.bx m):=by
 intro D σ γ a w dst op ty pos after guard rs ds gd ws gs K' Q h ho hk fg hs hg hK
 simp only [dM,ae,aB,beq_iff_eq] at hk
 obtain ⟨⟨⟨pr,qW⟩,lY,gK⟩,js⟩:=hk
 obtain ⟨d,rfl,hl,rfl⟩:=gE js
 simp only [gq] at ho
 split at ho
 ·rename_i t x r rest
  simp at lY
  obtain ⟨q,rfl⟩:=len1 lY
  simp only [List.drop_succ_cons,bg,ak,au,ar,and_true] at gK
  have hq:=su gK
  subst hq
  simp only [ak,au,gf] at hs
  obtain ⟨p1,rfl⟩:=hs
  simp only [ak,au,fu] at hg
  split at hg
  ·rename_i g heq
   simp only [ar,and_true,eB.gh] at heq
   cases hg
   exact FH h rfl hl rfl ho (bQ fg (by simp [Op.operands])) p1 heq.2 pr qW hK
  ·cases hg
 ·cases ho
theorem k_ld {m o' n:Nat} {agg:Bool}:dY C sg (.ld m o' n agg):=by
 intro D σ γ a w dst op ty pos after guard rs ds gd ws gs K' Q h ho hk fg hs hg hK
 simp only [dM,ae,aB,beq_iff_eq] at hk
 obtain ⟨⟨⟨pr,qW⟩,lY,gK⟩,js⟩:=hk
 obtain ⟨d,rfl,hl,rfl⟩:=gE (l:=[]) js
 simp only [gq] at ho
 split at ho
 ·rename_i t x r rest
  simp at lY
  obtain ⟨q,rfl⟩:=len1 lY
  simp only [List.drop_succ_cons,bg,ak,au,ar,and_true] at gK
  have hq:=su gK
  subst hq
  simp only [ae] at ho
  obtain ⟨ht,ho⟩:=ho
  obtain ⟨inf,h1,h2,h3,h4⟩:=iK ht
  simp only [ak,au,gf] at hs
  split at hs
  ·rename_i cs heq
   simp only [ar,and_true,eB.ev] at heq
   obtain ⟨x',p1,rfl⟩:=hs
   simp only [ak,au,fu] at hg
   split at hg
   ·rename_i m' Lr ts fC
    simp only [ar,and_true,eB.gh] at fC
    split at hg
    ·rename_i hc
     obtain ⟨rfl,rfl⟩:=hc
     cases hg
     exact Jd h rfl hl rfl h1 h2 h3 h4 ho (bQ fg (by simp [Op.operands])) heq.1 fC.1 fC.2 heq.2 p1 hK
    ·cases hg
   ·cases hg
  ·cases hs
 ·cases ho
theorem MG {m o' n:Nat}:dY C sg (.st m o' n):=by
 intro D σ γ a w dst op ty pos after guard rs ds gd ws gs K' Q h ho hk fg hs hg hK
 simp only [dM,ae,aB,beq_iff_eq,Option.isNone_iff_eq_none] at hk
 obtain ⟨⟨⟨⟨pr,qW⟩,rfl⟩,rfl⟩,gK⟩:=hk
 simp only [gq] at ho
 split at ho
 ·rename_i t x v p q r
  simp only [ae,beq_iff_eq] at ho
  obtain ⟨⟨ht,hx⟩,hv⟩:=ho
  obtain ⟨inf,h1,h2⟩:=iv ht
  cases q with
  | s j =>
   simp at gK
   subst gK
   simp only [ak,au,gf] at hs
   split at hs
   ·rename_i cs y heq
    simp only [ar,and_true,eB.ev] at heq
    obtain ⟨e1,e2,e3⟩:=heq
    obtain ⟨p1,p2,p3,rfl⟩:=hs
    subst e3
    simp only [ak,au,fu] at hg
    split at hg
    ·rename_i m' Lr ts g fC
     simp only [ar,and_true,eB.gh] at fC
     obtain ⟨f1,f2,f3⟩:=fC
     subst f3
     split at hg
     ·rename_i hc
      obtain ⟨rfl,rfl⟩:=hc
      cases hg
      exact FE h rfl rfl h1 h2 hx (bQ fg (by simp [Op.operands])) hv (bQ fg (by simp [Op.operands])) e1 f1 f2 e2 p1 p2 p3 hK
     ·cases hg
    ·cases hg
   ·cases hs
  | c=>simp at gK
  | g=>simp at gK
 ·cases ho
theorem MY {m o' dd:Nat}:dY C sg (.fa m o' dd):=by
 intro D σ γ a w dst op ty pos after guard rs ds gd ws gs K' Q h ho hk fg hs hg hK
 obtain ⟨d,rfl,hl,rfl⟩:=gE (l:=[]) hk
 simp only [gq] at ho
 split at ho
 ·rename_i t x f r
  simp only [ae] at ho
  obtain ⟨ht,hx⟩:=ho
  cases hf:lX C.P t f with
  | none=>simp [hf] at ht
  | some fl =>
   simp only [hf,Option.any_some,ae,beq_iff_eq] at ht
   obtain ⟨h0,ht⟩:=ht
   cases hz:iW C.P fl.type with
   | none=>simp [hz] at ht
   | some n =>
    simp [hz] at ht
    obtain ⟨inf,h1,h2⟩:=iv hz
    obtain ⟨fs,hu,qY⟩:=lI hf
    simp only [ak,au,gf] at hs
    split at hs
    ·rename_i heq
     simp only [ar,and_true] at heq
     subst hs
     simp only [ak,au,fu] at hg
     split at hg
     ·rename_i m' Lr fC
      simp only [ar,and_true] at fC
      split at hg
      ·rename_i hc
       obtain ⟨rfl,rfl⟩:=hc
       cases hg
       exact Ji h rfl hl rfl hu qY h0 h1 (by omega) hx (bQ fg (by simp [Op.operands])) heq fC hK
      ·cases hg
     ·cases hg
    ·cases hs
 ·cases ho
theorem MV {o' n:Nat} {agg:Bool}:dY C sg (.fr o' n agg):=by
 intro D σ γ a w dst op ty pos after guard rs ds gd ws gs K' Q h ho hk fg hs hg hK
 obtain ⟨d,rfl,hl,rfl⟩:=gE (l:=[]) hk
 simp only [fu,ax] at hg
 subst hg
 simp only [gq] at ho
 split at ho
 ·rename_i t x f r
  simp only [ae] at ho
  obtain ⟨ht,hx⟩:=ho
  cases hf:lX C.P t f with
  | none=>simp [hf] at ht
  | some fl =>
   simp only [hf,Option.any_some,ae,beq_iff_eq,aB] at ht
   obtain ⟨⟨h0,ht⟩,hn⟩:=ht
   obtain ⟨inf,h1,h2,h3,h4⟩:=iK ht
   obtain ⟨fs,hu,qY⟩:=lI hf
   simp only [ak,au,gf] at hs
   split at hs
   ·rename_i cs heq
    simp only [ar,and_true] at heq
    obtain ⟨x',p1,rfl⟩:=hs
    exact Jg h rfl hl rfl hu qY h0 h1 h2 hn h4 hx (bQ fg (by simp [Op.operands])) heq p1 hK
   ·cases hs
 ·cases ho
theorem MM {m o':Nat}:dY C sg (.nc m o'):=by
 intro D σ γ a w dst op ty pos after guard rs ds gd ws gs K' Q h ho hk fg hs hg hK
 obtain ⟨d,rfl,hl,rfl⟩:=gE (l:=[]) hk
 simp only [gq] at ho
 split at ho
 ·simp only [ak,au,gf] at hs
  split at hs
  ·rename_i heq
   simp only [ar,and_true] at heq
   subst hs
   simp only [ak,au,fu] at hg
   split at hg
   ·rename_i m' Lr fC
    simp only [ar,and_true] at fC
    split at hg
    ·rename_i hc
     obtain ⟨rfl,rfl⟩:=hc
     cases hg
     exact I9 h rfl hl rfl ho (bQ fg (by simp [Op.operands])) heq fC hK
    ·cases hg
   ·cases hg
  ·cases hs
 ·cases ho
end
end Go.Eng
namespace Go.Eng
open Go.RowKit
section
variable {C:Ctx} {sg:Nat→dq}
theorem rO {P:Program} {rN:Array TypeId} {s b:Nat} (h1:rN.toList.length=2) (h2:(rN.toList.all fun t=>jW P t s b)=true) :
  ∃t u e i z du,rN=#[t,u]∧P.underlying t=some (.slice e)∧P.info? e=some i∧i.size=s∧i.bytes=b∧i.zero=some z∧z.cells.size=i.size∧P.underlying u=some du∧(∀k,du ≠ .int k):=by
 obtain ⟨t,u,h⟩:=wa h1
 rw [h] at h2
 simp only [List.all_cons,List.all_nil,Bool.and_true,ae] at h2
 obtain ⟨e,i,z,q1,q2,q3,q4,q5,q6,q7⟩:=kW h2.1
 obtain ⟨e',i',z',r1,_⟩:=kW h2.2
 exact ⟨t,u,e,i,z,_,sW h,q1,q2,q3,q4,q5,q6.trans q3.symm,r1,by simp⟩
theorem xr {P:Program} {rN:Array TypeId} {b:Nat} (h2:(match rN.toList with | [t,u]=>jW P t 1 b&&j7 P t&&j6 P u | _=>false)=true) :
  ∃t u e i z du,rN=#[t,u]∧P.underlying t=some (.slice e)∧P.info? e=some i∧i.size=1∧i.bytes=b∧i.zero=some z∧z.cells.size=i.size∧P.underlying u=some du∧(∀k,du ≠ .int k):=by
 split at h2
 ·rename_i t u h
  simp only [ae] at h2
  obtain ⟨e,i,z,q1,q2,q3,q4,q5,q6,q7⟩:=kW h2.1.1
  exact ⟨t,u,e,i,z,_,sW h,q1,q2,q3,q4,q5,q6.trans q3.symm,gX h2.2,by simp⟩
 ·cases h2
theorem A7 {rs:List eB} {n a b:Nat} (h:(rs.drop n).map (fun r=>match r with | eB.s t=>some t | _=>none)=[some a,some b]):rs.drop n=[.s a,.s b] :=
 lg (ks:=[a,b]) h
theorem M8 {k d' s b:Nat}:dY C sg (.ap k d' s b):=by
 intro D σ γ a w dst op ty pos after guard rs ds gd ws gs K' Q h ho hk fg hs hg hK
 simp only [dM,ae,beq_iff_eq,ak,au] at hk
 obtain ⟨⟨lY,gK⟩,js⟩:=hk
 obtain ⟨d,rfl,hl,rfl⟩:=gE js
 simp only [gq] at ho
 split at ho
 ·rename_i args rN r q r3 r4
  simp only [ae,beq_iff_eq] at ho
  obtain ⟨⟨ho,h1⟩,h2⟩:=ho
  obtain ⟨t,u,e,i,z,du,rfl,q1,q2,q3,q4,q5,q6,q7,q8⟩:=rO h1 h2
  have ht:=A7 gK
  simp only [List.drop_succ_cons,bg,ar,and_true] at ht
  obtain ⟨rfl,rfl⟩:=ht
  obtain ⟨x,y,pk⟩:=wa (l:=args.toList) (by rw [iM ho];rfl)
  rw [pk] at ho
  obtain ⟨r',q',y6,hx,hy⟩:=jY ho
  simp only [ar,and_true] at y6
  obtain ⟨rfl,rfl⟩:=y6
  have ea:=sW pk
  subst ea
  simp only [ak,au,gf] at hs
  split at hs
  ·rename_i s' es o0 fs v1 v2 heq
   simp only [ar,and_true] at heq
   obtain ⟨e1,e2,_⟩:=heq
   obtain ⟨rfl,rfl,p1,p2,p3,rfl⟩:=hs
   simp only [ak,au,fu] at hg
   split at hg
   ·rename_i k1 s1 g s2 fC
    simp only [ar,and_true,eB.gh] at fC
    obtain ⟨g1,g2,g3,g4⟩:=fC
    split at hg
    ·rename_i hc
     obtain ⟨rfl,rfl,rfl,jQ⟩:=hc
     cases hg
     have kk:=(h.jr hy (bQ fg (by simp [Op.operands,Call.operands]))).rep (by rw [e2];simp)
     rw [e2] at kk
     obtain ⟨news,n1,n2,n3⟩:=Source.BR (P:=C.P) kk
     exact BP (q:=q) h rfl hl rfl q1 q2 q5 q6 q7 q8 q3 hx (bQ fg (by simp [Op.operands,Call.operands])) e1 g1 g3 g4 jQ n1 n2 p1 p2 (by rw [q4];exact p3) hK
    ·cases hg
   ·cases hg
  ·cases hs
 ·cases ho
theorem JS {k d' b:Nat}:dY C sg (.zp k d' b):=by
 intro D σ γ a w dst op ty pos after guard rs ds gd ws gs K' Q h ho hk fg hs hg hK
 simp only [dM,ae,beq_iff_eq,ak,au] at hk
 obtain ⟨⟨lY,gK⟩,js⟩:=hk
 obtain ⟨d,rfl,hl,rfl⟩:=gE js
 simp only [gq] at ho
 split at ho
 ·rename_i args rN r q r3 r4
  simp only [ae] at ho
  obtain ⟨ho,h2⟩:=ho
  obtain ⟨t,u,e,i,z,du,rfl,q1,q2,q3,q4,q5,q6,q7,q8⟩:=xr h2
  have ht:=A7 gK
  simp only [List.drop_succ_cons,bg,ar,and_true] at ht
  obtain ⟨rfl,rfl⟩:=ht
  obtain ⟨x,y,pk⟩:=wa (l:=args.toList) (by rw [iM ho];rfl)
  rw [pk] at ho
  obtain ⟨r',q',y6,hx,hy⟩:=jY ho
  simp only [ar,and_true] at y6
  obtain ⟨rfl,rfl⟩:=y6
  have ea:=sW pk
  subst ea
  simp only [ak,au,gf] at hs
  split at hs
  ·rename_i s' es bb v1 v2 heq
   simp only [ar,and_true] at heq
   obtain ⟨e1,e2,_⟩:=heq
   obtain ⟨rfl,p2,p3,rfl⟩:=hs
   simp only [ak,au,fu] at hg
   split at hg
   ·rename_i k1 s1 g s2 fC
    simp only [ar,and_true,eB.gh] at fC
    obtain ⟨g1,g2,g3,g4⟩:=fC
    split at hg
    ·rename_i hc
     obtain ⟨rfl,rfl,rfl,jQ⟩:=hc
     cases hg
     have kk:=(h.jr hy (bQ fg (by simp [Op.operands,Call.operands]))).rep (by rw [e2];simp)
     rw [e2] at kk
     have u0:Source C.P w 1 (a.eval y) (bb.data.toList.map fQ).length (bb.data.toList.map fun b => .int .u8 b.toNat):=by
      rw [kk.ib,aN];exact Source.of_string bb
     exact BP (q:=q) h rfl hl rfl q1 q2 q5 q6 q7 q8 q3 hx (bQ fg (by simp [Op.operands,Call.operands])) e1 g1 g3 g4 jQ u0 (by rw [kM];exact mY _)
      (fun e he=>by obtain ⟨x,_,rfl⟩:=aT.1 he;rfl) (by rw [aN];exact p2) (by rw [aN,q4];exact p3) hK
    ·cases hg
   ·cases hg
  ·cases hs
 ·cases ho
theorem BZ {args:List Operand} {q:eB} (h:(match args with | [.const (.slice none 0 0),x]=>dh x q | _=>false)=true):∃x,args=[.const (.slice none 0 0),x]∧dh x q=true:=by
 split at h
 ·exact ⟨_,rfl,h⟩
 ·cases h
theorem M9 {d' s b:Nat}:dY C sg (.an d' s b):=by
 intro D σ γ a w dst op ty pos after guard rs ds gd ws gs K' Q h ho hk fg hs hg hK
 simp only [dM,ae,beq_iff_eq,ak,au] at hk
 obtain ⟨⟨lY,gK⟩,js⟩:=hk
 obtain ⟨d,rfl,hl,rfl⟩:=gE js
 simp only [gq] at ho
 split at ho
 ·rename_i args rN q r2
  simp only [ae,beq_iff_eq] at ho
  obtain ⟨⟨ho,h1⟩,h2⟩:=ho
  obtain ⟨t,u,e,i,z,du,rfl,q1,q2,q3,q4,q5,q6,q7,q8⟩:=rO h1 h2
  simp only [List.drop_succ_cons,bg,ak,au,ar,and_true] at gK
  have hq:=su gK
  subst hq
  obtain ⟨y,NO,hy⟩:=BZ ho
  have ea:=sW NO
  subst ea
  simp only [ak,au,gf] at hs
  split at hs
  ·rename_i o0 fs v1 heq
   simp only [ar,and_true] at heq
   obtain ⟨rfl,p1,p2,p3,rfl⟩:=hs
   simp only [ak,au,fu] at hg
   split at hg
   ·rename_i g fC
    simp only [ar,and_true,eB.gh] at fC
    cases hg
    have kk:=(h.jr hy (bQ fg (by simp [Op.operands,Call.operands]))).rep (by rw [heq.1];simp)
    rw [heq.1] at kk
    obtain ⟨news,n1,n2,n3⟩:=Source.BR (P:=C.P) kk
    exact FI h rfl hl rfl q1 q2 q5 q6 q7 q8 q3 fC.2 n1 n2 p1 p2 (by rw [q4];exact p3) hK
   ·cases hg
  ·cases hs
 ·cases ho
theorem JU {d' b:Nat}:dY C sg (.Gn d' b):=by
 intro D σ γ a w dst op ty pos after guard rs ds gd ws gs K' Q h ho hk fg hs hg hK
 simp only [dM,ae,beq_iff_eq,ak,au] at hk
 obtain ⟨⟨lY,gK⟩,js⟩:=hk
 obtain ⟨d,rfl,hl,rfl⟩:=gE js
 simp only [gq] at ho
 split at ho
 ·rename_i args rN q r2
  simp only [ae] at ho
  obtain ⟨ho,h2⟩:=ho
  obtain ⟨t,u,e,i,z,du,rfl,q1,q2,q3,q4,q5,q6,q7,q8⟩:=xr h2
  simp only [List.drop_succ_cons,bg,ak,au,ar,and_true] at gK
  have hq:=su gK
  subst hq
  obtain ⟨y,NO,hy⟩:=BZ ho
  have ea:=sW NO
  subst ea
  simp only [ak,au,gf] at hs
  split at hs
  ·rename_i bb v1 heq
   simp only [ar,and_true] at heq
   obtain ⟨p2,p3,rfl⟩:=hs
   simp only [ak,au,fu] at hg
   split at hg
   ·rename_i g fC
    simp only [ar,and_true,eB.gh] at fC
    cases hg
    have kk:=(h.jr hy (bQ fg (by simp [Op.operands,Call.operands]))).rep (by rw [heq.1];simp)
    rw [heq.1] at kk
    have u0:Source C.P w 1 (a.eval y) (bb.data.toList.map fQ).length (bb.data.toList.map fun b => .int .u8 b.toNat):=by
     rw [kk.ib,aN];exact Source.of_string bb
    exact FI h rfl hl rfl q1 q2 q5 q6 q7 q8 q3 fC.2 u0 (by rw [kM];exact mY _)
     (fun e he=>by obtain ⟨x,_,rfl⟩:=aT.1 he;rfl) (by rw [aN];exact p2) (by rw [aN,q4];exact p3) hK
   ·cases hg
  ·cases hs
 ·cases ho
theorem MQ {d' s b:Nat} {z:AV}:dY C sg (.mk d' s b z):=by
 intro D σ γ a w dst op ty pos after guard rs ds gd ws gs K' Q h ho hk fg hs hg hK
 simp only [dM,ae,beq_iff_eq,ak,au] at hk
 obtain ⟨⟨lY,gK⟩,js⟩:=hk
 obtain ⟨d,rfl,hl,rfl⟩:=gE js
 simp only [gq] at ho
 split at ho
 ·rename_i t l c r q r3
  simp only [ae] at ho
  obtain ⟨⟨ht,ho⟩,hz⟩:=ho
  obtain ⟨e,i,zv,q1,q2,q3,q4,q5,q6,q7⟩:=kW ht
  obtain ⟨r',q',y6,hx,hy⟩:=jY ho
  simp only [ar,and_true] at y6
  obtain ⟨rfl,rfl⟩:=y6
  simp only [List.drop_succ_cons,bg,ak,au,ar,and_true] at gK
  have hq:=su gK
  subst hq
  have he:kL C.P t=some e:=by unfold kL;rw [q1];rfl
  rw [he] at hz
  simp only [Option.any_some,ae] at hz
  obtain ⟨i',SS,z1,z2,z3⟩:=nv hz.1
  rw [q2] at z1
  cases z1
  rw [q5] at z2
  cases z2
  simp only [ak,au,gf] at hs
  split at hs
  ·rename_i ll cc v1 heq
   simp only [ar,and_true] at heq
   obtain ⟨p1,p2,p3,p4,p5,p6,rfl⟩:=hs
   simp only [ak,au,fu] at hg
   split at hg
   ·rename_i g1 g2 fC
    simp only [ar,and_true,eB.gh] at fC
    cases hg
    exact Ja h rfl hl rfl q1 q2 q3 q5 q6 q7 z3 hx hy (bQ fg (by simp [Op.operands])) (bQ fg (by simp [Op.operands])) heq.1 heq.2.1 p2 p3 p4 (by rw [q4];exact p5) p6 fC.2.2 hK
   ·cases hg
  ·cases hs
 ·cases ho
end
end Go.Eng
