/- Texts of my own, one behind the other: EngA, EngFl, EngB, EngC, EngD, EngE, EngF, EngG, EngH, EngI, EngJ, EngK, EngL, EngM, EngN, EngO. -/
import Derived.Calls
import Derived.Below
import Derived.Laws.OwnMore
import Derived.Laws.FloatArith
import Derived.WalkKit
import Derived.Lib.Bytealg
import Derived.Orders
import Derived.Laws.IdiomStrings
import Derived.Laws.Entries
import Derived.Laws.BytesString
import Derived.Lib.Strings
import Derived.Laws.BytesArg
import Derived.Laws.MakeOwn
set_option linter.unusedVariables false
set_option linter.unusedSimpArgs false
namespace Go.Eng
abbrev aa:=@Bool.and_eq_true
abbrev ae:=@decide_eq_true
abbrev af:=@decide_eq_false
abbrev ah:=@List.map_cons
abbrev aj:=@List.cons.injEq
abbrev ak:=@List.getD_eq_getElem?_getD
abbrev ao:=@List.length_append
abbrev aq:=@List.map_nil
abbrev ar:=@Nat.mul_le_mul_right
abbrev au:=@Int.toNat_natCast
abbrev aw:=@cond_false
abbrev ax:=@Nat.eq_of_beq_eq_true
abbrev ay:=@List.length_singleton
abbrev az:=@decide_eq_true_eq
abbrev aA:=@List.getElem?_eq_getElem
abbrev aB:=@Option.some.injEq
abbrev aC:=@Option.ite_none_right_eq_some
abbrev aD:=@cond_true
abbrev aE:=@if_neg
abbrev aF:=@List.getElem?_eq_some_iff
abbrev aG:=@if_pos
abbrev aH:=@List.length_map
abbrev aI:=@List.getElem?_map
abbrev aJ:=@List.length_take
abbrev aK:=@List.getElem?_append_right
abbrev aL:=@List.all_eq_true
abbrev aM:=@of_decide_eq_true
abbrev aN:=@List.append_assoc
abbrev aO:=@List.getElem?_take
abbrev aP:=@List.mem_map
abbrev aQ:=@List.length_cons
abbrev aR:=@List.append_nil
abbrev aS:=@List.eq_nil_of_length_eq_zero
abbrev aT:=@List.drop_zero
abbrev aU:=@List.mem_of_getElem?
abbrev aV:=@Option.map_eq_some_iff
abbrev aW:=@List.map_map
abbrev aX:=@Int.emod_eq_of_lt
abbrev aY:=@Bool.false_eq_true
abbrev aZ:=@List.length_nil
abbrev a8:=@Bool.not_true
abbrev bc:=@List.drop_of_length_le
abbrev bf:=@Option.bind_eq_some_iff
abbrev bg:=@List.nil_append
abbrev bh:=@UInt64.lt_iff_toNat_lt
abbrev bj:=@List.length_drop
abbrev bk:=@List.getElem?_of_mem
abbrev bm:=@List.mem_cons
abbrev bo:=@UInt64.le_iff_toNat_le
abbrev bp:=@Bool.eq_iff_iff
abbrev bq:=@Bool.not_false
abbrev bt:=@UInt64.toNat_inj
abbrev bw:=@Bool.and_self
abbrev bz:=@decide_eq_decide
abbrev bA:=@Bool.not_or_self
abbrev bB:=@Bool.or_not_self
end Go.Eng
namespace Go.Eng
open Go.RowKit
inductive AV where
 | v (x:Value)
 | ag (cs:List AV)
 | tu (vs:List AV)
 | sl (s:Nat) (es:List AV)
 | ro (x:AV)
 | pt
 | dead
 | el (i s o:Nat)
 | ab
 | gv (zs:List Value)
 deriving Inhabited
def AV.cells:AV→List AV
 | .ag cs=>cs
 | x=>[x]
def AV.pO:AV→Bool
 | .ag _=>true
 | _=>false
abbrev Reach:=Nat→Nat→Prop
mutual
inductive Rep (R:Reach) (w:World):AV→Value→Prop
 | v (x:Value):Rep R w (.v x) x
 | ag {cs:List AV} {ys:List Value}:dz R w cs ys→Rep R w (.ag cs) (.agg ⟨ys⟩)
 | tu {vs:List AV} {ys:List Value}:fo R w vs ys→Rep R w (.tu vs) (.tuple ⟨ys⟩)
 | nil (s:Nat):Rep R w (.sl s []) (.slice none 0 0)
 | sl {s:Nat} {es:List AV} {b off n cap:Nat}:n=es.length→n≤cap→cap≤maxLen→iw R w s es b off→Rep R w (.sl s es) (.slice (some ⟨b,off,none⟩) n cap)
 | em {a:Addr} {cap:Nat} (s:Nat):cap≤maxLen→Rep R w (.sl s []) (.slice (some a) 0 cap)
 | ro {x:AV} {b off s:Nat}:k0 R w s x b off→Rep R w (.ro x) (.pointer (some ⟨b,off,none⟩))
 | pt (y:Value):Rep R w .pt y
 | dead (y:Value):Rep R w .dead y
 | el (i s o b:Nat):Rep R w (.el i s o) (.pointer (some ⟨b,i * s+o,none⟩))
 | ab (x:Bool):Rep R w .ab (.bool x)
 | gv {zs:List Value} {b:Nat}:(∀o,R b o)→(∀o,w.cell? ⟨b,o,none⟩=zs[o]?)→Rep R w (.gv zs) (.pointer (some ⟨b,0,none⟩))
inductive dz (R:Reach) (w:World):List AV→List Value→Prop
 | nil:dz R w [] []
 | cons {x:AV} {y:Value} {xs:List AV} {ys:List Value}:y.oneCell'=true→Rep R w x y→dz R w xs ys→dz R w (x :: xs) (y :: ys)
inductive fo (R:Reach) (w:World):List AV→List Value→Prop
 | nil:fo R w [] []
 | cons {x:AV} {y:Value} {xs:List AV} {ys:List Value}:Rep R w x y→fo R w xs ys→fo R w (x :: xs) (y :: ys)
inductive j9 (R:Reach) (w:World):List AV→Nat→Nat→Prop
 | nil (b off:Nat):j9 R w [] b off
 | cons {x:AV} {y:Value} {xs:List AV} {b off:Nat}:R b off→w.cell? ⟨b,off,none⟩=some y→y.oneCell'=true→Rep R w x y→j9 R w xs b (off+1)→j9 R w (x :: xs) b off
inductive k0 (R:Reach) (w:World):Nat→AV→Nat→Nat→Prop
 | ag {cs:List AV} {b off s:Nat}:s=cs.length→j9 R w cs b off→k0 R w s (.ag cs) b off
 | one {x:AV} {y:Value} {b off:Nat}:x.pO=false→R b off→w.cell? ⟨b,off,none⟩=some y→y.oneCell'=true→Rep R w x y→k0 R w 1 x b off
inductive iw (R:Reach) (w:World):Nat→List AV→Nat→Nat→Prop
 | nil (s b off:Nat):iw R w s [] b off
 | cons {s:Nat} {x:AV} {xs:List AV} {b off:Nat}:k0 R w s x b off→iw R w s xs b (off+s)→iw R w s (x :: xs) b off
end
def fu (R:Reach) (w:World) (R':Reach) (w':World):Prop:=∀b o,R b o→R' b o∧w'.cell? ⟨b,o,none⟩=w.cell? ⟨b,o,none⟩
theorem fu.refl (R:Reach) (w:World):fu R w R w:=fun _ _ h=>⟨h,rfl⟩
theorem fu.trans {R R' Va:Reach} {w w' TY:World} (h:fu R w R' w') (k:fu R' w' Va TY):fu R w Va TY :=
 fun b o hr=>⟨(k b o (h b o hr).1).1,(k b o (h b o hr).1).2.trans (h b o hr).2⟩
section
variable {R R':Reach} {w w':World}
mutual
theorem Rep.mono (k:fu R w R' w'):∀{x:AV} {y:Value},Rep R w x y→Rep R' w' x y
 | _,_,.v x => .v x
 | _,_,.ag h => .ag (dz.mono k h)
 | _,_,.tu h => .tu (fo.mono k h)
 | _,_,.nil s => .nil s
 | _,_,.sl a b c h => .sl a b c (iw.mono k h)
 | _,_,.em s h => .em s h
 | _,_,.ro h => .ro (k0.mono k h)
 | _,_,.pt y => .pt y
 | _,_,.dead y => .dead y
 | _,_,.el i s o b => .el i s o b
 | _,_,.ab x => .ab x
 | _,_,.gv h1 h2 => .gv (fun o=>(k _ o (h1 o)).1) (fun o=>(k _ o (h1 o)).2.trans (h2 o))
theorem dz.mono (k:fu R w R' w'):∀{x:List AV} {y:List Value},dz R w x y→dz R' w' x y
 | _,_,.nil => .nil
 | _,_,.cons a h t => .cons a (Rep.mono k h) (dz.mono k t)
theorem fo.mono (k:fu R w R' w'):∀{x:List AV} {y:List Value},fo R w x y→fo R' w' x y
 | _,_,.nil => .nil
 | _,_,.cons h t => .cons (Rep.mono k h) (fo.mono k t)
theorem j9.mono (k:fu R w R' w'):∀{x:List AV} {b o:Nat},j9 R w x b o→j9 R' w' x b o
 | _,_,_,.nil b o => .nil b o
 | _,_,_,.cons r c a h t => .cons (k _ _ r).1 ((k _ _ r).2.trans c) a (Rep.mono k h) (j9.mono k t)
theorem k0.mono (k:fu R w R' w'):∀{s:Nat} {x:AV} {b o:Nat},k0 R w s x b o→k0 R' w' s x b o
 | _,_,_,_,.ag e h => .ag e (j9.mono k h)
 | _,_,_,_,.one n r c a h => .one n (k _ _ r).1 ((k _ _ r).2.trans c) a (Rep.mono k h)
theorem iw.mono (k:fu R w R' w'):∀{s:Nat} {x:List AV} {b o:Nat},iw R w s x b o→iw R' w' s x b o
 | _,_,_,_,.nil s b o => .nil s b o
 | _,_,_,_,.cons h t => .cons (k0.mono k h) (iw.mono k t)
end
end
section
variable {R:Reach} {w:World}
theorem dz.length:∀{xs:List AV} {ys:List Value},dz R w xs ys→xs.length=ys.length
 | _,_,.nil=>rfl
 | _,_,.cons _ _ t=>by simp [dz.length t]
theorem fo.length:∀{xs:List AV} {ys:List Value},fo R w xs ys→xs.length=ys.length
 | _,_,.nil=>rfl
 | _,_,.cons _ t=>by simp [fo.length t]
theorem dz.get:∀{xs:List AV} {ys:List Value} (_:dz R w xs ys) (i:Nat) (x:AV),xs[i]?=some x→∃y,ys[i]?=some y∧y.oneCell'=true∧Rep R w x y
 | _,_,.cons a h _,0,x,e=>by simp at e;subst e;exact ⟨_,rfl,a,h⟩
 | _,_,.cons _ _ t,i+1,x,e=>by simpa using dz.get t i x (by simpa using e)
theorem fo.get:∀{xs:List AV} {ys:List Value} (_:fo R w xs ys) (i:Nat) (x:AV),xs[i]?=some x→∃y,ys[i]?=some y∧Rep R w x y
 | _,_,.cons h _,0,x,e=>by simp at e;subst e;exact ⟨_,rfl,h⟩
 | _,_,.cons _ t,i+1,x,e=>by simpa using fo.get t i x (by simpa using e)
theorem dz.one:∀{xs:List AV} {ys:List Value},dz R w xs ys→∀y∈ys,y.oneCell'=true
 | _,_,.cons a _ t,y,hy=>by
  rcases bm.1 hy with rfl | h
  ·exact a
  ·exact dz.one t y h
theorem dz.append:∀{xs:List AV} {ys:List Value} {Q9:List AV} {TU:List Value},dz R w xs ys→dz R w Q9 TU→dz R w (xs++Q9) (ys++TU)
 | _,_,_,_,.nil,h=>h
 | _,_,_,_,.cons a h t,k => .cons a h (dz.append t k)
theorem dz.take:∀{xs:List AV} {ys:List Value} (n:Nat),dz R w xs ys→dz R w (xs.take n) (ys.take n)
 | _,_,0,_=>by simp;exact .nil
 | _,_,n+1,.nil=>by simp;exact .nil
 | _,_,n+1,.cons a h t=>by simp;exact .cons a h (dz.take n t)
theorem dz.drop:∀{xs:List AV} {ys:List Value} (n:Nat),dz R w xs ys→dz R w (xs.drop n) (ys.drop n)
 | _,_,0,h=>by simpa using h
 | _,_,n+1,.nil=>by simp;exact .nil
 | _,_,n+1,.cons a h t=>by simp;exact dz.drop n t
theorem j9.read:∀{xs:List AV} {b o:Nat},j9 R w xs b o→∃ys,dz R w xs ys∧∀j y,ys[j]?=some y→w.cell? ⟨b,o+j,none⟩=some y
 | _,_,_,.nil _ _=>⟨[],.nil,by simp⟩
 | _,b,o,.cons (y:=y) r c a h t=>by
  obtain ⟨ys,hl,hc⟩:=j9.read t
  refine ⟨y :: ys,.cons a h hl,fun j z hz=>?_⟩
  cases j with
  | zero=>simp at hz;subst hz;exact c
  | succ j=>have:=hc j z (by simpa using hz);rw [show o+(j+1)=o+1+j by omega];exact this
theorem j9.write:∀{xs:List AV} {ys:List Value} {b o:Nat},dz R w xs ys→(∀j,j<ys.length→R b (o+j))→(∀j y,ys[j]?=some y→w.cell? ⟨b,o+j,none⟩=some y)→j9 R w xs b o
 | _,_,b,o,.nil,_,_ => .nil b o
 | _,_,b,o,.cons a h t,hr,hc => .cons (hr 0 (by simp)) (hc 0 _ rfl) a h
   (j9.write t (fun j hj=>by have:=hr (j+1) (by simp;omega);rwa [show o+(j+1)=o+1+j by omega] at this)
    (fun j y hy=>by have:=hc (j+1) y (by simpa using hy);rwa [show o+(j+1)=o+1+j by omega] at this))
theorem j9.drop:∀{xs:List AV} {b o:Nat} (n:Nat),j9 R w xs b o→j9 R w (xs.drop n) b (o+n)
 | _,b,o,0,h=>by simpa using h
 | _,b,o,n+1,.nil _ _=>by simp;exact .nil _ _
 | _,b,o,n+1,.cons r c a h t=>by simp;have:=j9.drop n t;rwa [show o+1+n=o+(n+1) by omega] at this
theorem j9.take:∀{xs:List AV} {b o:Nat} (n:Nat),j9 R w xs b o→j9 R w (xs.take n) b o
 | _,b,o,0,h=>by simp;exact .nil _ _
 | _,b,o,n+1,.nil _ _=>by simp;exact .nil _ _
 | _,b,o,n+1,.cons r c a h t=>by simp;exact .cons r c a h (j9.take n t)
theorem j9.lt:∀{xs:List AV} {b o:Nat},j9 R w xs b o→∀j,j<xs.length→R b (o+j)
 | _,b,o,.cons r _ _ _ t,0,_=>r
 | _,b,o,.cons _ _ _ _ t,j+1,hj=>by have:=j9.lt t j (by simpa using hj);rwa [show o+1+j=o+(j+1) by omega] at this
theorem iw.get:∀{s:Nat} {es:List AV} {b o:Nat} (_:iw R w s es b o) (i:Nat) (x:AV),es[i]?=some x→k0 R w s x b (o+i * s)
 | s,_,b,o,.cons h _,0,x,e=>by simp at e;subst e;simpa using h
 | s,_,b,o,.cons _ t,i+1,x,e=>by
  have:=iw.get t i x (by simpa using e)
  rwa [show o+s+i * s=o+(i+1) * s by rw [Nat.succ_mul];omega] at this
theorem iw.drop:∀{s:Nat} {es:List AV} {b o:Nat} (n:Nat),iw R w s es b o→iw R w s (es.drop n) b (o+n * s)
 | s,_,b,o,0,h=>by simpa using h
 | s,_,b,o,n+1,.nil _ _ _=>by simp;exact .nil _ _ _
 | s,_,b,o,n+1,.cons h t=>by simp;have:=iw.drop n t;rwa [show o+s+n * s=o+(n+1) * s by rw [Nat.succ_mul];omega] at this
theorem iw.take:∀{s:Nat} {es:List AV} {b o:Nat} (n:Nat),iw R w s es b o→iw R w s (es.take n) b o
 | s,_,b,o,0,h=>by simp;exact .nil _ _ _
 | s,_,b,o,n+1,.nil _ _ _=>by simp;exact .nil _ _ _
 | s,_,b,o,n+1,.cons h t=>by simp;exact .cons h (iw.take n t)
theorem iw.append:∀{s:Nat} {es fs:List AV} {b o:Nat},iw R w s es b o→iw R w s fs b (o+es.length * s)→iw R w s (es++fs) b o
 | s,[],fs,b,o,_,h=>by simpa using h
 | s,e :: es,fs,b,o,.cons h t,k => .cons h (iw.append t (by rwa [show o+s+es.length * s=o+(e :: es).length * s by rw [aQ,Nat.succ_mul];omega]))
theorem k0.read {s:Nat} {x:AV} {b o:Nat} (h:k0 R w s x b o):∃ys:List Value,ys.length=s∧(∀j y,ys[j]?=some y→w.cell? ⟨b,o+j,none⟩=some y)∧dz R w x.cells ys:=by
 cases h with
 | ag e h=>obtain ⟨ys,hl,hc⟩:=h.read;exact ⟨ys,by rw [e,hl.length],hc,hl⟩
 | one n r c a h =>
  rename_i y
  refine ⟨[y],rfl,?_,?_⟩
  ·intro j z hz
   cases j with
   | zero=>simp at hz;subst hz;exact c
   | succ j=>simp at hz
  ·cases x <;> simp [AV.cells,AV.pO] at n ⊢ <;> exact .cons a h .nil
theorem k0.write {s:Nat} {x:AV} {ys:List Value} {b o:Nat} (hs:x.cells.length=s) (h:dz R w x.cells ys) (hr:∀j,j<s→R b (o+j)) (hc:∀j y,ys[j]?=some y→w.cell? ⟨b,o+j,none⟩=some y):k0 R w s x b o:=by
 have hl:=h.length
 cases x with
 | ag cs=>exact .ag hs.symm (j9.write h (fun j hj=>hr j (by omega)) hc)
 | _ =>
  simp only [AV.cells,ay] at hs h hl
  subst hs
  cases h with
  | cons a h t=>exact .one rfl (hr 0 (by omega)) (hc 0 _ rfl) a h
theorem iw.cells:∀{s:Nat} {es:List AV} {b o:Nat},iw R w s es b o→∃ys:List Value,ys.length=es.length * s∧(∀j y,ys[j]?=some y→w.cell? ⟨b,o+j,none⟩=some y)∧dz R w (es.flatMap AV.cells) ys∧∀e∈es,e.cells.length=s
 | s,_,b,o,.nil _ _ _=>⟨[],by simp,by simp,.nil,by simp⟩
 | s,_,b,o,.cons (x:=x) (xs:=xs) h t=>by
  obtain ⟨ys,hl,hc,hr⟩:=h.read
  obtain ⟨zs,kl,kc,kr,ke⟩:=iw.cells t
  have hx:x.cells.length=s:=by rw [hr.length,hl]
  refine ⟨ys++zs,by simp [hl,kl,Nat.succ_mul];omega,?_,?_,?_⟩
  ·intro j y hy
   by_cases hj:j<ys.length
   ·exact hc j y (by rwa [List.getElem?_append_left hj] at hy)
   ·rw [aK (by omega)] at hy
    have:=kc _ y hy
    rwa [show o+s+(j - ys.length)=o+j by omega] at this
  ·simpa using hr.append kr
  ·intro e he
   rcases bm.1 he with rfl | h'
   ·exact hx
   ·exact ke e h'
theorem iw.write:∀{s:Nat} {es:List AV} {ys:List Value} {b o:Nat},(∀e∈es,e.cells.length=s)→dz R w (es.flatMap AV.cells) ys→(∀j,j<es.length * s→R b (o+j)) →
  (∀j y,ys[j]?=some y→w.cell? ⟨b,o+j,none⟩=some y)→iw R w s es b o
 | s,[],ys,b,o,_,_,_,_ => .nil _ _ _
 | s,e :: es,ys,b,o,he,h,hr,hc=>by
  have hs:=he e (by simp)
  have hl:=h.length
  simp only [List.flatMap_cons,ao] at hl
  have h1:dz R w e.cells (ys.take s):=by simpa [hs] using h.take s
  have h2:dz R w (es.flatMap AV.cells) (ys.drop s):=by have:=h.drop s;simpa [List.drop_append,hs,bc] using this
  refine .cons (.write hs h1 (fun j hj=>hr j (by simp [Nat.succ_mul];omega)) (fun j y hy=>hc j y ?_))
   (iw.write (fun e' h'=>he e' (by simp [h'])) h2 (fun j hj=>?_) (fun j y hy=>?_))
  ·rw [aO] at hy;split at hy
   ·exact hy
   ·cases hy
  ·have:=hr (s+j) (by simp [Nat.succ_mul];omega);rwa [←Nat.add_assoc] at this
  ·have:=hc (s+j) y (by simpa using hy);rwa [←Nat.add_assoc] at this
end
end Go.Eng
namespace Go.Eng
namespace Fl
def add (a b:Nat):Nat:=(Ieee.double.add a b).getD 0
def kZ (a b:Nat):Bool:=(Ieee.double.add a b).isSome
def sub (a b:Nat):Nat:=(Ieee.double.sub a b).getD 0
def sO (a b:Nat):Bool:=(Ieee.double.sub a b).isSome
def mul (a b:Nat):Nat:=(Ieee.double.mul a b).getD 0
def oy (a b:Nat):Bool:=(Ieee.double.mul a b).isSome
def eq (a b:Nat):Bool:=Ieee.double.order a b == some .eq
def lt (a b:Nat):Bool:=Ieee.double.order a b == some .lt
def gt (a b:Nat):Bool:=Ieee.double.order a b == some .gt
def neg (a:Nat):Nat:=a ^^^ 9223372036854775808
def sF (a b c d:Nat):Nat:=sub (mul a c) (mul b d)
def sG (a b c d:Nat):Nat:=add (mul a d) (mul b c)
def ph (a b c d:Nat):Bool:=oy a c&&oy b d&&sO (mul a c) (mul b d)&&(oy a d&&oy b c&&kZ (mul a d) (mul b c))
def ofInt (n:Int):Nat:=FloatKind.f64.nearest n
def iM (a:Nat):Nat:=FloatKind.f64.encode ((FloatKind.f64.decode a).integral .zero)
def num (a:Nat):Bool:=!(FloatKind.f64.decode a).isNaN
def toInt (a:Nat):Int:=(floatToIntVal .f64 a .i64).getD 0
def lW (a:Nat):Bool:=(floatToIntVal .f64 a .i64).isSome
theorem yB {a b:Nat} (h:kZ a b=true):Ieee.double.add a b=some (add a b):=by
 unfold kZ at h;obtain ⟨x,hx⟩:=Option.isSome_iff_exists.1 h;unfold add;rw [hx];rfl
theorem yz {a b:Nat} (h:sO a b=true):Ieee.double.sub a b=some (sub a b):=by
 unfold sO at h;obtain ⟨x,hx⟩:=Option.isSome_iff_exists.1 h;unfold sub;rw [hx];rfl
theorem yA {a b:Nat} (h:oy a b=true):Ieee.double.mul a b=some (mul a b):=by
 unfold oy at h;obtain ⟨x,hx⟩:=Option.isSome_iff_exists.1 h;unfold mul;rw [hx];rfl
end Fl
def zK:BinOp→Value→Value→Option Value
 | .add,.float .f64 a,.float .f64 b=>if Fl.kZ a b then some (.float .f64 (Fl.add a b)) else none
 | .sub,.float .f64 a,.float .f64 b=>if Fl.sO a b then some (.float .f64 (Fl.sub a b)) else none
 | .mul,.float .f64 a,.float .f64 b=>if Fl.oy a b then some (.float .f64 (Fl.mul a b)) else none
 | .eql,.float .f64 a,.float .f64 b=>some (.bool (Fl.eq a b))
 | .neq,.float .f64 a,.float .f64 b=>some (.bool (!Fl.eq a b))
 | .lss,.float .f64 a,.float .f64 b=>some (.bool (Fl.lt a b))
 | .leq,.float .f64 a,.float .f64 b=>some (.bool (Fl.lt a b || Fl.eq a b))
 | .gtr,.float .f64 a,.float .f64 b=>some (.bool (Fl.gt a b))
 | .geq,.float .f64 a,.float .f64 b=>some (.bool (Fl.gt a b || Fl.eq a b))
 | .add,.complex .f64 a b,.complex .f64 c d=>if Fl.kZ a c&&Fl.kZ b d then some (.complex .f64 (Fl.add a c) (Fl.add b d)) else none
 | .mul,.complex .f64 a b,.complex .f64 c d=>if Fl.ph a b c d then some (.complex .f64 (Fl.sF a b c d) (Fl.sG a b c d)) else none
 | .lss,.string a,.string b=>some (.bool (Op.bytesLess a.toList b.toList))
 | .leq,.string a,.string b=>some (.bool (Op.bytesLess a.toList b.toList || a.toList == b.toList))
 | .gtr,.string a,.string b=>some (.bool (!(Op.bytesLess a.toList b.toList || a.toList == b.toList)))
 | .geq,.string a,.string b=>some (.bool (!Op.bytesLess a.toList b.toList))
 | _,_,_=>none
section
variable {P:Program} {w:World}
theorem mA {a b:Nat} (h:Fl.kZ a b=true):(Op.Complex.arith .add .f64 a b).run P w = .ok (Fl.add a b) w:=by
 have e:FloatKind.f64.format.add a b=some (Fl.add a b):=Fl.yB h
 simp [Op.Complex.arith,Op.floatArith,e]
theorem vz {a b:Nat} (h:Fl.sO a b=true):(Op.Complex.arith .sub .f64 a b).run P w = .ok (Fl.sub a b) w:=by
 have e:FloatKind.f64.format.sub a b=some (Fl.sub a b):=Fl.yz h
 simp [Op.Complex.arith,Op.floatArith,e]
theorem kB {a b:Nat} (h:Fl.oy a b=true):(Op.Complex.arith .mul .f64 a b).run P w = .ok (Fl.mul a b) w:=by
 have e:FloatKind.f64.format.mul a b=some (Fl.mul a b):=Fl.yA h
 simp [Op.Complex.arith,Op.floatArith,e]
theorem Gn {op:BinOp} {t:TypeId} {x y z:Value} (h:zK op x y=some z):(binOp op t x y).run P w = .ok z w:=by
 unfold zK at h
 split at h
 ·rw [aC] at h
  obtain ⟨h1,h⟩:=h
  cases h
  have e:FloatKind.f64.format.add _ _=some (Fl.add _ _):=Fl.yB h1
  simp [binOp,Op.floatArith,e]
 ·rw [aC] at h
  obtain ⟨h1,h⟩:=h
  cases h
  have e:FloatKind.f64.format.sub _ _=some (Fl.sub _ _):=Fl.yz h1
  simp [binOp,Op.floatArith,e]
 ·rw [aC] at h
  obtain ⟨h1,h⟩:=h
  cases h
  have e:FloatKind.f64.format.mul _ _=some (Fl.mul _ _):=Fl.yA h1
  simp [binOp,Op.floatArith,e]
 ·cases h;rfl
 ·cases h;rfl
 ·cases h;rfl
 ·cases h;rfl
 ·cases h;rfl
 ·cases h;rfl
 ·rw [aC,aa] at h
  obtain ⟨⟨h1,h2⟩,h⟩:=h
  cases h
  simp [binOp,Op.complexOp,mA h1,mA h2]
 ·rw [aC] at h
  obtain ⟨h1,h⟩:=h
  cases h
  unfold Fl.ph at h1
  simp only [aa] at h1
  obtain ⟨⟨⟨a1,a2⟩,a3⟩,⟨a4,a5⟩,a6⟩:=h1
  simp [binOp,Op.complexOp,Op.Complex.conv,Op.Complex.product,Op.Complex.mul,Op.Complex.sub,Op.Complex.add,kB a1,kB a2,vz a3,kB a4,kB a5,mA a6,Fl.sF,Fl.sG]
 ·cases h;rfl
 ·cases h;rfl
 ·cases h;rfl
 ·cases h;rfl
 ·cases h
theorem Bn {op:BinOp} {t:TypeId} {x y:Operand} {u v z:Value} (h:zK op u v=some z):eqGuard op t x y u v=pure ():=by
 unfold zK at h
 split at h <;> first | rfl | cases h
theorem vy {a:Nat}:(Op.unary .neg (.float .f64 a)).run P w = .ok (.float .f64 (Fl.neg a)) w:=rfl
end
end Go.Eng
namespace Go.Eng
inductive Gh where
 | no
 | ptr (m o:Nat)
 | cD (k s:Nat)
 | cl (ts:List (Nat × (Nat × Nat)))
 | yb (ts:List (Nat × (Nat × Nat))) (p:Option (Nat × Nat))
 | live (s:Nat)
 | used
 | pv (s:Nat)
 | ni (d s:Nat)
 | pe (k:Nat)
 | pm (m:Nat)
 | pc (s:Nat)
 deriving DecidableEq,Inhabited
def lk (k:Nat):Nat:=1000000+k
theorem fN (k:Nat):1000000≤lk k:=by unfold lk;omega
theorem fT {j k:Nat} (h:lk j=lk k):j=k:=by unfold lk at h;omega
attribute [irreducible] lk
inductive cR where
 | s (t:Nat)
 | c (x:AV)
 | g (n:Nat)
 deriving Inhabited
structure CS where
 n:Nat
 ref:Option (Nat × Nat)
 ky:List (Nat × (Nat × Nat))
 gI:List (Nat × (Nat × Nat))
 bQ:Nat
 own:List (Nat × (Nat × Nat))
 new:Option (Nat × Nat)
 fL:List (Nat × (Nat × Nat))
def CS.plain (n bQ:Nat):CS:=⟨n,none,[],[],bQ,[],none,[]⟩
structure c7 where
 ref:Option Nat:=none
 fV:List (Nat × Nat):=[]
 bQ:Nat:=1
 own:List (Nat × Nat):=[]
 new:Option Nat:=none
 fL:List (Nat × Nat):=[]
 ps:Option (Nat × Nat):=none
 deriving DecidableEq,Inhabited
def c7.plain (g:c7):Bool:=g.ref.isNone&&g.fV.isEmpty&&g.own.isEmpty&&g.new.isNone&&g.fL.isEmpty&&g.ps.isNone
def iS (l:List (Nat × (Nat × Nat))):List (Nat × Nat):=l.map fun t=>(t.1,t.2.2)
def CS.fits (c:CS) (g:c7):Bool :=
 decide (c.ref.map (·.1)=g.ref∧iS c.ky=g.fV∧iS c.gI=g.fV∧c.bQ=g.bQ∧iS c.own=g.own∧c.new.map (·.1)=g.new∧iS c.fL=g.fL ∧
  ((c.ky++c.gI++c.own++c.fL).map (·.2.1)).Nodup∧(c.ref=none→c.ky=[])∧(c.new=none→c.fL=[])∧(c.ref=none∨c.new=none)∧(∀q∈c.new.toList,q.1<c.bQ∧q.2<999999)∧g.ps=none)
def CS.mC (c:CS):List Nat:=(c.ky++c.gI++c.own++c.fL).map fun t=>lk t.2.1
def CS.jt (c:CS):List Nat:=(c.new.map (·.2)).toList++(c.ref.map (·.2)).toList
inductive K where
 | mv
 | pick
 | bin (o:BinOp)
 | be (neg:Bool)
 | un (o:UnOp)
 | ci (k:IntKind)
 | cs
 | sb
 | Ju (k:Nat)
 | bs
 | len
 | vn
 | mn
 | mx
 | ix (s:Nat)
 | si
 | ai (n s:Nat) (agg:Bool)
 | fe (o n:Nat) (agg:Bool)
 | sc (s:Nat) (lo hi:Bool)
 | ss (lo hi:Bool)
 | bl (s n:Nat)
 | blt (s n k:Nat)
 | bd (z:List AV) (pl:List (Nat × Nat))
 | al (m:Nat) (z:List AV) (ts:List (Nat × (Nat × Nat)))
 | bx (m:Nat)
 | ld (m o n:Nat) (agg:Bool)
 | st (m o n:Nat)
 | lr (n:Nat) (agg:Bool)
 | fa (m o d:Nat)
 | fr (o n:Nat) (agg:Bool)
 | nc (m o:Nat)
 | Oe
 | ex (i:Nat)
 | ap (k d s ku:Nat)
 | Ku (k d ku:Nat)
 | an (d s ku:Nat)
 | Kw (d ku:Nat)
 | mk (d s ku:Nat) (z:AV)
 | nl (d s:Nat)
 | C1 (d s:Nat)
 | call (f:Nat) (c:CS)
 | H7 (k:Nat)
 | yO (k:Nat)
 | lU (k s:Nat)
 | K2 (k o:Nat)
 | rY (k s n:Nat) (agg:Bool)
 | sT (k s n:Nat)
 | sU (k s:Nat)
 | pW (f n bQ i k s:Nat)
 | qJ (f n bQ i s:Nat)
 | Jy (k d s ku:Nat)
 | K1 (k:Nat)
 | Kv (k d q s ku:Nat)
 | la (m n s:Nat)
 | ll (m s:Nat)
 | Od
 | Ni
 | M1 (b:Bool)
 | pU (f n bQ i m:Nat)
 | DV (m:Nat) (ts:List (Nat × (Nat × Nat)))
 | DR (m o n:Nat) (ts:List (Nat × (Nat × Nat)))
 | Kt (k d s ku:Nat)
 | JG (k s:Nat)
 | Js (m o:Nat)
 | JH (m o n c k s:Nat)
 | rl
 | im
 | cx
 | cf
 | fc
 | MW
 | yY (k s ku:Nat) (z:AV)
 | DJ (s n k:Nat)
 | H8 (k d s:Nat)
 | ls (m s:Nat)
 | nP (f n k:Nat)
 | oY (f n bQ i k s:Nat)
  | nN (f n i k s:Nat)
 | mg (f n i k d:Nat)
 | rq (f n bQ:Nat)
 | B0 (k d s ku:Nat)
structure pQ where
 k:K
 rs:List cR
 ds:List Nat
 gd:Option (Nat × Bool):=none
inductive M where
 | skip
 | eY (ops:List pQ)
 | seq (a b:M)
 | cond (x:cR) (G:List (Nat × Gh)) (a b:M)
 | block (id:Nat) (G:List (Nat × Gh)) (b:M)
 | loop (bM:List Nat) (G:List (Nat × Gh)) (b:M)
 | exit (id:Nat)
 | ret
 | sw (k k':Nat) (b:M)
 | Hx (b:M)
 | Hw (b:M)
 | Hy (l:Nat) (bM:List Nat) (G:List (Nat × Gh)) (r b:M)
def gid (l:Nat):Nat:=1000000+l
structure FS where
 G:List AV→List AV→Prop
 sg:c7
abbrev Sg:=Nat→AV
abbrev Ga:=Nat→Gh
def cI {X:Type} (σ:Nat→X) (t:Nat) (x:X):Nat→X:=fun k=>if k=t then x else σ k
def bP {X:Type} (σ:Nat→X):List Nat→List X→Nat→X
 | t :: ts,x :: xs=>cI (bP σ ts xs) t x
 | _,_=>σ
structure Env where
 fs:Nat→FS
 gl:Nat→AV
def cR.ev (E:Env) (σ:Sg):cR→AV
 | .s t=>σ t
 | .c x=>x
 | .g n=>E.gl n
def cR.gh (γ:Ga):cR→Gh
 | .s t=>γ t
 | _ => .no
def dP (o:BinOp) (k:IntKind) (x y:Int):Int :=
 let a:=BitVec.ofInt k.bits x
 let b:=BitVec.ofInt k.bits y
 match o with
 | .and=>k.wrap (a &&& b).toNat
 | .or=>k.wrap (a ||| b).toNat
 | .xor=>k.wrap (a ^^^ b).toNat
 | _=>k.wrap (a &&& ~~~b).toNat
def j8:BinOp→Value→Value→Option Value
 | .shl,.int k a,.int _ b=>if b<0 then none else some (.int k (k.wrap (a * 2 ^ (min b.toNat k.bits))))
 | .shr,.int k a,.int _ b=>if b<0 then none else some (.int k (a.fdiv (2 ^ (min b.toNat k.bits))))
 | .add,.int k a,.int k' b=>if k=k' then some (.int k (k.wrap (a+b))) else none
 | .sub,.int k a,.int k' b=>if k=k' then some (.int k (k.wrap (a - b))) else none
 | .mul,.int k a,.int k' b=>if k=k' then some (.int k (k.wrap (a * b))) else none
 | .quo,.int k a,.int k' b=>if k=k' then (if b=0 then none else some (.int k (k.wrap (a.tdiv b)))) else none
 | .rem,.int k a,.int k' b=>if k=k' then (if b=0 then none else some (.int k (a.tmod b))) else none
 | .and,.int k a,.int k' b=>if k=k' then some (.int k (dP .and k a b)) else none
 | .or,.int k a,.int k' b=>if k=k' then some (.int k (dP .or k a b)) else none
 | .xor,.int k a,.int k' b=>if k=k' then some (.int k (dP .xor k a b)) else none
 | .andNot,.int k a,.int k' b=>if k=k' then some (.int k (dP .andNot k a b)) else none
 | .eql,.int k a,.int k' b=>if k=k' then some (.bool (a == b)) else none
 | .neq,.int k a,.int k' b=>if k=k' then some (.bool (a != b)) else none
 | .lss,.int k a,.int k' b=>if k=k' then some (.bool (decide (a<b))) else none
 | .leq,.int k a,.int k' b=>if k=k' then some (.bool (decide (a≤b))) else none
 | .gtr,.int k a,.int k' b=>if k=k' then some (.bool (decide (a > b))) else none
 | .geq,.int k a,.int k' b=>if k=k' then some (.bool (decide (a ≥ b))) else none
 | .add,.string a,.string b=>if ((a.size+b.size:Nat):Int) > IntKind.i64.max then none else some (.string (a++b))
 | .eql,.string a,.string b=>some (.bool (a.toList == b.toList))
 | .neq,.string a,.string b=>some (.bool (!(a.toList == b.toList)))
 | o,x,y=>zK o x y
def Nl:UnOp→Value→Option Value
 | .neg,.int k n=>some (.int k (k.wrap (0 - n)))
 | .xor,.int k n=>some (.int k (dP .xor k (if k.signed then -1 else k.max) n))
 | .not,.bool b=>some (.bool !b)
 | .neg,.float .f64 a=>some (.float .f64 (Fl.neg a))
 | _,_=>none
def fg (b:UInt8):AV := .v (.int .u8 b.toNat)
def AV.plain:AV→Bool
 | .v x=>x.oneCell'
 | .ag _ | .sl _ _ | .ro _=>true
 | _=>false
def fP (cs:List AV) (o n:Nat) (agg:Bool):Option AV :=
 if agg then (if o+n≤cs.length then some (.ag ((cs.drop o).take n)) else none) else cs[o]?
def qf (e:AV) (o n:Nat) (agg:Bool):Option AV :=
 match e with
 | .ag cs=>fP cs o n agg
 | x=>if o=0∧n=1∧agg=false then some x else none
def eK (cs:List AV) (o:Nat) (xs:List AV):List AV:=cs.take o++xs++cs.drop (o+xs.length)
def uF (e:AV) (o:Nat) (x:AV):Option AV :=
 match e with
 | .ag cs=>if o+x.cells.length≤cs.length then some (.ag (eK cs o x.cells)) else none
 | _=>if o=0∧x.pO=false then some x else none
def mF (z:List AV):List (Nat × Nat)→List AV→Option (List AV)
 | [],[]=>some z
 | (o,n) :: pl,x :: xs=>if x.plain=true∧x.cells.length=n∧o+n≤z.length then mF (eK z o x.cells) pl xs else none
 | _,_=>none
def vA (a b:Int):Int:=if b<a then b else a
def nD (a b:Int):Int:=if a<b then b else a
def CS.ins (c:CS) (vs:List AV):List AV :=
 match c.ref with
 | some (i,_)=>(vs.take c.n).set i (vs.getD (c.n+(c.new.map (·.2)).toList.length) .dead)
 | none=>vs.take c.n
def CS.main (c:CS) (outs:List AV):AV :=
 if c.bQ=1 then (if c.new.isSome then .pt else outs.headD .dead)
 else .tu ((outs.take c.bQ).mapIdx fun i x=>if c.new.any (·.1 == i) then .pt else x)
def kW (cs:List AV):List (Nat × (Nat × Nat))→List AV
 | []=>cs
 | t :: ts=>(kW cs ts).set t.1 (.sl t.2.2 [])
abbrev AV.nil:AV := .v (.slice none 0 0)
def CS.dg (c:CS):Gh:=if c.bQ=1 then (match c.new,c.own with | some (_,m),_=>Gh.ptr m 0 | none,[(0,k,s)] => .cD k s | none,_ => .no) else .yb c.own c.new
section
variable (E:Env)
def eo (k:K) (vs ws:List AV):Prop :=
 match k with
 | .mv=>match vs with
  | [x]=>ws=[x]
  | _=>False
 | .pick=>match vs with
  | [.v (.bool b),x,y]=>ws=[if b then x else y]
  | _=>False
 | .bin o=>match vs with
  | [.v a,.v b]=>∃x,j8 o a b=some x∧ws=[.v x]
  | _=>False
 | .be neg=>match vs with
  | [.v (.bool a),.v (.bool b)]=>ws=[.v (.bool (if neg then !(a == b) else a == b))]
  | _=>False
 | .un o=>match vs with
  | [.v a]=>∃x,Nl o a=some x∧ws=[.v x]
  | _=>False
 | .ci k=>match vs with
  | [.v (.int _ n)]=>ws=[.v (.int k (k.wrap n))]
  | _=>False
 | .cs=>match vs with
  | [.v (.string b)]=>ws=[.v (.string b)]
  | _=>False
 | .sb=>match vs with
  | [.v (.string b)]=>b.data.toList.length≤maxLen∧ws=[.sl 1 (b.data.toList.map fg)]
  | _=>False
 | .Ju _=>match vs with
  | [.v (.string b),_]=>b.data.toList.length≤maxLen∧ws=[.sl 1 (b.data.toList.map fg),.dead]
  | _=>False
 | .bs=>match vs with
  | [.sl s es]=>∃l:List UInt8,s=1∧es=l.map fg∧ws=[.v (.string ⟨⟨l⟩⟩)]
  | _=>False
 | .len=>match vs with
  | [.sl _ es]=>ws=[.v (.int .i64 es.length)]
  | _=>False
 | .vn=>match vs with
  | [.v (.string b)]=>ws=[.v (.int .i64 b.data.toList.length)]
  | _=>False
 | .mn=>match vs with
  | [.v (.int k a),.v (.int _ b)]=>ws=[.v (.int k (vA a b))]
  | _=>False
 | .mx=>match vs with
  | [.v (.int k a),.v (.int _ b)]=>ws=[.v (.int k (nD a b))]
  | _=>False
 | .ix s=>match vs with
  | [.sl s' es,.v (.int _ i)]=>∃x,s=s'∧0≤i∧es[i.toNat]?=some x∧ws=[.ro x]
  | _=>False
 | .si=>match vs with
  | [.v (.string b),.v (.int _ i)]=>∃x,0≤i∧b.data.toList[i.toNat]?=some x∧ws=[fg x]
  | _=>False
 | .ai n s agg=>match vs with
  | [.ag cs,.v (.int _ i)]=>∃x,0≤i∧i<n∧fP cs (i.toNat * s) s agg=some x∧ws=[x]
  | _=>False
 | .fe o n agg=>match vs with
  | [.ag cs]=>∃x,fP cs o n agg=some x∧ws=[x]
  | _=>False
 | .sc s true true=>match vs with
  | [.sl s' es,.v (.int _ l),.v (.int _ h)]=>s=s'∧0≤l∧l≤h∧h≤es.length∧ws=[.sl s ((es.take h.toNat).drop l.toNat)]
  | _=>False
 | .sc s true false=>match vs with
  | [.sl s' es,.v (.int _ l)]=>s=s'∧0≤l∧l≤es.length∧ws=[.sl s (es.drop l.toNat)]
  | _=>False
 | .sc s false true=>match vs with
  | [.sl s' es,.v (.int _ h)]=>s=s'∧0≤h∧h≤es.length∧ws=[.sl s (es.take h.toNat)]
  | _=>False
 | .sc s false false=>match vs with
  | [.sl s' es]=>s=s'∧ws=[.sl s es]
  | _=>False
 | .ss true true=>match vs with
  | [.v (.string b),.v (.int _ l),.v (.int _ h)]=>0≤l∧l≤h∧h≤b.data.toList.length∧ws=[.v (.string ⟨⟨(b.data.toList.take h.toNat).drop l.toNat⟩⟩)]
  | _=>False
 | .ss true false=>match vs with
  | [.v (.string b),.v (.int _ l)]=>0≤l∧l≤b.data.toList.length∧ws=[.v (.string ⟨⟨b.data.toList.drop l.toNat⟩⟩)]
  | _=>False
 | .ss false true=>match vs with
  | [.v (.string b),.v (.int _ h)]=>0≤h∧h≤b.data.toList.length∧ws=[.v (.string ⟨⟨b.data.toList.take h.toNat⟩⟩)]
  | _=>False
 | .ss false false=>match vs with
  | [.v (.string b)]=>ws=[.v (.string b)]
  | _=>False
 | .bl s n=>vs.length=n∧(∀x∈vs,x.plain=true∧x.cells.length=s)∧ws=[.sl s vs]
 | .blt s n _=>vs.length=n+1∧(∀x∈vs.take n,x.plain=true∧x.cells.length=s)∧ws=[.sl s (vs.take n),.dead]
 | .bd z pl=>∃cs,mF z pl vs=some cs∧ws=[.ag cs]
 | .al _ z ts=>ws = .pt :: .ag z :: ts.map fun _ => .dead
 | .bx _=>match vs with
  | [x,_]=>x.plain=true∧ws=[.pt,.ag x.cells]
  | _=>False
 | .ld _ o n agg=>match vs with
  | [.pt,.ag cs]=>∃x,fP cs o n agg=some x∧ws=[x]
  | _=>False
 | .st _ o n=>match vs with
  | [.pt,.ag cs,x]=>x.plain=true∧x.cells.length=n∧o+n≤cs.length∧ws=[.ag (eK cs o x.cells)]
  | _=>False
 | .lr n agg=>match vs with
  | [.ro x]=>x.pO=agg∧x.cells.length=n∧ws=[x]
  | _=>False
 | .fa _ _ _=>match vs with
  | [.pt]=>ws=[.pt]
  | _=>False
 | .fr o n agg=>match vs with
  | [.ro (.ag cs)]=>∃x,fP cs o n agg=some x∧ws=[.ro x]
  | _=>False
 | .nc _ _=>match vs with
  | [.pt]=>ws=[.pt]
  | _=>False
 | .Oe=>match vs with
  | [.ro x]=>ws=[.ro x]
  | _=>False
 | .ex i=>match vs with
  | [.tu vs]=>∃x,vs[i]?=some x∧ws=[x]
  | _=>False
 | .ap _ _ s ku=>match vs with
  | [.sl s' es,.sl mc fs,_,_]=>s'=s∧mc=s∧(∀x∈fs,x.cells.length=s)∧es.length+fs.length≤maxLen∧(es.length+fs.length) * ku≤140737488355328∧ws=[.sl s (es++fs),.dead,.dead]
  | _=>False
 | .Ku _ _ ku=>match vs with
  | [.sl s' es,.v (.string b),_,_]=>s'=1∧es.length+b.data.toList.length≤maxLen∧(es.length+b.data.toList.length) * ku≤140737488355328∧ws=[.sl 1 (es++b.data.toList.map fg),.dead,.dead]
  | _=>False
 | .an _ s ku=>match vs with
  | [.sl mc fs,_]=>mc=s∧(∀x∈fs,x.cells.length=s)∧fs.length≤maxLen∧fs.length * ku≤140737488355328∧ws=[.sl s fs,.dead]
  | _=>False
 | .Kw _ ku=>match vs with
  | [.v (.string b),_]=>b.data.toList.length≤maxLen∧b.data.toList.length * ku≤140737488355328∧ws=[.sl 1 (b.data.toList.map fg),.dead]
  | _=>False
 | .mk _ s ku z=>match vs with
  | [.v (.int .i64 l),.v (.int .i64 c),_]=>z.plain=true∧z.cells.length=s∧0≤l∧l≤c∧c * ku≤140737488355328∧c≤maxLen∧ws=[.sl s (List.replicate l.toNat z),.dead]
  | _=>False
 | .nl _ s=>match vs with
  | [_]=>ws=[.sl s [],.dead]
  | _=>False
 | .C1 _ s=>match vs with
  | [_]=>ws=[.pt,.sl s []]
  | _=>False
 | .H7 _=>match vs with
  | [.v (.string b),_]=>b.data.toList.length≤maxLen∧ws=[.pt,.sl 1 (b.data.toList.map fg)]
  | _=>False
 | .yO _=>match vs with
  | [.pt,.sl _ es]=>ws=[.v (.int .i64 es.length)]
  | _=>False
 | .lU _ s=>match vs with
  | [.pt,.v (.int _ i),.sl s' es]=>s'=s∧0≤i∧i.toNat<es.length∧ws=[.el i.toNat s 0]
  | _=>False
 | .K2 _ o=>match vs with
  | [.el i s o']=>ws=[.el i s (o'+o)]
  | _=>False
 | .rY _ s n agg=>match vs with
  | [.el i s' o,.sl mc es]=>∃e x,s'=s∧mc=s∧es[i]?=some e∧qf e o n agg=some x∧ws=[x]
  | _=>False
 | .sT _ s n=>match vs with
  | [.el i s' o,.sl mc es,x]=>∃e e',s'=s∧mc=s∧es[i]?=some e∧x.plain=true∧x.cells.length=n∧uF e o x=some e'∧ws=[.sl s (es.set i e')]
  | _=>False
 | .sU _ s=>match vs with
  | [.pt,.sl s' es]=>s'=s∧ws=[.sl s es,.sl s es,.dead]
  | _=>False
 | .pW f n bQ i _ s=>∃es outs,vs[n]?=some (.sl s es)∧vs[i]?=some .pt∧(E.fs f).G ((vs.take n).set i (.sl s es)) outs∧outs.length=bQ∧ws=[if bQ=1 then outs.headD .dead else .tu outs]
 | .qJ f _ bQ i s=>∃outs,vs[i]?=some (.sl s [])∧(E.fs f).G vs outs∧outs.length=bQ∧ws=[if bQ=1 then outs.headD .dead else .tu outs]
 | .Jy _ _ s ku=>match vs with
  | [.pt,.sl mc fs,.sl s' es,_]=>s'=s∧mc=s∧es.length+fs.length≤maxLen∧(es.length+fs.length) * ku≤140737488355328∧ws=[.pt,.sl s es,.sl s (es++fs)]
  | _=>False
 | .K1 _=>match vs with
  | [.pt,.sl _ []]=>ws=[.ab]
  | [.pt,.sl _ (_ :: _)]=>ws=[.v (.bool false)]
  | _=>False
 | .Kv _ _ _ s ku=>match vs with
  | [.sl s' es,.pt,_,_,.sl mc fs]=>s'=s∧mc=s∧es.length+fs.length≤maxLen∧(es.length+fs.length) * ku≤140737488355328∧ws=[.sl s (es++fs),.dead,.dead]
  | _=>False
 | .Kt _ _ s ku=>match vs with
  | [.sl s' [],.sl mc fs,_,_]=>s'=s∧mc=s∧(∀x∈fs,x.cells.length=s)∧fs.length≤maxLen∧fs.length * ku≤140737488355328∧ws=[.pt,.dead,.sl s fs]
  | _=>False
 | .JG _ s=>match vs with
  | [x,.pt,.sl s' es]=>s'=s∧ws=[x,.sl s es,.dead]
  | _=>False
 | .Js _ o=>match vs with
  | [.pt,.ag cs,.pt]=>o+1≤cs.length∧ws=[.ag (eK cs o [.pt])]
  | _=>False
 | .JH _ o n c _ s=>match vs with
  | [.pt,.ag cs,.sl s' es]=>∃x,s'=s∧c<cs.length∧fP (cs.set c (.sl s es)) o n true=some x∧ws=[x,.ag (cs.set c (.sl s es)),.dead]
  | _=>False
 | .rl=>match vs with
  | [.v (.complex k a _)]=>ws=[.v (.float k a)]
  | _=>False
 | .im=>match vs with
  | [.v (.complex k _ b)]=>ws=[.v (.float k b)]
  | _=>False
 | .cx=>match vs with
  | [.v (.float .f64 a),.v (.float .f64 b)]=>ws=[.v (.complex .f64 a b)]
  | _=>False
 | .cf=>match vs with
  | [.v (.int _ n)]=>ws=[.v (.float .f64 (Fl.ofInt n))]
  | _=>False
 | .fc=>match vs with
  | [.v (.float .f64 b)]=>Fl.lW b=true∧ws=[.v (.int .i64 (Fl.toInt b))]
  | _=>False
 | .MW=>match vs with
  | [.v (.float .f64 b)]=>Fl.num b=true∧ws=[.v (.float .f64 (Fl.iM b))]
  | _=>False
 | .yY _ s ku z=>match vs with
  | [.v (.int .i64 l),.v (.int .i64 c),_]=>z.plain=true∧z.cells.length=s∧0≤l∧l≤c∧c * ku≤140737488355328∧c≤maxLen∧ws=[.pt,.sl s (List.replicate l.toNat z)]
  | _=>False
 | .DJ s n _=>vs.length=n+1∧(∀x∈vs.take n,x.plain=true∧x.cells.length=s)∧ws=[.pt,.sl s (vs.take n)]
 | .H8 _ _ s=>match vs with
  | [.pt,.v (.int _ i),.sl s' es,_]=>s'=s∧0≤i∧i.toNat≤es.length∧ws=[.pt,.dead,.sl s (es.take i.toNat)]
  | _=>False
 | .ls _ s=>match vs with
  | [.el i s' o,.ag cs,x]=>s'=s∧x.plain=true∧x.cells.length=1∧i * s+o+1≤cs.length∧ws=[.ag (eK cs (i * s+o) x.cells)]
  | _=>False
 | .nP f n _=>∃es,(E.fs f).G (vs.take n) [.sl 1 es]∧(∀e∈es,∃x,e = .v x)∧ws=[.pt,.sl 1 es]
 | .oY f n bQ i _ s=>∃es outs,vs[n]?=some (.sl s es)∧vs[i]?=some .pt∧(E.fs f).G ((vs.take n).set i (.sl s es)) outs∧outs.length=bQ∧ws=[if bQ=1 then outs.headD .dead else .tu outs,.dead]
 | .nN f n i _ s=>∃es fs,vs[n]?=some (.sl s es)∧es≠[]∧vs[i]?=some .pt∧(E.fs f).G ((vs.take n).set i (.sl s es)) [.sl s fs]∧ws=[.tu [],.sl s fs]
 | .mg f n i _ _=>∃es fs,vs[n]?=some (.sl 1 es)∧vs[i]?=some .pt∧(E.fs f).G ((vs.take n).set i (.sl 1 es)) [.sl 1 fs]∧(∀e∈fs,∃x,e = .v x)∧ws=[.pt,.dead,.sl 1 fs]
 | .B0 _ _ s ku=>match vs with
  | [.pt,.sl mc fs,.sl s' es,_]=>s'=s∧mc=s∧(∀x∈fs,x.cells.length=s)∧es.length+fs.length≤maxLen∧(es.length+fs.length) * ku≤140737488355328∧ws=[.pt,.dead,.sl s (es++fs)]
  | _=>False
 | .rq f _ bQ=>∃Jn outs,vs = .v (.func (.func f) #[] #[]) :: Jn∧(E.fs f).G Jn outs∧outs.length=bQ∧ws=[if bQ=1 then outs.headD .dead else .tu outs]
 | .la _ n s=>match vs with
  | [.pt,.v (.int _ i),.ag _]=>0≤i∧i<n∧ws=[.el i.toNat s 0]
  | _=>False
 | .ll _ s=>match vs with
  | [.el i s' o,.ag cs]=>∃x,s'=s∧fP cs (i * s+o) 1 false=some x∧ws=[x]
  | _=>False
 | .Od=>match vs with
  | [.sl _ []]=>ws=[.ab]
  | [.sl _ (_ :: _)]=>ws=[.v (.bool false)]
  | _=>False
 | .Ni=>match vs with
  | [.v (.string b),.v (.int .u8 c)]=>ws=[.v (.int .i64 (Lib.indexByte b.data.toList c.toNat.toUInt8))]
  | _=>False
 | .M1 _=>False
 | .pU f n bQ i _=>∃cs outs,vs[n]?=some (.ag cs)∧vs[i]?=some .pt∧(E.fs f).G ((vs.take n).set i (.ro (.ag cs))) outs∧outs.length=bQ∧(∀x∈outs,∃y,x = .v y)∧ws=[if bQ=1 then outs.headD .dead else .tu outs]
 | .DV _ ts=>match vs with
  | x :: _=>x.plain=true∧(∀t∈ts,x.cells[t.1]?=some .nil)∧ws = .pt :: .ag (kW x.cells ts) :: ts.map fun _ => .dead
  | _=>False
 | .DR _ o n ts=>match vs with
  | .pt :: .ag cs :: x :: _=>x.plain=true∧x.cells.length=n∧o+n≤cs.length∧(∀t∈ts,(eK cs o x.cells)[t.1]?=some .nil)∧ws = .ag (kW (eK cs o x.cells) ts) :: ts.map fun _ => .dead
  | _=>False
 | .call f c=>(match c.ref with | some (i,_)=>vs[i]?=some .pt | none=>True)∧∃outs,(E.fs f).G (c.ins vs) outs∧outs.length=c.bQ+c.jt.length∧ws=c.main outs :: (outs.drop c.bQ++c.mC.map fun _ => .dead)
end
def Gh.strip:Gh→Gh
 | .cl _ | .live _ | .used | .pv _ | .ni _ _ | .pc _ => .no
 | g=>g
def Gh.comp (i:Nat):Gh→Gh
 | .yb ts p=>match ts.find? (fun t=>t.1 == i) with
  | some (_,k,s) => .cD k s
  | none=>match p with
   | some (j,m)=>if j=i then .ptr m 0 else .no
   | none => .no
 | _ => .no
def dw (k : K) (gs : List Gh) : Option (List Gh) :=
  match k with
  | .mv => match gs with
    | [g] => some [g.strip]
    | _ => none
  | .ex i => match gs with
    | [g] => some [g.comp i]
    | _ => none
  | .Ju k => match gs with
    | [_, .no] => some [.cD k 1, .live 1]
    | _ => none
  | .blt s n k => if gs.drop n = [.no] then some [.cD k s, .live s] else none
  | .al m _ ts => if gs.length = 1 + ts.length ∧ gs.all (· = .no) ∧ (ts.map (·.2.1)).Nodup then some (.ptr m 0 :: .cl ts :: ts.map fun t => .live t.2.2) else none
  | .bx m => match gs with
    | [_, .no] => some [.ptr m 0, .cl []]
    | _ => none
  | .pU _ n _ i m => match gs[n]? with
    | some (.cl _) => if gs[i]? = some (.ptr m 0) then some [.no] else none
    | _ => none
  | .M1 b => some (if b then [.no] else [])
  | .DV m ts => match gs with
    | _ :: rest => if rest.length = 1 + ts.length ∧ rest.all (· = .no) ∧ (ts.map (·.2.1)).Nodup then some (.ptr m 0 :: .cl ts :: ts.map fun t => .live t.2.2) else none
    | _ => none
  | .DR m o n ts => match gs with
    | .ptr m' o' :: .cl us :: _ :: rest => if m = m' ∧ o = o' ∧ rest.length = ts.length ∧ rest.all (· = .no) ∧ (ts.map (·.2.1)).Nodup then some (.cl (us.filter (fun t => t.1 < o || o + n ≤ t.1) ++ ts) :: ts.map fun t => .live t.2.2) else none
    | _ => none
  | .ld m o _ agg => match gs with
    | [.ptr m' o', .cl ts] => if m = m' ∧ o = o' then some [if agg then .no else match ts.find? (fun t => t.1 == o) with | some (_, k, s) => .cD k s | none => .no] else none
    | _ => none
  | .st m o n => match gs with
    | [.ptr m' o', .cl ts, g] => if m = m' ∧ o = o' then some [.cl (ts.filter (fun t => t.1 < o || o + n ≤ t.1) ++ match g with | .cD k s => if n = 1 then [(o, k, s)] else [] | _ => [])] else none
    | _ => none
  | .fa m o d => match gs with
    | [.ptr m' o'] => if m = m' ∧ o = o' then some [.ptr m (o + d)] else none
    | _ => none
  | .nc m o => match gs with
    | [.ptr m' o'] => if m = m' ∧ o = o' then some [.ptr m o] else none
    | _ => none
  | .ap k d s _ => match gs with
    | [.cD k' s', _, .live mc, .no] => if k = k' ∧ s = s' ∧ s = mc ∧ k ≠ d then some [.cD d s, .used, .live s] else none
    | _ => none
  | .Ku k d _ => match gs with
    | [.cD k' s', _, .live mc, .no] => if k = k' ∧ 1 = s' ∧ 1 = mc ∧ k ≠ d then some [.cD d 1, .used, .live 1] else none
    | _ => none
  | .an d s _ => match gs with
    | [_, .no] => some [.cD d s, .live s]
    | _ => none
  | .Kw d _ => match gs with
    | [_, .no] => some [.cD d 1, .live 1]
    | _ => none
  | .mk d s _ _ => match gs with
    | [_, _, .no] => some [.cD d s, .live s]
    | _ => none
  | .nl d s => match gs with
    | [.no] => some [.cD d s, .live s]
    | _ => none
  | .C1 d s => match gs with
    | [.no] => some [.cD d s, .pv s]
    | _ => none
  | .H7 k => match gs with
    | [_, .no] => some [.cD k 1, .pv 1]
    | _ => none
  | .yO k => match gs with
    | [.cD k' _, .pv _] => if k' = k then some [.no] else none
    | _ => none
  | .lU k s => match gs with
    | [.cD k' _, _, .pv s'] => if k' = k ∧ s' = s then some [.pe k] else none
    | _ => none
  | .K2 k _ => match gs with
    | [.pe k'] => if k' = k then some [.pe k] else none
    | _ => none
  | .rY k s _ _ => match gs with
    | [.pe k', .pv s'] => if k' = k ∧ s' = s then some [.no] else none
    | _ => none
  | .sT k s _ => match gs with
    | [.pe k', .pv s', _] => if k' = k ∧ s' = s then some [.pv s] else none
    | _ => none
  | .sU k s => match gs with
    | [.cD k' _, .pv s'] => if k' = k ∧ s' = s then some [.cD k s, .cD k s, .live s] else none
    | _ => none
  | .pW _ n _ i k s => if gs[i]? = some (.cD k s) ∧ (gs[n]? = some (.pv s) ∨ gs[n]? = some (.pc s)) then some [.no] else none
  | .yY k s _ _ => match gs with
    | [_, _, .no] => some [.cD k s, .pv s]
    | _ => none
  | .DJ s n k => if gs.drop n = [.no] then some [.cD k s, .pv s] else none
  | .H8 k d s => match gs with
    | [.cD k' s', _, .pv mc, .no] => if k' = k ∧ s' = s ∧ mc = s ∧ k ≠ d then some [.cD d s, .used, .pv s] else none
    | _ => none
  | .B0 k d s _ => match gs with
    | [.cD k' s', _, .pv mc, .no] => if k' = k ∧ s' = s ∧ mc = s ∧ k ≠ d then some [.cD d s, .used, .pv s] else none
    | _ => none
  | .ls m _ => match gs with
    | [.pm m', .cl ts, _] => if m' = m ∧ ts = [] then some [.cl []] else none
    | _ => none
  | .nP _ n k => if gs.drop n = [.no] then some [.cD k 1, .pv 1] else none
  | .oY _ n _ i k s => if gs[i]? = some (.cD k s) ∧ gs.drop n = [.pv s] then some [.no, .used] else none
  | .nN _ n i k s => if gs[i]? = some (.cD k s) ∧ gs.drop n = [.pv s] then some [.no, .pv s] else none
  | .mg _ n i k d => if gs[i]? = some (.cD k 1) ∧ gs.drop n = [.pv 1, .no] ∧ k ≠ d then some [.cD d 1, .used, .pv 1] else none
  | .Jy k d s _ => match gs with
    | [.cD k' s', _, .pv mc, .no] => if k' = k ∧ s' = s ∧ mc = s ∧ k ≠ d then some [.cD d s, .ni (lk d) s, .pc s] else none
    | _ => none
  | .K1 k => match gs with
    | [.cD k' _, .pv _] => if k' = k then some [.no] else none
    | _ => none
  | .Kv k d q s _ => match gs with
    | [.cD k' s', .cD q' s1, .live mc, .no, .pv s2] => if k = k' ∧ s = s' ∧ s = mc ∧ k ≠ d ∧ q' = q ∧ s1 = s ∧ s2 = s then some [.cD d s, .used, .live s] else none
    | _ => none
  | .Kt k d s _ => match gs with
    | [.cD k' s', _, .live mc, .no] => if k = k' ∧ s = s' ∧ s = mc ∧ k ≠ d then some [.cD d s, .used, .pv s] else none
    | _ => none
  | .JG k s => match gs with
    | [g, .cD k' _, .pv s'] => if k' = k ∧ s' = s then some [g.strip, .cD k s, .live s] else none
    | _ => none
  | .Js m o => match gs with
    | [.ptr m' o', .cl ts, .cD k s] => if m = m' ∧ o = o' then some [.cl (ts.filter (fun t => t.1 < o || o + 1 ≤ t.1) ++ [(o, k, s)])] else none
    | _ => none
  | .JH m o _ c k s => match gs with
    | [.ptr m' o', .cl ts, .pv s'] => if m = m' ∧ o = o' ∧ s = s' ∧ (c, k, s) ∈ ts then some [.no, .cl ts, .live s] else none
    | _ => none
  | .la m _ s => match gs with
    | [.ptr m' o, _, .cl _] => if m' = m ∧ o = 0 ∧ 0 < s then some [.pm m] else none
    | _ => none
  | .ll m _ => match gs with
    | [.pm m', .cl ts] => if m' = m ∧ ts = [] then some [.no] else none
    | _ => none
  | .call _ c =>
    let rest := gs.drop c.n
    let nm := rest.take (c.new.map (·.2)).toList.length
    let rm := (rest.drop nm.length).take (c.ref.map (·.2)).toList.length
    let ls := rest.drop (nm.length + rm.length)
    if nm.all (· = .no) ∧
       (match c.ref, rm with
        | some (i, m), [.cl ts] => decide (gs[i]? = some (.ptr m 0) ∧ i < c.n ∧ ∀ t ∈ c.ky, t ∈ ts)
        | none, [] => true
        | _, _ => false) = true ∧
       ls = c.ky.map (fun t => Gh.live t.2.2) ++ (c.gI ++ c.own ++ c.fL).map fun _ => Gh.no
    then some (c.dg :: (c.new.toList.map (fun _ => .cl c.fL) ++ c.ref.toList.map (fun _ => .cl c.gI) ++ c.ky.map (fun _ => .used) ++ (c.gI ++ c.own ++ c.fL).map fun t => .live t.2.2)) else none
  | _ => some [.no]
end Go.Eng
namespace Go.Eng
open Go.RowKit
structure kf where
 R:Reach
 β:Nat→Nat
 τ:Nat→Value
def iB (D:kf):Gh→Value→Prop
 | .ptr m o,x=>x = .pointer (some ⟨D.β m,o,none⟩)
 | .cD k _,x=>x=D.τ (lk k)∧x.oneCell'=true
 | .pe k,x=>∃g n cap o,D.τ (lk k) = .slice (some ⟨g,0,none⟩) n cap∧x = .pointer (some ⟨g,o,none⟩)
 | .pm m,x=>∃o,x = .pointer (some ⟨D.β m,o,none⟩)
 | .yb ts p,x=>∃ys:List Value,x = .tuple ⟨ys⟩∧(∀t∈ts,ys[t.1]?=some (D.τ (lk t.2.1))∧(D.τ (lk t.2.1)).oneCell'=true)∧(∀q,p=some q→ys[q.1]?=some (.pointer (some ⟨D.β q.2,0,none⟩)))
 | _,_=>True
abbrev AV.sk:AV := .tu []
def lR (D:kf) (w:World) (s:AV) (g:Gh) (x:Value):Prop:=s = .dead∨(Rep D.R w s x∧(s ≠ .sk→iB D g x))
def ft (R:Reach) (w:World) (x:Value) (s:Nat):Prop :=
 x = .slice none 0 0∨∃g n cap cur e fz,x = .slice (some ⟨g,0,none⟩) n cap∧w.heap[g]?=some (.cells cur e fz)∧(∀o,o<cur.size→¬(fz.1≤o∧o<fz.2))∧cur.size=cap * s∧n≤cap∧cap≤maxLen∧∀o,n * s≤o→¬R g o
def fQ (R:Reach) (w:World) (v:Value) (s:Nat) (x:AV):Prop :=
 (∀g,v.ownBlock=some g→∀o,¬R g o)∧(x = .dead∨∃es,x = .sl s es∧(∀e∈es,e.cells.length=s) ∧
  ((es=[]∧v = .slice none 0 0)∨∃g cap cur e fz,v = .slice (some ⟨g,0,none⟩) es.length cap∧w.heap[g]?=some (.cells cur e fz)∧dz R w (es.flatMap AV.cells) (cur.toList.take (es.length * s))))
def iU (R:Reach) (w:World) (x:AV) (b:Nat) (cs:List Value):Prop :=
 ∃elem,w.heap[b]?=some (.cells ⟨cs⟩ elem (0,0))∧(x = .dead∨∃DM,x = .ag DM∧dz R w DM (cs.take DM.length))∧∀o,¬R b o
structure Ext (w0:World) (R0:Reach) (io:Nat→Prop) (w:World) (R:Reach):Prop where
 os:w.os=w0.os
 tape:w.tape=w0.tape
 output:w.output=w0.output
 size:w0.heap.size≤w.heap.size
 heap:∀b,b<w0.heap.size→¬io b→w.heap[b]?=w0.heap[b]?
 bM:fu R0 w0 R w
 qE:∀b o,R b o→R0 b o∨w0.heap.size≤b∨io b
def eM (D:kf) (γ:Ga) (key:Nat):Option Nat :=
 match γ key with
 | .cl _=>some (D.β key)
 | .live _=>(D.τ key).ownBlock
 | .pv _=>(D.τ key).ownBlock
 | .ni _ _=>(D.τ key).ownBlock
 | .pc _=>(D.τ key).ownBlock
 | _=>none
structure Ctx where
 P:Program
 E:Env
 nt:Nat
 w0:World
 R0:Reach
 io:Nat→Prop
 fix:Option Nat
 Tr:Option Value
def Ctx.lp (C:Ctx) (b:Nat):Prop:=C.io b∨C.w0.heap.size≤b
def Gh.ff:Gh→Bool | .cl _=>true | _=>false
def Gh.eD:Gh→Bool | .live _=>true | .used=>true | .pv _=>true | .ni _ _=>true | .pc _=>true | _=>false
def eV (γ:Ga):Gh→Prop
 | .ptr m _=>(γ m).ff=true
 | .cD k _=>(γ (lk k)).eD=true
 | .cl ts=>∀t∈ts,(γ (lk t.2.1)).eD=true
 | .pe k=>(γ (lk k)).eD=true
 | .pm m=>(γ m).ff=true
 | .ni d _=>γ d = .used∨∃s,γ d = .pc s
 | .yb ts p=>(∀t∈ts,(γ (lk t.2.1)).eD=true)∧∀q,p=some q→(γ q.2).ff=true
 | _=>True
def Gh.tq:Gh→Bool | .pv _=>true | .ni _ _=>true | .pc _=>true | _=>false
def Gh.par:Gh→Option Nat | .ni d _=>some d | _=>none
def Gh.CU:Gh→Option Nat | .pv s=>some s | .ni _ s=>some s | .pc s=>some s | _=>none
def vl (σ:Sg) (γ:Ga) (key:Nat):Prop:=∀d s s',γ key = .ni d s→γ d = .pc s'→σ key = .dead∨σ d = .dead∨∃es more,σ key = .sl s es∧σ d = .sl s (es++more)
def BJ (D:kf) (σ:Sg) (γ:Ga) (w:World):Prop :=
 ∀key s,(γ key).CU=some s→ft D.R w (D.τ key) s∧fQ D.R w (D.τ key) s (σ key)∧vl σ γ key
def vm (C:Ctx) (D:kf) (γ:Ga):Prop:=(∀b,C.fix=some b→D.β 999999=b)∧∀v,C.Tr=some v→(γ (lk 999999)).tq=true∧D.τ (lk 999999)=v
theorem vm.of {C:Ctx} {D D':kf} {γ nY:Ga} (h:vm C D γ) (Db:D'.β 999999=D.β 999999) (hp:(γ (lk 999999)).tq=true→(nY (lk 999999)).tq=true∧D'.τ (lk 999999)=D.τ (lk 999999)):vm C D' nY :=
 ⟨fun b hb=>Db.trans (h.1 b hb),fun v hv=>by
  obtain ⟨h1,h2⟩:=h.2 v hv
  obtain ⟨h3,h4⟩:=hp h1
  exact ⟨h3,h4.trans h2⟩⟩
theorem vm.cI {C:Ctx} {D D':kf} {γ:Ga} {k:Nat} {g:Gh} (h:vm C D γ) (hk:(γ k).tq=false) (Db:D'.β 999999=D.β 999999) (pP:D'.τ (lk 999999)=D.τ (lk 999999)):vm C D' (Eng.cI γ k g) :=
 h.of Db fun hp=>by
  have:lk 999999≠k:=fun e=>by rw [e,hk] at hp;cases hp
  unfold Eng.cI
  rw [aE this]
  exact ⟨hp,pP⟩
structure cN (C:Ctx) (D:kf) (σ:Sg) (γ:Ga) (a:Act) (w:World):Prop where
 size:a.tmps.size=C.nt
 defers:a.defers=[]
 iG:C.nt≤1000000
 om:∀m,(γ m).ff=true→C.nt≤m∧m<1000000
 kU:∀m,(γ m).eD=true→1000000≤m
 slot:∀t,t<C.nt→lR D w (σ t) (γ t) (a.tmps.getD t undef)
 mem:∀m ts,γ m = .cl ts→∃cs,iU D.R w (σ m) (D.β m) cs∧∀t∈ts,cs[t.1]?=some (D.τ (lk t.2.1))
 cD:∀key s,γ key = .live s→ft D.R w (D.τ key) s
 ps:BJ D σ γ w
 sep:∀key gK g,eM D γ key=some g→eM D γ gK=some g→key=gK∨(γ key).par=some gK∨(γ gK).par=some key
 own:∀key g,eM D γ key=some g→C.lp g
 inv:∀key,eV γ (γ key)
 ext:Ext C.w0 C.R0 C.io w D.R
 j0:∀b o,D.R b o→b<w.heap.size
 gl:∀n,Rep D.R w (C.E.gl n) (.pointer (some ⟨n,0,none⟩))
 fix:vm C D γ
def kx (g:c7) (R:Reach) (w:World) (ins:List AV) (xs:List Value):Prop :=
 match g.ref with
 | none=>fo R w ins xs
 | some i=>∃(b:Nat) (cs:List Value) (x:AV) (tv:List Value),xs[i]?=some (.pointer (some ⟨b,0,none⟩))∧ins[i]?=some x∧iU R w x b cs∧fo R w (ins.set i .pt) xs ∧
   tv.length=g.fV.length∧(∀(p:Nat) (t:Nat × Nat) (v:Value),g.fV[p]?=some t→tv[p]?=some v→cs[t.1]?=some v∧ft R w v t.2) ∧
   (∀(p q h:Nat),(some b :: tv.map Value.ownBlock)[p]?=some (some h)→(some b :: tv.map Value.ownBlock)[q]?=some (some h)→p=q)
def nH (g:c7) (w:World) (xs:List Value) (c:Nat):Prop :=
 match g.ref with
 | none=>False
 | some i=>∃(b:Nat) (cs:List Value) (elem:TypeId),xs[i]?=some (.pointer (some ⟨b,0,none⟩))∧w.heap[b]?=some (.cells ⟨cs⟩ elem (0,0))∧(c=b∨∃t∈g.fV,∃v,cs[t.1]?=some v∧v.ownBlock=some c)
def kj (g:c7) (bn br:Nat) (tv:List Value):List (Option Nat) :=
 (if g.new.isSome then [some bn] else [])++(if g.ref.isSome then [some br] else [])++tv.map Value.ownBlock
def wH (g:c7) (R:Reach) (w:World) (lp:Nat→Prop) (xs:List Value) (outs:List AV) (x:Value):Prop :=
 ∃(rvs tr gg tn:List Value) (bn br:Nat) (cn cr:List Value),
  rvs.length=g.bQ∧x=(if g.bQ=1 then rvs.headD undef else .tuple ⟨rvs⟩) ∧
  outs.length=g.bQ+(if g.new.isSome then 1 else 0)+(if g.ref.isSome then 1 else 0) ∧
  fo R w ((outs.take g.bQ).mapIdx fun i y=>if g.new=some i then .pt else y) rvs ∧
  (∀j,g.new=some j→rvs[j]?=some (.pointer (some ⟨bn,0,none⟩))∧iU R w (outs.getD g.bQ .dead) bn cn) ∧
  (∀i,g.ref=some i→xs[i]?=some (.pointer (some ⟨br,0,none⟩))∧iU R w (outs.getD (g.bQ+(if g.new.isSome then 1 else 0)) .dead) br cr) ∧
  tr.length=g.fV.length∧gg.length=g.own.length∧tn.length=g.fL.length ∧
  (∀(p:Nat) (t:Nat × Nat) (v:Value),g.fV[p]?=some t→tr[p]?=some v→cr[t.1]?=some v) ∧
  (∀(p:Nat) (t:Nat × Nat) (v:Value),g.own[p]?=some t→gg[p]?=some v→rvs[t.1]?=some v) ∧
  (∀(p:Nat) (t:Nat × Nat) (v:Value),g.fL[p]?=some t→tn[p]?=some v→cn[t.1]?=some v) ∧
  (∀(p:Nat) (t:Nat × Nat) (v:Value),(g.fV++g.own++g.fL)[p]?=some t→(tr++gg++tn)[p]?=some v→ft R w v t.2) ∧
  (∀(p q h:Nat),(kj g bn br (tr++gg++tn))[p]?=some (some h)→(kj g bn br (tr++gg++tn))[q]?=some (some h)→p=q) ∧
  (∀h,some h∈kj g bn br (tr++gg++tn)→lp h)
def Qt (P:Program) (gl:Nat→AV) (f:Nat) (S:FS):Prop :=
 ∀(w:World) (R:Reach) (ins outs:List AV) (xs:List Value),S.G ins outs→(∀b o,R b o→b<w.heap.size) →
  (∀n,Rep R w (gl n) (.pointer (some ⟨n,0,none⟩)))→kx S.sg R w ins xs →
  Calls P f ⟨xs⟩ w fun e w'=>∃x R',e = .returned x∧Ext w R (nH S.sg w xs) w' R'∧(∀b o,R' b o→b<w'.heap.size) ∧
   wH S.sg R' w' (fun b=>nH S.sg w xs b∨w.heap.size≤b) xs outs x
def Qs (P:Program) (gl:Nat→AV) (f:Nat) (S:FS) (i s:Nat):Prop :=
 ∀(w:World) (R:Reach) (ins outs:List AV) (xs:List Value) (v:Value) (es:List AV),S.G ins outs→(∀b o,R b o→b<w.heap.size) →
  (∀n,Rep R w (gl n) (.pointer (some ⟨n,0,none⟩)))→xs[i]?=some v→ins[i]?=some (.sl s es)→ft R w v s→fQ R w v s (.sl s es)→fo R w (ins.set i .pt) xs →
  Calls P f ⟨xs⟩ w fun e w'=>∃x R' rvs,e = .returned x∧Ext w R (fun c=>v.ownBlock=some c) w' R'∧(∀b o,R' b o→b<w'.heap.size) ∧
   rvs.length=S.sg.bQ∧x=(if S.sg.bQ=1 then rvs.headD undef else .tuple ⟨rvs⟩)∧fo R' w' outs rvs∧ft R' w' v s∧fQ R' w' v s (.sl s es)
def Qv (P:Program) (gl:Nat→AV) (f:Nat) (S:FS) (i s:Nat):Prop :=
 ∀(w:World) (R:Reach) (ins outs:List AV) (xs:List Value) (v:Value) (es:List AV),S.G ins outs→(∀b o,R b o→b<w.heap.size) →
  (∀n,Rep R w (gl n) (.pointer (some ⟨n,0,none⟩)))→xs[i]?=some v→ins[i]?=some (.sl s es)→ft R w v s→fQ R w v s (.sl s es)→fo R w (ins.set i .pt) xs →
  Calls P f ⟨xs⟩ w fun e w'=>∃x R',e = .returned x∧Ext w R (fun c=>v.ownBlock=some c) w' R'∧(∀b o,R' b o→b<w'.heap.size) ∧
   wH S.sg R' w' (fun b=>v.ownBlock=some b∨w.heap.size≤b) xs outs x
def Qu (P:Program) (gl:Nat→AV) (f:Nat) (S:FS) (i s:Nat):Prop :=
 ∀(w:World) (R:Reach) (ins:List AV) (fs:List AV) (xs:List Value) (v:Value) (es:List AV),S.G ins [.sl s fs]→(∀b o,R b o→b<w.heap.size) →
  (∀n,Rep R w (gl n) (.pointer (some ⟨n,0,none⟩)))→xs[i]?=some v→ins[i]?=some (.sl s es)→es≠[]→ft R w v s→fQ R w v s (.sl s es)→fo R w (ins.set i .pt) xs →
  Calls P f ⟨xs⟩ w fun e w'=>e = .returned (.tuple ⟨[]⟩)∧w'.os=w.os∧w'.tape=w.tape∧w'.output=w.output∧w'.heap.size=w.heap.size∧(∀b,v.ownBlock≠some b→w'.heap[b]?=w.heap[b]?)∧ft R w' v s∧fQ R w' v s (.sl s fs)
def dK (P:Program) (gl:Nat→AV) (f:Nat) (S:FS):Prop :=
 (S.sg.ps=none→Qt P gl f S)∧∀i s,S.sg.ps=some (i,s)→(i<1000→Qs P gl f S i s)∧(1000≤i→(i<2000→Qv P gl f S (i - 1000) s)∧(2000≤i→Qu P gl f S (i - 2000) s))
inductive MX where
 | normal
 | exit (id:Nat)
 | ret
def mE (σ:Sg):Option (Nat × Bool)→Option Bool
 | none=>some true
 | some (t,b)=>match σ t with
  | .v (.bool x)=>some (x == b)
  | .tu []=>some false
  | _=>none
def Jt (E:Env) (m:pQ) (σ dC:Sg):Prop :=
 ∃ws,(match mE σ m.gd with
  | some true=>eo E m.k (m.rs.map (cR.ev E σ)) ws
  | some false=>ws=m.ds.map fun _ => .sk
  | none=>False)∧ws.length=m.ds.length∧dC=bP σ m.ds ws
def EC (E:Env):List pQ→Sg→Sg→Prop
 | [],σ,dC=>dC=σ
 | m :: ms,σ,dC=>∃Ap,Jt E m σ Ap∧EC E ms Ap dC
def head (bM:List Nat) (jJ:List AV):Sg:=bP (fun _ => .dead) bM jJ
def Jj (σ:Sg):List Nat→List AV→Prop
 | [],[]=>True
 | k :: ks,v :: vs=>σ k=v∧Jj σ ks vs
 | _,_=>False
def Le (dC σ:Sg):Prop:=∀k,dC k=σ k∨dC k = .dead
def oe (k k' j:Nat):Nat:=if j=lk k then lk k' else if j=lk k' then lk k else j
def DQ (k k' j:Nat):Nat:=if j=k then k' else if j=k' then k else j
def jL (k k':Nat):Gh→Gh
 | .cD j s => .cD (DQ k k' j) s
 | .cl ts => .cl (ts.map fun t=>(t.1,(DQ k k' t.2.1,t.2.2)))
 | .pe j => .pe (DQ k k' j)
 | .ni d s => .ni (oe k k' d) s
 | .yb ts p => .yb (ts.map fun t=>(t.1,(DQ k k' t.2.1,t.2.2))) p
 | g=>g
def AF {X:Type} (k k':Nat) (σ:Nat→X):Nat→X:=fun j=>σ (oe k k' j)
def pN (E:Env):M→(MX→Sg→Prop)→Sg→Prop
 | .skip,Q,σ=>Q .normal σ
 | .eY ms,Q,σ=>∃dC,EC E ms σ dC∧Q .normal dC
 | .seq a b,Q,σ=>pN E a (fun e dC=>match e with | .normal=>∃Hs,Le Hs dC∧pN E b Q Hs | e=>Q e dC) σ
 | .cond x _ a b,Q,σ=>(∃t,x.ev E σ = .v (.bool t)∧(t=true→pN E a Q σ)∧(t=false→pN E b Q σ))∨(x.ev E σ = .ab∧pN E a Q σ∧pN E b Q σ)
 | .block id _ b,Q,σ=>pN E b (fun e dC=>match e with | .exit j=>if j=id then Q .normal dC else Q (.exit j) dC | e=>Q e dC) σ
 | .loop bM _ b,Q,σ=>∃(ι:Type) (jJ:ι→List AV) (μ:ι→Nat) (i0:ι),Jj σ bM (jJ i0) ∧
   ∀i,pN E b (fun e dC=>match e with | .normal=>∃j,μ j<μ i∧Jj dC bM (jJ j) | e=>Q e dC) (head bM (jJ i))
 | .exit id,Q,σ=>Q (.exit id) σ
 | .ret,Q,σ=>Q .ret σ
 | .sw k k' b,Q,σ=>pN E b (fun e dC=>match e with | .normal=>Q .normal (AF k k' dC) | e=>Q e dC) σ
 | .Hx b,Q,σ=>pN E b Q σ
 | .Hw b,Q,σ=>pN E b Q σ
 | .Hy l bM _ r b,Q,σ=>∃(ι:Type) (jJ:ι→List AV) (μ:ι→Nat),
   pN E b (fun e dC=>match e with | .exit j=>if j=gid l then ∃i,Jj dC bM (jJ i) else Q (.exit j) dC | e=>Q e dC) σ ∧
   ∀i,pN E r (fun e dC=>match e with | .exit j=>if j=gid l then ∃k,μ k<μ i∧Jj dC bM (jJ k) else Q (.exit j) dC | e=>Q e dC) (head bM (jJ i))
abbrev GL:=List (Nat × Gh)
def GL.get (G:GL) (k:Nat):Gh:=match G with
 | [] => .no
 | (j,g) :: r=>if k=j then g else GL.get r k
def GL.bP:GL→List Nat→List Gh→GL
 | G,t :: ts,x :: xs=>(t,x) :: GL.bP G ts xs
 | G,_,_=>G
def HR (k k':Nat) (G:GL):GL:=G.map fun p=>(oe k k' p.1,jL k k' p.2)
def BS:Value→Value→Bool
 | .bool a,.bool b=>a == b
 | .int j a,.int k b=>j == k&&a == b
 | .float j a,.float k b=>j == k&&a == b
 | .complex j a b,.complex k c d=>j == k&&a == c&&b == d
 | .string a,.string b=>a.data.toList == b.data.toList
 | .func (.func f) a b,.func (.func g) c d=>f == g&&a.isEmpty&&b.isEmpty&&c.isEmpty&&d.isEmpty
 | .nilFunc,.nilFunc=>true
 | .nilIface,.nilIface=>true
 | .pointer none,.pointer none=>true
 | _,_=>false
def ja (x:Value) (y:AV):Bool :=
 match x,y with
 | .slice none 0 0,.sl _ []=>true
 | .slice none 0 0,.v (.slice none 0 0)=>true
 | .slice none 0 0,_=>false
 | x,.v z=>BS x z
 | _,_=>false
def fx:List Value→List AV→Bool
 | [],[]=>true
 | x :: xs,y :: ys=>ja x y&&fx xs ys
 | _,_=>false
def xR:Value→AV→Bool
 | .agg cs,.ag ys=>fx cs.toList ys
 | .agg _,_=>false
 | x,y=>ja x y
def bU:Operand→cR→Bool
 | .tmp t,.s u=>t == u
 | .const v,.c x=>xR v x
 | .func f,.c (.v (.func (.func g) a b))=>f == g&&a.isEmpty&&b.isEmpty
 | .global g,.g n=>g == n
 | _,_=>false
def bW:List Operand→List cR→Bool
 | [],[]=>true
 | x :: xs,y :: ys=>bU x y&&bW xs ys
 | _,_=>false
section
variable (P:Program)
def jU (t:TypeId):Option Bool:=(P.underlying t).map fun d=>match d with | .struct _=>true | .array _ _=>true | _=>false
def gZ (t:TypeId):Option Nat:=(P.info? t).map (·.size)
def jD (t:TypeId):Option TypeId:=(P.underlying t).bind fun d=>match d with | .slice e=>some e | _=>none
def mH (t:TypeId) (f:Nat):Option Field:=(P.underlying t).bind fun d=>match d with | .struct fs=>fs[f]? | _=>none
def jl (t:TypeId) (n:Nat) (agg:Bool):Bool:=gZ P t == some n&&jU P t == some agg&&(agg || n == 1)
def nZ (t:TypeId) (z:List AV):Bool:=((P.info? t).bind (·.zero)).any fun v=>fx v.cells.toList z
def xp (t:TypeId) (k:IntKind):Bool:=match P.underlying t with | some (.int j)=>j == k | _=>false
def xr (t:TypeId):Bool:=match P.underlying t with | some .bool=>true | _=>false
def jS (t:TypeId):Bool:=match P.underlying t with | some .string=>true | _=>false
def iD (t:TypeId) (s b:Nat):Bool:=(jD P t).any fun e=>(P.info? e).any (fun i=>i.size == s&&i.bytes == b&&i.zero.any fun z=>z.cells.size == s)&&decide (0<s)
def mS (t:TypeId) (s:Nat):Bool:=(jD P t).any fun e=>gZ P e == some s&&decide (0<s)
def kJ (t:TypeId) (s:Nat):Bool:=(jD P t).any fun e=>(P.info? e).any (fun i=>i.size == s&&i.zero.isSome)&&decide (0<s)
def jT (t:TypeId):Bool:=(jD P t).any fun e=>xp P e .u8
def th (t:TypeId):Bool:=match P.underlying t with
 | some (.struct fs)=>fs.toList.all fun f=>(gZ P f.type).isSome
 | some (.array _ e)=>(gZ P e).isSome
 | _=>false
def uI (t:TypeId) (pl:List (Nat × Nat)) (parts:List (Nat × Operand)):Bool :=
 th P t&&pl.length == parts.length&&(pl.zip parts).all fun (q,p) =>
  match P.underlying t with
  | some (.struct fs)=>(fs[p.1]?).any fun f=>f.offset == q.1&&gZ P f.type == some q.2
  | some (.array _ e)=>gZ P e == some q.2&&p.1 * q.2 == q.1
  | _=>false
def fI (f:Nat):Bool:=(P.funcs[f]?).any fun fn=>fn.body.isSome&&!(fn.name == "runtime.NumGoroutine")
def nI:String:=((Extern.BytealgIndexByte.rows[1]?).map Prod.fst).getD ""
def nf (f:Nat) (nm:String):Bool:=(P.funcs[f]?).any fun fn=>fn.name == nm&&fn.body.isNone&&(fn.origin == "" || fn.origin == nm)
def ee (sg:Nat→c7) (o:Oper) (m:pQ):Bool :=
 match m.k with
 | .mv=>match o.op,m.rs with
  | .move x,rs=>bW [x] rs
  | .assign x,rs=>bW [x] rs
  | _,_=>false
 | .nl _ _=>match o.op,m.rs with
  | .move (.const (.slice none 0 0)),[_]=>true
  | .assign (.const (.slice none 0 0)),[_]=>true
  | _,_=>false
 | .C1 _ _=>match o.op,m.rs with
  | .move (.const (.slice none 0 0)),[_]=>true
  | .assign (.const (.slice none 0 0)),[_]=>true
  | _,_=>false
 | .pick=>match o.op,m.rs with
  | .pick c a b,rs=>bW [c,a,b] rs
  | _,_=>false
 | .bin b=>match o.op,m.rs with
  | .binOp b' _ x y _,rs=>b == b'&&bW [x,y] rs
  | _,_=>false
 | .be neg=>match o.op,m.rs with
  | .binOp o' t x y _,rs=>xr P t&&o' == (if neg then .neq else .eql)&&bW [x,y] rs
  | _,_=>false
 | .un b=>match o.op,m.rs with
  | .unOp b' _ x,rs=>b == b'&&bW [x] rs
  | _,_=>false
 | .ci k=>match o.op,m.rs with
  | .convert s d x,rs=>xp P d k&&(P.underlying s).isSome&&bW [x] rs
  | _,_=>false
 | .cs=>match o.op,m.rs with
  | .convert s d x,rs=>jS P s&&jS P d&&bW [x] rs
  | _,_=>false
 | .sb=>match o.op,m.rs with
  | .convert s d x,rs=>jS P s&&jT P d&&bW [x] rs
  | _,_=>false
 | .Ju _=>match o.op,m.rs with
  | .convert s d x,r :: _=>jS P s&&jT P d&&bU x r
  | _,_=>false
 | .bs=>match o.op,m.rs with
  | .convert s d x,rs=>jT P s&&jS P d&&bW [x] rs
  | _,_=>false
 | .len=>match o.op,m.rs with
  | .call { callee := .builtin .len,args,argTypes },rs=>argTypes.toList.length == 1&&argTypes.toList.all (fun t=>(jD P t).isSome)&&args.toList.length == 1&&bW args.toList rs
  | _,_=>false
 | .vn=>match o.op,m.rs with
  | .call { callee := .builtin .len,args,argTypes },rs=>argTypes.toList.length == 1&&argTypes.toList.all (fun t=>jS P t)&&args.toList.length == 1&&bW args.toList rs
  | _,_=>false
 | .mn=>match o.op,m.rs with
  | .call { callee := .builtin .min,args,.. },rs=>args.toList.length == 2&&bW args.toList rs
  | _,_=>false
 | .mx=>match o.op,m.rs with
  | .call { callee := .builtin .max,args,.. },rs=>args.toList.length == 2&&bW args.toList rs
  | _,_=>false
 | .ix s=>match o.op,m.rs with
  | .indexAddr t x i,rs=>mS P t s&&bW [x,i] rs
  | _,_=>false
 | .si=>match o.op,m.rs with
  | .index t x i,rs=>jS P t&&bW [x,i] rs
  | _,_=>false
 | .ai n s agg=>match o.op,m.rs with
  | .index t x i,rs=>(match P.underlying t with | some (.array n' e)=>n == n'&&jl P e s agg | _=>false)&&bW [x,i] rs
  | _,_=>false
 | .fe o' n agg=>match o.op,m.rs with
  | .field t x f,rs=>(mH P t f).any (fun fl=>fl.offset == o'&&jl P fl.type n agg)&&bW [x] rs
  | _,_=>false
 | .sc s lo hi=>match o.op,m.rs with
  | .slice t x l h none,rs=>mS P t s&&l.isSome == lo&&h.isSome == hi&&bW (x :: (l.toList++h.toList)) rs
  | _,_=>false
 | .ss lo hi=>match o.op,m.rs with
  | .slice t x l h none,rs=>jS P t&&l.isSome == lo&&h.isSome == hi&&bW (x :: (l.toList++h.toList)) rs
  | _,_=>false
 | .bl s n=>match o.op,m.rs with
  | .buildSlice t len parts,rs=>kJ P t s&&len == n&&decide (n * s≤2 ^ 24)&&parts.toList.map (·.1) == List.range n&&bW (parts.toList.map (·.2)) rs
  | _,_=>false
 | .blt s n _=>match o.op,m.rs with
  | .buildSlice t len parts,rs=>kJ P t s&&len == n&&decide (n * s≤2 ^ 24)&&parts.toList.map (·.1) == List.range n&&bW (parts.toList.map (·.2)) (rs.take n)&&rs.length == n+1
  | _,_=>false
 | .bd z pl=>match o.op,m.rs with
  | .build t parts,rs=>nZ P t z&&uI P t pl parts.toList&&bW (parts.toList.map (·.2)) rs
  | _,_=>false
 | .al _ z ts=>match o.op,m.rs with
  | .alloc t,_=>nZ P t z&&ts.all fun q=>match z[q.1]? with | some (.sl _ [])=>true | _=>false
  | _,_=>false
 | .bx _=>match o.op,m.rs with
  | .box _ x,r :: _=>bU x r
  | _,_=>false
 | .ld _ _ n agg=>match o.op,m.rs with
  | .load t x,r :: _=>jl P t n agg&&bU x r
  | _,_=>false
 | .st _ _ n=>match o.op,m.rs with
  | .store t x v,[p,_,r]=>gZ P t == some n&&bU x p&&bU v r
  | _,_=>false
 | .lr n agg=>match o.op,m.rs with
  | .load t x,[r]=>jl P t n agg&&bU x r
  | _,_=>false
 | .fa _ _ d=>match o.op,m.rs with
  | .fieldAddr t x f,[r]=>(mH P t f).any (fun fl=>fl.offset == d&&(gZ P fl.type).any (fun n=>decide (0<n)))&&bU x r
  | _,_=>false
 | .fr d n agg=>match o.op,m.rs with
  | .fieldAddr t x f,[r]=>(mH P t f).any (fun fl=>fl.offset == d&&jl P fl.type n agg&&decide (0<n))&&bU x r
  | _,_=>false
 | .nc _ _=>match o.op,m.rs with
  | .nilCheck x,[r]=>bU x r
  | _,_=>false
 | .Oe=>match o.op,m.rs with
  | .nilCheck x,[r]=>bU x r
  | _,_=>false
 | .ex i=>match o.op,m.rs with
  | .extract x j,[r]=>i == j&&bU x r
  | _,_=>false
 | .ap _ _ s b=>match o.op,m.rs with
  | .call { callee := .builtin .append,args,argTypes },[r,q,_,_]=>bW args.toList [r,q]&&argTypes.toList.length == 2&&argTypes.toList.all (fun t=>iD P t s b)
  | _,_=>false
 | .Ku _ _ b=>match o.op,m.rs with
  | .call { callee := .builtin .append,args,argTypes },[r,q,_,_]=>bW args.toList [r,q]&&(match argTypes.toList with | [t,u]=>iD P t 1 b&&jT P t&&jS P u | _=>false)
  | _,_=>false
 | .an _ s b=>match o.op,m.rs with
  | .call { callee := .builtin .append,args,argTypes },[q,_]=>(match args.toList with | [.const (.slice none 0 0),x]=>bU x q | _=>false)&&argTypes.toList.length == 2&&argTypes.toList.all (fun t=>iD P t s b)
  | _,_=>false
 | .Kw _ b=>match o.op,m.rs with
  | .call { callee := .builtin .append,args,argTypes },[q,_]=>(match args.toList with | [.const (.slice none 0 0),x]=>bU x q | _=>false)&&(match argTypes.toList with | [t,u]=>iD P t 1 b&&jT P t&&jS P u | _=>false)
  | _,_=>false
 | .mk _ s b z=>match o.op,m.rs with
  | .makeSlice t l c,[r,q,_]=>iD P t s b&&bW [l,c] [r,q]&&(jD P t).any (fun e=>nZ P e z.cells&&jU P e == some z.pO)
  | _,_=>false
 | .H7 _=>match o.op,m.rs with
  | .convert s d x,r :: _=>jS P s&&jT P d&&bU x r
  | _,_=>false
 | .yO _=>match o.op,m.rs with
  | .call { callee := .builtin .len,args,argTypes },r :: _=>argTypes.toList.length == 1&&argTypes.toList.all (fun t=>(jD P t).isSome)&&bW args.toList [r]
  | _,_=>false
 | .lU _ s=>match o.op,m.rs with
  | .indexAddr t x i,[r,q,_]=>mS P t s&&bW [x,i] [r,q]
  | _,_=>false
 | .K2 _ d=>match o.op,m.rs with
  | .fieldAddr t x f,[r]=>(mH P t f).any (fun fl=>fl.offset == d&&(gZ P fl.type).any (fun n=>decide (0<n)))&&bU x r
  | _,_=>false
 | .rY _ _ n agg=>match o.op,m.rs with
  | .load t x,r :: _=>jl P t n agg&&bU x r
  | _,_=>false
 | .sT _ _ n=>match o.op,m.rs with
  | .store t x v,[p,_,r]=>gZ P t == some n&&bU x p&&bU v r
  | _,_=>false
 | .sU _ _=>match o.op,m.rs with
  | .move x,[r,_]=>bU x r
  | .assign x,[r,_]=>bU x r
  | _,_=>false
 | .pW f n bQ i _ s=>match o.op,m.rs with
  | .call { callee := .value (.func g),args,.. },rs=>f == g&&fI P f&&decide ((sg f).ps=some (i,s)∧(sg f).bQ=bQ)&&bW args.toList (rs.take n)&&args.size == n&&decide (i<n∧i<1000)
  | _,_=>false
 | .qJ f n bQ i s=>match o.op,m.rs with
  | .call { callee := .value (.func g),args,.. },rs=>f == g&&fI P f&&decide ((sg f).ps=some (i,s)∧(sg f).bQ=bQ)&&bW args.toList rs&&args.size == n&&decide (i<1000) &&
    (match args.toList[i]? with | some (.const (.slice none 0 0))=>true | _=>false)
  | _,_=>false
 | .Jy _ _ s b=>match o.op,m.rs with
  | .call { callee := .builtin .append,args,argTypes },[r,q,_,_]=>bW args.toList [r,q]&&argTypes.toList.length == 2&&argTypes.toList.all (fun t=>iD P t s b)
  | _,_=>false
 | .K1 _=>match o.op,m.rs with
  | .binOp .eql t x (.const (.slice none 0 0)) _,[r,_]=>bU x r&&(jD P t).isSome
  | _,_=>false
 | .Kv _ _ _ s b=>match o.op,m.rs with
  | .call { callee := .builtin .append,args,argTypes },[r,q,_,_,_]=>bW args.toList [r,q]&&argTypes.toList.length == 2&&argTypes.toList.all (fun t=>iD P t s b)
  | _,_=>false
 | .Kt _ _ s b=>match o.op,m.rs with
  | .call { callee := .builtin .append,args,argTypes },[r,q,_,_]=>bW args.toList [r,q]&&argTypes.toList.length == 2&&argTypes.toList.all (fun t=>iD P t s b)
  | _,_=>false
 | .JG _ _=>match o.op,m.rs with
  | .move x,[r,_,_]=>bU x r
  | .assign x,[r,_,_]=>bU x r
  | _,_=>false
 | .Js _ _=>match o.op,m.rs with
  | .store t x v,[p,_,r]=>gZ P t == some 1&&bU x p&&bU v r
  | _,_=>false
 | .JH _ _ n _ _ _=>match o.op,m.rs with
  | .load t x,r :: _=>jl P t n true&&bU x r
  | _,_=>false
 | .rl=>match o.op,m.rs with
  | .call { callee := .builtin .real,args,.. },rs=>bW args.toList rs&&args.size == 1
  | _,_=>false
 | .im=>match o.op,m.rs with
  | .call { callee := .builtin .imag,args,.. },rs=>bW args.toList rs&&args.size == 1
  | _,_=>false
 | .cx=>match o.op,m.rs with
  | .call { callee := .builtin .complex,args,.. },rs=>bW args.toList rs&&args.size == 2
  | _,_=>false
 | .cf=>match o.op,m.rs with
  | .convert s d x,rs=>(P.underlying s).isSome&&(match P.underlying d with | some (.float .f64)=>true | _=>false)&&bW [x] rs
  | _,_=>false
 | .fc=>match o.op,m.rs with
  | .convert s d x,rs=>(P.underlying s).isSome&&(match P.underlying d with | some (.int .i64)=>true | _=>false)&&bW [x] rs
  | _,_=>false
 | .MW=>match o.op,m.rs with
  | .call { callee := .value (.func g),args,.. },rs=>nf P g "math.archTrunc" && bW args.toList rs&&args.size == 1
  | _,_=>false
 | .yY _ s b z=>match o.op,m.rs with
  | .makeSlice t l c,[r,q,_]=>iD P t s b&&bW [l,c] [r,q]&&(jD P t).any (fun e=>nZ P e z.cells&&jU P e == some z.pO)
  | _,_=>false
 | .DJ s n _=>match o.op,m.rs with
  | .buildSlice t len parts,rs=>kJ P t s&&len == n&&decide (n * s≤2 ^ 24)&&parts.toList.map (·.1) == List.range n&&bW (parts.toList.map (·.2)) (rs.take n)&&rs.length == n+1
  | _,_=>false
 | .H8 _ _ s=>match o.op,m.rs with
  | .slice t x none (some u) none,[r,q,_,_]=>mS P t s&&bW [x,u] [r,q]
  | _,_=>false
 | .ls _ _=>match o.op,m.rs with
  | .store t x v,[p,_,r]=>gZ P t == some 1&&bU x p&&bU v r
  | _,_=>false
 | .nP f n _=>match o.op,m.rs with
  | .call { callee := .value (.func g),args,.. },rs=>f == g&&fI P f&&decide (sg f={ own:=[(0,1)] })&&bW args.toList (rs.take n)&&args.size == n
  | _,_=>false
 | .nN f n i _ s=>match o.op,m.rs with
  | .call { callee := .value (.func g),args,.. },rs=>f == g&&fI P f&&decide ((sg f).ps=some (2000+i,s))&&bW args.toList (rs.take n)&&args.size == n&&decide (i<n)
  | _,_=>false
 | .oY f n bQ i _ s=>match o.op,m.rs with
  | .call { callee := .value (.func g),args,.. },rs=>f == g&&fI P f&&decide ((sg f).ps=some (1000+i,s)∧(sg f).bQ=bQ∧(sg f).new=none∧(sg f).ref=none)&&bW args.toList (rs.take n)&&args.size == n&&decide (i<n∧i<1000)
  | _,_=>false
 | .mg f n i _ _=>match o.op,m.rs with
  | .call { callee := .value (.func g),args,.. },rs=>f == g&&fI P f&&decide (sg f={ ps:=some (1000+i,1),own:=[(0,1)] })&&bW args.toList (rs.take n)&&args.size == n&&decide (i<n∧i<1000)
  | _,_=>false
 | .B0 _ _ s b=>match o.op,m.rs with
  | .call { callee := .builtin .append,args,argTypes },[r,q,_,_]=>bW args.toList [r,q]&&argTypes.toList.length == 2&&argTypes.toList.all (fun t=>iD P t s b)
  | _,_=>false
 | .rq f n bQ=>match o.op,m.rs with
  | .call { callee := .value c,args,.. },r :: rs=>fI P f&&decide ((sg f).plain=true∧(sg f).bQ=bQ)&&bU c r&&bW args.toList rs&&args.size == n
  | _,_=>false
 | .la _ n s=>match o.op,m.rs with
  | .indexAddr t x i,[r,q,_]=>(match P.underlying t with | some (.array n' e)=>n' == n&&gZ P e == some s | _=>false)&&bW [x,i] [r,q]
  | _,_=>false
 | .ll _ _=>match o.op,m.rs with
  | .load t x,r :: _=>jl P t 1 false&&bU x r
  | _,_=>false
 | .M1 _=>true
 | .pU f n bQ i _=>match o.op,m.rs with
  | .call { callee := .value (.func g),args,.. },rs=>f == g&&fI P f&&decide ((sg f).plain=true∧(sg f).bQ=bQ)&&bW args.toList (rs.take n)&&args.size == n&&decide (i<n)
  | _,_=>false
 | .DV _ _=>match o.op,m.rs with
  | .box _ x,r :: _=>bU x r
  | _,_=>false
 | .DR _ o' n ts=>match o.op,m.rs with
  | .store t x v,r :: _ :: q :: _=>gZ P t == some n&&bU x r&&bU v q&&ts.all fun t=>decide (o'≤t.1∧t.1<o'+n)
  | _,_=>false
 | .Od=>match o.op,m.rs with
  | .binOp .eql t x (.const (.slice none 0 0)) _,[r]=>bU x r&&(jD P t).isSome
  | _,_=>false
 | .Ni=>match o.op,m.rs with
  | .call { callee := .value (.func g),args,.. },rs=>nf P g nI&&bW args.toList rs&&args.size == 2
  | _,_=>false
 | .call f c=>match o.op,m.rs with
  | .call { callee := .value (.func g),args,.. },rs=>f == g&&fI P f&&c.fits (sg f)&&bW args.toList (rs.take c.n)&&args.size == c.n
  | _,_=>false
def small (nt:Nat) (l:List Operand):Bool:=l.all fun x=>match x with | .tmp t=>decide (t<nt) | _=>true
def cq (nt:Nat) (dst:Option Nat) (m:pQ):Bool :=
 let slot:=fun x=>match x with | cR.s t=>some t | _=>none
 let tail:=fun (n:Nat) (ks:List Nat)=>m.rs.length == n+ks.length&&(m.rs.drop n).map slot == ks.map some
 let mr:=fun x=>decide (nt≤x)&&decide (x<1000000)
 let mn:=fun x=>decide (nt≤x)&&decide (x<999999)
 let nj:=fun (l:List Nat)=>match dst with | some d=>decide (d<nt)&&m.ds == d :: l | none=>false
 match m.k with
 | .al m0 _ ts=>mn m0&&tail 0 (m0 :: ts.map fun t=>lk t.2.1)&&nj (m0 :: ts.map fun t=>lk t.2.1)
 | .bx m0=>mn m0&&tail 1 [m0]&&nj [m0]
 | .pU _ n _ _ m0=>mr m0&&tail n [m0]&&nj []
 | .M1 b=>match b with | true=>nj [] | false=>dst.isNone&&m.ds == []
 | .DV m0 ts=>mn m0&&tail 1 (m0 :: ts.map fun t=>lk t.2.1)&&nj (m0 :: ts.map fun t=>lk t.2.1)
 | .DR m0 _ _ ts=>mr m0&&dst.isNone&&m.ds == m0 :: (ts.map fun t=>lk t.2.1)&&tail 3 (ts.map fun t=>lk t.2.1)&&(match m.rs with | _ :: .s t :: _=>t == m0 | _=>false)
 | .ld m0 _ _ _=>mr m0&&tail 1 [m0]&&nj []
 | .st m0 _ _=>mr m0&&dst.isNone&&m.ds == [m0]&&(match m.rs with | [_,.s t,_]=>t == m0 | _=>false)
 | .Ju k=>tail 1 [lk k]&&nj [lk k]
 | .blt _ n k=>tail n [lk k]&&nj [lk k]
 | .ap k d _ _=>tail 2 [lk k,lk d]&&nj [lk k,lk d]
 | .Ku k d _=>tail 2 [lk k,lk d]&&nj [lk k,lk d]
 | .an d _ _=>tail 1 [lk d]&&nj [lk d]
 | .Kw d _=>tail 1 [lk d]&&nj [lk d]
 | .mk d _ _ _=>tail 2 [lk d]&&nj [lk d]
 | .nl d _=>tail 0 [lk d]&&nj [lk d]
 | .C1 d _=>tail 0 [lk d]&&nj [lk d]
 | .H7 k=>tail 1 [lk k]&&nj [lk k]
 | .yO k=>tail 1 [lk k]&&nj []
 | .lU k _=>tail 2 [lk k]&&nj []
 | .rY k _ _ _=>tail 1 [lk k]&&nj []
 | .sT k _ _=>dst.isNone&&m.ds == [lk k]&&(match m.rs with | [_,.s t,_]=>t == lk k | _=>false)
 | .sU k _=>decide (k≠999999)&&tail 1 [lk k]&&(match m.rs with | .s j :: _=>decide (j<nt)&&nj [j,lk k] | _=>false)
 | .pW _ n _ _ k _=>tail n [lk k]&&nj []
 | .qJ _ n _ _ _=>m.rs.length == n&&nj []
 | .Jy k d _ _=>tail 2 [lk k,lk d]&&nj [lk k,lk d]
 | .K1 k=>tail 1 [lk k]&&nj []
 | .Kv k d q _ _=>tail 2 [lk k,lk d,lk q]&&nj [lk k,lk d]
 | .Kt k d _ _=>tail 2 [lk k,lk d]&&nj [lk k,lk d]
 | .JG k _=>decide (k≠999999)&&tail 2 [lk k]&&(match m.rs with | r :: .s j :: _=>decide (j<nt)&&(match r with | .s t=>t != j | _=>true)&&nj [j,lk k] | _=>false)
 | .Js m0 _=>mr m0&&dst.isNone&&m.ds == [m0]&&(match m.rs with | [_,.s t,_]=>t == m0 | _=>false)
 | .JH m0 _ _ _ k _=>decide (k≠999999)&&mr m0&&tail 1 [m0,lk k]&&nj [m0,lk k]
 | .la m0 _ _=>mr m0&&tail 2 [m0]&&nj []
 | .yY k _ _ _=>tail 2 [lk k]&&nj [lk k]
 | .DJ _ n k=>tail n [lk k]&&nj [lk k]
 | .B0 k d _ _=>decide (k≠999999)&&tail 2 [lk k,lk d]&&nj [lk k,lk d]
 | .H8 k d _=>decide (k≠999999)&&tail 2 [lk k,lk d]&&nj [lk k,lk d]
 | .ls m0 _=>mr m0&&dst.isNone&&m.ds == [m0]&&(match m.rs with | [_,.s t,_]=>t == m0 | _=>false)
 | .nP _ n k=>tail n [lk k]&&nj [lk k]
 | .oY _ n _ _ k _=>decide (k≠999999)&&tail n [lk k]&&nj [lk k]
 | .nN _ n _ k _=>decide (k≠999999)&&tail n [lk k]&&nj [lk k]
 | .mg _ n _ k d=>decide (k≠999999)&&tail n [lk k,lk d]&&nj [lk k,lk d]
 | .ll m0 _=>mr m0&&tail 1 [m0]&&nj []
 | .call _ c=>c.jt.all mr&&tail c.n (c.jt++c.mC)&&nj (c.jt++c.mC)&&decide ((c.jt++c.mC).Nodup)
 | _=>nj []
def tU (nt:Nat) (ops:Array Oper) (o:Oper) (m:pQ):Bool :=
 match o.guard,m.gd with
 | none,none=>true
 | some (j,b),some (t,b')=>b == b'&&decide (t<nt)&&(match (ops[j]?).bind (·.dst) with | some d=>d == t | none=>false)&&m.ds.length == 1&&o.dst.isSome
 | _,_=>false
def pQ.reads (m:pQ):List Nat:=m.rs.filterMap (fun x=>match x with | .s t=>some t | _=>none)++m.gd.toList.map (·.1)
def CA (m n:pQ):Bool:=m.ds.any (fun d=>n.reads.contains d || n.ds.contains d) || n.ds.any (fun d=>m.reads.contains d)
def tC (o:Oper):List Nat:=(o.after.toList.filter (Region.binds .any)).map (·.on)
def CC (ops:List Oper):List (List Nat) :=
 ops.foldl (fun acc o=>acc++[(tC o).flatMap fun e=>e :: (acc.getD e [])]) []
def I5 (ops:List Oper):Bool:=ops.zipIdx.all fun (o,i)=>(tC o).all fun e=>decide (e<i)
def xf (ops:List Oper) (ms:List pQ):Bool :=
 I5 ops&&(let b:=CC ops;ms.zipIdx.all fun (m,i)=>(ms.take i).zipIdx.all fun (n,j)=>!CA n m || (b.getD i []).contains j)
def kv {A B:Type} (f:A→B→Bool):List A→List B→Bool
 | [],[]=>true
 | a :: as,b :: bs=>f a b&&kv f as bs
 | _,_=>false
def EI (sg:Nat→c7) (nt:Nat) (ops:Array Oper) (draw:Bool) (ms:List pQ):Bool :=
 kv (fun o m=>ee P sg o m&&cq nt o.dst m&&tU nt ops o m&&small nt o.op.operands.toList) ops.toList ms&&(!draw || (P.follows .mixedOrders&&xf ops.toList ms))
def Kj (m:pQ) (G:GL):Option GL:=(dw m.k (m.rs.map (cR.gh G.get))).bind fun gs=>if gs.length=m.ds.length then some (GL.bP G m.ds gs) else none
def Dv:List pQ→GL→Option GL
 | [],G=>some G
 | m :: ms,G=>(Kj m G).bind (Dv ms)
def B4 (G H:GL):List (Nat × Nat) :=
 H.flatMap fun (k,h)=>match h,G.get k with
  | .cD i _,.cD j _=>[(i,j)]
  | .cl ts,.cl us=>ts.flatMap fun t=>match us.find? (fun u=>u.1 == t.1) with | some u=>[(t.2.1,u.2.1)] | none=>[]
  | .pv _,_=>[(k - 1000000,k - 1000000)]
  | _,_=>[]
def lh (G H:GL):Bool :=
 let ρ:=B4 G H
 let nm:=fun i=>(ρ.find? (fun p=>p.1 == i)).map (·.2)
 (!(G.get (lk 999999)).tq || (H.get (lk 999999)).tq)&&ρ.all (fun p=>ρ.all fun q=>(p.1 == q.1) == (p.2 == q.2)) &&
 H.all fun (k,h)=>match h,G.get k with
  | .no,_=>true
  | .ptr m o,.ptr m' o'=>m == m'&&o == o'&&(match H.get m with | .cl _=>true | _=>false)
  | .cD i s,.cD j s'=>s == s'&&nm i == some j&&(H.get (lk i)).eD
  | .cl ts,.cl us=>ts.all fun t=>(match us.find? (fun u=>u.1 == t.1) with | some u=>nm t.2.1 == some u.2.1&&t.2.2 == u.2.2 | none=>false)&&(H.get (lk t.2.1)).eD
  | .live s,_=>ρ.any fun p=>lk p.1 == k&&G.get (lk p.2) == .live s
  | .pv s,.pv s'=>s == s'&&ρ.any fun p=>lk p.1 == k&&p.1 == p.2
  | .pv s,.ni d s'=>s == s'&&!(H.get d).eD&&ρ.any fun p=>lk p.1 == k&&p.1 == p.2
  | .used,_=>decide (1000000≤k)
  | _,_=>false
mutual
def eO (sg:Nat→c7) (nt:Nat) (rt:GL→Bool):Code→M→GL→Option (Option GL × List (Nat × GL))
 | c,.sw k k' x,G=>if k≠999999∧k'≠999999 then (eO sg nt rt c x G).map fun r=>(r.1.map (HR k k'),r.2) else none
 | .skip,.skip,G=>some (some G,[])
 | .label _,.skip,G=>some (some G,[])
 | .region _ ops d,.eY ms,G=>if EI P sg nt ops d ms then (Dv ms G).map fun G'=>(some G',[]) else none
 | .seq a b,.seq x y,G=>(eO sg nt rt a x G).bind fun r=>match r.1 with
  | none=>some (none,r.2)
  | some G1=>(eO sg nt rt b y G1).map fun q=>(q.1,r.2++q.2)
 | .cond c a b,.cond x H y z,G=>if bU c x&&small nt [c] then (eO sg nt rt a y G).bind fun r=>(eO sg nt rt b z G).bind fun q =>
   match r.1,q.1 with
   | none,n=>some (n,r.2++q.2)
   | n,none=>some (n,r.2++q.2)
   | some A,some B=>if lh A H&&lh B H then some (some H,r.2++q.2) else none
  else none
 | .block i b,.block j H y,G=>if i=j∧i<1000000 then (eO sg nt rt b y G).bind fun r =>
   if (r.1.toList++(r.2.filter (·.1 == i)).map (·.2)).all (lh · H) then
    some (if r.1.isNone&&(r.2.filter (·.1 == i)).isEmpty then none else some H,r.2.filter (·.1 != i)) else none
  else none
 | .loop b,.loop bM H y,G=>if lh G H&&H.all (fun p=>bM.contains p.1 || decide (1000000≤p.1))&&decide bM.Nodup then
   (eO sg nt rt b y H).bind fun r=>if r.1.all (lh · H) then some (none,r.2) else none
  else none
 | .exit i,.exit j,G=>if i=j∧i<1000000 then some (none,[(i,G)]) else none
 | .goto l,.exit j,G=>if j=gid l then some (none,[(j,G)]) else none
 | .ret,.ret,G=>if rt G then some (none,[]) else none
 | .scope c,.Hx x,G=>(qm sg nt rt c x G).bind fun r=>if r.2.all (fun p=>decide (p.1<1000000)) then some r else none
 | _,_,_=>none
def qm (sg:Nat→c7) (nt:Nat) (rt:GL→Bool):Code→M→GL→Option (Option GL × List (Nat × GL))
 | c,.Hw b,G=>eO sg nt rt c b G
 | c,.Hy l _ H r b,G=>match findLabel c l with
  | some rest=>(eO sg nt rt rest r H).bind fun q=>(qm sg nt rt c b G).bind fun p =>
   if ((q.2++p.2).filter (·.1 == gid l)).all (fun x=>lh x.2 H)&&(q.1.isNone || p.1.isNone) then
    some (if q.1.isNone then p.1 else q.1,(q.2++p.2).filter (·.1 != gid l)) else none
  | none=>none
 | _,_,_=>none
end
end
end Go.Eng
namespace Go.Eng
open Go.RowKit
theorem bF {X:Type} (σ:Nat→X) (t:Nat) (x:X):cI σ t x t=x:=by simp [cI]
theorem bG {X:Type} (σ:Nat→X) {t k:Nat} (x:X) (h:k≠t):cI σ t x k=σ k:=by simp [cI,h]
theorem iU.lt {R:Reach} {w:World} {x:AV} {b:Nat} {cs:List Value} (h:iU R w x b cs):b<w.heap.size:=by
 obtain ⟨_,h,_⟩:=h
 exact (Array.getElem?_eq_some_iff.1 h).1
theorem iU.C0 {R:Reach} {w:World} {x:AV} {b:Nat} {cs:List Value} (h:iU R w x b cs):∀o,¬R b o:=h.elim fun _ h=>h.2.2
theorem iU.ag {R:Reach} {w:World} {DM:List AV} {b:Nat} {cs:List Value} (h:iU R w (.ag DM) b cs):∃elem,w.heap[b]?=some (.cells ⟨cs⟩ elem (0,0))∧dz R w DM (cs.take DM.length):=by
 obtain ⟨elem,h1,h2 | ⟨XQ,h2,h3⟩,_⟩:=h
 ·cases h2
 ·cases h2;exact ⟨elem,h1,h3⟩
theorem ft.lt {R:Reach} {w:World} {x:Value} {s g:Nat} (h:ft R w x s) (hg:x.ownBlock=some g):g<w.heap.size:=by
 rcases h with rfl | ⟨g',n,cap,cur,e,fz,rfl,h,_⟩
 ·simp [Value.ownBlock] at hg
 ·simp [Value.ownBlock] at hg;subst hg;exact (Array.getElem?_eq_some_iff.1 h).1
theorem iU.bM {R R':Reach} {w w':World} {x:AV} {b:Nat} {cs:List Value} (h:iU R w x b cs) (k:fu R w R' w') (hh:w'.heap[b]?=w.heap[b]?) (hr:∀o,¬R' b o):iU R' w' x b cs:=by
 obtain ⟨e,h1,h2,_⟩:=h
 exact ⟨e,hh.trans h1,h2.imp id (fun ⟨DM,h2,h3⟩=>⟨DM,h2,h3.mono k⟩),hr⟩
theorem ft.bM {R R':Reach} {w w':World} {x:Value} {s:Nat} (h:ft R w x s) (hh:∀g,x.ownBlock=some g→w'.heap[g]?=w.heap[g]?∧∀o,R' g o→R g o):ft R' w' x s:=by
 rcases h with rfl | ⟨g,n,cap,cur,e,fz,rfl,h1,h2,h3,h4,h5,h6⟩
 ·exact .inl rfl
 ·obtain ⟨e1,e2⟩:=hh g rfl
  exact .inr ⟨g,n,cap,cur,e,fz,rfl,e1.trans h1,h2,h3,h4,h5,fun o ho hr=>h6 o ho (e2 o hr)⟩
theorem iB.congr {D D':kf} {γ:Ga} {g:Gh} {x:Value} (hm:eV γ g) (Db:∀m,(γ m).ff=true→D'.β m=D.β m) (pP:∀k,(γ (lk k)).eD=true→D'.τ (lk k)=D.τ (lk k)) (h:iB D g x):iB D' g x:=by
 cases g with
 | ptr m o=>simp only [iB,eV] at *;rw [Db m hm];exact h
 | cD k s=>simp only [iB,eV] at *;rw [pP k hm];exact h
 | pe k=>simp only [iB,eV] at *;rw [pP k hm];exact h
 | pm m=>simp only [iB,eV] at *;rw [Db m hm];exact h
 | yb ts p =>
  simp only [iB,eV] at *
  obtain ⟨ys,h1,h2,h3⟩:=h
  exact ⟨ys,h1,fun t ht=>by rw [pP _ (hm.1 t ht)];exact h2 t ht,fun q hq=>by rw [Db _ (hm.2 q hq)];exact h3 q hq⟩
 | _=>trivial
theorem fQ.bM {R R':Reach} {w w':World} {v:Value} {s:Nat} {x:AV} (h:fQ R w v s x) (k:fu R w R' w') (hh:∀g,v.ownBlock=some g→w'.heap[g]?=w.heap[g]?∧∀o,R' g o→R g o):fQ R' w' v s x:=by
 refine ⟨fun g hg o hr=>h.1 g hg o ((hh g hg).2 o hr),h.2.imp id ?_⟩
 rintro ⟨es,e1,e2,e3⟩
 refine ⟨es,e1,e2,e3.imp id ?_⟩
 rintro ⟨g,cap,cur,e,fz,rfl,f1,f2⟩
 exact ⟨g,cap,cur,e,fz,rfl,(hh g rfl).1.trans f1,f2.mono k⟩
theorem BJ.bM {D D':kf} {σ dC:Sg} {γ nY:Ga} {w w':World} (h:BJ D σ γ w) (k:fu D.R w D'.R w')
  (hp:∀key,(nY key).tq=true→γ key=nY key∧dC key=σ key∧D'.τ key=D.τ key∧∀g,(D.τ key).ownBlock=some g→w'.heap[g]?=w.heap[g]?∧∀o,D'.R g o→D.R g o):BJ D' dC nY w':=by
 intro key s hk
 obtain ⟨e1,e2,e3,e4⟩:=hp key (by cases e:nY key <;> rw [e] at hk <;> simp [Gh.CU] at hk <;> rfl)
 have:=h key s ((congrArg Gh.CU e1).trans hk)
 rw [e2,e3]
 refine ⟨this.1.bM e4,this.2.1.bM k e4,fun d s1 s' h1 h2=>?_⟩
 obtain ⟨f1,f2,_,_⟩:=hp d (by rw [h2];rfl)
 rw [e2,f2]
 exact this.2.2 d s1 s' (e1.trans h1) (f1.trans h2)
theorem BJ.same {D D':kf} {σ dC:Sg} {γ nY:Ga} {w:World} (h:BJ D σ γ w) (hR:D'.R=D.R) (hp:∀key,(nY key).tq=true→γ key=nY key∧dC key=σ key∧D'.τ key=D.τ key):BJ D' dC nY w :=
 h.bM (hR ▸ fu.refl _ _) fun key hk=>⟨(hp key hk).1,(hp key hk).2.1,(hp key hk).2.2,fun _ _=>⟨rfl,fun o hr=>hR ▸ hr⟩⟩
theorem Gh.qI {g:Gh} {s:Nat} (h:g.CU=some s):g.tq=true:=by cases g <;> simp [Gh.CU] at h <;> rfl
theorem Gh.LP {g:Gh} (h:g.tq=true):g.eD=true∧g.ff=false:=by cases g <;> simp [Gh.tq] at h <;> exact ⟨rfl,rfl⟩
theorem Ext.refl (w:World) (R:Reach) (io:Nat→Prop):Ext w R io w R:=⟨rfl,rfl,rfl,Nat.le_refl _,fun _ _ _=>rfl,fu.refl _ _,fun _ _ h => .inl h⟩
theorem Ext.trans {w0 w1 w2:World} {R0 R1 R2:Reach} {io T6:Nat→Prop} (h:Ext w0 R0 io w1 R1) (k:Ext w1 R1 T6 w2 R2) (hi:∀b,T6 b→io b∨w0.heap.size≤b):Ext w0 R0 io w2 R2 where
 os:=k.os.trans h.os
 tape:=k.tape.trans h.tape
 output:=k.output.trans h.output
 size:=Nat.le_trans h.size k.size
 heap b hb hn:=(k.heap b (Nat.lt_of_lt_of_le hb h.size) (fun c=>by rcases hi b c with c | c <;> first | exact hn c | omega)).trans (h.heap b hb hn)
 bM:=h.bM.trans k.bM
 qE b o hr:=by
  rcases k.qE b o hr with r | r | r
  ·exact h.qE b o r
  ·exact .inr (.inl (Nat.le_trans h.size r))
  ·rcases hi b r with r | r
   ·exact .inr (.inr r)
   ·exact .inr (.inl r)
section
variable {C:Ctx} {D:kf} {σ:Sg} {γ:Ga} {a:Act} {w:World}
theorem fS {key:Nat} (h:(γ key).tq=true):eM D γ key=(D.τ key).ownBlock:=by
 unfold eM;cases hg:γ key <;> rw [hg] at h <;> first | cases h | rfl
theorem cN.Rk (h:cN C D σ γ a w) {key:Nat} (hp:(γ key).tq=true):∃s,(γ key).CU=some s∧ft D.R w (D.τ key) s∧fQ D.R w (D.τ key) s (σ key)∧vl σ γ key:=by
 cases hg:γ key <;> rw [hg] at hp <;> first | cases hp | skip
 all_goals exact ⟨_,rfl,h.ps key _ (by rw [hg];rfl)⟩
theorem cN.lt (h:cN C D σ γ a w) {key g:Nat} (hb:eM D γ key=some g):g<w.heap.size:=by
 cases hp:(γ key).tq with
 | true =>
  rw [fS hp] at hb
  obtain ⟨s,_,ht,_⟩:=h.Rk hp
  exact ht.lt hb
 | false =>
  unfold eM at hb
  split at hb
  ·rename_i ts hg
   cases hb
   obtain ⟨cs,hv,_⟩:=h.mem _ _ hg
   exact hv.lt
  ·rename_i s hg
   exact (h.cD _ _ hg).lt hb
  ·rename_i s hg;rw [hg] at hp;cases hp
  ·rename_i d s hg;rw [hg] at hp;cases hp
  ·rename_i s hg;rw [hg] at hp;cases hp
  ·cases hb
theorem cN.rR (h:cN C D σ γ a w) {key gK g:Nat} (hn:(γ key).tq=false) (h1:eM D γ key=some g) (h2:eM D γ gK=some g):key=gK:=by
 rcases h.sep key gK g h1 h2 with e | e | e
 ·exact e
 ·cases hg:γ key <;> rw [hg] at e hn <;> first | (cases hn;done) | (cases e;done)
 ·cases hg:γ gK <;> rw [hg] at e <;> first | (cases e;done) | skip
  cases e
  have:=h.inv gK
  rw [hg] at this
  rcases this with e | ⟨s,e⟩
  ·unfold eM at h1;rw [e] at h1;cases h1
  ·rw [e] at hn;cases hn
theorem gV {key:Nat} {ts:List (Nat × (Nat × Nat))} (h:γ key = .cl ts):eM D γ key=some (D.β key):=by simp [eM,h]
theorem gG {key s:Nat} (h:γ key = .live s):eM D γ key=(D.τ key).ownBlock:=by simp [eM,h]
theorem cN.world (h:cN C D σ γ a w) {w':World} {R':Reach} (os:w'.os=w.os) (tape:w'.tape=w.tape) (out:w'.output=w.output) (size:w.heap.size≤w'.heap.size)
  (hh:∀b,b<w.heap.size→((∃key,eM D γ key=some b)∨¬C.lp b)→w'.heap[b]?=w.heap[b]?) (bM:fu D.R w R' w')
  (new:∀b o,R' b o→D.R b o∨(C.lp b∧∀key,eM D γ key≠some b)) (lt:∀b o,R' b o→b<w'.heap.size):cN C { D with R:=R' } σ γ a w' where
 size:=h.size
 defers:=h.defers
 iG:=h.iG
 om:=h.om
 kU:=h.kU
 slot t ht:=(h.slot t ht).imp id fun ⟨r,g⟩=>⟨r.mono bM,by cases hg:γ t <;> rw [hg] at g <;> exact g⟩
 mem m ts hm:=by
  obtain ⟨cs,hv,ht⟩:=h.mem m ts hm
  refine ⟨cs,hv.bM bM (hh _ hv.lt (.inl ⟨m,gV hm⟩)) (fun o hr=>?_),ht⟩
  rcases new _ _ hr with r | ⟨_,r⟩
  ·exact hv.C0 o r
  ·exact r m (gV hm)
 cD key s hk:=(h.cD key s hk).bM fun g hg=>by
  have hb:eM D γ key=some g:=(gG hk).trans hg
  refine ⟨hh g (h.lt hb) (.inl ⟨key,hb⟩),fun o hr=>?_⟩
  rcases new _ _ hr with r | ⟨_,r⟩
  ·exact r
  ·exact (r key hb).elim
 ps:=h.ps.bM bM fun key hp=>⟨rfl,rfl,rfl,fun g hg=>by
  have hb:eM D γ key=some g:=(fS hp).trans hg
  refine ⟨hh g (h.lt hb) (.inl ⟨key,hb⟩),fun o hr=>?_⟩
  rcases new _ _ hr with r | ⟨_,r⟩
  ·exact r
  ·exact (r key hb).elim⟩
 sep:=h.sep
 own:=h.own
 inv:=h.inv
 ext:=by
  refine ⟨os.trans h.ext.os,tape.trans h.ext.tape,out.trans h.ext.output,Nat.le_trans h.ext.size size,fun b hb hn=>?_,h.ext.bM.trans bM,fun b o hr=>?_⟩
  ·exact (hh b (Nat.lt_of_lt_of_le hb h.ext.size) (.inr fun hm=>by rcases hm with hm | hm <;> first | exact hn hm | omega)).trans (h.ext.heap b hb hn)
  ·rcases new b o hr with r | ⟨r,_⟩
   ·exact h.ext.qE b o r
   ·rcases r with r | r
    ·exact .inr (.inr r)
    ·exact .inr (.inl r)
 j0:=lt
 gl n:=(h.gl n).mono bM
 fix:=h.fix
theorem cN.grow (h:cN C D σ γ a w) {w':World} {R':Reach} (os:w'.os=w.os) (tape:w'.tape=w.tape) (out:w'.output=w.output) (size:w.heap.size≤w'.heap.size)
  (hh:∀b,b<w.heap.size→w'.heap[b]?=w.heap[b]?) (sub:∀b o,D.R b o→R' b o) (new:∀b o,R' b o→D.R b o∨w.heap.size≤b) (lt:∀b o,R' b o→b<w'.heap.size):cN C { D with R:=R' } σ γ a w' :=
 h.world os tape out size (fun b hb _=>hh b hb) (fun b o hr=>⟨sub b o hr,World.cell?_of_block (w:=w) (hh b (h.j0 b o hr))⟩)
  (fun b o hr=>(new b o hr).imp id fun hb=>⟨.inr (Nat.le_trans h.ext.size hb),fun key hk=>by have:=h.lt hk;omega⟩) lt
theorem cN.drew (h:cN C D σ γ a w):cN C D σ γ a { w with drawn:=w.drawn+1 } :=
 h.grow (w':={ w with drawn:=w.drawn+1 }) (R':=D.R) rfl rfl rfl (Nat.le_refl _) (fun _ _=>rfl) (fun _ _ h=>h) (fun _ _ h => .inl h) h.j0
theorem Act.Gl (a:Act) (d t:Nat) (v:Value) (hd:d<a.tmps.size):(a.put (some d) v).tmps.getD t undef=if t=d then v else a.tmps.getD t undef:=by
 simp only [Act.put,Array.getD_eq_getD_getElem?,Array.getElem?_setIfInBounds]
 by_cases h:d=t
 ·subst h;simp [hd]
 ·simp [h,Ne.symm h]
theorem Act.size_put (a:Act) (d:Option Nat) (v:Value):(a.put d v).tmps.size=a.tmps.size:=by cases d <;> simp [Act.put]
theorem Act.Bs (a:Act) (d:Option Nat) (v:Value):(a.put d v).defers=a.defers:=by cases d <;> simp [Act.put]
theorem cN.Oc (h:cN C D σ γ a w) {d:Nat} (hd:d<C.nt):(γ d).ff=false∧(γ d).eD=false:=by
 constructor
 ·cases hc:(γ d).ff with
  | false=>rfl
  | true=>have:=(h.om d hc).1;omega
 ·cases hc:(γ d).eD with
  | false=>rfl
  | true=>have:=h.kU d hc;have:=h.iG;omega
theorem eV.yk {γ:Ga} {d:Nat} {g:Gh} (h1:(γ d).ff=false) (h2:(γ d).eD=false):∀{x:Gh},eV γ x→eV (cI γ d g) x:=by
 have hc:∀m,(γ m).ff=true→(cI γ d g m).ff=true:=fun m hm=>by
  by_cases e:m=d
  ·subst e;rw [h1] at hm;cases hm
  ·rw [bG _ _ e];exact hm
 have hl:∀m,(γ m).eD=true→(cI γ d g m).eD=true:=fun m hm=>by
  by_cases e:m=d
  ·subst e;rw [h2] at hm;cases hm
  ·rw [bG _ _ e];exact hm
 intro x hx
 cases x with
 | ptr m o=>exact hc m hx
 | cD k s=>exact hl _ hx
 | cl ts=>exact fun t ht=>hl _ (hx t ht)
 | yb ts p=>exact ⟨fun t ht=>hl _ (hx.1 t ht),fun q hq=>hc _ (hx.2 q hq)⟩
 | pe k=>exact hl _ hx
 | pm m=>exact hc m hx
 | ni k s =>
  have hk:k≠d:=fun e=>by subst e;rcases hx with e | ⟨s',e⟩ <;> rw [e] at h2 <;> cases h2
  simp only [eV,bG _ _ hk];exact hx
 | _=>trivial
theorem jo {γ:Ga} {d:Nat} {g:Gh} (h2:(γ d).tq=false) (g2:g.tq=false) (key:Nat):(cI γ d g key).par=(γ key).par:=by
 by_cases e:key=d
 ·subst e;rw [bF]
  have f:∀g:Gh,g.tq=false→g.par=none:=fun g h=>by cases g <;> first | rfl | cases h
  rw [f _ g2,f _ h2]
 ·rw [bG _ _ e]
theorem Gh.Fe {g:Gh} (h:g.eD=false):g.tq=false:=by cases g <;> first | rfl | cases h
theorem rr {D:kf} {γ:Ga} {d:Nat} {g:Gh} (h1:(γ d).ff=false) (h2:(γ d).eD=false) (g1:g.ff=false) (g2:g.eD=false) (key:Nat):eM D (cI γ d g) key=eM D γ key:=by
 unfold eM
 by_cases e:key=d
 ·subst e
  rw [bF]
  cases g <;> simp [Gh.ff,Gh.eD] at g1 g2 <;> cases hg:γ key <;> simp [hg,Gh.ff,Gh.eD] at h1 h2 <;> rfl
 ·rw [bG _ _ e]
theorem cN.put (h:cN C D σ γ a w) {d:Nat} (hd:d<C.nt) {s:AV} {g:Gh} {v:Value} (hs:lR D w s g v) (g1:g.ff=false) (g2:g.eD=false) (gm:eV γ g) :
  cN C D (cI σ d s) (cI γ d g) (a.put (some d) v) w:=by
 obtain ⟨h1,h2⟩:=h.Oc hd
 have eW:d<a.tmps.size:=by rw [h.size];exact hd
 have fO:∀m,C.nt≤m→m≠d:=fun m hm=>by omega
 have jf:∀m,(cI γ d g m).ff=true→m≠d:=fun m hm e=>by subst e;rw [bF,g1] at hm;cases hm
 have Pw:∀m,(cI γ d g m).eD=true→m≠d:=fun m hm e=>by subst e;rw [bF,g2] at hm;cases hm
 refine ⟨by rw [Act.size_put,h.size],by rw [Act.Bs,h.defers],h.iG,fun m hm=>?_,fun m hm=>?_,fun t ht=>?_,fun m ts hm=>?_,fun key s' hk=>?_,h.ps.same rfl (fun key hp=>?_),fun k k' g' hk jC=>?_,fun k g' hk=>?_,fun key=>?_,h.ext,h.j0,h.gl,h.fix.cI (Gh.Fe h2) rfl rfl⟩
 ·have e:=jf m hm;rw [bG _ _ e] at hm;exact h.om m hm
 ·have e:=Pw m hm;rw [bG _ _ e] at hm;exact h.kU m hm
 ·rw [Act.Gl _ _ _ _ eW]
  by_cases e:t=d
  ·subst e;rw [bF,bF,aG rfl];exact hs
  ·rw [bG _ _ e,bG _ _ e,aE e];exact h.slot t ht
 ·have e:=jf m (by rw [hm];rfl);rw [bG _ _ e] at hm ⊢;exact h.mem m ts hm
 ·have e:=Pw key (by rw [hk];rfl);rw [bG _ _ e] at hk;exact h.cD key s' hk
 ·have e:=Pw key (Gh.LP hp).1;rw [bG _ _ e,bG _ _ e];exact ⟨rfl,rfl,rfl⟩
 ·rw [rr h1 h2 g1 g2] at hk jC;rw [jo (Gh.Fe h2) (Gh.Fe g2),jo (Gh.Fe h2) (Gh.Fe g2)];exact h.sep k k' g' hk jC
 ·rw [rr h1 h2 g1 g2] at hk;exact h.own k g' hk
 ·by_cases e:key=d
  ·subst e;rw [bF];exact eV.yk h1 h2 gm
  ·rw [bG _ _ e];exact eV.yk h1 h2 (h.inv key)
theorem cN.dead (h:cN C D σ γ a w) {k:Nat} (hk:(γ k).ff=false):cN C D (cI σ k .dead) γ a w:=by
 refine ⟨h.size,h.defers,h.iG,h.om,h.kU,fun t ht=>?_,fun m ts hm=>?_,h.cD,fun key s hs=>?_,h.sep,h.own,h.inv,h.ext,h.j0,h.gl,h.fix⟩
 ·by_cases e:t=k
  ·subst e;rw [bF];exact .inl rfl
  ·rw [bG _ _ e];exact h.slot t ht
 ·have e:m≠k:=fun e=>by subst e;rw [hm] at hk;cases hk
  rw [bG _ _ e];exact h.mem m ts hm
 ·obtain ⟨h1,h2⟩:=h.ps key s hs
  have qU:vl (cI σ k .dead) γ key:=fun d s1 s' e1 e2=>by
   by_cases e:key=k
   ·subst e;rw [bF];exact .inl rfl
   ·by_cases e':d=k
    ·subst e';rw [bF];exact .inr (.inl rfl)
    ·rw [bG _ _ e,bG _ _ e'];exact h2.2 d s1 s' e1 e2
  by_cases e:key=k
  ·subst e;rw [bF];exact ⟨h1,⟨h2.1.1,.inl rfl⟩,qU⟩
  ·rw [bG _ _ e];exact ⟨h1,h2.1,qU⟩
theorem cN.kill (h:cN C D σ γ a w) {k s:Nat} (hk:γ k = .live s):cN C D σ (cI γ k .used) a w:=by
 have WH:=h.kU k (by rw [hk];rfl)
 have kO:∀m,(cI γ k .used m).eD=(γ m).eD:=fun m=>by
  by_cases e:m=k
  ·subst e;rw [bF,hk];rfl
  ·rw [bG _ _ e]
 have jf:∀m,(cI γ k .used m).ff=(γ m).ff:=fun m=>by
  by_cases e:m=k
  ·subst e;rw [bF,hk];rfl
  ·rw [bG _ _ e]
 have hm:∀g,eV γ g→eV (cI γ k .used) g:=fun g hg=>by
  cases g <;> simp only [eV,kO,jf] at hg ⊢ <;> first | exact hg | skip
  rename_i d s'
  have hd:d≠k:=fun e=>by subst e;rcases hg with e | ⟨mc,e⟩ <;> rw [hk] at e <;> cases e
  rw [bG _ _ hd];exact hg
 have hb:∀key g,eM D (cI γ k .used) key=some g→eM D γ key=some g:=fun key g hg=>by
  unfold eM at hg ⊢
  by_cases e:key=k
  ·subst e;rw [bF] at hg;cases hg
  ·rw [bG _ _ e] at hg;exact hg
 refine ⟨h.size,h.defers,h.iG,fun m hm=>h.om m (by rwa [jf] at hm),fun m hm=>h.kU m (by rwa [kO] at hm),fun t ht=>?_,fun m ts jI=>?_,fun key s' jC=>?_,h.ps.same rfl (fun key hp=>?_),fun p q g hp hq=>(by rw [jo (by rw [hk];rfl) rfl,jo (by rw [hk];rfl) rfl];exact h.sep p q g (hb p g hp) (hb q g hq)),fun p g hp=>h.own p g (hb p g hp),fun key=>?_,h.ext,h.j0,h.gl,h.fix.cI (by rw [hk];rfl) rfl rfl⟩
 ·have e:t≠k:=by have:=h.iG;omega
  rw [bG _ _ e];exact h.slot t ht
 ·have e:m≠k:=fun e=>by subst e;rw [bF] at jI;cases jI
  rw [bG _ _ e] at jI;exact h.mem m ts jI
 ·have e:key≠k:=fun e=>by subst e;rw [bF] at jC;cases jC
  rw [bG _ _ e] at jC;exact h.cD key s' jC
 ·have e:key≠k:=fun e=>by subst e;rw [bF] at hp;cases hp
  rw [bG _ _ e];exact ⟨rfl,rfl,rfl⟩
 ·by_cases e:key=k
  ·subst e;rw [bF];trivial
  ·rw [bG _ _ e];exact hm _ (h.inv key)
theorem cN.xg (h:cN C D σ γ a w) {k s:Nat} {v:Value} (hk:γ (lk k) = .no) (ht:ft D.R w v s) (hg:∀g,v.ownBlock=some g→C.lp g∧∀key,eM D γ key≠some g) :
  cN C { D with τ:=cI D.τ (lk k) v } σ (cI γ (lk k) (.live s)) a w:=by
 have pP:∀j,(γ (lk j)).eD=true→cI D.τ (lk k) v (lk j)=D.τ (lk j):=fun j hj=>by
  have e:lk j≠lk k:=fun e=>by rw [e,hk] at hj;cases hj
  exact bG _ _ e
 have kO:∀m,(γ m).eD=true→(cI γ (lk k) (.live s) m).eD=true:=fun m hm=>by
  by_cases e:m=lk k
  ·subst e;rw [bF];rfl
  ·rw [bG _ _ e];exact hm
 have jf:∀m,(cI γ (lk k) (.live s) m).ff=(γ m).ff:=fun m=>by
  by_cases e:m=lk k
  ·subst e;rw [bF,hk];rfl
  ·rw [bG _ _ e]
 have hm:∀g,eV γ g→eV (cI γ (lk k) (.live s)) g:=fun g hg=>by
  cases g with
  | ptr m o=>simp only [eV,jf] at hg ⊢;exact hg
  | cD j s'=>exact kO _ hg
  | cl ts=>exact fun t ht=>kO _ (hg t ht)
  | yb ts p=>exact ⟨fun t ht=>kO _ (hg.1 t ht),fun q hq=>by rw [jf];exact hg.2 q hq⟩
  | pe j=>exact kO _ hg
  | pm m=>simp only [eV,jf] at hg ⊢;exact hg
  | ni d s' =>
   have hd:d≠lk k:=fun e=>by subst e;rcases hg with e | ⟨mc,e⟩ <;> rw [hk] at e <;> cases e
   simp only [eV,bG _ _ hd];exact hg
  | _=>trivial
 have hb:∀key,eM { D with τ:=cI D.τ (lk k) v } (cI γ (lk k) (.live s)) key=if key=lk k then v.ownBlock else eM D γ key:=fun key=>by
  unfold eM
  by_cases e:key=lk k
  ·subst e;rw [bF];simp [bF]
  ·rw [bG _ _ e,aE e]
   cases hg:γ key with
   | live s'=>simp [bG _ _ e]
   | pv s'=>simp [bG _ _ e]
   | pc s'=>simp [bG _ _ e]
   | ni d s'=>simp [bG _ _ e]
   | _=>rfl
 refine ⟨h.size,h.defers,h.iG,fun m hm=>h.om m (by rwa [jf] at hm),fun m hm=>?_,fun t ht=>?_,fun m ts jI=>?_,fun key s' jC=>?_,h.ps.same rfl (fun key hp=>?_),fun p q g hp hq=>?_,fun p g hp=>?_,fun key=>?_,h.ext,h.j0,h.gl,h.fix.of rfl (fun hp=>by
  have e:lk 999999≠lk k:=fun e=>by rw [e,hk] at hp;cases hp
  rw [bG _ _ e];exact ⟨hp,bG _ _ e⟩)⟩
 ·by_cases e:m=lk k
  ·subst e;exact fN k
  ·rw [bG _ _ e] at hm;exact h.kU m hm
 ·have e:t≠lk k:=by have:=h.iG;have:=fN k;omega
  rw [bG _ _ e]
  rcases h.slot t ht with e | ⟨r,g⟩
  ·exact .inl e
  ·exact .inr ⟨r,fun hs=>iB.congr (D:=D) (h.inv t) (fun _ _=>rfl) pP (g hs)⟩
 ·have e:m≠lk k:=fun e=>by subst e;rw [bF] at jI;cases jI
  rw [bG _ _ e] at jI
  obtain ⟨cs,hv,nR⟩:=h.mem m ts jI
  refine ⟨cs,hv,fun t ht=>?_⟩
  have hi:=h.inv m
  rw [jI] at hi
  show cs[t.1]?=some (cI D.τ (lk k) v (lk t.2.1))
  rw [pP _ (hi t ht)];exact nR t ht
 ·by_cases e:key=lk k
  ·subst e;rw [bF] at jC;cases jC;simpa [bF] using ht
  ·rw [bG _ _ e] at jC
   have:=h.cD key s' jC
   rw [←bG D.τ v e] at this
   exact this
 ·have e:key≠lk k:=fun e=>by subst e;rw [bF] at hp;cases hp
  rw [bG _ _ e];exact ⟨rfl,rfl,bG _ _ e⟩
 ·rw [jo (by rw [hk];rfl) rfl,jo (by rw [hk];rfl) rfl]
  rw [hb] at hp hq
  split at hp <;> split at hq
  ·rename_i e1 e2;left;rw [e1,e2]
  ·exact ((hg g hp).2 q hq).elim
  ·exact ((hg g hq).2 p hp).elim
  ·exact h.sep p q g hp hq
 ·rw [hb] at hp
  split at hp
  ·exact (hg g hp).1
  ·exact h.own p g hp
 ·by_cases e:key=lk k
  ·subst e;rw [bF];trivial
  ·rw [bG _ _ e];exact hm _ (h.inv key)
theorem cN.newVar (h:cN C D σ γ a w) {m b:Nat} {x:AV} {cs:List Value} {ts:List (Nat × (Nat × Nat))} (hm:γ m = .no) (h1:C.nt≤m) (h2:m<999999) (hv:iU D.R w x b cs)
  (nR:∀t∈ts,(γ (lk t.2.1)).eD=true∧cs[t.1]?=some (D.τ (lk t.2.1))) (hb:C.lp b∧∀key,eM D γ key≠some b) :
  cN C { D with β:=cI D.β m b } (cI σ m x) (cI γ m (.cl ts)) a w:=by
 have Db:∀j,(γ j).ff=true→cI D.β m b j=D.β j:=fun j hj=>by
  have e:j≠m:=fun e=>by subst e;rw [hm] at hj;cases hj
  exact bG _ _ e
 have jf:∀j,(γ j).ff=true→(cI γ m (.cl ts) j).ff=true:=fun j hj=>by
  by_cases e:j=m
  ·subst e;rw [bF];rfl
  ·rw [bG _ _ e];exact hj
 have kO:∀j,(cI γ m (.cl ts) j).eD=(γ j).eD:=fun j=>by
  by_cases e:j=m
  ·subst e;rw [bF,hm];rfl
  ·rw [bG _ _ e]
 have hM:∀g,eV γ g→eV (cI γ m (.cl ts)) g:=fun g hg=>by
  cases g with
  | ptr j o=>exact jf _ hg
  | cD j s'=>simp only [eV,kO] at hg ⊢;exact hg
  | cl us=>exact fun t ht=>by rw [kO];exact hg t ht
  | yb us p=>exact ⟨fun t ht=>by rw [kO];exact hg.1 t ht,fun q hq=>jf _ (hg.2 q hq)⟩
  | pe j=>simp only [eV,kO] at hg ⊢;exact hg
  | pm m=>exact jf _ hg
  | ni d s' =>
   have hd:d≠m:=fun e=>by subst e;rcases hg with e | ⟨mc,e⟩ <;> rw [hm] at e <;> cases e
   simp only [eV,bG _ _ hd];exact hg
  | _=>trivial
 have hB:∀key,eM { D with β:=cI D.β m b } (cI γ m (.cl ts)) key=if key=m then some b else eM D γ key:=fun key=>by
  unfold eM
  by_cases e:key=m
  ·subst e;rw [bF];simp [bF]
  ·rw [bG _ _ e,aE e]
   cases hg:γ key with
   | cl us=>simp [bG _ _ e]
   | _=>rfl
 refine ⟨h.size,h.defers,h.iG,fun j hj=>?_,fun j hj=>h.kU j (by rwa [kO] at hj),fun t ht=>?_,fun j us hj=>?_,fun key s' jC=>?_,h.ps.same rfl (fun key hp=>?_),fun p q g hp hq=>?_,fun p g hp=>?_,fun key=>?_,h.ext,h.j0,h.gl,h.fix.cI (by rw [hm];rfl) (by
  have e:999999≠m:=by omega
  exact bG _ _ e) rfl⟩
 ·by_cases e:j=m
  ·subst e;exact ⟨h1,by omega⟩
  ·rw [bG _ _ e] at hj;exact h.om j hj
 ·have e:t≠m:=by omega
  rw [bG _ _ e,bG _ _ e]
  rcases h.slot t ht with e | ⟨r,g⟩
  ·exact .inl e
  ·exact .inr ⟨r,fun hs=>iB.congr (D:=D) (h.inv t) Db (fun _ _=>rfl) (g hs)⟩
 ·by_cases e:j=m
  ·subst e;rw [bF] at hj;cases hj;rw [bF]
   exact ⟨cs,by simpa [bF] using hv,fun t ht=>(nR t ht).2⟩
  ·rw [bG _ _ e] at hj;rw [bG _ _ e]
   simpa [bG _ _ e] using h.mem j us hj
 ·have e:key≠m:=fun e=>by subst e;rw [bF] at jC;cases jC
  rw [bG _ _ e] at jC;exact h.cD key s' jC
 ·have e:key≠m:=fun e=>by subst e;rw [bF] at hp;cases hp
  rw [bG _ _ e,bG _ _ e];exact ⟨rfl,rfl,rfl⟩
 ·rw [jo (by rw [hm];rfl) rfl,jo (by rw [hm];rfl) rfl]
  rw [hB] at hp hq
  split at hp <;> split at hq
  ·rename_i e1 e2;left;rw [e1,e2]
  ·cases hp;exact (hb.2 q hq).elim
  ·cases hq;exact (hb.2 p hp).elim
  ·exact h.sep p q g hp hq
 ·rw [hB] at hp
  split at hp
  ·cases hp;exact hb.1
  ·exact h.own p g hp
 ·by_cases e:key=m
  ·subst e;rw [bF];exact fun t ht=>by rw [kO];exact (nR t ht).1
  ·rw [bG _ _ e];exact hM _ (h.inv key)
theorem cN.store (h:cN C D σ γ a w) {m:Nat} {w':World} {x:AV} {cs:List Value} {ts us:List (Nat × (Nat × Nat))} (hm:γ m = .cl ts)
  (os:w'.os=w.os) (tape:w'.tape=w.tape) (out:w'.output=w.output) (size:w'.heap.size=w.heap.size) (hh:∀b,b≠D.β m→w'.heap[b]?=w.heap[b]?)
  (hv:iU D.R w' x (D.β m) cs) (FQ:∀t∈us,(γ (lk t.2.1)).eD=true∧cs[t.1]?=some (D.τ (lk t.2.1))):cN C D (cI σ m x) (cI γ m (.cl us)) a w':=by
 obtain ⟨cs0,hv0,_⟩:=h.mem m ts hm
 have nU:∀o,¬D.R (D.β m) o:=hv0.C0
 have bM:fu D.R w D.R w':=fun b o hr=>⟨hr,World.cell?_of_block (w:=w) (hh b (fun e=>nU o (e ▸ hr)))⟩
 have jf:∀j,(cI γ m (.cl us) j).ff=(γ j).ff:=fun j=>by
  by_cases e:j=m
  ·subst e;rw [bF,hm];rfl
  ·rw [bG _ _ e]
 have kO:∀j,(cI γ m (.cl us) j).eD=(γ j).eD:=fun j=>by
  by_cases e:j=m
  ·subst e;rw [bF,hm];rfl
  ·rw [bG _ _ e]
 have hM:∀g,eV γ g→eV (cI γ m (.cl us)) g:=fun g hg=>by
  cases g <;> simp only [eV,jf,kO] at hg ⊢ <;> first | exact hg | skip
  rename_i d s'
  have hd:d≠m:=fun e=>by subst e;rcases hg with e | ⟨mc,e⟩ <;> rw [hm] at e <;> cases e
  rw [bG _ _ hd];exact hg
 have hB:∀key,eM D (cI γ m (.cl us)) key=eM D γ key:=fun key=>by
  unfold eM
  by_cases e:key=m
  ·subst e;rw [bF,hm]
  ·rw [bG _ _ e]
 refine ⟨h.size,h.defers,h.iG,fun j hj=>h.om j (by rwa [jf] at hj),fun j hj=>h.kU j (by rwa [kO] at hj),fun t ht=>?_,fun j vs hj=>?_,fun key s' jC=>?_,h.ps.bM bM (fun key hp=>?_),fun p q g hp hq=>(by rw [jo (by rw [hm];rfl) rfl,jo (by rw [hm];rfl) rfl];exact h.sep p q g (by rwa [hB] at hp) (by rwa [hB] at hq)),fun p g hp=>h.own p g (by rwa [hB] at hp),fun key=>?_,?_,fun b o hr=>by rw [size];exact h.j0 b o hr,fun n=>(h.gl n).mono bM,h.fix.cI (by rw [hm];rfl) rfl rfl⟩
 ·have e:t≠m:=by have:=(h.om m (by rw [hm];rfl)).1;omega
  rw [bG _ _ e,bG _ _ e]
  exact (h.slot t ht).imp id fun ⟨r,g⟩=>⟨r.mono bM,g⟩
 ·by_cases e:j=m
  ·subst e;rw [bF] at hj;cases hj;rw [bF];exact ⟨cs,hv,fun t ht=>(FQ t ht).2⟩
  ·rw [bG _ _ e] at hj;rw [bG _ _ e]
   obtain ⟨Q2,tt,tw⟩:=h.mem j vs hj
   have fO:D.β j≠D.β m:=fun he=>e (h.rR (by rw [hj];rfl) (by rw [gV hj,he]) (gV hm))
   exact ⟨Q2,tt.bM bM (hh _ fO) tt.C0,tw⟩
 ·have e:key≠m:=fun e=>by subst e;rw [bF] at jC;cases jC
  rw [bG _ _ e] at jC
  refine (h.cD key s' jC).bM fun g hg=>⟨hh g fun he=>e (h.rR (by rw [jC];rfl) (by rw [gG jC,hg,he]) (gV hm)),fun _ hr=>hr⟩
 ·have e:key≠m:=fun e=>by subst e;rw [bF] at hp;cases hp
  rw [bG _ _ e] at hp ⊢
  rw [bG _ _ e]
  exact ⟨rfl,rfl,rfl,fun g hg=>⟨hh g fun he=>e (h.rR (by rw [hm];rfl) (by rw [gV hm,←he]) ((fS hp).trans hg)).symm,fun _ hr=>hr⟩⟩
 ·by_cases e:key=m
  ·subst e;rw [bF];exact fun t ht=>by rw [kO];exact (FQ t ht).1
  ·rw [bG _ _ e];exact hM _ (h.inv key)
 ·have p8:=h.own m _ (gV hm)
  refine ⟨os.trans h.ext.os,tape.trans h.ext.tape,out.trans h.ext.output,by rw [size];exact h.ext.size,fun b hb hn=>?_,h.ext.bM.trans bM,h.ext.qE⟩
  refine (hh b fun e=>?_).trans (h.ext.heap b hb hn)
  subst e
  rcases p8 with jI | jI
  ·exact hn jI
  ·omega
end
end Go.Eng
namespace Go.Eng
open Go.RowKit
theorem ka {x:Operand} {rs:List cR} (h:bW [x] rs=true):∃r,rs=[r]∧bU x r=true:=by
 match rs,h with
 | [r],h=>simp [bW] at h;exact ⟨r,rfl,h⟩
 | [],h=>simp [bW] at h
 | _ :: _ :: _,h=>simp [bW] at h
theorem iE {x y:Operand} {rs:List cR} (h:bW [x,y] rs=true):∃r q,rs=[r,q]∧bU x r=true∧bU y q=true:=by
 match rs,h with
 | [r,q],h=>simp [bW] at h;exact ⟨r,q,rfl,h⟩
 | [],h=>simp [bW] at h
 | [_],h=>simp [bW] at h
 | _ :: _ :: _ :: _,h=>simp [bW] at h
theorem ET {x y z:Operand} {rs:List cR} (h:bW [x,y,z] rs=true):∃r q s,rs=[r,q,s]∧bU x r=true∧bU y q=true∧bU z s=true:=by
 match rs,h with
 | [r,q,s],h=>simp [bW] at h;exact ⟨r,q,s,rfl,h⟩
 | [],h=>simp [bW] at h
 | [_],h=>simp [bW] at h
 | [_,_],h=>simp [bW] at h
 | _ :: _ :: _ :: _ :: _,h=>simp [bW] at h
theorem yF {x y:Value} (h:BS x y=true):x=y:=by
 unfold BS at h
 split at h <;> first | (simp at h;done) | (simp_all;done) | skip
 ·rename_i a b
  cases a;cases b;rename_i a b;cases a;cases b;simp_all
section
variable {R:Reach} {w:World}
theorem qa {x:Value} {y:AV} (h:ja x y=true):Rep R w y x:=by
 unfold ja at h
 split at h
 ·exact .nil _
 ·exact .v _
 ·cases h
 ·rw [yF h];exact .v _
 ·cases h
theorem vK {x:Value} {y:AV} (h:ja x y=true):x.oneCell'=true:=by
 unfold ja at h
 split at h
 ·rfl
 ·rfl
 ·cases h
 ·have:=yF h;subst this;unfold BS at h;split at h <;> first | rfl | (simp at h)
 ·cases h
theorem gU:∀{xs:List Value} {ys:List AV},fx xs ys=true→dz R w ys xs
 | [],[],_ => .nil
 | x :: xs,y :: ys,h=>by
  simp [fx] at h
  exact .cons (vK h.1) (qa h.1) (gU h.2)
 | [],_ :: _,h=>by simp [fx] at h
 | _ :: _,[],h=>by simp [fx] at h
theorem z8 {x:Value} {y:AV} (h:xR x y=true):Rep R w y x:=by
 unfold xR at h
 split at h
 ·rename_i cs ys;cases cs;exact .ag (gU h)
 ·cases h
 ·exact qa h
end
section
variable {C:Ctx} {D:kf} {σ:Sg} {γ:Ga} {a:Act} {w:World}
theorem cN.gE (h:cN C D σ γ a w) {x:Operand} {r:cR} (hx:bU x r=true) (hs:small C.nt [x]=true):lR D w (r.ev C.E σ) (r.gh γ) (a.eval x):=by
 unfold bU at hx
 split at hx
 ·simp at hx;subst hx;simp [small] at hs;exact h.slot _ hs
 ·exact .inr ⟨z8 hx,fun _=>trivial⟩
 ·simp at hx;obtain ⟨⟨h1,h2⟩,h3⟩:=hx;subst h1;subst h2;subst h3;exact .inr ⟨.v _,fun _=>trivial⟩
 ·simp at hx;subst hx;exact .inr ⟨h.gl _,fun _=>trivial⟩
 ·cases hx
theorem lR.rep {s:AV} {g:Gh} {x:Value} (h:lR D w s g x) (hs:s ≠ .dead):Rep D.R w s x:=(h.resolve_left hs).1
theorem lR.gh {s:AV} {g:Gh} {x:Value} (h:lR D w s g x) (hs:s ≠ .dead) (hk:s ≠ .sk):iB D g x:=(h.resolve_left hs).2 hk
theorem lR.plain {s:AV} {x:Value} (h:Rep D.R w s x):lR D w s .no x := .inr ⟨h,fun _=>trivial⟩
theorem cN.val (h:cN C D σ γ a w) {o:Oper} {d:Nat} (hd:o.dst=some d) (hl:d<C.nt) {v:Value} {s:AV} {g:Gh} (hr:(execOp a.eval o).run C.P w = .ok (.value v) w)
  (hs:lR D w s g v) (g1:g.ff=false) (g2:g.eD=false) (gm:eV γ g) {K:Act→World→Prop} {Q:Exit→Act→World→Prop}
  (hK:∀D' a' w',cN C D' (cI σ d s) (cI γ d g) a' w'→K a' w'):o.wp C.P a w K Q:=by
 unfold Oper.wp
 rw [hr,Oper.upon_value,hd]
 exact hK _ _ _ (h.put hl hs g1 g2 gm)
theorem cN.fR (h:cN C D σ γ a w) {o:Oper} {d:Nat} (hd:o.dst=some d) (hl:d<C.nt) {v:Value} {s:AV} (hr:(execOp a.eval o).run C.P w = .ok (.value v) w)
  (hs:Rep D.R w s v) {K:Act→World→Prop} {Q:Exit→Act→World→Prop}
  (hK:∀D' a' w',cN C D' (cI σ d s) (cI γ d .no) a' w'→K a' w'):o.wp C.P a w K Q :=
 h.val hd hl hr (.plain hs) rfl rfl trivial hK
theorem cN.lM (h:cN C D σ γ a w) (r:cR):eV γ (r.gh γ):=by
 cases r with
 | s t=>exact h.inv t
 | _=>trivial
theorem eV.strip {g:Gh} (h:eV γ g):eV γ g.strip:=by cases g <;> first | exact h | trivial
variable {o:Oper} {d:Nat} {K:Act→World→Prop} {Q:Exit→Act→World→Prop} (h:cN C D σ γ a w) (hd:o.dst=some d) (hl:d<C.nt)
include h hd hl
theorem JC {x:Operand} {r:cR} (ho:o.op = .move x∨o.op = .assign x) (hx:bU x r=true) (hs:small C.nt [x]=true)
  (hK:∀D' a' w',cN C D' (cI σ d (r.ev C.E σ)) (cI γ d (r.gh γ).strip) a' w'→K a' w'):o.wp C.P a w K Q:=by
 have hr:(execOp a.eval o).run C.P w = .ok (.value (a.eval x)) w:=by rcases ho with e | e <;> simp [execOp,e]
 refine h.val hd hl hr (g:=(r.gh γ).strip) ?_ ?_ ?_ (h.lM r).strip hK
 ·rcases h.gE hx hs with e | ⟨e1,e2⟩
  ·exact .inl e
  ·exact .inr ⟨e1,by cases hg:r.gh γ <;> rw [hg] at e2 <;> first | exact e2 | trivial⟩
 ·cases r.gh γ <;> rfl
 ·cases r.gh γ <;> rfl
theorem Ib {c x y:Operand} {r q s:cR} {b:Bool} (ho:o.op = .pick c x y) (hc:bU c r=true) (hx:bU x q=true) (hy:bU y s=true) (hs:small C.nt [c]=true) (fy:small C.nt [x]=true) (lA:small C.nt [y]=true)
  (hb:r.ev C.E σ = .v (.bool b)) (hK:∀D' a' w',cN C D' (cI σ d (if b then q.ev C.E σ else s.ev C.E σ)) (cI γ d .no) a' w'→K a' w'):o.wp C.P a w K Q:=by
 have hv:=(h.gE hc hs).rep (by rw [hb];simp)
 rw [hb] at hv
 have tt:a.eval c = .bool b:=by generalize a.eval c=z at hv;cases hv;rfl
 have hr:(execOp a.eval o).run C.P w = .ok (.value (if b then a.eval x else a.eval y)) w:=by cases b <;> simp [execOp,ho,tt,asBool]
 refine h.val hd hl hr (g := .no) ?_ rfl rfl trivial hK
 cases b with
 | true=>exact (h.gE hx fy).imp id fun e=>⟨e.1,fun _=>trivial⟩
 | false=>exact (h.gE hy lA).imp id fun e=>⟨e.1,fun _=>trivial⟩
omit h hd hl in
theorem Rep.fF {R:Reach} {x y:Value} (h:Rep R w (.v x) y):y=x:=by cases h;rfl
omit h hd hl in
theorem G4 {P:Program} {w:World} {op:BinOp} {t:TypeId} {x y z:Value} (h:j8 op x y=some z):(binOp op t x y).run P w = .ok z w:=by
 unfold j8 at h
 split at h
 all_goals repeat' split at h
 all_goals first
  | (cases h;done)
  | (cases h;simp only [binOp,Op.shift,Sem.run_ite];rw [aE (by assumption)];rfl)
  | (cases h;simp_all [binOp,Op.shift,Op.intArith,Op.intDiv,Op.intBits,Op.intCmp,Op.stringOp,dP];done)
  | exact Gn h
  | skip
omit h hd hl in
theorem HJ {P:Program} {w:World} {op:UnOp} {x z:Value} (h:Nl op x=some z):(Op.unary op x).run P w = .ok z w:=by
 unfold Nl at h
 split at h <;> cases h <;> first | exact vy | simp [Op.unary,Op.intArith,Op.intBits,dP]
theorem Ls {b:BinOp} {t t':TypeId} {x y:Operand} {r q:cR} {u v z:Value} (ho:o.op = .binOp b t x y t') (hx:bU x r=true) (hy:bU y q=true) (fy:small C.nt [x]=true) (lA:small C.nt [y]=true)
  (hr:r.ev C.E σ = .v u) (hq:q.ev C.E σ = .v v) (hz:j8 b u v=some z) (hK:∀D' a' w',cN C D' (cI σ d (.v z)) (cI γ d .no) a' w'→K a' w'):o.wp C.P a w K Q:=by
 have e1:=(h.gE hx fy).rep (by rw [hr];simp)
 have e2:=(h.gE hy lA).rep (by rw [hq];simp)
 rw [hr] at e1;rw [hq] at e2
 have hg:eqGuard b t x y u v=pure ():=by
  unfold j8 at hz
  split at hz <;> first | (cases hz;done) | exact Bn hz | (unfold eqGuard;split <;> simp_all)
 have cM:(execOp a.eval o).run C.P w = .ok (.value z) w:=by
  simp only [execOp,ho,e1.fF,e2.fF,hg,Sem.run_bind,Sem.run_pure,Result.andThen_ok,G4 hz]
 exact h.fR hd hl cM (.v z) hK
theorem N6 {neg:Bool} {b:BinOp} {t t':TypeId} {x y:Operand} {r q:cR} {u v:Bool} (ho:o.op = .binOp b t x y t') (hb:b=if neg then .neq else .eql) (ht:C.P.underlying t=some .bool) (hx:bU x r=true) (hy:bU y q=true) (fy:small C.nt [x]=true) (lA:small C.nt [y]=true)
  (hr:r.ev C.E σ = .v (.bool u)) (hq:q.ev C.E σ = .v (.bool v)) (hK:∀D' a' w',cN C D' (cI σ d (.v (.bool (if neg then !(u == v) else u == v)))) (cI γ d .no) a' w'→K a' w'):o.wp C.P a w K Q:=by
 have e1:=(h.gE hx fy).rep (by rw [hr];simp)
 have e2:=(h.gE hy lA).rep (by rw [hq];simp)
 rw [hr] at e1;rw [hq] at e2
 have hg:eqGuard b t x y (.bool u) (.bool v)=pure ():=by unfold eqGuard;cases neg <;> simp [hb]
 have he:(Op.equal t (.bool u) (.bool v)).run C.P w = .ok (u == v) w:=by
  unfold Op.equal Op.maxDepth
  rw [show (10000:Nat)=9999+1 from rfl,Op.equalIn]
  simp [run_underlying ht]
 have cM:(execOp a.eval o).run C.P w = .ok (.value (.bool (if neg then !(u == v) else u == v))) w:=by
  simp only [execOp,ho,e1.fF,e2.fF,hg,Sem.run_bind,Sem.run_pure,Result.andThen_ok]
  cases neg <;> simp [hb,binOp,he]
 exact h.fR hd hl cM (.v _) hK
theorem NC {b:UnOp} {t:TypeId} {x:Operand} {r:cR} {u z:Value} (ho:o.op = .unOp b t x) (hx:bU x r=true) (fy:small C.nt [x]=true)
  (hr:r.ev C.E σ = .v u) (hz:Nl b u=some z) (hK:∀D' a' w',cN C D' (cI σ d (.v z)) (cI γ d .no) a' w'→K a' w'):o.wp C.P a w K Q:=by
 have e1:=(h.gE hx fy).rep (by rw [hr];simp)
 rw [hr] at e1
 have cM:(execOp a.eval o).run C.P w = .ok (.value z) w:=by
  simp only [execOp,ho,e1.fF,Sem.run_bind,Sem.run_pure,Result.andThen_ok,HJ hz]
 exact h.fR hd hl cM (.v z) hK
theorem NY {k k':IntKind} {n:Int} {s t:TypeId} {x:Operand} {r:cR} (ho:o.op = .convert s t x) (ht:C.P.underlying t=some (.int k)) (hs:(C.P.underlying s).isSome=true) (hx:bU x r=true) (fy:small C.nt [x]=true)
  (hr:r.ev C.E σ = .v (.int k' n)) (hK:∀D' a' w',cN C D' (cI σ d (.v (.int k (k.wrap n)))) (cI γ d .no) a' w'→K a' w'):o.wp C.P a w K Q:=by
 have e1:=(h.gE hx fy).rep (by rw [hr];simp)
 rw [hr] at e1
 obtain ⟨u,hu⟩:=Option.isSome_iff_exists.1 hs
 have cM:(execOp a.eval o).run C.P w = .ok (.value (.int k (k.wrap n))) w:=by
  simp only [execOp,ho,e1.fF,convert,Sem.run_bind,run_underlying hu,run_underlying ht,Result.andThen_ok,Conv.intToInt,Sem.run_pure]
 exact h.fR hd hl cM (.v _) hK
theorem NW {s t:TypeId} {x:Operand} {r:cR} {b:ByteArray} (ho:o.op = .convert s t x) (ht:C.P.underlying t=some .string) (hs:C.P.underlying s=some .string) (hx:bU x r=true) (fy:small C.nt [x]=true)
  (hr:r.ev C.E σ = .v (.string b)) (hK:∀D' a' w',cN C D' (cI σ d (.v (.string b))) (cI γ d .no) a' w'→K a' w'):o.wp C.P a w K Q:=by
 have e1:=(h.gE hx fy).rep (by rw [hr];simp)
 rw [hr] at e1
 have cM:(execOp a.eval o).run C.P w = .ok (.value (.string b)) w:=by
  simp [execOp,ho,e1.fF,convert,run_underlying hs,run_underlying ht]
 exact h.fR hd hl cM (.v _) hK
theorem vZ {x y:Operand} {r q:cR} {k k':IntKind} {u v:Int} {mx:Bool} {ts:Array TypeId} (ho:o.op = .call { callee := .builtin (if mx then .max else .min),args:=#[x,y],argTypes:=ts }) (hx:bU x r=true) (hy:bU y q=true) (fy:small C.nt [x]=true) (lA:small C.nt [y]=true)
  (hr:r.ev C.E σ = .v (.int k u)) (hq:q.ev C.E σ = .v (.int k' v)) (hK:∀D' a' w',cN C D' (cI σ d (.v (.int k (if mx then nD u v else vA u v)))) (cI γ d .no) a' w'→K a' w'):o.wp C.P a w K Q:=by
 have e1:=(h.gE hx fy).rep (by rw [hr];simp)
 have e2:=(h.gE hy lA).rep (by rw [hq];simp)
 rw [hr] at e1;rw [hq] at e2
 have cM:(execOp a.eval o).run C.P w = .ok (.value (.int k (if mx then nD u v else vA u v))) w:=by
  cases mx <;> simp [execOp,ho,e1.fF,e2.fF,resolve,invoke,builtin,Builtin.min_,Builtin.max_,Builtin.min2,Builtin.max2,vA,nD]
 exact h.fR hd hl cM (.v _) hK
omit h hd hl in
theorem iB.comp {i:Nat} {ys:List Value} {y:Value} {g:Gh} (hg:iB D g (.tuple ⟨ys⟩)) (hy:ys[i]?=some y):iB D (g.comp i) y:=by
 cases g with
 | yb ts p =>
  obtain ⟨zs,e,h1,h2⟩:=hg
  cases e
  simp only [Gh.comp]
  split
  ·rename_i t hf
   have hm:=List.mem_of_find?_eq_some hf
   have hp:=List.find?_some hf
   simp at hp
   have:=h1 _ hm
   simp only [hp,hy] at this
   have e:=Option.some.inj this.1
   exact ⟨e,by rw [e];exact this.2⟩
  ·split
   ·rename_i j m
    split
    ·rename_i e;subst e
     have:=h2 _ rfl
     rw [hy] at this
     exact Option.some.inj this
    ·trivial
   ·trivial
 | _=>trivial
omit h hd hl in
theorem eV.comp {i:Nat} {g:Gh} (hg:eV γ g):eV γ (g.comp i):=by
 cases g with
 | yb ts p =>
  simp only [Gh.comp]
  split
  ·rename_i t hf;exact hg.1 _ (List.mem_of_find?_eq_some hf)
  ·split
   ·rename_i j m
    split
    ·exact hg.2 _ rfl
    ·trivial
   ·trivial
 | _=>trivial
omit h hd hl in
theorem Gh.wC (i:Nat) (g:Gh):(g.comp i).ff=false∧(g.comp i).eD=false:=by
 unfold Gh.comp
 repeat' split
 all_goals exact ⟨rfl,rfl⟩
theorem NU {i:Nat} {x:Operand} {r:cR} {vs:List AV} {s:AV} (ho:o.op = .extract x i) (hx:bU x r=true) (fy:small C.nt [x]=true)
  (hr:r.ev C.E σ = .tu vs) (hi:vs[i]?=some s) (hK:∀D' a' w',cN C D' (cI σ d s) (cI γ d ((r.gh γ).comp i)) a' w'→K a' w'):o.wp C.P a w K Q:=by
 have e0:=h.gE hx fy
 have e1:=e0.rep (by rw [hr];simp)
 have e2:=e0.gh (by rw [hr];simp) (by rw [hr];rintro e;cases e;simp at hi)
 rw [hr] at e1
 obtain ⟨ys,hy,hT⟩:∃ys,a.eval x = .tuple ⟨ys⟩∧fo D.R w vs ys:=by generalize a.eval x=z at e1;cases e1;exact ⟨_,rfl,‹_›⟩
 obtain ⟨y,wq,HB⟩:=hT.get i s hi
 have cM:(execOp a.eval o).run C.P w = .ok (.value y) w:=by
  simp [execOp,ho,hy,Instr.extract,wq]
 rw [hy] at e2
 exact h.val hd hl cM (.inr ⟨HB,fun _=>e2.comp wq⟩) (Gh.wC _ _).1 (Gh.wC _ _).2 (h.lM r).comp hK
end
end Go.Eng
namespace Go.Eng
open Go.RowKit
section
variable {P:Program}
theorem gj {t:TypeId} (h:jS P t=true):P.underlying t=some .string:=by
 unfold jS at h;split at h <;> simp_all
theorem xq {t:TypeId} (h:xr P t=true):P.underlying t=some .bool:=by
 unfold xr at h;split at h <;> simp_all
theorem sZ {t:TypeId} {k:IntKind} (h:xp P t k=true):P.underlying t=some (.int k):=by
 unfold xp at h;split at h <;> simp_all
theorem gL {t e:TypeId} (h:jD P t=some e):P.underlying t=some (.slice e):=by
 unfold jD at h
 cases hu:P.underlying t with
 | none=>simp [hu] at h
 | some d=>simp only [hu,Option.bind_some] at h;split at h <;> simp_all
theorem fZ {t:TypeId} {n:Nat} (h:gZ P t=some n):∃i,P.info? t=some i∧i.size=n:=by
 unfold gZ at h
 cases hu:P.info? t with
 | none=>simp [hu] at h
 | some i=>simp [hu] at h;exact ⟨i,rfl,h⟩
theorem kA {t:TypeId} {s:Nat} (h:mS P t s=true):∃e i,P.underlying t=some (.slice e)∧P.info? e=some i∧i.size=s∧0<s:=by
 unfold mS at h
 cases he:jD P t with
 | none=>simp [he] at h
 | some e =>
  simp [he] at h
  obtain ⟨i,h1,h2⟩:=fZ h.1
  exact ⟨e,i,gL he,h1,h2,h.2⟩
theorem kD {t:TypeId} (h:jT P t=true):∃e,P.underlying t=some (.slice e)∧P.underlying e=some (.int .u8):=by
 unfold jT at h
 cases he:jD P t with
 | none=>simp [he] at h
 | some e=>simp [he] at h;exact ⟨e,gL he,sZ h⟩
theorem gC {t:TypeId} {n:Nat} {agg:Bool} (h:jl P t n agg=true):∃i,P.info? t=some i∧i.size=n∧jU P t=some agg∧(agg=true∨n=1):=by
 unfold jl at h
 simp at h
 obtain ⟨⟨h1,h2⟩,h3⟩:=h
 obtain ⟨i,e1,e2⟩:=fZ h1
 exact ⟨i,e1,e2,h2,h3⟩
theorem mh {t:TypeId} {f:Nat} {fl:Field} (h:mH P t f=some fl):∃fs,P.underlying t=some (.struct fs)∧fs[f]?=some fl:=by
 unfold mH at h
 cases hu:P.underlying t with
 | none=>simp [hu] at h
 | some d=>simp only [hu,Option.bind_some] at h;split at h <;> simp_all
theorem run_sizeOf {t:TypeId} {i:TypeInfo} (h:P.info? t=some i) (w:World):(sizeOf t).run P w = .ok i.size w:=by simp [sizeOf,typeInfo,h]
theorem rS {t:TypeId} {b:Bool} (h:jU P t=some b) (w:World):(isAgg t).run P w = .ok b w:=by
 unfold jU at h
 cases hu:P.underlying t with
 | none=>simp [hu] at h
 | some d =>
  simp only [hu,Option.map_some,aB] at h
  unfold isAgg
  simp only [Sem.run_bind,run_underlying hu,Result.andThen_ok]
  cases d <;> simp_all
theorem kL {t:TypeId} {i:TypeInfo} {agg:Bool} (hi:P.info? t=some i) (ha:jU P t=some agg) (h1:agg=true∨i.size=1) {w:World} {b off:Nat} {ys:List Value} (hl:ys.length=i.size)
  (hc:∀j y,ys[j]?=some y→w.cell? ⟨b,off+j,none⟩=some y):(loadVar t ⟨b,off,none⟩).run P w = .ok (if agg then .agg ⟨ys⟩ else ys.headD undef) w:=by
 unfold loadVar
 simp only [Sem.run_bind,rS ha,Result.andThen_ok]
 cases agg with
 | true =>
  have:=run_loadCells_list (P:=P) w ⟨b,off,none⟩ ys (fun j v hj=>by
   have h:=hc j v hj
   unfold Addr.add
   split
   ·rename_i e;subst e;exact h
   ·exact h)
  simp [run_sizeOf hi,←hl,this]
 | false =>
  have hs:i.size=1:=by simpa using h1
  match ys,hl with
  | [y],_ =>
   have:=hc 0 y rfl
   simp at this
   simp [this]
  | [],hl=>simp [hs] at hl
  | _ :: _ :: _,hl=>simp [hs] at hl
end
theorem BO {α:Type} {l:List α} {i:Nat} (h:i<l.length):(l.drop i).take 1=[l[i]]:=by
 rw [List.drop_eq_getElem_cons h,List.take_succ_cons,List.take_zero]
theorem bsize (b:ByteArray):b.data.toList.length=b.size:=by rw [Array.length_toList];rfl
theorem TE {b:ByteArray} {i:Nat} {x:UInt8} (h:b.data.toList[i]?=some x):b[i]?=some x:=by
 have eW:=(aF.1 h).1
 rw [bsize] at eW
 rw [getElem?_pos b i eW,←(aF.1 h).2]
 rfl
section
variable {C:Ctx} {D:kf} {σ:Sg} {γ:Ga} {a:Act} {w:World}
theorem Rep.mz {R:Reach} {w:World} {s:Nat} {es:List AV} {y:Value} (h:Rep R w (.sl s es) y) :
  (es=[]∧y = .slice none 0 0)∨(∃b off cap,y = .slice (some ⟨b,off,none⟩) es.length cap∧es.length≤cap∧cap≤maxLen∧iw R w s es b off)∨(es=[]∧∃ad cap,y = .slice (some ad) 0 cap∧cap≤maxLen):=by
 cases h with
 | nil=>exact .inl ⟨rfl,rfl⟩
 | sl h1 h2 h3 h4=>subst h1;exact .inr (.inl ⟨_,_,_,rfl,h2,h3,h4⟩)
 | em _ h=>exact .inr (.inr ⟨rfl,_,_,rfl,h⟩)
theorem Rep.KN {R:Reach} {w:World} {s s':Nat} {es:List AV} {y:Value} (h:Rep R w (.sl s es) y) (ht:ft R w y s') :
  (es=[]∧y = .slice none 0 0)∨∃b off cap,y = .slice (some ⟨b,off,none⟩) es.length cap∧es.length≤cap∧cap≤maxLen∧iw R w s es b off:=by
 rcases h.mz with e | e | ⟨rfl,ad,cap,rfl,hc⟩
 ·exact .inl e
 ·exact .inr e
 ·rcases ht with e | ⟨g,n,sH,cur,el,fz,e,_⟩
  ·cases e
  ·cases e;exact .inr ⟨_,_,_,rfl,Nat.zero_le _,hc,.nil _ _ _⟩
theorem Rep.AL {R:Reach} {w:World} {x:AV} {y:Value} (h:Rep R w (.ro x) y):∃b off s,y = .pointer (some ⟨b,off,none⟩)∧k0 R w s x b off:=by
 cases h with
 | ro h=>exact ⟨_,_,_,rfl,h⟩
theorem Rep.Hk {R:Reach} {w:World} {cs:List AV} {y:Value} (h:Rep R w (.ag cs) y):∃ys,y = .agg ⟨ys⟩∧dz R w cs ys:=by
 cases h with
 | ag h=>exact ⟨_,rfl,h⟩
theorem Rep.Em {R:Reach} {w:World} {s:Nat} {es:List AV} {y:Value} (h:Rep R w (.sl s es) y):∃q cap,y = .slice q es.length cap:=by
 rcases h.mz with ⟨rfl,rfl⟩ | ⟨b,off,cap,rfl,_⟩ | ⟨rfl,ad,cap,rfl,_⟩
 ·exact ⟨_,_,rfl⟩
 ·exact ⟨_,_,rfl⟩
 ·exact ⟨_,_,rfl⟩
theorem Nw {R:Reach} {x:AV} {ys:List Value} (h:dz R w x.cells ys):Rep R w x (if x.pO then .agg ⟨ys⟩ else ys.headD undef):=by
 cases x with
 | ag cs=>exact .ag h
 | _ =>
  simp only [AV.cells,AV.pO] at h ⊢
  cases h with
  | cons _ h1 h2=>cases h2;simpa using h1
theorem mV {R:Reach} {cs:List AV} {ys:List Value} {o n:Nat} {agg:Bool} {x:AV} (h:dz R w cs ys) (hp:fP cs o n agg=some x) (h1:agg=true∨n=1) :
  ((ys.drop o).take n).length=n∧Rep R w x (if agg then .agg ⟨(ys.drop o).take n⟩ else ((ys.drop o).take n).headD undef):=by
 have hlen:=h.length
 unfold fP at hp
 cases agg with
 | true =>
  simp only [if_true] at hp
  split at hp
  ·rename_i hle
   cases hp
   exact ⟨by simp;omega,.ag ((h.drop o).take n)⟩
  ·cases hp
 | false =>
  simp at h1
  subst h1
  simp at hp
  obtain ⟨y,wq,_,HB⟩:=h.get o x hp
  have eW:=(aF.1 wq).1
  refine ⟨by simp;omega,?_⟩
  have:(ys.drop o).take 1=[y]:=by
   rw [BO eW,(aF.1 wq).2]
  simpa [this] using HB
variable {o:Oper} {d:Nat} {K:Act→World→Prop} {Q:Exit→Act→World→Prop} (h:cN C D σ γ a w) (hd:o.dst=some d) (hl:d<C.nt)
include h hd hl
theorem CY {x:Operand} {r:cR} {t e:TypeId} {s:Nat} {es:List AV} (ho:o.op = .call { callee := .builtin .len,args:=#[x],argTypes:=#[t] }) (ht:C.P.underlying t=some (.slice e)) (hx:bU x r=true) (fy:small C.nt [x]=true)
  (hr:r.ev C.E σ = .sl s es) (hK:∀D' a' w',cN C D' (cI σ d (.v (.int .i64 es.length))) (cI γ d .no) a' w'→K a' w'):o.wp C.P a w K Q:=by
 have e1:=(h.gE hx fy).rep (by rw [hr];simp)
 rw [hr] at e1
 obtain ⟨q,cap,hq⟩:=e1.Em
 have cM:(execOp a.eval o).run C.P w = .ok (.value (.int .i64 es.length)) w:=by
  simp [execOp,ho,hq,resolve,invoke,builtin,Builtin.len_,run_underlying ht,goInt]
 exact h.fR hd hl cM (.v _) hK
theorem AY {x:Operand} {r:cR} {t:TypeId} {b:ByteArray} (ho:o.op = .call { callee := .builtin .len,args:=#[x],argTypes:=#[t] }) (ht:C.P.underlying t=some .string) (hx:bU x r=true) (fy:small C.nt [x]=true)
  (hr:r.ev C.E σ = .v (.string b)) (hK:∀D' a' w',cN C D' (cI σ d (.v (.int .i64 b.data.toList.length))) (cI γ d .no) a' w'→K a' w'):o.wp C.P a w K Q:=by
 have e1:=(h.gE hx fy).rep (by rw [hr];simp)
 rw [hr] at e1
 have cM:(execOp a.eval o).run C.P w = .ok (.value (.int .i64 b.data.toList.length)) w:=by
  rw [bsize]
  simp [execOp,ho,e1.fF,resolve,invoke,builtin,Builtin.len_,run_underlying ht,goInt]
 exact h.fR hd hl cM (.v _) hK
omit h hd hl in
theorem fJ (b off n:Nat):(⟨b,off,none⟩:Addr).add n=⟨b,off+n,none⟩:=by
 unfold Addr.add;split
 ·rename_i e;subst e;rfl
 ·rfl
theorem NN {x y:Operand} {r q:cR} {t e:TypeId} {inf:TypeInfo} {s:Nat} {es:List AV} {k:IntKind} {i:Int} {el:AV} (ho:o.op = .indexAddr t x y) (ht:C.P.underlying t=some (.slice e)) (hi:C.P.info? e=some inf) (hz:inf.size=s)
  (hx:bU x r=true) (hy:bU y q=true) (fy:small C.nt [x]=true) (lA:small C.nt [y]=true)
  (hr:r.ev C.E σ = .sl s es) (hq:q.ev C.E σ = .v (.int k i)) (h0:0≤i) (Dp:es[i.toNat]?=some el) (hK:∀D' a' w',cN C D' (cI σ d (.ro el)) (cI γ d .no) a' w'→K a' w'):o.wp C.P a w K Q:=by
 have e1:=(h.gE hx fy).rep (by rw [hr];simp)
 have e2:=(h.gE hy lA).rep (by rw [hq];simp)
 rw [hr] at e1;rw [hq] at e2
 have eW:=(aF.1 Dp).1
 rcases e1.mz with ⟨rfl,_⟩ | ⟨b,off,cap,hv,_,_,hE⟩ | ⟨rfl,_⟩
 rotate_left 2
 ·simp at eW
 ·simp at eW
 ·have cM:(execOp a.eval o).run C.P w = .ok (.value (.pointer (some ⟨b,off+i.toNat * s,none⟩))) w:=by
   simp [execOp,ho,hv,e2.fF,Instr.indexAt,asIntOf,run_underlying ht,run_sizeOf hi,hz,h0,fJ]
   omega
  exact h.fR hd hl cM (.ro (hE.get _ _ Dp)) hK
theorem ND {x y:Operand} {r q:cR} {t:TypeId} {b:ByteArray} {k:IntKind} {i:Int} {el:UInt8} (ho:o.op = .index t x y) (ht:C.P.underlying t=some .string)
  (hx:bU x r=true) (hy:bU y q=true) (fy:small C.nt [x]=true) (lA:small C.nt [y]=true)
  (hr:r.ev C.E σ = .v (.string b)) (hq:q.ev C.E σ = .v (.int k i)) (h0:0≤i) (Dp:b.data.toList[i.toNat]?=some el) (hK:∀D' a' w',cN C D' (cI σ d (fg el)) (cI γ d .no) a' w'→K a' w'):o.wp C.P a w K Q:=by
 have e1:=(h.gE hx fy).rep (by rw [hr];simp)
 have e2:=(h.gE hy lA).rep (by rw [hq];simp)
 rw [hr] at e1;rw [hq] at e2
 have hb:=TE Dp
 have cM:(execOp a.eval o).run C.P w = .ok (.value (.int .u8 el.toNat)) w:=by
  simp [execOp,ho,e1.fF,e2.fF,Instr.index,asIntOf,run_underlying ht,h0,hb]
 exact h.fR hd hl cM (.v _) hK
theorem NR {x:Operand} {r:cR} {t:TypeId} {f o' n:Nat} {agg:Bool} {fs:Array Field} {fl:Field} {inf:TypeInfo} {cs:List AV} {s:AV} (ho:o.op = .field t x f) (ht:C.P.underlying t=some (.struct fs)) (hf:fs[f]?=some fl) (zn:fl.offset=o') (hi:C.P.info? fl.type=some inf) (hz:inf.size=n) (ha:jU C.P fl.type=some agg) (h1:agg=true∨n=1)
  (hx:bU x r=true) (fy:small C.nt [x]=true) (hr:r.ev C.E σ = .ag cs) (hp:fP cs o' n agg=some s) (hK:∀D' a' w',cN C D' (cI σ d s) (cI γ d .no) a' w'→K a' w'):o.wp C.P a w K Q:=by
 have e1:=(h.gE hx fy).rep (by rw [hr];simp)
 rw [hr] at e1
 obtain ⟨ys,hy,hL⟩:=e1.Hk
 obtain ⟨hlen,ir⟩:=mV hL hp h1
 have cM:(execOp a.eval o).run C.P w = .ok (.value (if agg then .agg ⟨(ys.drop o').take n⟩ else ((ys.drop o').take n).headD undef)) w:=by
  simp only [execOp,ho,hy,Instr.field,Sem.run_bind,run_underlying ht,Result.andThen_ok,hf,asAgg,Sem.run_pure,part,rS ha]
  cases agg with
  | true=>simp [run_sizeOf hi,hz,zn,List.extract_eq_take_drop]
  | false =>
   have hn:n=1:=by simpa using h1
   subst hn
   have eW:o'<ys.length:=by simp at hlen;omega
   rw [BO eW]
   simp [zn,aA eW]
 exact h.fR hd hl cM ir hK
theorem N9 {x y:Operand} {r q:cR} {t e:TypeId} {nn s:Nat} {agg:Bool} {inf:TypeInfo} {cs:List AV} {k:IntKind} {i:Int} {el:AV} (ho:o.op = .index t x y) (ht:C.P.underlying t=some (.array nn e)) (hi:C.P.info? e=some inf) (hz:inf.size=s) (ha:jU C.P e=some agg) (h1:agg=true∨s=1)
  (hx:bU x r=true) (hy:bU y q=true) (fy:small C.nt [x]=true) (lA:small C.nt [y]=true)
  (hr:r.ev C.E σ = .ag cs) (hq:q.ev C.E σ = .v (.int k i)) (h0:0≤i) (hn:i<nn) (hp:fP cs (i.toNat * s) s agg=some el) (hK:∀D' a' w',cN C D' (cI σ d el) (cI γ d .no) a' w'→K a' w'):o.wp C.P a w K Q:=by
 have e1:=(h.gE hx fy).rep (by rw [hr];simp)
 have e2:=(h.gE hy lA).rep (by rw [hq];simp)
 rw [hr] at e1;rw [hq] at e2
 obtain ⟨ys,QF,hL⟩:=e1.Hk
 obtain ⟨hlen,ir⟩:=mV hL hp h1
 have cM:(execOp a.eval o).run C.P w = .ok (.value (if agg then .agg ⟨(ys.drop (i.toNat * s)).take s⟩ else ((ys.drop (i.toNat * s)).take s).headD undef)) w:=by
  simp only [execOp,ho,QF,e2.fF,Instr.index,asIntOf,Sem.run_bind,run_underlying ht,Result.andThen_ok,Sem.run_pure,h0,hn,and_self,if_true,run_sizeOf hi,hz,part,rS ha]
  cases agg with
  | true=>simp [run_sizeOf hi,hz,List.extract_eq_take_drop]
  | false =>
   have hn:s=1:=by simpa using h1
   subst hn
   rw [Nat.mul_one] at hlen ⊢
   have eW:i.toNat<ys.length:=by simp at hlen;omega
   rw [BO eW]
   simp [aA eW]
 exact h.fR hd hl cM ir hK
theorem NK {x:Operand} {r:cR} {t:TypeId} {inf:TypeInfo} {n:Nat} {agg:Bool} {s:AV} (ho:o.op = .load t x) (hi:C.P.info? t=some inf) (hz:inf.size=n) (ha:jU C.P t=some agg) (h1:agg=true∨n=1)
  (hx:bU x r=true) (fy:small C.nt [x]=true) (hr:r.ev C.E σ = .ro s) (lA:s.pO=agg) (Wn:s.cells.length=n) (hK:∀D' a' w',cN C D' (cI σ d s) (cI γ d .no) a' w'→K a' w'):o.wp C.P a w K Q:=by
 have e1:=(h.gE hx fy).rep (by rw [hr];simp)
 rw [hr] at e1
 obtain ⟨b,off,s',hv,hA⟩:=e1.AL
 obtain ⟨ys,Ug,hc,hL⟩:=hA.read
 have V9:ys.length=n:=by rw [←hL.length,Wn]
 have cM:(execOp a.eval o).run C.P w = .ok (.value (if agg then .agg ⟨ys⟩ else ys.headD undef)) w:=by
  simp only [execOp,ho,hv,Instr.loadAt,Instr.sureAddr,Sem.run_bind,Sem.run_pure,Result.andThen_ok,kL hi ha (hz ▸ h1) (V9.trans hz.symm) hc]
 exact h.fR hd hl cM (by rw [←lA];exact Nw hL) hK
theorem NQ {x:Operand} {r:cR} {t:TypeId} {f o' n:Nat} {agg:Bool} {fs:Array Field} {fl:Field} {inf:TypeInfo} {cs:List AV} {s:AV} (ho:o.op = .fieldAddr t x f) (ht:C.P.underlying t=some (.struct fs)) (hf:fs[f]?=some fl) (zn:fl.offset=o') (hi:C.P.info? fl.type=some inf) (hz:inf.size=n) (hn:0<n) (h1:agg=true∨n=1)
  (hx:bU x r=true) (fy:small C.nt [x]=true) (hr:r.ev C.E σ = .ro (.ag cs)) (hp:fP cs o' n agg=some s) (hK:∀D' a' w',cN C D' (cI σ d (.ro s)) (cI γ d .no) a' w'→K a' w'):o.wp C.P a w K Q:=by
 have e1:=(h.gE hx fy).rep (by rw [hr];simp)
 rw [hr] at e1
 obtain ⟨b,off,s',hv,hA⟩:=e1.AL
 have fO:inf.size≠0:=by omega
 have cM:(execOp a.eval o).run C.P w = .ok (.value (.pointer (some ⟨b,off+o',none⟩))) w:=by
  simp [execOp,ho,hv,Instr.fieldAt,Instr.sureAddr,run_underlying ht,hf,fieldPlace,run_sizeOf hi,fO,fJ,zn]
 refine h.fR hd hl cM ?_ hK
 cases hA with
 | one n _ _ _ _=>simp [AV.pO] at n
 | ag _ hC =>
  unfold fP at hp
  cases agg with
  | true =>
   simp only [if_true] at hp
   split at hp
   ·cases hp
    exact .ro (.ag rfl ((hC.drop o').take n))
   ·cases hp
  | false =>
   simp at hp
   have eW:=(aF.1 hp).1
   have hD:=hC.drop o'
   rw [List.drop_eq_getElem_cons eW] at hD
   have hs:cs[o']=s:=(aF.1 hp).2
   rw [hs] at hD
   cases hD with
   | cons r c a vC _ =>
    refine .ro (.one ?_ r c a vC)
    cases s with
    | ag _=>cases vC;simp [Value.oneCell'] at a
    | _=>rfl
theorem Lk {x:Operand} {r:cR} {s:AV} (ho:o.op = .nilCheck x) (hx:bU x r=true) (fy:small C.nt [x]=true) (hr:r.ev C.E σ = .ro s) (hK:∀D' a' w',cN C D' (cI σ d (.ro s)) (cI γ d .no) a' w'→K a' w'):o.wp C.P a w K Q:=by
 have e1:=(h.gE hx fy).rep (by rw [hr];simp)
 rw [hr] at e1
 obtain ⟨b,off,s',hv,hA⟩:=e1.AL
 have cM:(execOp a.eval o).run C.P w = .ok (.value (.pointer (some ⟨b,off,none⟩))) w:=by simp [execOp,ho,hv]
 exact h.fR hd hl cM (.ro hA) hK
theorem NT {x:Operand} {r:cR} {t:TypeId} {f m o' dd:Nat} {fs:Array Field} {fl:Field} {inf:TypeInfo} (ho:o.op = .fieldAddr t x f) (ht:C.P.underlying t=some (.struct fs)) (hf:fs[f]?=some fl) (zn:fl.offset=dd) (hi:C.P.info? fl.type=some inf) (hn:0<inf.size)
  (hx:bU x r=true) (fy:small C.nt [x]=true) (hr:r.ev C.E σ = .pt) (hg:r.gh γ = .ptr m o') (hK:∀D' a' w',cN C D' (cI σ d .pt) (cI γ d (.ptr m (o'+dd))) a' w'→K a' w'):o.wp C.P a w K Q:=by
 have e0:=h.gE hx fy
 have hv:=e0.gh (by rw [hr];simp) (by rw [hr];simp)
 rw [hg] at hv
 simp only [iB] at hv
 have fO:inf.size≠0:=by omega
 have cM:(execOp a.eval o).run C.P w = .ok (.value (.pointer (some ⟨D.β m,o'+dd,none⟩))) w:=by
  simp [execOp,ho,hv,Instr.fieldAt,Instr.sureAddr,run_underlying ht,hf,fieldPlace,run_sizeOf hi,fO,fJ,zn]
 have hm:=h.lM r
 rw [hg] at hm
 exact h.val (g := .ptr m (o'+dd)) hd hl cM (.inr ⟨.pt _,fun _=>rfl⟩) rfl rfl hm hK
theorem NH {x:Operand} {r:cR} {m o':Nat} (ho:o.op = .nilCheck x) (hx:bU x r=true) (fy:small C.nt [x]=true) (hr:r.ev C.E σ = .pt) (hg:r.gh γ = .ptr m o') (hK:∀D' a' w',cN C D' (cI σ d .pt) (cI γ d (.ptr m o')) a' w'→K a' w'):o.wp C.P a w K Q:=by
 have e0:=h.gE hx fy
 have hv:=e0.gh (by rw [hr];simp) (by rw [hr];simp)
 rw [hg] at hv
 simp only [iB] at hv
 have cM:(execOp a.eval o).run C.P w = .ok (.value (.pointer (some ⟨D.β m,o',none⟩))) w:=by simp [execOp,ho,hv]
 have hm:=h.lM r
 rw [hg] at hm
 exact h.val (g := .ptr m o') hd hl cM (.inr ⟨.pt _,fun _=>rfl⟩) rfl rfl hm hK
theorem JD {x:Operand} {r:cR} {t:TypeId} {m o' n:Nat} {agg:Bool} {inf:TypeInfo} {cs:List AV} {ts:List (Nat × (Nat × Nat))} {s:AV} (ho:o.op = .load t x) (hi:C.P.info? t=some inf) (hz:inf.size=n) (ha:jU C.P t=some agg) (h1:agg=true∨n=1)
  (hx:bU x r=true) (fy:small C.nt [x]=true) (hr:r.ev C.E σ = .pt) (hg:r.gh γ = .ptr m o') (hm:γ m = .cl ts) (jV:σ m = .ag cs) (hp:fP cs o' n agg=some s)
  (hK:∀D' a' w',cN C D' (cI σ d s) (cI γ d (if agg then .no else match ts.find? (fun t=>t.1 == o') with | some (_,k,s) => .cD k s | none => .no)) a' w'→K a' w'):o.wp C.P a w K Q:=by
 have e0:=h.gE hx fy
 have hv:=e0.gh (by rw [hr];simp) (by rw [hr];simp)
 rw [hg] at hv
 simp only [iB] at hv
 obtain ⟨ws,tz,LY⟩:=h.mem m ts hm
 rw [jV] at tz
 obtain ⟨elem,hh,hL⟩:=tz.ag
 have O7:∀(j:Nat) (y:Value),(ws.take cs.length)[j]?=some y→ws[j]?=some y:=fun j y hj=>by
  rw [aO] at hj;split at hj
  ·exact hj
  ·cases hj
 have nR:agg=false→∀t∈ts,t.1=o'→(ws.take cs.length)[t.1]?=some (D.τ (lk t.2.1)):=fun ha t ht he=>by
  have eW:o'<cs.length:=by
   subst ha
   simp only [fP,aY,if_false] at hp
   exact (aF.1 hp).1
  rw [aO,aG (by omega)]
  exact LY t ht
 generalize We:ws.take cs.length=vs at hL nR O7
 obtain ⟨hlen,ir⟩:=mV hL hp h1
 have hc:∀j y,((vs.drop o').take n)[j]?=some y→w.cell? ⟨D.β m,o'+j,none⟩=some y:=by
  intro j y hj
  rw [aO] at hj
  split at hj
  ·rw [List.getElem?_drop] at hj
   have:=O7 _ _ hj
   simp only [World.cell?,hh]
   simpa using this
  ·cases hj
 have cM:(execOp a.eval o).run C.P w = .ok (.value (if agg then .agg ⟨(vs.drop o').take n⟩ else ((vs.drop o').take n).headD undef)) w:=by
  simp only [execOp,ho,hv,Instr.loadAt,Instr.sureAddr,Sem.run_bind,Sem.run_pure,Result.andThen_ok,kL hi ha (hz ▸ h1) (hlen.trans hz.symm) hc]
 have L9:=h.inv m
 rw [hm] at L9
 refine h.val hd hl cM (.inr ⟨ir,fun _=>?_⟩) ?_ ?_ ?_ hK
 ·cases agg with
  | true=>trivial
  | false =>
   simp only [if_false,aY]
   split
   ·rename_i q k s' hf
    have Wy:=List.mem_of_find?_eq_some hf
    have QK:=List.find?_some hf
    simp at QK
    subst QK
    have:=nR rfl _ Wy rfl
    have hn:n=1:=by simpa using h1
    subst hn
    have eW:=(aF.1 this).1
    simp only [iB]
    rw [BO eW]
    have e:=(aF.1 this).2
    exact ⟨e,hL.one _ (List.getElem_mem eW)⟩
   ·trivial
 ·split
  ·rfl
  ·split <;> rfl
 ·split
  ·rfl
  ·split <;> rfl
 ·split
  ·trivial
  ·split
   ·rename_i hf;exact L9 _ (List.mem_of_find?_eq_some hf)
   ·trivial
end
end Go.Eng
namespace Go.Eng
open Go.RowKit
theorem jM {P:Program} {t:TypeId} {s b:Nat} (h:iD P t s b=true):∃e i z,P.underlying t=some (.slice e)∧P.info? e=some i∧i.size=s∧i.bytes=b∧i.zero=some z∧z.cells.size=s∧0<s:=by
 unfold iD at h
 cases he:jD P t with
 | none=>simp [he] at h
 | some e =>
  simp [he] at h
  obtain ⟨h1,h0⟩:=h
  cases hi:P.info? e with
  | none=>simp [hi] at h1
  | some i =>
   simp [hi] at h1
   obtain ⟨⟨h1,h2⟩,h3⟩:=h1
   cases hz:i.zero with
   | none=>simp [hz] at h3
   | some z=>simp [hz] at h3;exact ⟨e,i,z,gL he,hi,h1,h2,hz,h3,h0⟩
theorem jb {P:Program} (g o:Nat) (t:TypeId) (fz:Nat × Nat):∀(vs:List Value) (i:Nat) (cur:Array Value) (w:World),w.heap[g]?=some (.cells cur t fz)→o+i+vs.length≤cur.size →
  (∀j,j<cur.size→¬(fz.1≤j∧j<fz.2))→(∀v∈vs,v.oneCell'=true) →
  (storeCells ⟨g,o,none⟩ vs i).run P w = .ok () (w.setRow g (cur.toList.take (o+i)++vs++cur.toList.drop (o+i+vs.length)).toArray)
 | [],i,cur,w,hg,_,_,_=>by
  simp only [storeCells,aR,aZ,Nat.add_zero,List.take_append_drop,Array.toArray_toList]
  rw [setRow_self w g cur t fz hg]
  rfl
 | v :: rest,i,cur,w,hg,hl,hf,h1=>by
  have hi:o+i<cur.size:=by simp at hl;omega
  have Ta:(⟨g,o,none⟩:Addr).add i=⟨g,o+i,none⟩:=fJ g o i
  have Cs:w.cell? ⟨g,o+i,none⟩=some cur[o+i]:=by simp [World.cell?,hg,hi]
  have SY:w.frozen? ⟨g,o+i,none⟩=false:=by
   obtain ⟨f1,f2⟩:=fz
   have:=hf (o+i) hi
   simp only [World.frozen?,hg]
   simp only [Bool.and_eq_false_iff,decide_eq_false_iff_not]
   simp only at this
   omega
  have vB:(store ((⟨g,o,none⟩:Addr).add i) v).run P w = .ok () (w.setRow g (cur.setIfInBounds (o+i) v)):=by
   rw [Ta,run_store P w _ v _ (h1 v (by simp)),Cs]
   simp [SY,setCell_eq_setRow w g (o+i) cur t fz v hg]
  have ih:=jb (P:=P) g o t fz rest (i+1) (cur.setIfInBounds (o+i) v) (w.setRow g (cur.setIfInBounds (o+i) v)) (setRow_heap w g cur _ t _ hg) (by simp at hl ⊢;omega) (by simpa using hf) (fun x hx=>h1 x (by simp [hx]))
  simp only [storeCells,Sem.run_bind,vB,Result.andThen_ok,ih,setRow_setRow]
  congr 3
  have e:=list_seg_step cur.toList (o+i) v rest (by simp at hl ⊢;omega)
  simpa [Array.toList_setIfInBounds,Nat.add_assoc] using e
theorem lx {R:Reach} {w:World} {x:AV} {v:Value} (h:Rep R w x v) (hp:x.plain=true):dz R w x.cells v.cells.toList:=by
 cases h with
 | v =>
  simp only [AV.plain] at hp
  simp only [AV.cells]
  cases v <;> simp [Value.oneCell'] at hp <;> exact .cons rfl (.v _) .nil
 | ag h=>exact h
 | nil s=>exact .cons rfl (.nil s) .nil
 | sl a b c d=>exact .cons rfl (.sl a b c d) .nil
 | em s h=>exact .cons rfl (.em s h) .nil
 | ro h=>exact .cons rfl (.ro h) .nil
 | tu=>simp [AV.plain] at hp
 | pt=>simp [AV.plain] at hp
 | el=>simp [AV.plain] at hp
 | ab=>simp [AV.plain] at hp
 | gv _=>simp [AV.plain] at hp
 | dead=>simp [AV.plain] at hp
section
variable {P:Program} {w:World}
def Source (P:Program) (w:World) (s:Nat) (x:Value) (m:Nat) (news:List Value):Prop :=
 (∀w',(Builtin.lenOf x).run P w' = .ok m w')∧(∀w':World,w'.heap=w.heap→(Builtin.firstCells s m x).run P w' = .ok ⟨news⟩ w')∧news.length=m * s∧∀v∈news,v.oneCell'=true
theorem mT {t u ty e:TypeId} {i:TypeInfo} {du:TypeDesc} (ht:P.underlying t=some (.slice e)) (hi:P.info? e=some i) (hu:P.underlying u=some du) (vF:∀k,du ≠ .int k)
  {g n cap m:Nat} {cur:Array Value} {ce:TypeId} {fz:Nat × Nat} {x:Value} {news:List Value} (hg:w.heap[g]?=some (.cells cur ce fz)) (hf:∀j,j<cur.size→¬(fz.1≤j∧j<fz.2))
  (hx:Source P w i.size x m news) (oH:n+m≤cap) (nV:cur.size=cap * i.size) :
  (Builtin.append_ #[t,u] ty #[.slice (some ⟨g,0,none⟩) n cap,x]).run P w =
   .ok (.slice (some ⟨g,0,none⟩) (n+m) cap) (w.setRow g (cur.toList.take (n * i.size)++news++cur.toList.drop (n * i.size+news.length)).toArray):=by
 obtain ⟨h1,h2,h3,h4⟩:=hx
 have hle:n * i.size+news.length≤cur.size:=by rw [h3,nV,←Nat.add_mul];exact ar _ oH
 have vB:=jb (P:=P) g (n * i.size) ce fz news 0 cur w hg (by simpa using hle) hf h4
 simp only [Nat.add_zero] at vB
 have hz:(match du with | .int _=>true | _=>false)=false:=by cases du <;> first | rfl | exact (vF _ rfl).elim
 simp only [Builtin.append_,List.getElem?_toArray,List.getElem?_cons_zero,List.getElem?_cons_succ,Sem.run_bind,run_underlying ht,run_underlying hu,Result.andThen_ok,run_sizeOf hi,Sem.run_pure,hz,aY,if_false,h1,oH,if_true,bq,h2 w rfl]
 simp [fJ,vB]
theorem mU {t u ty e:TypeId} {i:TypeInfo} {z:Value} {du:TypeDesc} (ht:P.underlying t=some (.slice e)) (hi:P.info? e=some i) (hz:i.zero=some z) (hu:P.underlying u=some du) (vF:∀k,du ≠ .int k)
  {q:Option Addr} {n cap m:Nat} {x:Value} {mB news:List Value} (ho:∀w':World,w'.heap=w.heap→(Builtin.firstCells i.size n (.slice q n cap)).run P w' = .ok ⟨mB⟩ w')
  (hx:Source P w i.size x m news) (hg:cap<n+m) (zz:n+m≤maxLen) (hb:(n+m) * i.bytes≤140737488355328) :
  (Builtin.append_ #[t,u] ty #[.slice q n cap,x]).run P w =
   .ok (.slice (some ⟨w.heap.size,0,none⟩) (n+m) (grownCap w (n+m) cap e))
    (w.drew.alloc (.cells ((⟨mB⟩:Array Value)++⟨news⟩++Builtin.zeroCells z.cells (grownCap w (n+m) cap e - (n+m))) e)):=by
 obtain ⟨h1,h2,h3,h4⟩:=hx
 have hn:¬(n+m≤cap):=by omega
 have Tl:¬(9223372036854775807<((n:Int)+(m:Int))):=by simp only [maxLen] at zz;omega
 have Tm:¬(281474976710656<Builtin.nextslicecap (n+m) cap * i.bytes):=by
  have:=growslice_fits hg hb;omega
 have PO:(match du with | .int _=>true | _=>false)=false:=by cases du <;> first | rfl | exact (vF _ rfl).elim
 simp [Builtin.append_,run_underlying ht,run_underlying hu,PO,sizeOf,typeInfo,zeroValue,hi,hz,h1,hn,Tl,Tm,Question.forced,ho w.drew rfl,h2 w.drew rfl,newRow,grownCap]
 congr 2
 apply Array.ext'
 simp [aN]
end
section
variable {C:Ctx} {D:kf} {σ:Sg} {γ:Ga} {a:Act} {w:World}
theorem cN.newRow (h:cN C D σ γ a w) {w':World} {cur:Array Value} {e:TypeId} {fz:Nat × Nat} {s cap:Nat} {es:List AV} {ys:List Value}
  (os:w'.os=w.os) (tape:w'.tape=w.tape) (out:w'.output=w.output) (hh:w'.heap=w.heap.push (.cells cur e fz))
  (qu:∀x∈es,x.cells.length=s) (hL:dz D.R w (es.flatMap AV.cells) ys) (Bi:∀(j:Nat) (y:Value),ys[j]?=some y→cur[j]?=some y) (xA:es.length≤cap) (IW:cap≤maxLen) :
  ∃R',cN C { D with R:=R' } σ γ a w'∧Rep R' w' (.sl s es) (.slice (some ⟨w.heap.size,0,none⟩) es.length cap)∧(∀o,es.length * s≤o→¬R' w.heap.size o) ∧
   (∀b o,D.R b o→R' b o)∧fu D.R w R' w'∧w'.heap[w.heap.size]?=some (.cells cur e fz):=by
 have lq:w'.heap.size=w.heap.size+1:=by rw [hh];simp
 have hold:∀b,b<w.heap.size→w'.heap[b]?=w.heap[b]?:=fun b hb=>by rw [hh,Array.getElem?_push,aE (by omega)]
 have gX:w'.heap[w.heap.size]?=some (.cells cur e fz):=by rw [hh];simp
 let R':Reach:=fun b o=>D.R b o∨(b=w.heap.size∧o<es.length * s)
 have hS:=h.grow (w':=w') (R':=R') os tape out (by omega) hold (fun b o hr => .inl hr) (fun b o hr=>hr.imp id fun e=>by omega)
  (fun b o hr=>by
   rcases hr with hr | ⟨e,_⟩
   ·exact Nat.lt_trans (h.j0 b o hr) (by omega)
   ·omega)
 have hk:fu D.R w R' w':=fun b o hr=>⟨.inl hr,World.cell?_of_block (w:=w) (hold b (h.j0 b o hr))⟩
 refine ⟨R',hS,?_,fun o ho hr=>?_,fun b o hr => .inl hr,hk,gX⟩
 ·refine .sl rfl xA IW (iw.write qu (hL.mono hk) (fun j hj => .inr ⟨rfl,by omega⟩) (fun j y hy=>?_))
  simp only [World.cell?,gX,Nat.zero_add]
  exact Bi j y hy
 ·rcases hr with hr | ⟨_,hr⟩
  ·have:=h.j0 _ _ hr;omega
  ·omega
theorem Source.yS {P:Program} {R:Reach} {s:Nat} {fs:List AV} {x:Value} (h:Rep R w (.sl s fs) x):∃news,Source P w s x fs.length news∧dz R w (fs.flatMap AV.cells) news∧∀e∈fs,e.cells.length=s:=by
 rcases h.mz with ⟨rfl,rfl⟩ | ⟨b,off,cap,rfl,_,_,hE⟩ | ⟨rfl,ad,cap,rfl,_⟩
 rotate_left 2
 ·exact ⟨[],⟨fun _=>rfl,fun w' _=>run_firstCells_some (P:=P) w' s 0 ad 0 cap [] (by simp) (fun j v hj=>by simp at hj),by simp,by simp⟩,.nil,by simp⟩
 ·exact ⟨[],⟨fun _=>rfl,fun _ _=>rfl,by simp,by simp⟩,.nil,by simp⟩
 ·obtain ⟨ys,h1,h2,h3,h4⟩:=hE.cells
  refine ⟨ys,⟨fun _=>rfl,fun w' hw=>?_,h1,h3.one⟩,h3,h4⟩
  exact run_firstCells_some (P:=P) w' s fs.length ⟨b,off,none⟩ fs.length cap ys h1 (fun j v hj=>by rw [fJ];rw [World.cell?_of_block (w:=w) (by rw [hw])];exact h2 j v hj)
theorem kR (l:List UInt8):(l.map fg).flatMap AV.cells=l.map fg:=by
 induction l with
 | nil=>rfl
 | cons b l ih=>simp [ih];rfl
theorem nM {R:Reach} (l:List UInt8):dz R w (l.map fg) (l.map fun b => .int .u8 b.toNat):=by
 induction l with
 | nil=>exact .nil
 | cons b l ih=>exact .cons rfl (.v _) ih
theorem Source.of_string {P:Program} (b:ByteArray):Source P w 1 (.string b) b.data.toList.length (b.data.toList.map fun b => .int .u8 b.toNat):=by
 refine ⟨fun _=>?_,fun w' _=>?_,by simp,by simp;exact fun _ _=>rfl⟩
 ·rw [bsize];rfl
 ·have:b.extract 0 b.size=b:=by simp
  simp only [Builtin.firstCells,bsize,this,Sem.run_pure]
  congr 1
  apply Array.ext'
  simp
theorem cN.append (h : cN C D σ γ a w) {P : Program} {t u ty e : TypeId} {i : TypeInfo} {z : Value} {du : TypeDesc} (ht : P.underlying t = some (.slice e)) (hi : P.info? e = some i) (hz : i.zero = some z) (zi : z.cells.size = i.size) (hu : P.underlying u = some du) (vF : ∀ k, du ≠ .int k)
    {x0 x : Value} {es fs : List AV} {news : List Value} (hr : Rep D.R w (.sl i.size es) x0) (Dc : ft D.R w x0 i.size) (oJ : ∀ g, x0.ownBlock = some g → C.lp g ∧ ∀ key, eM D γ key ≠ some g)
    (hx : Source P w i.size x fs.length news) (hL : dz D.R w (fs.flatMap AV.cells) news) (qt : ∀ e ∈ fs, e.cells.length = i.size) (zz : es.length + fs.length ≤ maxLen) (hb : (es.length + fs.length) * i.bytes ≤ 140737488355328) :
    ∃ v w' R', (Builtin.append_ #[t, u] ty #[x0, x]).run P w = .ok v w' ∧ cN C { D with R := R' } σ γ a w' ∧ Rep R' w' (.sl i.size (es ++ fs)) v ∧ ft R' w' v i.size ∧ fu D.R w R' w' ∧
      ∀ g, v.ownBlock = some g → C.lp g ∧ ∀ key, eM D γ key ≠ some g := by
  have zo := hx.2.2.1
  -- the row P5
  have grow : ∀ (q : Option Addr) (cap : Nat) (mB : List Value), cap < es.length + fs.length → (∀ w' : World, w'.heap = w.heap → (Builtin.firstCells i.size es.length (.slice q es.length cap)).run P w' = .ok ⟨mB⟩ w') →
      dz D.R w (es.flatMap AV.cells) mB → (∀ e ∈ es, e.cells.length = i.size) → mB.length = es.length * i.size →
      ∃ v w' R', (Builtin.append_ #[t, u] ty #[.slice q es.length cap, x]).run P w = .ok v w' ∧ cN C { D with R := R' } σ γ a w' ∧ Rep R' w' (.sl i.size (es ++ fs)) v ∧ ft R' w' v i.size ∧ fu D.R w R' w' ∧
        ∀ g, v.ownBlock = some g → C.lp g ∧ ∀ key, eM D γ key ≠ some g := by
    intro q cap mB eW ho IY qu qp
    have cM := mU (ty := ty) ht hi hz hu vF ho hx eW zz hb
    have yf := grownCap_ge w (es.length + fs.length) cap e
    have hle := grownCap_le_maxLen w (es.length + fs.length) cap e zz
    obtain ⟨R', hS, hR, hn, _, hk, hh⟩ := h.newRow (w' := w.drew.alloc (.cells ((⟨mB⟩ : Array Value) ++ ⟨news⟩ ++ Builtin.zeroCells z.cells (grownCap w (es.length + fs.length) cap e - (es.length + fs.length))) e))
      (es := es ++ fs) (s := i.size) (ys := mB ++ news) (cap := grownCap w (es.length + fs.length) cap e) rfl rfl rfl rfl
      (fun y hy => by rcases List.mem_append.1 hy with hy | hy; · exact qu y hy
                      · exact qt y hy)
      (by rw [List.flatMap_append]; exact IY.append hL)
      (fun j y hj => by
        rw [Array.getElem?_append_left (by simp; have := (aF.1 hj).1; simpa using this)]
        simpa using hj) (by simpa using yf) hle
    rw [ao] at hR hn
    refine ⟨_, _, R', cM, hS, hR, .inr ⟨_, _, _, _, _, _, rfl, hh, by simp, ?_, yf, hle, hn⟩, hk, fun g hg => ?_⟩
    · simp only [Array.size_append, List.size_toArray, size_zeroCells, zi, qp, zo, ← Nat.add_mul]
      congr 1; omega
    · simp [Value.ownBlock] at hg
      subst hg
      exact ⟨.inr h.ext.size, fun key hk => by have := h.lt hk; omega⟩
  rcases hr.KN Dc with ⟨rfl, rfl⟩ | ⟨b, off, cap, rfl, qY, vG, hE⟩
  · by_cases hm : fs.length = 0
    · have Mc : fs = [] := aS hm
      subst Mc
      refine ⟨.slice none 0 0, w, D.R, ?_, by cases D; exact h, .nil _, .inl rfl, fu.refl _ _, by simp [Value.ownBlock]⟩
      obtain ⟨h1, h2, h3, h4⟩ := hx
      have PO : (match du with | .int _ => true | _ => false) = false := by cases du <;> first | rfl | exact (vF _ rfl).elim
      have Ct := h2 w rfl
      simp only [aZ] at h1 Ct
      simp [Builtin.append_, run_underlying ht, run_underlying hu, PO, sizeOf, typeInfo, hi, h1, Ct]
    · exact grow none 0 [] (by simp; omega) (fun _ _ => rfl) .nil (by simp) (by simp)
  · rcases Dc with e0 | ⟨g, n, sH, cur, ce, fz, e0, hg, hfz, xy, Pt, WY, nU⟩
    · cases e0
    · cases e0
      obtain ⟨mB, qp, Un, IY, qu⟩ := hE.cells
      simp only [Nat.zero_add] at Un
      by_cases oH : es.length + fs.length ≤ cap
      · obtain ⟨vq, xv⟩ := oJ b rfl
        have cM := mT (ty := ty) ht hi hu vF hg hfz hx oH xy
        have hle : (es.length + fs.length) * i.size ≤ cap * i.size := ar _ oH
        rw [Nat.add_mul] at hle
        let mI : Array Value := (cur.toList.take (es.length * i.size) ++ news ++ cur.toList.drop (es.length * i.size + news.length)).toArray
        have PT : ∀ j, j < es.length * i.size → mI[j]? = cur[j]? := fun j hj => by
          have h1 : j < (cur.toList.take (es.length * i.size)).length := by simp; omega
          simp only [mI, List.getElem?_toArray, aN]
          rw [List.getElem?_append_left h1, aO, aG hj]; simp
        have Pr : ∀ j y, news[j]? = some y → mI[es.length * i.size + j]? = some y := fun j y hj => by
          have h1 : (cur.toList.take (es.length * i.size)).length = es.length * i.size := by simp; omega
          have h2 := (aF.1 hj).1
          simp only [mI, List.getElem?_toArray, aN]
          rw [aK (by omega), h1, Nat.add_sub_cancel_left, List.getElem?_append_left h2]; exact hj
        have Cs : ∀ j, (w.setRow b mI).cell? ⟨b, j, none⟩ = mI[j]? := fun j => cell_setRow_same w b j cur mI ce fz hg
        let R' : Reach := fun c o => D.R c o ∨ (c = b ∧ o < (es.length + fs.length) * i.size)
        have hk : fu D.R w R' (w.setRow b mI) := fun c o vC => ⟨.inl vC, by
          by_cases Uo : c = b
          · subst Uo
            have ho : o < es.length * i.size := by
              rcases Nat.lt_or_ge o (es.length * i.size) with ho | ho
              · exact ho
              · exact (nU o ho vC).elim
            rw [Cs, PT o ho]
            simp [World.cell?, hg]
          · exact cell_setRow_other w b mI ⟨c, o, none⟩ Uo⟩
        have Mi : b < w.heap.size := (Array.getElem?_eq_some_iff.1 hg).1
        have hS := h.world (w' := w.setRow b mI) (R' := R') rfl rfl rfl (by simp) (fun c hc De => setRow_other w b c mI (fun e => by
            subst e
            rcases De with ⟨key, jg⟩ | De
            · exact xv key jg
            · exact De vq)) hk
          (fun c o vC => vC.imp id fun ⟨e, _⟩ => by subst e; exact ⟨vq, xv⟩)
          (fun c o vC => by
            rw [setRow_size]
            rcases vC with vC | ⟨e, _⟩
            · exact h.j0 c o vC
            · omega)
        refine ⟨_, _, R', cM, hS, ?_, .inr ⟨_, _, _, _, _, _, rfl, setRow_heap w b cur mI ce fz hg, ?_, ?_, oH, vG, fun o ho vC => ?_⟩, hk, fun g' kn => ?_⟩
        · rw [← ao]
          refine .sl rfl (by simpa using oH) vG ?_
          refine (hE.mono hk).append (iw.write qt (hL.mono hk) (fun j hj => .inr ⟨rfl, ?_⟩) (fun j y hj => ?_))
          · rw [Nat.add_mul]; omega
          · rw [Cs, Nat.zero_add]; exact Pr j y hj
        · intro o ho
          refine hfz o ?_
          simp [mI] at ho
          omega
        · simp [mI]; omega
        · rcases vC with vC | ⟨_, vC⟩
          · exact nU o (by rw [Nat.add_mul] at ho; omega) vC
          · omega
        · simp [Value.ownBlock] at kn
          subst kn
          exact ⟨vq, xv⟩
      · refine grow (some ⟨b, 0, none⟩) cap mB (by omega) (fun w' hw => ?_) IY qu qp
        exact run_firstCells_some (P := P) w' i.size es.length ⟨b, 0, none⟩ es.length cap mB qp (fun j v hj => by
          rw [fJ, Nat.zero_add, World.cell?_of_block (w := w) (by rw [hw])]; exact Un j v hj)
end
end Go.Eng
namespace Go.Eng
open Go.RowKit
theorem gA {X:Type} (σ:Nat→X) {a b:Nat} (x y:X) (h:a≠b):cI (cI σ a x) b y=cI (cI σ b y) a x:=by
 funext k
 simp only [cI]
 by_cases h1:k=a
 ·subst h1;simp [h]
 ·by_cases h2:k=b
  ·subst h2;simp [Ne.symm h]
  ·simp [h1,h2]
theorem ML {s:ByteArray} {l:List UInt8} (h:s.data.toList=l):s=⟨⟨l⟩⟩:=by
 cases s with
 | mk d=>cases d with
  | mk t=>simp at h;rw [h]
section
variable {C:Ctx} {D:kf} {σ:Sg} {γ:Ga} {a:Act} {w:World}
theorem cN.rW (h:cN C D σ γ a w) {d k s:Nat} {v:Value} {x:AV} (hd:d<C.nt) (hk:γ (lk k) = .no) (hr:Rep D.R w x v) (ht:ft D.R w v s) (hg:∀g,v.ownBlock=some g→C.lp g∧∀key,eM D γ key≠some g) :
  cN C { D with τ:=cI D.τ (lk k) v } (bP σ [d,lk k] [x,.dead]) (bP γ [d,lk k] [.cD k s,.live s]) (a.put (some d) v) w:=by
 have h1:=h.xg hk ht hg
 have h2:=h1.dead (k:=lk k) (by rw [bF];rfl)
 refine h2.put (g := .cD k s) hd (.inr ⟨hr,?_⟩) rfl rfl ?_
 ·intro _;show v=cI D.τ (lk k) v (lk k)∧v.oneCell'=true
  rw [bF]
  exact ⟨rfl,by rcases ht with rfl | ⟨_,_,_,_,_,_,rfl,_⟩ <;> rfl⟩
 ·show (cI γ (lk k) (.live s) (lk k)).eD=true
  rw [bF];rfl
variable {o:Oper} {d:Nat} {K:Act→World→Prop} {Q:Exit→Act→World→Prop} (h:cN C D σ γ a w) (hd:o.dst=some d) (hl:d<C.nt)
include h hd hl
theorem JB {k s:Nat} (ho:o.op = .move (.const (.slice none 0 0))∨o.op = .assign (.const (.slice none 0 0))) (hk:γ (lk k) = .no)
  (hK:∀D' a' w',cN C D' (bP σ [d,lk k] [.sl s [],.dead]) (bP γ [d,lk k] [.cD k s,.live s]) a' w'→K a' w'):o.wp C.P a w K Q:=by
 have hr:(execOp a.eval o).run C.P w = .ok (.value (.slice none 0 0)) w:=by rcases ho with e | e <;> simp [execOp,e,Act.eval]
 unfold Oper.wp
 rw [hr,Oper.upon_value,hd]
 exact hK _ _ _ (h.rW hl hk (.nil s) (.inl rfl) (by simp [Value.ownBlock]))
omit h in
theorem cN.DZ {D':kf} {w':World} {v:Value} {s:AV} (hr:(execOp a.eval o).run C.P w = .ok (.value v) w') (hS:cN C D' σ γ a w') (hs:Rep D'.R w' s v)
  (hK:∀D' a' w',cN C D' (cI σ d s) (cI γ d .no) a' w'→K a' w'):o.wp C.P a w K Q:=by
 unfold Oper.wp
 rw [hr,Oper.upon_value,hd]
 exact hK _ _ _ (hS.put hl (.plain hs) rfl rfl trivial)
theorem B8 {x:Operand} {lo hi:Option Operand} {r:cR} {t e:TypeId} {inf:TypeInfo} {s:Nat} {es:List AV} {l u:Nat} (ho:o.op = .slice t x lo hi none) (ht:C.P.underlying t=some (.slice e)) (Bg:C.P.info? e=some inf) (hz:inf.size=s)
  (hx:bU x r=true) (fy:small C.nt [x]=true) (hr:r.ev C.E σ = .sl s es)
  (qp:(lo=none∧l=0)∨∃y k,lo=some y∧a.eval y = .int k (l:Int)) (QR:(hi=none∧u=es.length)∨∃y k,hi=some y∧a.eval y = .int k (u:Int)) (h1:l≤u) (h2:u≤es.length)
  (hK:∀D' a' w',cN C D' (cI σ d (.sl s ((es.take u).drop l))) (cI γ d .no) a' w'→K a' w'):o.wp C.P a w K Q:=by
 have e1:=(h.gE hx fy).rep (by rw [hr];simp)
 rw [hr] at e1
 have hb:∀cap,es.length≤cap→(Instr.sliceBounds true es.length cap (lo.map a.eval) (hi.map a.eval) none).run C.P w = .ok (l,u,cap) w:=by
  intro cap qY
  have hu:u≤cap:=by omega
  unfold Instr.sliceBounds
  rcases qp with ⟨rfl,rfl⟩ | ⟨y,k,rfl,hy⟩ <;> rcases QR with ⟨rfl,rfl⟩ | ⟨y',k',rfl,QF⟩ <;>
   simp [Instr.sliceBound,asIntOf, *]
 rcases e1.mz with ⟨rfl,hv⟩ | ⟨b,off,cap,hv,qY,vG,hE⟩ | ⟨rfl,ad,cap,hv,vG⟩
 rotate_left 2
 ·have J7:l=0:=by simp at h2;omega
  have Pe:u=0:=by simpa using h2
  have vH:=hb cap (by simp)
  have cM:(execOp a.eval o).run C.P w = .ok (.value (.slice (some ad) 0 cap)) w:=by
   simp only [aZ] at vH
   simp only [execOp,ho,hv,Instr.sliceAt,Instr.slice,Sem.run_bind,run_underlying ht,Result.andThen_ok,Option.map_none,vH,run_sizeOf Bg,Sem.run_pure,J7,Pe]
   simp [Addr.add]
  refine h.fR hd hl cM ?_ hK
  simp only [List.take_nil,List.drop_nil]
  exact .em s vG
 ·have J7:l=0:=by simp at h2;omega
  have Pe:u=0:=by simpa using h2
  have vH:=hb 0 (by simp)
  have cM:(execOp a.eval o).run C.P w = .ok (.value (.slice none 0 0)) w:=by
   simp only [aZ] at vH
   simp only [execOp,ho,hv,Instr.sliceAt,Instr.slice,Sem.run_bind,run_underlying ht,Result.andThen_ok,Option.map_none,vH,run_sizeOf Bg,Sem.run_pure,J7,Pe]
   simp
  refine h.fR hd hl cM ?_ hK
  simp only [List.take_nil,List.drop_nil]
  exact .nil s
 ·have cM:(execOp a.eval o).run C.P w = .ok (.value (.slice (some ⟨b,if cap=l then off else off+l * s,none⟩) (u - l) (cap - l))) w:=by
   simp only [execOp,ho,hv,Instr.sliceAt,Instr.slice,Sem.run_bind,run_underlying ht,Result.andThen_ok,Option.map_none,hb cap qY,run_sizeOf Bg,Sem.run_pure,hz]
   split <;> simp [*,fJ]
  have hlen:((es.take u).drop l).length=u - l:=by simp;omega
  refine h.fR hd hl cM ?_ hK
  rw [←hlen]
  refine .sl rfl (by rw [hlen];omega) (by omega) ?_
  by_cases hc:cap=l
  ·have:(es.take u).drop l=[]:=aS (by rw [hlen];omega)
   rw [this];exact .nil _ _ _
  ·rw [aE hc]
   exact (hE.take u).drop l
theorem B7 {x:Operand} {lo hi:Option Operand} {r:cR} {t:TypeId} {b:ByteArray} {l u:Nat} (ho:o.op = .slice t x lo hi none) (ht:C.P.underlying t=some .string)
  (hx:bU x r=true) (fy:small C.nt [x]=true) (hr:r.ev C.E σ = .v (.string b))
  (qp:(lo=none∧l=0)∨∃y k,lo=some y∧a.eval y = .int k (l:Int)) (QR:(hi=none∧u=b.data.toList.length)∨∃y k,hi=some y∧a.eval y = .int k (u:Int)) (h1:l≤u) (h2:u≤b.data.toList.length)
  (hK:∀D' a' w',cN C D' (cI σ d (.v (.string ⟨⟨(b.data.toList.take u).drop l⟩⟩))) (cI γ d .no) a' w'→K a' w'):o.wp C.P a w K Q:=by
 have e1:=(h.gE hx fy).rep (by rw [hr];simp)
 rw [hr] at e1
 rw [bsize] at QR h2
 have hb:(Instr.sliceBounds false b.size b.size (lo.map a.eval) (hi.map a.eval) none).run C.P w = .ok (l,u,b.size) w:=by
  unfold Instr.sliceBounds
  rcases qp with ⟨rfl,rfl⟩ | ⟨y,k,rfl,hy⟩ <;> rcases QR with ⟨rfl,rfl⟩ | ⟨y',k',rfl,QF⟩ <;>
   simp [Instr.sliceBound,asIntOf, *]
 have cM:(execOp a.eval o).run C.P w = .ok (.value (.string (b.extract l u))) w:=by
  simp only [execOp,ho,e1.fF,Instr.sliceAt,Instr.slice,Sem.run_bind,run_underlying ht,Result.andThen_ok,Option.map_none,hb,Sem.run_pure]
  simp [hb]
 have he:b.extract l u=⟨⟨(b.data.toList.take u).drop l⟩⟩:=ML (by rw [Lib.extract_data,List.drop_take])
 rw [he] at cM
 exact h.fR hd hl cM (.v _) hK
theorem N0 {x:Operand} {r:cR} {t u e:TypeId} {l:List UInt8} (ho:o.op = .convert t u x) (ht:C.P.underlying t=some (.slice e)) (he:C.P.underlying e=some (.int .u8)) (hu:C.P.underlying u=some .string)
  (hx:bU x r=true) (fy:small C.nt [x]=true) (hr:r.ev C.E σ = .sl 1 (l.map fg)) (hK:∀D' a' w',cN C D' (cI σ d (.v (.string ⟨⟨l⟩⟩))) (cI γ d .no) a' w'→K a' w'):o.wp C.P a w K Q:=by
 have e1:=(h.gE hx fy).rep (by rw [hr];simp)
 rw [hr] at e1
 have cM:(execOp a.eval o).run C.P w = .ok (.value (.string ⟨⟨l⟩⟩)) w:=by
  rcases e1.mz with ⟨hn,hv⟩ | ⟨b,off,cap,hv,qY,vG,hE⟩ | ⟨hn,ad,cap,hv,vG⟩
  rotate_left 2
  ·have:l=[]:=by simpa using hn
   subst this
   have hc:=run_convert_bytes_back (P:=C.P) w t u e ad cap [] ht he hu (fun j hj=>by simp at hj)
   simp only [aZ] at hc
   simp only [execOp,ho,hv,Sem.run_bind,hc,Result.andThen_ok,Sem.run_pure]
  ·have:l=[]:=by simpa using hn
   subst this
   simp only [execOp,ho,hv,Sem.run_bind,run_convert_bytes_nil w t e ht he 0 0 u hu,Result.andThen_ok,Sem.run_pure]
   rfl
  ·obtain ⟨ys,h1,h2,h3,h4⟩:=hE.cells
   rw [kR] at h3
   rw [aH] at hv
   have hc:=run_convert_bytes_back (P:=C.P) w t u e ⟨b,off,none⟩ cap l ht he hu (fun j hj=>by
    rw [fJ]
    obtain ⟨y,wq,_,HB⟩:=h3.get j (fg l[j]) (by simp [hj])
    rw [h2 j y wq,HB.fF])
   simp only [execOp,ho,hv,Sem.run_bind,hc,Result.andThen_ok,Sem.run_pure]
 exact h.fR hd hl cM (.v _) hK
omit hd hl in
theorem cN.vT {b:ByteArray} {u e:TypeId} {t:TypeId} (ht:C.P.underlying t=some .string) (hu:C.P.underlying u=some (.slice e)) (he:C.P.underlying e=some (.int .u8)) (hb:b.data.toList.length≤maxLen) :
  ∃v w' R',(convert t u (.string b)).run C.P w = .ok v w'∧cN C { D with R:=R' } σ γ a w'∧Rep R' w' (.sl 1 (b.data.toList.map fg)) v∧ft R' w' v 1∧fu D.R w R' w' ∧
   ∀g,v.ownBlock=some g→C.lp g∧∀key,eM D γ key≠some g:=by
 have cM:=run_bytes_of_string (P:=C.P) w t u e b ht hu he
 have yf:=grownCap_ge w b.size 0 e
 have hle:=grownCap_le_maxLen w b.size 0 e (by rwa [bsize] at hb)
 obtain ⟨R',hS,hR,hn,_,hk,hh⟩:=h.newRow (w':=w.drew.alloc (.cells (bytesRow b (grownCap w b.size 0 e)) e ((bytesRow b (grownCap w b.size 0 e)).size,(bytesRow b (grownCap w b.size 0 e)).size+1)))
  (es:=b.data.toList.map fg) (s:=1) (ys:=b.data.toList.map fun x => .int .u8 x.toNat) (cap:=grownCap w b.size 0 e) rfl rfl rfl rfl
  (fun y hy=>by obtain ⟨x,_,rfl⟩:=aP.1 hy;rfl) (by rw [kR];exact nM _)
  (fun j y hj=>by
   have eW:=(aF.1 hj).1
   unfold bytesRow
   rw [Array.getElem?_append_left (by simp at eW ⊢;exact eW)]
   simpa using hj) (by simp only [aH,bsize];exact yf) hle
 simp only [aH,bsize] at hR hn
 have lq:(bytesRow b (grownCap w b.size 0 e)).size=grownCap w b.size 0 e * 1:=by
  have:b.data.size=b.size:=rfl
  simp only [bytesRow,Array.size_append,Array.size_map,Array.size_replicate,this];omega
 refine ⟨_,_,R',cM,hS,hR,.inr ⟨_,_,_,_,_,_,rfl,hh,by simp only;intro o ho;omega,lq,yf,hle,hn⟩,hk,fun g hg=>?_⟩
 simp [Value.ownBlock] at hg
 subst hg
 exact ⟨.inr h.ext.size,fun key hk=>by have:=h.lt hk;omega⟩
theorem NF {x:Operand} {r:cR} {t u e:TypeId} {b:ByteArray} (ho:o.op = .convert t u x) (ht:C.P.underlying t=some .string) (hu:C.P.underlying u=some (.slice e)) (he:C.P.underlying e=some (.int .u8))
  (hx:bU x r=true) (fy:small C.nt [x]=true) (hr:r.ev C.E σ = .v (.string b)) (hb:b.data.toList.length≤maxLen) (hK:∀D' a' w',cN C D' (cI σ d (.sl 1 (b.data.toList.map fg))) (cI γ d .no) a' w'→K a' w'):o.wp C.P a w K Q:=by
 have e1:=(h.gE hx fy).rep (by rw [hr];simp)
 rw [hr] at e1
 obtain ⟨v,w',R',cM,hS,hR,_⟩:=h.vT ht hu he hb
 exact cN.DZ hd hl (v:=v) (w':=w') (by simp only [execOp,ho,e1.fF,Sem.run_bind,cM,Result.andThen_ok,Sem.run_pure]) hS hR hK
theorem K8 {x:Operand} {r:cR} {t u e:TypeId} {b:ByteArray} {k:Nat} (ho:o.op = .convert t u x) (ht:C.P.underlying t=some .string) (hu:C.P.underlying u=some (.slice e)) (he:C.P.underlying e=some (.int .u8))
  (hx:bU x r=true) (fy:small C.nt [x]=true) (hr:r.ev C.E σ = .v (.string b)) (hb:b.data.toList.length≤maxLen) (hk:γ (lk k) = .no)
  (hK:∀D' a' w',cN C D' (bP σ [d,lk k] [.sl 1 (b.data.toList.map fg),.dead]) (bP γ [d,lk k] [.cD k 1,.live 1]) a' w'→K a' w'):o.wp C.P a w K Q:=by
 have e1:=(h.gE hx fy).rep (by rw [hr];simp)
 rw [hr] at e1
 obtain ⟨v,w',R',cM,hS,hR,hT,_,hG⟩:=h.vT ht hu he hb
 unfold Oper.wp
 rw [show (execOp a.eval o).run C.P w = .ok (.value v) w' by simp only [execOp,ho,e1.fF,Sem.run_bind,cM,Result.andThen_ok,Sem.run_pure],Oper.upon_value,hd]
 exact hK _ _ _ (hS.rW hl hk hR hT hG)
theorem E9 {x y:Operand} {r q:cR} {t u e:TypeId} {i:TypeInfo} {z:Value} {du:TypeDesc} {k k' s:Nat} {es fs:List AV} (ho:o.op = .call { callee := .builtin .append,args:=#[x,y],argTypes:=#[t,u] })
  (ht:C.P.underlying t=some (.slice e)) (hi:C.P.info? e=some i) (hz:i.zero=some z) (zi:z.cells.size=i.size) (hu:C.P.underlying u=some du) (vF:∀k,du ≠ .int k) (hs:i.size=s)
  (hx:bU x r=true) (fy:small C.nt [x]=true) (hr:r.ev C.E σ = .sl s es) (hg:r.gh γ = .cD k s) (kO:γ (lk k) = .live s) (jW:γ (lk k') = .no) (fO:k≠k')
  {news:List Value} (so:Source C.P w s (a.eval y) fs.length news) (hL:dz D.R w (fs.flatMap AV.cells) news) (qt:∀e∈fs,e.cells.length=s) (zz:es.length+fs.length≤maxLen) (hb:(es.length+fs.length) * i.bytes≤140737488355328)
  (hK:∀D' a' w',cN C D' (bP σ [d,lk k,lk k'] [.sl s (es++fs),.dead,.dead]) (bP γ [d,lk k,lk k'] [.cD k' s,.used,.live s]) a' w'→K a' w'):o.wp C.P a w K Q:=by
 subst hs
 have e0:=h.gE hx fy
 have e1:=e0.rep (by rw [hr];simp)
 have e2:=e0.gh (by rw [hr];simp) (by rw [hr];simp)
 rw [hr] at e1
 rw [hg] at e2
 simp only [iB] at e2
 replace e2:=e2.1
 have hT:=h.cD _ _ kO
 rw [←e2] at hT
 have h1:=h.kill kO
 have oU:eM D γ (lk k)=(a.eval x).ownBlock:=by rw [gG kO,←e2]
 have oJ:∀g,(a.eval x).ownBlock=some g→C.lp g∧∀key,eM D (cI γ (lk k) .used) key≠some g:=fun g kn=>by
  refine ⟨h.own (lk k) g (oU.trans kn),fun key jg=>?_⟩
  by_cases e:key=lk k
  ·subst e;simp [eM,bF] at jg
  ·have:eM D γ key=some g:=by unfold eM at jg ⊢;rwa [bG _ _ e] at jg
   exact e (h.rR (key:=lk k) (by rw [kO];rfl) (oU.trans kn) this).symm
 obtain ⟨v,w',R',cM,hS,hR,P1,_,hG⟩:=h1.append (ty:=o.type) ht hi hz zi hu vF e1 hT oJ so hL qt zz hb
 unfold Oper.wp
 rw [show (execOp a.eval o).run C.P w = .ok (.value v) w' by simp [execOp,ho,resolve,invoke,builtin,cM],Oper.upon_value,hd]
 have vE:cI γ (lk k) .used (lk k') = .no:=by rw [bG _ _ (fun e=>fO (fT e).symm)];exact jW
 have hF:=(hS.dead (k:=lk k) (by rw [bF];rfl)).rW hl vE hR P1 hG
 have hc:lk k'≠lk k:=fun e=>fO (fT e).symm
 have Dz:bP σ [d,lk k,lk k'] [.sl i.size (es++fs),.dead,.dead]=bP (cI σ (lk k) .dead) [d,lk k'] [.sl i.size (es++fs),.dead]:=by
  simp only [bP];rw [gA σ _ _ hc]
 have zR:bP γ [d,lk k,lk k'] [.cD k' i.size,.used,.live i.size]=bP (cI γ (lk k) .used) [d,lk k'] [.cD k' i.size,.live i.size]:=by
  simp only [bP];rw [gA γ _ _ hc]
 rw [Dz,zR] at hK
 exact hK _ _ _ hF
theorem JF {y:Operand} {t u e:TypeId} {i:TypeInfo} {z:Value} {du:TypeDesc} {k' s:Nat} {fs:List AV} (ho:o.op = .call { callee := .builtin .append,args:=#[.const (.slice none 0 0),y],argTypes:=#[t,u] })
  (ht:C.P.underlying t=some (.slice e)) (hi:C.P.info? e=some i) (hz:i.zero=some z) (zi:z.cells.size=i.size) (hu:C.P.underlying u=some du) (vF:∀k,du ≠ .int k) (hs:i.size=s)
  (jW:γ (lk k') = .no) {news:List Value} (so:Source C.P w s (a.eval y) fs.length news) (hL:dz D.R w (fs.flatMap AV.cells) news) (qt:∀e∈fs,e.cells.length=s) (zz:fs.length≤maxLen) (hb:fs.length * i.bytes≤140737488355328)
  (hK:∀D' a' w',cN C D' (bP σ [d,lk k'] [.sl s fs,.dead]) (bP γ [d,lk k'] [.cD k' s,.live s]) a' w'→K a' w'):o.wp C.P a w K Q:=by
 subst hs
 obtain ⟨v,w',R',cM,hS,hR,P1,_,hG⟩:=h.append (ty:=o.type) (x0 := .slice none 0 0) (es:=[]) ht hi hz zi hu vF (.nil _) (.inl rfl) (by simp [Value.ownBlock]) so hL qt (by simpa using zz) (by simpa using hb)
 unfold Oper.wp
 rw [show (execOp a.eval o).run C.P w = .ok (.value v) w' by
  have hc:a.eval (.const (.slice none 0 0)) = .slice none 0 0:=rfl
  simp [execOp,ho,resolve,invoke,builtin,hc,cM],Oper.upon_value,hd]
 rw [bg] at hR
 exact hK _ _ _ (hS.rW hl jW hR P1 hG)
end
end Go.Eng
namespace Go.Eng
open Go.RowKit
section
variable {R:Reach} {w:World}
theorem wv (l:List Value):∀(off k:Nat) (cells:Array Value),off+k+l.length≤cells.size →
  ((l.zipIdx k).foldl (fun cs p=>cs.setIfInBounds (off+p.2) p.1) cells).toList=cells.toList.take (off+k)++l++cells.toList.drop (off+k+l.length):=by
 induction l with
 | nil=>intro off k cells _;simp
 | cons v l ih =>
  intro off k cells hl
  simp only [List.zipIdx_cons,List.foldl_cons]
  rw [ih off (k+1) (cells.setIfInBounds (off+k) v) (by simp at hl ⊢;omega)]
  have e:=list_seg_step cells.toList (off+k) v l (by simp at hl ⊢;omega)
  simpa [Array.toList_setIfInBounds,Nat.add_assoc] using e
theorem zP (place:Nat→Option (Nat × Nat)):∀(parts:List (Nat × Value)) (pl:List (Nat × Nat)) (xs:List AV) (z cs:List AV) (cells:Array Value),dz R w z cells.toList→parts.length=pl.length →
  (∀(j:Nat) (p:Nat × Value) (q:Nat × Nat),parts[j]?=some p→pl[j]?=some q→place p.1=some q)→(∀(j:Nat) (p:Nat × Value) (x:AV),parts[j]?=some p→xs[j]?=some x→Rep R w x p.2)→mF z pl xs=some cs →
  ∃fE,Instr.fill place cells parts=some fE∧dz R w cs fE.toList
 | [],pl,xs,z,cs,cells,hz,hl,_,_,hf=>by
  have:pl=[]:=aS hl.symm
  subst this
  cases xs with
  | nil=>simp [mF] at hf;subst hf;exact ⟨cells,rfl,hz⟩
  | cons=>simp [mF] at hf
 | (i,v) :: parts,pl,xs,z,cs,cells,hz,hl,hp,hr,hf=>by
  cases pl with
  | nil=>simp at hl
  | cons q pl =>
   obtain ⟨off,n⟩:=q
   cases xs with
   | nil=>simp [mF] at hf
   | cons x xs =>
    simp only [mF] at hf
    split at hf
    ·rename_i hc
     obtain ⟨xA,IW,Zd⟩:=hc
     have hx:=lx (hr 0 _ _ rfl rfl) xA
     have QG:=hx.length
     have HA:=hz.length
     simp only [Array.length_toList] at QG HA
     have IM:=hp 0 _ _ rfl rfl
     simp only at IM
     have hs:v.cells.size=n:=by omega
     have nV:¬(v.cells.size≠n∨off+v.cells.size > cells.size):=by omega
     have ql:=wv v.cells.toList off 0 cells (by simp;omega)
     have V7:dz R w (eK z off x.cells) (v.cells.zipIdx.foldl (fun cs p=>cs.setIfInBounds (off+p.2) p.1) cells).toList:=by
      have e:(v.cells.zipIdx.foldl (fun cs p=>cs.setIfInBounds (off+p.2) p.1) cells)=(v.cells.toList.zipIdx 0).foldl (fun cs p=>cs.setIfInBounds (off+p.2) p.1) cells:=by
       rw [←Array.foldl_toList];simp
      rw [e,ql]
      have hle:v.cells.toList.length=x.cells.length:=by simp;omega
      simp only [eK,Nat.add_zero,hle]
      exact ((hz.take off).append hx).append (hz.drop _)
     obtain ⟨fE,h1,h2⟩:=zP place parts pl xs _ cs _ V7 (by simpa using hl) (fun j p q h1 h2=>hp (j+1) p q (by simpa using h1) (by simpa using h2)) (fun j p y h1 h2=>hr (j+1) p y (by simpa using h1) (by simpa using h2)) hf
     refine ⟨fE,?_,h2⟩
     simp only [Instr.fill,IM]
     rw [aE (by simpa using nV)]
     exact h1
    ·cases hf
end
section
variable {C:Ctx} {D:kf} {σ:Sg} {γ:Ga} {a:Act} {w:World}
theorem cN.yX (h:cN C D σ γ a w) {w':World} {cs:List Value} {DM:List AV} {e:TypeId} (hw:w'={ w with heap:=w.heap.push (.cells ⟨cs⟩ e) }) (hL:dz D.R w DM cs) :
  cN C D σ γ a w'∧iU D.R w' (.ag DM) w.heap.size cs∧C.lp w.heap.size∧(∀key,eM D γ key≠some w.heap.size):=by
 subst hw
 have hold:∀b,b<w.heap.size→(w.heap.push (.cells ⟨cs⟩ e))[b]?=w.heap[b]?:=fun b hb=>by rw [Array.getElem?_push,aE (by omega)]
 have hS:=h.grow (w':={ w with heap:=w.heap.push (.cells ⟨cs⟩ e) }) (R':=D.R) rfl rfl rfl (by simp) hold (fun _ _ h=>h) (fun _ _ h => .inl h) (fun b o hr=>by simp;have:=h.j0 b o hr;omega)
 have hk:fu D.R w D.R { w with heap:=w.heap.push (.cells ⟨cs⟩ e) }:=fun b o hr=>⟨hr,World.cell?_of_block (w:=w) (hold b (h.j0 b o hr))⟩
 exact ⟨hS,⟨e,by simp,.inr ⟨DM,rfl,by rw [List.take_of_length_le (by rw [hL.length];exact Nat.le_refl _)];exact hL.mono hk⟩,fun o hr=>by have:=h.j0 _ _ hr;omega⟩,.inr h.ext.size,fun key hk=>by have:=h.lt hk;omega⟩
theorem lV {P:Program} {t:TypeId} {z:List AV} (h:nZ P t z=true):∃i v,P.info? t=some i∧i.zero=some v∧fx v.cells.toList z=true:=by
 unfold nZ at h
 cases hi:P.info? t with
 | none=>simp [hi] at h
 | some i =>
  cases hz:i.zero with
  | none=>simp [hi,hz] at h
  | some v=>simp [hi,hz] at h;exact ⟨i,v,rfl,hz,h⟩
theorem oi {P:Program} {t:TypeId} {i:TypeInfo} {v:Value} (hi:P.info? t=some i) (hz:i.zero=some v) (w:World):(zeroValue t).run P w = .ok v w:=by simp [zeroValue,typeInfo,hi,hz]
theorem pg:∀{xs:List Value} {ys:List AV},fx xs ys=true→∀(i:Nat) (y:AV),ys[i]?=some y→∃x,xs[i]?=some x∧ja x y=true
 | [],[],_,i,y,h=>by simp at h
 | x :: xs,z :: ys,hc,0,y,h=>by simp [fx] at hc;simp at h;subst h;exact ⟨x,rfl,hc.1⟩
 | x :: xs,z :: ys,hc,i+1,y,h=>by simp [fx] at hc;simpa using pg hc.2 i y (by simpa using h)
 | [],_ :: _,h,_,_,_=>by simp [fx] at h
 | _ :: _,[],h,_,_,_=>by simp [fx] at h
theorem vL {x:Value} {s:Nat} (h:ja x (.sl s [])=true):x = .slice none 0 0:=by
 unfold ja at h;split at h <;> simp_all
theorem cN.Ca (ts:List (Nat × (Nat × Nat))):∀{D:kf} {σ:Sg} {γ:Ga} {a:Act} {w:World},cN C D σ γ a w→(∀t∈ts,γ (lk t.2.1) = .no)→(ts.map (·.2.1)).Nodup →
  ∃D',cN C D' (bP σ (ts.map fun t=>lk t.2.1) (ts.map fun _ => .dead)) (bP γ (ts.map fun t=>lk t.2.1) (ts.map fun t => .live t.2.2)) a w∧D'.R=D.R∧(∀key,eM D γ key=none∨eM D' (bP γ (ts.map fun t=>lk t.2.1) (ts.map fun t => .live t.2.2)) key=eM D γ key) ∧
   (∀key g,eM D' (bP γ (ts.map fun t=>lk t.2.1) (ts.map fun t => .live t.2.2)) key=some g→eM D γ key=some g) ∧
   (∀t∈ts,D'.τ (lk t.2.1) = .slice none 0 0∧(bP γ (ts.map fun t=>lk t.2.1) (ts.map fun t => .live t.2.2) (lk t.2.1)).eD=true) ∧
   (∀key,(∀t∈ts,key≠lk t.2.1)→bP γ (ts.map fun t=>lk t.2.1) (ts.map fun t => .live t.2.2) key=γ key)∧(∀k,(∀t∈ts,k≠lk t.2.1)→D'.τ k=D.τ k)∧D'.β=D.β:=by
 induction ts with
 | nil=>exact fun {D σ γ a w} h _ _=>⟨D,h,rfl,fun _ => .inr rfl,fun _ _ h=>h,by simp,fun _ _=>rfl,fun _ _=>rfl,rfl⟩
 | cons t ts ih =>
  intro D σ γ a w h jW hnd
  simp only [ah,List.nodup_cons] at hnd
  obtain ⟨D1,h1,hR,HG,yg,ht1,eH,II,IJ⟩   := ih h (fun u hu=>jW u (by simp [hu])) hnd.2
  have fO:∀u∈ts,lk t.2.1≠lk u.2.1:=fun u hu e=>hnd.1 (aP.2 ⟨u,hu,(fT e).symm⟩)
  have L7:bP γ (ts.map fun t=>lk t.2.1) (ts.map fun t => .live t.2.2) (lk t.2.1) = .no:=by rw [eH _ fO];exact jW t (by simp)
  have h2:=(h1.xg (k:=t.2.1) (s:=t.2.2) (v := .slice none 0 0) L7 (.inl rfl) (by simp [Value.ownBlock])).dead (k:=lk t.2.1) (by rw [bF];rfl)
  have oU:∀key,eM { D1 with τ:=cI D1.τ (lk t.2.1) (.slice none 0 0) } (cI (bP γ (ts.map fun t=>lk t.2.1) (ts.map fun t => .live t.2.2)) (lk t.2.1) (.live t.2.2)) key=if key=lk t.2.1 then none else eM D1 (bP γ (ts.map fun t=>lk t.2.1) (ts.map fun t => .live t.2.2)) key:=fun key=>by
   unfold eM
   by_cases e:key=lk t.2.1
   ·subst e;rw [bF];simp [bF,Value.ownBlock]
   ·rw [bG _ _ e,aE e]
    cases hg:bP γ (ts.map fun t=>lk t.2.1) (ts.map fun t => .live t.2.2) key with
    | live s'=>simp [bG _ _ e]
    | pv s'=>simp [bG _ _ e]
    | pc s'=>simp [bG _ _ e]
    | ni d s'=>simp [bG _ _ e]
    | _=>rfl
  refine ⟨_,h2,hR,fun key=>?_,fun key g hk=>?_,fun u hu=>?_,fun key hk=>?_,fun k hk=>?_,IJ⟩
  ·simp only [ah,bP]
   rw [oU]
   by_cases e:key=lk t.2.1
   ·subst e;left;unfold eM;rw [jW t (by simp)]
   ·rw [aE e];exact HG key
  ·simp only [ah,bP] at hk
   rw [oU] at hk
   by_cases e:key=lk t.2.1
   ·simp [e] at hk
   ·rw [aE e] at hk;exact yg key g hk
  ·simp only [ah,bP]
   rcases bm.1 hu with rfl | hu
   ·exact ⟨bF _ _ _,by rw [bF];rfl⟩
   ·have hn:lk u.2.1≠lk t.2.1:=fun e=>fO u hu e.symm
    refine ⟨by show cI D1.τ (lk t.2.1) _ (lk u.2.1)=_;rw [bG _ _ hn];exact (ht1 u hu).1,?_⟩
    rw [bG _ _ (fun e=>fO u hu e.symm)];exact (ht1 u hu).2
  ·simp only [ah,bP]
   rw [bG _ _ (hk t (by simp))];exact eH key (fun u hu=>hk u (by simp [hu]))
  ·show cI D1.τ (lk t.2.1) _ k=_
   rw [bG _ _ (hk t (by simp))];exact II k (fun u hu=>hk u (by simp [hu]))
variable {o:Oper} {d:Nat} {K:Act→World→Prop} {Q:Exit→Act→World→Prop} (h:cN C D σ γ a w) (hd:o.dst=some d) (hl:d<C.nt)
include h hd hl
theorem N8 {t:TypeId} {m:Nat} {z:List AV} {ts:List (Nat × (Nat × Nat))} (ho:o.op = .alloc t) (hz:nZ C.P t z=true) (nR:∀q∈ts,∃s,z[q.1]?=some (.sl s [])) (hm:γ m = .no) (h1:C.nt≤m) (h2:m<999999)
  (jW:∀t∈ts,γ (lk t.2.1) = .no) (hnd:(ts.map (·.2.1)).Nodup)
  (hK:∀D' a' w',cN C D' (bP σ (d :: m :: ts.map fun t=>lk t.2.1) (.pt :: .ag z :: ts.map fun _ => .dead)) (bP γ (d :: m :: ts.map fun t=>lk t.2.1) (.ptr m 0 :: .cl ts :: ts.map fun t => .live t.2.2)) a' w'→K a' w'):o.wp C.P a w K Q:=by
 obtain ⟨i,v,hi,DS,kb⟩:=lV hz
 have hL:dz D.R w z v.cells.toList:=gU kb
 have cM:(execOp a.eval o).run C.P w = .ok (.value (.pointer (some ⟨w.heap.size,0,none⟩))) { w with heap:=w.heap.push (.cells ⟨v.cells.toList⟩ t) }:=by
  simp [execOp,ho,Instr.alloc,oi hi DS,newVar,newRow]
 obtain ⟨hS,hV,p8,oQ⟩:=h.yX rfl hL
 obtain ⟨D1,Te,hR,HG,yg,ht1,eH,II,IJ⟩:=hS.Ca ts jW hnd
 have F2:∀t∈ts,m≠lk t.2.1:=fun t _=>by have:=fN t.2.1;omega
 have vq:bP γ (ts.map fun t=>lk t.2.1) (ts.map fun t => .live t.2.2) m = .no:=by rw [eH m F2];exact hm
 have W7:iU D1.R { w with heap:=w.heap.push (.cells ⟨v.cells.toList⟩ t) } (.ag z) w.heap.size v.cells.toList:=by rw [hR];exact hV
 have Gf:=Te.newVar (ts:=ts) vq h1 h2 W7 (fun q hq=>⟨(ht1 q hq).2,by
  obtain ⟨s,hs⟩:=nR q hq
  obtain ⟨y,wq,_,HB⟩:=hL.get q.1 _ hs
  rw [wq,(ht1 q hq).1]
  obtain ⟨x,yd,HC⟩:=pg kb q.1 _ hs
  rw [wq] at yd;cases yd
  rw [vL HC]⟩) ⟨p8,fun key hk=>oQ key (yg key _ hk)⟩
 have Td:=Gf.put (d:=d) (s := .pt) (g := .ptr m 0) (v := .pointer (some ⟨w.heap.size,0,none⟩)) hl (.inr ⟨.pt _,by intro _;show _=_;simp [bF]⟩) rfl rfl (by show Gh.ff (cI _ m _ m)=true;rw [bF];rfl)
 unfold Oper.wp
 rw [cM,Oper.upon_value,hd]
 exact hK _ _ _ Td
end
end Go.Eng
namespace Go.Eng
open Go.RowKit
section
variable {C:Ctx} {D:kf} {σ:Sg} {γ:Ga} {a:Act} {w:World}
variable {o:Oper} {d:Nat} {K:Act→World→Prop} {Q:Exit→Act→World→Prop} (h:cN C D σ γ a w)
include h
theorem JE {x:Operand} {r:cR} {t:TypeId} {m:Nat} (hd:o.dst=some d) (hl:d<C.nt) (ho:o.op = .box t x) (hx:bU x r=true) (fy:small C.nt [x]=true) (hp:(r.ev C.E σ).plain=true) (hm:γ m = .no) (h1:C.nt≤m) (h2:m<999999)
  (hK:∀D' a' w',cN C D' (bP σ [d,m] [.pt,.ag (r.ev C.E σ).cells]) (bP γ [d,m] [.ptr m 0,.cl []]) a' w'→K a' w'):o.wp C.P a w K Q:=by
 have e1:=(h.gE hx fy).rep (by intro e;rw [e] at hp;cases hp)
 have hL:=lx e1 hp
 have cM:(execOp a.eval o).run C.P w = .ok (.value (.pointer (some ⟨w.heap.size,0,none⟩))) { w with heap:=w.heap.push (.cells ⟨(a.eval x).cells.toList⟩ t) }:=by
  simp [execOp,ho,Instr.box,newVar,newRow]
 obtain ⟨hS,hV,p8,oQ⟩:=h.yX rfl hL
 have Gf:=hS.newVar (ts:=[]) hm h1 h2 hV (by simp) ⟨p8,oQ⟩
 have Td:=Gf.put (d:=d) (s := .pt) (g := .ptr m 0) (v := .pointer (some ⟨w.heap.size,0,none⟩)) hl (.inr ⟨.pt _,by intro _;show _=_;simp [bF]⟩) rfl rfl (by show Gh.ff (cI _ m _ m)=true;rw [bF];rfl)
 unfold Oper.wp
 rw [cM,Oper.upon_value,hd]
 exact hK _ _ _ Td
theorem EU {x v:Operand} {r q:cR} {t:TypeId} {inf:TypeInfo} {m o' n:Nat} {cs:List AV} {ts:List (Nat × (Nat × Nat))} (hd:o.dst=none) (ho:o.op = .store t x v) (hi:C.P.info? t=some inf) (hz:inf.size=n)
  (hx:bU x r=true) (fy:small C.nt [x]=true) (hv:bU v q=true) (lA:small C.nt [v]=true) (hr:r.ev C.E σ = .pt) (hg:r.gh γ = .ptr m o') (hm:γ m = .cl ts) (jV:σ m = .ag cs)
  (J3:q.ev C.E σ ≠ .dead) (Sv:q.ev C.E σ ≠ .sk) {qs:List AV} (hL:dz D.R w qs (a.eval v).cells.toList) (hn:qs.length=n) (nV:o'+n≤cs.length)
  (hK:∀D' a' w',cN C D' (cI σ m (.ag (eK cs o' qs))) (cI γ m (.cl (ts.filter (fun t=>t.1<o' || o'+n≤t.1)++match q.gh γ with | .cD k s=>if n=1 then [(o',k,s)] else [] | _=>[]))) a' w'→K a' w'):o.wp C.P a w K Q:=by
 have e0:=h.gE hx fy
 have HE:=e0.gh (by rw [hr];simp) (by rw [hr];simp)
 rw [hg] at HE
 simp only [iB] at HE
 have q0:=h.gE hv lA
 obtain ⟨vs,tz,nR⟩:=h.mem m ts hm
 rw [jV] at tz
 have nU:=tz.C0
 obtain ⟨elem,hh,IZ⟩:=tz.ag
 have jf:cs.length≤vs.length:=by have:=IZ.length;simp at this;omega
 have hlen:=hL.length
 have WB:=IZ.length
 have S5:(a.eval v).cells.size=n:=by simp at hlen;omega
 have vB:=run_storeCells_at (P:=C.P) (D.β m) o' elem (a.eval v).cells.toList 0 ⟨vs⟩ w hh (by simp;omega) hL.one
 simp only [Nat.add_zero] at vB
 let new:List Value:=vs.take o'++(a.eval v).cells.toList++vs.drop (o'+(a.eval v).cells.toList.length)
 have cM:(execOp a.eval o).run C.P w = .ok .skip (w.setRow (D.β m) ⟨new⟩):=by
  have:¬((a.eval v).cells.size≠n):=by omega
  simp only [execOp,ho,HE,Instr.storeAt,Instr.sureAddr,Sem.run_bind,Sem.run_pure,Result.andThen_ok,storeVar,run_sizeOf hi,hz,Sem.run_ite,this,if_false,vB]
  rfl
 have Cq:=setRow_heap w (D.β m) ⟨vs⟩ ⟨new⟩ elem (0,0) hh
 have bM:fu D.R w D.R (w.setRow (D.β m) ⟨new⟩):=fun b o hr=>⟨hr,cell_setRow_other w (D.β m) _ ⟨b,o,none⟩ (fun e=>nU o (by have:b=D.β m:=e;rw [←this];exact hr))⟩
 have Tj:dz D.R (w.setRow (D.β m) ⟨new⟩) (eK cs o' qs) (new.take (eK cs o' qs).length):=by
  have hle:(a.eval v).cells.toList.length=qs.length:=hlen.symm
  have Pl:(eK cs o' qs).length=cs.length:=by simp [eK];omega
  have FZ:new.take cs.length=(vs.take cs.length).take o'++(a.eval v).cells.toList++(vs.take cs.length).drop (o'+(a.eval v).cells.toList.length):=by
   apply List.ext_getElem?
   intro j
   simp only [new,aO,List.getElem?_append,ao,aJ,List.getElem?_drop,hle,hn]
   have e1:min o' vs.length=o':=by omega
   have e2:min o' (min cs.length vs.length)=o':=by omega
   simp only [e1,e2]
   by_cases c1:j<cs.length
   ·by_cases c2:j<o'
    ·simp [c1,c2,show j<o'+n by omega]
    ·by_cases c3:j<o'+n
     ·simp [c1,c2,c3]
     ·simp [c1,c2,c3,show o'+n+(j - (o'+n))<cs.length by omega]
   ·have c2:¬j<o':=by omega
    have c3:¬j<o'+n:=by omega
    simp [c1,c3,show ¬o'+n+(j - (o'+n))<cs.length by omega]
  rw [Pl,FZ]
  simp only [eK,hle]
  have hX:=(((IZ.take o').append hL).append (IZ.drop (o'+qs.length))).mono bM
  exact hX
 have L9:=h.inv m
 rw [hm] at L9
 have hS:=h.store (us:=ts.filter (fun t=>t.1<o' || o'+n≤t.1)++match q.gh γ with | .cD k s=>if n=1 then [(o',k,s)] else [] | _=>[]) hm (w':=w.setRow (D.β m) ⟨new⟩) rfl rfl rfl (by simp) (fun b hb=>setRow_other w (D.β m) b _ hb)
  ⟨elem,Cq,.inr ⟨_,rfl,Tj⟩,nU⟩ (fun t ht=>by
   rcases List.mem_append.1 ht with ht | ht
   ·have jI:=List.mem_filter.1 ht
    refine ⟨L9 t jI.1,?_⟩
    have hc:=nR t jI.1
    have eW:=(aF.1 hc).1
    have zr:=jI.2
    simp only [Bool.or_eq_true,az] at zr
    have Wf:(a.eval v).cells.toList.length=n:=by simp;exact S5
    simp only [new]
    rcases zr with xA | xA
    ·rw [aN,List.getElem?_append_left (by simp;omega),aO,aG xA];exact hc
    ·rw [aK (by simp;omega)]
     simp only [ao,aJ,Wf,List.getElem?_drop]
     rw [←hc];congr 1;omega
   ·revert ht
    split
    ·rename_i k s PM
     split
     ·rename_i SG
      intro ht
      simp at ht
      subst ht
      have zp:=h.lM q
      rw [PM] at zp
      refine ⟨zp,?_⟩
      have Kb:=q0.gh J3 Sv
      rw [PM] at Kb
      simp only [iB] at Kb
      have xA:(a.eval v).cells.toList=[D.τ (lk k)]:=by
       obtain ⟨e1,e2⟩:=Kb
       rw [←e1]
       generalize a.eval v=y at e2
       cases y <;> first | rfl | (simp [Value.oneCell'] at e2)
      simp only [new,xA]
      rw [aN,aK (by simp;omega)]
      simp
      have:o' - min o' vs.length=0:=by omega
      simp [this]
     ·intro ht;cases ht
    ·intro ht;cases ht)
 unfold Oper.wp
 rw [cM,Oper.upon_skip,hd]
 exact hK _ _ _ (by simpa [Act.put] using hS)
theorem JA {x v:Operand} {r q:cR} {t:TypeId} {inf:TypeInfo} {m o' n:Nat} {cs:List AV} {ts:List (Nat × (Nat × Nat))} (hd:o.dst=none) (ho:o.op = .store t x v) (hi:C.P.info? t=some inf) (hz:inf.size=n)
  (hx:bU x r=true) (fy:small C.nt [x]=true) (hv:bU v q=true) (lA:small C.nt [v]=true) (hr:r.ev C.E σ = .pt) (hg:r.gh γ = .ptr m o') (hm:γ m = .cl ts) (jV:σ m = .ag cs)
  (hp:(q.ev C.E σ).plain=true) (hn:(q.ev C.E σ).cells.length=n) (nV:o'+n≤cs.length)
  (hK:∀D' a' w',cN C D' (cI σ m (.ag (eK cs o' (q.ev C.E σ).cells))) (cI γ m (.cl (ts.filter (fun t=>t.1<o' || o'+n≤t.1)++match q.gh γ with | .cD k s=>if n=1 then [(o',k,s)] else [] | _=>[]))) a' w'→K a' w'):o.wp C.P a w K Q:=by
 have J3:q.ev C.E σ ≠ .dead:=by intro e;rw [e] at hp;cases hp
 have Sv:q.ev C.E σ ≠ .sk:=by intro e;rw [e] at hp;cases hp
 exact EU h hd ho hi hz hx fy hv lA hr hg hm jV J3 Sv (lx ((h.gE hv lA).rep J3) hp) hn nV hK
theorem cN.qL:∀{l:List Operand} {rs:List cR},bW l rs=true→small C.nt l=true→fo D.R w (rs.map (cR.ev C.E σ)) (l.map a.eval)
 | [],[],_,_ => .nil
 | x :: xs,r :: rs,hx,hs=>by
  simp [bW] at hx
  have h1:small C.nt [x]=true:=by simp [small] at hs ⊢;exact hs.1
  have h2:small C.nt xs=true:=by simp only [small,List.all_cons,aa] at hs;exact hs.2
  refine .cons ?_ (cN.qL hx.2 h2)
  rcases h.gE hx.1 h1 with e | e
  ·rw [e];exact .dead _
  ·exact e.1
 | [],_ :: _,hx,_=>by simp [bW] at hx
 | _ :: _,[],hx,_=>by simp [bW] at hx
omit h
theorem sy (s:Nat):∀(vs:List Value) (k:Nat) (cells:Array Value),(∀v∈vs,v.cells.size=s)→(k+vs.length) * s=cells.size →
  ∃fE,Instr.fill (fun i=>some (i * s,s)) cells ((vs.zipIdx k).map fun p=>(p.2,p.1))=some fE∧fE.toList=cells.toList.take (k * s)++vs.flatMap fun v=>v.cells.toList
 | [],k,cells,_,hl=>by
  refine ⟨cells,rfl,?_⟩
  simp at hl
  simp [List.take_of_length_le,hl]
 | v :: vs,k,cells,hv,hl=>by
  have h0:=hv v (by simp)
  simp only [aQ] at hl
  have hm:(k+(vs.length+1)) * s=k * s+s+vs.length * s:=by rw [Nat.add_mul,Nat.succ_mul];omega
  have nV:¬(v.cells.size≠s∨k * s+v.cells.size > cells.size):=by omega
  have ql:=wv v.cells.toList (k * s) 0 cells (by simp;omega)
  have e:(v.cells.zipIdx.foldl (fun cs p=>cs.setIfInBounds (k * s+p.2) p.1) cells)=(v.cells.toList.zipIdx 0).foldl (fun cs p=>cs.setIfInBounds (k * s+p.2) p.1) cells:=by
   rw [←Array.foldl_toList];simp
  have lq:(v.cells.zipIdx.foldl (fun cs p=>cs.setIfInBounds (k * s+p.2) p.1) cells).size=cells.size:=by
   rw [e,←Array.length_toList,ql];simp;omega
  obtain ⟨fE,h1,h2⟩:=sy s vs (k+1) (v.cells.zipIdx.foldl (fun cs p=>cs.setIfInBounds (k * s+p.2) p.1) cells) (fun u hu=>hv u (by simp [hu])) (by rw [lq,←hl];congr 1;omega)
  refine ⟨fE,?_,?_⟩
  ·simp only [List.zipIdx_cons,ah,Instr.fill]
   rw [aE (by simpa using nV)]
   exact h1
  ·rw [h2,e,ql]
   have eH:(k+1) * s=k * s+s:=Nat.succ_mul k s
   have hL:(cells.toList.take (k * s+0)++v.cells.toList).length=(k+1) * s:=by simp;omega
   rw [aN,←aN (cells.toList.take (k * s+0)),List.take_left' hL]
   simp
theorem rV {α:Type}:∀(l:List (Nat × α)) (k:Nat),l.map (·.1)=List.range' k l.length→l=((l.map (·.2)).zipIdx k).map fun p=>(p.2,p.1)
 | [],_,_=>rfl
 | (i,x) :: l,k,h=>by
  simp only [ah,aQ,List.range'_succ,aj] at h
  simp only [ah,List.zipIdx_cons]
  rw [←rV l (k+1) h.2,h.1]
theorem rU {R:Reach} {w:World} {s:Nat}:∀{xs:List AV} {vs:List Value},fo R w xs vs→(∀x∈xs,x.plain=true∧x.cells.length=s)→dz R w (xs.flatMap AV.cells) (vs.flatMap fun v=>v.cells.toList)∧∀v∈vs,v.cells.size=s
 | _,_,.nil,_=>⟨.nil,by simp⟩
 | _,_,.cons (x:=x) h t,hx=>by
  obtain ⟨h1,h2⟩:=rU t (fun x Sf=>hx x (by simp [Sf]))
  obtain ⟨p1,p2⟩:=hx x (by simp)
  have hL:=lx h p1
  refine ⟨by simpa using hL.append h1,fun v hv=>?_⟩
  rcases bm.1 hv with rfl | hv
  ·have:=hL.length;simp at this;omega
  ·exact h2 v hv
theorem rh {s:Nat}:∀{l:List AV},(∀x∈l,x.plain=true∧x.cells.length=s)→(l.flatMap AV.cells).length=l.length * s
 | [],_=>by simp
 | x :: l,hl=>by
  simp only [List.flatMap_cons,ao,aQ,Nat.succ_mul]
  rw [rh (fun y hy=>hl y (by simp [hy])),(hl x (by simp)).2];omega
theorem mw {P:Program} {t:TypeId} {s:Nat} (h:kJ P t s=true):∃e i z,P.underlying t=some (.slice e)∧P.info? e=some i∧i.size=s∧i.zero=some z∧0<s:=by
 unfold kJ at h
 cases he:jD P t with
 | none=>simp [he] at h
 | some e =>
  simp [he] at h
  obtain ⟨h1,h0⟩:=h
  cases hi:P.info? e with
  | none=>simp [hi] at h1
  | some i =>
   simp [hi] at h1
   obtain ⟨h1,h2⟩:=h1
   obtain ⟨z,hz⟩:=Option.isSome_iff_exists.1 h2
   exact ⟨e,i,z,gL he,hi,h1,hz,h0⟩
theorem cN.Fx (h:cN C D σ γ a w) {t e:TypeId} {inf:TypeInfo} {zv:Value} {s n:Nat} {parts:Array (Nat × Operand)} {rs:List cR} (ht:C.P.underlying t=some (.slice e)) (hi:C.P.info? e=some inf) (hz:inf.size=s) (DS:inf.zero=some zv)
  (F1:n * s≤2 ^ 24) (F0:n≤maxLen) (vD:parts.toList.map (·.1)=List.range n) (hx:bW (parts.toList.map (·.2)) rs=true) (de:small C.nt (parts.toList.map (·.2))=true)
  (vp:∀x∈rs.map (cR.ev C.E σ),x.plain=true∧x.cells.length=s) :
  ∃v w' R',(Instr.buildSlice t n (parts.map fun p=>(p.1,a.eval p.2))).run C.P w = .ok v w'∧cN C { D with R:=R' } σ γ a w'∧Rep R' w' (.sl s (rs.map (cR.ev C.E σ))) v∧ft R' w' v s∧fu D.R w R' w' ∧
   ∀g,v.ownBlock=some g→C.lp g∧∀key,eM D γ key≠some g:=by
 have hT:=h.qL hx de
 obtain ⟨hL,lq⟩:=rU hT vp
 have hlen:parts.toList.length=n:=by have:=congrArg List.length vD;simpa using this
 have Pz:parts.size=n:=by simpa using hlen
 have pH:(rs.map (cR.ev C.E σ)).length=n:=by have:=hT.length;simp at this ⊢;omega
 have hp:(parts.map fun p=>(p.1,a.eval p.2)).toList=((((parts.toList.map (·.2)).map a.eval).zipIdx 0).map fun p=>(p.2,p.1)):=by
  have e:=rV ((parts.map fun p=>(p.1,a.eval p.2)).toList) 0 (by simp only [Array.toList_map,aW,aH,hlen];rw [←List.range_eq_range',←vD];rfl)
  rw [e]
  simp [Function.comp_def]
 let zc:Array Value:=if n * s=0 then #[] else zv.cells
 let c0:Array Value:=(Array.range (n * s)).map (zc[· % zc.size]!)
 obtain ⟨fE,hf,Mh⟩:=sy s ((parts.toList.map (·.2)).map a.eval) 0 c0 lq (by simp [c0,hlen])
 simp only [Nat.zero_mul,List.take_zero,bg] at Mh
 have cM:(Instr.buildSlice t n (parts.map fun p=>(p.1,a.eval p.2))).run C.P w = .ok (.slice (some ⟨w.heap.size,0,none⟩) n n) { w with heap:=w.heap.push (.cells fE e) }:=by
  have Tn:¬(n * s > 2 ^ 24):=by omega
  rw [←hp] at hf
  simp only [c0,zc] at hf
  simp only [Instr.buildSlice,Sem.run_bind,run_underlying ht,Result.andThen_ok,run_sizeOf hi,hz,Tn,if_false,Sem.run_pure]
  by_cases h0:n * s=0
  ·rw [aG h0] at hf ⊢
   simp only [Sem.run_bind,Sem.run_pure,Result.andThen_ok]
   rw [hf]
   simp [Go.newRow]
  ·rw [aE h0] at hf ⊢
   simp only [Sem.run_bind,Sem.run_pure,Result.andThen_ok,oi hi DS]
   rw [hf]
   simp [Go.newRow]
 have xy:fE.size=n * s:=by
  rw [←Array.length_toList,Mh,←hL.length,rh vp,pH]
 obtain ⟨R',hS,hR,nU,_,hk,hh⟩:=h.newRow (w':={ w with heap:=w.heap.push (.cells fE e) }) (es:=rs.map (cR.ev C.E σ)) (s:=s) (cap:=n) rfl rfl rfl rfl (fun x hx=>(vp x hx).2) hL
  (fun j y hj=>by rw [←Mh] at hj;simpa using hj) (by omega) F0
 rw [pH] at hR nU
 refine ⟨_,_,R',cM,hS,hR,.inr ⟨_,_,_,_,_,_,rfl,hh,by simp,xy,Nat.le_refl _,F0,nU⟩,hk,fun g hg=>?_⟩
 simp [Value.ownBlock] at hg
 subst hg
 exact ⟨.inr h.ext.size,fun key hk=>by have:=h.lt hk;omega⟩
variable (h:cN C D σ γ a w) (hd:o.dst=some d) (hl:d<C.nt)
include h hd hl
theorem N5 {t:TypeId} {s n:Nat} {parts:Array (Nat × Operand)} {rs:List cR} (ho:o.op = .buildSlice t n parts) (ht:kJ C.P t s=true) (F1:n * s≤2 ^ 24)
  (vD:parts.toList.map (·.1)=List.range n) (hx:bW (parts.toList.map (·.2)) rs=true) (de:small C.nt (parts.toList.map (·.2))=true) (vp:∀x∈rs.map (cR.ev C.E σ),x.plain=true∧x.cells.length=s)
  (hK:∀D' a' w',cN C D' (cI σ d (.sl s (rs.map (cR.ev C.E σ)))) (cI γ d .no) a' w'→K a' w'):o.wp C.P a w K Q:=by
 obtain ⟨e,i,z,h1,h2,h3,h4,h5⟩:=mw ht
 have F0:n≤maxLen:=by
  have:n≤n * s:=Nat.le_mul_of_pos_right n h5
  simp only [maxLen];omega
 obtain ⟨v,w',R',cM,hS,hR,_⟩:=h.Fx h1 h2 h3 h4 F1 F0 vD hx de vp
 exact cN.DZ hd hl (v:=v) (w':=w') (by simp only [execOp,ho,Sem.run_bind,cM,Result.andThen_ok,Sem.run_pure]) hS hR hK
theorem Lr {t:TypeId} {s n k:Nat} {parts:Array (Nat × Operand)} {rs:List cR} (ho:o.op = .buildSlice t n parts) (ht:kJ C.P t s=true) (F1:n * s≤2 ^ 24)
  (vD:parts.toList.map (·.1)=List.range n) (hx:bW (parts.toList.map (·.2)) rs=true) (de:small C.nt (parts.toList.map (·.2))=true) (vp:∀x∈rs.map (cR.ev C.E σ),x.plain=true∧x.cells.length=s) (hk:γ (lk k) = .no)
  (hK:∀D' a' w',cN C D' (bP σ [d,lk k] [.sl s (rs.map (cR.ev C.E σ)),.dead]) (bP γ [d,lk k] [.cD k s,.live s]) a' w'→K a' w'):o.wp C.P a w K Q:=by
 obtain ⟨e,i,z,h1,h2,h3,h4,h5⟩:=mw ht
 have F0:n≤maxLen:=by
  have:n≤n * s:=Nat.le_mul_of_pos_right n h5
  simp only [maxLen];omega
 obtain ⟨v,w',R',cM,hS,hR,hT,_,hG⟩:=h.Fx h1 h2 h3 h4 F1 F0 vD hx de vp
 unfold Oper.wp
 rw [show (execOp a.eval o).run C.P w = .ok (.value v) w' by simp only [execOp,ho,Sem.run_bind,cM,Result.andThen_ok,Sem.run_pure],Oper.upon_value,hd]
 exact hK _ _ _ (hS.rW hl hk hR hT hG)
omit h hd hl in
theorem oZ {α:Type} {zs:List α} (hz:0<zs.length):∀(l j:Nat) (y:α),(List.replicate l zs).flatten[j]?=some y→zs[j % zs.length]?=some y
 | 0,j,y,h=>by simp at h
 | l+1,j,y,h=>by
  simp only [List.replicate_succ,List.flatten_cons] at h
  by_cases hj:j<zs.length
  ·rw [List.getElem?_append_left hj] at h;rwa [Nat.mod_eq_of_lt hj]
  ·rw [aK (by omega)] at h
   have:=oZ hz l _ y h
   rwa [Nat.mod_eq_sub_mod (by omega)]
omit h hd hl in
theorem lI {R:Reach} {w:World} {xs:List AV} {ys:List Value} (h:dz R w xs ys):∀n,dz R w (List.replicate n xs).flatten (List.replicate n ys).flatten
 | 0 => .nil
 | n+1=>by simp only [List.replicate_succ,List.flatten_cons];exact h.append (lI h n)
theorem NI {t e:TypeId} {x y:Operand} {r q:cR} {i:TypeInfo} {zv:Value} {k s:Nat} {z:AV} {l c:Int} (ho:o.op = .makeSlice t x y) (ht:C.P.underlying t=some (.slice e)) (hi:C.P.info? e=some i) (hz:i.size=s) (DS:i.zero=some zv) (zi:zv.cells.size=s) (Xn:0<s)
  (O6:fx zv.cells.toList z.cells=true) (hx:bU x r=true) (hy:bU y q=true) (fy:small C.nt [x]=true) (lA:small C.nt [y]=true) (hr:r.ev C.E σ = .v (.int .i64 l)) (hq:q.ev C.E σ = .v (.int .i64 c))
  (hp:z.cells.length=s) (h0:0≤l) (SO:l≤c) (hb:c * i.bytes≤140737488355328) (vG:c≤maxLen) (hk:γ (lk k) = .no)
  (hK:∀D' a' w',cN C D' (bP σ [d,lk k] [.sl s (List.replicate l.toNat z),.dead]) (bP γ [d,lk k] [.cD k s,.live s]) a' w'→K a' w'):o.wp C.P a w K Q:=by
 have e1:=(h.gE hx fy).rep (by rw [hr];simp)
 have e2:=(h.gE hy lA).rep (by rw [hq];simp)
 rw [hr] at e1;rw [hq] at e2
 have SI:=run_make (P:=C.P) w t e i zv ht hi DS .i64 .i64 l c h0 SO (by rw [Int.mul_comm];omega) (by simp only [maxLen] at vG;omega)
 have cM:(execOp a.eval o).run C.P w = .ok (.value (.slice (some ⟨w.heap.size,0,none⟩) l.toNat c.toNat)) (w.alloc (.cells (madeCells zv.cells (c.toNat * i.size)) e)):=by
  simp only [execOp,ho,e1.fF,e2.fF,Sem.run_bind,SI,Result.andThen_ok,Sem.run_pure]
 have hL:dz D.R w z.cells zv.cells.toList:=gU O6
 have SZ:(List.replicate l.toNat z).flatMap AV.cells=(List.replicate l.toNat z.cells).flatten:=by rw [List.flatMap_def,List.map_replicate]
 have Dj:l.toNat≤c.toNat:=by omega
 obtain ⟨R',hS,hR,nU,_,_,hh⟩:=h.newRow (w':=w.alloc (.cells (madeCells zv.cells (c.toNat * i.size)) e)) (es:=List.replicate l.toNat z) (s:=s) (cap:=c.toNat) (ys:=(List.replicate l.toNat zv.cells.toList).flatten) rfl rfl rfl rfl
  (fun x hx=>by rw [List.eq_of_mem_replicate hx];exact hp) (by rw [SZ];exact lI hL _)
  (fun j y hj=>by
   have h1:=oZ (by simp;omega) _ _ _ hj
   have eW:=(aF.1 hj).1
   have Cr:(List.replicate l.toNat zv.cells.toList).flatten.length=l.toNat * s:=by simp [zi]
   rw [Cr] at eW
   have hle:l.toNat * s≤c.toNat * s:=ar _ Dj
   have hm:j<c.toNat * i.size:=by rw [hz];omega
   simp only [madeCells,Array.getElem?_map,Array.getElem?_range,hm,if_true,Option.map_some]
   simp only [Array.length_toList,Array.getElem?_toList] at h1
   rw [getElem!_def,h1]) (by simpa using Dj) (by omega)
 simp only [List.length_replicate] at hR nU
 unfold Oper.wp
 rw [cM,Oper.upon_value,hd]
 refine hK _ _ _ (hS.rW hl hk hR (.inr ⟨_,_,_,_,_,_,rfl,hh,by simp,by rw [size_madeCells,hz],Dj,by omega,nU⟩) fun g hg=>?_)
 simp [Value.ownBlock] at hg
 subst hg
 exact ⟨.inr h.ext.size,fun key hk=>by have:=h.lt hk;omega⟩
omit h hd hl in
theorem oj {P:Program} {w:World}:∀(fs:List Field),(∀f∈fs,(sizeOf f.type).run P w = .ok ((gZ P f.type).getD 0) w) →
  ((fs.mapM fun (f:Field)=>do pure (f.offset,←sizeOf f.type)):Sem (List (Nat × Nat))).run P w = .ok (fs.map fun f=>(f.offset,(gZ P f.type).getD 0)) w
 | [],_=>rfl
 | f :: fs,hs=>by
  simp only [List.mapM_cons,Sem.run_bind,hs f (by simp),Result.andThen_ok,Sem.run_pure,oj fs (fun g hg=>hs g (by simp [hg])),ah]
theorem N7 {t:TypeId} {z:List AV} {pl:List (Nat × Nat)} {parts:Array (Nat × Operand)} {rs:List cR} {cs:List AV} (ho:o.op = .build t parts) (hz:nZ C.P t z=true) (IM:uI C.P t pl parts.toList=true) (hx:bW (parts.toList.map (·.2)) rs=true) (de:small C.nt (parts.toList.map (·.2))=true)
  (hf:mF z pl (rs.map (cR.ev C.E σ))=some cs) (hK:∀D' a' w',cN C D' (cI σ d (.ag cs)) (cI γ d .no) a' w'→K a' w'):o.wp C.P a w K Q:=by
 have hT:=h.qL hx de
 obtain ⟨i,zv,hi,DS,O6⟩:=lV hz
 have hL:dz D.R w z zv.cells.toList:=gU O6
 simp only [uI,aa,beq_iff_eq] at IM
 obtain ⟨⟨qt,hlen⟩,nJ⟩:=IM
 have jG:∀(j:Nat) (p:Nat × Operand) (q:Nat × Nat),parts.toList[j]?=some p→pl[j]?=some q→(match C.P.underlying t with | some (.struct fs)=>(fs[p.1]?).any fun f=>f.offset == q.1&&gZ C.P f.type == some q.2 | some (.array _ e)=>gZ C.P e == some q.2&&p.1 * q.2 == q.1 | _=>false)=true:=fun j p q hp hq=>by
  have:=aL.1 nJ (q,p) (aU (i:=j) (by simp [List.getElem?_zip_eq_some,hq,hp]))
  exact this
 have Pa:∀(j:Nat) (p:Nat × Value) (x:AV),((parts.map fun p=>(p.1,a.eval p.2)).toList)[j]?=some p→(rs.map (cR.ev C.E σ))[j]?=some x→Rep D.R w x p.2:=fun j p x hp Wb=>by
  obtain ⟨y,wq,HB⟩:=hT.get j x Wb
  simp only [Array.toList_map,aI,aW] at hp wq
  cases hq:parts.toList[j]? with
  | none=>simp [hq] at hp
  | some q=>simp [hq] at hp wq;subst hp;rw [wq];exact HB
 have L4:∀place:Nat→Option (Nat × Nat),(∀(j:Nat) (p:Nat × Operand) (q:Nat × Nat),parts.toList[j]?=some p→pl[j]?=some q→place p.1=some q) →
   ∃fE,Instr.fill place zv.cells (parts.map fun p=>(p.1,a.eval p.2)).toList=some fE∧dz D.R w cs fE.toList:=fun place Sx =>
  zP place _ pl _ z cs zv.cells hL (by simp [hlen]) (fun j p q hp hq=>by
   simp only [Array.toList_map,aI] at hp
   cases As:parts.toList[j]? with
   | none=>simp [As] at hp
   | some q'=>simp [As] at hp;subst hp;exact Sx j q' q As hq) Pa hf
 unfold th at qt
 cases hu:C.P.underlying t with
 | none=>simp [hu] at qt
 | some dd =>
  have fin:∀place:Nat→Option (Nat × Nat),(∀(j:Nat) (p:Nat × Operand) (q:Nat × Nat),parts.toList[j]?=some p→pl[j]?=some q→place p.1=some q) →
    (∀fE,Instr.fill place zv.cells (parts.map fun p=>(p.1,a.eval p.2)).toList=some fE→(execOp a.eval o).run C.P w = .ok (.value (.agg fE)) w)→o.wp C.P a w K Q:=fun place Sx Wp=>by
   obtain ⟨fE,M6,hR⟩:=L4 place Sx
   exact h.fR hd hl (v := .agg fE) (Wp fE M6) (by cases fE with | mk l=>exact .ag hR) hK
  cases dd with
  | struct fs =>
   simp only [hu] at qt
   have lq:∀f∈fs.toList,(sizeOf f.type).run C.P w = .ok ((gZ C.P f.type).getD 0) w:=fun f hf=>by
    have:=aL.1 qt f hf
    obtain ⟨n,hn⟩:=Option.isSome_iff_exists.1 this
    obtain ⟨i',h1,h2⟩:=fZ hn
    rw [run_sizeOf h1,hn,h2];rfl
   refine fin (fun i=>(fs.map fun f=>(f.offset,(gZ C.P f.type).getD 0))[i]?) (fun j p q hp hq=>?_) (fun fE hc=>?_)
   ·have:=jG j p q hp hq
    rw [hu] at this
    simp only at this
    cases PN:fs[p.1]? with
    | none=>simp [PN] at this
    | some f =>
     simp [PN] at this
     simp [PN,this.1,this.2]
   ·have hm:=oj fs.toList lq
    have L9:((fs.mapM fun (f:Field)=>do pure (f.offset,←sizeOf f.type)):Sem (Array (Nat × Nat))).run C.P w = .ok (fs.map fun f=>(f.offset,(gZ C.P f.type).getD 0)) w:=by
     rw [Array.mapM_eq_mapM_toList,Sem.run_map,hm]
     simp only [Result.andThen_ok]
     congr 1
     apply Array.ext'
     simp
    simp only [execOp,ho,Instr.build,Sem.run_bind,oi hi DS,run_underlying hu,Result.andThen_ok,L9]
    rw [hc]
    simp
  | array n e =>
   simp only [hu] at qt
   obtain ⟨s,hs⟩:=Option.isSome_iff_exists.1 qt
   obtain ⟨i',h1,h2⟩:=fZ hs
   refine fin (fun i=>some (i * s,s)) (fun j p q hp hq=>?_) (fun fE hc=>?_)
   ·have:=jG j p q hp hq
    rw [hu] at this
    simp [hs] at this
    obtain ⟨q1,q2⟩:=q
    simp at this
    rw [this.1,this.2]
   ·simp only [execOp,ho,Instr.build,Sem.run_bind,oi hi DS,run_underlying hu,Result.andThen_ok,run_sizeOf h1,h2]
    rw [hc]
    simp
  | _=>simp [hu] at qt
end
end Go.Eng
namespace Go.Eng
open Go.RowKit
section
variable {X:Type}
theorem oa:∀{σ:Nat→X} {A B:List Nat} {xs ys:List X},A.length=xs.length→bP σ (A++B) (xs++ys)=bP (bP σ B ys) A xs
 | σ,[],B,[],ys,_=>by cases B <;> cases ys <;> rfl
 | σ,a :: A,B,x :: xs,ys,h=>by simp only [List.cons_append,bP];rw [oa (by simpa using h)]
 | σ,[],B,_ :: _,ys,h=>by simp at h
 | σ,_ :: _,B,[],ys,h=>by simp at h
theorem iK:∀{σ:Nat→X} {A:List Nat} {xs:List X} {k:Nat},k ∉ A→bP σ A xs k=σ k
 | σ,[],xs,k,_=>by cases xs <;> rfl
 | σ,a :: A,[],k,_=>rfl
 | σ,a :: A,x :: xs,k,h=>by
  simp only [bP]
  rw [bG _ _ (fun e=>h (by simp [e])),iK (fun e=>h (by simp [e]))]
theorem ij:∀{σ:Nat→X} {A:List Nat} {xs:List X} {k:Nat} {x:X},k ∉ A→bP (cI σ k x) A xs=cI (bP σ A xs) k x
 | σ,[],xs,k,x,_=>by cases xs <;> rfl
 | σ,a :: A,[],k,x,_=>rfl
 | σ,a :: A,y :: xs,k,x,h=>by
  simp only [bP]
  rw [ij (fun e=>h (by simp [e])),gA _ _ _ (fun e=>h (by simp [e]))]
theorem rJ:∀{σ:Nat→X} {A B:List Nat} {xs ys:List X},(∀a∈A,a ∉ B)→bP (bP σ A xs) B ys=bP (bP σ B ys) A xs
 | σ,[],B,xs,ys,_=>by cases xs <;> rfl
 | σ,a :: A,B,[],ys,_=>rfl
 | σ,a :: A,B,x :: xs,ys,h=>by
  simp only [bP]
  rw [ij (h a (by simp)),rJ (fun c hc=>h c (by simp [hc]))]
theorem py (σ:Nat→X) (k:Nat) (x y:X):cI (cI σ k x) k y=cI σ k y:=by
 funext j;simp only [cI];split <;> rfl
end
section
variable {C:Ctx} {D:kf} {σ:Sg} {γ:Ga} {a:Act} {w:World}
theorem cN.GJ:∀(ks:List Nat) {σ:Sg},cN C D σ γ a w→(∀k∈ks,(γ k).ff=false)→cN C D (bP σ ks (ks.map fun _ => .dead)) γ a w
 | [],_,h,_=>h
 | k :: ks,_,h,hk=>(cN.GJ ks h (fun j hj=>hk j (by simp [hj]))).dead (hk k (by simp))
theorem cN.JP:∀(ts:List (Nat × Nat)) {γ:Ga},cN C D σ γ a w→(∀t∈ts,γ t.1 = .live t.2)→(ts.map (·.1)).Nodup→cN C D σ (bP γ (ts.map (·.1)) (ts.map fun _ => .used)) a w
 | [],_,h,_,_=>h
 | t :: ts,γ,h,hk,hn=>by
  simp only [ah,List.nodup_cons] at hn
  have h1:=cN.JP ts h (fun u hu=>hk u (by simp [hu])) hn.2
  simp only [ah,bP]
  exact h1.kill (s:=t.2) (by rw [iK hn.1];exact hk t (by simp))
theorem cN.fV (ts:List (Nat × (Nat × Value))):∀{D:kf} {γ:Ga},cN C D σ γ a w→(∀t∈ts,γ (lk t.1) = .no)→(ts.map (·.1)).Nodup →
  (∀t∈ts,ft D.R w t.2.2 t.2.1)→(∀t∈ts,∀g,t.2.2.ownBlock=some g→C.lp g∧∀key,eM D γ key≠some g)→(∀(i j:Nat) (t u:Nat × (Nat × Value)) (g:Nat),ts[i]?=some t→ts[j]?=some u→t.2.2.ownBlock=some g→u.2.2.ownBlock=some g→i=j) →
  ∃D',cN C D' σ (bP γ (ts.map fun t=>lk t.1) (ts.map fun t => .live t.2.1)) a w∧D'.R=D.R∧D'.β=D.β∧(∀t∈ts,D'.τ (lk t.1)=t.2.2)∧(∀k,(∀t∈ts,k≠lk t.1)→D'.τ k=D.τ k) ∧
   (∀key g,eM D' (bP γ (ts.map fun t=>lk t.1) (ts.map fun t => .live t.2.1)) key=some g→eM D γ key=some g∨∃t∈ts,t.2.2.ownBlock=some g):=by
 induction ts with
 | nil=>exact fun {D γ} h _ _ _ _ _=>⟨D,h,rfl,rfl,by simp,fun _ _=>rfl,fun _ _ hk => .inl hk⟩
 | cons t ts ih =>
  intro D γ h jW hn hT oJ IL
  simp only [ah,List.nodup_cons] at hn
  obtain ⟨D1,h1,hR,Db,pP,LS,hb⟩:=ih h (fun u hu=>jW u (by simp [hu])) hn.2 (fun u hu=>hT u (by simp [hu])) (fun u hu=>oJ u (by simp [hu]))
   (fun i j u v g hi hj hu hv=>by have:=IL (i+1) (j+1) u v g (by simpa using hi) (by simpa using hj) hu hv;omega)
  have fO:∀u∈ts,lk t.1≠lk u.1:=fun u hu e=>hn.1 (aP.2 ⟨u,hu,(fT e).symm⟩)
  have IP:lk t.1 ∉ ts.map fun t=>lk t.1:=fun hm=>by obtain ⟨u,hu,e⟩:=aP.1 hm;exact fO u hu e.symm
  have L7:bP γ (ts.map fun t=>lk t.1) (ts.map fun t => .live t.2.1) (lk t.1) = .no:=by rw [iK IP];exact jW t (by simp)
  have oQ:∀g,t.2.2.ownBlock=some g→C.lp g∧∀key,eM D1 (bP γ (ts.map fun t=>lk t.1) (ts.map fun t => .live t.2.1)) key≠some g:=fun g hg=>by
   obtain ⟨m1,m2⟩:=oJ t (by simp) g hg
   refine ⟨m1,fun key hk=>?_⟩
   rcases hb key g hk with hk | ⟨u,hu,Sm⟩
   ·exact m2 key hk
   ·obtain ⟨j,hj⟩:=bk hu
    have:=IL 0 (j+1) t u g rfl (by simpa using hj) hg Sm
    omega
  have h2:=h1.xg L7 (by rw [hR];exact hT t (by simp)) oQ
  refine ⟨_,h2,hR,Db,fun u hu=>?_,fun k hk=>?_,fun key g hk=>?_⟩
  ·rcases bm.1 hu with rfl | hu
   ·exact bF _ _ _
   ·show cI D1.τ (lk t.1) _ (lk u.1)=_
    rw [bG _ _ (fun e=>fO u hu e.symm)];exact pP u hu
  ·show cI D1.τ (lk t.1) _ k=_
   rw [bG _ _ (hk t (by simp))];exact LS k (fun u hu=>hk u (by simp [hu]))
  ·by_cases e:key=lk t.1
   ·subst e
    right
    simp only [ah,bP,eM,bF] at hk
    exact ⟨t,by simp,hk⟩
   ·have:eM D1 (bP γ (ts.map fun t=>lk t.1) (ts.map fun t => .live t.2.1)) key=some g:=by
     simp only [ah,bP,eM] at hk
     rw [bG _ _ e] at hk
     unfold eM
     revert hk
     cases hg:bP γ (ts.map fun t=>lk t.1) (ts.map fun t => .live t.2.1) key with
     | live s'=>simp [bG _ _ e]
     | pv s'=>simp [bG _ _ e]
     | pc s'=>simp [bG _ _ e]
     | ni d s'=>simp [bG _ _ e]
     | _=>exact id
    rcases hb key g this with hk | ⟨u,hu,Sm⟩
    ·exact .inl hk
    ·exact .inr ⟨u,by simp [hu],Sm⟩
theorem cN.DI (h:cN C D σ γ a w) {m:Nat} {w':World} {R':Reach} {io:Nat→Prop} {x:AV} {cs:List Value} {ts:List (Nat × (Nat × Nat))} (hm:γ m = .cl ts) (he:Ext w D.R io w' R')
  (vr:∀b,io b→b=D.β m∨(C.lp b∧∀key,eM D γ key≠some b)) (hv:iU R' w' x (D.β m) cs) (lt:∀b o,R' b o→b<w'.heap.size) :
  cN C { D with R:=R' } (cI σ m x) (cI γ m (.cl [])) a w':=by
 have jf:∀j,(cI γ m (.cl []) j).ff=(γ j).ff:=fun j=>by
  by_cases e:j=m
  ·subst e;rw [bF,hm];rfl
  ·rw [bG _ _ e]
 have kO:∀j,(cI γ m (.cl []) j).eD=(γ j).eD:=fun j=>by
  by_cases e:j=m
  ·subst e;rw [bF,hm];rfl
  ·rw [bG _ _ e]
 have hM:∀g,eV γ g→eV (cI γ m (.cl [])) g:=fun g hg=>by
  cases g <;> simp only [eV,jf,kO] at hg ⊢ <;> first | exact hg | skip
  rename_i d s'
  have hd:d≠m:=fun e=>by subst e;rcases hg with e | ⟨mc,e⟩ <;> rw [hm] at e <;> cases e
  rw [bG _ _ hd];exact hg
 have hB:∀key,eM { D with R:=R' } (cI γ m (.cl [])) key=eM D γ key:=fun key=>by
  unfold eM
  by_cases e:key=m
  ·subst e;rw [bF,hm]
  ·rw [bG _ _ e]
 have sr:∀key g,key≠m→eM D γ key=some g→w'.heap[g]?=w.heap[g]?∧∀o,R' g o→D.R g o:=fun key g fO hk=>by
  have Pq:¬io g:=fun hi=>by
   rcases vr g hi with e | ⟨_,e⟩
   ·exact fO (h.rR (key:=m) (by rw [hm];rfl) (by rw [gV hm,e]) hk).symm
   ·exact e key hk
  refine ⟨he.heap g (h.lt hk) Pq,fun o hr=>?_⟩
  rcases he.qE g o hr with r | r | r
  ·exact r
  ·have:=h.lt hk;omega
  ·exact (Pq r).elim
 refine ⟨h.size,h.defers,h.iG,fun j hj=>h.om j (by rwa [jf] at hj),fun j hj=>h.kU j (by rwa [kO] at hj),fun t ht=>?_,fun j vs hj=>?_,fun key s' jC=>?_,h.ps.bM he.bM (fun key hp=>?_),fun p q g hp hq=>(by rw [jo (by rw [hm];rfl) rfl,jo (by rw [hm];rfl) rfl];exact h.sep p q g (by rwa [hB] at hp) (by rwa [hB] at hq)),fun p g hp=>h.own p g (by rwa [hB] at hp),fun key=>?_,?_,lt,fun n=>(h.gl n).mono he.bM,h.fix.cI (by rw [hm];rfl) rfl rfl⟩
 ·have e:t≠m:=by have:=(h.om m (by rw [hm];rfl)).1;omega
  rw [bG _ _ e,bG _ _ e]
  exact (h.slot t ht).imp id fun ⟨r,g⟩=>⟨r.mono he.bM,by cases hg:γ t <;> rw [hg] at g <;> exact g⟩
 ·by_cases e:j=m
  ·subst e;rw [bF] at hj;cases hj;rw [bF];exact ⟨cs,hv,by simp⟩
  ·rw [bG _ _ e] at hj;rw [bG _ _ e]
   obtain ⟨Q2,tt,tw⟩:=h.mem j vs hj
   obtain ⟨e1,e2⟩:=sr j _ e (gV hj)
   exact ⟨Q2,tt.bM he.bM e1 (fun o hr=>tt.C0 o (e2 o hr)),tw⟩
 ·have e:key≠m:=fun e=>by subst e;rw [bF] at jC;cases jC
  rw [bG _ _ e] at jC
  exact (h.cD key s' jC).bM fun g hg=>sr key g e ((gG jC).trans hg)
 ·have e:key≠m:=fun e=>by subst e;rw [bF] at hp;cases hp
  rw [bG _ _ e] at hp ⊢
  rw [bG _ _ e]
  exact ⟨rfl,rfl,rfl,fun g hg=>sr key g e ((fS hp).trans hg)⟩
 ·by_cases e:key=m
  ·subst e;rw [bF];exact fun t ht=>by cases ht
  ·rw [bG _ _ e];exact hM _ (h.inv key)
 ·refine h.ext.trans he fun b hb=>?_
  rcases vr b hb with e | ⟨e,_⟩
  ·subst e;exact h.own m _ (gV hm)
  ·exact e
theorem cN.ve (h:cN C D σ γ a w) {w':World} {R':Reach} (he:Ext w D.R (fun _=>False) w' R') (lt:∀b o,R' b o→b<w'.heap.size):cN C { D with R:=R' } σ γ a w' :=
 h.grow he.os he.tape he.output he.size (fun b hb=>he.heap b hb id) (fun b o hr=>(he.bM b o hr).1) (fun b o hr=>by
  rcases he.qE b o hr with r | r | r
  ·exact .inl r
  ·exact .inr r
  ·exact r.elim) lt
end
end Go.Eng
namespace Go.Eng
open Go.RowKit
theorem ud {L:List (Nat × (Nat × Nat))} {vs:List Value} {p:Nat} {t:Nat × (Nat × Value)} (h:(List.zipWith (fun t v=>(t.2.1,(t.2.2,v))) L vs)[p]?=some t) :
  ∃q v,L[p]?=some q∧vs[p]?=some v∧t=(q.2.1,(q.2.2,v)):=by
 rw [List.getElem?_zipWith] at h
 cases h1:L[p]? with
 | none=>simp [h1] at h
 | some q =>
  cases h2:vs[p]? with
  | none=>simp [h1,h2] at h
  | some v=>simp [h1,h2] at h;exact ⟨q,v,rfl,rfl,h.symm⟩
theorem qv {β:Type} (f:Nat × Nat→β):∀{L:List (Nat × (Nat × Nat))} {vs:List Value},L.length=vs.length →
  (List.zipWith (fun t v=>(t.2.1,(t.2.2,v))) L vs).map (fun t=>f (t.1,t.2.1))=L.map fun t=>f (t.2.1,t.2.2)
 | [],[],_=>rfl
 | q :: L,v :: vs,h=>by
  simp only [List.zipWith_cons_cons,ah]
  rw [qv f (by simpa using h)]
 | [],_ :: _,h=>by simp at h
 | _ :: _,[],h=>by simp at h
theorem lP {L:List (Nat × (Nat × Nat))} {p:Nat} {q:Nat × (Nat × Nat)} (h:L[p]?=some q):(iS L)[p]?=some (q.1,q.2.2):=by simp [iS,h]
section
variable {C:Ctx} {D:kf} {σ:Sg} {γ:Ga} {a:Act} {w:World}
variable {o:Oper} {d:Nat} {K:Act→World→Prop} {Q:Exit→Act→World→Prop}
theorem kQ {f:Nat} {args:Array Operand} {ts:Array TypeId} (ho:o.op = .call { callee := .value (.func f),args,argTypes:=ts }) (hp:fI C.P f=true):(execOp a.eval o).run C.P w = .ok (.enter f (args.map a.eval)) w:=by
 unfold fI at hp
 cases hf:C.P.funcs[f]? with
 | none=>simp [hf] at hp
 | some fn =>
  simp only [hf,Option.any_some,aa,Bool.not_eq_true',beq_eq_false_iff_ne,ne_eq] at hp
  obtain ⟨h1,h2⟩:=hp
  have UK:fn.body.isNone=false:=by cases hb:fn.body <;> simp [hb] at h1 ⊢
  have he:a.eval (.func f) = .func (.func f) #[] #[]:=rfl
  simp [execOp,ho,resolve,Deferred.ofValue,he,invoke,callFunc,hf]
  rw [aE h2,aE (by intro e;rw [e] at h1;cases h1)]
theorem cN.G2 (h:cN C D σ γ a w) (hd:o.dst=some d) {f:Nat} {args:Array Operand} {ts:Array TypeId} (ho:o.op = .call { callee := .value (.func f),args,argTypes:=ts }) (hp:fI C.P f=true)
  {S:FS} (hS:dK C.P C.E.gl f S) (je:S.sg.ps=none) {ins outs:List AV} (hG:S.G ins outs) (hA:kx S.sg D.R w ins (args.toList.map a.eval))
  (hK:∀x R' w',Ext w D.R (nH S.sg w (args.toList.map a.eval)) w' R'→(∀b o,R' b o→b<w'.heap.size) →
   wH S.sg R' w' (fun b=>nH S.sg w (args.toList.map a.eval) b∨w.heap.size≤b) (args.toList.map a.eval) outs x→K (a.put (some d) x) w'):o.wp C.P a w K Q:=by
 unfold Oper.wp
 rw [kQ ho hp,Oper.upon_enter]
 have:=hS.1 je w D.R ins outs (args.toList.map a.eval) hG h.j0 h.gl hA
 have e:(⟨args.toList.map a.eval⟩:Array Value)=args.map a.eval:=by apply Array.ext';simp
 rw [e] at this
 refine this.mono ?_
 rintro e w' ⟨x,R',rfl,h1,h2,h3⟩
 simp only
 rw [hd]
 exact hK x R' w' h1 h2 h3
theorem CS.pJ (c:CS):c.dg.ff=false∧c.dg.eD=false:=by
 unfold CS.dg
 repeat' split
 all_goals exact ⟨rfl,rfl⟩
theorem CS.xP {c:CS} (h1:∀t∈c.own,(γ (lk t.2.1)).eD=true) (h2:∀q,c.new=some q→(γ q.2).ff=true):eV γ c.dg:=by
 unfold CS.dg
 split
 ·split
  ·rename_i hn;exact h2 _ hn
  ·rename_i ho;exact h1 _ (by rw [ho];exact List.mem_singleton.2 rfl)
  ·trivial
 ·exact ⟨h1,h2⟩
theorem CS.GF {c:CS} {rvs:List Value} {x:Value} (hl:rvs.length=c.bQ) (hx:x=if c.bQ=1 then rvs.headD undef else .tuple ⟨rvs⟩)
  (h1:∀t∈c.own,rvs[t.1]?=some (D.τ (lk t.2.1))∧(D.τ (lk t.2.1)).oneCell'=true) (h2:∀q,c.new=some q→rvs[q.1]?=some (.pointer (some ⟨D.β q.2,0,none⟩))):iB D c.dg x:=by
 unfold CS.dg
 split
 ·rename_i e
  rw [aG e] at hx
  rw [e] at hl
  match rvs,hl with
  | [y],_ =>
   simp at hx;subst hx
   cases hn:c.new with
   | some q =>
    obtain ⟨j,m⟩:=q
    have:=h2 _ hn
    have hj:j=0:=by
     have:=(aF.1 this).1
     simp at this;exact this
    subst hj
    simpa [iB] using this
   | none =>
    split
    ·rename_i e;cases e
    ·rename_i q k s _ ho
     have:=h1 (0,k,s) (by rw [ho];simp)
     simp at this
     exact ⟨this.1,by rw [this.1];exact this.2⟩
    ·trivial
 ·rename_i e
  rw [aE e] at hx
  exact ⟨rvs,hx,h1,h2⟩
theorem y6 {c:CS} {g:c7} {R:Reach} {w:World} {outs:List AV} {rvs:List Value} {x:Value} (hn:c.bQ=g.bQ) (gX:c.new.map (·.1)=g.new) (hl:rvs.length=g.bQ) (hx:x=if g.bQ=1 then rvs.headD undef else .tuple ⟨rvs⟩)
  (hj:∀q∈c.new.toList,q.1<c.bQ) (hT:fo R w ((outs.take g.bQ).mapIdx fun i y=>if g.new=some i then .pt else y) rvs):Rep R w (c.main outs) x:=by
 have SX:(fun (i:Nat) (y:AV)=>if g.new=some i then AV.pt else y)=fun i y=>if c.new.any (·.1 == i) then .pt else y:=by
  funext i y
  rw [←gX]
  cases c.new with
  | none=>simp
  | some q=>simp
 rw [SX] at hT
 unfold CS.main
 rw [hn]
 by_cases e:g.bQ=1
 ·rw [aG e] at hx ⊢
  rw [e] at hl hT
  match rvs,hl with
  | [y],_ =>
   simp at hx;subst hx
   cases hc:c.new with
   | some q=>simp;exact .pt _
   | none =>
    simp only [hc,Option.isSome_none,aY,if_false]
    rw [hc] at hT
    cases outs with
    | nil=>simp at hT;cases hT
    | cons o1 os =>
     simp at hT
     cases hT with
     | cons h1 _=>simpa using h1
 ·rw [aE e] at hx ⊢
  subst hx
  exact .tu hT
end
end Go.Eng
namespace Go.Eng
open Go.RowKit
theorem GN {L:List (Nat × (Nat × Nat))} (h:iS L=[]):L=[]:=by cases L with | nil=>rfl | cons=>simp [iS] at h
section
variable {C:Ctx} {D:kf} {σ:Sg} {γ:Ga} {a:Act} {w:World}
variable {o:Oper} {d:Nat} {K:Act→World→Prop} {Q:Exit→Act→World→Prop}
theorem cN.yq (h:cN C D σ γ a w) {L:List (Nat × (Nat × Nat))} {vs:List Value} (hl:L.length=vs.length) (jW:∀t∈L,γ (lk t.2.1) = .no) (hnd:(L.map (·.2.1)).Nodup)
  (hT:∀(p:Nat) (t:Nat × Nat) (v:Value),(iS L)[p]?=some t→vs[p]?=some v→ft D.R w v t.2)
  (oJ:∀v∈vs,∀g,v.ownBlock=some g→C.lp g∧∀key,eM D γ key≠some g) (IL:∀(p q g:Nat),(vs.map Value.ownBlock)[p]?=some (some g)→(vs.map Value.ownBlock)[q]?=some (some g)→p=q) :
  ∃D',cN C D' (bP σ (L.map fun t=>lk t.2.1) (L.map fun _ => .dead)) (bP γ (L.map fun t=>lk t.2.1) (L.map fun t => .live t.2.2)) a w∧D'.R=D.R∧D'.β=D.β ∧
   (∀(p:Nat) (t:Nat × (Nat × Nat)) (v:Value),L[p]?=some t→vs[p]?=some v→D'.τ (lk t.2.1)=v)∧(∀k,(∀t∈L,k≠lk t.2.1)→D'.τ k=D.τ k) ∧
   (∀key g,eM D' (bP γ (L.map fun t=>lk t.2.1) (L.map fun t => .live t.2.2)) key=some g→eM D γ key=some g∨∃v∈vs,v.ownBlock=some g):=by
 let T:=List.zipWith (fun t v=>(t.2.1,(t.2.2,v))) L vs
 have e1:(T.map fun t=>lk t.1)=L.map fun t=>lk t.2.1:=qv (fun p=>lk p.1) hl
 have e2:(T.map fun t=>Gh.live t.2.1)=L.map fun t => .live t.2.2:=qv (fun p=>Gh.live p.2) hl
 have e3:T.map (·.1)=L.map (·.2.1):=qv (fun p=>p.1) hl
 have qW:∀t∈T,∃(p:Nat) (q:Nat × (Nat × Nat)) (v:Value),T[p]?=some t∧L[p]?=some q∧vs[p]?=some v∧t=(q.2.1,(q.2.2,v)):=fun t ht=>by
  obtain ⟨p,hp⟩:=bk ht
  obtain ⟨q,v,h1,h2,h3⟩:=ud hp
  exact ⟨p,q,v,hp,h1,h2,h3⟩
 obtain ⟨D',h1,hR,Db,pP,LS,hb⟩:=h.fV T (fun t ht=>by obtain ⟨p,q,v,_,h1,_,rfl⟩:=qW t ht;exact jW q (aU h1)) (by rw [e3];exact hnd)
  (fun t ht=>by obtain ⟨p,q,v,_,h1,h2,rfl⟩:=qW t ht;exact hT p (q.1,q.2.2) v (lP h1) h2)
  (fun t ht g hg=>by obtain ⟨p,q,v,_,h1,h2,rfl⟩:=qW t ht;exact oJ v (aU h2) g hg)
  (fun i j t u g hi hj ht hu=>by
   obtain ⟨q,v,h1,h2,rfl⟩:=ud hi
   obtain ⟨q',v',UK,Ct,rfl⟩:=ud hj
   exact IL i j g (by simp [h2];exact ht) (by simp [Ct];exact hu))
 rw [e1,e2] at h1 hb
 have h2:=h1.GJ (L.map fun t=>lk t.2.1) (fun k hk=>by
  cases hc:(bP γ (L.map fun t=>lk t.2.1) (L.map fun t=>Gh.live t.2.2) k).ff with
  | false=>rfl
  | true =>
   have:=(h1.om k hc).2
   obtain ⟨t,_,e⟩:=aP.1 hk
   have:=fN t.2.1
   omega)
 rw [aW] at h2
 refine ⟨D',h2,hR,Db,fun p t v ht hv=>?_,fun k hk=>?_,fun key g hk=>?_⟩
 ·have hp:T[p]?=some (t.2.1,(t.2.2,v)):=by simp only [T];rw [List.getElem?_zipWith];simp [ht,hv]
  exact pP _ (aU hp)
 ·exact LS k (fun t ht=>by obtain ⟨p,q,v,_,h1,_,rfl⟩:=qW t ht;exact hk q (aU h1))
 ·rcases hb key g hk with hk | ⟨t,ht,hg⟩
  ·exact .inl hk
  ·obtain ⟨p,q,v,_,h1,h2,rfl⟩:=qW t ht
   exact .inr ⟨v,aU h2,hg⟩
theorem sx {c:CS} {g:c7} (h:c.fits g=true):c.ref.map (·.1)=g.ref∧iS c.ky=g.fV∧iS c.gI=g.fV∧c.bQ=g.bQ∧iS c.own=g.own∧c.new.map (·.1)=g.new∧iS c.fL=g.fL ∧
  ((c.ky++c.gI++c.own++c.fL).map (·.2.1)).Nodup∧(c.ref=none→c.ky=[])∧(c.new=none→c.fL=[])∧(c.ref=none∨c.new=none)∧(∀q∈c.new.toList,q.1<c.bQ∧q.2<999999)∧g.ps=none:=by
 unfold CS.fits at h;exact aM h
variable (h:cN C D σ γ a w) (hd:o.dst=some d) (hl:d<C.nt)
include h hd hl
theorem E8 {f:Nat} {args:Array Operand} {ts:Array TypeId} {c:CS} {rs:List cR} (ho:o.op = .call { callee := .value (.func f),args,argTypes:=ts }) (hp:fI C.P f=true)
  {S:FS} (hS:dK C.P C.E.gl f S) (hc:c.fits S.sg=true) (gW:c.ref=none) (hx:bW args.toList rs=true) (de:small C.nt args.toList=true) {outs:List AV}
  (hG:S.G (rs.map (cR.ev C.E σ)) outs) (rD:outs.length=c.bQ+c.jt.length)
  (gX:∀q,c.new=some q→γ q.2 = .no∧C.nt≤q.2∧q.2<1000000) (jW:∀t∈c.own++c.fL,γ (lk t.2.1) = .no)
  (hK:∀D' a' w',cN C D' (bP σ (d :: (c.jt++c.mC)) (c.main outs :: (outs.drop c.bQ++c.mC.map fun _ => .dead)))
   (bP γ (d :: (c.jt++c.mC)) (c.dg :: (c.new.toList.map (fun _ => .cl c.fL)++c.ref.toList.map (fun _ => .cl c.gI)++c.ky.map (fun _ => .used)++(c.gI++c.own++c.fL).map fun t => .live t.2.2))) a' w'→K a' w'):o.wp C.P a w K Q:=by
 obtain ⟨f1,f2,f3,f4,f5,f6,f7,f8,f9,f10,f11,f12,f13⟩:=sx hc
 have zj:=f9 gW
 have tg:S.sg.ref=none:=by rw [←f1,gW];rfl
 have Cm:S.sg.fV=[]:=by rw [←f2,zj];rfl
 have Cl:c.gI=[]:=GN (by rw [f3,Cm])
 have F4:c.mC=(c.own++c.fL).map fun t=>lk t.2.1:=by simp [CS.mC,zj,Cl]
 have hnd:((c.own++c.fL).map (·.2.1)).Nodup:=by simpa [zj,Cl] using f8
 have hA:kx S.sg D.R w (rs.map (cR.ev C.E σ)) (args.toList.map a.eval):=by
  unfold kx;rw [tg];exact h.qL hx de
 refine h.G2 hd ho hp hS f13 hG hA ?_
 intro x R' w' hE eW hO
 have vr:nH S.sg w (args.toList.map a.eval)=fun _=>False:=by funext b;simp [nH,tg]
 rw [vr] at hE
 obtain ⟨rvs,tr,gg,tn,bn,br,cn,cr,o1,o2,o3,o4,o5,_,o7,o8,o9,_,Rl,VL,MZ,Lw,Ob⟩:=hO
 have Pf:tr=[]:=aS (by rw [o7,Cm];rfl)
 subst Pf
 have h1:=h.ve hE eW
 have Gg:(c.own++c.fL).length=(gg++tn).length:=by
  simp only [ao,o8,o9,←f5,←f7,iS,aH]
 have Gc:iS (c.own++c.fL)=S.sg.own++S.sg.fL:=by rw [←f5,←f7];simp [iS]
 -- whose blocks TZ are
 have FX:kj S.sg bn br ([]++gg++tn)=(if S.sg.new.isSome then [some bn] else [])++(gg++tn).map Value.ownBlock:=by
  simp [kj,tg]
 rw [FX] at Lw Ob
 have p8:∀g,some g∈(if S.sg.new.isSome then [some bn] else [])++(gg++tn).map Value.ownBlock→w.heap.size≤g:=fun g hg=>by
  rcases Ob g hg with e | e
  ·rw [vr] at e;exact e.elim
  ·exact e
 obtain ⟨D2,h2,P2,V5,O5,_,yg⟩:=h1.yq (L:=c.own++c.fL) (vs:=gg++tn) Gg jW hnd
  (fun p t v ht hv=>by rw [Gc] at ht;exact MZ p t v (by rw [Cm];exact ht) hv)
  (fun v hv g hg=>by
   have yf:=p8 g (List.mem_append.2 (.inr (aP.2 ⟨v,hv,hg⟩)))
   exact ⟨.inr (Nat.le_trans h.ext.size yf),fun key hk=>by have:=h.lt (show eM D γ key=some g from hk);omega⟩)
  (fun p q g hp hq=>by
   have:=Lw ((if S.sg.new.isSome then [some bn] else []).length+p) ((if S.sg.new.isSome then [some bn] else []).length+q) g
    (by rw [aK (by omega),Nat.add_sub_cancel_left];exact hp) (by rw [aK (by omega),Nat.add_sub_cancel_left];exact hq)
   omega)
 have kY:∀t∈c.own++c.fL,(bP γ ((c.own++c.fL).map fun t=>lk t.2.1) ((c.own++c.fL).map fun t => .live t.2.2) (lk t.2.1)).eD=true:=by
  intro t ht
  have:∀(L:List (Nat × (Nat × Nat))),t∈L→(bP γ (L.map fun t=>lk t.2.1) (L.map fun t => .live t.2.2) (lk t.2.1)).eD=true:=by
   intro L
   induction L with
   | nil=>intro hm;cases hm
   | cons u L ih =>
    intro hm
    simp only [ah,bP]
    by_cases e:lk t.2.1=lk u.2.1
    ·rw [e,bF];rfl
    ·rw [bG _ _ e]
     rcases bm.1 hm with rfl | hm
     ·exact (e rfl).elim
     ·exact ih hm
  exact this _ ht
 have Df:∀(p:Nat) (t:Nat × (Nat × Nat)) (v:Value),(c.own++c.fL)[p]?=some t→(gg++tn)[p]?=some v→v.oneCell'=true:=fun p t v ht hv=>by
  have PU:=lP ht
  rw [Gc] at PU
  rcases MZ p _ v (by rw [Cm];exact PU) hv with rfl | ⟨_,_,_,_,_,_,rfl,_⟩ <;> rfl
 have Co:∀t∈c.own,rvs[t.1]?=some (D2.τ (lk t.2.1))∧(D2.τ (lk t.2.1)).oneCell'=true:=fun t ht=>by
  obtain ⟨p,jH⟩:=bk ht
  have Bf:=(aF.1 jH).1
  have qp:gg.length=c.own.length:=by rw [o8,←f5];simp [iS]
  have hv:gg[p]?=some gg[p]:=aA (by omega)
  have e1:(c.own++c.fL)[p]?=some t:=by rw [List.getElem?_append_left Bf];exact jH
  have e2:(gg++tn)[p]?=some gg[p]:=by rw [List.getElem?_append_left (by omega)];exact hv
  have e3:=Rl p _ _ (by rw [←f5];exact lP jH) hv
  rw [O5 p t _ e1 e2]
  exact ⟨e3,Df p t _ e1 e2⟩
 have ir:=y6 (R:=R') (w:=w') f4 f6 o1 o2 (fun q hq=>(f12 q hq).1) o4
 cases hn:c.new with
 | none =>
  have oO:c.jt=[]:=by simp [CS.jt,hn,gW]
  have tc:=f10 hn
  have jh:outs.drop c.bQ=[]:=bc (by rw [rD,oO];simp)
  have h3:=h2.put (d:=d) (s:=c.main outs) (g:=c.dg) (v:=x) hl (.inr ⟨by rw [P2];exact ir,fun _=>CS.GF (by rw [o1,f4]) (by rw [f4];exact o2) Co (by simp [hn])⟩)
   (CS.pJ c).1 (CS.pJ c).2 (CS.xP (fun t ht=>kY t (by simp [ht])) (by simp [hn]))
  refine hK D2 (a.put (some d) x) w' ?_
  simp only [oO,F4,jh,hn,gW,zj,Cl,Option.toList,aq,bg,bP]
  simpa [Function.comp_def] using h3
 | some q =>
  obtain ⟨j,m⟩:=q
  obtain ⟨vq,xv,QN⟩:=gX _ hn
  have Mb:S.sg.new=some j:=by rw [←f6,hn];rfl
  have oO:c.jt=[m]:=by simp [CS.jt,hn,gW]
  obtain ⟨p1,p2⟩:=o5 j Mb
  have SB:outs.length=c.bQ+1:=by rw [rD,oO];rfl
  have Px:c.bQ<outs.length:=by omega
  have jh:outs.drop c.bQ=[outs.getD S.sg.bQ .dead]:=by
   rw [List.drop_eq_getElem_cons Px,bc (by omega),←f4]
   simp [List.getD,Px]
  have F2:m ∉ (c.own++c.fL).map fun t=>lk t.2.1:=fun hm=>by
   obtain ⟨t,_,e⟩:=aP.1 hm
   have:=fN t.2.1
   simp at e QN
   omega
  have IQ:bP γ ((c.own++c.fL).map fun t=>lk t.2.1) ((c.own++c.fL).map fun t => .live t.2.2) m = .no:=by rw [iK F2];exact vq
  have W0:w.heap.size≤bn:=p8 bn (by simp [Mb])
  have h3:=h2.newVar (m:=m) (b:=bn) (x:=outs.getD S.sg.bQ .dead) (cs:=cn) (ts:=c.fL) IQ xv (f12 (j,m) (by rw [hn];exact List.mem_singleton.2 rfl)).2 (by rw [P2];exact p2)
   (fun t ht=>⟨kY t (by simp [ht]),by
    obtain ⟨p,jH⟩:=bk ht
    have Bf:=(aF.1 jH).1
    have qp:gg.length=c.own.length:=by rw [o8,←f5];simp [iS]
    have Y9:tn.length=c.fL.length:=by rw [o9,←f7];simp [iS]
    have hv:tn[p]?=some tn[p]:=aA (by omega)
    rw [O5 (c.own.length+p) t tn[p] (by rw [aK (by omega),Nat.add_sub_cancel_left];exact jH) (by rw [aK (by omega),qp,Nat.add_sub_cancel_left];exact hv)]
    exact VL p _ _ (by rw [←f7];exact lP jH) hv⟩)
   ⟨.inr (Nat.le_trans h.ext.size W0),fun key hk=>by
    rcases yg key bn hk with e | ⟨v,hv,e⟩
    ·have:=h.lt (show eM D γ key=some bn from e);omega
    ·obtain ⟨p,jH⟩:=bk hv
     have:=Lw 0 (1+p) bn (by simp [Mb]) (by simp only [Mb,Option.isSome_some,if_true];rw [aK (by simp),show 1+p - [some bn].length=p by simp,aI,jH];simp [e])
     omega⟩
  have h4:=h3.put (d:=d) (s:=c.main outs) (g:=c.dg) (v:=x) hl (.inr ⟨by show Rep D2.R w' _ _;rw [P2];exact ir,fun _=>CS.GF (by rw [o1,f4]) (by rw [f4];exact o2) Co (fun q hq=>by
    rw [hn] at hq;cases hq
    show rvs[j]?=some (.pointer (some ⟨cI D2.β m bn m,0,none⟩))
    rw [bF];exact p1)⟩)
   (CS.pJ c).1 (CS.pJ c).2 (CS.xP (fun t ht=>by
    have fO:lk t.2.1≠m:=by have:=fN t.2.1;simp at QN;omega
    rw [bG _ _ fO];exact kY t (by simp [ht])) (fun q hq=>by rw [hn] at hq;cases hq;rw [bF];rfl))
  refine hK { D2 with β:=cI D2.β m bn } (a.put (some d) x) w' ?_
  simp only [oO,F4,jh,hn,gW,zj,Cl,Option.toList,aq,bg,ah,List.cons_append,bP]
  simpa [Function.comp_def] using h4
end
end Go.Eng
namespace Go.Eng
open Go.RowKit
theorem nv {α:Type} {l:List α} {i:Nat} {x:α} (h:l[i]?=some x):l.set i x=l:=by
 apply List.ext_getElem?
 intro j
 rw [List.getElem?_set]
 split
 ·rename_i e;subst e
  rw [aG (aF.1 h).1,h]
 ·rfl
theorem wb {α:Type}:∀{l:List α} {i j:Nat} {x:α},l.Nodup→l[i]?=some x→l[j]?=some x→i=j
 | [],i,j,x,_,h,_=>by simp at h
 | a :: l,0,0,x,_,_,_=>rfl
 | a :: l,0,j+1,x,hn,h,k=>by
  simp at h k
  subst h
  exact ((List.nodup_cons.1 hn).1 (aU k)).elim
 | a :: l,i+1,0,x,hn,h,k=>by
  simp at h k
  subst k
  exact ((List.nodup_cons.1 hn).1 (aU h)).elim
 | a :: l,i+1,j+1,x,hn,h,k=>by
  have:=wb (i:=i) (j:=j) (List.nodup_cons.1 hn).2 (by simpa using h) (by simpa using k)
  omega
section
variable {C:Ctx} {D:kf} {σ:Sg} {γ:Ga} {a:Act} {w:World}
variable {o:Oper} {d:Nat} {K:Act→World→Prop} {Q:Exit→Act→World→Prop}
variable (h:cN C D σ γ a w) (hd:o.dst=some d) (hl:d<C.nt)
include h hd hl
theorem E7 {f : Nat} {args : Array Operand} {pn : Array TypeId} {c : CS} {rs : List cR} {i m : Nat} {ts : List (Nat × (Nat × Nat))} (ho : o.op = .call { callee := .value (.func f), args, argTypes := pn }) (hp : fI C.P f = true)
    {S : FS} (hS : dK C.P C.E.gl f S) (hc : c.fits S.sg = true) (gW : c.ref = some (i, m)) (hx : bW args.toList rs = true) (de : small C.nt args.toList = true) {outs : List AV}
    (tT : (rs.map (cR.ev C.E σ))[i]? = some .pt) (Dm : (rs.map (cR.gh γ))[i]? = some (.ptr m 0)) (hm : γ m = .cl ts) (nR : ∀ t ∈ c.ky, t ∈ ts) (kY : ∀ t ∈ c.ky, γ (lk t.2.1) = .live t.2.2)
    (hG : S.G ((rs.map (cR.ev C.E σ)).set i (σ m)) outs) (rD : outs.length = c.bQ + c.jt.length) (jW : ∀ t ∈ c.gI ++ c.own, γ (lk t.2.1) = .no)
    (hK : ∀ D' a' w', cN C D' (bP σ (d :: (c.jt ++ c.mC)) (c.main outs :: (outs.drop c.bQ ++ c.mC.map fun _ => .dead)))
      (bP γ (d :: (c.jt ++ c.mC)) (c.dg :: (c.new.toList.map (fun _ => .cl c.fL) ++ c.ref.toList.map (fun _ => .cl c.gI) ++ c.ky.map (fun _ => .used) ++ (c.gI ++ c.own ++ c.fL).map fun t => .live t.2.2))) a' w' → K a' w') : o.wp C.P a w K Q := by
  obtain ⟨f1, f2, f3, f4, f5, f6, f7, f8, f9, f10, f11, f12, f13⟩ := sx hc
  have gX : c.new = none := by rcases f11 with e | e; · rw [gW] at e; cases e
                               · exact e
  have tc := f10 gX
  have tg : S.sg.ref = some i := by rw [← f1, gW]; rfl
  have Kc : S.sg.new = none := by rw [← f6, gX]; rfl
  have Bh : S.sg.fL = [] := by rw [← f7, tc]; rfl
  have oO : c.jt = [m] := by simp [CS.jt, gX, gW]
  have F4 : c.mC = (c.ky.map fun t => lk t.2.1) ++ (c.gI ++ c.own).map fun t => lk t.2.1 := by simp [CS.mC, tc]
  simp only [tc, aR] at f8
  have Ps : (c.ky.map (·.2.1)).Nodup := by
    rw [aN, List.map_append] at f8; exact (List.nodup_append.1 f8).1
  have SF : ((c.gI ++ c.own).map (·.2.1)).Nodup := by
    rw [aN, List.map_append] at f8; exact (List.nodup_append.1 f8).2.1
  have PR : ∀ t ∈ c.ky, ∀ u ∈ c.gI ++ c.own, t.2.1 ≠ u.2.1 := by
    rw [aN, List.map_append] at f8
    intro t ht u hu
    exact (List.nodup_append.1 f8).2.2 _ (aP.2 ⟨t, ht, rfl⟩) _ (aP.2 ⟨u, hu, rfl⟩)
  obtain ⟨vq, xv⟩ := h.om m (by rw [hm]; rfl)
  have Di : ∀ k, m ≠ lk k := fun k => by have := fN k; omega
  -- the arguments
  obtain ⟨cs, hV, xy⟩ := h.mem m ts hm
  have hT := h.qL hx de
  have xw := (aF.1 tT).1
  obtain ⟨y, wq, _⟩ := hT.get i .pt tT
  have L3 : (args.toList.map a.eval)[i]? = some (.pointer (some ⟨D.β m, 0, none⟩)) := by
    have key : ∀ {l : List Operand} {qs : List cR} {i : Nat}, bW l qs = true → small C.nt l = true → (qs.map (cR.ev C.E σ))[i]? = some .pt → (qs.map (cR.gh γ))[i]? = some (.ptr m 0) → (l.map a.eval)[i]? = some (.pointer (some ⟨D.β m, 0, none⟩)) := by
      intro l
      induction l with
      | nil => intro qs i hq _ jH; cases qs with
        | nil => simp at jH
        | cons => simp [bW] at hq
      | cons x l ih =>
        intro qs i hq QI jH kn
        cases qs with
        | nil => simp [bW] at hq
        | cons q qs =>
          simp [bW] at hq
          have s1 : small C.nt [x] = true := by simp [small] at QI ⊢; exact QI.1
          have s2 : small C.nt l = true := by simp only [small, List.all_cons, aa] at QI; exact QI.2
          cases i with
          | zero =>
            simp at jH kn
            have := (h.gE hq.1 s1).gh (by rw [jH]; simp) (by rw [jH]; simp)
            rw [kn] at this
            simpa [iB] using this
          | succ i => simpa using ih hq.2 s2 (by simpa using jH) (by simpa using kn)
    exact key hx de tT Dm
  let tv : List Value := c.ky.map fun t => D.τ (lk t.2.1)
  have M3 : ∀ (p : Nat) (t : Nat × (Nat × Nat)), c.ky[p]? = some t → tv[p]? = some (D.τ (lk t.2.1)) := fun p t ht => by simp [tv, ht]
  have zu : ∀ t ∈ c.ky, eM D γ (lk t.2.1) = (D.τ (lk t.2.1)).ownBlock := fun t ht => gG (kY t ht)
  have hA : kx S.sg D.R w ((rs.map (cR.ev C.E σ)).set i (σ m)) (args.toList.map a.eval) := by
    unfold kx
    rw [tg]
    refine ⟨D.β m, cs, σ m, tv, L3, List.getElem?_set_self xw, hV, ?_, ?_, ?_, ?_⟩
    · rw [List.set_set, nv tT]; exact hT
    · simp [tv, ← f2, iS]
    · intro p t v ht hv
      rw [← f2] at ht
      simp only [iS, aI] at ht
      cases hq : c.ky[p]? with
      | none => simp [hq] at ht
      | some q =>
        simp [hq] at ht
        subst ht
        have e := M3 p q hq
        rw [hv] at e
        cases e
        have qW := aU hq
        exact ⟨xy q (nR q qW), h.cD _ _ (kY q qW)⟩
    · have jg : ∀ (p g : Nat), (some (D.β m) :: tv.map Value.ownBlock)[p]? = some (some g) → ∃ key, eM D γ key = some g ∧ ((p = 0 ∧ key = m) ∨ ∃ p' t, p = p' + 1 ∧ c.ky[p']? = some t ∧ key = lk t.2.1) := by
        intro p g jH
        cases p with
        | zero => simp at jH; exact ⟨m, by rw [gV hm, jH], .inl ⟨rfl, rfl⟩⟩
        | succ p =>
          simp only [List.getElem?_cons_succ, tv, aW, aI] at jH
          cases hq : c.ky[p]? with
          | none => simp [hq] at jH
          | some q =>
            simp [hq] at jH
            exact ⟨lk q.2.1, by rw [zu q (aU hq)]; exact jH, .inr ⟨p, q, rfl, hq, rfl⟩⟩
      intro p q g jH As
      obtain ⟨k1, e1, c1⟩ := jg p g jH
      obtain ⟨k2, e2, c2⟩ := jg q g As
      have SR : k1 = k2 := h.rR (by
        rcases c1 with ⟨_, e⟩ | ⟨p', t, _, ht, e⟩
        · rw [e, hm]; rfl
        · rw [e, kY t (aU ht)]; rfl) e1 e2
      rcases c1 with ⟨rfl, rfl⟩ | ⟨p', t, rfl, ht, rfl⟩ <;> rcases c2 with ⟨rfl, rfl⟩ | ⟨q', u, rfl, hu, rfl⟩
      · rfl
      · exact (Di _ SR).elim
      · exact (Di _ SR.symm).elim
      · have hid := fT SR
        have h1 : (c.ky.map (·.2.1))[p']? = some t.2.1 := by simp [ht]
        have h2 : (c.ky.map (·.2.1))[q']? = some t.2.1 := by simp [hu, hid]
        have := wb Ps h1 h2
        omega
  refine h.G2 hd ho hp hS f13 hG hA ?_
  intro x R' w' hE eW hO
  obtain ⟨rvs, tr, gg, tn, bn, br, cn, cr, o1, o2, o3, o4, _, o6, o7, o8, o9, VM, Rl, _, MZ, Lw, Ob⟩ := hO
  have Pg : tn = [] := aS (by rw [o9, Bh]; rfl)
  subst Pg
  obtain ⟨p1, p2⟩ := o6 i tg
  rw [L3] at p1
  cases p1
  simp only [Kc, Option.isSome_none, aY, if_false, Nat.add_zero] at p2 o3
  -- what the call may have written
  have vr : ∀ b, nH S.sg w (args.toList.map a.eval) b → b = D.β m ∨ ∃ t ∈ c.ky, (D.τ (lk t.2.1)).ownBlock = some b := by
    intro b hb
    unfold nH at hb
    rw [tg] at hb
    obtain ⟨b', Q2, e', q1, q2, q3⟩ := hb
    rw [L3] at q1
    cases q1
    rcases q3 with q3 | ⟨t, ht, v, hv, LW⟩
    · exact .inl q3
    · right
      obtain ⟨_, hh, _⟩ := hV
      rw [hh] at q2
      cases q2
      rw [← f2] at ht
      obtain ⟨q, hq, rfl⟩ := aP.1 ht
      have := xy q (nR q hq)
      simp only at hv
      rw [this] at hv
      cases hv
      exact ⟨q, hq, LW⟩
  -- the YS fV are used up
  have h1 := h.JP (c.ky.map fun t => (lk t.2.1, t.2.2)) (fun u hu => by obtain ⟨t, ht, rfl⟩ := aP.1 hu; exact kY t ht) (by
    rw [aW]
    have : ((fun x : Nat × Nat => x.1) ∘ fun t : Nat × (Nat × Nat) => (lk t.2.1, t.2.2)) = lk ∘ fun t => t.2.1 := rfl
    rw [this, ← aW]
    exact List.Pairwise.map _ (fun _ _ fO e => fO (fT e)) Ps)
  simp only [aW] at h1
  have eT : (c.ky.map ((fun x : Nat × Nat => x.1) ∘ fun t : Nat × (Nat × Nat) => (lk t.2.1, t.2.2))) = c.ky.map fun t => lk t.2.1 := rfl
  have eU : (c.ky.map ((fun _ : Nat × Nat => Gh.used) ∘ fun t : Nat × (Nat × Nat) => (lk t.2.1, t.2.2))) = c.ky.map fun _ => Gh.used := rfl
  rw [eT, eU] at h1
  have SK : m ∉ c.ky.map fun t => lk t.2.1 := fun jI => by obtain ⟨t, _, e⟩ := aP.1 jI; exact Di _ e.symm
  have SL : m ∉ (c.gI ++ c.own).map fun t => lk t.2.1 := fun jI => by obtain ⟨t, _, e⟩ := aP.1 jI; exact Di _ e.symm
  have Ke : ∀ key g, eM D (bP γ (c.ky.map fun t => lk t.2.1) (c.ky.map fun _ => Gh.used)) key = some g → eM D γ key = some g ∧ ∀ t ∈ c.ky, key ≠ lk t.2.1 := by
    intro key g hk
    have IP : key ∉ c.ky.map fun t => lk t.2.1 := fun qW => by
      have : ∀ (L : List (Nat × (Nat × Nat))), key ∈ (L.map fun t => lk t.2.1) → bP γ (L.map fun t => lk t.2.1) (L.map fun _ => Gh.used) key = .used := by
        intro L
        induction L with
        | nil => intro jI; cases jI
        | cons u L ih =>
          intro jI
          simp only [ah, bP]
          by_cases e : key = lk u.2.1
          · rw [e, bF]
          · rw [bG _ _ e]
            rcases bm.1 jI with e' | jI
            · exact (e e').elim
            · exact ih jI
      unfold eM at hk
      rw [this _ qW] at hk
      cases hk
    refine ⟨by unfold eM at hk ⊢; rwa [iK IP] at hk, fun t ht e => IP (aP.2 ⟨t, ht, e.symm⟩)⟩
  have IQ : bP γ (c.ky.map fun t => lk t.2.1) (c.ky.map fun _ => Gh.used) m = .cl ts := by rw [iK SK]; exact hm
  have h2 := h1.DI IQ hE (fun b hb => by
      rcases vr b hb with e | ⟨t, ht, e⟩
      · exact .inl e
      · refine .inr ⟨h.own (lk t.2.1) b (by rw [zu t ht]; exact e), fun key hk => ?_⟩
        obtain ⟨k1, k2⟩ := Ke key b hk
        exact k2 t ht (h.rR (key := lk t.2.1) (by rw [kY t ht]; rfl) (by rw [zu t ht]; exact e) k1).symm) p2 eW
  -- the new fV
  have FX : kj S.sg bn (D.β m) (tr ++ gg ++ []) = some (D.β m) :: (tr ++ gg).map Value.ownBlock := by simp [kj, tg, Kc]
  rw [FX] at Lw Ob
  simp only [aR] at MZ
  have Gg : (c.gI ++ c.own).length = (tr ++ gg).length := by simp only [ao, o7, o8, ← f3, ← f5, iS, aH]
  have Gc : iS (c.gI ++ c.own) = S.sg.fV ++ S.sg.own := by rw [← f3, ← f5]; simp [iS]
  have PW : ∀ key g, eM { D with R := R' } (cI (bP γ (c.ky.map fun t => lk t.2.1) (c.ky.map fun _ => Gh.used)) m (.cl [])) key = some g → eM D γ key = some g ∧ ∀ t ∈ c.ky, key ≠ lk t.2.1 := by
    intro key g hk
    apply Ke
    unfold eM at hk ⊢
    by_cases e : key = m
    · subst e; rw [bF] at hk; rw [IQ]; exact hk
    · rw [bG _ _ e] at hk; exact hk
  obtain ⟨D3, h3, Ux, Sb, O4, _, _⟩ := h2.yq (L := c.gI ++ c.own) (vs := tr ++ gg) Gg
    (fun t ht => by
      rw [bG _ _ (Di _).symm, iK (fun qW => by obtain ⟨u, hu, e⟩ := aP.1 qW; exact PR u hu t ht (fT e))]
      exact jW t ht) SF
    (fun p t v ht hv => by rw [Gc] at ht; exact MZ p t v (by rw [Bh, aR]; exact ht) hv)
    (fun v hv g hg => by
      have ho := Ob g (bm.2 (.inr (aP.2 ⟨v, hv, hg⟩)))
      obtain ⟨p, jH⟩ := bk hv
      have fO : g ≠ D.β m := fun e => by
        have := Lw 0 (p + 1) g (by simp [e]) (by rw [List.getElem?_cons_succ, aI, jH]; simp [hg])
        omega
      refine ⟨?_, fun key hk => ?_⟩
      · rcases ho with ho | ho
        · rcases vr g ho with e | ⟨t, ht, e⟩
          · exact (fO e).elim
          · exact h.own (lk t.2.1) g (by rw [zu t ht]; exact e)
        · exact .inr (Nat.le_trans h.ext.size ho)
      · obtain ⟨k1, k2⟩ := PW key g hk
        rcases ho with ho | ho
        · rcases vr g ho with e | ⟨t, ht, e⟩
          · exact fO e
          · exact k2 t ht (h.rR (key := lk t.2.1) (by rw [kY t ht]; rfl) (by rw [zu t ht]; exact e) k1).symm
        · have := h.lt k1; omega)
    (fun p q g jH As => by
      have := Lw (p + 1) (q + 1) g (by simpa using jH) (by simpa using As)
      omega)
  have F5 : ∀ (TT : Ga) (t : Nat × (Nat × Nat)) (L : List (Nat × (Nat × Nat))), t ∈ L → (bP TT (L.map fun t => lk t.2.1) (L.map fun t => .live t.2.2) (lk t.2.1)).eD = true := by
    intro TT t L
    induction L with
    | nil => intro jI; cases jI
    | cons u L ih =>
      intro jI
      simp only [ah, bP]
      by_cases e : lk t.2.1 = lk u.2.1
      · rw [e, bF]; rfl
      · rw [bG _ _ e]
        rcases bm.1 jI with rfl | jI
        · exact (e rfl).elim
        · exact ih jI
  have qp : tr.length = c.gI.length := by rw [o7, ← f3]; simp [iS]
  have Wz : gg.length = c.own.length := by rw [o8, ← f5]; simp [iS]
  have Df : ∀ (p : Nat) (t : Nat × (Nat × Nat)) (v : Value), (c.gI ++ c.own)[p]? = some t → (tr ++ gg)[p]? = some v → v.oneCell' = true := fun p t v ht hv => by
    have PU := lP ht
    rw [Gc] at PU
    rcases MZ p _ v (by rw [Bh, aR]; exact PU) hv with rfl | ⟨_, _, _, _, _, _, rfl, _⟩ <;> rfl
  have QN : bP (cI (bP γ (c.ky.map fun t => lk t.2.1) (c.ky.map fun _ => Gh.used)) m (.cl [])) ((c.gI ++ c.own).map fun t => lk t.2.1) ((c.gI ++ c.own).map fun t => .live t.2.2) m = .cl [] := by rw [iK SL, bF]
  have h4 := h3.store (us := c.gI) (x := outs.getD S.sg.bQ .dead) (cs := cr) QN rfl rfl rfl rfl (fun _ _ => rfl) (by rw [Sb, Ux]; exact p2) (fun t ht => ⟨F5 _ t _ (by simp [ht]), by
      obtain ⟨p, jH⟩ := bk ht
      have Bf := (aF.1 jH).1
      have hv : tr[p]? = some tr[p] := aA (by omega)
      rw [O4 p t tr[p] (by rw [List.getElem?_append_left Bf]; exact jH) (by rw [List.getElem?_append_left (by omega)]; exact hv)]
      exact VM p _ _ (by rw [← f3]; exact lP jH) hv⟩)
  have h5 := h4.GJ (c.ky.map fun t => lk t.2.1) (fun k hk => by
    cases jf : (cI (bP (cI (bP γ (c.ky.map fun t => lk t.2.1) (c.ky.map fun _ => Gh.used)) m (.cl [])) ((c.gI ++ c.own).map fun t => lk t.2.1) ((c.gI ++ c.own).map fun t => .live t.2.2)) m (.cl c.gI) k).ff with
    | false => rfl
    | true =>
      have := (h4.om k jf).2
      obtain ⟨t, _, e⟩ := aP.1 hk
      have := fN t.2.1
      omega)
  have Co : ∀ t ∈ c.own, rvs[t.1]? = some (D3.τ (lk t.2.1)) ∧ (D3.τ (lk t.2.1)).oneCell' = true := fun t ht => by
    obtain ⟨p, jH⟩ := bk ht
    have Bf := (aF.1 jH).1
    have hv : gg[p]? = some gg[p] := aA (by omega)
    have e1 : (c.gI ++ c.own)[c.gI.length + p]? = some t := by rw [aK (by omega), Nat.add_sub_cancel_left]; exact jH
    have e2 : (tr ++ gg)[c.gI.length + p]? = some gg[p] := by rw [aK (by omega), qp, Nat.add_sub_cancel_left]; exact hv
    have e3 := Rl p _ _ (by rw [← f5]; exact lP jH) hv
    rw [O4 _ t _ e1 e2]
    exact ⟨e3, Df _ t _ e1 e2⟩
  have ir := y6 (R := R') (w := w') f4 f6 o1 o2 (fun q hq => (f12 q hq).1) o4
  have h6 := h5.put (d := d) (s := c.main outs) (g := c.dg) (v := x) hl (.inr ⟨by rw [Ux]; exact ir, fun _ => CS.GF (by rw [o1, f4]) (by rw [f4]; exact o2) Co (by simp [gX])⟩)
    (CS.pJ c).1 (CS.pJ c).2 (CS.xP (fun t ht => by rw [bG _ _ (Di _).symm]; exact F5 _ t _ (by simp [ht])) (by simp [gX]))
  refine hK D3 (a.put (some d) x) w' ?_
  have SB : outs.length = c.bQ + 1 := by rw [rD, oO]; rfl
  have jh : outs.drop c.bQ = [outs.getD S.sg.bQ .dead] := by
    rw [List.drop_eq_getElem_cons (by omega), bc (by omega), ← f4]
    simp [List.getD, show c.bQ < outs.length by omega]
  have PQ : ∀ k ∈ c.ky.map (fun t => lk t.2.1), k ∉ (c.gI ++ c.own).map fun t => lk t.2.1 := fun k hk jC => by
    obtain ⟨t, ht, rfl⟩ := aP.1 hk
    obtain ⟨u, hu, e⟩ := aP.1 jC
    exact PR t ht u hu (fT e).symm
  have Dz : bP σ (c.jt ++ c.mC) (outs.drop c.bQ ++ c.mC.map fun _ => .dead) =
      bP (cI (bP (cI σ m (outs.getD S.sg.bQ .dead)) ((c.gI ++ c.own).map fun t => lk t.2.1) ((c.gI ++ c.own).map fun _ => .dead)) m (outs.getD S.sg.bQ .dead)) (c.ky.map fun t => lk t.2.1) ((c.ky.map fun t => lk t.2.1).map fun _ => .dead) := by
    rw [oO, jh, F4]
    simp only [List.cons_append, bg, bP]
    have e : ∀ (A B : List Nat), ((A ++ B).map fun _ => AV.dead) = (A.map fun _ => .dead) ++ B.map fun _ => .dead := fun A B => List.map_append
    rw [ij SK, ij SL, ij SK, py, e (c.ky.map fun t => lk t.2.1), oa (by simp), aW (l := c.gI ++ c.own)]
    rfl
  have zR : bP γ (c.jt ++ c.mC) (c.new.toList.map (fun _ => Gh.cl c.fL) ++ c.ref.toList.map (fun _ => .cl c.gI) ++ c.ky.map (fun _ => .used) ++ (c.gI ++ c.own ++ c.fL).map fun t => .live t.2.2) =
      cI (bP (cI (bP γ (c.ky.map fun t => lk t.2.1) (c.ky.map fun _ => Gh.used)) m (.cl [])) ((c.gI ++ c.own).map fun t => lk t.2.1) ((c.gI ++ c.own).map fun t => .live t.2.2)) m (.cl c.gI) := by
    rw [oO, F4, gX, gW, tc]
    simp only [Option.toList, aq, bg, ah, List.cons_append, aR, bP]
    rw [ij SL, py, rJ PQ, oa (by simp)]
  simp only [bP]
  rw [Dz, zR]
  exact h6
end
end Go.Eng
namespace Go.Eng
open Go.RowKit
section
variable {C:Ctx} {D:kf} {σ:Sg} {γ:Ga} {a:Act} {w:World}
theorem bI {nt:Nat} {l:List Operand} (h:small nt l=true) {x:Operand} (hx:x∈l):small nt [x]=true:=by
 simp only [small,List.all_cons,List.all_nil,Bool.and_true]
 exact aL.1 h x hx
theorem gn {nt:Nat} {l l':List Operand} (h:small nt l=true) (hs:∀x∈l',x∈l):small nt l'=true :=
 aL.2 fun x hx=>aL.1 h x (hs x hx)
theorem eF {nt:Nat} {dst:Option Nat} {l ds:List Nat} (h:(match dst with | some d=>decide (d<nt)&&ds == d :: l | none=>false)=true):∃d,dst=some d∧d<nt∧ds=d :: l:=by
 cases dst with
 | none=>cases h
 | some d=>simp at h;exact ⟨d,rfl,h.1,h.2⟩
theorem km {α:Type} {l:List α} (h:l.length=1):∃x,l=[x]:=by
 match l,h with
 | [x],_=>exact ⟨x,rfl⟩
theorem uW {α:Type} {l:List α} (h:l.length=2):∃x y,l=[x,y]:=by
 match l,h with
 | [x,y],_=>exact ⟨x,y,rfl⟩
theorem DK {α:Type} {l:Array α} {x:α} (h:l.toList=[x]):l=#[x]:=by apply Array.ext';simpa using h
theorem rA {α:Type} {l:Array α} {x y:α} (h:l.toList=[x,y]):l=#[x,y]:=by apply Array.ext';simpa using h
theorem fv:∀{l:List Operand} {rs:List cR},bW l rs=true→l.length=rs.length
 | [],[],_=>rfl
 | _ :: _,_ :: _,h=>by simp [bW] at h;simp [fv h.2]
 | [],_ :: _,h=>by simp [bW] at h
 | _ :: _,[],h=>by simp [bW] at h
variable {sg:Nat→c7} {dst:Option Nat} {op:Op} {ty:TypeId} {pos:String} {after:Array Edge} {guard:Option (Nat × Bool)} {k:K} {rs:List cR} {ds:List Nat} {gd:Option (Nat × Bool)} {ws:List AV} {gs:List Gh}
 {K':Act→World→Prop} {Q:Exit→Act→World→Prop}
def cF (C:Ctx) (sg:Nat→c7) (k:K):Prop :=
 ∀{D:kf} {σ:Sg} {γ:Ga} {a:Act} {w:World} {dst:Option Nat} {op:Op} {ty:TypeId} {pos:String} {after:Array Edge} {guard:Option (Nat × Bool)} {rs:List cR} {ds:List Nat} {gd:Option (Nat × Bool)} {ws:List AV} {gs:List Gh}
  {K':Act→World→Prop} {Q:Exit→Act→World→Prop},cN C D σ γ a w→ee C.P sg ⟨dst,op,ty,pos,after,guard⟩ ⟨k,rs,ds,gd⟩=true→cq C.nt dst ⟨k,rs,ds,gd⟩=true→small C.nt op.operands.toList=true →
  eo C.E k (rs.map (cR.ev C.E σ)) ws→dw k (rs.map (cR.gh γ))=some gs →
  (∀D' a' w',cN C D' (bP σ ds ws) (bP γ ds gs) a' w'→K' a' w')→(⟨dst,op,ty,pos,after,guard⟩:Oper).wp C.P a w K' Q
theorem RA:cF C sg .mv:=by
 intro D σ γ a w dst op ty pos after guard rs ds gd ws gs K' Q h ho hk de hs hg hK
 obtain ⟨d,rfl,hl,rfl⟩:=eF (l:=[]) hk
 simp only [ee] at ho
 split at ho
 ·rename_i x _
  obtain ⟨r,rfl,hx⟩:=ka ho
  simp only [ah,aq,eo] at hs
  simp only [ah,aq,dw,aB] at hg
  subst hs;subst hg
  exact JC h rfl hl (.inl rfl) hx (bI de (by simp [Op.operands])) hK
 ·rename_i x _
  obtain ⟨r,rfl,hx⟩:=ka ho
  simp only [ah,aq,eo] at hs
  simp only [ah,aq,dw,aB] at hg
  subst hs;subst hg
  exact JC h rfl hl (.inr rfl) hx (bI de (by simp [Op.operands])) hK
 ·cases ho
theorem Rx {k s:Nat}:cF C sg (.nl k s):=by
 intro D σ γ a w dst op ty pos after guard rs ds gd ws gs K' Q h ho hk de hs hg hK
 simp only [cq,aa] at hk
 obtain ⟨eH,gM⟩:=hk
 obtain ⟨d,rfl,hl,rfl⟩:=eF gM
 simp only [ee] at ho
 split at ho
 ·rename_i r
  simp at eH
  cases r <;> simp at eH
  subst eH
  simp only [ah,aq,eo] at hs
  subst hs
  simp only [ah,aq,cR.gh] at hg
  simp only [dw] at hg
  split at hg
  ·rename_i e;cases hg;simp at e;exact JB h rfl hl (.inl rfl) e hK
  ·cases hg
 ·rename_i r
  simp at eH
  cases r <;> simp at eH
  subst eH
  simp only [ah,aq,eo] at hs
  subst hs
  simp only [ah,aq,cR.gh] at hg
  simp only [dw] at hg
  split at hg
  ·rename_i e;cases hg;simp at e;exact JB h rfl hl (.inr rfl) e hK
  ·cases hg
 ·cases ho
theorem LK:cF C sg .pick:=by
 intro D σ γ a w dst op ty pos after guard rs ds gd ws gs K' Q h ho hk de hs hg hK
 obtain ⟨d,rfl,hl,rfl⟩:=eF (l:=[]) hk
 simp only [dw,aB] at hg
 subst hg
 simp only [ee] at ho
 split at ho
 ·obtain ⟨r,q,s,rfl,hc,hx,hy⟩:=ET ho
  simp only [ah,aq,eo] at hs
  split at hs
  ·rename_i b x y heq
   simp only [aj,and_true] at heq
   obtain ⟨e1,e2,e3⟩:=heq
   subst e2;subst e3;subst hs
   exact Ib h rfl hl rfl hc hx hy (bI de (by simp [Op.operands])) (bI de (by simp [Op.operands])) (bI de (by simp [Op.operands])) e1 hK
  ·cases hs
 ·cases ho
theorem OU {b:BinOp}:cF C sg (.bin b):=by
 intro D σ γ a w dst op ty pos after guard rs ds gd ws gs K' Q h ho hk de hs hg hK
 obtain ⟨d,rfl,hl,rfl⟩:=eF (l:=[]) hk
 simp only [dw,aB] at hg
 subst hg
 simp only [ee] at ho
 split at ho
 ·simp only [aa,beq_iff_eq] at ho
  obtain ⟨hb,ho⟩:=ho
  subst hb
  obtain ⟨r,q,rfl,hx,hy⟩:=iE ho
  simp only [ah,aq,eo] at hs
  split at hs
  ·rename_i u v heq
   simp only [aj,and_true] at heq
   obtain ⟨e1,e2⟩:=heq
   obtain ⟨z,hz,rfl⟩:=hs
   exact Ls h rfl hl rfl hx hy (bI de (by simp [Op.operands])) (bI de (by simp [Op.operands])) e1 e2 hz hK
  ·cases hs
 ·cases ho
theorem RZ {neg:Bool}:cF C sg (.be neg):=by
 intro D σ γ a w dst op ty pos after guard rs ds gd ws gs K' Q h ho hk de hs hg hK
 obtain ⟨d,rfl,hl,rfl⟩:=eF (l:=[]) hk
 simp only [dw,aB] at hg
 subst hg
 simp only [ee] at ho
 split at ho
 ·simp only [aa,beq_iff_eq] at ho
  obtain ⟨⟨ht,hb⟩,ho⟩:=ho
  obtain ⟨r,q,rfl,hx,hy⟩:=iE ho
  simp only [ah,aq,eo] at hs
  split at hs
  ·rename_i u v heq
   simp only [aj,and_true] at heq
   obtain ⟨e1,e2⟩:=heq
   subst hs
   exact N6 h rfl hl rfl hb (xq ht) hx hy (bI de (by simp [Op.operands])) (bI de (by simp [Op.operands])) e1 e2 hK
  ·cases hs
 ·cases ho
theorem Rq {b:UnOp}:cF C sg (.un b):=by
 intro D σ γ a w dst op ty pos after guard rs ds gd ws gs K' Q h ho hk de hs hg hK
 obtain ⟨d,rfl,hl,rfl⟩:=eF (l:=[]) hk
 simp only [dw,aB] at hg
 subst hg
 simp only [ee] at ho
 split at ho
 ·simp only [aa,beq_iff_eq] at ho
  obtain ⟨hb,ho⟩:=ho
  subst hb
  obtain ⟨r,rfl,hx⟩:=ka ho
  simp only [ah,aq,eo] at hs
  split at hs
  ·rename_i u heq
   simp only [aj,and_true] at heq
   obtain ⟨z,hz,rfl⟩:=hs
   exact NC h rfl hl rfl hx (bI de (by simp [Op.operands])) heq hz hK
  ·cases hs
 ·cases ho
theorem RT {k:IntKind}:cF C sg (.ci k):=by
 intro D σ γ a w dst op ty pos after guard rs ds gd ws gs K' Q h ho hk de hs hg hK
 obtain ⟨d,rfl,hl,rfl⟩:=eF (l:=[]) hk
 simp only [dw,aB] at hg
 subst hg
 simp only [ee] at ho
 split at ho
 ·simp only [aa] at ho
  obtain ⟨⟨ht,hu⟩,ho⟩:=ho
  obtain ⟨r,rfl,hx⟩:=ka ho
  simp only [ah,aq,eo] at hs
  split at hs
  ·rename_i k' n heq
   simp only [aj,and_true] at heq
   subst hs
   exact NY h rfl hl rfl (sZ ht) hu hx (bI de (by simp [Op.operands])) heq hK
  ·cases hs
 ·cases ho
theorem RR:cF C sg .cs:=by
 intro D σ γ a w dst op ty pos after guard rs ds gd ws gs K' Q h ho hk de hs hg hK
 obtain ⟨d,rfl,hl,rfl⟩:=eF (l:=[]) hk
 simp only [dw,aB] at hg
 subst hg
 simp only [ee] at ho
 split at ho
 ·simp only [aa] at ho
  obtain ⟨⟨ht,hu⟩,ho⟩:=ho
  obtain ⟨r,rfl,hx⟩:=ka ho
  simp only [ah,aq,eo] at hs
  split at hs
  ·rename_i b heq
   simp only [aj,and_true] at heq
   subst hs
   exact NW h rfl hl rfl (gj hu) (gj ht) hx (bI de (by simp [Op.operands])) heq hK
  ·cases hs
 ·cases ho
theorem Rv:cF C sg .sb:=by
 intro D σ γ a w dst op ty pos after guard rs ds gd ws gs K' Q h ho hk de hs hg hK
 obtain ⟨d,rfl,hl,rfl⟩:=eF (l:=[]) hk
 simp only [dw,aB] at hg
 subst hg
 simp only [ee] at ho
 split at ho
 ·simp only [aa] at ho
  obtain ⟨⟨ht,hu⟩,ho⟩:=ho
  obtain ⟨e,Pd,Pc⟩:=kD hu
  obtain ⟨r,rfl,hx⟩:=ka ho
  simp only [ah,aq,eo] at hs
  split at hs
  ·rename_i b heq
   simp only [aj,and_true] at heq
   obtain ⟨hb,rfl⟩:=hs
   exact NF h rfl hl rfl (gj ht) Pd Pc hx (bI de (by simp [Op.operands])) heq hb hK
  ·cases hs
 ·cases ho
theorem Ot {k:Nat}:cF C sg (.Ju k):=by
 intro D σ γ a w dst op ty pos after guard rs ds gd ws gs K' Q h ho hk de hs hg hK
 simp only [cq,aa] at hk
 obtain ⟨⟨j7,eH⟩,gM⟩:=hk
 obtain ⟨d,rfl,hl,rfl⟩:=eF gM
 simp only [ee] at ho
 split at ho
 ·rename_i s u x r rest _ _
  simp only [aa] at ho
  obtain ⟨⟨ht,hu⟩,ho⟩:=ho
  obtain ⟨e,Pd,Pc⟩:=kD hu
  simp at j7
  obtain ⟨q,rfl⟩:=km j7
  cases q <;> simp at eH
  subst eH
  simp only [ah,aq,eo] at hs
  simp only [ah,aq,dw] at hg
  split at hs
  ·rename_i b y heq
   simp only [aj,and_true] at heq
   obtain ⟨hb,rfl⟩:=hs
   split at hg
   ·rename_i g dr
    simp only [aj,and_true,cR.gh] at dr
    cases hg
    exact K8 h rfl hl rfl (gj ht) Pd Pc ho (bI de (by simp [Op.operands])) heq.1 hb dr.2 hK
   ·cases hg
  ·cases hs
 ·cases ho
theorem RX:cF C sg .bs:=by
 intro D σ γ a w dst op ty pos after guard rs ds gd ws gs K' Q h ho hk de hs hg hK
 obtain ⟨d,rfl,hl,rfl⟩:=eF (l:=[]) hk
 simp only [dw,aB] at hg
 subst hg
 simp only [ee] at ho
 split at ho
 ·simp only [aa] at ho
  obtain ⟨⟨ht,hu⟩,ho⟩:=ho
  obtain ⟨e,ht1,ht2⟩:=kD ht
  obtain ⟨r,rfl,hx⟩:=ka ho
  simp only [ah,aq,eo] at hs
  split at hs
  ·rename_i s es heq
   simp only [aj,and_true] at heq
   obtain ⟨l,rfl,rfl,rfl⟩:=hs
   exact N0 h rfl hl rfl ht1 ht2 (gj hu) hx (bI de (by simp [Op.operands])) heq hK
  ·cases hs
 ·cases ho
theorem OM:cF C sg .len:=by
 intro D σ γ a w dst op ty pos after guard rs ds gd ws gs K' Q h ho hk de hs hg hK
 obtain ⟨d,rfl,hl,rfl⟩:=eF (l:=[]) hk
 simp only [dw,aB] at hg
 subst hg
 simp only [ee] at ho
 split at ho
 ·rename_i pn _
  simp only [aa,beq_iff_eq] at ho
  obtain ⟨⟨⟨h1,h2⟩,h3⟩,ho⟩:=ho
  obtain ⟨t,ht⟩:=km h1
  obtain ⟨x,kX⟩:=km h3
  rw [ht] at h2
  simp only [List.all_cons,List.all_nil,Bool.and_true] at h2
  rw [kX] at ho
  obtain ⟨r,rfl,hx⟩:=ka ho
  have ea:=DK kX
  have et:=DK ht
  subst ea;subst et
  simp only [ah,aq,eo] at hs
  split at hs
  ·rename_i s es heq
   simp only [aj,and_true] at heq
   subst hs
   obtain ⟨e,he⟩:=Option.isSome_iff_exists.1 h2
   exact CY h rfl hl rfl (gL he) hx (bI de (by simp [Op.operands,Call.operands])) heq hK
  ·cases hs
 ·cases ho
theorem OL:cF C sg .vn:=by
 intro D σ γ a w dst op ty pos after guard rs ds gd ws gs K' Q h ho hk de hs hg hK
 obtain ⟨d,rfl,hl,rfl⟩:=eF (l:=[]) hk
 simp only [dw,aB] at hg
 subst hg
 simp only [ee] at ho
 split at ho
 ·rename_i pn _
  simp only [aa,beq_iff_eq] at ho
  obtain ⟨⟨⟨h1,h2⟩,h3⟩,ho⟩:=ho
  obtain ⟨t,ht⟩:=km h1
  obtain ⟨x,kX⟩:=km h3
  rw [ht] at h2
  simp only [List.all_cons,List.all_nil,Bool.and_true] at h2
  rw [kX] at ho
  obtain ⟨r,rfl,hx⟩:=ka ho
  have ea:=DK kX
  have et:=DK ht
  subst ea;subst et
  simp only [ah,aq,eo] at hs
  split at hs
  ·rename_i b heq
   simp only [aj,and_true] at heq
   subst hs
   exact AY h rfl hl rfl (gj h2) hx (bI de (by simp [Op.operands,Call.operands])) heq hK
  ·cases hs
 ·cases ho
theorem RB:cF C sg .mn:=by
 intro D σ γ a w dst op ty pos after guard rs ds gd ws gs K' Q h ho hk de hs hg hK
 obtain ⟨d,rfl,hl,rfl⟩:=eF (l:=[]) hk
 simp only [dw,aB] at hg
 subst hg
 simp only [ee] at ho
 split at ho
 ·rename_i pn _
  simp only [aa,beq_iff_eq] at ho
  obtain ⟨h3,ho⟩:=ho
  obtain ⟨x,y,kX⟩:=uW h3
  rw [kX] at ho
  obtain ⟨r,q,rfl,hx,hy⟩:=iE ho
  have ea:=rA kX
  subst ea
  simp only [ah,aq,eo] at hs
  split at hs
  ·rename_i k u k' v heq
   simp only [aj,and_true] at heq
   subst hs
   exact vZ (mx:=false) h rfl hl rfl hx hy (bI de (by simp [Op.operands,Call.operands])) (bI de (by simp [Op.operands,Call.operands])) heq.1 heq.2 hK
  ·cases hs
 ·cases ho
theorem Rz:cF C sg .mx:=by
 intro D σ γ a w dst op ty pos after guard rs ds gd ws gs K' Q h ho hk de hs hg hK
 obtain ⟨d,rfl,hl,rfl⟩:=eF (l:=[]) hk
 simp only [dw,aB] at hg
 subst hg
 simp only [ee] at ho
 split at ho
 ·rename_i pn _
  simp only [aa,beq_iff_eq] at ho
  obtain ⟨h3,ho⟩:=ho
  obtain ⟨x,y,kX⟩:=uW h3
  rw [kX] at ho
  obtain ⟨r,q,rfl,hx,hy⟩:=iE ho
  have ea:=rA kX
  subst ea
  simp only [ah,aq,eo] at hs
  split at hs
  ·rename_i k u k' v heq
   simp only [aj,and_true] at heq
   subst hs
   exact vZ (mx:=true) h rfl hl rfl hx hy (bI de (by simp [Op.operands,Call.operands])) (bI de (by simp [Op.operands,Call.operands])) heq.1 heq.2 hK
  ·cases hs
 ·cases ho
theorem RI {s:Nat}:cF C sg (.ix s):=by
 intro D σ γ a w dst op ty pos after guard rs ds gd ws gs K' Q h ho hk de hs hg hK
 obtain ⟨d,rfl,hl,rfl⟩:=eF (l:=[]) hk
 simp only [dw,aB] at hg
 subst hg
 simp only [ee] at ho
 split at ho
 ·simp only [aa] at ho
  obtain ⟨ht,ho⟩:=ho
  obtain ⟨e,i,h1,h2,h3,h4⟩:=kA ht
  obtain ⟨r,q,rfl,hx,hy⟩:=iE ho
  simp only [ah,aq,eo] at hs
  split at hs
  ·rename_i s' es k i heq
   simp only [aj,and_true] at heq
   obtain ⟨el,rfl,h0,Dp,rfl⟩:=hs
   exact NN h rfl hl rfl h1 h2 h3 hx hy (bI de (by simp [Op.operands])) (bI de (by simp [Op.operands])) heq.1 heq.2 h0 Dp hK
  ·cases hs
 ·cases ho
theorem Rt:cF C sg .si:=by
 intro D σ γ a w dst op ty pos after guard rs ds gd ws gs K' Q h ho hk de hs hg hK
 obtain ⟨d,rfl,hl,rfl⟩:=eF (l:=[]) hk
 simp only [dw,aB] at hg
 subst hg
 simp only [ee] at ho
 split at ho
 ·simp only [aa] at ho
  obtain ⟨ht,ho⟩:=ho
  obtain ⟨r,q,rfl,hx,hy⟩:=iE ho
  simp only [ah,aq,eo] at hs
  split at hs
  ·rename_i b k i heq
   simp only [aj,and_true] at heq
   obtain ⟨el,h0,Dp,rfl⟩:=hs
   exact ND h rfl hl rfl (gj ht) hx hy (bI de (by simp [Op.operands])) (bI de (by simp [Op.operands])) heq.1 heq.2 h0 Dp hK
  ·cases hs
 ·cases ho
theorem R7 {n s:Nat} {agg:Bool}:cF C sg (.ai n s agg):=by
 intro D σ γ a w dst op ty pos after guard rs ds gd ws gs K' Q h ho hk de hs hg hK
 obtain ⟨d,rfl,hl,rfl⟩:=eF (l:=[]) hk
 simp only [dw,aB] at hg
 subst hg
 simp only [ee] at ho
 split at ho
 ·rename_i t x y _
  simp only [aa] at ho
  obtain ⟨ht,ho⟩:=ho
  split at ht
  ·rename_i n' e hu
   simp only [aa,beq_iff_eq] at ht
   obtain ⟨rfl,ht⟩:=ht
   obtain ⟨inf,h1,h2,h3,h4⟩:=gC ht
   obtain ⟨r,q,rfl,hx,hy⟩:=iE ho
   simp only [ah,aq,eo] at hs
   split at hs
   ·rename_i cs k i heq
    simp only [aj,and_true] at heq
    obtain ⟨el,h0,hn,Dp,rfl⟩:=hs
    exact N9 h rfl hl rfl hu h1 h2 h3 h4 hx hy (bI de (by simp [Op.operands])) (bI de (by simp [Op.operands])) heq.1 heq.2 h0 hn Dp hK
   ·cases hs
  ·cases ht
 ·cases ho
theorem RM {o' n:Nat} {agg:Bool}:cF C sg (.fe o' n agg):=by
 intro D σ γ a w dst op ty pos after guard rs ds gd ws gs K' Q h ho hk de hs hg hK
 obtain ⟨d,rfl,hl,rfl⟩:=eF (l:=[]) hk
 simp only [dw,aB] at hg
 subst hg
 simp only [ee] at ho
 split at ho
 ·rename_i t x f
  simp only [aa] at ho
  obtain ⟨ht,ho⟩:=ho
  cases hf:mH C.P t f with
  | none=>simp [hf] at ht
  | some fl =>
   simp only [hf,Option.any_some,aa,beq_iff_eq] at ht
   obtain ⟨h0,ht⟩:=ht
   obtain ⟨fs,hu,qt⟩:=mh hf
   obtain ⟨inf,h1,h2,h3,h4⟩:=gC ht
   obtain ⟨r,rfl,hx⟩:=ka ho
   simp only [ah,aq,eo] at hs
   split at hs
   ·rename_i cs heq
    simp only [aj,and_true] at heq
    obtain ⟨el,Dp,rfl⟩:=hs
    exact NR h rfl hl rfl hu qt h0 h1 h2 h3 h4 hx (bI de (by simp [Op.operands])) heq Dp hK
   ·cases hs
 ·cases ho
theorem RE {n:Nat} {agg:Bool}:cF C sg (.lr n agg):=by
 intro D σ γ a w dst op ty pos after guard rs ds gd ws gs K' Q h ho hk de hs hg hK
 obtain ⟨d,rfl,hl,rfl⟩:=eF (l:=[]) hk
 simp only [dw,aB] at hg
 subst hg
 simp only [ee] at ho
 split at ho
 ·simp only [aa] at ho
  obtain ⟨ht,hx⟩:=ho
  obtain ⟨inf,h1,h2,h3,h4⟩:=gC ht
  simp only [ah,aq,eo] at hs
  split at hs
  ·rename_i x heq
   simp only [aj,and_true] at heq
   obtain ⟨p1,p2,rfl⟩:=hs
   exact NK h rfl hl rfl h1 h2 h3 h4 hx (bI de (by simp [Op.operands])) heq p1 p2 hK
  ·cases hs
 ·cases ho
theorem OI:cF C sg .Oe:=by
 intro D σ γ a w dst op ty pos after guard rs ds gd ws gs K' Q h ho hk de hs hg hK
 obtain ⟨d,rfl,hl,rfl⟩:=eF (l:=[]) hk
 simp only [dw,aB] at hg
 subst hg
 simp only [ee] at ho
 split at ho
 ·simp only [ah,aq,eo] at hs
  split at hs
  ·rename_i x heq
   simp only [aj,and_true] at heq
   subst hs
   exact Lk h rfl hl rfl ho (bI de (by simp [Op.operands])) heq hK
  ·cases hs
 ·cases ho
theorem RP {i:Nat}:cF C sg (.ex i):=by
 intro D σ γ a w dst op ty pos after guard rs ds gd ws gs K' Q h ho hk de hs hg hK
 obtain ⟨d,rfl,hl,rfl⟩:=eF (l:=[]) hk
 simp only [ee] at ho
 split at ho
 ·simp only [aa,beq_iff_eq] at ho
  obtain ⟨rfl,hx⟩:=ho
  simp only [ah,aq,dw,aB] at hg
  subst hg
  simp only [ah,aq,eo] at hs
  split at hs
  ·rename_i vs heq
   simp only [aj,and_true] at heq
   obtain ⟨x,yd,rfl⟩:=hs
   exact NU h rfl hl rfl hx (bI de (by simp [Op.operands])) heq yd hK
  ·cases hs
 ·cases ho
end
end Go.Eng
