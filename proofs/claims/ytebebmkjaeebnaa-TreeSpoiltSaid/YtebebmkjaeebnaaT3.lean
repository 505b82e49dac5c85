/- Texts of my own, one behind the other: EvD, EvE, EvF, EvG, EvH, EvI, EvJ, ArithP, UtfPure, TreePure, SpPure, TreeG. -/
import Derived.Test.YtebebmkjaeebnaaT2
import Derived.ChangeShapes
import Derived.ProofKit
import Derived.ChangeSlices
import Derived.ChangeArms
import Derived.DataReads
import Derived.IntWalk
import Derived.Lib.Bytealg
import Derived.Test.YtebebmkjaeebnaaProg
set_option linter.unusedVariables false
set_option linter.unusedSimpArgs false
namespace Go.Eng
def TV.isAg:TV→Bool
 | .ag _=>true
 | _=>false
def TV.cells:TV→List TV
 | .ag cs=>cs
 | x=>[x]
def TV.plain:TV→Bool
 | .u8 _=>true
 | .u16 _=>true
 | .u32 _=>true
 | .u64 _=>true
 | .i _ _=>true
 | .b _=>true
 | .s _=>true
 | .sl _ _=>true
 | .ag _=>true
 | .ro _=>true
 | .c x=>x.oneCell'
 | _=>false
def partT (cs:List TV) (o n:Nat) (agg:Bool):Option TV :=
 match agg with
 | true=>cond (Nat.ble (o+n) cs.length) (some (.ag ((cs.drop o).take n))) none
 | false=>cs[o]?
def spliceT (cs:List TV) (o:Nat) (xs:List TV):List TV:=cs.take o++xs++cs.drop (o+xs.length)
def fillT (z:List TV):List (Nat × Nat)→List TV→Option (List TV)
 | [],[]=>some z
 | (o,n) :: pl,x :: xs=>cond (x.plain&&Nat.beq x.cells.length n&&Nat.ble (o+n) z.length) (fillT (spliceT z o x.cells) pl xs) none
 | _,_=>none
theorem TV.cells_av (x:TV) (h:x.plain=true):x.av.cells=x.cells.map TV.av:=by
 cases x <;> first | rfl | cases h | skip
 ·simp [TV.av,AV.cells,TV.cells,TV.avs_map]
theorem TV.plain_av (x:TV) (h:x.plain=true):x.av.plain=true:=by
 cases x <;> first | rfl | cases h | exact h | skip
theorem TV.isAg_av (x:TV) (h:x.plain=true):x.av.isAg=x.isAg:=by
 cases x <;> first | rfl | cases h
theorem partT_av {cs:List TV} {o n:Nat} {agg:Bool} {x:TV} (h:partT cs o n agg=some x):partAV (cs.map TV.av) o n agg=some x.av:=by
 cases agg with
 | true =>
  simp only [partT] at h
  cases hb:Nat.ble (o+n) cs.length with
  | false=>rw [hb] at h;cases h
  | true =>
   rw [hb] at h
   cases h
   simp only [partAV,if_true,List.length_map,Nat.le_of_ble_eq_true hb,TV.av,TV.avs_map]
   simp [List.map_take,List.map_drop]
 | false =>
  simp only [partT] at h
  simp only [partAV,Bool.false_eq_true,if_false,List.getElem?_map,h]
  rfl
theorem spliceT_av (cs xs:List TV) (o:Nat):(spliceT cs o xs).map TV.av=splice (cs.map TV.av) o (xs.map TV.av):=by
 simp [spliceT,splice,List.map_take,List.map_drop]
theorem fillT_av:∀{pl:List (Nat × Nat)} {z xs cs:List TV},fillT z pl xs=some cs→fillAV (z.map TV.av) pl (xs.map TV.av)=some (cs.map TV.av)
 | [],z,[],cs,h=>by cases h;rfl
 | (o,n) :: pl,z,x :: xs,cs,h=>by
  simp only [fillT] at h
  cases hb:(x.plain&&Nat.beq x.cells.length n&&Nat.ble (o+n) z.length) with
  | false=>rw [hb] at h;cases h
  | true =>
   rw [hb] at h
   simp only [Bool.and_eq_true] at hb
   obtain ⟨⟨h1,h2⟩,h3⟩:=hb
   have h2:=Nat.eq_of_beq_eq_true h2
   have h3:=Nat.le_of_ble_eq_true h3
   simp only [List.map_cons,fillAV,TV.plain_av x h1,TV.cells_av x h1,List.length_map,h2,h3,and_self,if_true]
   rw [←spliceT_av]
   exact fillT_av h
 | [],z,_ :: _,cs,h=>by cases h
 | _ :: _,z,[],cs,h=>by cases h
def partElT (e:TV) (o n:Nat) (agg:Bool):Option TV :=
 match e with
 | .ag cs=>partT cs o n agg
 | x=>cond (Nat.beq o 0&&Nat.beq n 1&&!agg) (some x) none
def putElT (e:TV) (o:Nat) (x:TV):Option TV :=
 match e with
 | .ag cs=>cond (Nat.ble (o+x.cells.length) cs.length) (some (.ag (spliceT cs o x.cells))) none
 | _=>cond (Nat.beq o 0&&!x.isAg) (some x) none
theorem partElT_av {e x:TV} {o n:Nat} {agg:Bool} (he:e.plain=true) (h:partElT e o n agg=some x):partEl e.av o n agg=some x.av:=by
 cases e <;> first | cases he | skip
 case ag cs=>simp only [partElT] at h;simp only [TV.av,TV.avs_map,partEl];exact partT_av h
 all_goals
  simp only [partElT] at h
  cases hb:(Nat.beq o 0&&Nat.beq n 1&&!agg) with
  | false=>rw [hb] at h;cases h
  | true =>
   rw [hb] at h
   cases h
   simp only [Bool.and_eq_true,Bool.not_eq_true'] at hb
   obtain ⟨⟨h1,h2⟩,h3⟩:=hb
   have h1:=Nat.eq_of_beq_eq_true h1
   have h2:=Nat.eq_of_beq_eq_true h2
   simp [partEl,TV.av,byteAV,u64AV,strAV,h1,h2,h3]
theorem putElT_av {e x y:TV} {o:Nat} (he:e.plain=true) (hx:x.plain=true) (h:putElT e o x=some y):putEl e.av o x.av=some y.av:=by
 cases e <;> first | cases he | skip
 case ag cs =>
  simp only [putElT] at h
  cases hb:Nat.ble (o+x.cells.length) cs.length with
  | false=>rw [hb] at h;cases h
  | true =>
   rw [hb] at h
   cases h
   simp only [TV.av,TV.avs_map,putEl,TV.cells_av x hx,List.length_map,Nat.le_of_ble_eq_true hb,if_true,spliceT_av]
 all_goals
  simp only [putElT] at h
  cases hb:(Nat.beq o 0&&!x.isAg) with
  | false=>rw [hb] at h;cases h
  | true =>
   rw [hb] at h
   cases h
   simp only [Bool.and_eq_true,Bool.not_eq_true'] at hb
   have h1:=Nat.eq_of_beq_eq_true hb.1
   have h2:=TV.isAg_av _ hx
   rw [hb.2] at h2
   simp [putEl,TV.av,byteAV,u64AV,strAV,h1,h2]
theorem STy.tv_plain (t:STy) (x:t.El):(t.tv x).plain=true:=by cases t <;> rfl
def STy.app:(t:STy)→List t.El→(t':STy)→List t'.El→Option (List t.El)
 | .bs,l,.bs,m=>some (l++m)
 | .is,l,.is,m=>some (l++m)
 | .ws,l,.ws,m=>some (l++m)
 | .ss,l,.ss,m=>some (l++m)
 | .iss,l,.iss,m=>some (l++m)
 | .fl,l,.fl,m=>some (l++m)
 | .ml,l,.ml,m=>some (l++m)
 | .il,l,.il,m=>some (l++m)
 | .sp,l,.sp,m=>some (l++m)
 | .ou,l,.ou,m=>some (l++m)
 | _,_,_,_=>none
theorem STy.app_av {t t':STy} {l n:List t.El} {m:List t'.El} (h:t.app l t' m=some n):t'=t∧n.map t.av=l.map t.av++m.map t'.av∧n.length=l.length+m.length:=by
 unfold STy.app at h
 split at h <;> cases h <;> simp
def STy.els (t:STy):List TV→Option (List t.El)
 | []=>some []
 | x :: r=>match t.el x with
  | some y=>match t.els r with
   | some l=>some (y :: l)
   | none=>none
  | none=>none
theorem STy.av_plain (t:STy) (x:t.El):(t.av x).plain=true∧(t.av x).cells.length=t.size:=by
 cases t with
 | fl=>cases x;exact ⟨rfl,rfl⟩
 | ml=>cases x;exact ⟨rfl,rfl⟩
 | il=>cases x;exact ⟨rfl,rfl⟩
 | _=>exact ⟨rfl,rfl⟩
theorem STy.els_av {t:STy}:∀{xs:List TV} {l:List t.El},t.els xs=some l→l.map t.av=xs.map TV.av∧∀x∈xs.map TV.av,x.plain=true∧x.cells.length=t.size
 | [],l,h=>by cases h;exact ⟨rfl,by simp⟩
 | x :: r,l,h=>by
  simp only [STy.els] at h
  split at h
  ·rename_i y hy
   split at h
   ·rename_i m hm
    cases h
    obtain ⟨h1,h2⟩:=STy.els_av hm
    refine ⟨by simp [STy.el_av hy,h1],?_⟩
    intro z hz
    simp only [List.map_cons,List.mem_cons] at hz
    rcases hz with rfl | hz
    ·rw [←STy.el_av hy];exact t.av_plain y
    ·exact h2 z hz
   ·cases h
  ·cases h
def allM {A:Type} (f:TV→Option A):List TV→Option (List A)
 | []=>some []
 | x :: r=>match f x with
  | some y=>match allM f r with
   | some l=>some (y :: l)
   | none=>none
  | none=>none
theorem allM_get {A:Type} {f:TV→Option A} {g:A→TV} (hf:∀x y,f x=some y→x=g y):∀{xs:List TV} {l:List A},allM f xs=some l→xs=l.map g
 | [],l,h=>by cases h;rfl
 | x :: r,l,h=>by
  simp only [allM] at h
  split at h
  ·rename_i y hy
   split at h
   ·rename_i m hm
    cases h
    rw [hf _ _ hy,allM_get hf hm];rfl
   ·cases h
  ·cases h
def TV.str?:TV→Option Str | .s l=>some l | _=>none
def TV.i64?:TV→Option Int | .i .i64 l=>some l | _=>none
def TV.u8?:TV→Option UInt8 | .u8 l=>some l | _=>none
def TV.u64?:TV→Option UInt64 | .u64 l=>some l | _=>none
def TV.bool?:TV→Option Bool | .b l=>some l | _=>none
def TV.sl? (t:STy):TV→Option (List t.El)
 | .sl t' l=>if h:t'=t then some (h ▸ l) else none
 | _=>none
def arrT (cs:List TV) (n:Nat):Option TV :=
 match cs with
 | .s _ :: _=>match allM TV.str? cs with | some l=>some (.s (l.getD n [])) | none=>none
 | .i _ _ :: _=>match allM TV.i64? cs with | some l=>some (.i .i64 (l.getD n 0)) | none=>none
 | .u8 _ :: _=>match allM TV.u8? cs with | some l=>some (.u8 (l.getD n 0)) | none=>none
 | .u64 _ :: _=>match allM TV.u64? cs with | some l=>some (.u64 (l.getD n 0)) | none=>none
 | .b _ :: _=>match allM TV.bool? cs with | some l=>some (.b (l.getD n false)) | none=>none
 | .sl t _ :: _=>match allM (TV.sl? t) cs with | some l=>some (.sl t (l.getD n [])) | none=>none
 | _=>none
theorem arrT_ok {cs:List TV} {n:Nat} {x:TV} (h:arrT cs n=some x) (hn:n<cs.length):cs[n]?=some x:=by
 unfold arrT at h
 split at h
 ·split at h
  ·rename_i l hl
   have:=allM_get (g := .s) (fun x y h=>by cases x <;> simp [TV.str?] at h;rw [h]) hl
   cases h
   rw [this] at hn ⊢
   have hn':n<l.length:=by simpa using hn
   simp [List.getD_eq_getElem?_getD,List.getElem?_eq_getElem hn']
  ·cases h
 ·split at h
  ·rename_i l hl
   have:=allM_get (g := .i .i64) (fun x y h=>by
    cases x <;> simp [TV.i64?] at h
    rename_i k m
    cases k <;> simp at h
    rw [h]) hl
   cases h
   rw [this] at hn ⊢
   have hn':n<l.length:=by simpa using hn
   simp [List.getD_eq_getElem?_getD,List.getElem?_eq_getElem hn']
  ·cases h
 ·split at h
  ·rename_i l hl
   have:=allM_get (g := .u8) (fun x y h=>by cases x <;> simp [TV.u8?] at h;rw [h]) hl
   cases h
   rw [this] at hn ⊢
   have hn':n<l.length:=by simpa using hn
   simp [List.getD_eq_getElem?_getD,List.getElem?_eq_getElem hn']
  ·cases h
 ·split at h
  ·rename_i l hl
   have:=allM_get (g := .u64) (fun x y h=>by cases x <;> simp [TV.u64?] at h;rw [h]) hl
   cases h
   rw [this] at hn ⊢
   have hn':n<l.length:=by simpa using hn
   simp [List.getD_eq_getElem?_getD,List.getElem?_eq_getElem hn']
  ·cases h
 ·split at h
  ·rename_i l hl
   have:=allM_get (g := .b) (fun x y h=>by cases x <;> simp [TV.bool?] at h;rw [h]) hl
   cases h
   rw [this] at hn ⊢
   have hn':n<l.length:=by simpa using hn
   simp [List.getD_eq_getElem?_getD,List.getElem?_eq_getElem hn']
  ·cases h
 ·rename_i t _ _
  split at h
  ·rename_i l hl
   have:=allM_get (g := .sl t) (fun x y h=>by
    cases x <;> simp [TV.sl?] at h
    obtain ⟨rfl,h⟩:=h
    subst h;rfl) hl
   cases h
   rw [this] at hn ⊢
   have hn':n<l.length:=by simpa using hn
   simp [List.getD_eq_getElem?_getD,List.getElem?_eq_getElem hn']
  ·cases h
 ·cases h
def colT (s m j:Nat) (cs:List TV):List TV:=(List.range m).map fun q=>cs.getD (q * s+j) .dead
def colsT (s m n:Nat) (cs:List TV):Nat→Option (List TV)
 | 0=>some []
 | j+1=>match arrT (colT s m (s - (j+1)) cs) n with
  | some x=>match colsT s m n cs j with
   | some xs=>some (x :: xs)
   | none=>none
  | none=>none
theorem colsT_ok {s m n:Nat} {cs:List TV} (hl:m * s=cs.length) (hn:n<m):∀(j:Nat) {xs:List TV},j≤s→colsT s m n cs j=some xs→xs=(cs.drop (n * s+(s - j))).take j
 | 0,xs,_,h=>by simp [colsT] at h;simp [h]
 | j+1,xs,hj,h=>by
  simp only [colsT] at h
  split at h
  ·rename_i x hx
   split at h
   ·rename_i ys hy
    cases h
    have h1:=colsT_ok hl hn j (by omega) hy
    have h2:=arrT_ok hx (by simpa [colT] using hn)
    have hlt:n * s+(s - (j+1))<cs.length:=by
     have:(n+1) * s≤m * s:=Nat.mul_le_mul_right _ hn
     rw [Nat.succ_mul] at this;omega
    have e:x=cs[n * s+(s - (j+1))]:=by
     simp only [colT,List.getElem?_map,List.getElem?_range hn,Option.map_some,Option.some.injEq] at h2
     rw [←h2,List.getD_eq_getElem?_getD,List.getElem?_eq_getElem hlt];rfl
    rw [h1,List.drop_eq_getElem_cons hlt,List.take_succ_cons,e,show n * s+(s - (j+1))+1=n * s+(s - j) by omega]
   ·cases h
  ·cases h
def lenOK (n:Nat):Bool:=decide (n≤maxLen)
def idxOK (n:Int) (l:Nat):Bool:=decide (0≤n)&&decide (n<l)
def cutOK (a b:Int) (l:Nat):Bool:=decide (0≤a)&&decide (a≤b)&&decide (b≤l)
def apOK (n by_:Nat):Bool:=decide (n≤maxLen)&&decide (n * by_≤140737488355328)
def mkOK (l c:Int) (by_:Nat):Bool:=decide (0≤l)&&decide (l≤c)&&decide (c * by_≤140737488355328)&&decide (c≤maxLen)
def TV.bare:TV→TV
 | .gd _ x=>x
 | x=>x
def TV.cnd:TV→Option Bool
 | .gd q _=>some q
 | _=>none
theorem TV.bare_av {x:TV} (h:∀q,x.cnd=some q→q=true):x.bare.av=x.av:=by
 cases x <;> first | rfl | skip
 rename_i q x
 have:=h q rfl
 subst this
 rfl
def pickV (t:Bool) (x y:TV):Option TV :=
 match x,y with
 | .b a,.b b=>some (.b (cond t a b))
 | .i k a,.i k' b=>if k=k' then some (.i k (cond t a b)) else none
 | .u8 a,.u8 b=>some (.u8 (cond t a b))
 | .u16 a,.u16 b=>some (.u16 (cond t a b))
 | .u32 a,.u32 b=>some (.u32 (cond t a b))
 | .u64 a,.u64 b=>some (.u64 (cond t a b))
 | .s a,.s b=>some (.s (cond t a b))
 | _,_=>none
theorem pickV_av {t:Bool} {x y z:TV} (h:pickV t x y=some z):z.av=if t then x.av else y.av:=by
 unfold pickV at h
 split at h <;> first | (cases h <;> cases t <;> rfl) | skip
 ·split at h
  ·rename_i e;subst e;cases h;cases t <;> rfl
  ·cases h
def pickT (t:Bool) (x y:TV):Res :=
 match pickV t x.bare y.bare with
 | some z=>match x.cnd,y.cnd with
  | none,none => .ok [z]
  | some p,none => .if_ (!t || p) [z]
  | none,some q => .if_ (t || q) [z]
  | some p,some q => .if_ (cond t p q) [z]
 | none => .err
theorem pickT_ok (t : Bool) (x y : TV) : (pickT t x y).gives (fun z => z = if t then x.av else y.av) := by
  intro ws h
  unfold pickT at h
  split at h
  · rename_i z hz
    have hz := pickV_av hz
    cases x <;> cases y <;> simp only [TV.cnd, TV.bare] at h hz <;> first
      | (cases h; exact ⟨_, rfl, hz⟩)
      | (obtain ⟨hp, rfl⟩ := h
         refine ⟨_, rfl, hz.trans ?_⟩
         cases t <;> simp at hp <;> simp [TV.av, hp])
  · exact h.elim
def oneT (x:Option TV):Res:=match x with | some x => .ok [x] | none => .err
def needT (p:Bool) (r:Res):Res:=cond p r .err
theorem needT_holds {p:Bool} {r:Res} {ws:List TV} (h:(needT p r).holds ws):p=true∧r.holds ws:=by
 cases p with
 | true=>exact ⟨rfl,h⟩
 | false=>exact h.elim
theorem oneT_holds {x:Option TV} {ws:List TV} (h:(oneT x).holds ws):∃y,x=some y∧ws=[y]:=by
 cases x with
 | none=>exact h.elim
 | some y=>exact ⟨y,rfl,h⟩
end Go.Eng
namespace Go.Eng
def semK2 (k:K) (vs:List TV):Res :=
 match k,vs with
 | .apv _ _ s by_,[.sl t l,.sl t' m,_,_]=>needT (Nat.beq s t.size&&Nat.beq s t'.size&&l.isEmpty) (.if_ (apOK m.length by_) [.pt,.dead,.sl t' m])
 | .mvz _ s,[x,.pt,.sl t l]=>needT (Nat.beq s t.size) (.ok [x,.sl t l,.dead])
 | .stp _ o,[.pt,.ag cs,.pt]=>needT (Nat.ble (o+1) cs.length) (.ok [.ag (spliceT cs o [.pt])])
 | .ldz _ o n c _ s,[.pt,.ag cs,.sl t l]=>match partT (cs.set c (.sl t l)) o n true with
  | some x=>needT (Nat.beq s t.size&&decide (c<cs.length)) (.ok [x,.ag (cs.set c (.sl t l)),.dead])
  | none => .err
 | _,_ => .err
def semK (k:K) (vs:List TV):Res :=
 match k,vs with
 | .mv,[x] => .ok [x]
 | .pick,[.b t,x,y]=>pickT t x y
 | .bin o,[x,y]=>binT o x y
 | .be neg,[.b a,.b b] => .ok [.b (cond neg (!(a == b)) (a == b))]
 | .un o,[x]=>unT o x
 | .ci k,[x]=>match x.int? with
  | some (_,n) => .ok [intTV k n]
  | none => .err
 | .cs,[.s l] => .ok [.s l]
 | .sb,[.s l] => .if_ (lenOK l.length) [.sl .bs l]
 | .sbt _,[.s l,_] => .if_ (lenOK l.length) [.sl .bs l,.dead]
 | .bs,[.sl .bs l] => .ok [.s l]
 | .len,[.sl _ l] => .ok [.i .i64 l.length]
 | .lns,[.s l] => .ok [.i .i64 l.length]
 | .mn,[.i k a,.i k' b]=>needT (decide (k=k')) (.ok [.i k (minI a b)])
 | .mx,[.i k a,.i k' b]=>needT (decide (k=k')) (.ok [.i k (maxI a b)])
 | .ix s,[.sl t l,i]=>match i.int? with
  | some (_,n)=>needT (Nat.beq s t.size) (.if_ (idxOK n l.length) [.ro (t.tv (l.getD n.toNat t.dflt))])
  | none => .err
 | .si,[.s l,i]=>match i.int? with
  | some (_,n) => .if_ (idxOK n l.length) [.u8 (l.getD n.toNat 0)]
  | none => .err
 | .ai m s agg,[.ag cs,i]=>match i.int?,agg with
  | some (_,n),false=>match arrT cs n.toNat with
   | some x=>needT (Nat.beq s 1&&Nat.beq m cs.length) (.if_ (idxOK n m) [x])
   | none => .err
  | some (_,n),true=>match colsT s m n.toNat cs s with
   | some xs=>needT (Nat.beq (m * s) cs.length) (.if_ (idxOK n m) [.ag xs])
   | none => .err
  | _,_ => .err
 | .fe o n agg,[.ag cs]=>oneT (partT cs o n agg)
 | .sc s true true,[.sl t l,i,j]=>match i.int?,j.int? with
  | some (_,a),some (_,b)=>needT (Nat.beq s t.size) (.if_ (cutOK a b l.length) [.sl t ((l.take b.toNat).drop a.toNat)])
  | _,_ => .err
 | .sc s true false,[.sl t l,i]=>match i.int? with
  | some (_,a)=>needT (Nat.beq s t.size) (.if_ (cutOK a l.length l.length) [.sl t (l.drop a.toNat)])
  | _ => .err
 | .sc s false true,[.sl t l,j]=>match j.int? with
  | some (_,b)=>needT (Nat.beq s t.size) (.if_ (cutOK 0 b l.length) [.sl t (l.take b.toNat)])
  | _ => .err
 | .sc s false false,[.sl t l]=>needT (Nat.beq s t.size) (.ok [.sl t l])
 | .ss true true,[.s l,i,j]=>match i.int?,j.int? with
  | some (_,a),some (_,b) => .if_ (cutOK a b l.length) [.s ((l.take b.toNat).drop a.toNat)]
  | _,_ => .err
 | .ss true false,[.s l,i]=>match i.int? with
  | some (_,a) => .if_ (cutOK a l.length l.length) [.s (l.drop a.toNat)]
  | _ => .err
 | .ss false true,[.s l,j]=>match j.int? with
  | some (_,b) => .if_ (cutOK 0 b l.length) [.s (l.take b.toNat)]
  | _ => .err
 | .ss false false,[.s l] => .ok [.s l]
 | .bx _,[x,_]=>needT x.plain (.ok [.pt,.ag x.cells])
 | .ld _ o n agg,[.pt,.ag cs]=>oneT (partT cs o n agg)
 | .st _ o n,[.pt,.ag cs,x]=>needT (x.plain&&Nat.beq x.cells.length n&&Nat.ble (o+n) cs.length) (.ok [.ag (spliceT cs o x.cells)])
 | .lr n agg,[.ro x]=>needT (x.plain&&(x.isAg == agg)&&Nat.beq x.cells.length n) (.ok [x])
 | .fa _ _ _,[.pt] => .ok [.pt]
 | .fr o n agg,[.ro (.ag cs)]=>match partT cs o n agg with
  | some x => .ok [.ro x]
  | none => .err
 | .nc _ _,[.pt] => .ok [.pt]
 | .ncr,[.ro x] => .ok [.ro x]
 | .ex i,[.tu vs]=>oneT vs[i]?
 | .ap _ _ s by_,[.sl t l,.sl t' m,_,_]=>match t.app l t' m with
  | some n=>needT (Nat.beq s t.size) (.if_ (apOK (l.length+m.length) by_) [.sl t n,.dead,.dead])
  | none => .err
 | .aps _ _ by_,[.sl .bs l,.s m,_,_] => .if_ (apOK (l.length+m.length) by_) [.sl .bs (l++m),.dead,.dead]
 | .an _ s by_,[.sl t l,_]=>needT (Nat.beq s t.size) (.if_ (apOK l.length by_) [.sl t l,.dead])
 | .ans _ by_,[.s l,_] => .if_ (apOK l.length by_) [.sl .bs l,.dead]
 | .pss _,[.s l,_] => .if_ (lenOK l.length) [.pt,.sl .bs l]
 | .pln _,[.pt,.sl _ l] => .ok [.i .i64 l.length]
 | .pix _ s,[.pt,i,.sl t l]=>match i.int? with
  | some (_,n)=>needT (Nat.beq s t.size) (.if_ (idxOK n l.length) [.el n.toNat s 0])
  | none => .err
 | .pfa _ o,[.el i s o'] => .ok [.el i s (o'+o)]
 | .pld _ s n agg,[.el i s' o,.sl t l]=>match partElT (t.tv (l.getD i t.dflt)) o n agg with
  | some x=>needT (Nat.beq s' s&&Nat.beq s t.size) (.if_ (decide (i<l.length)) [x])
  | none => .err
 | .pst _ s n,[.el i s' o,.sl t l,x]=>match putElT (t.tv (l.getD i t.dflt)) o x with
  | some y=>match t.el y with
   | some e=>needT (Nat.beq s' s&&Nat.beq s t.size&&x.plain&&Nat.beq x.cells.length n) (.if_ (decide (i<l.length)) [.sl t (l.set i e)])
   | none => .err
  | none => .err
 | .pfz _ s,[.pt,.sl t l]=>needT (Nat.beq s t.size) (.ok [.sl t l,.sl t l,.dead])
 | .ppa _ _ s by_,[.pt,.sl t' m,.sl t l,_]=>match t.app l t' m with
  | some n=>needT (Nat.beq s t.size) (.if_ (apOK (l.length+m.length) by_) [.pt,.sl t l,.sl t n])
  | none => .err
 | .apq _ _ _ s by_,[.sl t l,.pt,_,_,.sl t' m]=>match t.app l t' m with
  | some n=>needT (Nat.beq s t.size) (.if_ (apOK (l.length+m.length) by_) [.sl t n,.dead,.dead])
  | none => .err
 | .la _ n s,[.pt,i,.ag _]=>match i.int? with
  | some (_,m) => .if_ (idxOK m n) [.el m.toNat s 0]
  | none => .err
 | .ll _ s,[.el i s' o,.ag cs]=>match arrT cs i with
  | some x=>needT (Nat.beq s' s&&Nat.beq s 1&&Nat.beq o 0) (.if_ (decide (i<cs.length)) [x])
  | none => .err
 | .xib,[.s l,.u8 c] => .ok [.i .i64 (Lib.indexByte l c)]
 | k,vs=>semK2 k vs
theorem idxOK_iff {n:Int} {l:Nat}:idxOK n l=true ↔ 0≤n∧n<l:=by simp [idxOK]
theorem cutOK_iff {a b:Int} {l:Nat}:cutOK a b l=true ↔ 0≤a∧a≤b∧b≤l:=by simp [cutOK,and_assoc]
theorem apOK_iff {n b:Nat}:apOK n b=true ↔ n≤maxLen∧n * b≤140737488355328:=by simp [apOK]
theorem mkOK_iff {l c:Int} {b:Nat}:mkOK l c b=true ↔ 0≤l∧l≤c∧c * b≤140737488355328∧c≤maxLen:=by simp [mkOK,and_assoc]
theorem lenOK_iff {n:Nat}:lenOK n=true ↔ n≤maxLen:=by simp [lenOK]
theorem getD_map {A:Type} (f:A→AV) (l:List A) (n:Int) (d:A) (h:0≤n∧n<l.length):(l.map f)[n.toNat]?=some (f (l.getD n.toNat d)):=by
 have:n.toNat<l.length:=by omega
 simp [List.getD_eq_getElem?_getD,List.getElem?_eq_getElem this]
theorem getD_str (l:Str) (n:Int) (h:0≤n∧n<l.length):l[n.toNat]?=some (l.getD n.toNat 0):=by
 have:n.toNat<l.length:=by omega
 simp [List.getD_eq_getElem?_getD,List.getElem?_eq_getElem this]
theorem semK2_ok (E:Env) {k:K} {vs ws:List TV} (h:(semK2 k vs).holds ws):sem E k (vs.map TV.av) (ws.map TV.av):=by
 unfold semK2 at h
 split at h
 ·obtain ⟨e0,h1,rfl⟩:=needT_holds h
  simp only [Bool.and_eq_true,List.isEmpty_iff] at e0
  obtain ⟨⟨e0,e1⟩,rfl⟩:=e0
  have h1:=apOK_iff.1 h1
  have e0:=Nat.eq_of_beq_eq_true e0
  have e1:=Nat.eq_of_beq_eq_true e1
  simp only [List.map,sem,TV.av,List.map_nil,List.length_map]
  exact ⟨e0.symm,e1.symm,by intro x hx;obtain ⟨y,_,rfl⟩:=List.mem_map.1 hx;rw [e1];exact (STy.av_plain _ y).2,h1.1,h1.2,by rw [e1]⟩
 ·obtain ⟨e0,h⟩:=needT_holds h;cases h
  have e0:=Nat.eq_of_beq_eq_true e0
  simp only [List.map,sem,TV.av]
  exact ⟨e0.symm,by rw [e0]⟩
 ·obtain ⟨e,h⟩:=needT_holds h;cases h
  simp only [List.map,sem,TV.av,TV.avs_map]
  exact ⟨by rw [List.length_map];exact Nat.le_of_ble_eq_true e,by rw [spliceT_av];rfl⟩
 ·split at h
  ·rename_i x e
   obtain ⟨e0,h⟩:=needT_holds h
   cases h
   simp only [Bool.and_eq_true,decide_eq_true_eq] at e0
   have e1:=Nat.eq_of_beq_eq_true e0.1
   have e2:=partT_av e
   simp only [List.map,sem,TV.av,TV.avs_map]
   rw [List.map_set] at e2 ⊢
   refine ⟨x.av,e1.symm,by rw [List.length_map];exact e0.2,?_,?_⟩
   ·rw [e1];exact e2
   ·rw [e1];rfl
  ·exact h.elim
 ·exact h.elim
theorem semK_ok (E:Env) {k:K} {vs ws:List TV} (h:(semK k vs).holds ws):sem E k (vs.map TV.av) (ws.map TV.av):=by
 unfold semK at h
 split at h
 -- mv
 ·cases h;rfl
 ·obtain ⟨x,rfl,e⟩:=pickT_ok _ _ _ _ h;simp only [List.map,sem,TV.av];rw [e]
 ·obtain ⟨x,rfl,a,b,v,e1,e2,e3,e4⟩:=binT_ok _ _ _ _ h
  simp only [List.map,sem,e1,e2,e4];exact ⟨v,e3,rfl⟩
 ·cases h;rename_i neg a b;cases neg <;> rfl
 ·obtain ⟨x,rfl,a,v,e1,e2,e3⟩:=unT_ok _ _ _ h
  simp only [List.map,sem,e1,e3];exact ⟨v,e2,rfl⟩
 ·split at h
  ·rename_i e;cases h;simp only [List.map,sem,TV.int?_av e,intTV_av]
  ·exact h.elim
 ·cases h;rfl
 ·obtain ⟨h1,rfl⟩:=h;exact ⟨lenOK_iff.1 h1,rfl⟩
 ·obtain ⟨h1,rfl⟩:=h;exact ⟨lenOK_iff.1 h1,rfl⟩
 ·cases h;exact ⟨_,rfl,rfl,rfl⟩
 ·cases h;simp only [List.map,sem,TV.av,List.length_map]
 ·cases h;simp only [List.map,sem,TV.av,strAV]
 ·obtain ⟨e,h⟩:=needT_holds h;cases h;simp only [List.map,sem,TV.av]
 ·obtain ⟨e,h⟩:=needT_holds h;cases h;simp only [List.map,sem,TV.av]
 ·split at h
  ·rename_i t l i k n e
   obtain ⟨e1,h1,rfl⟩:=needT_holds h
   have e1:=Nat.eq_of_beq_eq_true e1
   have h1:=idxOK_iff.1 h1
   simp only [List.map,sem,TV.av,TV.int?_av e,STy.tv_av]
   exact ⟨_,e1,h1.1,getD_map _ _ _ _ h1,rfl⟩
  ·exact h.elim
 ·split at h
  ·rename_i e
   obtain ⟨h1,rfl⟩:=h
   have h1:=idxOK_iff.1 h1
   simp only [List.map,sem,TV.av,strAV,TV.int?_av e]
   exact ⟨_,h1.1,getD_str _ _ h1,rfl⟩
  ·exact h.elim
 ·split at h
  ·rename_i m s cs i k n e
   split at h
   ·rename_i x hx
    obtain ⟨e1,h1,rfl⟩:=needT_holds h
    simp only [Bool.and_eq_true] at e1
    have e2:=Nat.eq_of_beq_eq_true e1.1
    have e3:=Nat.eq_of_beq_eq_true e1.2
    subst e2;subst e3
    have h1:=idxOK_iff.1 h1
    have hx:=arrT_ok hx (by omega)
    simp only [List.map,sem,TV.av,TV.int?_av e]
    refine ⟨x.av,h1.1,h1.2,?_,rfl⟩
    simp [partAV,TV.avs_map,hx]
   ·exact h.elim
  ·rename_i m s cs i _ _ k n e
   split at h
   ·rename_i xs hx
    obtain ⟨e1,h1,rfl⟩:=needT_holds h
    have e1:=Nat.eq_of_beq_eq_true e1
    have h1:=idxOK_iff.1 h1
    have hx:=colsT_ok e1 (by omega) s (Nat.le_refl _) hx
    simp only [List.map,sem,TV.av,TV.int?_av e]
    have hle:n.toNat * s+s≤cs.length:=by
     have:(n.toNat+1) * s≤m * s:=Nat.mul_le_mul_right _ (by omega)
     rw [Nat.succ_mul] at this;omega
    refine ⟨(TV.ag xs).av,h1.1,h1.2,?_,by simp only [TV.av]⟩
    rw [Nat.sub_self,Nat.add_zero] at hx
    simp [partAV,TV.avs_map,TV.av,hx,hle,List.map_take,List.map_drop]
   ·exact h.elim
  ·exact h.elim
 ·obtain ⟨y,e,rfl⟩:=oneT_holds h
  simp only [List.map,sem,TV.av,TV.avs_map];exact ⟨_,partT_av e,rfl⟩
 ·split at h
  ·rename_i i j _ a _ b e1 e2
   obtain ⟨e,h1,rfl⟩:=needT_holds h
   have h1:=cutOK_iff.1 h1
   simp only [List.map,sem,TV.av,TV.int?_av e1,TV.int?_av e2,List.length_map]
   exact ⟨Nat.eq_of_beq_eq_true e,h1.1,h1.2.1,h1.2.2,by simp [Nat.eq_of_beq_eq_true e,List.map_take,List.map_drop]⟩
  ·exact h.elim
 ·split at h
  ·rename_i i _ a e1
   obtain ⟨e,h1,rfl⟩:=needT_holds h
   have h1:=cutOK_iff.1 h1
   simp only [List.map,sem,TV.av,TV.int?_av e1,List.length_map]
   exact ⟨Nat.eq_of_beq_eq_true e,h1.1,h1.2.1,by simp [Nat.eq_of_beq_eq_true e,List.map_take,List.map_drop]⟩
  ·exact h.elim
 ·split at h
  ·rename_i i _ a e1
   obtain ⟨e,h1,rfl⟩:=needT_holds h
   have h1:=cutOK_iff.1 h1
   simp only [List.map,sem,TV.av,TV.int?_av e1,List.length_map]
   exact ⟨Nat.eq_of_beq_eq_true e,h1.2.1,h1.2.2,by simp [Nat.eq_of_beq_eq_true e,List.map_take,List.map_drop]⟩
  ·exact h.elim
 ·obtain ⟨e,h⟩:=needT_holds h
  cases h
  simp only [List.map,sem,TV.av]
  exact ⟨Nat.eq_of_beq_eq_true e,by rw [Nat.eq_of_beq_eq_true e]⟩
 ·split at h
  ·rename_i i j _ a _ b e1 e2
   obtain ⟨h1,rfl⟩:=h
   have h1:=cutOK_iff.1 h1
   simp only [List.map,sem,TV.av,strAV,TV.int?_av e1,TV.int?_av e2]
   exact ⟨h1.1,h1.2.1,h1.2.2,by simp [List.take_drop,List.drop_take]⟩
  ·exact h.elim
 ·split at h
  ·rename_i i _ a e1
   obtain ⟨h1,rfl⟩:=h
   have h1:=cutOK_iff.1 h1
   simp only [List.map,sem,TV.av,strAV,TV.int?_av e1]
   exact ⟨h1.1,h1.2.1,by simp⟩
  ·exact h.elim
 ·split at h
  ·rename_i i _ a e1
   obtain ⟨h1,rfl⟩:=h
   have h1:=cutOK_iff.1 h1
   simp only [List.map,sem,TV.av,strAV,TV.int?_av e1]
   exact ⟨h1.2.1,h1.2.2,by simp⟩
  ·exact h.elim
 ·cases h;rfl
 ·obtain ⟨e,h⟩:=needT_holds h;cases h
  simp only [List.map,sem,TV.av,TV.avs_map]
  exact ⟨TV.plain_av _ e,by rw [TV.cells_av _ e]⟩
 ·obtain ⟨y,e,rfl⟩:=oneT_holds h
  simp only [List.map,sem,TV.av,TV.avs_map];exact ⟨_,partT_av e,rfl⟩
 ·obtain ⟨e,h⟩:=needT_holds h;cases h
  simp only [Bool.and_eq_true] at e
  obtain ⟨⟨e1,e2⟩,e3⟩:=e
  simp only [List.map,sem,TV.av,TV.avs_map]
  refine ⟨TV.plain_av _ e1,?_,?_,?_⟩
  ·rw [TV.cells_av _ e1,List.length_map];exact Nat.eq_of_beq_eq_true e2
  ·rw [List.length_map];exact Nat.le_of_ble_eq_true e3
  ·rw [TV.cells_av _ e1,spliceT_av]
 ·obtain ⟨e,h⟩:=needT_holds h;cases h
  simp only [Bool.and_eq_true,beq_iff_eq] at e
  obtain ⟨⟨e1,e2⟩,e3⟩:=e
  simp only [List.map,sem,TV.av]
  refine ⟨?_,?_,trivial⟩
  ·rw [TV.isAg_av _ e1,e2]
  ·rw [TV.cells_av _ e1,List.length_map];exact Nat.eq_of_beq_eq_true e3
 ·cases h;rfl
 ·split at h
  ·rename_i x e
   cases h
   simp only [List.map,sem,TV.av,TV.avs_map];exact ⟨_,partT_av e,rfl⟩
  ·exact h.elim
 ·cases h;rfl
 ·cases h;rfl
 ·obtain ⟨y,e,rfl⟩:=oneT_holds h
  simp only [List.map,sem,TV.av,TV.avs_map];exact ⟨y.av,by simp [e],rfl⟩
 ·split at h
  ·rename_i n e
   obtain ⟨e0,h1,rfl⟩:=needT_holds h
   obtain ⟨rfl,e1,e2⟩:=STy.app_av e
   have h1:=apOK_iff.1 h1
   simp only [List.map,sem,TV.av,List.length_map]
   have e0:=Nat.eq_of_beq_eq_true e0
   exact ⟨e0.symm,e0.symm,by intro x hx;obtain ⟨y,_,rfl⟩:=List.mem_map.1 hx;rw [e0];exact (STy.av_plain _ y).2,h1.1,h1.2,by rw [e1,e0]⟩
  ·exact h.elim
 ·obtain ⟨h1,rfl⟩:=h
  have h1:=apOK_iff.1 h1
  simp only [List.map,sem,TV.av,strAV,List.length_map]
  exact ⟨rfl,h1.1,h1.2,by simp [STy.size];intro _ _;rfl⟩
 ·obtain ⟨e0,h1,rfl⟩:=needT_holds h
  have h1:=apOK_iff.1 h1
  have e0:=Nat.eq_of_beq_eq_true e0
  simp only [List.map,sem,TV.av,List.length_map]
  exact ⟨e0.symm,by intro x hx;obtain ⟨y,_,rfl⟩:=List.mem_map.1 hx;rw [e0];exact (STy.av_plain _ y).2,h1.1,h1.2,by rw [e0]⟩
 ·obtain ⟨h1,rfl⟩:=h
  have h1:=apOK_iff.1 h1
  simp only [List.map,sem,TV.av,strAV]
  exact ⟨h1.1,h1.2,by simp [STy.size];intro _ _;rfl⟩
 ·obtain ⟨h1,rfl⟩:=h;exact ⟨lenOK_iff.1 h1,rfl⟩
 ·cases h;simp only [List.map,sem,TV.av,List.length_map]
 ·split at h
  ·rename_i s i t l k n e
   obtain ⟨e1,h1,rfl⟩:=needT_holds h
   have e1:=Nat.eq_of_beq_eq_true e1
   have h1:=idxOK_iff.1 h1
   simp only [List.map,sem,TV.av,TV.int?_av e,List.length_map]
   exact ⟨e1.symm,h1.1,by omega,trivial⟩
  ·exact h.elim
 ·cases h;rfl
 ·split at h
  ·rename_i s n agg i s' o t l _ x e
   obtain ⟨e1,h1,rfl⟩:=needT_holds h
   simp only [Bool.and_eq_true,decide_eq_true_eq] at e1 h1
   have e2:=Nat.eq_of_beq_eq_true e1.1
   have e3:=Nat.eq_of_beq_eq_true e1.2
   simp only [List.map,sem,TV.av]
   refine ⟨t.av l[i],_,e2,e3.symm,by simp [List.getElem?_eq_getElem h1],?_,rfl⟩
   have:=partElT_av (STy.tv_plain t _) e
   rw [STy.tv_av,List.getD_eq_getElem?_getD,List.getElem?_eq_getElem h1] at this
   exact this
  ·exact h.elim
 ·split at h
  ·rename_i s n i s' o t l x _ y e
   split at h
   ·rename_i _ z e'
    obtain ⟨e1,h1,rfl⟩:=needT_holds h
    simp only [Bool.and_eq_true,decide_eq_true_eq] at e1 h1
    obtain ⟨⟨⟨e2,e3⟩,e4⟩,e5⟩:=e1
    have e2:=Nat.eq_of_beq_eq_true e2
    have e3:=Nat.eq_of_beq_eq_true e3
    have e5:=Nat.eq_of_beq_eq_true e5
    have:=putElT_av (STy.tv_plain t _) e4 e
    rw [STy.tv_av,List.getD_eq_getElem?_getD,List.getElem?_eq_getElem h1,←STy.el_av e'] at this
    simp only [List.map,sem,TV.av]
    refine ⟨t.av l[i],_,e2,e3.symm,by simp [List.getElem?_eq_getElem h1],TV.plain_av _ e4,by rw [TV.cells_av _ e4,List.length_map];exact e5,this,?_⟩
    rw [List.map_set,e3]
   ·exact h.elim
  ·exact h.elim
 ·obtain ⟨e0,h⟩:=needT_holds h;cases h
  have e0:=Nat.eq_of_beq_eq_true e0
  simp only [List.map,sem,TV.av]
  exact ⟨e0.symm,by rw [e0]⟩
 ·split at h
  ·rename_i n e
   obtain ⟨e0,h1,rfl⟩:=needT_holds h
   obtain ⟨rfl,e1,e2⟩:=STy.app_av e
   have h1:=apOK_iff.1 h1
   simp only [List.map,sem,TV.av,List.length_map]
   have e0:=Nat.eq_of_beq_eq_true e0
   exact ⟨e0.symm,e0.symm,h1.1,h1.2,by rw [e1,e0]⟩
  ·exact h.elim
 ·split at h
  ·rename_i n e
   obtain ⟨e0,h1,rfl⟩:=needT_holds h
   obtain ⟨rfl,e1,e2⟩:=STy.app_av e
   have h1:=apOK_iff.1 h1
   simp only [List.map,sem,TV.av,List.length_map]
   have e0:=Nat.eq_of_beq_eq_true e0
   exact ⟨e0.symm,e0.symm,h1.1,h1.2,by rw [e1,e0]⟩
  ·exact h.elim
 ·split at h
  ·rename_i e
   obtain ⟨h1,rfl⟩:=h
   have h1:=idxOK_iff.1 h1
   simp only [List.map,sem,TV.av,TV.int?_av e]
   exact ⟨h1.1,h1.2,trivial⟩
  ·exact h.elim
 ·split at h
  ·rename_i x hx
   obtain ⟨e1,h1,rfl⟩:=needT_holds h
   simp only [Bool.and_eq_true,decide_eq_true_eq] at e1 h1
   obtain ⟨⟨e2,e3⟩,e4⟩:=e1
   have e2:=Nat.eq_of_beq_eq_true e2
   have e3:=Nat.eq_of_beq_eq_true e3
   have e4:=Nat.eq_of_beq_eq_true e4
   subst e3;subst e4
   have hx:=arrT_ok hx h1
   simp only [List.map,sem,TV.av]
   refine ⟨x.av,e2,?_,rfl⟩
   simp [partAV,TV.avs_map,hx]
  ·exact h.elim
 ·cases h
  rename_i l c
  have hc:((c.toNat:Int).toNat).toUInt8=c:=by simp
  simp only [List.map,sem,TV.av,strAV,byteAV,hc,iAV]
 ·exact semK2_ok E h
end Go.Eng
namespace Go.Eng
inductive TK where
 | k (x:K)
 | bl (t:STy) (n:Nat)
 | blt (t:STy) (n k:Nat)
 | bd (z:List TV) (pl:List (Nat × Nat))
 | al (m:Nat) (z:List TV) (ts:List (Nat × (Nat × Nat)))
 | mk (d by_:Nat) (t:STy) (z:t.El)
 | nl (t:STy) (d:Nat)
 | bxt (m:Nat) (ts:List (Nat × (Nat × STy)))
 | stt (m o n:Nat) (ts:List (Nat × (Nat × STy)))
abbrev erTs (ts:List (Nat × (Nat × STy))):List (Nat × (Nat × Nat)):=ts.map fun t=>(t.1,t.2.1,t.2.2.size)
def nilAtT (cs:List TV):List (Nat × (Nat × STy))→List TV
 | []=>cs
 | t :: ts=>(nilAtT cs ts).set t.1 (.sl t.2.2 [])
def isNil:Option TV→Bool
 | some (.c (.slice none 0 0))=>true
 | _=>false
def nilsT (cs:List TV):List (Nat × (Nat × STy))→Bool
 | []=>true
 | t :: ts=>isNil cs[t.1]?&&nilsT cs ts
theorem nilsT_av {cs:List TV}:∀{ts:List (Nat × (Nat × STy))},nilsT cs ts=true→(∀t∈erTs ts,(cs.map TV.av)[t.1]?=some .nil)∧(nilAtT cs ts).map TV.av=nilAt (cs.map TV.av) (erTs ts)
 | [],_=>⟨fun _ h=>(by cases h),rfl⟩
 | t :: ts,h=>by
  simp only [nilsT,Bool.and_eq_true] at h
  obtain ⟨h1,h3⟩:=h
  obtain ⟨h4,h5⟩:=nilsT_av h3
  refine ⟨fun u hu=>?_,?_⟩
  ·rcases List.mem_cons.1 hu with rfl | hu
   ·unfold isNil at h1
    split at h1
    ·rename_i e;rw [List.getElem?_map,e];rfl
    ·cases h1
   ·exact h4 u hu
  ·simp only [nilAtT,nilAt,List.map_set,h5,List.map_cons];rfl
def TK.erase:TK→K
 | .k x=>x
 | .bl t n => .bl t.size n
 | .blt t n d => .blt t.size n d
 | .bd z pl => .bd (TV.avs z) pl
 | .al m z ts => .al m (TV.avs z) ts
 | .mk d b t z => .mk d t.size b (t.av z)
 | .nl t d => .nl d t.size
 | .bxt m ts => .bxt m (erTs ts)
 | .stt m o n ts => .stt m o n (erTs ts)
inductive TOpd where
 | s (t:Nat)
 | c (x:TV)
 | g (n:Nat)
def TOpd.erase:TOpd→Opd
 | .s t => .s t
 | .c x => .c x.av
 | .g n => .g n
structure TOp where
 k:TK
 rs:List TOpd
 ds:List Nat
 gd:Option (Nat × Bool):=none
def TOp.erase (m:TOp):MOp:=⟨m.k.erase,m.rs.map TOpd.erase,m.ds,m.gd⟩
inductive TM where
 | skip
 | reg (ops:List TOp)
 | seq (a:TM) (keep:Option (List Nat)) (b:TM)
 | cond (x:TOpd) (G:List (Nat × Gh)) (a b:TM)
 | block (id:Nat) (G:List (Nat × Gh)) (b:TM)
 | loop (keep:List Nat) (G:List (Nat × Gh)) (b:TM)
 | exit (id:Nat)
 | ret
 | sco (b:TM)
 | scp (b:TM)
 | lab (l:Nat) (keep:List Nat) (G:List (Nat × Gh)) (r b:TM)
def TM.erase:TM→M
 | .skip => .skip
 | .reg ops => .reg (ops.map TOp.erase)
 | .seq a _ b => .seq a.erase b.erase
 | .cond x G a b => .cond x.erase G a.erase b.erase
 | .block id G b => .block id G b.erase
 | .loop keep G b => .loop keep G b.erase
 | .exit id => .exit id
 | .ret => .ret
 | .sco b => .sco b.erase
 | .scp b => .scp b.erase
 | .lab l keep G r b => .lab l keep G r.erase b.erase
abbrev Ctr:=List TV→Res
structure TEnv where
 fs:Nat→Ctr × FSig
 gl:Nat→TV
def Ctr.fs (c:Ctr × FSig):FS:=⟨fun ins outs=>∃ti to_,ins=ti.map TV.av∧outs=to_.map TV.av∧(c.1 ti).holds to_,c.2⟩
def TEnv.env (E:TEnv):Env:=⟨fun n=>Ctr.fs (E.fs n),fun n=>(E.gl n).av⟩
abbrev TS:=Nat→TV
abbrev TS.av (τ:TS):Sg:=fun k=>(τ k).av
def setT (τ:TS):List Nat→List TV→TS
 | t :: ts,x :: xs=>fun k=>cond (Nat.beq k t) x (setT τ ts xs k)
 | _,_=>τ
def headT (keep:List Nat) (vals:List TV):TS:=setT (fun _ => .dead) keep vals
theorem setT_av (τ:TS):∀(ts:List Nat) (xs:List TV),(setT τ ts xs).av=updL τ.av ts (xs.map TV.av)
 | t :: ts,x :: xs=>by
  funext k
  simp only [TS.av,setT,List.map_cons,updL,upd]
  rw [←setT_av τ ts xs]
  cases h:Nat.beq k t with
  | true=>rw [if_pos (Nat.eq_of_beq_eq_true h)];rfl
  | false=>rw [if_neg (Nat.ne_of_beq_eq_false h)];rfl
 | [],_=>rfl
 | _ :: _,[]=>rfl
theorem headT_av (keep:List Nat) (vals:List TV):(headT keep vals).av=head keep (vals.map TV.av):=setT_av _ keep vals
def TOpd.ev (E:TEnv) (τ:TS):TOpd→TV
 | .s t=>τ t
 | .c x=>x
 | .g n=>E.gl n
theorem TOpd.ev_av (E:TEnv) (τ:TS) (x:TOpd):x.erase.ev E.env τ.av=(x.ev E τ).av:=by cases x <;> rfl
def CS.insT (c:CS) (vs:List TV):List TV :=
 match c.ref with
 | some (i,_)=>(vs.take c.n).set i (vs.getD (c.n+(c.new.map (·.2)).toList.length) .dead)
 | none=>vs.take c.n
def CS.mainT (c:CS) (outs:List TV):TV :=
 match Nat.beq c.nres 1 with
 | true=>match c.new with
  | some _ => .pt
  | none=>outs.headD .dead
 | false => .tu ((outs.take c.nres).mapIdx fun i x=>cond (c.new.any (·.1 == i)) .pt x)
def CS.refOK (c:CS) (vs:List TV):Bool :=
 match c.ref with
 | some (i,_)=>match vs[i]? with
  | some .pt=>true
  | _=>false
 | none=>true
def CS.give (c:CS) (outs:List TV):List TV:=c.mainT outs :: (outs.drop c.nres++c.lks.map fun _ => .dead)
def callT (C:Ctr) (c:CS) (vs:List TV):Res :=
 match c.refOK vs with
 | true=>match C (c.insT vs) with
  | .ok outs=>needT (Nat.beq outs.length (c.nres+c.mems.length)) (.ok (c.give outs))
  | .if_ p outs=>needT (Nat.beq outs.length (c.nres+c.mems.length)) (.if_ p (c.give outs))
  | .err => .err
 | false => .err
def resT (nres:Nat) (r:Res):Res :=
 match r with
 | .ok outs=>needT (Nat.beq outs.length nres) (.ok [cond (Nat.beq nres 1) (outs.headD .dead) (.tu outs)])
 | .if_ p outs=>needT (Nat.beq outs.length nres) (.if_ p [cond (Nat.beq nres 1) (outs.headD .dead) (.tu outs)])
 | .err => .err
def pcallT (C:Ctr) (n nres i s:Nat) (vs:List TV):Res :=
 match vs[n]?,vs[i]? with
 | some (.sl t l),some .pt=>needT (Nat.beq s t.size) (resT nres (C ((vs.take n).set i (.sl t l))))
 | _,_ => .err
def pcalnT (C:Ctr) (nres i s:Nat) (vs:List TV):Res :=
 match vs[i]? with
 | some (.sl t [])=>needT (Nat.beq s t.size) (resT nres (C vs))
 | _ => .err
def TV.isV:TV→Bool
 | .u8 _=>true
 | .u16 _=>true
 | .u32 _=>true
 | .u64 _=>true
 | .i _ _=>true
 | .b _=>true
 | .s _=>true
 | .c _=>true
 | _=>false
def allV:List TV→Bool
 | []=>true
 | x :: r=>x.isV&&allV r
def resV (nres:Nat) (r:Res):Res :=
 match r with
 | .ok outs=>needT (Nat.beq outs.length nres&&allV outs) (.ok [cond (Nat.beq nres 1) (outs.headD .dead) (.tu outs)])
 | .if_ p outs=>needT (Nat.beq outs.length nres&&allV outs) (.if_ p [cond (Nat.beq nres 1) (outs.headD .dead) (.tu outs)])
 | .err => .err
def rcallT (C:Ctr) (n nres i:Nat) (vs:List TV):Res :=
 match vs[n]?,vs[i]? with
 | some (.ag cs),some .pt=>resV nres (C ((vs.take n).set i (.ro (.ag cs))))
 | _,_ => .err
def sliceT (t:STy) (vs rest:List TV):Res :=
 match t.els vs with
 | some l => .ok (.sl t l :: rest)
 | none => .err
def semT (E:TEnv) (k:TK) (vs:List TV):Res :=
 match k with
 | .k (.call f c)=>callT (E.fs f).1 c vs
 | .k (.pcall f n nres i _ s)=>pcallT (E.fs f).1 n nres i s vs
 | .k (.pcaln f _ nres i s)=>pcalnT (E.fs f).1 nres i s vs
 | .k (.rcall f n nres i _)=>rcallT (E.fs f).1 n nres i vs
 | .k k=>semK k vs
 | .bl t n=>needT (Nat.beq vs.length n) (sliceT t vs [])
 | .blt t n _=>needT (Nat.beq vs.length (n+1)) (sliceT t (vs.take n) [.dead])
 | .bd z pl=>match fillT z pl vs with
  | some cs => .ok [.ag cs]
  | none => .err
 | .al _ z ts => .ok (.pt :: .ag z :: ts.map fun _ => .dead)
 | .mk _ by_ t z=>match vs with
  | [.i .i64 l,.i .i64 c,_] => .if_ (mkOK l c by_) [.sl t (List.replicate l.toNat z),.dead]
  | _ => .err
 | .nl t _=>match vs with
  | [_] => .ok [.sl t [],.dead]
  | _ => .err
 | .bxt _ ts=>match vs with
  | x :: _=>needT (x.plain&&nilsT x.cells ts) (.ok (.pt :: .ag (nilAtT x.cells ts) :: ts.map fun _ => .dead))
  | _ => .err
 | .stt _ o n ts=>match vs with
  | .pt :: .ag cs :: x :: _=>needT (x.plain&&Nat.beq x.cells.length n&&Nat.ble (o+n) cs.length&&nilsT (spliceT cs o x.cells) ts) (.ok (.ag (nilAtT (spliceT cs o x.cells) ts) :: ts.map fun _ => .dead))
  | _ => .err
def cnds:List TV→Option Bool
 | []=>none
 | x :: r=>match x.cnd,cnds r with
  | none,q=>q
  | some p,none=>some p
  | some p,some q=>some (p&&q)
def underT (c:Bool) (q:Option Bool) (r:Res):Res :=
 match r,q with
 | .ok ws,none => .ok (ws.map (.gd c))
 | .ok ws,some q => .if_ (!c || q) (ws.map (.gd c))
 | .if_ p ws,none => .if_ (!c || p) (ws.map (.gd c))
 | .if_ p ws,some q => .if_ (!c || (q&&p)) (ws.map (.gd c))
 | .err,_ => .err
def guardT (τ:TS) (t:Nat) (b:Bool):Option Bool :=
 match τ t with
 | .b x=>some (cond b x (!x))
 | .gd q (.b x)=>some (q&&cond b x (!x))
 | _=>none
def lenT (n:Nat) (r:Res):Res :=
 match r with
 | .ok ws=>needT (Nat.beq ws.length n) (.ok ws)
 | .if_ p ws=>needT (Nat.beq ws.length n) (.if_ p ws)
 | .err => .err
def bareT (k:TK) (vs:List TV):List TV :=
 match k with
 | .k .pick=>match vs with
  | x :: r=>x.bare :: r
  | []=>[]
 | _=>vs.map TV.bare
def cndT (k:TK) (vs:List TV):Option Bool :=
 match k with
 | .k .pick=>match vs with
  | x :: _=>x.cnd
  | []=>none
 | _=>cnds vs
def stepT (E:TEnv) (m:TOp) (τ:TS):Res :=
 match m.gd with
 | none=>lenT m.ds.length (semT E m.k (m.rs.map (TOpd.ev E τ)))
 | some (t,b)=>match guardT τ t b with
  | some c=>lenT m.ds.length (underT c (cndT m.k (m.rs.map (TOpd.ev E τ))) (semT E m.k (bareT m.k (m.rs.map (TOpd.ev E τ)))))
  | none => .err
section
variable {R:Type}
def runT (E:TEnv):List TOp→TS→(TS→Option R)→Option R
 | [],τ,K=>K τ
 | m :: ms,τ,K=>match stepT E m τ with
  | .ok ws=>runT E ms (setT τ m.ds ws) K
  | .if_ p ws=>ck p (runT E ms (setT τ m.ds ws) K)
  | .err=>none
def restr (keep:Option (List Nat)) (τ:TS):TS :=
 match keep with
 | none=>τ
 | some ks=>headT ks (ks.map τ)
abbrev Cont (R:Type):=MX→TS→Option R
def seqK (f:TS→Cont R→Option R) (keep:Option (List Nat)) (K:Cont R):Cont R:=fun e τ =>
 match e with
 | .normal=>f (restr keep τ) K
 | e=>K e τ
def blockK (id:Nat) (K:Cont R):Cont R:=fun e τ =>
 match e with
 | .exit j=>match Nat.beq j id with
  | true=>K .normal τ
  | false=>K (.exit j) τ
 | e=>K e τ
def isN:MX→Bool
 | .normal=>true
 | _=>false
def isG (l:Nat):MX→Bool
 | .exit j=>Nat.beq j (gid l)
 | _=>false
def loopN (f:TS→Cont R→Option R) (tr:MX→Bool) (keep:List Nat):Nat→TS→Cont R→Option R
 | 0,_,_=>none
 | n+1,τ,K=>f τ fun e τ' =>
  match tr e with
  | true=>loopN f tr keep n (headT keep (keep.map τ')) K
  | false=>K e τ'
open Classical in
noncomputable def lim (g:Nat→Option R):Option R:=if h:∃n r,g n=some r then g h.choose else none
noncomputable def loopL (f:TS→Cont R→Option R) (tr:MX→Bool) (keep:List Nat) (τ:TS) (K:Cont R):Option R:=lim fun n=>loopN f tr keep n τ K
noncomputable def loopK (f:TS→Cont R→Option R) (keep:List Nat) (τ:TS) (K:Cont R):Option R:=loopL f isN keep (headT keep (keep.map τ)) K
noncomputable def againK (f:TS→Cont R→Option R) (tr:MX→Bool) (keep:List Nat) (K:Cont R):Cont R:=fun e τ =>
 match tr e with
 | true=>loopL f tr keep (headT keep (keep.map τ)) K
 | false=>K e τ
noncomputable def evO (R:Type) (E:TEnv) (m:TM):TS→Cont R→Option R :=
 TM.rec (motive:=fun _=>TS→Cont R→Option R)
  (fun τ K=>K .normal τ)
  (fun ops τ K=>runT E ops τ (K .normal))
  (fun _ keep _ fa fb τ K=>fa τ (seqK fb keep K))
  (fun x _ _ _ fa fb τ K=>match x.ev E τ with
   | .b t=>cond t (fa τ K) (fb τ K)
   | _=>none)
  (fun id _ _ f τ K=>f τ (blockK id K))
  (fun keep _ _ f τ K=>loopK f keep τ K)
  (fun id τ K=>K (.exit id) τ)
  (fun τ K=>K .ret τ)
  (fun _ f=>f)
  (fun _ f=>f)
  (fun l keep _ _ _ fr fb τ K=>fb τ (againK fr (isG l) keep K)) m
noncomputable def ev (R:Type) (E:TEnv) (m:TM):TS→Cont R→Option R :=
 TM.rec (motive:=fun _=>TS→Cont R→Option R)
  (fun τ K=>K .normal τ)
  (fun ops τ K=>runT E ops τ (K .normal))
  (fun _ keep b fa fb τ K=>match keep with
   | none=>fa τ (seqK fb none K)
   | some ks=>fa τ (seqK (evO R E b) (some ks) K))
  (fun x _ _ _ fa fb τ K=>match x.ev E τ with
   | .b t=>cond t (fa τ K) (fb τ K)
   | _=>none)
  (fun id _ _ f τ K=>f τ (blockK id K))
  (fun keep _ b _ τ K=>loopK (evO R E b) keep τ K)
  (fun id τ K=>K (.exit id) τ)
  (fun τ K=>K .ret τ)
  (fun _ f=>f)
  (fun _ f=>f)
  (fun l keep _ r _ _ fb τ K=>fb τ (againK (evO R E r) (isG l) keep K)) m
theorem ev_eq (E:TEnv) (m:TM):evO R E m=ev R E m:=by
 induction m with
 | skip=>rfl
 | reg ops=>rfl
 | seq a keep b iha ihb =>
  funext τ K
  show evO R E a τ (seqK (evO R E b) keep K)=(match keep with | none=>ev R E a τ (seqK (ev R E b) none K) | some ks=>ev R E a τ (seqK (evO R E b) (some ks) K))
  cases keep with
  | none=>rw [iha,ihb]
  | some ks=>rw [iha]
 | cond x G a b iha ihb =>
  funext τ K
  show (match x.ev E τ with | .b t=>cond t (evO R E a τ K) (evO R E b τ K) | _=>none)=(match x.ev E τ with | .b t=>cond t (ev R E a τ K) (ev R E b τ K) | _=>none)
  rw [iha,ihb]
 | block id G b ih =>
  funext τ K
  show evO R E b τ (blockK id K)=ev R E b τ (blockK id K)
  rw [ih]
 | loop keep G b ih=>rfl
 | exit id=>rfl
 | ret=>rfl
 | sco b ih=>exact ih
 | scp b ih=>exact ih
 | lab l keep G r b ihr ihb =>
  funext τ K
  show evO R E b τ (againK (evO R E r) (isG l) keep K)=ev R E b τ (againK (evO R E r) (isG l) keep K)
  rw [ihb]
def Alg (f:TS→Cont R→Option R):Prop:=∀τ,∃p:Option (MX × TS),∀K:Cont R,f τ K=p.bind fun q=>K q.1 q.2
theorem lim_some {g:Nat→Option R} (hm:∀n r,g n=some r→g (n+1)=some r) {r:R}:lim g=some r ↔ ∃n,g n=some r:=by
 have up:∀n k r,g n=some r→g (n+k)=some r:=by
  intro n k
  induction k with
  | zero=>exact fun r h=>h
  | succ k ih=>exact fun r h=>hm _ _ (ih r h)
 unfold lim
 constructor
 ·intro h
  split at h
  ·rename_i hx;exact ⟨_,h⟩
  ·cases h
 ·rintro ⟨n,hn⟩
  have hx:∃n r,g n=some r:=⟨n,r,hn⟩
  rw [dif_pos hx]
  obtain ⟨r',hr'⟩:=hx.choose_spec
  rw [hr']
  have h1:=up _ n _ hr'
  have h2:=up _ hx.choose _ hn
  rw [Nat.add_comm] at h2
  rw [h1] at h2
  exact h2
theorem lim_congr {g g':Nat→Option R} (hm:∀n r,g n=some r→g (n+1)=some r) (hm':∀n r,g' n=some r→g' (n+1)=some r) (h:∀r,(∃n,g n=some r) ↔ ∃n,g' n=some r):lim g=lim g':=by
 cases e:lim g with
 | some r=>exact ((lim_some hm').2 ((h r).1 ((lim_some hm).1 e))).symm
 | none =>
  cases e':lim g' with
  | none=>rfl
  | some r =>
   have:=(lim_some hm).2 ((h r).2 ((lim_some hm').1 e'))
   rw [e] at this;cases this
theorem loopN_mono {f:TS→Cont R→Option R} (hf:Alg f) {tr:MX→Bool} {keep:List Nat} {K:Cont R}:∀(n:Nat) (τ:TS) (r:R),loopN f tr keep n τ K=some r→loopN f tr keep (n+1) τ K=some r
 | 0,_,_,h=>by cases h
 | n+1,τ,r,h=>by
  obtain ⟨p,hp⟩:=hf τ
  rw [loopN] at h ⊢
  rw [hp] at h ⊢
  cases p with
  | none=>cases h
  | some q =>
   obtain ⟨e,τ'⟩:=q
   simp only [Option.bind_some] at h ⊢
   cases ht:tr e with
   | true=>rw [ht] at h;exact loopN_mono hf n _ r h
   | false=>rw [ht] at h;exact h
theorem loopL_eq {f:TS→Cont R→Option R} (hf:Alg f) (tr:MX→Bool) (keep:List Nat) (τ:TS) (K:Cont R):loopL f tr keep τ K=f τ (againK f tr keep K):=by
 obtain ⟨p,hp⟩:=hf τ
 rw [hp]
 have hN:∀n,loopN f tr keep (n+1) τ K=p.bind fun q=>match tr q.1 with | true=>loopN f tr keep n (headT keep (keep.map q.2)) K | false=>K q.1 q.2:=by
  intro n;rw [loopN,hp]
 cases p with
 | none =>
  cases e:loopL f tr keep τ K with
  | none=>rfl
  | some r =>
   obtain ⟨n,hn⟩:=(lim_some (fun n r=>loopN_mono hf n τ r)).1 e
   cases n with
   | zero=>cases hn
   | succ n=>rw [hN] at hn;cases hn
 | some q =>
  obtain ⟨e,τ'⟩:=q
  simp only [Option.bind_some] at hN ⊢
  cases ht:tr e with
  | true =>
   simp only [againK,ht] at hN ⊢
   refine lim_congr (fun n r=>loopN_mono hf n τ r) (fun n r=>loopN_mono hf n _ r) fun r=>⟨?_,?_⟩
   ·rintro ⟨n,hn⟩
    cases n with
    | zero=>cases hn
    | succ n=>rw [hN] at hn;exact ⟨n,hn⟩
   ·rintro ⟨n,hn⟩
    exact ⟨n+1,by rw [hN];exact hn⟩
  | false =>
   simp only [againK,ht] at hN ⊢
   cases e':K e τ' with
   | none =>
    cases e2:loopL f tr keep τ K with
    | none=>rfl
    | some r =>
     obtain ⟨n,hn⟩:=(lim_some (fun n r=>loopN_mono hf n τ r)).1 e2
     cases n with
     | zero=>cases hn
     | succ n=>rw [hN,e'] at hn;cases hn
   | some r=>exact (lim_some (fun n r=>loopN_mono hf n τ r)).2 ⟨1,by rw [hN,e']⟩
theorem runT_alg (E:TEnv):∀(ms:List TOp) (τ:TS),∃p:Option TS,∀K:TS→Option R,runT E ms τ K=p.bind K
 | [],τ=>⟨some τ,fun K=>rfl⟩
 | m :: ms,τ=>by
  simp only [runT]
  cases h:stepT E m τ with
  | ok ws=>exact runT_alg E ms _
  | if_ p ws =>
   obtain ⟨q,hq⟩:=runT_alg E ms (setT τ m.ds ws)
   cases p with
   | true=>exact ⟨q,fun K=>hq K⟩
   | false=>exact ⟨none,fun K=>rfl⟩
  | err=>exact ⟨none,fun K=>rfl⟩
noncomputable def iterN (P:TS→Option (MX × TS)) (tr:MX→Bool) (keep:List Nat):Nat→TS→Option (MX × TS)
 | 0,_=>none
 | n+1,τ=>(P τ).bind fun q=>match tr q.1 with
  | true=>iterN P tr keep n (headT keep (keep.map q.2))
  | false=>some q
open Classical in
theorem loopL_alg {f:TS→Cont R→Option R} (hf:Alg f) (tr:MX→Bool) (keep:List Nat):Alg (loopL f tr keep):=by
 intro τ
 let P:=fun τ=>(hf τ).choose
 have hP:∀τ K,f τ K=(P τ).bind fun q=>K q.1 q.2:=fun τ=>(hf τ).choose_spec
 have hI:∀n τ K,loopN f tr keep n τ K=(iterN P tr keep n τ).bind fun q=>K q.1 q.2:=by
  intro n
  induction n with
  | zero=>exact fun _ _=>rfl
  | succ n ih =>
   intro τ K
   rw [loopN,iterN,hP]
   cases P τ with
   | none=>rfl
   | some q =>
    simp only [Option.bind_some]
    cases tr q.1 with
    | true=>exact ih _ K
    | false=>rfl
 have hmono:∀n τ q,iterN P tr keep n τ=some q→iterN P tr keep (n+1) τ=some q:=by
  intro n
  induction n with
  | zero=>intro _ _ h;cases h
  | succ n ih =>
   intro τ q h
   rw [iterN] at h ⊢
   cases e:P τ with
   | none=>rw [e] at h;cases h
   | some q' =>
    rw [e] at h
    simp only [Option.bind_some] at h ⊢
    cases ht:tr q'.1 with
    | true=>rw [ht] at h;exact ih _ q h
    | false=>rw [ht] at h;exact h
 by_cases hx:∃n q,iterN P tr keep n τ=some q
 ·obtain ⟨n,q,hq⟩:=hx
  have hge:∀k,iterN P tr keep (n+k) τ=some q:=by
   intro k
   induction k with
   | zero=>exact hq
   | succ k ih=>exact hmono _ _ _ ih
  refine ⟨some q,fun K=>?_⟩
  simp only [Option.bind_some]
  cases e:K q.1 q.2 with
  | some r=>exact (lim_some (fun n r=>loopN_mono hf n τ r)).2 ⟨n,by rw [hI,hq];exact e⟩
  | none =>
   cases e':loopL f tr keep τ K with
   | none=>rfl
   | some r =>
    obtain ⟨m,hm⟩:=(lim_some (fun n r=>loopN_mono hf n τ r)).1 e'
    have:loopN f tr keep (m+n) τ K=some r:=by
     clear e e'
     induction n with
     | zero=>exact hm
     | succ n ih =>
      have up:∀k,loopN f tr keep (m+k) τ K=some r:=by
       intro k
       induction k with
       | zero=>exact hm
       | succ k ih=>exact loopN_mono hf _ _ _ ih
      exact up _
    rw [hI,Nat.add_comm,hge] at this
    simp only [Option.bind_some] at this
    rw [e] at this;cases this
 ·refine ⟨none,fun K=>?_⟩
  cases e':loopL f tr keep τ K with
  | none=>rfl
  | some r =>
   obtain ⟨m,hm⟩:=(lim_some (fun n r=>loopN_mono hf n τ r)).1 e'
   rw [hI] at hm
   cases e:iterN P tr keep m τ with
   | none=>rw [e] at hm;cases hm
   | some q=>exact absurd ⟨m,q,e⟩ hx
theorem loopK_alg {f:TS→Cont R→Option R} (hf:Alg f) (keep:List Nat):Alg (loopK f keep):=fun τ=>loopL_alg hf isN keep _
theorem ev_alg (E:TEnv) (m:TM):Alg (evO R E m):=by
 induction m with
 | skip=>exact fun τ=>⟨some (.normal,τ),fun K=>rfl⟩
 | reg ops =>
  intro τ
  obtain ⟨p,hp⟩:=runT_alg (R:=R) E ops τ
  exact ⟨p.map fun τ=>(.normal,τ),fun K=>by rw [Option.bind_map];exact hp _⟩
 | seq a keep b iha ihb =>
  intro τ
  obtain ⟨p,hp⟩:=iha τ
  cases p with
  | none=>exact ⟨none,fun K=>hp _⟩
  | some q =>
   obtain ⟨e,τ'⟩:=q
   cases e with
   | normal =>
    obtain ⟨p',hp'⟩:=ihb (restr keep τ')
    exact ⟨p',fun K=>(hp _).trans (hp' _)⟩
   | exit i=>exact ⟨some (.exit i,τ'),fun K=>hp _⟩
   | ret=>exact ⟨some (.ret,τ'),fun K=>hp _⟩
 | cond x G a b iha ihb =>
  intro τ
  show ∃p:Option (MX × TS),∀K:Cont R,(match x.ev E τ with | .b t=>cond t (evO R E a τ K) (evO R E b τ K) | _=>none)=_
  split
  ·rename_i t _
   cases t with
   | true=>exact iha τ
   | false=>exact ihb τ
  ·exact ⟨none,fun K=>rfl⟩
 | block id G b ih =>
  intro τ
  obtain ⟨p,hp⟩:=ih τ
  cases p with
  | none=>exact ⟨none,fun K=>hp _⟩
  | some q =>
   obtain ⟨e,τ'⟩:=q
   cases e with
   | normal=>exact ⟨some (.normal,τ'),fun K=>hp _⟩
   | exit i =>
    cases hb:Nat.beq i id with
    | true=>exact ⟨some (.normal,τ'),fun K=>(hp _).trans (by simp only [Option.bind_some,blockK,hb])⟩
    | false=>exact ⟨some (.exit i,τ'),fun K=>(hp _).trans (by simp only [Option.bind_some,blockK,hb])⟩
   | ret=>exact ⟨some (.ret,τ'),fun K=>hp _⟩
 | loop keep G b ih=>exact loopK_alg ih keep
 | exit id=>exact fun τ=>⟨some (.exit id,τ),fun K=>rfl⟩
 | ret=>exact fun τ=>⟨some (.ret,τ),fun K=>rfl⟩
 | sco b ih=>exact ih
 | scp b ih=>exact ih
 | lab l keep G r b ihr ihb =>
  intro τ
  obtain ⟨p,hp⟩:=ihb τ
  cases p with
  | none=>exact ⟨none,fun K=>hp _⟩
  | some q =>
   obtain ⟨e,τ'⟩:=q
   cases ht:isG l e with
   | true =>
    obtain ⟨p',hp'⟩:=loopL_alg ihr (isG l) keep (headT keep (keep.map τ'))
    exact ⟨p',fun K=>(hp _).trans (by simp only [Option.bind_some,againK,ht];exact hp' K)⟩
   | false=>exact ⟨some (e,τ'),fun K=>(hp _).trans (by simp only [Option.bind_some,againK,ht])⟩
theorem ev_loop (E:TEnv) (tr:MX→Bool) (keep:List Nat) (b:TM) (τ:TS) (K:Cont R) :
  loopL (evO R E b) tr keep τ K=ev R E b τ (againK (evO R E b) tr keep K):=by rw [loopL_eq (ev_alg E b),ev_eq]
end
end Go.Eng
namespace Go.Eng
theorem insT_av (c:CS) (vs:List TV):(c.insT vs).map TV.av=c.ins (vs.map TV.av):=by
 unfold CS.insT CS.ins
 cases c.ref with
 | none=>simp [List.map_take]
 | some q =>
  simp only [List.map_set,List.map_take]
  congr 1
  simp only [List.getD_eq_getElem?_getD,List.getElem?_map]
  cases vs[c.n+(c.new.map (·.2)).toList.length]? <;> rfl
theorem mainT_av (c:CS) (outs:List TV):(c.mainT outs).av=c.main (outs.map TV.av):=by
 unfold CS.mainT CS.main
 cases h:Nat.beq c.nres 1 with
 | true =>
  rw [if_pos (Nat.eq_of_beq_eq_true h)]
  cases c.new with
  | some q=>rfl
  | none=>cases outs <;> rfl
 | false =>
  rw [if_neg (Nat.ne_of_beq_eq_false h)]
  simp only [TV.av,TV.avs_map,AV.tu.injEq]
  apply List.ext_getElem?
  intro i
  simp only [List.getElem?_map,List.getElem?_mapIdx,List.getElem?_take]
  split
  ·cases outs[i]? with
   | none=>rfl
   | some x =>
    simp only [Option.map_some,Option.some.injEq]
    cases h:(c.new.any fun q=>q.1 == i) <;> simp
    rfl
  ·rfl
section
variable {E:TEnv}
theorem callT_ok {f:Nat} {c:CS} {vs ws:List TV} (h:(callT (E.fs f).1 c vs).holds ws):sem E.env (.call f c) (vs.map TV.av) (ws.map TV.av):=by
 unfold callT at h
 cases hr:c.refOK vs with
 | false=>rw [hr] at h;exact h.elim
 | true =>
  rw [hr] at h
  have key:∀{outs:List TV},((E.fs f).1 (c.insT vs)).holds outs→Nat.beq outs.length (c.nres+c.mems.length)=true→ws=c.give outs→sem E.env (.call f c) (vs.map TV.av) (ws.map TV.av):=by
   intro outs h1 h2 h3
   subst h3
   refine ⟨?_,outs.map TV.av,⟨_,_,(insT_av c vs).symm,rfl,h1⟩,by rw [List.length_map];exact Nat.eq_of_beq_eq_true h2,?_⟩
   ·unfold CS.refOK at hr
    cases hc:c.ref with
    | none=>trivial
    | some q =>
     rw [hc] at hr
     simp only at hr ⊢
     split at hr
     ·rename_i e;rw [List.getElem?_map,e];rfl
     ·cases hr
   ·simp only [CS.give,List.map_cons,mainT_av,List.map_append,List.map_drop,List.map_map]
    rfl
  simp only at h
  cases hC:(E.fs f).1 (c.insT vs) with
  | ok outs =>
   rw [hC] at h
   obtain ⟨h1,h2⟩:=needT_holds h
   exact key (outs:=outs) (by rw [hC];rfl) h1 h2
  | if_ p outs =>
   rw [hC] at h
   obtain ⟨h1,h2⟩:=needT_holds h
   exact key (outs:=outs) (by rw [hC];exact ⟨h2.1,rfl⟩) h1 h2.2
  | err=>rw [hC] at h;exact h.elim
theorem sliceT_ok {t:STy} {vs rest ws:List TV} (h:(sliceT t vs rest).holds ws):∃l,l.map t.av=vs.map TV.av∧(∀x∈vs.map TV.av,x.plain=true∧x.cells.length=t.size)∧ws = .sl t l :: rest:=by
 unfold sliceT at h
 split at h
 ·rename_i l e
  obtain ⟨h1,h2⟩:=STy.els_av e
  exact ⟨l,h1,h2,h⟩
 ·exact h.elim
theorem resT_ok {C:Ctr} {nres:Nat} {vs ws:List TV} (h:(resT nres (C vs)).holds ws):∃outs,(C vs).holds outs∧outs.length=nres∧ws=[cond (Nat.beq nres 1) (outs.headD .dead) (.tu outs)]:=by
 unfold resT at h
 cases hC:C vs with
 | ok outs =>
  rw [hC] at h
  obtain ⟨h1,h2⟩:=needT_holds h
  exact ⟨outs,rfl,Nat.eq_of_beq_eq_true h1,h2⟩
 | if_ p outs =>
  rw [hC] at h
  obtain ⟨h1,h2⟩:=needT_holds h
  exact ⟨outs,⟨h2.1,rfl⟩,Nat.eq_of_beq_eq_true h1,h2.2⟩
 | err=>rw [hC] at h;exact h.elim
theorem resMain {nres:Nat} (outs:List TV):(cond (Nat.beq nres 1) (outs.headD .dead) (.tu outs):TV).av=if nres=1 then (outs.map TV.av).headD .dead else .tu (outs.map TV.av):=by
 cases h:Nat.beq nres 1 with
 | true=>rw [if_pos (Nat.eq_of_beq_eq_true h)];cases outs <;> rfl
 | false=>rw [if_neg (Nat.ne_of_beq_eq_false h)];simp only [cond_false,TV.av,TV.avs_map]
theorem pcallT_ok {f n nres i k s:Nat} {vs ws:List TV} (h:(pcallT (E.fs f).1 n nres i s vs).holds ws):sem E.env (.pcall f n nres i k s) (vs.map TV.av) (ws.map TV.av):=by
 unfold pcallT at h
 split at h
 ·rename_i t l e1 e2
  obtain ⟨h0,h⟩:=needT_holds h
  obtain ⟨outs,h1,h2,rfl⟩:=resT_ok h
  have h0:=Nat.eq_of_beq_eq_true h0
  refine ⟨l.map t.av,outs.map TV.av,by rw [List.getElem?_map,e1,h0];rfl,by rw [List.getElem?_map,e2];rfl,⟨_,outs,?_,rfl,h1⟩,by simpa using h2,by simp only [List.map_cons,List.map_nil,resMain]⟩
  rw [List.map_set,List.map_take,h0];rfl
 ·exact h.elim
theorem pcalnT_ok {f n nres i s:Nat} {vs ws:List TV} (h:(pcalnT (E.fs f).1 nres i s vs).holds ws):sem E.env (.pcaln f n nres i s) (vs.map TV.av) (ws.map TV.av):=by
 unfold pcalnT at h
 split at h
 ·rename_i t e1
  obtain ⟨h0,h⟩:=needT_holds h
  obtain ⟨outs,h1,h2,rfl⟩:=resT_ok h
  have h0:=Nat.eq_of_beq_eq_true h0
  exact ⟨outs.map TV.av,by rw [List.getElem?_map,e1,h0];rfl,⟨vs,outs,rfl,rfl,h1⟩,by simpa using h2,by simp only [List.map_cons,List.map_nil,resMain]⟩
 ·exact h.elim
theorem allV_ok:∀{l:List TV},allV l=true→∀x∈l.map TV.av,∃y,x = .v y
 | [],_,x,hx=>by cases hx
 | z :: r,h,x,hx=>by
  simp only [allV,Bool.and_eq_true] at h
  rcases List.mem_cons.1 hx with rfl | hx
  ·cases z <;> first | exact ⟨_,rfl⟩ | cases h.1
  ·exact allV_ok h.2 x hx
theorem rcallT_ok {f n nres i m:Nat} {vs ws:List TV} (h:(rcallT (E.fs f).1 n nres i vs).holds ws):sem E.env (.rcall f n nres i m) (vs.map TV.av) (ws.map TV.av):=by
 unfold rcallT at h
 split at h
 ·rename_i cs e1 e2
  have key:∃outs,((E.fs f).1 ((vs.take n).set i (.ro (.ag cs)))).holds outs∧outs.length=nres∧allV outs=true∧ws=[cond (Nat.beq nres 1) (outs.headD .dead) (.tu outs)]:=by
   unfold resV at h
   cases hC:(E.fs f).1 ((vs.take n).set i (.ro (.ag cs))) with
   | ok outs =>
    rw [hC] at h
    obtain ⟨h1,h2⟩:=needT_holds h
    simp only [Bool.and_eq_true] at h1
    exact ⟨outs,rfl,Nat.eq_of_beq_eq_true h1.1,h1.2,h2⟩
   | if_ p outs =>
    rw [hC] at h
    obtain ⟨h1,h2⟩:=needT_holds h
    simp only [Bool.and_eq_true] at h1
    exact ⟨outs,⟨h2.1,rfl⟩,Nat.eq_of_beq_eq_true h1.1,h1.2,h2.2⟩
   | err=>rw [hC] at h;exact h.elim
  obtain ⟨outs,h1,h2,h3,rfl⟩:=key
  refine ⟨cs.map TV.av,outs.map TV.av,by rw [List.getElem?_map,e1];simp only [Option.map_some,TV.av,TV.avs_map],by rw [List.getElem?_map,e2];rfl,⟨_,outs,?_,rfl,h1⟩,by simpa using h2,allV_ok h3,by simp only [List.map_cons,List.map_nil,resMain]⟩
  rw [List.map_set,List.map_take];simp only [TV.av,TV.avs_map]
 ·exact h.elim
theorem semT_ok {k:TK} {vs ws:List TV} (h:(semT E k vs).holds ws):sem E.env k.erase (vs.map TV.av) (ws.map TV.av):=by
 cases k with
 | k x =>
  by_cases hc:∃f c,x = .call f c
  ·obtain ⟨f,c,rfl⟩:=hc
   exact callT_ok h
  ·cases x
   case call f c=>exact (hc ⟨_,_,rfl⟩).elim
   case pcall f n nres i k s=>exact pcallT_ok h
   case pcaln f n nres i s=>exact pcalnT_ok h
   case rcall f n nres i m=>exact rcallT_ok h
   all_goals exact semK_ok _ h
 | bl t n =>
  obtain ⟨h0,h⟩:=needT_holds h
  obtain ⟨l,h1,h2,rfl⟩:=sliceT_ok h
  have h0:=Nat.eq_of_beq_eq_true h0
  simp only [TK.erase,sem,List.map,TV.av,h1,List.length_map]
  exact ⟨h0,h2,trivial⟩
 | blt t n d =>
  obtain ⟨h0,h⟩:=needT_holds h
  obtain ⟨l,h1,h2,rfl⟩:=sliceT_ok h
  have h0:=Nat.eq_of_beq_eq_true h0
  simp only [TK.erase,sem,List.map,TV.av,h1,List.length_map,←List.map_take]
  exact ⟨h0,h2,trivial⟩
 | bd z pl =>
  simp only [semT] at h
  split at h
  ·rename_i cs e
   cases h
   simp only [TK.erase,sem,List.map,TV.av,TV.avs_map]
   exact ⟨_,fillT_av e,rfl⟩
  ·exact h.elim
 | al m z ts =>
  simp only [semT] at h
  cases h
  simp only [TK.erase,sem,List.map_cons,TV.av,List.map_map]
  rfl
 | mk d b t z =>
  simp only [semT] at h
  split at h
  ·obtain ⟨h1,rfl⟩:=h
   obtain ⟨h1,h2,h3,h4⟩:=mkOK_iff.1 h1
   simp only [TK.erase,sem,List.map,TV.av]
   exact ⟨(STy.av_plain _ _).1,(STy.av_plain _ _).2,h1,h2,h3,h4,by simp⟩
  ·exact h.elim
 | nl t d =>
  simp only [semT] at h
  split at h
  ·cases h;rfl
  ·exact h.elim
 | bxt m ts =>
  simp only [semT] at h
  split at h
  ·obtain ⟨e,h⟩:=needT_holds h
   cases h
   simp only [Bool.and_eq_true] at e
   obtain ⟨h1,h2⟩:=nilsT_av e.2
   simp only [TK.erase,sem,List.map_cons,TV.av,TV.avs_map,TV.cells_av _ e.1]
   exact ⟨TV.plain_av _ e.1,h1,by rw [h2];simp only [erTs,List.map_map];rfl⟩
  ·exact h.elim
 | stt m o n ts =>
  simp only [semT] at h
  split at h
  ·obtain ⟨e,h⟩:=needT_holds h
   cases h
   simp only [Bool.and_eq_true] at e
   obtain ⟨⟨⟨e1,e2⟩,e3⟩,e4⟩:=e
   obtain ⟨h1,h2⟩:=nilsT_av e4
   rw [spliceT_av] at h1 h2
   simp only [TK.erase,sem,List.map_cons,TV.av,TV.avs_map,TV.cells_av _ e1,List.length_map]
   exact ⟨TV.plain_av _ e1,Nat.eq_of_beq_eq_true e2,Nat.le_of_ble_eq_true e3,h1,by rw [h2];simp only [erTs,List.map_map];rfl⟩
  ·exact h.elim
theorem cnds_all:∀{l:List TV},(∀q,cnds l=some q→q=true)→∀x∈l,∀q,x.cnd=some q→q=true
 | [],_,_,hx,_,_=>by cases hx
 | y :: r,h,x,hx,q,hq=>by
  simp only [cnds] at h
  rcases List.mem_cons.1 hx with rfl | hx
  ·rw [hq] at h
   cases e:cnds r with
   | none=>rw [e] at h;exact h _ rfl
   | some p=>rw [e] at h;exact (Bool.and_eq_true_iff.1 (h _ rfl)).1
  ·refine cnds_all (l:=r) ?_ x hx q hq
   intro p hp
   rw [hp] at h
   cases e:y.cnd with
   | none=>rw [e] at h;exact h _ rfl
   | some p'=>rw [e] at h;exact (Bool.and_eq_true_iff.1 (h _ rfl)).2
theorem underT_true {c:Bool} {q:Option Bool} {r:Res} {ws:List TV} (h:(underT c q r).holds ws) (hc:c=true):∃vs,r.holds vs∧ws=vs.map (.gd c)∧∀p,q=some p→p=true:=by
 subst hc
 cases r <;> cases q
 ·exact ⟨_,rfl,h,by simp⟩
 ·rename_i vs q
  obtain ⟨h1,rfl⟩:=h
  exact ⟨vs,rfl,rfl,by rintro _ ⟨⟩;simpa using h1⟩
 ·rename_i p vs
  obtain ⟨h1,rfl⟩:=h
  exact ⟨vs,⟨by simpa using h1,rfl⟩,rfl,by simp⟩
 ·rename_i p vs q
  obtain ⟨h1,rfl⟩:=h
  simp at h1
  exact ⟨vs,⟨h1.2,rfl⟩,rfl,by rintro _ ⟨⟩;exact h1.1⟩
 ·exact h.elim
 ·exact h.elim
theorem underT_false {c:Bool} {q:Option Bool} {r:Res} {ws:List TV} (h:(underT c q r).holds ws):∃vs:List TV,ws=vs.map (.gd c):=by
 cases r <;> cases q <;> first | exact ⟨_,h⟩ | exact ⟨_,h.2⟩ | exact h.elim
theorem lenT_holds {n:Nat} {r:Res} {ws:List TV} (h:(lenT n r).holds ws):r.holds ws∧ws.length=n:=by
 cases r with
 | ok vs=>obtain ⟨h1,h2⟩:=needT_holds h;cases h2;exact ⟨rfl,Nat.eq_of_beq_eq_true h1⟩
 | if_ p vs=>obtain ⟨h1,h2⟩:=needT_holds h;obtain ⟨h2,rfl⟩:=h2;exact ⟨⟨h2,rfl⟩,Nat.eq_of_beq_eq_true h1⟩
 | err=>exact h.elim
theorem guardT_ok {τ:TS} {t:Nat} {b c:Bool} (h:guardT τ t b=some c):guardV τ.av (some (t,b))=some c:=by
 unfold guardT at h
 simp only [guardV,TS.av]
 split at h
 ·rename_i x e;cases h;rw [e];cases b <;> cases x <;> rfl
 ·rename_i q x e;cases h;rw [e];cases q <;> cases b <;> cases x <;> rfl
 ·cases h
theorem bareT_av {k:TK} {vs:List TV} (h:∀p,cndT k vs=some p→p=true):(bareT k vs).map TV.av=vs.map TV.av:=by
 have base:(∀p,cnds vs=some p→p=true)→(vs.map TV.bare).map TV.av=vs.map TV.av:=fun h=>by
  rw [List.map_map];exact List.map_congr_left fun x hx=>TV.bare_av (cnds_all h x hx)
 unfold cndT at h
 unfold bareT
 split at h
 ·split at h
  ·simp only [List.map_cons];rw [TV.bare_av h]
  ·rfl
 ·exact base h
theorem stepT_ok {m:TOp} {τ:TS} {ws:List TV} (h:(stepT E m τ).holds ws):stepS E.env m.erase τ.av (setT τ m.ds ws).av:=by
 unfold stepT at h
 have hev:∀l:List TOpd,(l.map TOpd.erase).map (Opd.ev E.env τ.av)=(l.map (TOpd.ev E τ)).map TV.av:=by
  intro l;simp only [List.map_map];exact List.map_congr_left fun x _=>TOpd.ev_av E τ x
 cases hg:m.gd with
 | none =>
  rw [hg] at h
  obtain ⟨h1,h2⟩:=lenT_holds h
  refine ⟨ws.map TV.av,?_,by simpa [TOp.erase] using h2,setT_av _ _ _⟩
  simp only [TOp.erase,hg,guardV,hev]
  exact semT_ok h1
 | some q =>
  obtain ⟨t,b⟩:=q
  rw [hg] at h
  simp only at h
  cases hc:guardT τ t b with
  | none=>rw [hc] at h;exact h.elim
  | some c =>
   rw [hc] at h
   obtain ⟨h1,h2⟩:=lenT_holds h
   refine ⟨ws.map TV.av,?_,by simpa [TOp.erase] using h2,setT_av _ _ _⟩
   simp only [TOp.erase,hg,guardT_ok hc]
   cases c with
   | true =>
    obtain ⟨vs,h3,rfl,h4⟩:=underT_true h1 rfl
    have e1:(vs.map (TV.gd true)).map TV.av=vs.map TV.av:=by simp only [List.map_map];exact List.map_congr_left fun x _=>rfl
    have e2:=bareT_av h4
    simp only [hev,e1,←e2]
    exact semT_ok h3
   | false =>
    obtain ⟨vs,rfl⟩:=underT_false h1
    simp only [List.map_map]
    apply List.ext_getElem?
    intro i
    simp only [List.length_map] at h2
    simp only [List.getElem?_map]
    by_cases hi:i<vs.length
    ·rw [List.getElem?_eq_getElem hi,List.getElem?_eq_getElem (by omega)];rfl
    ·rw [List.getElem?_eq_none (by omega),List.getElem?_eq_none (by omega)];rfl
theorem runT_ok {R:Type} {r:R} {K:TS→Option R}:∀{ms:List TOp} {τ:TS},runT E ms τ K=some r→∃τ':TS,runS E.env (ms.map TOp.erase) τ.av τ'.av∧K τ'=some r
 | [],τ,h=>⟨τ,rfl,h⟩
 | m :: ms,τ,h=>by
  simp only [runT] at h
  cases hs:stepT E m τ with
  | ok ws =>
   rw [hs] at h
   obtain ⟨τ',h1,h2⟩:=runT_ok h
   exact ⟨τ',⟨_,stepT_ok (ws:=ws) (by rw [hs];rfl),h1⟩,h2⟩
  | if_ p ws =>
   rw [hs] at h
   obtain ⟨hp,h⟩:=ck_some.1 h
   obtain ⟨τ',h1,h2⟩:=runT_ok h
   exact ⟨τ',⟨_,stepT_ok (ws:=ws) (by rw [hs];exact ⟨hp,rfl⟩),h1⟩,h2⟩
  | err=>rw [hs] at h;cases h
theorem restr_le (keep:Option (List Nat)) (τ:TS):Le (restr keep τ).av τ.av:=by
 cases keep with
 | none=>exact fun _ => .inl rfl
 | some ks =>
  intro k
  have:∀ks:List Nat,headT ks (ks.map τ) k=τ k∨headT ks (ks.map τ) k = .dead:=by
   intro ks
   induction ks with
   | nil=>exact .inr rfl
   | cons j ks ih =>
    simp only [headT,List.map_cons,setT] at ih ⊢
    cases h:Nat.beq k j with
    | true=>left;rw [Nat.eq_of_beq_eq_true h];rfl
    | false=>exact ih
  rcases this ks with e | e
  ·left;simp only [TS.av,restr,e]
  ·right;simp only [TS.av,restr,e];rfl
theorem agr_map (σ:Sg):∀keep:List Nat,Agr σ keep (keep.map σ)
 | []=>trivial
 | k :: ks=>⟨rfl,agr_map σ ks⟩
theorem ev_ok {R:Type} {r:R} {m:TM}:∀{τ:TS} {K:Cont R},evO R E m τ K=some r→wpm E.env m.erase (fun e σ=>∃τ':TS,σ=τ'.av∧K e τ'=some r) τ.av:=by
 induction m with
 | skip=>exact fun h=>⟨_,rfl,h⟩
 | reg ops =>
  intro τ K h
  obtain ⟨τ',h1,h2⟩:=runT_ok (E:=E) h
  exact ⟨_,h1,τ',rfl,h2⟩
 | seq a keep b iha ihb =>
  intro τ K h
  show wpm E.env a.erase _ τ.av
  refine wpm_mono (m:=a.erase) (Q:=fun e σ=>∃τ':TS,σ=τ'.av∧seqK (evO R E b) keep K e τ'=some r) (fun e σ q=>?_) (iha h)
  obtain ⟨τ',rfl,q⟩:=q
  cases e with
  | normal=>exact ⟨_,restr_le keep τ',ihb q⟩
  | exit i=>exact ⟨τ',rfl,q⟩
  | ret=>exact ⟨τ',rfl,q⟩
 | cond x G a b iha ihb =>
  intro τ K h
  have h:(match x.ev E τ with | .b t=>cond t (evO R E a τ K) (evO R E b τ K) | _=>none)=some r:=h
  split at h
  ·rename_i t e
   refine .inl ⟨t,by rw [TOpd.ev_av,e];rfl,?_,?_⟩
   ·rintro rfl;exact iha h
   ·rintro rfl;exact ihb h
  ·cases h
 | block id G b ih =>
  intro τ K h
  show wpm E.env b.erase _ τ.av
  refine wpm_mono (m:=b.erase) (Q:=fun e σ=>∃τ':TS,σ=τ'.av∧blockK id K e τ'=some r) (fun e σ q=>?_) (ih h)
  obtain ⟨τ',rfl,q⟩:=q
  cases e with
  | normal=>exact ⟨τ',rfl,q⟩
  | exit i =>
   simp only [blockK] at q ⊢
   cases hb:Nat.beq i id with
   | true=>rw [hb] at q;rw [if_pos (Nat.eq_of_beq_eq_true hb)];exact ⟨τ',rfl,q⟩
   | false=>rw [hb] at q;rw [if_neg (Nat.ne_of_beq_eq_false hb)];exact ⟨τ',rfl,q⟩
  | ret=>exact ⟨τ',rfl,q⟩
 | loop keep G b ih =>
  intro τ K h
  have hl:=(lim_some (fun n r=>loopN_mono (ev_alg E b) n _ r)).1 h
  obtain ⟨n,hn⟩:=hl
  refine ⟨{ p:Nat × TS // loopN (evO R E b) isN keep p.1 (headT keep (keep.map p.2)) K=some r },fun p=>keep.map p.1.2.av,fun p=>p.1.1,⟨(n,τ),hn⟩,agr_map _ keep,?_⟩
  rintro ⟨⟨n,τ⟩,hn⟩
  cases n with
  | zero=>cases hn
  | succ n =>
   simp only [loopN] at hn
   have e:head keep (keep.map τ.av)=(headT keep (keep.map τ)).av:=by rw [headT_av,List.map_map];rfl
   simp only
   rw [e]
   refine wpm_mono (fun e σ q=>?_) (ih hn)
   obtain ⟨τ',rfl,q⟩:=q
   cases e with
   | normal=>exact ⟨⟨(n,τ'),q⟩,Nat.lt_succ_self n,agr_map _ keep⟩
   | exit i=>exact ⟨τ',rfl,q⟩
   | ret=>exact ⟨τ',rfl,q⟩
 | exit id=>exact fun h=>⟨_,rfl,h⟩
 | ret=>exact fun h=>⟨_,rfl,h⟩
 | sco b ih=>exact fun h=>ih h
 | scp b ih=>exact fun h=>ih h
 | lab l keep G x b ihx ihb =>
  intro τ K h
  have key:∀{e:MX} {τ':TS},againK (evO R E x) (isG l) keep K e τ'=some r→(e = .exit (gid l)∧∃n,loopN (evO R E x) (isG l) keep n (headT keep (keep.map τ')) K=some r)∨(e ≠ .exit (gid l)∧K e τ'=some r):=by
   intro e τ' q
   simp only [againK] at q
   cases ht:isG l e with
   | true =>
    rw [ht] at q
    left
    cases e <;> simp only [isG,Bool.false_eq_true] at ht
    exact ⟨by rw [Nat.eq_of_beq_eq_true ht],(lim_some (fun n r=>loopN_mono (ev_alg E x) n _ r)).1 q⟩
   | false =>
    rw [ht] at q
    refine .inr ⟨?_,q⟩
    rintro rfl
    simp [isG] at ht
  refine ⟨{ p:Nat × TS // loopN (evO R E x) (isG l) keep p.1 (headT keep (keep.map p.2)) K=some r },fun p=>keep.map p.1.2.av,fun p=>p.1.1,?_,?_⟩
  ·refine wpm_mono (fun e σ q=>?_) (ihb h)
   obtain ⟨τ',rfl,q⟩:=q
   rcases key q with ⟨rfl,n,hn⟩ | ⟨hne,q⟩
   ·simp only [if_true]
    exact ⟨⟨(n,τ'),hn⟩,agr_map _ keep⟩
   ·cases e with
    | exit j =>
     have:j≠gid l:=fun e=>hne (by rw [e])
     simp only [this,if_false]
     exact ⟨τ',rfl,q⟩
    | normal=>exact ⟨τ',rfl,q⟩
    | ret=>exact ⟨τ',rfl,q⟩
  ·rintro ⟨⟨n,τ⟩,hn⟩
   cases n with
   | zero=>cases hn
   | succ n =>
    simp only [loopN] at hn
    have e:head keep (keep.map τ.av)=(headT keep (keep.map τ)).av:=by rw [headT_av,List.map_map];rfl
    simp only
    rw [e]
    refine wpm_mono (fun e σ q=>?_) (ihx hn)
    obtain ⟨τ',rfl,q⟩:=q
    cases ht:isG l e with
    | true =>
     rw [ht] at q
     cases e <;> simp only [isG,Bool.false_eq_true] at ht
     rw [Nat.eq_of_beq_eq_true ht]
     simp only [if_true]
     exact ⟨⟨(n,τ'),q⟩,Nat.lt_succ_self n,agr_map _ keep⟩
    | false =>
     rw [ht] at q
     cases e with
     | exit j =>
      have:j≠gid l:=fun e=>by subst e;simp [isG] at ht
      simp only [this,if_false]
      exact ⟨τ',rfl,q⟩
     | normal=>exact ⟨τ',rfl,q⟩
     | ret=>exact ⟨τ',rfl,q⟩
end
structure TFD where
 np:Nat
 m:TM
 ref:Option (Nat × Nat):=none
 tips:List (Nat × (Nat × Nat)):=[]
 res:List RV
 own:List (Nat × Nat):=[]
 new:Option (Nat × Nat):=none
 tnew:List (Nat × Nat):=[]
 ps:Option (Nat × (Nat × Nat)):=none
def TFD.erase (d:TFD):FD:={ np:=d.np,m:=d.m.erase,ref:=d.ref,tips:=d.tips,res:=d.res,own:=d.own,new:=d.new,tnew:=d.tnew,ps:=d.ps }
def RV.getT (τ:TS):RV→Option TV
 | .t j=>some (τ j)
 | .c a m n agg=>match τ a,τ m with
  | .pt,.ag cs=>partT cs 0 n agg
  | _,_=>none
def outLT (τ:TS):List RV→Option (List TV)
 | []=>some []
 | r :: rs=>match r.getT τ with
  | some x=>match outLT τ rs with
   | some l=>some (x :: l)
   | none=>none
  | none=>none
def TV.isSl:TV→Bool
 | .sl _ _=>true
 | _=>false
def TV.isPt:TV→Bool
 | .pt=>true
 | _=>false
def TFD.outT (d:TFD) (τ:TS):Option (List TV) :=
 match outLT τ d.res with
 | some rs=>cond (d.own.all (fun q=>(rs.getD q.1 .dead).isSl)&&d.new.toList.all (fun q=>(rs.getD q.1 .dead).isPt)) (some (rs++d.new.toList.map (fun q=>τ q.2)++d.ref.toList.map (fun q=>τ q.2)++d.ps.toList.map (fun q=>τ (lk q.2.1)))) none
 | none=>none
def TFD.startT (d:TFD) (ins:List TV):TS :=
 match d.ref with
 | none=>match d.ps with
  | none=>headT (List.range d.np) ins
  | some (i,k,_)=>headT (lk k :: List.range d.np) (ins.getD i .dead :: ins.set i .pt)
 | some (i,m)=>headT (m :: List.range d.np) (ins.getD i .dead :: ins.set i .pt)
def endK (d:TFD):Cont (List TV):=fun e τ =>
 match e with
 | .exit _=>none
 | _=>d.outT τ
noncomputable def TFD.run (E:TEnv) (d:TFD) (ins:List TV):Option (List TV):=ev (List TV) E d.m (d.startT ins) (endK d)
theorem outLT_av {τ:TS}:∀{rs:List RV} {xs:List TV},outLT τ rs=some xs→outL τ.av rs=some (xs.map TV.av)
 | [],xs,h=>by cases h;rfl
 | r :: rs,xs,h=>by
  simp only [outLT] at h
  split at h
  ·rename_i x hx
   split at h
   ·rename_i l hl
    cases h
    have e:r.get τ.av=some x.av:=by
     cases r with
     | t j=>cases hx;rfl
     | c a m n agg =>
      simp only [RV.getT] at hx
      split at hx
      ·rename_i cs e1 e2
       simp only [RV.get,TS.av,e1,e2,TV.av,TV.avs_map]
       exact partT_av hx
      ·cases hx
    simp only [outL,e,outLT_av hl]
    rfl
   ·cases h
  ·cases h
theorem outT_av {d:TFD} {τ:TS} {outs:List TV} (h:d.outT τ=some outs):d.erase.OutS τ.av (outs.map TV.av):=by
 unfold TFD.outT at h
 split at h
 ·rename_i rs hrs
  cases hc:(d.own.all (fun q=>(rs.getD q.1 .dead).isSl)&&d.new.toList.all (fun q=>(rs.getD q.1 .dead).isPt)) with
  | false=>rw [hc] at h;cases h
  | true =>
   rw [hc] at h
   cases h
   simp only [Bool.and_eq_true,List.all_eq_true] at hc
   refine ⟨rs.map TV.av,outLT_av hrs,?_,?_,?_⟩
   ·intro q hq
    have:=hc.1 q hq
    rw [List.getElem?_map]
    rw [List.getD_eq_getElem?_getD] at this
    cases e:rs[q.1]? with
    | none=>rw [e] at this;cases this
    | some x =>
     rw [e] at this
     cases x <;> simp [TV.isSl] at this
     exact ⟨_,_,rfl⟩
   ·intro q hq
    have hq:d.new=some q:=hq
    have:=hc.2 q (by rw [hq];simp)
    rw [List.getElem?_map]
    rw [List.getD_eq_getElem?_getD] at this
    cases e:rs[q.1]? with
    | none=>rw [e] at this;cases this
    | some x =>
     rw [e] at this
     cases x <;> simp [TV.isPt] at this
     rfl
   ·simp only [List.map_append,List.map_map]
    rfl
 ·cases h
theorem startT_av (d:TFD) (ins:List TV):(d.startT ins).av=d.erase.start (ins.map TV.av):=by
 unfold TFD.startT FD.start
 have:d.erase.ref=d.ref:=rfl
 rw [this]
 have:d.erase.ps=d.ps:=rfl
 rw [this]
 cases d.ref with
 | none =>
  cases d.ps with
  | none=>exact headT_av _ _
  | some q =>
   obtain ⟨i,k,s⟩:=q
   simp only [headT_av,List.map_cons,List.map_set]
   congr 2
   simp only [List.getD_eq_getElem?_getD,List.getElem?_map]
   cases ins[i]? <;> rfl
 | some q =>
  obtain ⟨i,m⟩:=q
  simp only [headT_av,List.map_cons,List.map_set]
  congr 2
  simp only [List.getD_eq_getElem?_getD,List.getElem?_map]
  cases ins[i]? <;> rfl
theorem run_ok {E:TEnv} {d:TFD} {ins outs:List TV} (h:d.run E ins=some outs):d.erase.runs E.env (ins.map TV.av) (outs.map TV.av):=by
 have h:ev (List TV) E d.m (d.startT ins) (endK d)=some outs:=h
 rw [←ev_eq] at h
 have:=ev_ok h
 unfold FD.runs
 rw [←startT_av]
 refine wpm_mono (fun e σ q=>?_) this
 obtain ⟨τ',rfl,q⟩:=q
 cases e with
 | exit i=>cases q
 | normal=>exact outT_av q
 | ret=>exact outT_av q
theorem spec_of {P:Program} {E:TEnv} (hE:∀f,SpecOK P E.env.gl f (Ctr.fs (E.fs f))) {f:Nat} {fn:Func} {d:TFD} (hf:P.funcs[f]?=some fn)
  (hc:chkF P (fun n=>(E.fs n).2) fn d.erase=true) {c:Ctr} (hG:∀ins outs,(c ins).holds outs→ins.length=d.np∧d.run E ins=some (outs++d.ps.toList.map fun q=>ins.getD q.1 .dead)):SpecOK P E.env.gl f (Ctr.fs (c,d.erase.sg)):=by
 refine spec_ok (E:=E.env) (sg:=fun n=>(E.fs n).2) (fun n=>⟨hE n,rfl⟩) hf hc rfl ?_
 rintro ins outs ⟨ti,to_,rfl,rfl,h⟩
 obtain ⟨h1,h2⟩:=hG ti to_ h
 refine ⟨by simpa [TFD.erase] using h1,?_⟩
 have:=run_ok h2
 rw [List.map_append,List.map_map] at this
 have e:d.ps.toList.map (TV.av ∘ fun q=>ti.getD q.1 .dead)=d.erase.ps.toList.map fun q=>(ti.map TV.av).getD q.1 .dead:=by
  show _=d.ps.toList.map _
  refine List.map_congr_left fun q _=>?_
  simp only [Function.comp_apply,List.getD_eq_getElem?_getD,List.getElem?_map]
  cases ti[q.1]? <;> rfl
 rwa [e] at this
end Go.Eng
namespace Go.Eng
open Go.RowKit
def Old (w:World):Reach:=fun b _=>b<w.heap.size
theorem calls_of_spec {P:Program} {gl:Nat→AV} {f:Nat} {c:Ctr} {sg:FSig} (hsg:sg={}) (h:SpecOK P gl f (Ctr.fs (c,sg))) {ti:List TV} {xs:List Value} {w:World}
  (hgl:∀n,Rep (Old w) w (gl n) (.pointer (some ⟨n,0,none⟩))) (hc:(c ti).holds [.b true]) (ha:RepT (Old w) w (ti.map TV.av) xs) :
  Calls P f ⟨xs⟩ w fun e w'=>e = .returned (.bool true)∧Below w.heap.size w w':=by
 subst hsg
 refine (h.1 rfl w (Old w) (ti.map TV.av) [.v (.bool true)] xs ⟨ti,[.b true],rfl,rfl,hc⟩ (fun b o hb=>hb) hgl ha).mono ?_
 rintro e w' ⟨x,R',rfl,hx,hr,ho⟩
 obtain ⟨rvs,tr,to_,tn,bn,br,cn,cr,h1,h2,h3,h4,_⟩:=ho
 refine ⟨?_,hx.os,hx.tape,hx.output,hx.size,fun k hk=>hx.heap k hk id⟩
 congr 1
 rw [h2]
 have h1:rvs.length=1:=h1
 match rvs,h1 with
 | [y],_ =>
  have h4:RepT R' w' [.v (.bool true)] [y]:=h4
  cases h4 with
  | cons a _=>cases a;rfl
theorem u8_wf {n:Int} (h:(Lit.int .u8 n).wf=true):((UInt8.ofInt n).toNat:Int)=n:=by
 have hx:0≤n∧n≤255:=by simpa [Lit.wf,IntKind.min,IntKind.max,IntKind.signed,IntKind.bits] using h
 rw [u8_ofInt,wrap_u8'];omega
theorem rep_int {R:Reach} {w:World} (k:IntKind) (n:Int):Rep R w (TV.av (.i k n)) (.int k n) := .v _
def noCtr:Ctr × FSig:=(fun _ => .err,{})
theorem spec_none {P:Program} {gl:Nat→AV} {f:Nat}:SpecOK P gl f (Ctr.fs noCtr):=by
 refine ⟨fun _=>?_,fun i s hps=>by cases hps⟩
 intro w R ins outs xs hg
 obtain ⟨ti,to_,_,_,h⟩:=hg
 exact h.elim
def envL (gl:Nat→TV) (l:List (Nat × (Ctr × FSig))):TEnv:=⟨fun n=>look l n,gl⟩
where look:List (Nat × (Ctr × FSig))→Nat→Ctr × FSig
 | [],_=>noCtr
 | (k,c) :: r,n=>cond (Nat.beq n k) c (look r n)
theorem env_ok {P:Program} {gl:Nat→TV} {l:List (Nat × (Ctr × FSig))} (h:∀p∈l,SpecOK P (fun n=>(gl n).av) p.1 (Ctr.fs p.2)):∀f,SpecOK P (envL gl l).env.gl f (Ctr.fs ((envL gl l).fs f)):=by
 intro f
 show SpecOK P (fun n=>(gl n).av) f (Ctr.fs (envL.look l f))
 induction l with
 | nil=>exact spec_none
 | cons p r ih =>
  obtain ⟨k,c⟩:=p
  simp only [envL.look]
  cases hb:Nat.beq f k with
  | true=>rw [Nat.eq_of_beq_eq_true hb];exact h (k,c) (List.mem_cons_self ..)
  | false=>exact ih fun q hq=>h q (List.mem_cons_of_mem _ hq)
def noGl:Nat→TV:=fun _ => .dead
theorem meets {P:Program} {gl:Nat→TV} {l:List (Nat × (Ctr × FSig))} (hE:∀p∈l,SpecOK P (fun n=>(gl n).av) p.1 (Ctr.fs p.2)) {f:Nat} {d:TFD}
  (hc:((P.funcs[f]?).any fun fn=>chkF P (fun n=>((envL gl l).fs n).2) fn d.erase)=true) {c:Ctr} (hG:∀ins outs,(c ins).holds outs→ins.length=d.np∧d.run (envL gl l) ins=some (outs++d.ps.toList.map fun q=>ins.getD q.1 .dead)) :
  SpecOK P (fun n=>(gl n).av) f (Ctr.fs (c,d.erase.sg)):=by
 cases hf:P.funcs[f]? with
 | none=>rw [hf] at hc;cases hc
 | some fn =>
  rw [hf] at hc
  exact spec_of (E:=envL gl l) (env_ok hE) hf hc hG
theorem all_nil {A:Type} {p:A→Prop}:∀x∈([]:List A),p x:=fun _ h=>by cases h
theorem all_cons {A:Type} {p:A→Prop} {a:A} {l:List A} (h:p a) (t:∀x∈l,p x):∀x∈a :: l,p x:=fun x hx=>by
 rcases List.mem_cons.1 hx with rfl | hx
 ·exact h
 ·exact t x hx
end Go.Eng
namespace Go.Eng
open Go.RowKit
theorem spec_sub {P:Program} {gl:Nat→AV} {f:Nat} {sg:FSig} {c':Ctr} (h:∀ti to_,(c' ti).holds to_→∃c:Ctr,SpecOK P gl f (Ctr.fs (c,sg))∧(c ti).holds to_):SpecOK P gl f (Ctr.fs (c',sg)):=by
 refine ⟨fun hps w R ins outs xs hG h1 h2 h3=>?_,fun i s hps w R ins outs xs v es hG h1 h2 h3 h4 h5 h6 h7=>?_⟩
 ·obtain ⟨ti,to_,e1,e2,hc⟩:=hG
  obtain ⟨c,hs,hc⟩:=h ti to_ hc
  exact hs.1 hps w R ins outs xs ⟨ti,to_,e1,e2,hc⟩ h1 h2 h3
 ·obtain ⟨ti,to_,e1,e2,hc⟩:=hG
  obtain ⟨c,hs,hc⟩:=h ti to_ hc
  exact hs.2 i s hps w R ins outs xs v es ⟨ti,to_,e1,e2,hc⟩ h1 h2 h3 h4 h5 h6 h7
theorem spec_zero {P:Program} {gl:Nat→AV} {f:Nat} {sg:FSig} {c:Ctr} (h:∀ti to_,¬(c ti).holds to_):SpecOK P gl f (Ctr.fs (c,sg)) :=
 ⟨fun _ _ _ _ _ _ hG=>by obtain ⟨_,_,_,_,hc⟩:=hG;exact (h _ _ hc).elim,fun _ _ _ _ _ _ _ _ _ _ hG=>by obtain ⟨_,_,_,_,hc⟩:=hG;exact (h _ _ hc).elim⟩
theorem lk_eq (j k:Nat):(lk j=lk k)=(j=k):=propext ⟨lk_inj,fun e=>by rw [e]⟩
theorem lk_ne {k n:Nat} (h:n<1000000):(lk k=n)=False:=by have:=lk_ge k;simp;omega
theorem lk_ne' {k n:Nat} (h:n<1000000):(n=lk k)=False:=by have:=lk_ge k;simp;omega
section
variable {E:Env} {Q:MX→Sg→Prop} {σ:Sg}
theorem rg {m:MOp} {ms:List MOp} {ws:List AV} (hg:m.gd=none) (hs:sem E m.k (m.rs.map (Opd.ev E σ)) ws) (hl:ws.length=m.ds.length) (h:wpm E (.reg ms) Q (updL σ m.ds ws)):wpm E (.reg (m :: ms)) Q σ:=by
 obtain ⟨σ',h1,h2⟩:=h
 refine ⟨σ',⟨updL σ m.ds ws,⟨ws,?_,hl,rfl⟩,h1⟩,h2⟩
 rw [hg];exact hs
theorem rg_end (h:Q .normal σ):wpm E (.reg []) Q σ:=⟨σ,rfl,h⟩
theorem sq {a b:M} (h:wpm E a (fun e σ'=>match e with | .normal=>wpm E b Q σ' | e=>Q e σ') σ):wpm E (.seq a b) Q σ:=by
 show wpm E a _ σ
 refine wpm_mono (fun e σ' q=>?_) h
 cases e with
 | normal=>exact ⟨σ',fun _ => .inl rfl,q⟩
 | exit i=>exact q
 | ret=>exact q
end
def clonePA (s:Nat):M := .seq (.reg [⟨.mv,[.s 0],[3],none⟩,⟨.pnl 999999,[.s 3,.s (lk 999999)],[4],none⟩]) (.cond (.s 4) [] (.seq (.reg [⟨.mv,[.c (.sl s [])],[2],none⟩]) .ret) .skip)
def clonePB (s b:Nat):M := .seq (.reg [⟨.blt s 0 102,[.s (lk 102)],[5,lk 102],none⟩,⟨.mv,[.s 0],[6],none⟩,
 ⟨.apq 102 103 999999 s b,[.s 5,.s 6,.s (lk 102),.s (lk 103),.s (lk 999999)],[7,lk 102,lk 103],none⟩,⟨.mv,[.s 7],[2],none⟩]) .ret
def clonePD (s b:Nat):FD:={ np:=1,m := .seq (.reg [⟨.mv,[.c (.sl s [])],[2],none⟩]) (.seq (clonePA s) (clonePB s b)),res:=[.t 2],ps:=some (0,999999,s) }
theorem cloneP_runs (E:Env) (s b:Nat) (es:List AV) (h1:es.length≤maxLen) (h2:es.length * b≤140737488355328):(clonePD s b).runs E [.sl s es] ([.sl s es]++[.sl s es]):=by
 have hB:∀σ:Sg,σ 0 = .pt→σ (lk 999999) = .sl s es→wpm E (clonePB s b) (fun e σ=>match e with | .exit _=>False | _=>(clonePD s b).OutS σ ([.sl s es]++[.sl s es])) σ:=by
  intro σ h0 h9
  refine sq (rg (ws:=[.sl s [],.dead]) rfl ⟨rfl,fun x hx=>(by cases hx),rfl⟩ rfl ?_)
  refine rg (ws:=[.pt]) rfl (by simp [sem,Opd.ev,updL,upd,lk_eq,lk_ne,lk_ne',h0]) rfl ?_
  refine rg (ws:=[.sl s es,.dead,.dead]) rfl ?_ rfl ?_
  ·simp [sem,Opd.ev,updL,upd,lk_eq,lk_ne,lk_ne',h9]
   exact ⟨h1,h2⟩
  refine rg (ws:=[.sl s es]) rfl rfl rfl ?_
  refine rg_end ?_
  refine ⟨[.sl s es],rfl,fun q hq=>(by cases hq),fun q hq=>(by cases hq),?_⟩
  simp [clonePD,updL,upd,lk_eq,lk_ne,lk_ne',h9]
 have hs0:(clonePD s b).start [.sl s es] 0 = .pt:=by simp [clonePD,FD.start,head,updL,upd,lk_eq,lk_ne,lk_ne',List.range,List.range.loop]
 have hs9:(clonePD s b).start [.sl s es] (lk 999999) = .sl s es:=by simp [clonePD,FD.start,head,updL,upd,lk_eq,lk_ne,lk_ne',List.range,List.range.loop]
 have go:∀σ:Sg,σ 0 = .pt→σ (lk 999999) = .sl s es→wpm E (clonePD s b).m (fun e σ=>match e with | .exit _=>False | _=>(clonePD s b).OutS σ ([.sl s es]++[.sl s es])) σ:=by
  intro σ h0 h9
  refine sq (rg (ws:=[.sl s []]) rfl rfl rfl (rg_end ?_))
  refine sq ?_
  refine sq (rg (ws:=[.pt]) rfl (by simp [sem,Opd.ev,updL,upd,h0]) rfl ?_)
  cases es with
  | nil =>
   refine rg (ws:=[.ab]) rfl (by simp [sem,Opd.ev,updL,upd,lk_eq,lk_ne,lk_ne',h9]) rfl (rg_end ?_)
   refine .inr ⟨rfl,?_,?_⟩
   ·refine sq (rg (ws:=[.sl s []]) rfl rfl rfl (rg_end ?_))
    refine ⟨[.sl s []],rfl,fun q hq=>(by cases hq),fun q hq=>(by cases hq),?_⟩
    simp [clonePD,updL,upd,lk_eq,lk_ne,lk_ne',h9]
   ·exact hB _ (by simp [updL,upd,h0]) (by simp [updL,upd,lk_eq,lk_ne,lk_ne',h9])
  | cons e es =>
   refine rg (ws:=[.v (.bool false)]) rfl (by simp [sem,Opd.ev,updL,upd,lk_eq,lk_ne,lk_ne',h9]) rfl (rg_end ?_)
   refine .inl ⟨false,rfl,fun h=>(by cases h),fun _=>?_⟩
   exact hB _ (by simp [updL,upd,h0]) (by simp [updL,upd,lk_eq,lk_ne,lk_ne',h9])
 exact go _ hs0 hs9
def cloneC (t:STy) (b:Nat):Ctr:=fun l=>match l with
 | [.sl t' l]=>if t'=t then .if_ (apOK l.length b) [.sl t' l] else .err
 | _ => .err
theorem cloneP_ok {P:Program} {gl:Nat→AV} {t:STy} {b f:Nat} (hc:((P.funcs[f]?).any fun fn=>chkF P (fun _=>{}) fn (clonePD t.size b))=true):SpecOK P gl f (Ctr.fs (cloneC t b,{ ps:=some (0,t.size) })):=by
 cases hf:P.funcs[f]? with
 | none=>rw [hf] at hc;cases hc
 | some fn =>
  rw [hf] at hc
  refine spec_ok (E:=⟨fun _=>Ctr.fs noCtr,gl⟩) (sg:=fun _=>{}) (fun n=>⟨spec_none,rfl⟩) hf hc rfl ?_
  rintro ins outs ⟨ti,to_,rfl,rfl,h⟩
  replace h:(cloneC t b ti).holds to_:=h
  unfold cloneC at h
  split at h
  ·rename_i t' l
   split at h
   ·rename_i e
    subst e
    obtain ⟨h1,rfl⟩:=h
    obtain ⟨h1,h2⟩:=apOK_iff.1 h1
    refine ⟨rfl,?_⟩
    exact cloneP_runs _ _ _ _ (by simpa using h1) (by simpa using h2)
   ·exact h.elim
  ·exact h.elim
end Go.Eng
namespace Go.Eng
open Go.RowKit
def Opens (P:Program) (n:Nat) (t:TypeId) (A:Type) (g:A→List AV):Prop :=
 ∀(H:Type) (enc:TypeId × Value→H) (w:World) (base:Nat) (spare:Nat→Bool) (held:Bool) (cs:List Value) (x:DataW H × List MemPlace),DataW.trod enc P w base spare held n t cs=some x→∃a:A,RepL (Old w) w (g a) cs
section
variable {P:Program} {n:Nat} {t:TypeId}
theorem opens_int {k:IntKind} (ht:P.underlying t=some (.int k)):Opens P n t Int fun m=>[.v (.int k m)]:=by
 intro H enc w base spare held cs x h
 obtain ⟨m,rfl,_,_⟩:=DataW.trod_int ht h
 exact ⟨m,.cons rfl (.v _) .nil⟩
theorem u64_wf {n:Int} (h:(Lit.int .u64 n).wf=true):((UInt64.ofInt n).toNat:Int)=n:=by
 have hx:0≤n∧n≤18446744073709551615:=by simpa [Lit.wf,IntKind.min,IntKind.max,IntKind.signed,IntKind.bits] using h
 have e:IntKind.u64.wrap n=n % (18446744073709551616:Nat):=by simp [IntKind.wrap,IntKind.bits,IntKind.signed]
 rw [u64_ofInt,e];omega
theorem opens_u64 (ht:P.underlying t=some (.int .u64)):Opens P n t UInt64 fun m=>[u64AV m]:=by
 intro H enc w base spare held cs x h
 obtain ⟨m,rfl,_,hw⟩:=DataW.trod_int ht h
 refine ⟨UInt64.ofInt m,.cons rfl ?_ .nil⟩
 rw [u64AV,u64_wf hw];exact .v _
theorem opens_u8 (ht:P.underlying t=some (.int .u8)):Opens P n t UInt8 fun m=>[byteAV m]:=by
 intro H enc w base spare held cs x h
 obtain ⟨m,rfl,_,hw⟩:=DataW.trod_int ht h
 refine ⟨UInt8.ofInt m,.cons rfl ?_ .nil⟩
 rw [byteAV,u8_wf hw];exact .v _
theorem opens_str (ht:P.underlying t=some .string):Opens P n t Str fun m=>[strAV m]:=by
 intro H enc w base spare held cs x h
 obtain ⟨m,rfl,_,_⟩:=DataW.trod_string ht h
 exact ⟨m.data.toList,.cons rfl (.v _) .nil⟩
theorem opens_slice {e:TypeId} {A:Type} {av:A→AV} {s:Nat} (ht:P.underlying t=some (.slice e)) (hs:P.cellsOf e=s) (hpos:0<s) (hav:∀a,(av a).cells.length=s) (he:∀m,m<n→Opens P m e A fun a=>(av a).cells):Opens P n t (List A) fun l=>[.sl s (l.map av)]:=by
 intro H enc w base spare held cs x h
 rcases DataW.trod_slice ht h with ⟨rfl,_⟩ | ⟨a,len,cap,elems,rest,m,rfl,rfl,_,_,h2,h3,h4,h5,_,_⟩
 ·exact ⟨[],.cons rfl (.nil _) .nil⟩
 ·by_cases h0:len=0
  ·subst h0;exact ⟨[],.cons rfl (.em _ h3) .nil⟩
  ·have get:∀i,i<len→∃ys,w.cells? base (a.add (i * s)) s=some ys∧∃y:A,RepL (Old w) w (av y).cells ys:=fun i hi=>by
    have:=h5 i hi
    rw [hs] at this
    have hlt:i<elems.length:=by omega
    rw [List.getElem?_eq_getElem hlt] at this
    obtain ⟨ys,h6,h7⟩:=Option.bind_eq_some_iff.1 this
    exact ⟨ys,h6,he m (Nat.lt_succ_self m) H enc w base spare held ys _ h7⟩
   have hspot:a.spot=none:=by
    obtain ⟨ys,h6,_⟩:=get 0 (by omega)
    obtain ⟨_,h7,h8⟩:=World.cells?_some h6
    have h9:=h8 0 hpos
    cases hy:ys[0]? with
    | none=>rw [List.getElem?_eq_none_iff] at hy;omega
    | some y=>rw [hy] at h9;simpa [Addr.add] using World.cell?_spot h9
   obtain ⟨b,off,spot⟩:=a
   simp only at hspot
   subst hspot
   have key:∀k i,i+k=len→∃l:List A,l.length=k∧RepE (Old w) w s (l.map av) b (off+i * s):=by
    intro k
    induction k with
    | zero=>exact fun i _=>⟨[],rfl,.nil _ _ _⟩
    | succ k ih =>
     intro i hi
     obtain ⟨l,hl,hE⟩:=ih (i+1) (by omega)
     obtain ⟨ys,h6,y,h7⟩:=get i (by omega)
     obtain ⟨_,h8,h9⟩:=World.cells?_some h6
     refine ⟨y :: l,by simp [hl],.cons (RepAt.write (hav y) h7 (fun j hj=>?_) (fun j z hz=>?_)) ?_⟩
     ·have h10:=h9 j hj
      have hjy:j<ys.length:=by omega
      rw [List.getElem?_eq_getElem hjy] at h10
      have hlt:b<w.heap.size:=by
       by_cases hlt:b<w.heap.size
       ·exact hlt
       ·have:w.heap[b]?=none:=Array.getElem?_eq_none (by omega)
        rw [addr_add,addr_add] at h10
        simp only [World.cell?,this] at h10
        cases h10
      exact hlt
     ·have hj:j<s:=by have:=(List.getElem?_eq_some_iff.1 hz).1;omega
      have h10:=h9 j hj
      rw [hz,addr_add,addr_add] at h10
      exact h10
     ·rw [show off+i * s+s=off+(i+1) * s by rw [Nat.succ_mul];omega];exact hE
   obtain ⟨l,hl,hE⟩:=key len 0 (by omega)
   refine ⟨l,.cons rfl (.sl (by simp [hl]) h2 h3 ?_) .nil⟩
   simpa using hE
def OpensRow (P:Program) (n:Nat) (fs:List (TypeId × Nat)) (off:Nat) (A:Type) (g:A→List AV):Prop :=
 ∀(H:Type) (enc:TypeId × Value→H) (w:World) (base:Nat) (spare:Nat→Bool) (held:Bool) (cs:List Value),(∀f∈fs,∃x:DataW H × List MemPlace,DataW.trod enc P w base spare held n f.1 ((cs.drop f.2).take (P.cellsOf f.1))=some x)→cs.length=off+(fs.map fun f=>P.cellsOf f.1).sum→∃a:A,RepL (Old w) w (g a) (cs.drop off)
theorem row_nil {off:Nat}:OpensRow P n [] off Unit fun _=>[]:=by
 intro H enc w base spare held cs _ hl
 refine ⟨(),?_⟩
 rw [List.drop_of_length_le (by simp at hl;omega)];exact .nil
theorem row_cons {t:TypeId} {fs:List (TypeId × Nat)} {off c:Nat} {A B:Type} {g:A→List AV} {g':B→List AV} (hc:P.cellsOf t=c) (h:Opens P n t A g) (hr:OpensRow P n fs (off+c) B g'):OpensRow P n ((t,off) :: fs) off (A × B) fun p=>g p.1++g' p.2:=by
 subst hc
 intro H enc w base spare held cs hx hl
 obtain ⟨x,h1⟩:=hx (t,off) (List.mem_cons_self ..)
 obtain ⟨a,ha⟩:=h H enc w base spare held _ x h1
 obtain ⟨b,hb⟩:=hr H enc w base spare held cs (fun f' hf'=>hx f' (List.mem_cons_of_mem _ hf')) (by simp only [List.map_cons,List.sum_cons] at hl;omega)
 refine ⟨(a,b),?_⟩
 have e:cs.drop off=(cs.drop off).take (P.cellsOf t)++cs.drop (off+P.cellsOf t):=by
  rw [←List.drop_drop];exact (List.take_append_drop _ _).symm
 rw [e];exact ha.append hb
theorem opens_struct {fs:Array Field} {l:List (TypeId × Nat)} {A B:Type} {g:A→List AV} {g':B→List AV} (ht:P.underlying t=some (.struct fs)) (hl:(fs.toList.map fun f=>(f.type,f.offset))=l) (hc:P.cellsOf t=(l.map fun f=>P.cellsOf f.1).sum) (hr:∀m,m<n→OpensRow P m l 0 A g) (f:A→B) (hf:∀a,g a=g' (f a)):Opens P n t B g':=by
 intro H enc w base spare held cs x h
 obtain ⟨xs,m,rfl,_,h1,h2,h3⟩:=DataW.trod_struct ht h
 obtain ⟨a,ha⟩:=hr m (Nat.lt_succ_self m) H enc w base spare held cs (fun p hp=>by
  rw [←hl] at hp
  obtain ⟨f,hf,rfl⟩:=List.mem_map.1 hp
  obtain ⟨i,hi⟩:=List.getElem?_of_mem hf
  have hlt:=(List.getElem?_eq_some_iff.1 hi).1
  have:=h3 i f (by simpa using hi)
  have hlt':i<xs.length:=by rw [h2];simpa using hlt
  rw [List.getElem?_eq_getElem hlt'] at this
  exact ⟨_,this⟩) (by rw [h1,hc];simp)
 exact ⟨f a,by rw [←hf];simpa using ha⟩
def fieldsOf (P:Program) (t:TypeId):Option (List (TypeId × Nat)):=match P.underlying t with
 | some (.struct fs)=>some (fs.toList.map fun f=>(f.type,f.offset))
 | _=>none
theorem fieldsOf_spec {l:List (TypeId × Nat)} (h:fieldsOf P t=some l):∃fs,P.underlying t=some (.struct fs)∧(fs.toList.map fun f=>(f.type,f.offset))=l:=by
 unfold fieldsOf at h
 split at h
 ·rename_i fs e;cases h;exact ⟨fs,e,rfl⟩
 ·cases h
structure ValTys (P:Program) (tv tf tk ti tu ts tb ty:TypeId):Prop where
 v:fieldsOf P tv=some [(ti,0),(tu,1),(tu,2),(tu,3),(ts,4),(ts,5),(ti,6),(tb,7),(tk,8)]
 f:fieldsOf P tf=some [(ts,0),(tv,1)]
 k:P.underlying tk=some (.slice tf)
 i:P.underlying ti=some (.int .i64)
 u:P.underlying tu=some (.int .u64)
 s:P.underlying ts=some .string
 b:P.underlying tb=some (.slice ty)
 y:P.underlying ty=some (.int .u8)
 cv:P.cellsOf tv=9
 cf:P.cellsOf tf=10
 ck:P.cellsOf tk=1
 ci:P.cellsOf ti=1
 cu:P.cellsOf tu=1
 cs:P.cellsOf ts=1
 cb:P.cellsOf tb=1
 cy:P.cellsOf ty=1
def Val.avs (v:Val):List AV:=(Val.cells v).map TV.av
theorem opens_bytes {y:TypeId} (ht:P.underlying t=some (.slice y)) (hy:P.underlying y=some (.int .u8)) (hc:P.cellsOf y=1):Opens P n t Str fun l=>[bytesAV l] :=
 opens_slice (av:=byteAV) ht hc (by omega) (fun _=>rfl) fun _ _=>opens_u8 hy
theorem ValTys.val {tv tf tk ti tu ts tb ty:TypeId} (T:ValTys P tv tf tk ti tu ts tb ty):∀n,Opens P n tv Val Val.avs∧Opens P n tf Fld fun f=>(fldAV f).cells:=by
 intro n
 induction n using Nat.strongRecOn with
 | _ n ih =>
  have hv:∀m,m≤n→(∀k,k<m→Opens P k tf Fld fun f=>(fldAV f).cells)→Opens P m tv Val Val.avs:=fun m hm ihf=>by
   obtain ⟨fs,h1,h2⟩:=fieldsOf_spec T.v
   have R:=fun (k:Nat) (hk:k<m)=>(row_cons (off:=0) T.ci (opens_int T.i) (row_cons T.cu (opens_u64 T.u) (row_cons T.cu (opens_u64 T.u) (row_cons T.cu (opens_u64 T.u) (row_cons T.cs (opens_str T.s) (row_cons T.cs (opens_str T.s) (row_cons T.ci (opens_int T.i) (row_cons T.cb (opens_bytes T.b T.y T.cy)
     (row_cons T.ck (opens_slice (av:=fldAV) T.k T.cf (by omega) (fun f=>by cases f;rfl) fun j hj=>ihf j (by omega)) row_nil)))))))):OpensRow P k _ 0 _ _)
   exact opens_struct h1 h2 (by simp [T.cv,T.ci,T.cu,T.cs,T.cb,T.ck]) R (fun a=>(⟨a.1,a.2.1,a.2.2.1,a.2.2.2.1,a.2.2.2.2.1,a.2.2.2.2.2.1,a.2.2.2.2.2.2.1,a.2.2.2.2.2.2.2.1,a.2.2.2.2.2.2.2.2.1⟩:Val)) (fun a=>rfl)
  refine ⟨hv n (Nat.le_refl n) fun k hk=>(ih k hk).2,?_⟩
  obtain ⟨fs,h1,h2⟩:=fieldsOf_spec T.f
  have R:=fun (k:Nat) (hk:k<n)=>(row_cons (off:=0) T.cs (opens_str T.s) (row_cons T.cv (hv k (by omega) fun j hj=>(ih j (by omega)).2) row_nil):OpensRow P k _ 0 _ _)
  exact opens_struct h1 h2 (by simp [T.cf,T.cv,T.cs]) R (fun a=>Fld.of a.1 a.2.1) (fun a=>by
   simp [fldAV,Fld.of,AV.cells,Val.avs,Val.cells,TV.av,fldsAV_map,STy.size,STy.av,strAV,iAV,u64AV,bytesAV])
theorem ValTys.rep {tv tf tk ti tu ts tb ty:TypeId} (T:ValTys P tv tf tk ti tu ts tb ty) {H:Type} {enc:TypeId × Value→H} {w:World} {base:Nat} {spare:Nat→Bool} {held:Bool} {cs:Array Value} {d:DataW H} {p:List MemPlace} (h:DataW.Trod enc P w base spare held tv (.agg cs) d p) :
  ∃v:Val,Rep (Old w) w (TV.av (.ag (Val.cells v))) (.agg cs):=by
 obtain ⟨n,h⟩:=h
 obtain ⟨v,hv⟩:=(T.val n).1 H enc w base spare held _ _ h
 refine ⟨v,?_⟩
 simp only [TV.av,TV.avs_map]
 exact .ag (by have hv:RepL (Old w) w (v.cells.map TV.av) _:=hv;simpa [Value.cells] using hv)
end
end Go.Eng
namespace Go.Eng
open Go.IntWalk
theorem ck_of {R:Type} {p:Bool} {x:Option R} (h:p=true):ck p x=x:=by rw [h];rfl
theorem ck4 (a b:Bool):(!a || (a&&(b || (a&&!b))))=true:=by cases a <;> cases b <;> rfl
theorem ck5 (a b:Bool):(!a || (a&&(!b || (a&&b))))=true:=by cases a <;> cases b <;> rfl
theorem maxLen_eq:maxLen=9223372036854775807:=by decide
theorem big_len {n:Nat} (h:n≤1099511627776):lenOK n=true:=lenOK_iff.2 (by rw [maxLen_eq];omega)
theorem big_ap {n b:Nat} (h:n * b≤140737488355328) (h2:n≤140737488355328):apOK n b=true:=apOK_iff.2 ⟨by rw [maxLen_eq];omega,h⟩
theorem idx_ok {n:Int} {l:Nat} (h0:0≤n) (h1:n<l):idxOK n l=true:=idxOK_iff.2 ⟨h0,h1⟩
theorem cut_ok {a b:Int} {l:Nat} (h0:0≤a) (h1:a≤b) (h2:b≤l):cutOK a b l=true:=cutOK_iff.2 ⟨h0,h1,h2⟩
theorem ofInt_nat64 (n:Nat):(BitVec.ofInt 64 (n:Int))=BitVec.ofNat 64 n:=by
 apply BitVec.eq_of_toNat_eq;rw [BitVec.toNat_ofInt,BitVec.toNat_ofNat];omega
theorem and_i64 (a b:Nat) (ha:a<9223372036854775808) (hb:b<9223372036854775808):intBitsV .and .i64 a b=((a &&& b:Nat):Int):=by
 have h1:a &&& b≤a:=Nat.and_le_left
 have e:intBitsV .and .i64 a b=IntKind.i64.wrap (((BitVec.ofInt 64 (a:Int) &&& BitVec.ofInt 64 (b:Int)).toNat:Nat):Int):=rfl
 rw [e,ofInt_nat64,ofInt_nat64,BitVec.toNat_and,BitVec.toNat_ofNat,BitVec.toNat_ofNat,Nat.mod_eq_of_lt (by omega),Nat.mod_eq_of_lt (by omega)]
 exact i64_in _ (by omega)
theorem or_lt {a b k:Nat} (ha:a<2 ^ k) (hb:b<2 ^ k):a ||| b<2 ^ k:=Nat.or_lt_two_pow ha hb
theorem or_i64 (a b:Nat) (ha:a<9223372036854775808) (hb:b<9223372036854775808):intBitsV .or .i64 a b=((a ||| b:Nat):Int):=by
 have h1:a ||| b<9223372036854775808:=or_lt (k:=63) (by simpa using ha) (by simpa using hb)
 have e:intBitsV .or .i64 a b=IntKind.i64.wrap (((BitVec.ofInt 64 (a:Int) ||| BitVec.ofInt 64 (b:Int)).toNat:Nat):Int):=rfl
 rw [e,ofInt_nat64,ofInt_nat64,BitVec.toNat_or,BitVec.toNat_ofNat,BitVec.toNat_ofNat,Nat.mod_eq_of_lt (by omega),Nat.mod_eq_of_lt (by omega)]
 exact i64_in _ (by omega)
theorem or_add {a b k:Nat} (hb:b<2 ^ k):(a * 2 ^ k) ||| b=a * 2 ^ k+b:=by
 rw [←Nat.shiftLeft_eq,Nat.shiftLeft_add_eq_or_of_lt hb]
theorem drop_cons {α:Type} {l:List α} {i:Nat} (hi:i<l.length) (d:α):l.drop i=l.getD i d :: l.drop (i+1):=by
 rw [List.drop_eq_getElem_cons hi,List.getD_eq_getElem?_getD,List.getElem?_eq_getElem hi];rfl
end Go.Eng
namespace Go.Eng
namespace Utf
def isRune (r:Int):Bool:=decide (0≤r∧r≤1114111∧(r<55296∨57343<r))
def cont:Nat→Nat→Str→Option Nat
 | r,0,_=>some r
 | _,_+1,[]=>none
 | r,k+1,c :: l=>if 128≤c.toNat∧c.toNat<192 then cont (r * 64+(c.toNat - 128)) k l else none
def multi (r more least:Nat) (l:Str):Int × Int :=
 match cont r more l with
 | some r=>if r<least∨isRune r=false then (0,0) else ((r:Int),(more+1:Int))
 | none=>(0,0)
def rune:Str→Int × Int
 | []=>(0,0)
 | c :: l =>
  if c.toNat<128 then ((c.toNat:Int),1)
  else if 192≤c.toNat∧c.toNat<224 then multi (c.toNat - 192) 1 128 l
  else if 224≤c.toNat∧c.toNat<240 then multi (c.toNat - 224) 2 2048 l
  else if 240≤c.toNat∧c.toNat<248 then multi (c.toNat - 240) 3 65536 l
  else (0,0)
def runeAt (b:Str) (i:Int):Int × Int:=if i<0∨(b.length:Int)≤i then (0,0) else rune (b.drop i.toNat)
def lookN:Nat→Str→Nat × Nat
 | 0,_=>(0,0)
 | n+1,l=>if (rune l).2=0 then (0,0) else let q:=lookN n (l.drop (rune l).2.toNat);(q.1+(rune l).2.toNat,q.2+1)
def look (l:Str):Nat × Nat:=lookN l.length l
def whole (l:Str):Bool:=decide ((look l).1=l.length)
def zero (l:Str):Bool:=l.contains 0
end Utf
end Go.Eng
namespace Go.Eng
mutual
def Fld.bulk:Fld→Nat
 | .mk n _ _ _ _ t m _ y ks=>1+n.length+t.length+m.length+y.length+Fld.bulks ks
def Fld.bulks:List Fld→Nat
 | []=>0
 | f :: r=>Fld.bulk f+Fld.bulks r
end
namespace Tree
def nameTable:List Str:=[[],[100,111,117,98,108,101],[115,116,114,105,110,103],[100,111,99,117,109,101,110,116],[97,114,114,97,121],[98,105,110,97,114,121],[117,110,100,101,102,105,110,101,100],[111,98,106,101,99,116,105,100],[98,111,111,108],[100,97,116,101],[110,117,108,108],[114,101,103,101,120],[112,111,105,110,116,101,114],[99,111,100,101],[115,121,109,98,111,108],[115,99,111,112,101,100],[105,110,116,51,50],[116,105,109,101,115,116,97,109,112],[105,110,116,54,52],[100,101,99,105,109,97,108]]
def name (k:Int):Str :=
 if k=127 then [109,97,120,107,101,121]
 else if k=255 then [109,105,110,107,101,121]
 else if k<0∨20≤k then []
 else nameTable.getD k.toNat []
def kinds:List Int:=[1,2,3,4,5,6,7,8,9,10,11,12,13,14,15,16,17,18,19,127,255]
def kind (s:Str):Int × Bool :=
 match kinds.find? (fun k=>decide (name k=s)) with
 | some k=>(k,true)
 | none=>(0,false)
def hasN (i:Nat) (k:Int):Bool :=
 match i with
 | 0=>decide (k∈[1,9,17,18,16,8])
 | 1=>decide (k=19)
 | 2=>decide (k∈[2,13,14,11,12,15])
 | 3=>decide (k=11)
 | 4=>decide (k=5)
 | 5=>decide (k∈[5,7,12])
 | _=>decide (k∈[3,4,15])
def fieldsOK (v:Val):Bool :=
 (hasN 0 v.kind || decide (v.bits=0))&&(hasN 1 v.kind || (decide (v.high=0)&&decide (v.low=0)))&&(hasN 2 v.kind || decide (v.text=[]))&&(hasN 3 v.kind || decide (v.more=[])) &&
 (hasN 4 v.kind || decide (v.sub=0))&&(hasN 5 v.kind || decide (v.bytes=[]))&&(hasN 6 v.kind || decide (v.kids=[])) &&
 (!decide (v.kind=16) || decide (v.bits<4294967296))&&(!decide (v.kind=8) || decide (v.bits<2))&&(decide (0≤v.sub)&&decide (v.sub≤255))&&(!(decide (v.kind=7) || decide (v.kind=12)) || decide (v.bytes.length=12))
def wholeT (s:Str) (plain:Bool):Bool:=Utf.whole s&&!(plain&&Utf.zero s)
def own (v:Val):Int :=
 if name v.kind=[] then 5
 else if fieldsOK v=false then 1
 else if wholeT v.text (decide (v.kind=11))=false∨wholeT v.more (decide (v.kind=11))=false then 4
 else 0
def ownN (v:Val) (n:Str):Int:=if own v≠0 then own v else if wholeT n true=false then 4 else 0
mutual
def chkF:Fld→List Int→List Int × Int
 | .mk n k b h l t m s y ks,p=>if ownN ⟨k,b,h,l,t,m,s,y,ks⟩ n≠0 then (p,ownN ⟨k,b,h,l,t,m,s,y,ks⟩ n) else chkL ks 0 p
def chkL:List Fld→Nat→List Int→List Int × Int
 | [],_,_=>([],0)
 | f :: r,i,p=>if (chkF f (p++[(i:Int)])).2≠0 then chkF f (p++[(i:Int)]) else chkL r (i+1) p
end
mutual
def count:Fld→Nat
 | .mk _ _ _ _ _ _ _ _ _ ks=>1+countL ks
def countL:List Fld→Nat
 | []=>0
 | f :: r=>count f+countL r
end
mutual
def depth:Fld→Nat
 | .mk _ k _ _ _ _ _ _ _ ks=>if k=3∨k=4∨k=15 then depthL ks+1 else 0
def depthL:List Fld→Nat
 | []=>0
 | f :: r=>max (depth f) (depthL r)
end
noncomputable def same (a b:Val):Bool:=@decide (a=b) (Classical.propDecidable _)
end Tree
namespace Book
def room (left:Int):List Int→Int
 | []=>left
 | s :: r=>if left<0∨left<s then -1 else room (left - s) r
mutual
def value (left:Int):Fld→Int
 | .mk _ _ _ _ _ t m _ y ks=>values (room left [2,t.length,m.length,y.length]) ks
def values (left:Int):List Fld→Int
 | []=>left
 | f :: r=>if left<0 then left else values (value (room left [(f.name.length:Int)]) f) r
end
end Book
end Go.Eng
namespace Go.Eng
namespace Tree
mutual
def paths:Fld→List Int→List (List Int)
 | .mk _ _ _ _ _ _ _ _ _ ks,p=>p :: pathsL ks 0 p
def pathsL:List Fld→Nat→List Int→List (List Int)
 | [],_,_=>[]
 | f :: r,i,p=>paths f (p++[(i:Int)])++pathsL r (i+1) p
end
def within:List Int→Val→Bool
 | [],_=>true
 | i :: r,v=>decide (0≤i∧i.toNat<v.kids.length)&&within r (v.kids.getD i.toNat (STy.dflt .fl)).val
def put:List Int→Val→Val→Val
 | [],_,x=>x
 | i :: r,v,x=>⟨v.kind,v.bits,v.high,v.low,v.text,v.more,v.sub,v.bytes,v.kids.set i.toNat (Fld.of (v.kids.getD i.toNat (STy.dflt .fl)).name (put r (v.kids.getD i.toNat (STy.dflt .fl)).val x))⟩
end Tree
end Go.Eng
namespace Go.Eng
noncomputable section
def utf_is.sg:FSig:={}
def utf_is.c:Ctr:=fun l=>match l with
 | [.i .i64 r] => .ok [(.b (Utf.isRune r))]
 | _ => .err
def utf_Rune.sg:FSig:={ nres:=2 }
def utf_Rune.c:Ctr:=fun l=>match l with
 | [.sl .bs b,.i .i64 at_] => .if_ (decide (b.length≤1099511627776)) [(.i .i64 ((Utf.runeAt b at_).1)),(.i .i64 ((Utf.runeAt b at_).2))]
 | _ => .err
def utf_look.sg:FSig:={ nres:=2 }
def utf_look.c:Ctr:=fun l=>match l with
 | [.sl .bs b] => .if_ (decide (b.length≤1099511627776)) [(.i .i64 (((Utf.look b).1:Int))),(.i .i64 (((Utf.look b).2:Int)))]
 | _ => .err
def utf_Check.sg:FSig:={ nres:=2 }
def utf_Check.c:Ctr:=fun l=>match l with
 | [.sl .bs b] => .if_ (decide (b.length≤1099511627776)) [(.i .i64 (((Utf.look b).1:Int))),(.b (Utf.whole b))]
 | _ => .err
def ref2_Rune.sg:FSig:={ nres:=2 }
def ref2_Rune.c:Ctr:=fun l=>match l with
 | [.sl .bs b,.i .i64 at_] => .if_ (decide (b.length≤1099511627776)) [(.i .i64 ((Utf.runeAt b at_).1)),(.i .i64 ((Utf.runeAt b at_).2))]
 | _ => .err
def ref2_Check.sg:FSig:={ nres:=2 }
def ref2_Check.c:Ctr:=fun l=>match l with
 | [.sl .bs b] => .if_ (decide (b.length≤1099511627776)) [(.i .i64 (((Utf.look b).1:Int))),(.b (Utf.whole b))]
 | _ => .err
def ref2_Whole.sg:FSig:={}
def ref2_Whole.c:Ctr:=fun l=>match l with
 | [.s s] => .if_ (decide (s.length≤1099511627776)) [(.b (Utf.whole s))]
 | _ => .err
def ref2_Zero.sg:FSig:={}
def ref2_Zero.c:Ctr:=fun l=>match l with
 | [.s s] => .if_ (decide (s.length≤1099511627776)) [(.b (Utf.zero s))]
 | _ => .err
def sl_IndexByte.sg:FSig:={}
def sl_IndexByte.c:Ctr:=fun l=>match l with
 | [.s s,.u8 c] => .ok [(.i .i64 (Lib.indexByte s c))]
 | _ => .err
def sl_Index.sg:FSig:={}
def sl_Index.c:Ctr:=fun l=>match l with
 | [.s s,.s t] => .if_ (decide (t.length=1)) [(.i .i64 (Lib.indexByte s (t.getD 0 0)))]
 | _ => .err
def st_Index.sg:FSig:={}
def st_Index.c:Ctr:=fun l=>match l with
 | [.s s,.s t] => .if_ (decide (t.length=1)) [(.i .i64 (Lib.indexByte s (t.getD 0 0)))]
 | _ => .err
def st_Contains.sg:FSig:={}
def st_Contains.c:Ctr:=fun l=>match l with
 | [.s s,.s t] => .if_ (decide (t.length=1)) [(.b (decide (0≤Lib.indexByte s (t.getD 0 0))))]
 | _ => .err
def clone_is.sg:FSig:={ ps:=some (0,1) }
def clone_is.c:Ctr:=cloneC .is 8
def tree_Name.sg:FSig:={}
def tree_Name.c:Ctr:=fun l=>match l with
 | [.i .i64 k] => .ok [(.s (Tree.name k))]
 | _ => .err
def tree_fields.sg:FSig:={}
def tree_fields.c:Ctr:=fun l=>match l with
 | [.ag [.i .i64 v_kind,.u64 v_bits,.u64 v_high,.u64 v_low,.s v_text,.s v_more,.i .i64 v_sub,.sl .bs v_bytes,.sl .fl v_kids]] => .ok [(.b (Tree.fieldsOK (Val.mk v_kind v_bits v_high v_low v_text v_more v_sub v_bytes v_kids)))]
 | _ => .err
def tree_whole.sg:FSig:={}
def tree_whole.c:Ctr:=fun l=>match l with
 | [.s s,.b plain] => .if_ (decide (s.length≤1099511627776)) [(.b (Tree.wholeT s plain))]
 | _ => .err
def tree_check.sg:FSig:={ nres:=2,ps:=some (2,1) }
def tree_check.c:Ctr:=fun l=>match l with
 | [.ag [.i .i64 v_kind,.u64 v_bits,.u64 v_high,.u64 v_low,.s v_text,.s v_more,.i .i64 v_sub,.sl .bs v_bytes,.sl .fl v_kids],.s name,.sl .is path] => .if_ (decide (Fld.bulk (Fld.of name (Val.mk v_kind v_bits v_high v_low v_text v_more v_sub v_bytes v_kids))+path.length≤1099511627776)) [(.sl .is ((Tree.chkF (Fld.of name (Val.mk v_kind v_bits v_high v_low v_text v_more v_sub v_bytes v_kids)) path).1)),(.i .i64 ((Tree.chkF (Fld.of name (Val.mk v_kind v_bits v_high v_low v_text v_more v_sub v_bytes v_kids)) path).2))]
 | _ => .err
def tree_check.cn (n:Nat):Ctr:=fun l=>match l with
 | [.ag [.i .i64 v_kind,.u64 v_bits,.u64 v_high,.u64 v_low,.s v_text,.s v_more,.i .i64 v_sub,.sl .bs v_bytes,.sl .fl v_kids],.s name,.sl .is path] => .if_ ((decide (Fld.bulk (Fld.of name (Val.mk v_kind v_bits v_high v_low v_text v_more v_sub v_bytes v_kids))+path.length≤1099511627776))&&decide ((Fld.bulk (Fld.of name (Val.mk v_kind v_bits v_high v_low v_text v_more v_sub v_bytes v_kids)))<n)) [(.sl .is ((Tree.chkF (Fld.of name (Val.mk v_kind v_bits v_high v_low v_text v_more v_sub v_bytes v_kids)) path).1)),(.i .i64 ((Tree.chkF (Fld.of name (Val.mk v_kind v_bits v_high v_low v_text v_more v_sub v_bytes v_kids)) path).2))]
 | _ => .err
def tree_Check.sg:FSig:={ nres:=2 }
def tree_Check.c:Ctr:=fun l=>match l with
 | [.ag [.i .i64 v_kind,.u64 v_bits,.u64 v_high,.u64 v_low,.s v_text,.s v_more,.i .i64 v_sub,.sl .bs v_bytes,.sl .fl v_kids]] => .if_ (decide (Fld.bulk (Fld.of [] (Val.mk v_kind v_bits v_high v_low v_text v_more v_sub v_bytes v_kids))≤1099511627776)) [(.sl .is ((Tree.chkF (Fld.of [] (Val.mk v_kind v_bits v_high v_low v_text v_more v_sub v_bytes v_kids)) []).1)),(.i .i64 ((Tree.chkF (Fld.of [] (Val.mk v_kind v_bits v_high v_low v_text v_more v_sub v_bytes v_kids)) []).2))]
 | _ => .err
def tree_Depth.sg:FSig:={}
def tree_Depth.c:Ctr:=fun l=>match l with
 | [.ag [.i .i64 v_kind,.u64 v_bits,.u64 v_high,.u64 v_low,.s v_text,.s v_more,.i .i64 v_sub,.sl .bs v_bytes,.sl .fl v_kids]] => .if_ (decide (Fld.bulk (Fld.of [] (Val.mk v_kind v_bits v_high v_low v_text v_more v_sub v_bytes v_kids))≤1099511627776)) [(.i .i64 ((Tree.depth (Fld.of [] (Val.mk v_kind v_bits v_high v_low v_text v_more v_sub v_bytes v_kids)):Int)))]
 | _ => .err
def tree_Depth.cn (n:Nat):Ctr:=fun l=>match l with
 | [.ag [.i .i64 v_kind,.u64 v_bits,.u64 v_high,.u64 v_low,.s v_text,.s v_more,.i .i64 v_sub,.sl .bs v_bytes,.sl .fl v_kids]] => .if_ ((decide (Fld.bulk (Fld.of [] (Val.mk v_kind v_bits v_high v_low v_text v_more v_sub v_bytes v_kids))≤1099511627776))&&decide ((Fld.bulk (Fld.of [] (Val.mk v_kind v_bits v_high v_low v_text v_more v_sub v_bytes v_kids)))<n)) [(.i .i64 ((Tree.depth (Fld.of [] (Val.mk v_kind v_bits v_high v_low v_text v_more v_sub v_bytes v_kids)):Int)))]
 | _ => .err
def ref17_kinds.sg:FSig:={}
def ref17_kinds.c:Ctr:=fun l=>match l with
 | [] => .ok [(.sl .is (Tree.kinds))]
 | _ => .err
def ref17_Name.sg:FSig:={}
def ref17_Name.c:Ctr:=fun l=>match l with
 | [.i .i64 k] => .ok [(.s (Tree.name k))]
 | _ => .err
def ref17_has.sg:FSig:={ nres:=7 }
def ref17_has.c:Ctr:=fun l=>match l with
 | [.i .i64 k] => .ok [(.b (Tree.hasN 0 k)),(.b (Tree.hasN 1 k)),(.b (Tree.hasN 2 k)),(.b (Tree.hasN 3 k)),(.b (Tree.hasN 4 k)),(.b (Tree.hasN 5 k)),(.b (Tree.hasN 6 k))]
 | _ => .err
def ref17_own.sg:FSig:={}
def ref17_own.c:Ctr:=fun l=>match l with
 | [.ag [.i .i64 v_kind,.u64 v_bits,.u64 v_high,.u64 v_low,.s v_text,.s v_more,.i .i64 v_sub,.sl .bs v_bytes,.sl .fl v_kids]] => .if_ (decide (Fld.bulk (Fld.of [] (Val.mk v_kind v_bits v_high v_low v_text v_more v_sub v_bytes v_kids))≤1099511627776)) [(.i .i64 (Tree.own (Val.mk v_kind v_bits v_high v_low v_text v_more v_sub v_bytes v_kids)))]
 | _ => .err
def ref17_Named.sg:FSig:={}
def ref17_Named.c:Ctr:=fun l=>match l with
 | [.s s] => .if_ (decide (s.length≤1099511627776)) [(.b (Tree.wholeT s true))]
 | _ => .err
def ref17_longer.sg:FSig:={}
def ref17_longer.c:Ctr:=fun l=>match l with
 | [.sl .is p,.i .i64 k] => .if_ (decide (p.length≤1099511627776)) [(.sl .is ((p++[k])))]
 | _ => .err
def ref17_check.sg:FSig:={ nres:=2 }
def ref17_check.c:Ctr:=fun l=>match l with
 | [.ag [.i .i64 v_kind,.u64 v_bits,.u64 v_high,.u64 v_low,.s v_text,.s v_more,.i .i64 v_sub,.sl .bs v_bytes,.sl .fl v_kids],.s name,.sl .is p] => .if_ (decide (Fld.bulk (Fld.of name (Val.mk v_kind v_bits v_high v_low v_text v_more v_sub v_bytes v_kids))+p.length≤1099511627776)) [(.sl .is ((Tree.chkF (Fld.of name (Val.mk v_kind v_bits v_high v_low v_text v_more v_sub v_bytes v_kids)) p).1)),(.i .i64 ((Tree.chkF (Fld.of name (Val.mk v_kind v_bits v_high v_low v_text v_more v_sub v_bytes v_kids)) p).2))]
 | _ => .err
def ref17_check.cn (n:Nat):Ctr:=fun l=>match l with
 | [.ag [.i .i64 v_kind,.u64 v_bits,.u64 v_high,.u64 v_low,.s v_text,.s v_more,.i .i64 v_sub,.sl .bs v_bytes,.sl .fl v_kids],.s name,.sl .is p] => .if_ ((decide (Fld.bulk (Fld.of name (Val.mk v_kind v_bits v_high v_low v_text v_more v_sub v_bytes v_kids))+p.length≤1099511627776))&&decide ((Fld.bulk (Fld.of name (Val.mk v_kind v_bits v_high v_low v_text v_more v_sub v_bytes v_kids)))<n)) [(.sl .is ((Tree.chkF (Fld.of name (Val.mk v_kind v_bits v_high v_low v_text v_more v_sub v_bytes v_kids)) p).1)),(.i .i64 ((Tree.chkF (Fld.of name (Val.mk v_kind v_bits v_high v_low v_text v_more v_sub v_bytes v_kids)) p).2))]
 | _ => .err
def ref17_Check.sg:FSig:={ nres:=2 }
def ref17_Check.c:Ctr:=fun l=>match l with
 | [.ag [.i .i64 v_kind,.u64 v_bits,.u64 v_high,.u64 v_low,.s v_text,.s v_more,.i .i64 v_sub,.sl .bs v_bytes,.sl .fl v_kids]] => .if_ (decide (Fld.bulk (Fld.of [] (Val.mk v_kind v_bits v_high v_low v_text v_more v_sub v_bytes v_kids))≤1099511627776)) [(.sl .is ((Tree.chkF (Fld.of [] (Val.mk v_kind v_bits v_high v_low v_text v_more v_sub v_bytes v_kids)) []).1)),(.i .i64 ((Tree.chkF (Fld.of [] (Val.mk v_kind v_bits v_high v_low v_text v_more v_sub v_bytes v_kids)) []).2))]
 | _ => .err
def ref1_SameInts.sg:FSig:={}
def ref1_SameInts.c:Ctr:=fun l=>match l with
 | [.sl .is a,.sl .is b] => .if_ (decide (a.length≤1099511627776)) [(.b (decide (a=b)))]
 | _ => .err
def book_Room.sg:FSig:={}
def book_Room.c:Ctr:=fun l=>match l with
 | [.i .i64 left,.sl .is sizes] => .if_ (decide (left≤1200∧sizes.length≤10)&&sizes.all (fun s=>decide (0≤s))) [(.i .i64 (Book.room left sizes))]
 | _ => .err
def book_Value.sg:FSig:={}
def book_Value.c:Ctr:=fun l=>match l with
 | [.i .i64 left,.ag [.i .i64 v_kind,.u64 v_bits,.u64 v_high,.u64 v_low,.s v_text,.s v_more,.i .i64 v_sub,.sl .bs v_bytes,.sl .fl v_kids]] => .if_ (decide (left≤1200)) [(.i .i64 (Book.value left (Fld.of [] (Val.mk v_kind v_bits v_high v_low v_text v_more v_sub v_bytes v_kids))))]
 | _ => .err
def book_Value.cn (n:Nat):Ctr:=fun l=>match l with
 | [.i .i64 left,.ag [.i .i64 v_kind,.u64 v_bits,.u64 v_high,.u64 v_low,.s v_text,.s v_more,.i .i64 v_sub,.sl .bs v_bytes,.sl .fl v_kids]] => .if_ ((decide (left≤1200))&&decide ((Fld.bulk (Fld.of [] (Val.mk v_kind v_bits v_high v_low v_text v_more v_sub v_bytes v_kids)))<n)) [(.i .i64 (Book.value left (Fld.of [] (Val.mk v_kind v_bits v_high v_low v_text v_more v_sub v_bytes v_kids))))]
 | _ => .err
def book_Place.sg:FSig:={}
def book_Place.c:Ctr:=fun l=>match l with
 | [.i .i64 k,.i .i64 n] => .if_ (decide (1≤n∧n≤1099511627776)) [(.i .i64 (k % n))]
 | _ => .err
def book_With.sg:FSig:={}
def book_With.c:Ctr:=fun l=>match l with
 | [.ag [.i .i64 v_kind,.u64 v_bits,.u64 v_high,.u64 v_low,.s v_text,.s v_more,.i .i64 v_sub,.sl .bs v_bytes,.sl .fl v_kids],.sl .is p,.ag [.i .i64 x_kind,.u64 x_bits,.u64 x_high,.u64 x_low,.s x_text,.s x_more,.i .i64 x_sub,.sl .bs x_bytes,.sl .fl x_kids]] => .if_ (decide (Fld.bulk (Fld.of [] (Val.mk v_kind v_bits v_high v_low v_text v_more v_sub v_bytes v_kids))≤1048576)&&Tree.within p (Val.mk v_kind v_bits v_high v_low v_text v_more v_sub v_bytes v_kids)) [(.ag (Val.cells (Tree.put p (Val.mk v_kind v_bits v_high v_low v_text v_more v_sub v_bytes v_kids) (Val.mk x_kind x_bits x_high x_low x_text x_more x_sub x_bytes x_kids))))]
 | _ => .err
def book_With.cn (n:Nat):Ctr:=fun l=>match l with
 | [.ag [.i .i64 v_kind,.u64 v_bits,.u64 v_high,.u64 v_low,.s v_text,.s v_more,.i .i64 v_sub,.sl .bs v_bytes,.sl .fl v_kids],.sl .is p,.ag [.i .i64 x_kind,.u64 x_bits,.u64 x_high,.u64 x_low,.s x_text,.s x_more,.i .i64 x_sub,.sl .bs x_bytes,.sl .fl x_kids]] => .if_ ((decide (Fld.bulk (Fld.of [] (Val.mk v_kind v_bits v_high v_low v_text v_more v_sub v_bytes v_kids))≤1048576)&&Tree.within p (Val.mk v_kind v_bits v_high v_low v_text v_more v_sub v_bytes v_kids))&&decide (((p).length)<n)) [(.ag (Val.cells (Tree.put p (Val.mk v_kind v_bits v_high v_low v_text v_more v_sub v_bytes v_kids) (Val.mk x_kind x_bits x_high x_low x_text x_more x_sub x_bytes x_kids))))]
 | _ => .err
def ref17_all.sg:FSig:={}
def ref17_all.c:Ctr:=fun l=>match l with
 | [.ag [.i .i64 v_kind,.u64 v_bits,.u64 v_high,.u64 v_low,.s v_text,.s v_more,.i .i64 v_sub,.sl .bs v_bytes,.sl .fl v_kids],.sl .is p] => .if_ (decide (Fld.bulk (Fld.of [] (Val.mk v_kind v_bits v_high v_low v_text v_more v_sub v_bytes v_kids))+(p).length≤1048576)) [(.sl .iss (Tree.paths (Fld.of [] (Val.mk v_kind v_bits v_high v_low v_text v_more v_sub v_bytes v_kids)) p))]
 | _ => .err
def ref17_all.cn (n:Nat):Ctr:=fun l=>match l with
 | [.ag [.i .i64 v_kind,.u64 v_bits,.u64 v_high,.u64 v_low,.s v_text,.s v_more,.i .i64 v_sub,.sl .bs v_bytes,.sl .fl v_kids],.sl .is p] => .if_ ((decide (Fld.bulk (Fld.of [] (Val.mk v_kind v_bits v_high v_low v_text v_more v_sub v_bytes v_kids))+(p).length≤1048576))&&decide ((Fld.bulk (Fld.of [] (Val.mk v_kind v_bits v_high v_low v_text v_more v_sub v_bytes v_kids)))<n)) [(.sl .iss (Tree.paths (Fld.of [] (Val.mk v_kind v_bits v_high v_low v_text v_more v_sub v_bytes v_kids)) p))]
 | _ => .err
def ref17_All.sg:FSig:={}
def ref17_All.c:Ctr:=fun l=>match l with
 | [.ag [.i .i64 v_kind,.u64 v_bits,.u64 v_high,.u64 v_low,.s v_text,.s v_more,.i .i64 v_sub,.sl .bs v_bytes,.sl .fl v_kids]] => .if_ (decide (Fld.bulk (Fld.of [] (Val.mk v_kind v_bits v_high v_low v_text v_more v_sub v_bytes v_kids))≤1000000)) [(.sl .iss (Tree.paths (Fld.of [] (Val.mk v_kind v_bits v_high v_low v_text v_more v_sub v_bytes v_kids)) []))]
 | _ => .err
def book_Small.sg:FSig:={}
def book_Small.c:Ctr:=fun l=>match l with
 | [.ag [.i .i64 v_kind,.u64 v_bits,.u64 v_high,.u64 v_low,.s v_text,.s v_more,.i .i64 v_sub,.sl .bs v_bytes,.sl .fl v_kids]] => .ok [(.b (decide (0≤Book.value 1200 (Fld.of [] (Val.mk v_kind v_bits v_high v_low v_text v_more v_sub v_bytes v_kids)))))]
 | _ => .err
def law17_awake.sg:FSig:={}
def law17_awake.c:Ctr:=fun l=>match l with
 | [] => .ok [(.b (true))]
 | _ => .err
def TreeSpoilt.sg:FSig:={}
def TreeSpoilt.c:Ctr:=fun l=>match l with
 | [.ag [.i .i64 v_kind,.u64 v_bits,.u64 v_high,.u64 v_low,.s v_text,.s v_more,.i .i64 v_sub,.sl .bs v_bytes,.sl .fl v_kids],.i .i64 k] => .ok [(.b (true))]
 | _ => .err
end
noncomputable section
def utf_is.env:List (Nat × (Ctr × FSig)):=[]
def utf_is.E:TEnv:=envL noGl utf_is.env
def utf_is.m:TM := .seq (.reg [
  ⟨.k .mv,[.c (.b false)],[2],none⟩]) none (.seq (.reg [
  ⟨.k .mv,[.s 0],[3],none⟩,
  ⟨.k (.bin .geq),[.s 3,.c (.i .i64 (0:Int))],[4],none⟩,
  ⟨.k .mv,[.s 4],[5],none⟩,
  ⟨.k .mv,[.s 0],[6],some (5,true)⟩,
  ⟨.k (.bin .leq),[.s 6,.c (.i .i64 (1114111:Int))],[7],some (5,true)⟩,
  ⟨.k .pick,[.s 5,.s 7,.c (.b false)],[8],none⟩,
  ⟨.k .mv,[.s 8],[9],none⟩,
  ⟨.k .mv,[.s 0],[10],some (9,true)⟩,
  ⟨.k (.bin .lss),[.s 10,.c (.i .i64 (55296:Int))],[11],some (9,true)⟩,
  ⟨.k .mv,[.s 11],[12],some (9,true)⟩,
  ⟨.k .mv,[.s 0],[13],some (12,false)⟩,
  ⟨.k (.bin .gtr),[.s 13,.c (.i .i64 (57343:Int))],[14],some (12,false)⟩,
  ⟨.k .pick,[.s 12,.c (.b true),.s 14],[15],some (9,true)⟩,
  ⟨.k .pick,[.s 9,.s 15,.c (.b false)],[16],none⟩,
  ⟨.k .mv,[.s 16],[2],none⟩]) none .ret)
def utf_is.d:TFD:={ np:=1,m:=utf_is.m,ref:=none,tips:=[],res:=[.t 2],own:=[],new:=none,tnew:=[] }
noncomputable def utf_is.F (r:Int):Option (List TV):=utf_is.d.run utf_is.E [(.i .i64 r)]
theorem utf_is.F_in (r:Int) {ρ:Option (List TV)} (K:∀(v1:Bool) (h1:v1=(cond (decide ((0:Int)≤r)) (decide (r≤(1114111:Int))) false)) (v2:Bool) (h2:v2=(v1&&(!(decide (r<(55296:Int)))))) (v3:Bool) (h3:v3=(cond (decide (r<(55296:Int))) true (decide ((57343:Int)<r)))),ck (!(decide ((0:Int)≤r)) || (decide ((0:Int)≤r))) (ck (!(decide ((0:Int)≤r)) || (decide ((0:Int)≤r))) (ck (!v1 || v1) (ck (!v1 || v1) (ck (!v2 || v2) (ck (!v1 || (v1&&((decide (r<(55296:Int))) || v2))) (ck (!v1 || v1) (some [(.b (cond v1 v3 false))])))))))=ρ):utf_is.F r=ρ:=Eq.trans (by kernel_rfl) (K _ rfl _ rfl _ rfl)
theorem utf_is.chk:((Go.Proofs.Try.prog.funcs[47]?).any fun fn=>chkF Go.Proofs.Try.prog (fun k=>((envL noGl utf_is.env).fs k).2) fn utf_is.d.erase)=true:=by kernel_rfl
def utf_Rune.env:List (Nat × (Ctr × FSig)):=[(47,(utf_is.c,utf_is.sg))]
def utf_Rune.E:TEnv:=envL noGl utf_Rune.env
def utf_Rune.m1:TM := .seq (.seq (.reg [
  ⟨.k .mv,[.s 7],[54],none⟩,
  ⟨.k .mv,[.s 0],[55],none⟩,
  ⟨.k .len,[.s 55],[56],none⟩,
  ⟨.k .mv,[.s 1],[57],none⟩,
  ⟨.k (.bin .sub),[.s 56,.s 57],[58],none⟩,
  ⟨.k (.bin .sub),[.s 58,.c (.i .i64 (1:Int))],[59],none⟩,
  ⟨.k (.bin .gtr),[.s 54,.s 59],[60],none⟩]) none (.cond (.s 60) [] (.exit (gid 0)) .skip)) none (.seq (.reg [
  ⟨.k .mv,[.c (.i .i64 (1:Int))],[9],none⟩]) none (.seq .skip none (.seq (.seq (.reg [
  ⟨.k .mv,[.s 9],[61],none⟩,
  ⟨.k .mv,[.s 7],[62],none⟩,
  ⟨.k (.bin .leq),[.s 61,.s 62],[63],none⟩]) none (.cond (.s 63) [] (.seq (.seq (.reg [
  ⟨.k .mv,[.s 0],[64],none⟩,
  ⟨.k .mv,[.s 1],[65],none⟩,
  ⟨.k .mv,[.s 9],[66],none⟩,
  ⟨.k (.bin .add),[.s 65,.s 66],[67],none⟩,
  ⟨.k (.ix 1),[.s 64,.s 67],[68],none⟩,
  ⟨.k (.lr 1 false),[.s 68],[69],none⟩,
  ⟨.k (.bin .and),[.s 69,.c (.u8 (192:UInt8))],[70],none⟩,
  ⟨.k (.bin .neq),[.s 70,.c (.u8 (128:UInt8))],[71],none⟩]) none (.cond (.s 71) [] (.exit (gid 0)) .skip)) none (.seq (.reg [
  ⟨.k .mv,[.s 4],[72],none⟩,
  ⟨.k (.bin .shl),[.s 72,.c (.u64 (6:UInt64))],[73],none⟩,
  ⟨.k .mv,[.s 0],[74],none⟩,
  ⟨.k .mv,[.s 1],[75],none⟩,
  ⟨.k .mv,[.s 9],[76],none⟩,
  ⟨.k (.bin .add),[.s 75,.s 76],[77],none⟩,
  ⟨.k (.ix 1),[.s 74,.s 77],[78],none⟩,
  ⟨.k (.lr 1 false),[.s 78],[79],none⟩,
  ⟨.k (.bin .and),[.s 79,.c (.u8 (63:UInt8))],[80],none⟩,
  ⟨.k (.ci .i64),[.s 80],[81],none⟩,
  ⟨.k (.bin .or),[.s 73,.s 81],[82],none⟩,
  ⟨.k .mv,[.s 82],[4],none⟩]) none (.seq (.reg [
  ⟨.k .mv,[.s 9],[83],none⟩,
  ⟨.k (.bin .add),[.s 83,.c (.i .i64 (1:Int))],[84],none⟩,
  ⟨.k .mv,[.s 84],[9],none⟩]) none (.exit (gid 1))))) .skip)) none (.seq (.seq (.reg [
  ⟨.k .mv,[.s 4],[85],none⟩,
  ⟨.k .mv,[.s 8],[86],none⟩,
  ⟨.k (.bin .lss),[.s 85,.s 86],[87],none⟩,
  ⟨.k .mv,[.s 87],[88],none⟩,
  ⟨.k .mv,[.s 4],[89],some (88,false)⟩,
  ⟨.k (.call 47 (.plain 1 1)),[.s 89],[90],some (88,false)⟩,
  ⟨.k (.un .not),[.s 90],[91],some (88,false)⟩,
  ⟨.k .pick,[.s 88,.c (.b true),.s 91],[92],none⟩]) none (.cond (.s 92) [] (.exit (gid 0)) .skip)) none (.seq (.seq (.reg [
  ⟨.k .mv,[.s 4],[93],none⟩,
  ⟨.k .mv,[.s 7],[94],none⟩,
  ⟨.k (.bin .add),[.s 94,.c (.i .i64 (1:Int))],[95],none⟩,
  ⟨.k .mv,[.s 93],[4],none⟩,
  ⟨.k .mv,[.s 95],[5],none⟩]) none .ret) none .skip)))))
def utf_Rune.m2:TM := .seq .skip none (.seq (.seq (.reg [
  ⟨.k .mv,[.s 9],[61],none⟩,
  ⟨.k .mv,[.s 7],[62],none⟩,
  ⟨.k (.bin .leq),[.s 61,.s 62],[63],none⟩]) none (.cond (.s 63) [] (.seq (.seq (.reg [
  ⟨.k .mv,[.s 0],[64],none⟩,
  ⟨.k .mv,[.s 1],[65],none⟩,
  ⟨.k .mv,[.s 9],[66],none⟩,
  ⟨.k (.bin .add),[.s 65,.s 66],[67],none⟩,
  ⟨.k (.ix 1),[.s 64,.s 67],[68],none⟩,
  ⟨.k (.lr 1 false),[.s 68],[69],none⟩,
  ⟨.k (.bin .and),[.s 69,.c (.u8 (192:UInt8))],[70],none⟩,
  ⟨.k (.bin .neq),[.s 70,.c (.u8 (128:UInt8))],[71],none⟩]) none (.cond (.s 71) [] (.exit (gid 0)) .skip)) none (.seq (.reg [
  ⟨.k .mv,[.s 4],[72],none⟩,
  ⟨.k (.bin .shl),[.s 72,.c (.u64 (6:UInt64))],[73],none⟩,
  ⟨.k .mv,[.s 0],[74],none⟩,
  ⟨.k .mv,[.s 1],[75],none⟩,
  ⟨.k .mv,[.s 9],[76],none⟩,
  ⟨.k (.bin .add),[.s 75,.s 76],[77],none⟩,
  ⟨.k (.ix 1),[.s 74,.s 77],[78],none⟩,
  ⟨.k (.lr 1 false),[.s 78],[79],none⟩,
  ⟨.k (.bin .and),[.s 79,.c (.u8 (63:UInt8))],[80],none⟩,
  ⟨.k (.ci .i64),[.s 80],[81],none⟩,
  ⟨.k (.bin .or),[.s 73,.s 81],[82],none⟩,
  ⟨.k .mv,[.s 82],[4],none⟩]) none (.seq (.reg [
  ⟨.k .mv,[.s 9],[83],none⟩,
  ⟨.k (.bin .add),[.s 83,.c (.i .i64 (1:Int))],[84],none⟩,
  ⟨.k .mv,[.s 84],[9],none⟩]) none (.exit (gid 1))))) .skip)) none (.seq (.seq (.reg [
  ⟨.k .mv,[.s 4],[85],none⟩,
  ⟨.k .mv,[.s 8],[86],none⟩,
  ⟨.k (.bin .lss),[.s 85,.s 86],[87],none⟩,
  ⟨.k .mv,[.s 87],[88],none⟩,
  ⟨.k .mv,[.s 4],[89],some (88,false)⟩,
  ⟨.k (.call 47 (.plain 1 1)),[.s 89],[90],some (88,false)⟩,
  ⟨.k (.un .not),[.s 90],[91],some (88,false)⟩,
  ⟨.k .pick,[.s 88,.c (.b true),.s 91],[92],none⟩]) none (.cond (.s 92) [] (.exit (gid 0)) .skip)) none (.seq (.seq (.reg [
  ⟨.k .mv,[.s 4],[93],none⟩,
  ⟨.k .mv,[.s 7],[94],none⟩,
  ⟨.k (.bin .add),[.s 94,.c (.i .i64 (1:Int))],[95],none⟩,
  ⟨.k .mv,[.s 93],[4],none⟩,
  ⟨.k .mv,[.s 95],[5],none⟩]) none .ret) none .skip)))
def utf_Rune.m3:TM := .seq .skip none (.seq (.reg [
  ⟨.k .mv,[.c (.i .i64 (0:Int))],[4],none⟩,
  ⟨.k .mv,[.c (.i .i64 (0:Int))],[5],none⟩]) none .ret)
def utf_Rune.m:TM := .seq (.reg [
  ⟨.k .mv,[.c (.i .i64 (0:Int))],[4],none⟩,
  ⟨.k .mv,[.c (.i .i64 (0:Int))],[5],none⟩]) none (.sco (.lab 0 [] [] utf_Rune.m3 (.lab 1 [0,1,4,7,8,9] [] utf_Rune.m2 (.scp (.seq (.reg [
  ⟨.k .mv,[.c (.i .i64 (0:Int))],[6],none⟩,
  ⟨.k .mv,[.c (.i .i64 (0:Int))],[7],none⟩,
  ⟨.k .mv,[.c (.i .i64 (0:Int))],[8],none⟩,
  ⟨.k .mv,[.c (.i .i64 (0:Int))],[9],none⟩]) none (.seq (.seq (.reg [
  ⟨.k .mv,[.s 1],[10],none⟩,
  ⟨.k (.bin .lss),[.s 10,.c (.i .i64 (0:Int))],[11],none⟩,
  ⟨.k .mv,[.s 11],[12],none⟩,
  ⟨.k .mv,[.s 1],[13],some (12,false)⟩,
  ⟨.k .mv,[.s 0],[14],some (12,false)⟩,
  ⟨.k .len,[.s 14],[15],some (12,false)⟩,
  ⟨.k (.bin .geq),[.s 13,.s 15],[16],some (12,false)⟩,
  ⟨.k .pick,[.s 12,.c (.b true),.s 16],[17],none⟩]) none (.cond (.s 17) [] (.exit (gid 0)) .skip)) none (.seq (.reg [
  ⟨.k .mv,[.s 0],[18],none⟩,
  ⟨.k .mv,[.s 1],[19],none⟩,
  ⟨.k (.ix 1),[.s 18,.s 19],[20],none⟩,
  ⟨.k (.lr 1 false),[.s 20],[21],none⟩,
  ⟨.k (.ci .i64),[.s 21],[22],none⟩,
  ⟨.k .mv,[.s 22],[6],none⟩]) none (.seq (.block 0 [] (.seq (.reg [
  ⟨.k .mv,[.s 6],[24],none⟩,
  ⟨.k (.bin .lss),[.s 24,.c (.i .i64 (128:Int))],[25],none⟩,
  ⟨.k .mv,[.s 25],[23],none⟩]) none (.cond (.s 23) [] (.seq (.reg [
  ⟨.k .mv,[.s 6],[26],none⟩,
  ⟨.k .mv,[.s 26],[4],none⟩,
  ⟨.k .mv,[.c (.i .i64 (1:Int))],[5],none⟩]) none .ret) (.seq (.reg [
  ⟨.k .mv,[.s 6],[28],none⟩,
  ⟨.k (.bin .geq),[.s 28,.c (.i .i64 (192:Int))],[29],none⟩,
  ⟨.k .mv,[.s 29],[30],none⟩,
  ⟨.k .mv,[.s 6],[31],some (30,true)⟩,
  ⟨.k (.bin .lss),[.s 31,.c (.i .i64 (224:Int))],[32],some (30,true)⟩,
  ⟨.k .pick,[.s 30,.s 32,.c (.b false)],[33],none⟩,
  ⟨.k .mv,[.s 33],[27],none⟩]) none (.cond (.s 27) [] (.reg [
  ⟨.k .mv,[.s 6],[34],none⟩,
  ⟨.k (.bin .and),[.s 34,.c (.i .i64 (31:Int))],[35],none⟩,
  ⟨.k .mv,[.s 35],[4],none⟩,
  ⟨.k .mv,[.c (.i .i64 (1:Int))],[7],none⟩,
  ⟨.k .mv,[.c (.i .i64 (128:Int))],[8],none⟩]) (.seq (.reg [
  ⟨.k .mv,[.s 6],[37],none⟩,
  ⟨.k (.bin .geq),[.s 37,.c (.i .i64 (224:Int))],[38],none⟩,
  ⟨.k .mv,[.s 38],[39],none⟩,
  ⟨.k .mv,[.s 6],[40],some (39,true)⟩,
  ⟨.k (.bin .lss),[.s 40,.c (.i .i64 (240:Int))],[41],some (39,true)⟩,
  ⟨.k .pick,[.s 39,.s 41,.c (.b false)],[42],none⟩,
  ⟨.k .mv,[.s 42],[36],none⟩]) none (.cond (.s 36) [] (.reg [
  ⟨.k .mv,[.s 6],[43],none⟩,
  ⟨.k (.bin .and),[.s 43,.c (.i .i64 (15:Int))],[44],none⟩,
  ⟨.k .mv,[.s 44],[4],none⟩,
  ⟨.k .mv,[.c (.i .i64 (2:Int))],[7],none⟩,
  ⟨.k .mv,[.c (.i .i64 (2048:Int))],[8],none⟩]) (.seq (.reg [
  ⟨.k .mv,[.s 6],[46],none⟩,
  ⟨.k (.bin .geq),[.s 46,.c (.i .i64 (240:Int))],[47],none⟩,
  ⟨.k .mv,[.s 47],[48],none⟩,
  ⟨.k .mv,[.s 6],[49],some (48,true)⟩,
  ⟨.k (.bin .lss),[.s 49,.c (.i .i64 (248:Int))],[50],some (48,true)⟩,
  ⟨.k .pick,[.s 48,.s 50,.c (.b false)],[51],none⟩,
  ⟨.k .mv,[.s 51],[45],none⟩]) none (.cond (.s 45) [] (.reg [
  ⟨.k .mv,[.s 6],[52],none⟩,
  ⟨.k (.bin .and),[.s 52,.c (.i .i64 (7:Int))],[53],none⟩,
  ⟨.k .mv,[.s 53],[4],none⟩,
  ⟨.k .mv,[.c (.i .i64 (3:Int))],[7],none⟩,
  ⟨.k .mv,[.c (.i .i64 (65536:Int))],[8],none⟩]) (.exit (gid 0))))))))))) (some [0,1,4,7,8]) utf_Rune.m1))))))))
def utf_Rune.d:TFD:={ np:=2,m:=utf_Rune.m,ref:=none,tips:=[],res:=[.t 4,.t 5],own:=[],new:=none,tnew:=[] }
noncomputable def utf_Rune.F (b:List UInt8) (at_:Int):Option (List TV):=utf_Rune.d.run utf_Rune.E [(.sl .bs b),(.i .i64 at_)]
noncomputable def utf_Rune.k1:Cont (List TV):=againK (evO _ utf_Rune.E utf_Rune.m3) (isG 0) [] (endK utf_Rune.d)
noncomputable def utf_Rune.k2:Cont (List TV):=againK (evO _ utf_Rune.E utf_Rune.m2) (isG 1) [0,1,4,7,8,9] utf_Rune.k1
noncomputable def utf_Rune.l1:Option (List TV):=loopL (evO _ utf_Rune.E utf_Rune.m3) (isG 0) [] (headT [] []) (endK utf_Rune.d)
noncomputable def utf_Rune.j2 (x0:List UInt8) (x1:Int) (x2:Int) (x3:Int) (x4:Int):Option (List TV):=evO _ utf_Rune.E utf_Rune.m1 (headT [0,1,4,7,8] [(.sl .bs x0),(.i .i64 x1),(.i .i64 x2),(.i .i64 x3),(.i .i64 x4)]) utf_Rune.k2
noncomputable def utf_Rune.l3 (x0:List UInt8) (x1:Int) (x2:Int) (x3:Int) (x4:Int) (x5:Int):Option (List TV):=loopL (evO _ utf_Rune.E utf_Rune.m2) (isG 1) [0,1,4,7,8,9] (headT [0,1,4,7,8,9] [(.sl .bs x0),(.i .i64 x1),(.i .i64 x2),(.i .i64 x3),(.i .i64 x4),(.i .i64 x5)]) utf_Rune.k1
theorem utf_Rune.l1_eq:utf_Rune.l1=some [(.i .i64 (0:Int)),(.i .i64 (0:Int))]:=((ev_loop _ _ _ _ _ _).trans (by kernel_rfl))
theorem utf_Rune.j2_in (x0:List UInt8) (x1:Int) (x2:Int) (x3:Int) (x4:Int) {ρ:Option (List TV)} (K:∀(v1:Int) (h1:v1=(IntKind.i64.wrap (((x0).length:Int) - x1))) (v2:Int) (h2:v2=(IntKind.i64.wrap (v1 - (1:Int)))) (v3:Int) (h3:v3=(IntKind.i64.wrap (x1+(1:Int)))) (v4:UInt8) (h4:v4=(List.getD x0 (v3).toNat (0:UInt8))) (v5:Bool) (h5:v5=(!decide ((v4 &&& (192:UInt8))=(128:UInt8)))) (v6:Int) (h6:v6=(IntKind.i64.wrap (x2 * 2 ^ (min (((6:UInt64)).toNat) (IntKind.i64.bits))))) (v7:Int) (h7:v7=(IntKind.i64.wrap (((v4 &&& (63:UInt8))).toNat:Int))) (v8:Int) (h8:v8=(IntKind.i64.wrap ((1:Int)+(1:Int)))) (v9:Bool) (h9:v9=(cond (decide (x2<x4)) true (!(Utf.isRune x2)))) (v10:Int) (h10:v10=(IntKind.i64.wrap (x3+(1:Int)))),cond (decide (v2<x3))
  (utf_Rune.l1)
  (cond (decide ((1:Int)≤x3))
  (ck (idxOK v3 (x0).length) (cond v5
  (utf_Rune.l1)
  (ck (idxOK v3 (x0).length) (utf_Rune.l3 x0 x1 (intBitsV .or .i64 v6 v7) x3 x4 v8))))
  (ck (!(!(decide (x2<x4))) || (!(decide (x2<x4)))) (ck (!(!(decide (x2<x4))) || (!(decide (x2<x4)))) (ck ((decide (x2<x4)) || (!(decide (x2<x4)))) (cond v9
  (utf_Rune.l1)
  (some [(.i .i64 x2),(.i .i64 v10)]))))))=ρ):utf_Rune.j2 x0 x1 x2 x3 x4=ρ:=((congrFun (congrFun (ev_eq _ _) _) _).trans (by kernel_rfl)).trans (K _ rfl _ rfl _ rfl _ rfl _ rfl _ rfl _ rfl _ rfl _ rfl _ rfl)
theorem utf_Rune.l3_in (x0:List UInt8) (x1:Int) (x2:Int) (x3:Int) (x4:Int) (x5:Int) {ρ:Option (List TV)} (K:∀(v1:UInt8) (h1:v1=(List.getD x0 ((IntKind.i64.wrap (x1+x5))).toNat (0:UInt8))) (v2:Bool) (h2:v2=(!decide ((v1 &&& (192:UInt8))=(128:UInt8)))) (v3:Int) (h3:v3=(IntKind.i64.wrap (x2 * 2 ^ (min (((6:UInt64)).toNat) (IntKind.i64.bits))))) (v4:Int) (h4:v4=(IntKind.i64.wrap (((v1 &&& (63:UInt8))).toNat:Int))) (v5:Int) (h5:v5=(IntKind.i64.wrap (x5+(1:Int)))) (v6:Bool) (h6:v6=(cond (decide (x2<x4)) true (!(Utf.isRune x2)))) (v7:Int) (h7:v7=(IntKind.i64.wrap (x3+(1:Int)))),cond (decide (x5≤x3))
  (ck (idxOK (IntKind.i64.wrap (x1+x5)) (x0).length) (cond v2
  (utf_Rune.l1)
  (ck (idxOK (IntKind.i64.wrap (x1+x5)) (x0).length) (utf_Rune.l3 x0 x1 (intBitsV .or .i64 v3 v4) x3 x4 v5))))
  (ck (!(!(decide (x2<x4))) || (!(decide (x2<x4)))) (ck (!(!(decide (x2<x4))) || (!(decide (x2<x4)))) (ck ((decide (x2<x4)) || (!(decide (x2<x4)))) (cond v6
  (utf_Rune.l1)
  (some [(.i .i64 x2),(.i .i64 v7)])))))=ρ):utf_Rune.l3 x0 x1 x2 x3 x4 x5=ρ:=((ev_loop _ _ _ _ _ _).trans (by kernel_rfl)).trans (K _ rfl _ rfl _ rfl _ rfl _ rfl _ rfl _ rfl)
theorem utf_Rune.F_in (b:List UInt8) (at_:Int) {ρ:Option (List TV)} (K:∀(v1:Bool) (h1:v1=(cond (decide (at_<(0:Int))) true (decide (((b).length:Int)≤at_)))) (v2:UInt8) (h2:v2=(List.getD b (at_).toNat (0:UInt8))) (v3:Int) (h3:v3=(IntKind.i64.wrap ((v2).toNat:Int))) (v4:Bool) (h4:v4=(cond (decide ((192:Int)≤v3)) (decide (v3<(224:Int))) false)) (v5:Int) (h5:v5=(intBitsV .and .i64 v3 (31:Int))) (v6:Bool) (h6:v6=(cond (decide ((224:Int)≤v3)) (decide (v3<(240:Int))) false)) (v7:Int) (h7:v7=(intBitsV .and .i64 v3 (15:Int))) (v8:Bool) (h8:v8=(cond (decide ((240:Int)≤v3)) (decide (v3<(248:Int))) false)) (v9:Int) (h9:v9=(intBitsV .and .i64 v3 (7:Int))),ck (!(!(decide (at_<(0:Int)))) || (!(decide (at_<(0:Int))))) (ck (!(!(decide (at_<(0:Int)))) || ((!(decide (at_<(0:Int))))&&(!(decide (at_<(0:Int)))))) (ck ((decide (at_<(0:Int))) || (!(decide (at_<(0:Int))))) (cond v1
  (utf_Rune.l1)
  (ck (idxOK at_ (b).length) (cond (decide (v3<(128:Int)))
  (some [(.i .i64 v3),(.i .i64 (1:Int))])
  (ck (!(decide ((192:Int)≤v3)) || (decide ((192:Int)≤v3))) (ck (!(decide ((192:Int)≤v3)) || (decide ((192:Int)≤v3))) (cond v4
  (utf_Rune.j2 b at_ v5 (1:Int) (128:Int))
  (ck (!(decide ((224:Int)≤v3)) || (decide ((224:Int)≤v3))) (ck (!(decide ((224:Int)≤v3)) || (decide ((224:Int)≤v3))) (cond v6
  (utf_Rune.j2 b at_ v7 (2:Int) (2048:Int))
  (ck (!(decide ((240:Int)≤v3)) || (decide ((240:Int)≤v3))) (ck (!(decide ((240:Int)≤v3)) || (decide ((240:Int)≤v3))) (cond v8
  (utf_Rune.j2 b at_ v9 (3:Int) (65536:Int))
  (utf_Rune.l1)))))))))))))))=ρ):utf_Rune.F b at_=ρ:=Eq.trans (by kernel_rfl) (K _ rfl _ rfl _ rfl _ rfl _ rfl _ rfl _ rfl _ rfl _ rfl)
theorem utf_Rune.chk:((Go.Proofs.Try.prog.funcs[44]?).any fun fn=>chkF Go.Proofs.Try.prog (fun k=>((envL noGl utf_Rune.env).fs k).2) fn utf_Rune.d.erase)=true:=by kernel_rfl
def utf_look.env:List (Nat × (Ctr × FSig)):=[(44,(utf_Rune.c,utf_Rune.sg))]
def utf_look.E:TEnv:=envL noGl utf_look.env
def utf_look.m1:TM := .seq (.seq (.reg [
  ⟨.k .mv,[.s 2],[6],none⟩,
  ⟨.k .mv,[.s 0],[7],none⟩,
  ⟨.k .len,[.s 7],[8],none⟩,
  ⟨.k (.bin .lss),[.s 6,.s 8],[9],none⟩]) none (.cond (.s 9) [] .skip (.exit 0))) none (.block 1 [] (.seq (.reg [
  ⟨.k .mv,[.s 0],[11],none⟩,
  ⟨.k .mv,[.s 2],[12],none⟩,
  ⟨.k (.call 44 (.plain 2 2)),[.s 11,.s 12],[13],none⟩,
  ⟨.k .mv,[.s 13],[10],none⟩,
  ⟨.k (.ex 0),[.s 10],[14],none⟩,
  ⟨.k (.ex 1),[.s 10],[15],none⟩,
  ⟨.k .mv,[.s 14],[4],none⟩,
  ⟨.k .mv,[.s 15],[5],none⟩]) none (.seq (.seq (.reg [
  ⟨.k .mv,[.s 5],[16],none⟩,
  ⟨.k (.bin .eql),[.s 16,.c (.i .i64 (0:Int))],[17],none⟩]) none (.cond (.s 17) [] (.exit 0) .skip)) none (.seq (.reg [
  ⟨.k .mv,[.s 2],[18],none⟩,
  ⟨.k .mv,[.s 5],[19],none⟩,
  ⟨.k (.bin .add),[.s 18,.s 19],[20],none⟩,
  ⟨.k .mv,[.s 20],[2],none⟩]) none (.reg [
  ⟨.k .mv,[.s 3],[21],none⟩,
  ⟨.k (.bin .add),[.s 21,.c (.i .i64 (1:Int))],[22],none⟩,
  ⟨.k .mv,[.s 22],[3],none⟩])))))
def utf_look.m2:TM := .seq (.reg [
  ⟨.k .mv,[.s 2],[23],none⟩,
  ⟨.k .mv,[.s 3],[24],none⟩,
  ⟨.k .mv,[.s 23],[2],none⟩,
  ⟨.k .mv,[.s 24],[3],none⟩]) none .ret
def utf_look.m:TM := .seq (.reg [
  ⟨.k .mv,[.c (.i .i64 (0:Int))],[2],none⟩,
  ⟨.k .mv,[.c (.i .i64 (0:Int))],[3],none⟩]) none (.seq (.block 0 [] (.loop [0,2,3] [] utf_look.m1)) (some [2,3]) utf_look.m2)
def utf_look.d:TFD:={ np:=1,m:=utf_look.m,ref:=none,tips:=[],res:=[.t 2,.t 3],own:=[],new:=none,tnew:=[] }
noncomputable def utf_look.F (b:List UInt8):Option (List TV):=utf_look.d.run utf_look.E [(.sl .bs b)]
noncomputable def utf_look.k1:Cont (List TV):=seqK (evO _ utf_look.E utf_look.m2) (some [2,3]) (endK utf_look.d)
noncomputable def utf_look.l1 (x0:List UInt8) (x1:Int) (x2:Int):Option (List TV):=loopL (evO _ utf_look.E utf_look.m1) isN [0,2,3] (headT [0,2,3] [(.sl .bs x0),(.i .i64 x1),(.i .i64 x2)]) (blockK 0 utf_look.k1)
noncomputable def utf_look.j2 (x0:Int) (x1:Int):Option (List TV):=evO _ utf_look.E utf_look.m2 (headT [2,3] [(.i .i64 x0),(.i .i64 x1)]) (endK utf_look.d)
theorem utf_look.l1_in (x0:List UInt8) (x1:Int) (x2:Int) {ρ:Option (List TV)} (K:∀(v1:Int) (h1:v1=(IntKind.i64.wrap (x1+((Utf.runeAt x0 x1).2)))) (v2:Int) (h2:v2=(IntKind.i64.wrap (x2+(1:Int)))),cond (decide (x1<((x0).length:Int)))
  (ck (decide (x0.length≤1099511627776)) (cond (decide (((Utf.runeAt x0 x1).2)=(0:Int)))
  (utf_look.j2 x1 x2)
  (utf_look.l1 x0 v1 v2)))
  (utf_look.j2 x1 x2)=ρ):utf_look.l1 x0 x1 x2=ρ:=((ev_loop _ _ _ _ _ _).trans (by kernel_rfl)).trans (K _ rfl _ rfl)
theorem utf_look.j2_eq (x0:Int) (x1:Int):utf_look.j2 x0 x1=some [(.i .i64 x0),(.i .i64 x1)]:=((congrFun (congrFun (ev_eq _ _) _) _).trans (by kernel_rfl))
theorem utf_look.F_eq (b:List UInt8):utf_look.F b=utf_look.l1 b (0:Int) (0:Int):=by kernel_rfl
theorem utf_look.chk:((Go.Proofs.Try.prog.funcs[41]?).any fun fn=>chkF Go.Proofs.Try.prog (fun k=>((envL noGl utf_look.env).fs k).2) fn utf_look.d.erase)=true:=by kernel_rfl
def utf_Check.env:List (Nat × (Ctr × FSig)):=[(41,(utf_look.c,utf_look.sg))]
def utf_Check.E:TEnv:=envL noGl utf_Check.env
def utf_Check.m:TM := .seq (.reg [
  ⟨.k .mv,[.c (.i .i64 (0:Int))],[2],none⟩,
  ⟨.k .mv,[.c (.b false)],[3],none⟩]) none (.seq (.reg [
  ⟨.k .mv,[.s 0],[7],none⟩,
  ⟨.k (.call 41 (.plain 1 2)),[.s 7],[8],none⟩,
  ⟨.k .mv,[.s 8],[6],none⟩,
  ⟨.k (.ex 0),[.s 6],[9],none⟩,
  ⟨.k (.ex 1),[.s 6],[10],none⟩,
  ⟨.k .mv,[.s 9],[4],none⟩,
  ⟨.k .mv,[.s 10],[5],none⟩]) none (.seq (.reg [
  ⟨.k .mv,[.s 4],[11],none⟩,
  ⟨.k .mv,[.s 4],[12],none⟩,
  ⟨.k .mv,[.s 0],[13],none⟩,
  ⟨.k .len,[.s 13],[14],none⟩,
  ⟨.k (.bin .eql),[.s 12,.s 14],[15],none⟩,
  ⟨.k .mv,[.s 11],[2],none⟩,
  ⟨.k .mv,[.s 15],[3],none⟩]) none .ret))
def utf_Check.d:TFD:={ np:=1,m:=utf_Check.m,ref:=none,tips:=[],res:=[.t 2,.t 3],own:=[],new:=none,tnew:=[] }
noncomputable def utf_Check.F (b:List UInt8):Option (List TV):=utf_Check.d.run utf_Check.E [(.sl .bs b)]
theorem utf_Check.F_eq (b:List UInt8):utf_Check.F b=ck (decide (b.length≤1099511627776)) (some [(.i .i64 (((Utf.look b).1:Int))),(.b (decide ((((Utf.look b).1:Int))=((b).length:Int))))]):=by kernel_rfl
theorem utf_Check.chk:((Go.Proofs.Try.prog.funcs[36]?).any fun fn=>chkF Go.Proofs.Try.prog (fun k=>((envL noGl utf_Check.env).fs k).2) fn utf_Check.d.erase)=true:=by kernel_rfl
def ref2_Rune.env:List (Nat × (Ctr × FSig)):=[]
def ref2_Rune.E:TEnv:=envL noGl ref2_Rune.env
def ref2_Rune.m1:TM := .seq (.seq (.reg [
  ⟨.k .mv,[.s 10],[62],none⟩,
  ⟨.k .mv,[.s 7],[63],none⟩,
  ⟨.k (.bin .lss),[.s 62,.s 63],[64],none⟩]) none (.cond (.s 64) [] .skip (.exit 1))) none (.seq (.block 2 [] (.seq (.reg [
  ⟨.k .mv,[.s 0],[67],none⟩,
  ⟨.k .mv,[.s 1],[68],none⟩,
  ⟨.k .mv,[.s 10],[69],none⟩,
  ⟨.k (.bin .add),[.s 68,.s 69],[70],none⟩,
  ⟨.k (.ix 1),[.s 67,.s 70],[71],none⟩,
  ⟨.k (.lr 1 false),[.s 71],[72],none⟩,
  ⟨.k (.ci .i64),[.s 72],[73],none⟩,
  ⟨.k .mv,[.s 73],[11],none⟩]) none (.seq (.seq (.reg [
  ⟨.k .mv,[.s 11],[74],none⟩,
  ⟨.k (.bin .lss),[.s 74,.c (.i .i64 (128:Int))],[75],none⟩,
  ⟨.k .mv,[.s 75],[76],none⟩,
  ⟨.k .mv,[.s 11],[77],some (76,false)⟩,
  ⟨.k (.bin .geq),[.s 77,.c (.i .i64 (192:Int))],[78],some (76,false)⟩,
  ⟨.k .pick,[.s 76,.c (.b true),.s 78],[79],none⟩]) none (.cond (.s 79) [] (.seq (.reg [
  ⟨.k .mv,[.c (.i .i64 (0:Int))],[4],none⟩,
  ⟨.k .mv,[.c (.i .i64 (0:Int))],[5],none⟩]) none .ret) .skip)) none (.reg [
  ⟨.k .mv,[.s 8],[80],none⟩,
  ⟨.k (.bin .mul),[.s 80,.c (.i .i64 (64:Int))],[81],none⟩,
  ⟨.k .mv,[.s 11],[82],none⟩,
  ⟨.k (.bin .add),[.s 81,.s 82],[83],none⟩,
  ⟨.k (.bin .sub),[.s 83,.c (.i .i64 (128:Int))],[84],none⟩,
  ⟨.k .mv,[.s 84],[8],none⟩])))) none (.reg [
  ⟨.k .mv,[.s 10],[65],none⟩,
  ⟨.k (.bin .add),[.s 65,.c (.i .i64 (1:Int))],[66],none⟩,
  ⟨.k .mv,[.s 66],[10],none⟩]))
def ref2_Rune.m2:TM := .seq (.seq (.reg [
  ⟨.k .mv,[.s 0],[56],none⟩,
  ⟨.k .len,[.s 56],[57],none⟩,
  ⟨.k .mv,[.s 1],[58],none⟩,
  ⟨.k (.bin .sub),[.s 57,.s 58],[59],none⟩,
  ⟨.k .mv,[.s 7],[60],none⟩,
  ⟨.k (.bin .lss),[.s 59,.s 60],[61],none⟩]) none (.cond (.s 61) [] (.seq (.reg [
  ⟨.k .mv,[.c (.i .i64 (0:Int))],[4],none⟩,
  ⟨.k .mv,[.c (.i .i64 (0:Int))],[5],none⟩]) none .ret) .skip)) none (.seq (.seq (.reg [
  ⟨.k .mv,[.c (.i .i64 (1:Int))],[10],none⟩]) none (.block 1 [] (.loop [0,1,7,8,9,10] [] ref2_Rune.m1))) none (.seq (.seq (.reg [
  ⟨.k .mv,[.s 8],[85],none⟩,
  ⟨.k .mv,[.s 9],[86],none⟩,
  ⟨.k (.bin .lss),[.s 85,.s 86],[87],none⟩,
  ⟨.k .mv,[.s 87],[88],none⟩,
  ⟨.k .mv,[.s 8],[89],some (88,false)⟩,
  ⟨.k (.bin .gtr),[.s 89,.c (.i .i64 (1114111:Int))],[90],some (88,false)⟩,
  ⟨.k .pick,[.s 88,.c (.b true),.s 90],[91],none⟩,
  ⟨.k .mv,[.s 91],[92],none⟩,
  ⟨.k .mv,[.s 8],[93],some (92,false)⟩,
  ⟨.k (.bin .geq),[.s 93,.c (.i .i64 (55296:Int))],[94],some (92,false)⟩,
  ⟨.k .mv,[.s 94],[95],some (92,false)⟩,
  ⟨.k .mv,[.s 8],[96],some (95,true)⟩,
  ⟨.k (.bin .leq),[.s 96,.c (.i .i64 (57343:Int))],[97],some (95,true)⟩,
  ⟨.k .pick,[.s 95,.s 97,.c (.b false)],[98],some (92,false)⟩,
  ⟨.k .pick,[.s 92,.c (.b true),.s 98],[99],none⟩]) none (.cond (.s 99) [] (.seq (.reg [
  ⟨.k .mv,[.c (.i .i64 (0:Int))],[4],none⟩,
  ⟨.k .mv,[.c (.i .i64 (0:Int))],[5],none⟩]) none .ret) .skip)) none (.seq (.reg [
  ⟨.k .mv,[.s 8],[100],none⟩,
  ⟨.k .mv,[.s 7],[101],none⟩,
  ⟨.k .mv,[.s 100],[4],none⟩,
  ⟨.k .mv,[.s 101],[5],none⟩]) none .ret)))
def ref2_Rune.m:TM := .seq (.reg [
  ⟨.k .mv,[.c (.i .i64 (0:Int))],[4],none⟩,
  ⟨.k .mv,[.c (.i .i64 (0:Int))],[5],none⟩]) none (.seq (.seq (.reg [
  ⟨.k .mv,[.s 1],[12],none⟩,
  ⟨.k (.bin .lss),[.s 12,.c (.i .i64 (0:Int))],[13],none⟩,
  ⟨.k .mv,[.s 13],[14],none⟩,
  ⟨.k .mv,[.s 1],[15],some (14,false)⟩,
  ⟨.k .mv,[.s 0],[16],some (14,false)⟩,
  ⟨.k .len,[.s 16],[17],some (14,false)⟩,
  ⟨.k (.bin .geq),[.s 15,.s 17],[18],some (14,false)⟩,
  ⟨.k .pick,[.s 14,.c (.b true),.s 18],[19],none⟩]) none (.cond (.s 19) [] (.seq (.reg [
  ⟨.k .mv,[.c (.i .i64 (0:Int))],[4],none⟩,
  ⟨.k .mv,[.c (.i .i64 (0:Int))],[5],none⟩]) none .ret) .skip)) none (.seq (.reg [
  ⟨.k .mv,[.s 0],[20],none⟩,
  ⟨.k .mv,[.s 1],[21],none⟩,
  ⟨.k (.ix 1),[.s 20,.s 21],[22],none⟩,
  ⟨.k (.lr 1 false),[.s 22],[23],none⟩,
  ⟨.k (.ci .i64),[.s 23],[24],none⟩,
  ⟨.k .mv,[.s 24],[6],none⟩]) none (.seq (.reg [
  ⟨.k .mv,[.c (.i .i64 (0:Int))],[7],none⟩,
  ⟨.k .mv,[.c (.i .i64 (0:Int))],[8],none⟩,
  ⟨.k .mv,[.c (.i .i64 (0:Int))],[9],none⟩]) none (.seq (.block 0 [] (.seq (.reg [
  ⟨.k .mv,[.s 6],[26],none⟩,
  ⟨.k (.bin .lss),[.s 26,.c (.i .i64 (128:Int))],[27],none⟩,
  ⟨.k .mv,[.s 27],[25],none⟩]) none (.cond (.s 25) [] (.seq (.reg [
  ⟨.k .mv,[.s 6],[28],none⟩,
  ⟨.k .mv,[.s 28],[4],none⟩,
  ⟨.k .mv,[.c (.i .i64 (1:Int))],[5],none⟩]) none .ret) (.seq (.reg [
  ⟨.k .mv,[.s 6],[30],none⟩,
  ⟨.k (.bin .geq),[.s 30,.c (.i .i64 (192:Int))],[31],none⟩,
  ⟨.k .mv,[.s 31],[32],none⟩,
  ⟨.k .mv,[.s 6],[33],some (32,true)⟩,
  ⟨.k (.bin .lss),[.s 33,.c (.i .i64 (224:Int))],[34],some (32,true)⟩,
  ⟨.k .pick,[.s 32,.s 34,.c (.b false)],[35],none⟩,
  ⟨.k .mv,[.s 35],[29],none⟩]) none (.cond (.s 29) [] (.reg [
  ⟨.k .mv,[.s 6],[36],none⟩,
  ⟨.k (.bin .sub),[.s 36,.c (.i .i64 (192:Int))],[37],none⟩,
  ⟨.k .mv,[.c (.i .i64 (2:Int))],[7],none⟩,
  ⟨.k .mv,[.s 37],[8],none⟩,
  ⟨.k .mv,[.c (.i .i64 (128:Int))],[9],none⟩]) (.seq (.reg [
  ⟨.k .mv,[.s 6],[39],none⟩,
  ⟨.k (.bin .geq),[.s 39,.c (.i .i64 (224:Int))],[40],none⟩,
  ⟨.k .mv,[.s 40],[41],none⟩,
  ⟨.k .mv,[.s 6],[42],some (41,true)⟩,
  ⟨.k (.bin .lss),[.s 42,.c (.i .i64 (240:Int))],[43],some (41,true)⟩,
  ⟨.k .pick,[.s 41,.s 43,.c (.b false)],[44],none⟩,
  ⟨.k .mv,[.s 44],[38],none⟩]) none (.cond (.s 38) [] (.reg [
  ⟨.k .mv,[.s 6],[45],none⟩,
  ⟨.k (.bin .sub),[.s 45,.c (.i .i64 (224:Int))],[46],none⟩,
  ⟨.k .mv,[.c (.i .i64 (3:Int))],[7],none⟩,
  ⟨.k .mv,[.s 46],[8],none⟩,
  ⟨.k .mv,[.c (.i .i64 (2048:Int))],[9],none⟩]) (.seq (.reg [
  ⟨.k .mv,[.s 6],[48],none⟩,
  ⟨.k (.bin .geq),[.s 48,.c (.i .i64 (240:Int))],[49],none⟩,
  ⟨.k .mv,[.s 49],[50],none⟩,
  ⟨.k .mv,[.s 6],[51],some (50,true)⟩,
  ⟨.k (.bin .lss),[.s 51,.c (.i .i64 (248:Int))],[52],some (50,true)⟩,
  ⟨.k .pick,[.s 50,.s 52,.c (.b false)],[53],none⟩,
  ⟨.k .mv,[.s 53],[47],none⟩]) none (.cond (.s 47) [] (.reg [
  ⟨.k .mv,[.s 6],[54],none⟩,
  ⟨.k (.bin .sub),[.s 54,.c (.i .i64 (240:Int))],[55],none⟩,
  ⟨.k .mv,[.c (.i .i64 (4:Int))],[7],none⟩,
  ⟨.k .mv,[.s 55],[8],none⟩,
  ⟨.k .mv,[.c (.i .i64 (65536:Int))],[9],none⟩]) (.seq (.reg [
  ⟨.k .mv,[.c (.i .i64 (0:Int))],[4],none⟩,
  ⟨.k .mv,[.c (.i .i64 (0:Int))],[5],none⟩]) none .ret)))))))))) (some [0,1,7,8,9]) ref2_Rune.m2))))
def ref2_Rune.d:TFD:={ np:=2,m:=ref2_Rune.m,ref:=none,tips:=[],res:=[.t 4,.t 5],own:=[],new:=none,tnew:=[] }
noncomputable def ref2_Rune.F (b:List UInt8) (at_:Int):Option (List TV):=ref2_Rune.d.run ref2_Rune.E [(.sl .bs b),(.i .i64 at_)]
noncomputable def ref2_Rune.k1:Cont (List TV):=seqK (ev _ ref2_Rune.E (.seq (.seq (.reg [
  ⟨.k .mv,[.s 8],[85],none⟩,
  ⟨.k .mv,[.s 9],[86],none⟩,
  ⟨.k (.bin .lss),[.s 85,.s 86],[87],none⟩,
  ⟨.k .mv,[.s 87],[88],none⟩,
  ⟨.k .mv,[.s 8],[89],some (88,false)⟩,
  ⟨.k (.bin .gtr),[.s 89,.c (.i .i64 (1114111:Int))],[90],some (88,false)⟩,
  ⟨.k .pick,[.s 88,.c (.b true),.s 90],[91],none⟩,
  ⟨.k .mv,[.s 91],[92],none⟩,
  ⟨.k .mv,[.s 8],[93],some (92,false)⟩,
  ⟨.k (.bin .geq),[.s 93,.c (.i .i64 (55296:Int))],[94],some (92,false)⟩,
  ⟨.k .mv,[.s 94],[95],some (92,false)⟩,
  ⟨.k .mv,[.s 8],[96],some (95,true)⟩,
  ⟨.k (.bin .leq),[.s 96,.c (.i .i64 (57343:Int))],[97],some (95,true)⟩,
  ⟨.k .pick,[.s 95,.s 97,.c (.b false)],[98],some (92,false)⟩,
  ⟨.k .pick,[.s 92,.c (.b true),.s 98],[99],none⟩]) none (.cond (.s 99) [] (.seq (.reg [
  ⟨.k .mv,[.c (.i .i64 (0:Int))],[4],none⟩,
  ⟨.k .mv,[.c (.i .i64 (0:Int))],[5],none⟩]) none .ret) .skip)) none (.seq (.reg [
  ⟨.k .mv,[.s 8],[100],none⟩,
  ⟨.k .mv,[.s 7],[101],none⟩,
  ⟨.k .mv,[.s 100],[4],none⟩,
  ⟨.k .mv,[.s 101],[5],none⟩]) none .ret))) none (endK ref2_Rune.d)
noncomputable def ref2_Rune.j1 (x0:List UInt8) (x1:Int) (x2:Int) (x3:Int) (x4:Int):Option (List TV):=evO _ ref2_Rune.E ref2_Rune.m2 (headT [0,1,7,8,9] [(.sl .bs x0),(.i .i64 x1),(.i .i64 x2),(.i .i64 x3),(.i .i64 x4)]) (endK ref2_Rune.d)
noncomputable def ref2_Rune.l2 (x0:List UInt8) (x1:Int) (x2:Int) (x3:Int) (x4:Int) (x5:Int):Option (List TV):=loopL (evO _ ref2_Rune.E ref2_Rune.m1) isN [0,1,7,8,9,10] (headT [0,1,7,8,9,10] [(.sl .bs x0),(.i .i64 x1),(.i .i64 x2),(.i .i64 x3),(.i .i64 x4),(.i .i64 x5)]) (blockK 1 ref2_Rune.k1)
theorem ref2_Rune.j1_in (x0:List UInt8) (x1:Int) (x2:Int) (x3:Int) (x4:Int) {ρ:Option (List TV)} (K:∀(v1:Int) (h1:v1=(IntKind.i64.wrap (((x0).length:Int) - x1))),cond (decide (v1<x2))
  (some [(.i .i64 (0:Int)),(.i .i64 (0:Int))])
  (ref2_Rune.l2 x0 x1 x2 x3 x4 (1:Int))=ρ):ref2_Rune.j1 x0 x1 x2 x3 x4=ρ:=((congrFun (congrFun (ev_eq _ _) _) _).trans (by kernel_rfl)).trans (K _ rfl)
theorem ref2_Rune.l2_in (x0:List UInt8) (x1:Int) (x2:Int) (x3:Int) (x4:Int) (x5:Int) {ρ:Option (List TV)} (K:∀(v1:UInt8) (h1:v1=(List.getD x0 ((IntKind.i64.wrap (x1+x5))).toNat (0:UInt8))) (v2:Int) (h2:v2=(IntKind.i64.wrap ((v1).toNat:Int))) (v3:Bool) (h3:v3=(cond (decide (v2<(128:Int))) true (decide ((192:Int)≤v2)))) (v4:Int) (h4:v4=(IntKind.i64.wrap (x3 * (64:Int)))) (v5:Int) (h5:v5=(IntKind.i64.wrap ((IntKind.i64.wrap (v4+v2)) - (128:Int)))) (v6:Int) (h6:v6=(IntKind.i64.wrap (x5+(1:Int)))) (v7:Bool) (h7:v7=(cond (decide (x3<x4)) true (decide ((1114111:Int)<x3)))) (v8:Bool) (h8:v8=((!v7)&&(decide ((55296:Int)≤x3)))) (v9:Bool) (h9:v9=(cond (decide ((55296:Int)≤x3)) (decide (x3≤(57343:Int))) false)),cond (decide (x5<x2))
  (ck (idxOK (IntKind.i64.wrap (x1+x5)) (x0).length) (ck (!(!(decide (v2<(128:Int)))) || (!(decide (v2<(128:Int))))) (ck ((decide (v2<(128:Int))) || (!(decide (v2<(128:Int))))) (cond v3
  (some [(.i .i64 (0:Int)),(.i .i64 (0:Int))])
  (ref2_Rune.l2 x0 x1 x2 v5 x4 v6)))))
  (ck (!(!(decide (x3<x4))) || (!(decide (x3<x4)))) (ck ((decide (x3<x4)) || (!(decide (x3<x4)))) (ck (!(!v7) || (!v7)) (ck (!(!v7) || (!v7)) (ck (!v8 || v8) (ck (!(!v7) || ((!v7)&&(!(decide ((55296:Int)≤x3)) || v8))) (ck (v7 || (!v7)) (cond (cond v7 true v9)
  (some [(.i .i64 (0:Int)),(.i .i64 (0:Int))])
  (some [(.i .i64 x3),(.i .i64 x2)])))))))))=ρ):ref2_Rune.l2 x0 x1 x2 x3 x4 x5=ρ:=((ev_loop _ _ _ _ _ _).trans (by kernel_rfl)).trans (K _ rfl _ rfl _ rfl _ rfl _ rfl _ rfl _ rfl _ rfl _ rfl)
theorem ref2_Rune.F_in (b:List UInt8) (at_:Int) {ρ:Option (List TV)} (K:∀(v1:Bool) (h1:v1=(cond (decide (at_<(0:Int))) true (decide (((b).length:Int)≤at_)))) (v2:UInt8) (h2:v2=(List.getD b (at_).toNat (0:UInt8))) (v3:Int) (h3:v3=(IntKind.i64.wrap ((v2).toNat:Int))) (v4:Bool) (h4:v4=(cond (decide ((192:Int)≤v3)) (decide (v3<(224:Int))) false)) (v5:Int) (h5:v5=(IntKind.i64.wrap (v3 - (192:Int)))) (v6:Bool) (h6:v6=(cond (decide ((224:Int)≤v3)) (decide (v3<(240:Int))) false)) (v7:Int) (h7:v7=(IntKind.i64.wrap (v3 - (224:Int)))) (v8:Bool) (h8:v8=(cond (decide ((240:Int)≤v3)) (decide (v3<(248:Int))) false)) (v9:Int) (h9:v9=(IntKind.i64.wrap (v3 - (240:Int)))),ck (!(!(decide (at_<(0:Int)))) || (!(decide (at_<(0:Int))))) (ck (!(!(decide (at_<(0:Int)))) || ((!(decide (at_<(0:Int))))&&(!(decide (at_<(0:Int)))))) (ck ((decide (at_<(0:Int))) || (!(decide (at_<(0:Int))))) (cond v1
  (some [(.i .i64 (0:Int)),(.i .i64 (0:Int))])
  (ck (idxOK at_ (b).length) (cond (decide (v3<(128:Int)))
  (some [(.i .i64 v3),(.i .i64 (1:Int))])
  (ck (!(decide ((192:Int)≤v3)) || (decide ((192:Int)≤v3))) (ck (!(decide ((192:Int)≤v3)) || (decide ((192:Int)≤v3))) (cond v4
  (ref2_Rune.j1 b at_ (2:Int) v5 (128:Int))
  (ck (!(decide ((224:Int)≤v3)) || (decide ((224:Int)≤v3))) (ck (!(decide ((224:Int)≤v3)) || (decide ((224:Int)≤v3))) (cond v6
  (ref2_Rune.j1 b at_ (3:Int) v7 (2048:Int))
  (ck (!(decide ((240:Int)≤v3)) || (decide ((240:Int)≤v3))) (ck (!(decide ((240:Int)≤v3)) || (decide ((240:Int)≤v3))) (cond v8
  (ref2_Rune.j1 b at_ (4:Int) v9 (65536:Int))
  (some [(.i .i64 (0:Int)),(.i .i64 (0:Int))])))))))))))))))=ρ):ref2_Rune.F b at_=ρ:=Eq.trans (by kernel_rfl) (K _ rfl _ rfl _ rfl _ rfl _ rfl _ rfl _ rfl _ rfl _ rfl)
theorem ref2_Rune.chk:((Go.Proofs.Try.prog.funcs[46]?).any fun fn=>chkF Go.Proofs.Try.prog (fun k=>((envL noGl ref2_Rune.env).fs k).2) fn ref2_Rune.d.erase)=true:=by kernel_rfl
def ref2_Check.env:List (Nat × (Ctr × FSig)):=[(46,(ref2_Rune.c,ref2_Rune.sg))]
def ref2_Check.E:TEnv:=envL noGl ref2_Check.env
def ref2_Check.m1:TM := .seq (.seq (.reg [
  ⟨.k .mv,[.s 4],[7],none⟩,
  ⟨.k .mv,[.s 0],[8],none⟩,
  ⟨.k .len,[.s 8],[9],none⟩,
  ⟨.k (.bin .lss),[.s 7,.s 9],[10],none⟩]) none (.cond (.s 10) [] .skip (.exit 0))) none (.block 1 [] (.seq (.reg [
  ⟨.k .mv,[.s 0],[12],none⟩,
  ⟨.k .mv,[.s 4],[13],none⟩,
  ⟨.k (.call 46 (.plain 2 2)),[.s 12,.s 13],[14],none⟩,
  ⟨.k .mv,[.s 14],[11],none⟩,
  ⟨.k (.ex 0),[.s 11],[15],none⟩,
  ⟨.k (.ex 1),[.s 11],[16],none⟩,
  ⟨.k .mv,[.s 15],[5],none⟩,
  ⟨.k .mv,[.s 16],[6],none⟩]) none (.seq (.seq (.reg [
  ⟨.k .mv,[.s 6],[17],none⟩,
  ⟨.k (.bin .eql),[.s 17,.c (.i .i64 (0:Int))],[18],none⟩]) none (.cond (.s 18) [] (.seq (.reg [
  ⟨.k .mv,[.s 4],[19],none⟩,
  ⟨.k .mv,[.s 19],[2],none⟩,
  ⟨.k .mv,[.c (.b false)],[3],none⟩]) none .ret) .skip)) none (.reg [
  ⟨.k .mv,[.s 4],[20],none⟩,
  ⟨.k .mv,[.s 6],[21],none⟩,
  ⟨.k (.bin .add),[.s 20,.s 21],[22],none⟩,
  ⟨.k .mv,[.s 22],[4],none⟩]))))
def ref2_Check.m:TM := .seq (.reg [
  ⟨.k .mv,[.c (.i .i64 (0:Int))],[2],none⟩,
  ⟨.k .mv,[.c (.b false)],[3],none⟩]) none (.seq (.seq (.reg [
  ⟨.k .mv,[.c (.i .i64 (0:Int))],[4],none⟩]) none (.block 0 [] (.loop [0,4] [] ref2_Check.m1))) none (.seq (.reg [
  ⟨.k .mv,[.s 0],[23],none⟩,
  ⟨.k .len,[.s 23],[24],none⟩,
  ⟨.k .mv,[.s 24],[2],none⟩,
  ⟨.k .mv,[.c (.b true)],[3],none⟩]) none .ret))
def ref2_Check.d:TFD:={ np:=1,m:=ref2_Check.m,ref:=none,tips:=[],res:=[.t 2,.t 3],own:=[],new:=none,tnew:=[] }
noncomputable def ref2_Check.F (b:List UInt8):Option (List TV):=ref2_Check.d.run ref2_Check.E [(.sl .bs b)]
noncomputable def ref2_Check.k1:Cont (List TV):=seqK (ev _ ref2_Check.E (.seq (.reg [
  ⟨.k .mv,[.s 0],[23],none⟩,
  ⟨.k .len,[.s 23],[24],none⟩,
  ⟨.k .mv,[.s 24],[2],none⟩,
  ⟨.k .mv,[.c (.b true)],[3],none⟩]) none .ret)) none (endK ref2_Check.d)
noncomputable def ref2_Check.l1 (x0:List UInt8) (x1:Int):Option (List TV):=loopL (evO _ ref2_Check.E ref2_Check.m1) isN [0,4] (headT [0,4] [(.sl .bs x0),(.i .i64 x1)]) (blockK 0 ref2_Check.k1)
theorem ref2_Check.l1_in (x0:List UInt8) (x1:Int) {ρ:Option (List TV)} (K:∀(v1:Int) (h1:v1=(IntKind.i64.wrap (x1+((Utf.runeAt x0 x1).2)))),cond (decide (x1<((x0).length:Int)))
  (ck (decide (x0.length≤1099511627776)) (cond (decide (((Utf.runeAt x0 x1).2)=(0:Int)))
  (some [(.i .i64 x1),(.b false)])
  (ref2_Check.l1 x0 v1)))
  (some [(.i .i64 ((x0).length:Int)),(.b true)])=ρ):ref2_Check.l1 x0 x1=ρ:=((ev_loop _ _ _ _ _ _).trans (by kernel_rfl)).trans (K _ rfl)
theorem ref2_Check.F_eq (b:List UInt8):ref2_Check.F b=ref2_Check.l1 b (0:Int):=by kernel_rfl
theorem ref2_Check.chk:((Go.Proofs.Try.prog.funcs[43]?).any fun fn=>chkF Go.Proofs.Try.prog (fun k=>((envL noGl ref2_Check.env).fs k).2) fn ref2_Check.d.erase)=true:=by kernel_rfl
def ref2_Whole.env:List (Nat × (Ctr × FSig)):=[(43,(ref2_Check.c,ref2_Check.sg))]
def ref2_Whole.E:TEnv:=envL noGl ref2_Whole.env
def ref2_Whole.m:TM := .seq (.reg [
  ⟨.k .mv,[.c (.b false)],[2],none⟩]) none (.seq (.reg [
  ⟨.k .mv,[.s 0],[6],none⟩,
  ⟨.k .sb,[.s 6],[7],none⟩,
  ⟨.k (.call 43 (.plain 1 2)),[.s 7],[8],none⟩,
  ⟨.k .mv,[.s 8],[5],none⟩,
  ⟨.k (.ex 0),[.s 5],[9],none⟩,
  ⟨.k (.ex 1),[.s 5],[10],none⟩,
  ⟨.k .mv,[.s 9],[3],none⟩,
  ⟨.k .mv,[.s 10],[4],none⟩]) none (.seq (.reg [
  ⟨.k .mv,[.s 4],[11],none⟩,
  ⟨.k .mv,[.s 11],[2],none⟩]) none .ret))
def ref2_Whole.d:TFD:={ np:=1,m:=ref2_Whole.m,ref:=none,tips:=[],res:=[.t 2],own:=[],new:=none,tnew:=[] }
noncomputable def ref2_Whole.F (s:Str):Option (List TV):=ref2_Whole.d.run ref2_Whole.E [(.s s)]
theorem ref2_Whole.F_eq (s:Str):ref2_Whole.F s=ck (lenOK (s).length) (ck (decide (s.length≤1099511627776)) (some [(.b (Utf.whole s))])):=by kernel_rfl
theorem ref2_Whole.chk:((Go.Proofs.Try.prog.funcs[39]?).any fun fn=>chkF Go.Proofs.Try.prog (fun k=>((envL noGl ref2_Whole.env).fs k).2) fn ref2_Whole.d.erase)=true:=by kernel_rfl
def ref2_Zero.env:List (Nat × (Ctr × FSig)):=[]
def ref2_Zero.E:TEnv:=envL noGl ref2_Zero.env
def ref2_Zero.m1:TM := .seq (.seq (.reg [
  ⟨.k .mv,[.s 3],[4],none⟩,
  ⟨.k .mv,[.s 0],[5],none⟩,
  ⟨.k .lns,[.s 5],[6],none⟩,
  ⟨.k (.bin .lss),[.s 4,.s 6],[7],none⟩]) none (.cond (.s 7) [] .skip (.exit 0))) none (.seq (.block 1 [] (.seq (.reg [
  ⟨.k .mv,[.s 0],[10],none⟩,
  ⟨.k .mv,[.s 3],[11],none⟩,
  ⟨.k .si,[.s 10,.s 11],[12],none⟩,
  ⟨.k (.bin .eql),[.s 12,.c (.u8 (0:UInt8))],[13],none⟩]) none (.cond (.s 13) [] (.seq (.reg [
  ⟨.k .mv,[.c (.b true)],[2],none⟩]) none .ret) .skip))) none (.reg [
  ⟨.k .mv,[.s 3],[8],none⟩,
  ⟨.k (.bin .add),[.s 8,.c (.i .i64 (1:Int))],[9],none⟩,
  ⟨.k .mv,[.s 9],[3],none⟩]))
def ref2_Zero.m:TM := .seq (.reg [
  ⟨.k .mv,[.c (.b false)],[2],none⟩]) none (.seq (.seq (.reg [
  ⟨.k .mv,[.c (.i .i64 (0:Int))],[3],none⟩]) none (.block 0 [] (.loop [0,3] [] ref2_Zero.m1))) none (.seq (.reg [
  ⟨.k .mv,[.c (.b false)],[2],none⟩]) none .ret))
def ref2_Zero.d:TFD:={ np:=1,m:=ref2_Zero.m,ref:=none,tips:=[],res:=[.t 2],own:=[],new:=none,tnew:=[] }
noncomputable def ref2_Zero.F (s:Str):Option (List TV):=ref2_Zero.d.run ref2_Zero.E [(.s s)]
noncomputable def ref2_Zero.k1:Cont (List TV):=seqK (ev _ ref2_Zero.E (.seq (.reg [
  ⟨.k .mv,[.c (.b false)],[2],none⟩]) none .ret)) none (endK ref2_Zero.d)
noncomputable def ref2_Zero.l1 (x0:Str) (x1:Int):Option (List TV):=loopL (evO _ ref2_Zero.E ref2_Zero.m1) isN [0,3] (headT [0,3] [(.s x0),(.i .i64 x1)]) (blockK 0 ref2_Zero.k1)
theorem ref2_Zero.l1_in (x0:Str) (x1:Int) {ρ:Option (List TV)} (K:∀(v1:UInt8) (h1:v1=(List.getD x0 (x1).toNat (0:UInt8))) (v2:Int) (h2:v2=(IntKind.i64.wrap (x1+(1:Int)))),cond (decide (x1<((x0).length:Int)))
  (ck (idxOK x1 (x0).length) (cond (decide (v1=(0:UInt8)))
  (some [(.b true)])
  (ref2_Zero.l1 x0 v2)))
  (some [(.b false)])=ρ):ref2_Zero.l1 x0 x1=ρ:=((ev_loop _ _ _ _ _ _).trans (by kernel_rfl)).trans (K _ rfl _ rfl)
theorem ref2_Zero.F_eq (s:Str):ref2_Zero.F s=ref2_Zero.l1 s (0:Int):=by kernel_rfl
theorem ref2_Zero.chk:((Go.Proofs.Try.prog.funcs[40]?).any fun fn=>chkF Go.Proofs.Try.prog (fun k=>((envL noGl ref2_Zero.env).fs k).2) fn ref2_Zero.d.erase)=true:=by kernel_rfl
def sl_IndexByte.env:List (Nat × (Ctr × FSig)):=[]
def sl_IndexByte.E:TEnv:=envL noGl sl_IndexByte.env
def sl_IndexByte.m:TM := .seq (.reg [
  ⟨.k .mv,[.c (.i .i64 (0:Int))],[4],none⟩]) none (.seq (.reg [
  ⟨.k .mv,[.s 0],[5],none⟩,
  ⟨.k .mv,[.s 1],[6],none⟩,
  ⟨.k .xib,[.s 5,.s 6],[7],none⟩,
  ⟨.k .mv,[.s 7],[4],none⟩]) none .ret)
def sl_IndexByte.d:TFD:={ np:=2,m:=sl_IndexByte.m,ref:=none,tips:=[],res:=[.t 4],own:=[],new:=none,tnew:=[] }
noncomputable def sl_IndexByte.F (s:Str) (c:UInt8):Option (List TV):=sl_IndexByte.d.run sl_IndexByte.E [(.s s),(.u8 c)]
theorem sl_IndexByte.F_eq (s:Str) (c:UInt8):sl_IndexByte.F s c=some [(.i .i64 (Lib.indexByte s c))]:=by kernel_rfl
theorem sl_IndexByte.chk:((Go.Proofs.Try.prog.funcs[48]?).any fun fn=>chkF Go.Proofs.Try.prog (fun k=>((envL noGl sl_IndexByte.env).fs k).2) fn sl_IndexByte.d.erase)=true:=by kernel_rfl
def sl_Index.env:List (Nat × (Ctr × FSig)):=[(48,(sl_IndexByte.c,sl_IndexByte.sg))]
def sl_Index.E:TEnv:=envL noGl sl_Index.env
def sl_Index.m1:TM := .seq (.seq (.reg [
  ⟨.k .mv,[.s 0],[78],none⟩,
  ⟨.k .mv,[.s 8],[79],none⟩,
  ⟨.k (.bin .add),[.s 79,.c (.i .i64 (1:Int))],[80],none⟩,
  ⟨.k .si,[.s 78,.s 80],[81],none⟩,
  ⟨.k .mv,[.s 7],[82],none⟩,
  ⟨.k (.bin .eql),[.s 81,.s 82],[83],none⟩,
  ⟨.k .mv,[.s 83],[84],none⟩,
  ⟨.k .mv,[.s 0],[85],some (84,true)⟩,
  ⟨.k .mv,[.s 8],[86],some (84,true)⟩,
  ⟨.k .mv,[.s 8],[87],some (84,true)⟩,
  ⟨.k .mv,[.s 5],[88],some (84,true)⟩,
  ⟨.k (.bin .add),[.s 87,.s 88],[89],some (84,true)⟩,
  ⟨.k (.ss true true),[.s 85,.s 86,.s 89],[90],some (84,true)⟩,
  ⟨.k .mv,[.s 1],[91],some (84,true)⟩,
  ⟨.k (.bin .eql),[.s 90,.s 91],[92],some (84,true)⟩,
  ⟨.k .pick,[.s 84,.s 92,.c (.b false)],[93],none⟩]) none (.cond (.s 93) [] (.seq (.reg [
  ⟨.k .mv,[.s 8],[94],none⟩,
  ⟨.k .mv,[.s 94],[4],none⟩]) none .ret) .skip)) none (.seq (.reg [
  ⟨.k .mv,[.s 8],[95],none⟩,
  ⟨.k (.bin .add),[.s 95,.c (.i .i64 (1:Int))],[96],none⟩,
  ⟨.k .mv,[.s 96],[8],none⟩]) none (.seq (.reg [
  ⟨.k .mv,[.s 10],[97],none⟩,
  ⟨.k (.bin .add),[.s 97,.c (.i .i64 (1:Int))],[98],none⟩,
  ⟨.k .mv,[.s 98],[10],none⟩]) none (.seq (.reg [
  ⟨.k .mv,[.s 5],[99],none⟩,
  ⟨.k (.lr 1 false),[.g 0],[100],none⟩,
  ⟨.k (.bin .leq),[.s 99,.s 100],[101],none⟩,
  ⟨.k .mv,[.s 101],[102],none⟩,
  ⟨.k .mv,[.s 10],[103],some (102,true)⟩,
  ⟨.k .mv,[.s 8],[104],some (102,true)⟩,
  ⟨.k (.call 50 (.plain 1 1)),[.s 104],[105],some (102,true)⟩,
  ⟨.k (.bin .gtr),[.s 103,.s 105],[106],some (102,true)⟩,
  ⟨.k .pick,[.s 102,.s 106,.c (.b false)],[107],none⟩]) none (.cond (.s 107) [] (.seq (.reg [
  ⟨.k .mv,[.s 0],[108],none⟩,
  ⟨.k .mv,[.s 8],[109],none⟩,
  ⟨.k (.ss true false),[.s 108,.s 109],[110],none⟩,
  ⟨.k .mv,[.s 1],[111],none⟩,
  ⟨.k (.nev true),[],[112],none⟩,
  ⟨.k .mv,[.s 112],[12],none⟩]) none (.seq (.seq (.reg [
  ⟨.k .mv,[.s 12],[113],none⟩,
  ⟨.k (.bin .geq),[.s 113,.c (.i .i64 (0:Int))],[114],none⟩]) none (.cond (.s 114) [] (.seq (.reg [
  ⟨.k .mv,[.s 12],[115],none⟩,
  ⟨.k .mv,[.s 8],[116],none⟩,
  ⟨.k (.bin .add),[.s 115,.s 116],[117],none⟩,
  ⟨.k .mv,[.s 117],[4],none⟩]) none .ret) .skip)) none (.seq (.reg [
  ⟨.k .mv,[.c (.i .i64 (-1:Int))],[4],none⟩]) none .ret))) (.seq (.reg [
  ⟨.k .mv,[.s 5],[118],none⟩,
  ⟨.k (.lr 1 false),[.g 0],[119],none⟩,
  ⟨.k (.bin .gtr),[.s 118,.s 119],[120],none⟩,
  ⟨.k .mv,[.s 120],[121],none⟩,
  ⟨.k .mv,[.s 10],[122],some (121,true)⟩,
  ⟨.k .mv,[.s 8],[123],some (121,true)⟩,
  ⟨.k (.bin .shr),[.s 123,.c (.u64 (4:UInt64))],[124],some (121,true)⟩,
  ⟨.k (.bin .add),[.c (.i .i64 (4:Int)),.s 124],[125],some (121,true)⟩,
  ⟨.k (.bin .geq),[.s 122,.s 125],[126],some (121,true)⟩,
  ⟨.k .pick,[.s 121,.s 126,.c (.b false)],[127],none⟩,
  ⟨.k .mv,[.s 127],[128],none⟩,
  ⟨.k .mv,[.s 8],[129],some (128,true)⟩,
  ⟨.k .mv,[.s 9],[130],some (128,true)⟩,
  ⟨.k (.bin .lss),[.s 129,.s 130],[131],some (128,true)⟩,
  ⟨.k .pick,[.s 128,.s 131,.c (.b false)],[132],none⟩]) none (.cond (.s 132) [] (.seq (.reg [
  ⟨.k .mv,[.s 0],[133],none⟩,
  ⟨.k .mv,[.s 8],[134],none⟩,
  ⟨.k (.ss true false),[.s 133,.s 134],[135],none⟩,
  ⟨.k .mv,[.s 1],[136],none⟩,
  ⟨.k (.call 51 (.plain 2 1)),[.s 135,.s 136],[137],none⟩,
  ⟨.k .mv,[.s 137],[13],none⟩]) none (.seq (.seq (.reg [
  ⟨.k .mv,[.s 13],[138],none⟩,
  ⟨.k (.bin .lss),[.s 138,.c (.i .i64 (0:Int))],[139],none⟩]) none (.cond (.s 139) [] (.seq (.reg [
  ⟨.k .mv,[.c (.i .i64 (-1:Int))],[4],none⟩]) none .ret) .skip)) none (.seq (.reg [
  ⟨.k .mv,[.s 8],[140],none⟩,
  ⟨.k .mv,[.s 13],[141],none⟩,
  ⟨.k (.bin .add),[.s 140,.s 141],[142],none⟩,
  ⟨.k .mv,[.s 142],[4],none⟩]) none .ret))) .skip))))))
def sl_Index.m2:TM := .seq (.seq (.reg [
  ⟨.k .mv,[.s 8],[57],none⟩,
  ⟨.k .mv,[.s 9],[58],none⟩,
  ⟨.k (.bin .lss),[.s 57,.s 58],[59],none⟩]) none (.cond (.s 59) [] .skip (.exit 1))) none (.block 2 [] (.seq (.seq (.reg [
  ⟨.k .mv,[.s 0],[60],none⟩,
  ⟨.k .mv,[.s 8],[61],none⟩,
  ⟨.k .si,[.s 60,.s 61],[62],none⟩,
  ⟨.k .mv,[.s 6],[63],none⟩,
  ⟨.k (.bin .neq),[.s 62,.s 63],[64],none⟩]) none (.cond (.s 64) [] (.seq (.reg [
  ⟨.k .mv,[.s 0],[65],none⟩,
  ⟨.k .mv,[.s 8],[66],none⟩,
  ⟨.k (.bin .add),[.s 66,.c (.i .i64 (1:Int))],[67],none⟩,
  ⟨.k .mv,[.s 9],[68],none⟩,
  ⟨.k (.ss true true),[.s 65,.s 67,.s 68],[69],none⟩,
  ⟨.k .mv,[.s 6],[70],none⟩,
  ⟨.k (.call 48 (.plain 2 1)),[.s 69,.s 70],[71],none⟩,
  ⟨.k .mv,[.s 71],[11],none⟩]) none (.seq (.seq (.reg [
  ⟨.k .mv,[.s 11],[72],none⟩,
  ⟨.k (.bin .lss),[.s 72,.c (.i .i64 (0:Int))],[73],none⟩]) none (.cond (.s 73) [] (.seq (.reg [
  ⟨.k .mv,[.c (.i .i64 (-1:Int))],[4],none⟩]) none .ret) .skip)) none (.reg [
  ⟨.k .mv,[.s 8],[74],none⟩,
  ⟨.k .mv,[.s 11],[75],none⟩,
  ⟨.k (.bin .add),[.s 75,.c (.i .i64 (1:Int))],[76],none⟩,
  ⟨.k (.bin .add),[.s 74,.s 76],[77],none⟩,
  ⟨.k .mv,[.s 77],[8],none⟩]))) .skip)) (some [0,1,5,6,7,8,9,10]) sl_Index.m1))
def sl_Index.m:TM := .seq (.reg [
  ⟨.k .mv,[.c (.i .i64 (0:Int))],[4],none⟩]) none (.seq (.reg [
  ⟨.k .mv,[.s 1],[14],none⟩,
  ⟨.k .lns,[.s 14],[15],none⟩,
  ⟨.k .mv,[.s 15],[5],none⟩]) none (.seq (.block 0 [] (.seq (.reg [
  ⟨.k .mv,[.s 5],[17],none⟩,
  ⟨.k (.bin .eql),[.s 17,.c (.i .i64 (0:Int))],[18],none⟩,
  ⟨.k .mv,[.s 18],[19],none⟩,
  ⟨.k .mv,[.s 1],[20],some (19,false)⟩,
  ⟨.k .mv,[.s 0],[21],some (19,false)⟩,
  ⟨.k (.bin .eql),[.s 20,.s 21],[22],some (19,false)⟩,
  ⟨.k .pick,[.s 19,.c (.b true),.s 22],[23],none⟩,
  ⟨.k .mv,[.s 23],[16],none⟩]) none (.cond (.s 16) [] (.seq (.reg [
  ⟨.k .mv,[.c (.i .i64 (0:Int))],[4],none⟩]) none .ret) (.seq (.reg [
  ⟨.k .mv,[.s 5],[25],none⟩,
  ⟨.k (.bin .eql),[.s 25,.c (.i .i64 (1:Int))],[26],none⟩,
  ⟨.k .mv,[.s 26],[24],none⟩]) none (.cond (.s 24) [] (.seq (.reg [
  ⟨.k .mv,[.s 0],[27],none⟩,
  ⟨.k .mv,[.s 1],[28],none⟩,
  ⟨.k .si,[.s 28,.c (.i .i64 (0:Int))],[29],none⟩,
  ⟨.k (.call 48 (.plain 2 1)),[.s 27,.s 29],[30],none⟩,
  ⟨.k .mv,[.s 30],[4],none⟩]) none .ret) (.seq (.reg [
  ⟨.k .mv,[.s 5],[32],none⟩,
  ⟨.k .mv,[.s 0],[33],none⟩,
  ⟨.k .lns,[.s 33],[34],none⟩,
  ⟨.k (.bin .geq),[.s 32,.s 34],[35],none⟩,
  ⟨.k .mv,[.s 35],[31],none⟩]) none (.cond (.s 31) [] (.seq (.reg [
  ⟨.k .mv,[.c (.i .i64 (-1:Int))],[4],none⟩]) none .ret) (.seq (.reg [
  ⟨.k .mv,[.s 5],[37],none⟩,
  ⟨.k (.lr 1 false),[.g 0],[38],none⟩,
  ⟨.k (.bin .leq),[.s 37,.s 38],[39],none⟩,
  ⟨.k .mv,[.s 39],[40],none⟩,
  ⟨.k .mv,[.s 0],[41],some (40,true)⟩,
  ⟨.k .lns,[.s 41],[42],some (40,true)⟩,
  ⟨.k (.bin .leq),[.s 42,.c (.i .i64 (64:Int))],[43],some (40,true)⟩,
  ⟨.k .pick,[.s 40,.s 43,.c (.b false)],[44],none⟩,
  ⟨.k .mv,[.s 44],[36],none⟩]) none (.cond (.s 36) [] (.seq (.reg [
  ⟨.k .mv,[.s 0],[45],none⟩,
  ⟨.k .mv,[.s 1],[46],none⟩,
  ⟨.k (.nev true),[],[47],none⟩,
  ⟨.k .mv,[.s 47],[4],none⟩]) none .ret) .skip))))))))) none (.seq (.reg [
  ⟨.k .mv,[.s 1],[48],none⟩,
  ⟨.k .si,[.s 48,.c (.i .i64 (0:Int))],[49],none⟩,
  ⟨.k .mv,[.s 49],[6],none⟩]) none (.seq (.reg [
  ⟨.k .mv,[.s 1],[50],none⟩,
  ⟨.k .si,[.s 50,.c (.i .i64 (1:Int))],[51],none⟩,
  ⟨.k .mv,[.s 51],[7],none⟩]) none (.seq (.reg [
  ⟨.k .mv,[.c (.i .i64 (0:Int))],[8],none⟩]) none (.seq (.reg [
  ⟨.k .mv,[.s 0],[52],none⟩,
  ⟨.k .lns,[.s 52],[53],none⟩,
  ⟨.k .mv,[.s 5],[54],none⟩,
  ⟨.k (.bin .sub),[.s 53,.s 54],[55],none⟩,
  ⟨.k (.bin .add),[.s 55,.c (.i .i64 (1:Int))],[56],none⟩,
  ⟨.k .mv,[.s 56],[9],none⟩]) none (.seq (.reg [
  ⟨.k .mv,[.c (.i .i64 (0:Int))],[10],none⟩]) none (.seq (.block 1 [] (.loop [0,1,5,6,7,8,9,10] [] sl_Index.m2)) none (.seq (.reg [
  ⟨.k .mv,[.c (.i .i64 (-1:Int))],[4],none⟩]) none .ret)))))))))
def sl_Index.d:TFD:={ np:=2,m:=sl_Index.m,ref:=none,tips:=[],res:=[.t 4],own:=[],new:=none,tnew:=[] }
noncomputable def sl_Index.F (s:Str) (t:Str):Option (List TV):=sl_Index.d.run sl_Index.E [(.s s),(.s t)]
theorem sl_Index.F_in (s:Str) (t:Str) {ρ:Option (List TV)} (K:∀(v1:Bool) (h1:v1=(cond (decide (((t).length:Int)=(0:Int))) true (decide (t=s)))) (v2:UInt8) (h2:v2=(List.getD t ((0:Int)).toNat (0:UInt8))),ck (!(!(decide (((t).length:Int)=(0:Int)))) || ((!(decide (((t).length:Int)=(0:Int))))&&(!(decide (((t).length:Int)=(0:Int)))))) (ck ((decide (((t).length:Int)=(0:Int))) || (!(decide (((t).length:Int)=(0:Int))))) (cond v1
  (some [(.i .i64 (0:Int))])
  (cond (decide (((t).length:Int)=(1:Int)))
  (ck (idxOK (0:Int) (t).length) (some [(.i .i64 (Lib.indexByte s v2))]))
  (cond (decide (((s).length:Int)≤((t).length:Int)))
  (some [(.i .i64 (-1:Int))])
  (none)))))=ρ):sl_Index.F s t=ρ:=Eq.trans (by kernel_rfl) (K _ rfl _ rfl)
theorem sl_Index.chk:((Go.Proofs.Try.prog.funcs[45]?).any fun fn=>chkF Go.Proofs.Try.prog (fun k=>((envL noGl sl_Index.env).fs k).2) fn sl_Index.d.erase)=true:=by kernel_rfl
def st_Index.env:List (Nat × (Ctr × FSig)):=[(45,(sl_Index.c,sl_Index.sg))]
def st_Index.E:TEnv:=envL noGl st_Index.env
def st_Index.m:TM := .seq (.reg [
  ⟨.k .mv,[.c (.i .i64 (0:Int))],[4],none⟩]) none (.seq (.reg [
  ⟨.k .mv,[.s 0],[5],none⟩,
  ⟨.k .mv,[.s 1],[6],none⟩,
  ⟨.k (.call 45 (.plain 2 1)),[.s 5,.s 6],[7],none⟩,
  ⟨.k .mv,[.s 7],[4],none⟩]) none .ret)
def st_Index.d:TFD:={ np:=2,m:=st_Index.m,ref:=none,tips:=[],res:=[.t 4],own:=[],new:=none,tnew:=[] }
noncomputable def st_Index.F (s:Str) (t:Str):Option (List TV):=st_Index.d.run st_Index.E [(.s s),(.s t)]
theorem st_Index.F_in (s:Str) (t:Str) {ρ:Option (List TV)} (K:∀(v1:Int) (h1:v1=(Lib.indexByte s (t.getD 0 0))),ck (decide (t.length=1)) (some [(.i .i64 v1)])=ρ):st_Index.F s t=ρ:=Eq.trans (by kernel_rfl) (K _ rfl)
theorem st_Index.chk:((Go.Proofs.Try.prog.funcs[42]?).any fun fn=>chkF Go.Proofs.Try.prog (fun k=>((envL noGl st_Index.env).fs k).2) fn st_Index.d.erase)=true:=by kernel_rfl
def st_Contains.env:List (Nat × (Ctr × FSig)):=[(42,(st_Index.c,st_Index.sg))]
def st_Contains.E:TEnv:=envL noGl st_Contains.env
def st_Contains.m:TM := .seq (.reg [
  ⟨.k .mv,[.c (.b false)],[4],none⟩]) none (.seq (.reg [
  ⟨.k .mv,[.s 0],[5],none⟩,
  ⟨.k .mv,[.s 1],[6],none⟩,
  ⟨.k (.call 42 (.plain 2 1)),[.s 5,.s 6],[7],none⟩,
  ⟨.k (.bin .geq),[.s 7,.c (.i .i64 (0:Int))],[8],none⟩,
  ⟨.k .mv,[.s 8],[4],none⟩]) none .ret)
def st_Contains.d:TFD:={ np:=2,m:=st_Contains.m,ref:=none,tips:=[],res:=[.t 4],own:=[],new:=none,tnew:=[] }
noncomputable def st_Contains.F (s:Str) (t:Str):Option (List TV):=st_Contains.d.run st_Contains.E [(.s s),(.s t)]
theorem st_Contains.F_in (s:Str) (t:Str) {ρ:Option (List TV)} (K:∀(v1:Int) (h1:v1=(Lib.indexByte s (t.getD 0 0))),ck (decide (t.length=1)) (some [(.b (decide ((0:Int)≤v1)))])=ρ):st_Contains.F s t=ρ:=Eq.trans (by kernel_rfl) (K _ rfl)
theorem st_Contains.chk:((Go.Proofs.Try.prog.funcs[37]?).any fun fn=>chkF Go.Proofs.Try.prog (fun k=>((envL noGl st_Contains.env).fs k).2) fn st_Contains.d.erase)=true:=by kernel_rfl
theorem clone_is.ok:SpecOK Go.Proofs.Try.prog (fun n=>(noGl n).av) 30 (Ctr.fs (clone_is.c,clone_is.sg)):=cloneP_ok (t := .is) (b:=8) (by kernel_rfl)
def tree_Name.env:List (Nat × (Ctr × FSig)):=[]
def tree_Name.E:TEnv:=envL noGl tree_Name.env
def tree_Name.m:TM := .seq (.reg [
  ⟨.k .mv,[.c (.s ([]:Str))],[2],none⟩]) none (.seq (.reg [
  ⟨.bd [(.s ([]:Str)),(.s ([]:Str)),(.s ([]:Str)),(.s ([]:Str)),(.s ([]:Str)),(.s ([]:Str)),(.s ([]:Str)),(.s ([]:Str)),(.s ([]:Str)),(.s ([]:Str)),(.s ([]:Str)),(.s ([]:Str)),(.s ([]:Str)),(.s ([]:Str)),(.s ([]:Str)),(.s ([]:Str)),(.s ([]:Str)),(.s ([]:Str)),(.s ([]:Str)),(.s ([]:Str))] [(0,1),(1,1),(2,1),(3,1),(4,1),(5,1),(6,1),(7,1),(8,1),(9,1),(10,1),(11,1),(12,1),(13,1),(14,1),(15,1),(16,1),(17,1),(18,1),(19,1)],[.c (.s ([]:Str)),.c (.s ([100,111,117,98,108,101]:Str)),.c (.s ([115,116,114,105,110,103]:Str)),.c (.s ([100,111,99,117,109,101,110,116]:Str)),.c (.s ([97,114,114,97,121]:Str)),.c (.s ([98,105,110,97,114,121]:Str)),.c (.s ([117,110,100,101,102,105,110,101,100]:Str)),.c (.s ([111,98,106,101,99,116,105,100]:Str)),.c (.s ([98,111,111,108]:Str)),.c (.s ([100,97,116,101]:Str)),.c (.s ([110,117,108,108]:Str)),.c (.s ([114,101,103,101,120]:Str)),.c (.s ([112,111,105,110,116,101,114]:Str)),.c (.s ([99,111,100,101]:Str)),.c (.s ([115,121,109,98,111,108]:Str)),.c (.s ([115,99,111,112,101,100]:Str)),.c (.s ([105,110,116,51,50]:Str)),.c (.s ([116,105,109,101,115,116,97,109,112]:Str)),.c (.s ([105,110,116,54,52]:Str)),.c (.s ([100,101,99,105,109,97,108]:Str))],[4],none⟩,
  ⟨.al 1021 [(.s ([]:Str)),(.s ([]:Str)),(.s ([]:Str)),(.s ([]:Str)),(.s ([]:Str)),(.s ([]:Str)),(.s ([]:Str)),(.s ([]:Str)),(.s ([]:Str)),(.s ([]:Str)),(.s ([]:Str)),(.s ([]:Str)),(.s ([]:Str)),(.s ([]:Str)),(.s ([]:Str)),(.s ([]:Str)),(.s ([]:Str)),(.s ([]:Str)),(.s ([]:Str)),(.s ([]:Str))] [],[.s 1021],[3,1021],none⟩,
  ⟨.k (.st 1021 0 20),[.s 3,.s 1021,.s 4],[1021],none⟩]) none (.seq (.block 0 [(3,.ptr 1021 0),(1021,.cl [])] (.seq (.reg [
  ⟨.k .mv,[.s 0],[6],none⟩,
  ⟨.k (.bin .eql),[.s 6,.c (.i .i64 (127:Int))],[7],none⟩,
  ⟨.k .mv,[.s 7],[5],none⟩]) none (.cond (.s 5) [] (.seq (.reg [
  ⟨.k .mv,[.c (.s ([109,97,120,107,101,121]:Str))],[2],none⟩]) none .ret) (.seq (.reg [
  ⟨.k .mv,[.s 0],[9],none⟩,
  ⟨.k (.bin .eql),[.s 9,.c (.i .i64 (255:Int))],[10],none⟩,
  ⟨.k .mv,[.s 10],[8],none⟩]) none (.cond (.s 8) [] (.seq (.reg [
  ⟨.k .mv,[.c (.s ([109,105,110,107,101,121]:Str))],[2],none⟩]) none .ret) (.seq (.reg [
  ⟨.k .mv,[.s 0],[12],none⟩,
  ⟨.k (.bin .lss),[.s 12,.c (.i .i64 (0:Int))],[13],none⟩,
  ⟨.k .mv,[.s 13],[14],none⟩,
  ⟨.k .mv,[.s 0],[15],some (14,false)⟩,
  ⟨.k (.bin .geq),[.s 15,.c (.i .i64 (20:Int))],[16],some (14,false)⟩,
  ⟨.k .pick,[.s 14,.c (.b true),.s 16],[17],none⟩,
  ⟨.k .mv,[.s 17],[11],none⟩]) none (.cond (.s 11) [] (.seq (.reg [
  ⟨.k .mv,[.c (.s ([]:Str))],[2],none⟩]) none .ret) .skip))))))) none (.seq (.reg [
  ⟨.k .mv,[.s 0],[18],none⟩,
  ⟨.k (.la 1021 20 1),[.s 3,.s 18,.s 1021],[19],none⟩,
  ⟨.k (.ll 1021 1),[.s 19,.s 1021],[20],none⟩,
  ⟨.k .mv,[.s 20],[2],none⟩]) none .ret)))
def tree_Name.d:TFD:={ np:=1,m:=tree_Name.m,ref:=none,tips:=[],res:=[.t 2],own:=[],new:=none,tnew:=[] }
noncomputable def tree_Name.F (k:Int):Option (List TV):=tree_Name.d.run tree_Name.E [(.i .i64 k)]
theorem tree_Name.F_in (k:Int) {ρ:Option (List TV)} (K:∀(v1:Bool) (h1:v1=(cond (decide (k<(0:Int))) true (decide ((20:Int)≤k)))) (v2:Str) (h2:v2=(List.getD [([]:Str),([100,111,117,98,108,101]:Str),([115,116,114,105,110,103]:Str),([100,111,99,117,109,101,110,116]:Str),([97,114,114,97,121]:Str),([98,105,110,97,114,121]:Str),([117,110,100,101,102,105,110,101,100]:Str),([111,98,106,101,99,116,105,100]:Str),([98,111,111,108]:Str),([100,97,116,101]:Str),([110,117,108,108]:Str),([114,101,103,101,120]:Str),([112,111,105,110,116,101,114]:Str),([99,111,100,101]:Str),([115,121,109,98,111,108]:Str),([115,99,111,112,101,100]:Str),([105,110,116,51,50]:Str),([116,105,109,101,115,116,97,109,112]:Str),([105,110,116,54,52]:Str),([100,101,99,105,109,97,108]:Str)] ((k).toNat) ([]:Str))),cond (decide (k=(127:Int)))
  (some [(.s ([109,97,120,107,101,121]:Str))])
  (cond (decide (k=(255:Int)))
  (some [(.s ([109,105,110,107,101,121]:Str))])
  (ck (!(!(decide (k<(0:Int)))) || (!(decide (k<(0:Int))))) (ck ((decide (k<(0:Int))) || (!(decide (k<(0:Int))))) (cond v1
  (some [(.s ([]:Str))])
  (ck (idxOK k 20) (ck (decide ((k).toNat<20)) (some [(.s v2)])))))))=ρ):tree_Name.F k=ρ:=Eq.trans (by kernel_rfl) (K _ rfl _ rfl)
theorem tree_Name.chk:((Go.Proofs.Try.prog.funcs[17]?).any fun fn=>chkF Go.Proofs.Try.prog (fun k=>((envL noGl tree_Name.env).fs k).2) fn tree_Name.d.erase)=true:=by kernel_rfl
def tree_fields.env:List (Nat × (Ctr × FSig)):=[]
def tree_fields.E:TEnv:=envL noGl tree_fields.env
def tree_fields.m1:TM := .cond (.s 64) [(1,.ptr 1115 0),(1115,.cl [])] (.reg [
  ⟨.k (.fa 1115 0 8),[.s 1],[67],none⟩,
  ⟨.k (.st 1115 8 1),[.s 67,.s 1115,.c (.sl .fl ([]:List Fld))],[1115],none⟩]) (.seq (.reg [
  ⟨.k (.bin .eql),[.s 5,.c (.i .i64 (15:Int))],[69],none⟩,
  ⟨.k .mv,[.s 69],[68],none⟩]) none (.cond (.s 68) [(1,.ptr 1115 0),(1115,.cl [])] (.reg [
  ⟨.k (.fa 1115 0 4),[.s 1],[70],none⟩,
  ⟨.k (.st 1115 4 1),[.s 70,.s 1115,.c (.s ([]:Str))],[1115],none⟩,
  ⟨.k (.fa 1115 0 8),[.s 1],[71],none⟩,
  ⟨.k (.st 1115 8 1),[.s 71,.s 1115,.c (.sl .fl ([]:List Fld))],[1115],none⟩]) .skip))
def tree_fields.m2:TM := .cond (.s 28) [(1,.ptr 1115 0),(1115,.cl [])] (.reg [
  ⟨.k (.fa 1115 0 4),[.s 1],[32],none⟩,
  ⟨.k (.st 1115 4 1),[.s 32,.s 1115,.c (.s ([]:Str))],[1115],none⟩]) (.seq (.reg [
  ⟨.k (.bin .eql),[.s 5,.c (.i .i64 (11:Int))],[34],none⟩,
  ⟨.k .mv,[.s 34],[33],none⟩]) none (.cond (.s 33) [(1,.ptr 1115 0),(1115,.cl [])] (.reg [
  ⟨.k (.fa 1115 0 4),[.s 1],[35],none⟩,
  ⟨.k (.st 1115 4 1),[.s 35,.s 1115,.c (.s ([]:Str))],[1115],none⟩,
  ⟨.k (.fa 1115 0 5),[.s 1],[36],none⟩,
  ⟨.k (.st 1115 5 1),[.s 36,.s 1115,.c (.s ([]:Str))],[1115],none⟩]) (.seq (.reg [
  ⟨.k (.bin .eql),[.s 5,.c (.i .i64 (5:Int))],[38],none⟩,
  ⟨.k .mv,[.s 38],[37],none⟩]) none (.cond (.s 37) [(1,.ptr 1115 0),(1115,.cl [])] (.reg [
  ⟨.k (.fa 1115 0 6),[.s 1],[39],none⟩,
  ⟨.k (.ld 1115 6 1 false),[.s 39,.s 1115],[40],none⟩,
  ⟨.k (.bin .geq),[.s 40,.c (.i .i64 (0:Int))],[41],none⟩,
  ⟨.k .mv,[.s 41],[42],none⟩,
  ⟨.k (.fa 1115 0 6),[.s 1],[43],some (42,true)⟩,
  ⟨.k (.ld 1115 6 1 false),[.s 43,.s 1115],[44],some (42,true)⟩,
  ⟨.k (.bin .leq),[.s 44,.c (.i .i64 (255:Int))],[45],some (42,true)⟩,
  ⟨.k .pick,[.s 42,.s 45,.c (.b false)],[46],none⟩,
  ⟨.k .mv,[.s 46],[3],none⟩,
  ⟨.k (.fa 1115 0 6),[.s 1],[47],none⟩,
  ⟨.k (.st 1115 6 1),[.s 47,.s 1115,.c (.i .i64 (0:Int))],[1115],none⟩,
  ⟨.k (.fa 1115 0 7),[.s 1],[48],none⟩,
  ⟨.k (.st 1115 7 1),[.s 48,.s 1115,.c (.sl .bs ([]:List UInt8))],[1115],none⟩]) (.seq (.reg [
  ⟨.k (.bin .eql),[.s 5,.c (.i .i64 (7:Int))],[50],none⟩,
  ⟨.k .mv,[.s 50],[49],none⟩]) none (.cond (.s 49) [(1,.ptr 1115 0),(1115,.cl [])] (.reg [
  ⟨.k (.fa 1115 0 7),[.s 1],[51],none⟩,
  ⟨.k (.ld 1115 7 1 false),[.s 51,.s 1115],[52],none⟩,
  ⟨.k .len,[.s 52],[53],none⟩,
  ⟨.k (.bin .eql),[.s 53,.c (.i .i64 (12:Int))],[54],none⟩,
  ⟨.k .mv,[.s 54],[3],none⟩,
  ⟨.k (.fa 1115 0 7),[.s 1],[55],none⟩,
  ⟨.k (.st 1115 7 1),[.s 55,.s 1115,.c (.sl .bs ([]:List UInt8))],[1115],none⟩]) (.seq (.reg [
  ⟨.k (.bin .eql),[.s 5,.c (.i .i64 (12:Int))],[57],none⟩,
  ⟨.k .mv,[.s 57],[56],none⟩]) none (.cond (.s 56) [(1,.ptr 1115 0),(1115,.cl [])] (.reg [
  ⟨.k (.fa 1115 0 7),[.s 1],[58],none⟩,
  ⟨.k (.ld 1115 7 1 false),[.s 58,.s 1115],[59],none⟩,
  ⟨.k .len,[.s 59],[60],none⟩,
  ⟨.k (.bin .eql),[.s 60,.c (.i .i64 (12:Int))],[61],none⟩,
  ⟨.k .mv,[.s 61],[3],none⟩,
  ⟨.k (.fa 1115 0 4),[.s 1],[62],none⟩,
  ⟨.k (.st 1115 4 1),[.s 62,.s 1115,.c (.s ([]:Str))],[1115],none⟩,
  ⟨.k (.fa 1115 0 7),[.s 1],[63],none⟩,
  ⟨.k (.st 1115 7 1),[.s 63,.s 1115,.c (.sl .bs ([]:List UInt8))],[1115],none⟩]) (.seq (.seq (.reg [
  ⟨.k (.bin .eql),[.s 5,.c (.i .i64 (3:Int))],[65],none⟩,
  ⟨.k .mv,[.s 65],[64],none⟩]) none (.cond (.s 64) [(1,.ptr 1115 0),(1115,.cl [])] .skip (.reg [
  ⟨.k (.bin .eql),[.s 5,.c (.i .i64 (4:Int))],[66],none⟩,
  ⟨.k .mv,[.s 66],[64],none⟩]))) (some [1,3,5,64,1115]) tree_fields.m1)))))))))
def tree_fields.m3:TM := .cond (.s 6) [(1,.ptr 1115 0),(1115,.cl [])] (.reg [
  ⟨.k (.fa 1115 0 1),[.s 1],[11],none⟩,
  ⟨.k (.st 1115 1 1),[.s 11,.s 1115,.c (.u64 (0:UInt64))],[1115],none⟩]) (.seq (.reg [
  ⟨.k (.bin .eql),[.s 5,.c (.i .i64 (16:Int))],[13],none⟩,
  ⟨.k .mv,[.s 13],[12],none⟩]) none (.cond (.s 12) [(1,.ptr 1115 0),(1115,.cl [])] (.reg [
  ⟨.k (.fa 1115 0 1),[.s 1],[14],none⟩,
  ⟨.k (.ld 1115 1 1 false),[.s 14,.s 1115],[15],none⟩,
  ⟨.k (.bin .lss),[.s 15,.c (.u64 (4294967296:UInt64))],[16],none⟩,
  ⟨.k .mv,[.s 16],[3],none⟩,
  ⟨.k (.fa 1115 0 1),[.s 1],[17],none⟩,
  ⟨.k (.st 1115 1 1),[.s 17,.s 1115,.c (.u64 (0:UInt64))],[1115],none⟩]) (.seq (.reg [
  ⟨.k (.bin .eql),[.s 5,.c (.i .i64 (8:Int))],[19],none⟩,
  ⟨.k .mv,[.s 19],[18],none⟩]) none (.cond (.s 18) [(1,.ptr 1115 0),(1115,.cl [])] (.reg [
  ⟨.k (.fa 1115 0 1),[.s 1],[20],none⟩,
  ⟨.k (.ld 1115 1 1 false),[.s 20,.s 1115],[21],none⟩,
  ⟨.k (.bin .lss),[.s 21,.c (.u64 (2:UInt64))],[22],none⟩,
  ⟨.k .mv,[.s 22],[3],none⟩,
  ⟨.k (.fa 1115 0 1),[.s 1],[23],none⟩,
  ⟨.k (.st 1115 1 1),[.s 23,.s 1115,.c (.u64 (0:UInt64))],[1115],none⟩]) (.seq (.reg [
  ⟨.k (.bin .eql),[.s 5,.c (.i .i64 (19:Int))],[25],none⟩,
  ⟨.k .mv,[.s 25],[24],none⟩]) none (.cond (.s 24) [(1,.ptr 1115 0),(1115,.cl [])] (.reg [
  ⟨.k (.fa 1115 0 2),[.s 1],[26],none⟩,
  ⟨.k (.st 1115 2 1),[.s 26,.s 1115,.c (.u64 (0:UInt64))],[1115],none⟩,
  ⟨.k (.fa 1115 0 3),[.s 1],[27],none⟩,
  ⟨.k (.st 1115 3 1),[.s 27,.s 1115,.c (.u64 (0:UInt64))],[1115],none⟩]) (.seq (.seq (.reg [
  ⟨.k (.bin .eql),[.s 5,.c (.i .i64 (2:Int))],[29],none⟩,
  ⟨.k .mv,[.s 29],[28],none⟩]) none (.cond (.s 28) [(1,.ptr 1115 0),(1115,.cl [])] .skip (.seq (.reg [
  ⟨.k (.bin .eql),[.s 5,.c (.i .i64 (13:Int))],[30],none⟩,
  ⟨.k .mv,[.s 30],[28],none⟩]) none (.cond (.s 28) [(1,.ptr 1115 0),(1115,.cl [])] .skip (.reg [
  ⟨.k (.bin .eql),[.s 5,.c (.i .i64 (14:Int))],[31],none⟩,
  ⟨.k .mv,[.s 31],[28],none⟩]))))) (some [1,3,5,28,1115]) tree_fields.m2)))))))
def tree_fields.m4:TM := .seq (.reg [
  ⟨.k .mv,[.s 3],[72],none⟩,
  ⟨.k .mv,[.s 72],[73],none⟩,
  ⟨.k (.fa 1115 0 1),[.s 1],[74],some (73,true)⟩,
  ⟨.k (.ld 1115 1 1 false),[.s 74,.s 1115],[75],some (73,true)⟩,
  ⟨.k (.bin .eql),[.s 75,.c (.u64 (0:UInt64))],[76],some (73,true)⟩,
  ⟨.k .pick,[.s 73,.s 76,.c (.b false)],[77],none⟩,
  ⟨.k .mv,[.s 77],[78],none⟩,
  ⟨.k (.fa 1115 0 2),[.s 1],[79],some (78,true)⟩,
  ⟨.k (.ld 1115 2 1 false),[.s 79,.s 1115],[80],some (78,true)⟩,
  ⟨.k (.bin .eql),[.s 80,.c (.u64 (0:UInt64))],[81],some (78,true)⟩,
  ⟨.k .pick,[.s 78,.s 81,.c (.b false)],[82],none⟩,
  ⟨.k .mv,[.s 82],[83],none⟩,
  ⟨.k (.fa 1115 0 3),[.s 1],[84],some (83,true)⟩,
  ⟨.k (.ld 1115 3 1 false),[.s 84,.s 1115],[85],some (83,true)⟩,
  ⟨.k (.bin .eql),[.s 85,.c (.u64 (0:UInt64))],[86],some (83,true)⟩,
  ⟨.k .pick,[.s 83,.s 86,.c (.b false)],[87],none⟩,
  ⟨.k .mv,[.s 87],[88],none⟩,
  ⟨.k (.fa 1115 0 4),[.s 1],[89],some (88,true)⟩,
  ⟨.k (.ld 1115 4 1 false),[.s 89,.s 1115],[90],some (88,true)⟩,
  ⟨.k (.bin .eql),[.s 90,.c (.s ([]:Str))],[91],some (88,true)⟩,
  ⟨.k .pick,[.s 88,.s 91,.c (.b false)],[92],none⟩,
  ⟨.k .mv,[.s 92],[93],none⟩,
  ⟨.k (.fa 1115 0 5),[.s 1],[94],some (93,true)⟩,
  ⟨.k (.ld 1115 5 1 false),[.s 94,.s 1115],[95],some (93,true)⟩,
  ⟨.k (.bin .eql),[.s 95,.c (.s ([]:Str))],[96],some (93,true)⟩,
  ⟨.k .pick,[.s 93,.s 96,.c (.b false)],[97],none⟩,
  ⟨.k .mv,[.s 97],[98],none⟩,
  ⟨.k (.fa 1115 0 6),[.s 1],[99],some (98,true)⟩,
  ⟨.k (.ld 1115 6 1 false),[.s 99,.s 1115],[100],some (98,true)⟩,
  ⟨.k (.bin .eql),[.s 100,.c (.i .i64 (0:Int))],[101],some (98,true)⟩,
  ⟨.k .pick,[.s 98,.s 101,.c (.b false)],[102],none⟩,
  ⟨.k .mv,[.s 102],[103],none⟩,
  ⟨.k (.fa 1115 0 7),[.s 1],[104],some (103,true)⟩,
  ⟨.k (.ld 1115 7 1 false),[.s 104,.s 1115],[105],some (103,true)⟩,
  ⟨.k .len,[.s 105],[106],some (103,true)⟩,
  ⟨.k (.bin .eql),[.s 106,.c (.i .i64 (0:Int))],[107],some (103,true)⟩,
  ⟨.k .pick,[.s 103,.s 107,.c (.b false)],[108],none⟩,
  ⟨.k .mv,[.s 108],[109],none⟩,
  ⟨.k (.fa 1115 0 8),[.s 1],[110],some (109,true)⟩,
  ⟨.k (.ld 1115 8 1 false),[.s 110,.s 1115],[111],some (109,true)⟩,
  ⟨.k .len,[.s 111],[112],some (109,true)⟩,
  ⟨.k (.bin .eql),[.s 112,.c (.i .i64 (0:Int))],[113],some (109,true)⟩,
  ⟨.k .pick,[.s 109,.s 113,.c (.b false)],[114],none⟩,
  ⟨.k .mv,[.s 114],[2],none⟩]) none .ret
def tree_fields.m:TM := .seq (.reg [
  ⟨.k (.bx 1115),[.s 0,.s 1115],[1,1115],none⟩,
  ⟨.k .mv,[.c (.b false)],[2],none⟩]) none (.seq (.reg [
  ⟨.k .mv,[.c (.b true)],[3],none⟩]) none (.seq (.seq (.reg [
  ⟨.k (.fa 1115 0 0),[.s 1],[4],none⟩,
  ⟨.k (.ld 1115 0 1 false),[.s 4,.s 1115],[5],none⟩]) none (.block 0 [(1,.ptr 1115 0),(1115,.cl [])] (.seq (.seq (.reg [
  ⟨.k (.bin .eql),[.s 5,.c (.i .i64 (1:Int))],[7],none⟩,
  ⟨.k .mv,[.s 7],[6],none⟩]) none (.cond (.s 6) [(1,.ptr 1115 0),(1115,.cl [])] .skip (.seq (.reg [
  ⟨.k (.bin .eql),[.s 5,.c (.i .i64 (9:Int))],[8],none⟩,
  ⟨.k .mv,[.s 8],[6],none⟩]) none (.cond (.s 6) [(1,.ptr 1115 0),(1115,.cl [])] .skip (.seq (.reg [
  ⟨.k (.bin .eql),[.s 5,.c (.i .i64 (17:Int))],[9],none⟩,
  ⟨.k .mv,[.s 9],[6],none⟩]) none (.cond (.s 6) [(1,.ptr 1115 0),(1115,.cl [])] .skip (.reg [
  ⟨.k (.bin .eql),[.s 5,.c (.i .i64 (18:Int))],[10],none⟩,
  ⟨.k .mv,[.s 10],[6],none⟩]))))))) (some [1,3,5,6,1115]) tree_fields.m3))) (some [1,3,1115]) tree_fields.m4))
def tree_fields.d:TFD:={ np:=1,m:=tree_fields.m,ref:=none,tips:=[],res:=[.t 2],own:=[],new:=none,tnew:=[] }
noncomputable def tree_fields.F (v:Val):Option (List TV):=tree_fields.d.run tree_fields.E [(.ag (Val.cells v))]
noncomputable def tree_fields.k1:Cont (List TV):=seqK (evO _ tree_fields.E tree_fields.m4) (some [1,3,1115]) (endK tree_fields.d)
noncomputable def tree_fields.j1 (x0:Bool) (x1:Int) (x2:Bool) (x3:Val):Option (List TV):=evO _ tree_fields.E tree_fields.m3 (headT [1,3,5,6,1115] [.pt,(.b x0),(.i .i64 x1),(.b x2),(.ag (Val.cells x3))]) (blockK 0 tree_fields.k1)
noncomputable def tree_fields.j2 (x0:Bool) (x1:Val):Option (List TV):=evO _ tree_fields.E tree_fields.m4 (headT [1,3,1115] [.pt,(.b x0),(.ag (Val.cells x1))]) (endK tree_fields.d)
noncomputable def tree_fields.j3 (x0:Bool) (x1:Int) (x2:Bool) (x3:Val):Option (List TV):=evO _ tree_fields.E tree_fields.m2 (headT [1,3,5,28,1115] [.pt,(.b x0),(.i .i64 x1),(.b x2),(.ag (Val.cells x3))]) (blockK 0 tree_fields.k1)
noncomputable def tree_fields.j4 (x0:Bool) (x1:Int) (x2:Bool) (x3:Val):Option (List TV):=evO _ tree_fields.E tree_fields.m1 (headT [1,3,5,64,1115] [.pt,(.b x0),(.i .i64 x1),(.b x2),(.ag (Val.cells x3))]) (blockK 0 tree_fields.k1)
theorem tree_fields.j1_eq (x0:Bool) (x1:Int) (x2:Bool) (x3:Val):tree_fields.j1 x0 x1 x2 x3=cond x2
  (tree_fields.j2 x0 (Val.mk (Val.kind x3) (0:UInt64) (Val.high x3) (Val.low x3) (Val.text x3) (Val.more x3) (Val.sub x3) (Val.bytes x3) (Val.kids x3)))
  (cond (decide (x1=(16:Int)))
  (tree_fields.j2 (decide ((Val.bits x3)<(4294967296:UInt64))) (Val.mk (Val.kind x3) (0:UInt64) (Val.high x3) (Val.low x3) (Val.text x3) (Val.more x3) (Val.sub x3) (Val.bytes x3) (Val.kids x3)))
  (cond (decide (x1=(8:Int)))
  (tree_fields.j2 (decide ((Val.bits x3)<(2:UInt64))) (Val.mk (Val.kind x3) (0:UInt64) (Val.high x3) (Val.low x3) (Val.text x3) (Val.more x3) (Val.sub x3) (Val.bytes x3) (Val.kids x3)))
  (cond (decide (x1=(19:Int)))
  (tree_fields.j2 x0 (Val.mk (Val.kind x3) (Val.bits x3) (0:UInt64) (0:UInt64) (Val.text x3) (Val.more x3) (Val.sub x3) (Val.bytes x3) (Val.kids x3)))
  (cond (decide (x1=(2:Int)))
  (tree_fields.j3 x0 x1 (decide (x1=(2:Int))) x3)
  (cond (decide (x1=(13:Int)))
  (tree_fields.j3 x0 x1 (decide (x1=(13:Int))) x3)
  (tree_fields.j3 x0 x1 (decide (x1=(14:Int))) x3)))))):=((congrFun (congrFun (ev_eq _ _) _) _).trans (by kernel_rfl))
theorem tree_fields.j2_in (x0:Bool) (x1:Val) {ρ:Option (List TV)} (K:∀(v1:Bool) (h1:v1=(cond x0 (decide ((Val.bits x1)=(0:UInt64))) false)) (v2:Bool) (h2:v2=(cond v1 (decide ((Val.high x1)=(0:UInt64))) false)) (v3:Bool) (h3:v3=(cond v2 (decide ((Val.low x1)=(0:UInt64))) false)) (v4:Bool) (h4:v4=(cond v3 (decide ((Val.text x1)=([]:Str))) false)) (v5:Bool) (h5:v5=(cond v4 (decide ((Val.more x1)=([]:Str))) false)) (v6:Bool) (h6:v6=(cond v5 (decide ((Val.sub x1)=(0:Int))) false)) (v7:Int) (h7:v7=(((Val.bytes x1)).length:Int)) (v8:Bool) (h8:v8=(cond v6 (decide (v7=(0:Int))) false)) (v9:Int) (h9:v9=(((Val.kids x1)).length:Int)) (v10:Bool) (h10:v10=(cond v8 (decide (v9=(0:Int))) false)),ck (!x0 || x0) (ck (!x0 || x0) (ck (!x0 || x0) (ck (!v1 || v1) (ck (!v1 || v1) (ck (!v1 || v1) (ck (!v2 || v2) (ck (!v2 || v2) (ck (!v2 || v2) (ck (!v3 || v3) (ck (!v3 || v3) (ck (!v3 || v3) (ck (!v4 || v4) (ck (!v4 || v4) (ck (!v4 || v4) (ck (!v5 || v5) (ck (!v5 || v5) (ck (!v5 || v5) (ck (!v6 || v6) (ck (!v6 || v6) (ck (!v6 || v6) (ck (!v6 || v6) (ck (!v8 || v8) (ck (!v8 || v8) (ck (!v8 || v8) (ck (!v8 || v8) (some [(.b v10)]))))))))))))))))))))))))))=ρ):tree_fields.j2 x0 x1=ρ:=((congrFun (congrFun (ev_eq _ _) _) _).trans (by kernel_rfl)).trans (K _ rfl _ rfl _ rfl _ rfl _ rfl _ rfl _ rfl _ rfl _ rfl _ rfl)
theorem tree_fields.j3_in (x0:Bool) (x1:Int) (x2:Bool) (x3:Val) {ρ:Option (List TV)} (K:∀(v1:Bool) (h1:v1=(cond (decide ((0:Int)≤(Val.sub x3))) (decide ((Val.sub x3)≤(255:Int))) false)) (v2:Int) (h2:v2=(((Val.bytes x3)).length:Int)),cond x2
  (tree_fields.j2 x0 (Val.mk (Val.kind x3) (Val.bits x3) (Val.high x3) (Val.low x3) ([]:Str) (Val.more x3) (Val.sub x3) (Val.bytes x3) (Val.kids x3)))
  (cond (decide (x1=(11:Int)))
  (tree_fields.j2 x0 (Val.mk (Val.kind x3) (Val.bits x3) (Val.high x3) (Val.low x3) ([]:Str) ([]:Str) (Val.sub x3) (Val.bytes x3) (Val.kids x3)))
  (cond (decide (x1=(5:Int)))
  (ck (!(decide ((0:Int)≤(Val.sub x3))) || (decide ((0:Int)≤(Val.sub x3)))) (ck (!(decide ((0:Int)≤(Val.sub x3))) || (decide ((0:Int)≤(Val.sub x3)))) (ck (!(decide ((0:Int)≤(Val.sub x3))) || (decide ((0:Int)≤(Val.sub x3)))) (tree_fields.j2 v1 (Val.mk (Val.kind x3) (Val.bits x3) (Val.high x3) (Val.low x3) (Val.text x3) (Val.more x3) (0:Int) ([]:List UInt8) (Val.kids x3))))))
  (cond (decide (x1=(7:Int)))
  (tree_fields.j2 (decide (v2=(12:Int))) (Val.mk (Val.kind x3) (Val.bits x3) (Val.high x3) (Val.low x3) (Val.text x3) (Val.more x3) (Val.sub x3) ([]:List UInt8) (Val.kids x3)))
  (cond (decide (x1=(12:Int)))
  (tree_fields.j2 (decide (v2=(12:Int))) (Val.mk (Val.kind x3) (Val.bits x3) (Val.high x3) (Val.low x3) ([]:Str) (Val.more x3) (Val.sub x3) ([]:List UInt8) (Val.kids x3)))
  (cond (decide (x1=(3:Int)))
  (tree_fields.j4 x0 x1 (decide (x1=(3:Int))) x3)
  (tree_fields.j4 x0 x1 (decide (x1=(4:Int))) x3))))))=ρ):tree_fields.j3 x0 x1 x2 x3=ρ:=((congrFun (congrFun (ev_eq _ _) _) _).trans (by kernel_rfl)).trans (K _ rfl _ rfl)
theorem tree_fields.j4_eq (x0:Bool) (x1:Int) (x2:Bool) (x3:Val):tree_fields.j4 x0 x1 x2 x3=cond x2
  (tree_fields.j2 x0 (Val.mk (Val.kind x3) (Val.bits x3) (Val.high x3) (Val.low x3) (Val.text x3) (Val.more x3) (Val.sub x3) (Val.bytes x3) ([]:List Fld)))
  (cond (decide (x1=(15:Int)))
  (tree_fields.j2 x0 (Val.mk (Val.kind x3) (Val.bits x3) (Val.high x3) (Val.low x3) ([]:Str) (Val.more x3) (Val.sub x3) (Val.bytes x3) ([]:List Fld)))
  (tree_fields.j2 x0 x3)):=((congrFun (congrFun (ev_eq _ _) _) _).trans (by kernel_rfl))
theorem tree_fields.F_eq (v:Val):tree_fields.F v=cond (decide ((Val.kind v)=(1:Int)))
  (tree_fields.j1 true (Val.kind v) (decide ((Val.kind v)=(1:Int))) v)
  (cond (decide ((Val.kind v)=(9:Int)))
  (tree_fields.j1 true (Val.kind v) (decide ((Val.kind v)=(9:Int))) v)
  (cond (decide ((Val.kind v)=(17:Int)))
  (tree_fields.j1 true (Val.kind v) (decide ((Val.kind v)=(17:Int))) v)
  (tree_fields.j1 true (Val.kind v) (decide ((Val.kind v)=(18:Int))) v))):=by kernel_rfl
theorem tree_fields.chk:((Go.Proofs.Try.prog.funcs[31]?).any fun fn=>chkF Go.Proofs.Try.prog (fun k=>((envL noGl tree_fields.env).fs k).2) fn tree_fields.d.erase)=true:=by kernel_rfl
def tree_whole.env:List (Nat × (Ctr × FSig)):=[(36,(utf_Check.c,utf_Check.sg)),(37,(st_Contains.c,st_Contains.sg))]
def tree_whole.E:TEnv:=envL noGl tree_whole.env
def tree_whole.m:TM := .seq (.reg [
  ⟨.k .mv,[.c (.b false)],[4],none⟩]) none (.seq (.reg [
  ⟨.k .mv,[.s 0],[8],none⟩,
  ⟨.k .sb,[.s 8],[9],none⟩,
  ⟨.k (.call 36 (.plain 1 2)),[.s 9],[10],none⟩,
  ⟨.k .mv,[.s 10],[7],none⟩,
  ⟨.k (.ex 0),[.s 7],[11],none⟩,
  ⟨.k (.ex 1),[.s 7],[12],none⟩,
  ⟨.k .mv,[.s 11],[5],none⟩,
  ⟨.k .mv,[.s 12],[6],none⟩]) none (.seq (.reg [
  ⟨.k .mv,[.s 6],[13],none⟩,
  ⟨.k .mv,[.s 13],[14],none⟩,
  ⟨.k .mv,[.s 1],[15],some (14,true)⟩,
  ⟨.k .mv,[.s 15],[16],some (14,true)⟩,
  ⟨.k .mv,[.s 0],[17],some (16,true)⟩,
  ⟨.k (.call 37 (.plain 2 1)),[.s 17,.c (.s ([0]:Str))],[18],some (16,true)⟩,
  ⟨.k .pick,[.s 16,.s 18,.c (.b false)],[19],some (14,true)⟩,
  ⟨.k (.un .not),[.s 19],[20],some (14,true)⟩,
  ⟨.k .pick,[.s 14,.s 20,.c (.b false)],[21],none⟩,
  ⟨.k .mv,[.s 21],[4],none⟩]) none .ret))
def tree_whole.d:TFD:={ np:=2,m:=tree_whole.m,ref:=none,tips:=[],res:=[.t 4],own:=[],new:=none,tnew:=[] }
noncomputable def tree_whole.F (s:Str) (plain:Bool):Option (List TV):=tree_whole.d.run tree_whole.E [(.s s),(.b plain)]
theorem tree_whole.F_in (s:Str) (plain:Bool) {ρ:Option (List TV)} (K:∀(v1:Bool) (h1:v1=(cond plain (decide (0≤Lib.indexByte s ((([0]:Str)).getD 0 0))) false)) (v2:Bool) (h2:v2=(cond (Utf.whole s) (!v1) false)),ck (lenOK (s).length) (ck (decide (s.length≤1099511627776)) (ck (!(Utf.whole s) || (Utf.whole s)) (ck (!((Utf.whole s)&&plain) || (((Utf.whole s)&&plain)&&(decide ((([0]:Str)).length=1)))) (ck (!(Utf.whole s) || ((Utf.whole s)&&(!plain || ((Utf.whole s)&&plain)))) (ck (!(Utf.whole s) || (Utf.whole s)) (ck (!(Utf.whole s) || (Utf.whole s)) (some [(.b v2)])))))))=ρ):tree_whole.F s plain=ρ:=Eq.trans (by kernel_rfl) (K _ rfl _ rfl)
theorem tree_whole.chk:((Go.Proofs.Try.prog.funcs[32]?).any fun fn=>chkF Go.Proofs.Try.prog (fun k=>((envL noGl tree_whole.env).fs k).2) fn tree_whole.d.erase)=true:=by kernel_rfl
def tree_check.env (n:Nat):List (Nat × (Ctr × FSig)):=[(17,(tree_Name.c,tree_Name.sg)),(23,(tree_check.cn n,tree_check.sg)),(30,(clone_is.c,clone_is.sg)),(31,(tree_fields.c,tree_fields.sg)),(32,(tree_whole.c,tree_whole.sg))]
def tree_check.E (n:Nat):TEnv:=envL noGl (tree_check.env n)
def tree_check.m1:TM := .seq (.reg [
  ⟨.k (.bin .lss),[.s 52,.s 51],[53],none⟩]) none (.seq (.cond (.s 53) [] .skip (.exit 1)) none (.seq (.block 2 [(2,.tip 999999 1),(lk 999999,.pv 1)] (.seq (.reg [
  ⟨.k .mv,[.s 52],[54],none⟩,
  ⟨.k (.ix 10),[.s 50,.s 52],[55],none⟩,
  ⟨.k (.lr 10 true),[.s 55],[56],none⟩,
  ⟨.al 1075 [(.s ([]:Str)),(.i .i64 (0:Int)),(.u64 (0:UInt64)),(.u64 (0:UInt64)),(.u64 (0:UInt64)),(.s ([]:Str)),(.s ([]:Str)),(.i .i64 (0:Int)),(.sl .bs ([]:List UInt8)),(.sl .fl ([]:List Fld))] [],[.s 1075],[10,1075],none⟩,
  ⟨.k .mv,[.s 54],[9],none⟩,
  ⟨.k (.st 1075 0 10),[.s 10,.s 1075,.s 56],[1075],none⟩]) none (.seq (.reg [
  ⟨.k (.fa 1075 0 1),[.s 10],[58],none⟩,
  ⟨.k (.ld 1075 1 9 true),[.s 58,.s 1075],[59],none⟩,
  ⟨.k (.fa 1075 0 0),[.s 10],[60],none⟩,
  ⟨.k (.ld 1075 0 1 false),[.s 60,.s 1075],[61],none⟩,
  ⟨.k .mv,[.s 2],[62],none⟩,
  ⟨.k .mv,[.s 9],[63],none⟩,
  ⟨.bl .is 1,[.s 63],[64],none⟩,
  ⟨.k (.ppa 999999 104 1 8),[.s 62,.s 64,.s (lk 999999),.s (lk 104)],[65,lk 999999,lk 104],none⟩,
  ⟨.k (.pcall 23 3 2 2 104 1),[.s 59,.s 61,.s 65,.s (lk 104)],[66],none⟩,
  ⟨.k .mv,[.s 66],[57],none⟩,
  ⟨.k (.ex 0),[.s 57],[67],none⟩,
  ⟨.k (.ex 1),[.s 57],[68],none⟩,
  ⟨.k .mv,[.s 67],[11],none⟩,
  ⟨.k .mv,[.s 68],[12],none⟩]) none (.seq (.reg [
  ⟨.k .mv,[.s 12],[69],none⟩,
  ⟨.k (.bin .neq),[.s 69,.c (.i .i64 (0:Int))],[70],none⟩]) none (.cond (.s 70) [] (.seq (.reg [
  ⟨.k .mv,[.s 11],[71],none⟩,
  ⟨.k .mv,[.s 12],[72],none⟩,
  ⟨.k .mv,[.s 71],[6],none⟩,
  ⟨.k .mv,[.s 72],[7],none⟩]) none .ret) .skip))))) none (.reg [
  ⟨.k (.bin .add),[.s 52,.c (.i .i64 (1:Int))],[73],none⟩,
  ⟨.k .mv,[.s 73],[52],none⟩])))
def tree_check.m:TM := .seq (.reg [
  ⟨.k (.bx 1074),[.s 0,.s 1074],[3,1074],none⟩,
  ⟨.k .mv,[.c (.sl .is ([]:List Int))],[6],none⟩,
  ⟨.k .mv,[.c (.i .i64 (0:Int))],[7],none⟩]) none (.seq (.reg [
  ⟨.k (.fa 1074 0 0),[.s 3],[13],none⟩,
  ⟨.k (.ld 1074 0 1 false),[.s 13,.s 1074],[14],none⟩,
  ⟨.k (.bin .eql),[.s 14,.c (.i .i64 (11:Int))],[15],none⟩,
  ⟨.k .mv,[.s 15],[8],none⟩]) none (.seq (.block 0 [(2,.tip 999999 1),(3,.ptr 1074 0),(1074,.cl []),(lk 999999,.pv 1)] (.seq (.reg [
  ⟨.k (.fa 1074 0 0),[.s 3],[17],none⟩,
  ⟨.k (.ld 1074 0 1 false),[.s 17,.s 1074],[18],none⟩,
  ⟨.k (.call 17 (.plain 1 1)),[.s 18],[19],none⟩,
  ⟨.k (.bin .eql),[.s 19,.c (.s ([]:Str))],[20],none⟩,
  ⟨.k .mv,[.s 20],[16],none⟩]) none (.cond (.s 16) [] (.seq (.reg [
  ⟨.k .mv,[.s 2],[21],none⟩,
  ⟨.k (.pcall 30 1 1 0 999999 1),[.s 21,.s (lk 999999)],[22],none⟩,
  ⟨.k .mv,[.s 22],[6],none⟩,
  ⟨.k .mv,[.c (.i .i64 (5:Int))],[7],none⟩]) none .ret) (.seq (.reg [
  ⟨.k (.ld 1074 0 9 true),[.s 3,.s 1074],[24],none⟩,
  ⟨.k (.call 31 (.plain 1 1)),[.s 24],[25],none⟩,
  ⟨.k (.un .not),[.s 25],[26],none⟩,
  ⟨.k .mv,[.s 26],[23],none⟩]) none (.cond (.s 23) [] (.seq (.reg [
  ⟨.k .mv,[.s 2],[27],none⟩,
  ⟨.k (.pcall 30 1 1 0 999999 1),[.s 27,.s (lk 999999)],[28],none⟩,
  ⟨.k .mv,[.s 28],[6],none⟩,
  ⟨.k .mv,[.c (.i .i64 (1:Int))],[7],none⟩]) none .ret) (.seq (.reg [
  ⟨.k (.fa 1074 0 4),[.s 3],[30],none⟩,
  ⟨.k (.ld 1074 4 1 false),[.s 30,.s 1074],[31],none⟩,
  ⟨.k .mv,[.s 8],[32],none⟩,
  ⟨.k (.call 32 (.plain 2 1)),[.s 31,.s 32],[33],none⟩,
  ⟨.k (.un .not),[.s 33],[34],none⟩,
  ⟨.k .mv,[.s 34],[35],none⟩,
  ⟨.k (.fa 1074 0 5),[.s 3],[36],some (35,false)⟩,
  ⟨.k (.ld 1074 5 1 false),[.s 36,.s 1074],[37],some (35,false)⟩,
  ⟨.k .mv,[.s 8],[38],some (35,false)⟩,
  ⟨.k (.call 32 (.plain 2 1)),[.s 37,.s 38],[39],some (35,false)⟩,
  ⟨.k (.un .not),[.s 39],[40],some (35,false)⟩,
  ⟨.k .pick,[.s 35,.c (.b true),.s 40],[41],none⟩,
  ⟨.k .mv,[.s 41],[42],none⟩,
  ⟨.k .mv,[.s 1],[43],some (42,false)⟩,
  ⟨.k (.call 32 (.plain 2 1)),[.s 43,.c (.b true)],[44],some (42,false)⟩,
  ⟨.k (.un .not),[.s 44],[45],some (42,false)⟩,
  ⟨.k .pick,[.s 42,.c (.b true),.s 45],[46],none⟩,
  ⟨.k .mv,[.s 46],[29],none⟩]) none (.cond (.s 29) [] (.seq (.reg [
  ⟨.k .mv,[.s 2],[47],none⟩,
  ⟨.k (.pcall 30 1 1 0 999999 1),[.s 47,.s (lk 999999)],[48],none⟩,
  ⟨.k .mv,[.s 48],[6],none⟩,
  ⟨.k .mv,[.c (.i .i64 (4:Int))],[7],none⟩]) none .ret) .skip))))))) none (.seq (.seq (.reg [
  ⟨.k (.fa 1074 0 8),[.s 3],[49],none⟩,
  ⟨.k (.ld 1074 8 1 false),[.s 49,.s 1074],[50],none⟩,
  ⟨.k .len,[.s 50],[51],none⟩,
  ⟨.k .mv,[.c (.i .i64 (0:Int))],[52],none⟩]) none (.block 1 [(lk 999999,.pv 1)] (.loop [2,50,51,52,lk 999999] [(2,.tip 999999 1),(lk 999999,.pv 1)] tree_check.m1))) none (.seq (.reg [
  ⟨.k .mv,[.c (.sl .is ([]:List Int))],[6],none⟩,
  ⟨.k .mv,[.c (.i .i64 (0:Int))],[7],none⟩]) none .ret))))
def tree_check.d:TFD:={ np:=3,m:=tree_check.m,ref:=none,tips:=[],res:=[.t 6,.t 7],own:=[],new:=none,tnew:=[],ps:=some (2,999999,1) }
noncomputable def tree_check.F (n:Nat) (v:Val) (name:Str) (path:List Int):Option (List TV):=tree_check.d.run (tree_check.E n) [(.ag (Val.cells v)),(.s name),(.sl .is path)]
noncomputable def tree_check.k1 (n:Nat):Cont (List TV):=seqK (ev _ (tree_check.E n) (.seq (.reg [
  ⟨.k .mv,[.c (.sl .is ([]:List Int))],[6],none⟩,
  ⟨.k .mv,[.c (.i .i64 (0:Int))],[7],none⟩]) none .ret)) none (endK tree_check.d)
noncomputable def tree_check.l1 (n:Nat) (x0:List Fld) (x1:Int) (x2:Int) (x3:List Int):Option (List TV):=loopL (evO _ (tree_check.E n) tree_check.m1) isN [2,50,51,52,lk 999999] (headT [2,50,51,52,lk 999999] [.pt,(.sl .fl x0),(.i .i64 x1),(.i .i64 x2),(.sl .is x3)]) (blockK 1 (tree_check.k1 n))
theorem tree_check.l1_in (n:Nat) (x0:List Fld) (x1:Int) (x2:Int) (x3:List Int) {ρ:Option (List TV)} (K:∀(v1:Fld) (h1:v1=(List.getD x0 (x2).toNat (STy.dflt .fl))) (v2:List Int) (h2:v2=((Tree.chkF (Fld.of ((Fld.name v1)) (Fld.val v1)) ((x3++([x2]:List Int)))).1)) (v3:Int) (h3:v3=((Tree.chkF (Fld.of ((Fld.name v1)) (Fld.val v1)) ((x3++([x2]:List Int)))).2)) (v4:Int) (h4:v4=(IntKind.i64.wrap (x2+(1:Int)))),cond (decide (x2<x1))
  (ck (idxOK x2 (x0).length) (ck (apOK ((x3).length+(([x2]:List Int)).length) 8) (ck ((decide (Fld.bulk (Fld.of ((Fld.name v1)) (Fld.val v1))+((x3++([x2]:List Int))).length≤1099511627776))&&decide ((Fld.bulk (Fld.of ((Fld.name v1)) (Fld.val v1)))<n)) (cond (!decide (v3=(0:Int)))
  (some [(.sl .is v2),(.i .i64 v3),(.sl .is x3)])
  (tree_check.l1 n x0 x1 v4 x3)))))
  (some [(.sl .is ([]:List Int)),(.i .i64 (0:Int)),(.sl .is x3)])=ρ):tree_check.l1 n x0 x1 x2 x3=ρ:=((ev_loop _ _ _ _ _ _).trans (by kernel_rfl)).trans (K _ rfl _ rfl _ rfl _ rfl)
theorem tree_check.F_in (n:Nat) (v:Val) (name:Str) (path:List Int) {ρ:Option (List TV)} (K:∀(v1:Bool) (h1:v1=(Tree.wholeT ((Val.text v)) ((decide ((Val.kind v)=(11:Int)))))) (v2:Bool) (h2:v2=(Tree.wholeT ((Val.more v)) ((decide ((Val.kind v)=(11:Int)))))) (v3:Bool) (h3:v3=(cond (cond (!v1) true (!v2)) true (!(Tree.wholeT name true)))) (v4:Int) (h4:v4=(((Val.kids v)).length:Int)),cond (decide ((Tree.name ((Val.kind v)))=([]:Str)))
  (ck (apOK (path).length 8) (some [(.sl .is (path)),(.i .i64 (5:Int)),(.sl .is path)]))
  (cond (!(Tree.fieldsOK v))
  (ck (apOK (path).length 8) (some [(.sl .is (path)),(.i .i64 (1:Int)),(.sl .is path)]))
  (ck (decide (((Val.text v)).length≤1099511627776)) (ck (!(!(!v1)) || (!(!v1))) (ck (!(!(!v1)) || (((!(!v1))&&(!(!v1)))&&(decide (((Val.more v)).length≤1099511627776)))) (ck (!(!(!v1)) || (!(!v1))) (ck ((!v1) || (!(!v1))) (ck (!(!(cond (!v1) true (!v2))) || ((!(cond (!v1) true (!v2)))&&(decide (name.length≤1099511627776)))) (ck (!(!(cond (!v1) true (!v2))) || (!(cond (!v1) true (!v2)))) (ck ((cond (!v1) true (!v2)) || (!(cond (!v1) true (!v2)))) (cond v3
  (ck (apOK (path).length 8) (some [(.sl .is (path)),(.i .i64 (4:Int)),(.sl .is path)]))
  (tree_check.l1 n (Val.kids v) v4 (0:Int) path)))))))))))=ρ):tree_check.F n v name path=ρ:=Eq.trans (by kernel_rfl) (K _ rfl _ rfl _ rfl _ rfl)
theorem tree_check.chk (n:Nat):((Go.Proofs.Try.prog.funcs[23]?).any fun fn=>chkF Go.Proofs.Try.prog (fun k=>((envL noGl (tree_check.env n)).fs k).2) fn tree_check.d.erase)=true:=by kernel_rfl
def tree_Check.env:List (Nat × (Ctr × FSig)):=[(23,(tree_check.c,tree_check.sg))]
def tree_Check.E:TEnv:=envL noGl tree_Check.env
def tree_Check.m:TM := .seq (.reg [
  ⟨.k (.bx 1008),[.s 0,.s 1008],[1,1008],none⟩,
  ⟨.k .mv,[.c (.sl .is ([]:List Int))],[2],none⟩,
  ⟨.k .mv,[.c (.i .i64 (0:Int))],[3],none⟩]) none (.seq (.reg [
  ⟨.k (.ld 1008 0 9 true),[.s 1,.s 1008],[4],none⟩,
  ⟨.k (.pcaln 23 3 2 2 1),[.s 4,.c (.s ([]:Str)),.c (.sl .is ([]:List Int))],[5],none⟩,
  ⟨.k (.ex 0),[.s 5],[6],none⟩,
  ⟨.k (.ex 1),[.s 5],[7],none⟩,
  ⟨.k .mv,[.s 6],[2],none⟩,
  ⟨.k .mv,[.s 7],[3],none⟩]) none .ret)
def tree_Check.d:TFD:={ np:=1,m:=tree_Check.m,ref:=none,tips:=[],res:=[.t 2,.t 3],own:=[],new:=none,tnew:=[] }
noncomputable def tree_Check.F (v:Val):Option (List TV):=tree_Check.d.run tree_Check.E [(.ag (Val.cells v))]
theorem tree_Check.F_in (v:Val) {ρ:Option (List TV)} (K:∀(v1:List Int) (h1:v1=((Tree.chkF (Fld.of (([]:Str)) v) (([]:List Int))).1)) (v2:Int) (h2:v2=((Tree.chkF (Fld.of (([]:Str)) v) (([]:List Int))).2)),ck (decide (Fld.bulk (Fld.of (([]:Str)) v)+(([]:List Int)).length≤1099511627776)) (some [(.sl .is v1),(.i .i64 v2)])=ρ):tree_Check.F v=ρ:=Eq.trans (by kernel_rfl) (K _ rfl _ rfl)
theorem tree_Check.chk:((Go.Proofs.Try.prog.funcs[9]?).any fun fn=>chkF Go.Proofs.Try.prog (fun k=>((envL noGl tree_Check.env).fs k).2) fn tree_Check.d.erase)=true:=by kernel_rfl
def tree_Depth.env (n:Nat):List (Nat × (Ctr × FSig)):=[(21,(tree_Depth.cn n,tree_Depth.sg))]
def tree_Depth.E (n:Nat):TEnv:=envL noGl (tree_Depth.env n)
def tree_Depth.m1:TM := .seq (.reg [
  ⟨.k (.bin .lss),[.s 22,.s 21],[23],none⟩]) none (.seq (.cond (.s 23) [] .skip (.exit 0)) none (.seq (.block 1 [] (.seq (.reg [
  ⟨.k (.ix 10),[.s 20,.s 22],[24],none⟩,
  ⟨.k (.lr 10 true),[.s 24],[25],none⟩,
  ⟨.al 1035 [(.s ([]:Str)),(.i .i64 (0:Int)),(.u64 (0:UInt64)),(.u64 (0:UInt64)),(.u64 (0:UInt64)),(.s ([]:Str)),(.s ([]:Str)),(.i .i64 (0:Int)),(.sl .bs ([]:List UInt8)),(.sl .fl ([]:List Fld))] [],[.s 1035],[5,1035],none⟩,
  ⟨.k (.st 1035 0 10),[.s 5,.s 1035,.s 25],[1035],none⟩]) none (.reg [
  ⟨.k .mv,[.s 3],[26],none⟩,
  ⟨.k (.fa 1035 0 1),[.s 5],[27],none⟩,
  ⟨.k (.ld 1035 1 9 true),[.s 27,.s 1035],[28],none⟩,
  ⟨.k (.call 21 (.plain 1 1)),[.s 28],[29],none⟩,
  ⟨.k .mx,[.s 26,.s 29],[30],none⟩,
  ⟨.k .mv,[.s 30],[3],none⟩]))) none (.reg [
  ⟨.k (.bin .add),[.s 22,.c (.i .i64 (1:Int))],[31],none⟩,
  ⟨.k .mv,[.s 31],[22],none⟩])))
def tree_Depth.m:TM := .seq (.reg [
  ⟨.k (.bx 1034),[.s 0,.s 1034],[1,1034],none⟩,
  ⟨.k .mv,[.c (.i .i64 (0:Int))],[2],none⟩]) none (.seq (.seq (.reg [
  ⟨.k (.fa 1034 0 0),[.s 1],[6],none⟩,
  ⟨.k (.ld 1034 0 1 false),[.s 6,.s 1034],[7],none⟩,
  ⟨.k (.bin .neq),[.s 7,.c (.i .i64 (3:Int))],[8],none⟩,
  ⟨.k .mv,[.s 8],[9],none⟩,
  ⟨.k (.fa 1034 0 0),[.s 1],[10],some (9,true)⟩,
  ⟨.k (.ld 1034 0 1 false),[.s 10,.s 1034],[11],some (9,true)⟩,
  ⟨.k (.bin .neq),[.s 11,.c (.i .i64 (4:Int))],[12],some (9,true)⟩,
  ⟨.k .pick,[.s 9,.s 12,.c (.b false)],[13],none⟩,
  ⟨.k .mv,[.s 13],[14],none⟩,
  ⟨.k (.fa 1034 0 0),[.s 1],[15],some (14,true)⟩,
  ⟨.k (.ld 1034 0 1 false),[.s 15,.s 1034],[16],some (14,true)⟩,
  ⟨.k (.bin .neq),[.s 16,.c (.i .i64 (15:Int))],[17],some (14,true)⟩,
  ⟨.k .pick,[.s 14,.s 17,.c (.b false)],[18],none⟩]) none (.cond (.s 18) [] (.seq (.reg [
  ⟨.k .mv,[.c (.i .i64 (0:Int))],[2],none⟩]) none .ret) .skip)) none (.seq (.reg [
  ⟨.k .mv,[.c (.i .i64 (0:Int))],[3],none⟩]) none (.seq (.seq (.reg [
  ⟨.k (.fa 1034 0 8),[.s 1],[19],none⟩,
  ⟨.k (.ld 1034 8 1 false),[.s 19,.s 1034],[20],none⟩,
  ⟨.k .len,[.s 20],[21],none⟩,
  ⟨.k .mv,[.c (.i .i64 (0:Int))],[22],none⟩]) none (.block 0 [] (.loop [3,20,21,22] [] tree_Depth.m1))) none (.seq (.reg [
  ⟨.k .mv,[.s 3],[32],none⟩,
  ⟨.k (.bin .add),[.s 32,.c (.i .i64 (1:Int))],[33],none⟩,
  ⟨.k .mv,[.s 33],[2],none⟩]) none .ret))))
def tree_Depth.d:TFD:={ np:=1,m:=tree_Depth.m,ref:=none,tips:=[],res:=[.t 2],own:=[],new:=none,tnew:=[] }
noncomputable def tree_Depth.F (n:Nat) (v:Val):Option (List TV):=tree_Depth.d.run (tree_Depth.E n) [(.ag (Val.cells v))]
noncomputable def tree_Depth.k1 (n:Nat):Cont (List TV):=seqK (ev _ (tree_Depth.E n) (.seq (.reg [
  ⟨.k .mv,[.s 3],[32],none⟩,
  ⟨.k (.bin .add),[.s 32,.c (.i .i64 (1:Int))],[33],none⟩,
  ⟨.k .mv,[.s 33],[2],none⟩]) none .ret)) none (endK tree_Depth.d)
noncomputable def tree_Depth.l1 (n:Nat) (x0:Int) (x1:List Fld) (x2:Int) (x3:Int):Option (List TV):=loopL (evO _ (tree_Depth.E n) tree_Depth.m1) isN [3,20,21,22] (headT [3,20,21,22] [(.i .i64 x0),(.sl .fl x1),(.i .i64 x2),(.i .i64 x3)]) (blockK 0 (tree_Depth.k1 n))
theorem tree_Depth.l1_in (n:Nat) (x0:Int) (x1:List Fld) (x2:Int) (x3:Int) {ρ:Option (List TV)} (K:∀(v1:Fld) (h1:v1=(List.getD x1 (x3).toNat (STy.dflt .fl))) (v2:Int) (h2:v2=((Tree.depth (Fld.of [] (Fld.val v1)):Int))) (v3:Int) (h3:v3=(IntKind.i64.wrap (x3+(1:Int)))) (v4:Int) (h4:v4=(IntKind.i64.wrap (x0+(1:Int)))),cond (decide (x3<x2))
  (ck (idxOK x3 (x1).length) (ck ((decide (Fld.bulk (Fld.of [] (Fld.val v1))≤1099511627776))&&decide ((Fld.bulk (Fld.of [] (Fld.val v1)))<n)) (tree_Depth.l1 n (maxI x0 v2) x1 x2 v3)))
  (some [(.i .i64 v4)])=ρ):tree_Depth.l1 n x0 x1 x2 x3=ρ:=((ev_loop _ _ _ _ _ _).trans (by kernel_rfl)).trans (K _ rfl _ rfl _ rfl _ rfl)
theorem tree_Depth.F_in (n:Nat) (v:Val) {ρ:Option (List TV)} (K:∀(v1:Bool) (h1:v1=(cond (!decide ((Val.kind v)=(3:Int))) (!decide ((Val.kind v)=(4:Int))) false)) (v2:Bool) (h2:v2=(cond v1 (!decide ((Val.kind v)=(15:Int))) false)) (v3:Int) (h3:v3=(((Val.kids v)).length:Int)),ck (!(!decide ((Val.kind v)=(3:Int))) || (!decide ((Val.kind v)=(3:Int)))) (ck (!(!decide ((Val.kind v)=(3:Int))) || (!decide ((Val.kind v)=(3:Int)))) (ck (!(!decide ((Val.kind v)=(3:Int))) || (!decide ((Val.kind v)=(3:Int)))) (ck (!v1 || v1) (ck (!v1 || v1) (ck (!v1 || v1) (cond v2
  (some [(.i .i64 (0:Int))])
  (tree_Depth.l1 n (0:Int) (Val.kids v) v3 (0:Int))))))))=ρ):tree_Depth.F n v=ρ:=Eq.trans (by kernel_rfl) (K _ rfl _ rfl _ rfl)
theorem tree_Depth.chk (n:Nat):((Go.Proofs.Try.prog.funcs[21]?).any fun fn=>chkF Go.Proofs.Try.prog (fun k=>((envL noGl (tree_Depth.env n)).fs k).2) fn tree_Depth.d.erase)=true:=by kernel_rfl
def ref17_kinds.env:List (Nat × (Ctr × FSig)):=[]
def ref17_kinds.E:TEnv:=envL noGl ref17_kinds.env
def ref17_kinds.m:TM := .seq (.reg [
  ⟨.k .mv,[.c (.sl .is ([]:List Int))],[0],none⟩]) none (.seq (.reg [
  ⟨.bl .is 21,[.c (.i .i64 (1:Int)),.c (.i .i64 (2:Int)),.c (.i .i64 (3:Int)),.c (.i .i64 (4:Int)),.c (.i .i64 (5:Int)),.c (.i .i64 (6:Int)),.c (.i .i64 (7:Int)),.c (.i .i64 (8:Int)),.c (.i .i64 (9:Int)),.c (.i .i64 (10:Int)),.c (.i .i64 (11:Int)),.c (.i .i64 (12:Int)),.c (.i .i64 (13:Int)),.c (.i .i64 (14:Int)),.c (.i .i64 (15:Int)),.c (.i .i64 (16:Int)),.c (.i .i64 (17:Int)),.c (.i .i64 (18:Int)),.c (.i .i64 (19:Int)),.c (.i .i64 (127:Int)),.c (.i .i64 (255:Int))],[1],none⟩,
  ⟨.k .mv,[.s 1],[0],none⟩]) none .ret)
def ref17_kinds.d:TFD:={ np:=0,m:=ref17_kinds.m,ref:=none,tips:=[],res:=[.t 0],own:=[],new:=none,tnew:=[] }
noncomputable def ref17_kinds.F  : Option (List TV):=ref17_kinds.d.run ref17_kinds.E []
theorem ref17_kinds.F_in  {ρ:Option (List TV)} (K:∀(v1:List Int) (h1:v1=([(1:Int),(2:Int),(3:Int),(4:Int),(5:Int),(6:Int),(7:Int),(8:Int),(9:Int),(10:Int),(11:Int),(12:Int),(13:Int),(14:Int),(15:Int),(16:Int),(17:Int),(18:Int),(19:Int),(127:Int),(255:Int)]:List Int)),some [(.sl .is v1)]=ρ):ref17_kinds.F  = ρ:=Eq.trans (by kernel_rfl) (K _ rfl)
theorem ref17_kinds.chk:((Go.Proofs.Try.prog.funcs[26]?).any fun fn=>chkF Go.Proofs.Try.prog (fun k=>((envL noGl ref17_kinds.env).fs k).2) fn ref17_kinds.d.erase)=true:=by kernel_rfl
def ref17_Name.env:List (Nat × (Ctr × FSig)):=[(26,(ref17_kinds.c,ref17_kinds.sg))]
def ref17_Name.E:TEnv:=envL noGl ref17_Name.env
def ref17_Name.m1:TM := .seq (.seq (.reg [
  ⟨.k .mv,[.s 5],[8],none⟩,
  ⟨.k .mv,[.s 4],[9],none⟩,
  ⟨.k .len,[.s 9],[10],none⟩,
  ⟨.k (.bin .lss),[.s 8,.s 10],[11],none⟩]) none (.cond (.s 11) [] .skip (.exit 0))) none (.seq (.block 1 [] (.seq (.reg [
  ⟨.k .mv,[.s 4],[14],none⟩,
  ⟨.k .mv,[.s 5],[15],none⟩,
  ⟨.k (.ix 1),[.s 14,.s 15],[16],none⟩,
  ⟨.k (.lr 1 false),[.s 16],[17],none⟩,
  ⟨.k .mv,[.s 0],[18],none⟩,
  ⟨.k (.bin .eql),[.s 17,.s 18],[19],none⟩]) none (.cond (.s 19) [] (.seq (.reg [
  ⟨.k .mv,[.s 3],[20],none⟩,
  ⟨.k .mv,[.s 5],[21],none⟩,
  ⟨.k (.ix 1),[.s 20,.s 21],[22],none⟩,
  ⟨.k (.lr 1 false),[.s 22],[23],none⟩,
  ⟨.k .mv,[.s 23],[2],none⟩]) none .ret) .skip))) none (.reg [
  ⟨.k .mv,[.s 5],[12],none⟩,
  ⟨.k (.bin .add),[.s 12,.c (.i .i64 (1:Int))],[13],none⟩,
  ⟨.k .mv,[.s 13],[5],none⟩]))
def ref17_Name.m:TM := .seq (.reg [
  ⟨.k .mv,[.c (.s ([]:Str))],[2],none⟩]) none (.seq (.reg [
  ⟨.bl .ss 21,[.c (.s ([100,111,117,98,108,101]:Str)),.c (.s ([115,116,114,105,110,103]:Str)),.c (.s ([100,111,99,117,109,101,110,116]:Str)),.c (.s ([97,114,114,97,121]:Str)),.c (.s ([98,105,110,97,114,121]:Str)),.c (.s ([117,110,100,101,102,105,110,101,100]:Str)),.c (.s ([111,98,106,101,99,116,105,100]:Str)),.c (.s ([98,111,111,108]:Str)),.c (.s ([100,97,116,101]:Str)),.c (.s ([110,117,108,108]:Str)),.c (.s ([114,101,103,101,120]:Str)),.c (.s ([112,111,105,110,116,101,114]:Str)),.c (.s ([99,111,100,101]:Str)),.c (.s ([115,121,109,98,111,108]:Str)),.c (.s ([115,99,111,112,101,100]:Str)),.c (.s ([105,110,116,51,50]:Str)),.c (.s ([116,105,109,101,115,116,97,109,112]:Str)),.c (.s ([105,110,116,54,52]:Str)),.c (.s ([100,101,99,105,109,97,108]:Str)),.c (.s ([109,97,120,107,101,121]:Str)),.c (.s ([109,105,110,107,101,121]:Str))],[6],none⟩,
  ⟨.k .mv,[.s 6],[3],none⟩]) none (.seq (.reg [
  ⟨.k (.call 26 (.plain 0 1)),[],[7],none⟩,
  ⟨.k .mv,[.s 7],[4],none⟩]) none (.seq (.seq (.reg [
  ⟨.k .mv,[.c (.i .i64 (0:Int))],[5],none⟩]) none (.block 0 [] (.loop [0,3,4,5] [] ref17_Name.m1))) none (.seq (.reg [
  ⟨.k .mv,[.c (.s ([]:Str))],[2],none⟩]) none .ret))))
def ref17_Name.d:TFD:={ np:=1,m:=ref17_Name.m,ref:=none,tips:=[],res:=[.t 2],own:=[],new:=none,tnew:=[] }
noncomputable def ref17_Name.F (k:Int):Option (List TV):=ref17_Name.d.run ref17_Name.E [(.i .i64 k)]
noncomputable def ref17_Name.k1:Cont (List TV):=seqK (ev _ ref17_Name.E (.seq (.reg [
  ⟨.k .mv,[.c (.s ([]:Str))],[2],none⟩]) none .ret)) none (endK ref17_Name.d)
noncomputable def ref17_Name.l1 (x0:Int) (x1:List Str) (x2:List Int) (x3:Int):Option (List TV):=loopL (evO _ ref17_Name.E ref17_Name.m1) isN [0,3,4,5] (headT [0,3,4,5] [(.i .i64 x0),(.sl .ss x1),(.sl .is x2),(.i .i64 x3)]) (blockK 0 ref17_Name.k1)
theorem ref17_Name.l1_in (x0:Int) (x1:List Str) (x2:List Int) (x3:Int) {ρ:Option (List TV)} (K:∀(v1:Int) (h1:v1=(List.getD x2 (x3).toNat (0:Int))) (v2:Str) (h2:v2=(List.getD x1 (x3).toNat ([]:Str))) (v3:Int) (h3:v3=(IntKind.i64.wrap (x3+(1:Int)))),cond (decide (x3<((x2).length:Int)))
  (ck (idxOK x3 (x2).length) (cond (decide (v1=x0))
  (ck (idxOK x3 (x1).length) (some [(.s v2)]))
  (ref17_Name.l1 x0 x1 x2 v3)))
  (some [(.s ([]:Str))])=ρ):ref17_Name.l1 x0 x1 x2 x3=ρ:=((ev_loop _ _ _ _ _ _).trans (by kernel_rfl)).trans (K _ rfl _ rfl _ rfl)
theorem ref17_Name.F_in (k:Int) {ρ:Option (List TV)} (K:∀(v1:List Str) (h1:v1=([([100,111,117,98,108,101]:Str),([115,116,114,105,110,103]:Str),([100,111,99,117,109,101,110,116]:Str),([97,114,114,97,121]:Str),([98,105,110,97,114,121]:Str),([117,110,100,101,102,105,110,101,100]:Str),([111,98,106,101,99,116,105,100]:Str),([98,111,111,108]:Str),([100,97,116,101]:Str),([110,117,108,108]:Str),([114,101,103,101,120]:Str),([112,111,105,110,116,101,114]:Str),([99,111,100,101]:Str),([115,121,109,98,111,108]:Str),([115,99,111,112,101,100]:Str),([105,110,116,51,50]:Str),([116,105,109,101,115,116,97,109,112]:Str),([105,110,116,54,52]:Str),([100,101,99,105,109,97,108]:Str),([109,97,120,107,101,121]:Str),([109,105,110,107,101,121]:Str)]:List Str)),ref17_Name.l1 k v1 (Tree.kinds) (0:Int)=ρ):ref17_Name.F k=ρ:=Eq.trans (by kernel_rfl) (K _ rfl)
theorem ref17_Name.chk:((Go.Proofs.Try.prog.funcs[18]?).any fun fn=>chkF Go.Proofs.Try.prog (fun k=>((envL noGl ref17_Name.env).fs k).2) fn ref17_Name.d.erase)=true:=by kernel_rfl
def ref17_has.env:List (Nat × (Ctr × FSig)):=[]
def ref17_has.E:TEnv:=envL noGl ref17_has.env
def ref17_has.m1:TM := .cond (.s 31) [] (.reg [
  ⟨.k .mv,[.c (.b true)],[8],none⟩]) (.seq (.reg [
  ⟨.k (.bin .eql),[.s 9,.c (.i .i64 (15:Int))],[35],none⟩,
  ⟨.k .mv,[.s 35],[34],none⟩]) none (.cond (.s 34) [] (.reg [
  ⟨.k .mv,[.c (.b true)],[4],none⟩,
  ⟨.k .mv,[.c (.b true)],[8],none⟩]) .skip))
def ref17_has.m2:TM := .cond (.s 19) [] (.reg [
  ⟨.k .mv,[.c (.b true)],[4],none⟩]) (.seq (.reg [
  ⟨.k (.bin .eql),[.s 9,.c (.i .i64 (11:Int))],[24],none⟩,
  ⟨.k .mv,[.s 24],[23],none⟩]) none (.cond (.s 23) [] (.reg [
  ⟨.k .mv,[.c (.b true)],[4],none⟩,
  ⟨.k .mv,[.c (.b true)],[5],none⟩]) (.seq (.reg [
  ⟨.k (.bin .eql),[.s 9,.c (.i .i64 (5:Int))],[26],none⟩,
  ⟨.k .mv,[.s 26],[25],none⟩]) none (.cond (.s 25) [] (.reg [
  ⟨.k .mv,[.c (.b true)],[6],none⟩,
  ⟨.k .mv,[.c (.b true)],[7],none⟩]) (.seq (.reg [
  ⟨.k (.bin .eql),[.s 9,.c (.i .i64 (7:Int))],[28],none⟩,
  ⟨.k .mv,[.s 28],[27],none⟩]) none (.cond (.s 27) [] (.reg [
  ⟨.k .mv,[.c (.b true)],[7],none⟩]) (.seq (.reg [
  ⟨.k (.bin .eql),[.s 9,.c (.i .i64 (12:Int))],[30],none⟩,
  ⟨.k .mv,[.s 30],[29],none⟩]) none (.cond (.s 29) [] (.reg [
  ⟨.k .mv,[.c (.b true)],[4],none⟩,
  ⟨.k .mv,[.c (.b true)],[7],none⟩]) (.seq (.seq (.reg [
  ⟨.k (.bin .eql),[.s 9,.c (.i .i64 (3:Int))],[32],none⟩,
  ⟨.k .mv,[.s 32],[31],none⟩]) none (.cond (.s 31) [] .skip (.reg [
  ⟨.k (.bin .eql),[.s 9,.c (.i .i64 (4:Int))],[33],none⟩,
  ⟨.k .mv,[.s 33],[31],none⟩]))) (some [2,3,4,5,6,7,8,9,31]) ref17_has.m1)))))))))
def ref17_has.m3:TM := .cond (.s 10) [] (.reg [
  ⟨.k .mv,[.c (.b true)],[2],none⟩]) (.seq (.reg [
  ⟨.k (.bin .eql),[.s 9,.c (.i .i64 (19:Int))],[18],none⟩,
  ⟨.k .mv,[.s 18],[17],none⟩]) none (.cond (.s 17) [] (.reg [
  ⟨.k .mv,[.c (.b true)],[3],none⟩]) (.seq (.seq (.reg [
  ⟨.k (.bin .eql),[.s 9,.c (.i .i64 (2:Int))],[20],none⟩,
  ⟨.k .mv,[.s 20],[19],none⟩]) none (.cond (.s 19) [] .skip (.seq (.reg [
  ⟨.k (.bin .eql),[.s 9,.c (.i .i64 (13:Int))],[21],none⟩,
  ⟨.k .mv,[.s 21],[19],none⟩]) none (.cond (.s 19) [] .skip (.reg [
  ⟨.k (.bin .eql),[.s 9,.c (.i .i64 (14:Int))],[22],none⟩,
  ⟨.k .mv,[.s 22],[19],none⟩]))))) (some [2,3,4,5,6,7,8,9,19]) ref17_has.m2)))
def ref17_has.m4:TM := .ret
def ref17_has.m:TM := .seq (.reg [
  ⟨.k .mv,[.c (.b false)],[2],none⟩,
  ⟨.k .mv,[.c (.b false)],[3],none⟩,
  ⟨.k .mv,[.c (.b false)],[4],none⟩,
  ⟨.k .mv,[.c (.b false)],[5],none⟩,
  ⟨.k .mv,[.c (.b false)],[6],none⟩,
  ⟨.k .mv,[.c (.b false)],[7],none⟩,
  ⟨.k .mv,[.c (.b false)],[8],none⟩]) none (.seq (.seq (.reg [
  ⟨.k .mv,[.s 0],[9],none⟩]) none (.block 0 [] (.seq (.seq (.reg [
  ⟨.k (.bin .eql),[.s 9,.c (.i .i64 (1:Int))],[11],none⟩,
  ⟨.k .mv,[.s 11],[10],none⟩]) none (.cond (.s 10) [] .skip (.seq (.reg [
  ⟨.k (.bin .eql),[.s 9,.c (.i .i64 (9:Int))],[12],none⟩,
  ⟨.k .mv,[.s 12],[10],none⟩]) none (.cond (.s 10) [] .skip (.seq (.reg [
  ⟨.k (.bin .eql),[.s 9,.c (.i .i64 (17:Int))],[13],none⟩,
  ⟨.k .mv,[.s 13],[10],none⟩]) none (.cond (.s 10) [] .skip (.seq (.reg [
  ⟨.k (.bin .eql),[.s 9,.c (.i .i64 (18:Int))],[14],none⟩,
  ⟨.k .mv,[.s 14],[10],none⟩]) none (.cond (.s 10) [] .skip (.seq (.reg [
  ⟨.k (.bin .eql),[.s 9,.c (.i .i64 (16:Int))],[15],none⟩,
  ⟨.k .mv,[.s 15],[10],none⟩]) none (.cond (.s 10) [] .skip (.reg [
  ⟨.k (.bin .eql),[.s 9,.c (.i .i64 (8:Int))],[16],none⟩,
  ⟨.k .mv,[.s 16],[10],none⟩]))))))))))) (some [2,3,4,5,6,7,8,9,10]) ref17_has.m3))) (some [2,3,4,5,6,7,8]) ref17_has.m4)
def ref17_has.d:TFD:={ np:=1,m:=ref17_has.m,ref:=none,tips:=[],res:=[.t 2,.t 3,.t 4,.t 5,.t 6,.t 7,.t 8],own:=[],new:=none,tnew:=[] }
noncomputable def ref17_has.F (k:Int):Option (List TV):=ref17_has.d.run ref17_has.E [(.i .i64 k)]
noncomputable def ref17_has.k1:Cont (List TV):=seqK (evO _ ref17_has.E ref17_has.m4) (some [2,3,4,5,6,7,8]) (endK ref17_has.d)
noncomputable def ref17_has.j1 (x0:Bool) (x1:Bool) (x2:Bool) (x3:Bool) (x4:Bool) (x5:Bool) (x6:Bool) (x7:Int) (x8:Bool):Option (List TV):=evO _ ref17_has.E ref17_has.m3 (headT [2,3,4,5,6,7,8,9,10] [(.b x0),(.b x1),(.b x2),(.b x3),(.b x4),(.b x5),(.b x6),(.i .i64 x7),(.b x8)]) (blockK 0 ref17_has.k1)
noncomputable def ref17_has.j2 (x0:Bool) (x1:Bool) (x2:Bool) (x3:Bool) (x4:Bool) (x5:Bool) (x6:Bool):Option (List TV):=evO _ ref17_has.E ref17_has.m4 (headT [2,3,4,5,6,7,8] [(.b x0),(.b x1),(.b x2),(.b x3),(.b x4),(.b x5),(.b x6)]) (endK ref17_has.d)
noncomputable def ref17_has.j3 (x0:Bool) (x1:Bool) (x2:Bool) (x3:Bool) (x4:Bool) (x5:Bool) (x6:Bool) (x7:Int) (x8:Bool):Option (List TV):=evO _ ref17_has.E ref17_has.m2 (headT [2,3,4,5,6,7,8,9,19] [(.b x0),(.b x1),(.b x2),(.b x3),(.b x4),(.b x5),(.b x6),(.i .i64 x7),(.b x8)]) (blockK 0 ref17_has.k1)
noncomputable def ref17_has.j4 (x0:Bool) (x1:Bool) (x2:Bool) (x3:Bool) (x4:Bool) (x5:Bool) (x6:Bool) (x7:Int) (x8:Bool):Option (List TV):=evO _ ref17_has.E ref17_has.m1 (headT [2,3,4,5,6,7,8,9,31] [(.b x0),(.b x1),(.b x2),(.b x3),(.b x4),(.b x5),(.b x6),(.i .i64 x7),(.b x8)]) (blockK 0 ref17_has.k1)
theorem ref17_has.j1_eq (x0:Bool) (x1:Bool) (x2:Bool) (x3:Bool) (x4:Bool) (x5:Bool) (x6:Bool) (x7:Int) (x8:Bool):ref17_has.j1 x0 x1 x2 x3 x4 x5 x6 x7 x8=cond x8
  (ref17_has.j2 true x1 x2 x3 x4 x5 x6)
  (cond (decide (x7=(19:Int)))
  (ref17_has.j2 x0 true x2 x3 x4 x5 x6)
  (cond (decide (x7=(2:Int)))
  (ref17_has.j3 x0 x1 x2 x3 x4 x5 x6 x7 (decide (x7=(2:Int))))
  (cond (decide (x7=(13:Int)))
  (ref17_has.j3 x0 x1 x2 x3 x4 x5 x6 x7 (decide (x7=(13:Int))))
  (ref17_has.j3 x0 x1 x2 x3 x4 x5 x6 x7 (decide (x7=(14:Int))))))):=((congrFun (congrFun (ev_eq _ _) _) _).trans (by kernel_rfl))
theorem ref17_has.j2_eq (x0:Bool) (x1:Bool) (x2:Bool) (x3:Bool) (x4:Bool) (x5:Bool) (x6:Bool):ref17_has.j2 x0 x1 x2 x3 x4 x5 x6=some [(.b x0),(.b x1),(.b x2),(.b x3),(.b x4),(.b x5),(.b x6)]:=((congrFun (congrFun (ev_eq _ _) _) _).trans (by kernel_rfl))
theorem ref17_has.j3_eq (x0:Bool) (x1:Bool) (x2:Bool) (x3:Bool) (x4:Bool) (x5:Bool) (x6:Bool) (x7:Int) (x8:Bool):ref17_has.j3 x0 x1 x2 x3 x4 x5 x6 x7 x8=cond x8
  (ref17_has.j2 x0 x1 true x3 x4 x5 x6)
  (cond (decide (x7=(11:Int)))
  (ref17_has.j2 x0 x1 true true x4 x5 x6)
  (cond (decide (x7=(5:Int)))
  (ref17_has.j2 x0 x1 x2 x3 true true x6)
  (cond (decide (x7=(7:Int)))
  (ref17_has.j2 x0 x1 x2 x3 x4 true x6)
  (cond (decide (x7=(12:Int)))
  (ref17_has.j2 x0 x1 true x3 x4 true x6)
  (cond (decide (x7=(3:Int)))
  (ref17_has.j4 x0 x1 x2 x3 x4 x5 x6 x7 (decide (x7=(3:Int))))
  (ref17_has.j4 x0 x1 x2 x3 x4 x5 x6 x7 (decide (x7=(4:Int))))))))):=((congrFun (congrFun (ev_eq _ _) _) _).trans (by kernel_rfl))
theorem ref17_has.j4_eq (x0:Bool) (x1:Bool) (x2:Bool) (x3:Bool) (x4:Bool) (x5:Bool) (x6:Bool) (x7:Int) (x8:Bool):ref17_has.j4 x0 x1 x2 x3 x4 x5 x6 x7 x8=cond x8
  (ref17_has.j2 x0 x1 x2 x3 x4 x5 true)
  (cond (decide (x7=(15:Int)))
  (ref17_has.j2 x0 x1 true x3 x4 x5 true)
  (ref17_has.j2 x0 x1 x2 x3 x4 x5 x6)):=((congrFun (congrFun (ev_eq _ _) _) _).trans (by kernel_rfl))
theorem ref17_has.F_eq (k:Int):ref17_has.F k=cond (decide (k=(1:Int)))
  (ref17_has.j1 false false false false false false false k (decide (k=(1:Int))))
  (cond (decide (k=(9:Int)))
  (ref17_has.j1 false false false false false false false k (decide (k=(9:Int))))
  (cond (decide (k=(17:Int)))
  (ref17_has.j1 false false false false false false false k (decide (k=(17:Int))))
  (cond (decide (k=(18:Int)))
  (ref17_has.j1 false false false false false false false k (decide (k=(18:Int))))
  (cond (decide (k=(16:Int)))
  (ref17_has.j1 false false false false false false false k (decide (k=(16:Int))))
  (ref17_has.j1 false false false false false false false k (decide (k=(8:Int)))))))):=by kernel_rfl
theorem ref17_has.chk:((Go.Proofs.Try.prog.funcs[38]?).any fun fn=>chkF Go.Proofs.Try.prog (fun k=>((envL noGl ref17_has.env).fs k).2) fn ref17_has.d.erase)=true:=by kernel_rfl
def ref17_own.env:List (Nat × (Ctr × FSig)):=[(18,(ref17_Name.c,ref17_Name.sg)),(38,(ref17_has.c,ref17_has.sg)),(39,(ref2_Whole.c,ref2_Whole.sg)),(40,(ref2_Zero.c,ref2_Zero.sg))]
def ref17_own.E:TEnv:=envL noGl ref17_own.env
def ref17_own.m:TM := .seq (.reg [
  ⟨.k (.bx 1162),[.s 0,.s 1162],[1,1162],none⟩,
  ⟨.k .mv,[.c (.i .i64 (0:Int))],[2],none⟩]) none (.seq (.seq (.reg [
  ⟨.k (.fa 1162 0 0),[.s 1],[10],none⟩,
  ⟨.k (.ld 1162 0 1 false),[.s 10,.s 1162],[11],none⟩,
  ⟨.k (.call 18 (.plain 1 1)),[.s 11],[12],none⟩,
  ⟨.k (.bin .eql),[.s 12,.c (.s ([]:Str))],[13],none⟩]) none (.cond (.s 13) [] (.seq (.reg [
  ⟨.k .mv,[.c (.i .i64 (5:Int))],[2],none⟩]) none .ret) .skip)) none (.seq (.reg [
  ⟨.k (.fa 1162 0 0),[.s 1],[15],none⟩,
  ⟨.k (.ld 1162 0 1 false),[.s 15,.s 1162],[16],none⟩,
  ⟨.k (.call 38 (.plain 1 7)),[.s 16],[17],none⟩,
  ⟨.k .mv,[.s 17],[14],none⟩,
  ⟨.k (.ex 0),[.s 14],[18],none⟩,
  ⟨.k (.ex 1),[.s 14],[19],none⟩,
  ⟨.k (.ex 2),[.s 14],[20],none⟩,
  ⟨.k (.ex 3),[.s 14],[21],none⟩,
  ⟨.k (.ex 4),[.s 14],[22],none⟩,
  ⟨.k (.ex 5),[.s 14],[23],none⟩,
  ⟨.k (.ex 6),[.s 14],[24],none⟩,
  ⟨.k .mv,[.s 18],[3],none⟩,
  ⟨.k .mv,[.s 19],[4],none⟩,
  ⟨.k .mv,[.s 20],[5],none⟩,
  ⟨.k .mv,[.s 21],[6],none⟩,
  ⟨.k .mv,[.s 22],[7],none⟩,
  ⟨.k .mv,[.s 23],[8],none⟩,
  ⟨.k .mv,[.s 24],[9],none⟩]) none (.seq (.seq (.reg [
  ⟨.k .mv,[.s 3],[25],none⟩,
  ⟨.k (.un .not),[.s 25],[26],none⟩,
  ⟨.k .mv,[.s 26],[27],none⟩,
  ⟨.k (.fa 1162 0 1),[.s 1],[28],some (27,true)⟩,
  ⟨.k (.ld 1162 1 1 false),[.s 28,.s 1162],[29],some (27,true)⟩,
  ⟨.k (.bin .neq),[.s 29,.c (.u64 (0:UInt64))],[30],some (27,true)⟩,
  ⟨.k .pick,[.s 27,.s 30,.c (.b false)],[31],none⟩,
  ⟨.k .mv,[.s 31],[32],none⟩,
  ⟨.k .mv,[.s 4],[33],some (32,false)⟩,
  ⟨.k (.un .not),[.s 33],[34],some (32,false)⟩,
  ⟨.k .mv,[.s 34],[35],some (32,false)⟩,
  ⟨.k (.fa 1162 0 2),[.s 1],[36],some (35,true)⟩,
  ⟨.k (.ld 1162 2 1 false),[.s 36,.s 1162],[37],some (35,true)⟩,
  ⟨.k (.bin .neq),[.s 37,.c (.u64 (0:UInt64))],[38],some (35,true)⟩,
  ⟨.k .mv,[.s 38],[39],some (35,true)⟩,
  ⟨.k (.fa 1162 0 3),[.s 1],[40],some (39,false)⟩,
  ⟨.k (.ld 1162 3 1 false),[.s 40,.s 1162],[41],some (39,false)⟩,
  ⟨.k (.bin .neq),[.s 41,.c (.u64 (0:UInt64))],[42],some (39,false)⟩,
  ⟨.k .pick,[.s 39,.c (.b true),.s 42],[43],some (35,true)⟩,
  ⟨.k .pick,[.s 35,.s 43,.c (.b false)],[44],some (32,false)⟩,
  ⟨.k .pick,[.s 32,.c (.b true),.s 44],[45],none⟩,
  ⟨.k .mv,[.s 45],[46],none⟩,
  ⟨.k .mv,[.s 5],[47],some (46,false)⟩,
  ⟨.k (.un .not),[.s 47],[48],some (46,false)⟩,
  ⟨.k .mv,[.s 48],[49],some (46,false)⟩,
  ⟨.k (.fa 1162 0 4),[.s 1],[50],some (49,true)⟩,
  ⟨.k (.ld 1162 4 1 false),[.s 50,.s 1162],[51],some (49,true)⟩,
  ⟨.k (.bin .neq),[.s 51,.c (.s ([]:Str))],[52],some (49,true)⟩,
  ⟨.k .pick,[.s 49,.s 52,.c (.b false)],[53],some (46,false)⟩,
  ⟨.k .pick,[.s 46,.c (.b true),.s 53],[54],none⟩,
  ⟨.k .mv,[.s 54],[55],none⟩,
  ⟨.k .mv,[.s 6],[56],some (55,false)⟩,
  ⟨.k (.un .not),[.s 56],[57],some (55,false)⟩,
  ⟨.k .mv,[.s 57],[58],some (55,false)⟩,
  ⟨.k (.fa 1162 0 5),[.s 1],[59],some (58,true)⟩,
  ⟨.k (.ld 1162 5 1 false),[.s 59,.s 1162],[60],some (58,true)⟩,
  ⟨.k (.bin .neq),[.s 60,.c (.s ([]:Str))],[61],some (58,true)⟩,
  ⟨.k .pick,[.s 58,.s 61,.c (.b false)],[62],some (55,false)⟩,
  ⟨.k .pick,[.s 55,.c (.b true),.s 62],[63],none⟩,
  ⟨.k .mv,[.s 63],[64],none⟩,
  ⟨.k .mv,[.s 7],[65],some (64,false)⟩,
  ⟨.k (.un .not),[.s 65],[66],some (64,false)⟩,
  ⟨.k .mv,[.s 66],[67],some (64,false)⟩,
  ⟨.k (.fa 1162 0 6),[.s 1],[68],some (67,true)⟩,
  ⟨.k (.ld 1162 6 1 false),[.s 68,.s 1162],[69],some (67,true)⟩,
  ⟨.k (.bin .neq),[.s 69,.c (.i .i64 (0:Int))],[70],some (67,true)⟩,
  ⟨.k .pick,[.s 67,.s 70,.c (.b false)],[71],some (64,false)⟩,
  ⟨.k .pick,[.s 64,.c (.b true),.s 71],[72],none⟩,
  ⟨.k .mv,[.s 72],[73],none⟩,
  ⟨.k .mv,[.s 8],[74],some (73,false)⟩,
  ⟨.k (.un .not),[.s 74],[75],some (73,false)⟩,
  ⟨.k .mv,[.s 75],[76],some (73,false)⟩,
  ⟨.k (.fa 1162 0 7),[.s 1],[77],some (76,true)⟩,
  ⟨.k (.ld 1162 7 1 false),[.s 77,.s 1162],[78],some (76,true)⟩,
  ⟨.k .len,[.s 78],[79],some (76,true)⟩,
  ⟨.k (.bin .gtr),[.s 79,.c (.i .i64 (0:Int))],[80],some (76,true)⟩,
  ⟨.k .pick,[.s 76,.s 80,.c (.b false)],[81],some (73,false)⟩,
  ⟨.k .pick,[.s 73,.c (.b true),.s 81],[82],none⟩,
  ⟨.k .mv,[.s 82],[83],none⟩,
  ⟨.k .mv,[.s 9],[84],some (83,false)⟩,
  ⟨.k (.un .not),[.s 84],[85],some (83,false)⟩,
  ⟨.k .mv,[.s 85],[86],some (83,false)⟩,
  ⟨.k (.fa 1162 0 8),[.s 1],[87],some (86,true)⟩,
  ⟨.k (.ld 1162 8 1 false),[.s 87,.s 1162],[88],some (86,true)⟩,
  ⟨.k .len,[.s 88],[89],some (86,true)⟩,
  ⟨.k (.bin .gtr),[.s 89,.c (.i .i64 (0:Int))],[90],some (86,true)⟩,
  ⟨.k .pick,[.s 86,.s 90,.c (.b false)],[91],some (83,false)⟩,
  ⟨.k .pick,[.s 83,.c (.b true),.s 91],[92],none⟩]) none (.cond (.s 92) [] (.seq (.reg [
  ⟨.k .mv,[.c (.i .i64 (1:Int))],[2],none⟩]) none .ret) .skip)) none (.seq (.seq (.reg [
  ⟨.k (.fa 1162 0 0),[.s 1],[93],none⟩,
  ⟨.k (.ld 1162 0 1 false),[.s 93,.s 1162],[94],none⟩,
  ⟨.k (.bin .eql),[.s 94,.c (.i .i64 (16:Int))],[95],none⟩,
  ⟨.k .mv,[.s 95],[96],none⟩,
  ⟨.k (.fa 1162 0 1),[.s 1],[97],some (96,true)⟩,
  ⟨.k (.ld 1162 1 1 false),[.s 97,.s 1162],[98],some (96,true)⟩,
  ⟨.k (.bin .geq),[.s 98,.c (.u64 (4294967296:UInt64))],[99],some (96,true)⟩,
  ⟨.k .pick,[.s 96,.s 99,.c (.b false)],[100],none⟩,
  ⟨.k .mv,[.s 100],[101],none⟩,
  ⟨.k (.fa 1162 0 0),[.s 1],[102],some (101,false)⟩,
  ⟨.k (.ld 1162 0 1 false),[.s 102,.s 1162],[103],some (101,false)⟩,
  ⟨.k (.bin .eql),[.s 103,.c (.i .i64 (8:Int))],[104],some (101,false)⟩,
  ⟨.k .mv,[.s 104],[105],some (101,false)⟩,
  ⟨.k (.fa 1162 0 1),[.s 1],[106],some (105,true)⟩,
  ⟨.k (.ld 1162 1 1 false),[.s 106,.s 1162],[107],some (105,true)⟩,
  ⟨.k (.bin .gtr),[.s 107,.c (.u64 (1:UInt64))],[108],some (105,true)⟩,
  ⟨.k .pick,[.s 105,.s 108,.c (.b false)],[109],some (101,false)⟩,
  ⟨.k .pick,[.s 101,.c (.b true),.s 109],[110],none⟩,
  ⟨.k .mv,[.s 110],[111],none⟩,
  ⟨.k (.fa 1162 0 6),[.s 1],[112],some (111,false)⟩,
  ⟨.k (.ld 1162 6 1 false),[.s 112,.s 1162],[113],some (111,false)⟩,
  ⟨.k (.bin .lss),[.s 113,.c (.i .i64 (0:Int))],[114],some (111,false)⟩,
  ⟨.k .pick,[.s 111,.c (.b true),.s 114],[115],none⟩,
  ⟨.k .mv,[.s 115],[116],none⟩,
  ⟨.k (.fa 1162 0 6),[.s 1],[117],some (116,false)⟩,
  ⟨.k (.ld 1162 6 1 false),[.s 117,.s 1162],[118],some (116,false)⟩,
  ⟨.k (.bin .gtr),[.s 118,.c (.i .i64 (255:Int))],[119],some (116,false)⟩,
  ⟨.k .pick,[.s 116,.c (.b true),.s 119],[120],none⟩,
  ⟨.k .mv,[.s 120],[121],none⟩,
  ⟨.k (.fa 1162 0 0),[.s 1],[122],some (121,false)⟩,
  ⟨.k (.ld 1162 0 1 false),[.s 122,.s 1162],[123],some (121,false)⟩,
  ⟨.k (.bin .eql),[.s 123,.c (.i .i64 (7:Int))],[124],some (121,false)⟩,
  ⟨.k .mv,[.s 124],[125],some (121,false)⟩,
  ⟨.k (.fa 1162 0 0),[.s 1],[126],some (125,false)⟩,
  ⟨.k (.ld 1162 0 1 false),[.s 126,.s 1162],[127],some (125,false)⟩,
  ⟨.k (.bin .eql),[.s 127,.c (.i .i64 (12:Int))],[128],some (125,false)⟩,
  ⟨.k .pick,[.s 125,.c (.b true),.s 128],[129],some (121,false)⟩,
  ⟨.k .mv,[.s 129],[130],some (121,false)⟩,
  ⟨.k (.fa 1162 0 7),[.s 1],[131],some (130,true)⟩,
  ⟨.k (.ld 1162 7 1 false),[.s 131,.s 1162],[132],some (130,true)⟩,
  ⟨.k .len,[.s 132],[133],some (130,true)⟩,
  ⟨.k (.bin .neq),[.s 133,.c (.i .i64 (12:Int))],[134],some (130,true)⟩,
  ⟨.k .pick,[.s 130,.s 134,.c (.b false)],[135],some (121,false)⟩,
  ⟨.k .pick,[.s 121,.c (.b true),.s 135],[136],none⟩]) none (.cond (.s 136) [] (.seq (.reg [
  ⟨.k .mv,[.c (.i .i64 (1:Int))],[2],none⟩]) none .ret) .skip)) none (.seq (.seq (.reg [
  ⟨.k (.fa 1162 0 4),[.s 1],[137],none⟩,
  ⟨.k (.ld 1162 4 1 false),[.s 137,.s 1162],[138],none⟩,
  ⟨.k (.call 39 (.plain 1 1)),[.s 138],[139],none⟩,
  ⟨.k (.un .not),[.s 139],[140],none⟩,
  ⟨.k .mv,[.s 140],[141],none⟩,
  ⟨.k (.fa 1162 0 5),[.s 1],[142],some (141,false)⟩,
  ⟨.k (.ld 1162 5 1 false),[.s 142,.s 1162],[143],some (141,false)⟩,
  ⟨.k (.call 39 (.plain 1 1)),[.s 143],[144],some (141,false)⟩,
  ⟨.k (.un .not),[.s 144],[145],some (141,false)⟩,
  ⟨.k .pick,[.s 141,.c (.b true),.s 145],[146],none⟩,
  ⟨.k .mv,[.s 146],[147],none⟩,
  ⟨.k (.fa 1162 0 0),[.s 1],[148],some (147,false)⟩,
  ⟨.k (.ld 1162 0 1 false),[.s 148,.s 1162],[149],some (147,false)⟩,
  ⟨.k (.bin .eql),[.s 149,.c (.i .i64 (11:Int))],[150],some (147,false)⟩,
  ⟨.k .mv,[.s 150],[151],some (147,false)⟩,
  ⟨.k (.fa 1162 0 4),[.s 1],[152],some (151,true)⟩,
  ⟨.k (.ld 1162 4 1 false),[.s 152,.s 1162],[153],some (151,true)⟩,
  ⟨.k (.call 40 (.plain 1 1)),[.s 153],[154],some (151,true)⟩,
  ⟨.k .mv,[.s 154],[155],some (151,true)⟩,
  ⟨.k (.fa 1162 0 5),[.s 1],[156],some (155,false)⟩,
  ⟨.k (.ld 1162 5 1 false),[.s 156,.s 1162],[157],some (155,false)⟩,
  ⟨.k (.call 40 (.plain 1 1)),[.s 157],[158],some (155,false)⟩,
  ⟨.k .pick,[.s 155,.c (.b true),.s 158],[159],some (151,true)⟩,
  ⟨.k .pick,[.s 151,.s 159,.c (.b false)],[160],some (147,false)⟩,
  ⟨.k .pick,[.s 147,.c (.b true),.s 160],[161],none⟩]) none (.cond (.s 161) [] (.seq (.reg [
  ⟨.k .mv,[.c (.i .i64 (4:Int))],[2],none⟩]) none .ret) .skip)) none (.seq (.reg [
  ⟨.k .mv,[.c (.i .i64 (0:Int))],[2],none⟩]) none .ret))))))
def ref17_own.d:TFD:={ np:=1,m:=ref17_own.m,ref:=none,tips:=[],res:=[.t 2],own:=[],new:=none,tnew:=[] }
noncomputable def ref17_own.F (v:Val):Option (List TV):=ref17_own.d.run ref17_own.E [(.ag (Val.cells v))]
theorem ref17_own.F_in (v:Val) {ρ:Option (List TV)} (K:∀(v1:Bool) (h1:v1=(!(Tree.hasN 0 ((Val.kind v))))) (v2:Bool) (h2:v2=(cond v1 (!decide ((Val.bits v)=(0:UInt64))) false)) (v3:Bool) (h3:v3=(!(Tree.hasN 1 ((Val.kind v))))) (v4:Bool) (h4:v4=(((!v2)&&v3)&&(!(!decide ((Val.high v)=(0:UInt64)))))) (v5:Bool) (h5:v5=(cond (!decide ((Val.high v)=(0:UInt64))) true (!decide ((Val.low v)=(0:UInt64))))) (v6:Bool) (h6:v6=(cond v2 true (cond v3 v5 false))) (v7:Bool) (h7:v7=(!(Tree.hasN 2 ((Val.kind v))))) (v8:Bool) (h8:v8=(cond v7 (!decide ((Val.text v)=([]:Str))) false)) (v9:Bool) (h9:v9=(!(Tree.hasN 3 ((Val.kind v))))) (v10:Bool) (h10:v10=(cond v9 (!decide ((Val.more v)=([]:Str))) false)) (v11:Bool) (h11:v11=(cond (cond v6 true v8) true v10)) (v12:Bool) (h12:v12=(!(Tree.hasN 4 ((Val.kind v))))) (v13:Bool) (h13:v13=(cond v12 (!decide ((Val.sub v)=(0:Int))) false)) (v14:Bool) (h14:v14=(!(Tree.hasN 5 ((Val.kind v))))) (v15:Bool) (h15:v15=((!(cond v11 true v13))&&v14)) (v16:Int) (h16:v16=(((Val.bytes v)).length:Int)) (v17:Bool) (h17:v17=(cond v14 (decide ((0:Int)<v16)) false)) (v18:Bool) (h18:v18=(cond (cond v11 true v13) true v17)) (v19:Bool) (h19:v19=(!(Tree.hasN 6 ((Val.kind v))))) (v20:Int) (h20:v20=(((Val.kids v)).length:Int)) (v21:Bool) (h21:v21=(cond v19 (decide ((0:Int)<v20)) false)) (v22:Bool) (h22:v22=(cond (decide ((Val.kind v)=(16:Int))) (decide ((4294967296:UInt64)≤(Val.bits v))) false)) (v23:Bool) (h23:v23=((!v22)&&(decide ((Val.kind v)=(8:Int))))) (v24:Bool) (h24:v24=(cond (decide ((Val.kind v)=(8:Int))) (decide ((1:UInt64)<(Val.bits v))) false)) (v25:Bool) (h25:v25=(cond (cond v22 true v24) true (decide ((Val.sub v)<(0:Int))))) (v26:Bool) (h26:v26=(cond v25 true (decide ((255:Int)<(Val.sub v))))) (v27:Bool) (h27:v27=((!v26)&&(!(decide ((Val.kind v)=(7:Int)))))) (v28:Bool) (h28:v28=(cond (decide ((Val.kind v)=(7:Int))) true (decide ((Val.kind v)=(12:Int))))) (v29:Bool) (h29:v29=(cond v28 (!decide (v16=(12:Int))) false)) (v30:Bool) (h30:v30=(!(Utf.whole ((Val.text v))))) (v31:Bool) (h31:v31=(!(Utf.whole ((Val.more v))))) (v32:Bool) (h32:v32=((!(cond v30 true v31))&&(decide ((Val.kind v)=(11:Int))))) (v33:Bool) (h33:v33=(v32&&(!(Utf.zero ((Val.text v)))))) (v34:Bool) (h34:v34=(cond (Utf.zero ((Val.text v))) true (Utf.zero ((Val.more v))))) (v35:Bool) (h35:v35=(cond (decide ((Val.kind v)=(11:Int))) v34 false)) (v36:Bool) (h36:v36=(cond (cond v30 true v31) true v35)),cond (decide ((Tree.name ((Val.kind v)))=([]:Str)))
  (some [(.i .i64 (5:Int))])
  (ck (!v1 || v1) (ck (!v1 || v1) (ck (!v1 || v1) (ck (!(!v2) || (!v2)) (ck (!(!v2) || (!v2)) (ck (!((!v2)&&v3) || ((!v2)&&v3)) (ck (!((!v2)&&v3) || ((!v2)&&v3)) (ck (!((!v2)&&v3) || ((!v2)&&v3)) (ck (!v4 || v4) (ck (!v4 || v4) (ck (!((!v2)&&v3) || (((!v2)&&v3)&&((!decide ((Val.high v)=(0:UInt64))) || v4))) (ck (!(!v2) || ((!v2)&&(!v3 || ((!v2)&&v3)))) (ck (v2 || (!v2)) (ck (!(!v6) || (!v6)) (ck (!(!v6) || (!v6)) (ck (!((!v6)&&v7) || ((!v6)&&v7)) (ck (!((!v6)&&v7) || ((!v6)&&v7)) (ck (!(!v6) || ((!v6)&&(!v7 || ((!v6)&&v7)))) (ck (v6 || (!v6)) (ck (!(!(cond v6 true v8)) || (!(cond v6 true v8))) (ck (!(!(cond v6 true v8)) || (!(cond v6 true v8))) (ck (!((!(cond v6 true v8))&&v9) || ((!(cond v6 true v8))&&v9)) (ck (!((!(cond v6 true v8))&&v9) || ((!(cond v6 true v8))&&v9)) (ck (!(!(cond v6 true v8)) || ((!(cond v6 true v8))&&(!v9 || ((!(cond v6 true v8))&&v9)))) (ck ((cond v6 true v8) || (!(cond v6 true v8))) (ck (!(!v11) || (!v11)) (ck (!(!v11) || (!v11)) (ck (!((!v11)&&v12) || ((!v11)&&v12)) (ck (!((!v11)&&v12) || ((!v11)&&v12)) (ck (!(!v11) || ((!v11)&&(!v12 || ((!v11)&&v12)))) (ck (v11 || (!v11)) (ck (!(!(cond v11 true v13)) || (!(cond v11 true v13))) (ck (!(!(cond v11 true v13)) || (!(cond v11 true v13))) (ck (!v15 || v15) (ck (!v15 || v15) (ck (!v15 || v15) (ck (!(!(cond v11 true v13)) || ((!(cond v11 true v13))&&(!v14 || v15))) (ck ((cond v11 true v13) || (!(cond v11 true v13))) (ck (!(!v18) || (!v18)) (ck (!(!v18) || (!v18)) (ck (!((!v18)&&v19) || ((!v18)&&v19)) (ck (!((!v18)&&v19) || ((!v18)&&v19)) (ck (!((!v18)&&v19) || ((!v18)&&v19)) (ck (!(!v18) || ((!v18)&&(!v19 || ((!v18)&&v19)))) (ck (v18 || (!v18)) (cond (cond v18 true v21)
  (some [(.i .i64 (1:Int))])
  (ck (!(decide ((Val.kind v)=(16:Int))) || (decide ((Val.kind v)=(16:Int)))) (ck (!(decide ((Val.kind v)=(16:Int))) || (decide ((Val.kind v)=(16:Int)))) (ck (!(decide ((Val.kind v)=(16:Int))) || (decide ((Val.kind v)=(16:Int)))) (ck (!(!v22) || (!v22)) (ck (!(!v22) || (!v22)) (ck (!(!v22) || (!v22)) (ck (!v23 || v23) (ck (!v23 || v23) (ck (!(!v22) || ((!v22)&&(!(decide ((Val.kind v)=(8:Int))) || v23))) (ck (v22 || (!v22)) (ck (!(!(cond v22 true v24)) || (!(cond v22 true v24))) (ck (!(!(cond v22 true v24)) || (!(cond v22 true v24))) (ck ((cond v22 true v24) || (!(cond v22 true v24))) (ck (!(!v25) || (!v25)) (ck (!(!v25) || (!v25)) (ck (v25 || (!v25)) (ck (!(!v26) || (!v26)) (ck (!(!v26) || (!v26)) (ck (!(!v26) || (!v26)) (ck (!v27 || v27) (ck (!v27 || v27) (ck (!(!v26) || ((!v26)&&((decide ((Val.kind v)=(7:Int))) || v27))) (ck (!(!v26) || (!v26)) (ck (!((!v26)&&v28) || ((!v26)&&v28)) (ck (!((!v26)&&v28) || ((!v26)&&v28)) (ck (!((!v26)&&v28) || ((!v26)&&v28)) (ck (!(!v26) || ((!v26)&&(!v28 || ((!v26)&&v28)))) (ck (v26 || (!v26)) (cond (cond v26 true v29)
  (some [(.i .i64 (1:Int))])
  (ck (decide (((Val.text v)).length≤1099511627776)) (ck (!(!v30) || (!v30)) (ck (!(!v30) || ((!v30)&&(decide (((Val.more v)).length≤1099511627776)))) (ck (!(!v30) || (!v30)) (ck (v30 || (!v30)) (ck (!(!(cond v30 true v31)) || (!(cond v30 true v31))) (ck (!(!(cond v30 true v31)) || (!(cond v30 true v31))) (ck (!(!(cond v30 true v31)) || (!(cond v30 true v31))) (ck (!v32 || v32) (ck (!v32 || (v32&&(decide (((Val.text v)).length≤1099511627776)))) (ck (!v32 || v32) (ck (!v33 || v33) (ck (!v33 || (v33&&(decide (((Val.more v)).length≤1099511627776)))) (ck (!v32 || (v32&&((Utf.zero ((Val.text v))) || v33))) (ck (!(!(cond v30 true v31)) || ((!(cond v30 true v31))&&(!(decide ((Val.kind v)=(11:Int))) || v32))) (ck ((cond v30 true v31) || (!(cond v30 true v31))) (cond v36
  (some [(.i .i64 (4:Int))])
  (some [(.i .i64 (0:Int))])))))))))))))))))))))))))))))))))))))))))))))))))))))))))))))))))))))))))))))))))))))))))))))=ρ):ref17_own.F v=ρ:=Eq.trans (by kernel_rfl) (K _ rfl _ rfl _ rfl _ rfl _ rfl _ rfl _ rfl _ rfl _ rfl _ rfl _ rfl _ rfl _ rfl _ rfl _ rfl _ rfl _ rfl _ rfl _ rfl _ rfl _ rfl _ rfl _ rfl _ rfl _ rfl _ rfl _ rfl _ rfl _ rfl _ rfl _ rfl _ rfl _ rfl _ rfl _ rfl _ rfl)
theorem ref17_own.chk:((Go.Proofs.Try.prog.funcs[33]?).any fun fn=>chkF Go.Proofs.Try.prog (fun k=>((envL noGl ref17_own.env).fs k).2) fn ref17_own.d.erase)=true:=by kernel_rfl
def ref17_Named.env:List (Nat × (Ctr × FSig)):=[(39,(ref2_Whole.c,ref2_Whole.sg)),(40,(ref2_Zero.c,ref2_Zero.sg))]
def ref17_Named.E:TEnv:=envL noGl ref17_Named.env
def ref17_Named.m:TM := .seq (.reg [
  ⟨.k .mv,[.c (.b false)],[2],none⟩]) none (.seq (.reg [
  ⟨.k .mv,[.s 0],[3],none⟩,
  ⟨.k (.call 39 (.plain 1 1)),[.s 3],[4],none⟩,
  ⟨.k .mv,[.s 4],[5],none⟩,
  ⟨.k .mv,[.s 0],[6],some (5,true)⟩,
  ⟨.k (.call 40 (.plain 1 1)),[.s 6],[7],some (5,true)⟩,
  ⟨.k (.un .not),[.s 7],[8],some (5,true)⟩,
  ⟨.k .pick,[.s 5,.s 8,.c (.b false)],[9],none⟩,
  ⟨.k .mv,[.s 9],[2],none⟩]) none .ret)
def ref17_Named.d:TFD:={ np:=1,m:=ref17_Named.m,ref:=none,tips:=[],res:=[.t 2],own:=[],new:=none,tnew:=[] }
noncomputable def ref17_Named.F (s:Str):Option (List TV):=ref17_Named.d.run ref17_Named.E [(.s s)]
theorem ref17_Named.F_in (s:Str) {ρ:Option (List TV)} (K:∀(v1:Bool) (h1:v1=(cond (Utf.whole s) (!(Utf.zero s)) false)),ck (decide (s.length≤1099511627776)) (ck (!(Utf.whole s) || ((Utf.whole s)&&(decide (s.length≤1099511627776)))) (ck (!(Utf.whole s) || (Utf.whole s)) (ck (!(Utf.whole s) || (Utf.whole s)) (some [(.b v1)]))))=ρ):ref17_Named.F s=ρ:=Eq.trans (by kernel_rfl) (K _ rfl)
theorem ref17_Named.chk:((Go.Proofs.Try.prog.funcs[34]?).any fun fn=>chkF Go.Proofs.Try.prog (fun k=>((envL noGl ref17_Named.env).fs k).2) fn ref17_Named.d.erase)=true:=by kernel_rfl
def ref17_longer.env:List (Nat × (Ctr × FSig)):=[]
def ref17_longer.E:TEnv:=envL noGl ref17_longer.env
def ref17_longer.m:TM := .seq (.reg [
  ⟨.k .mv,[.c (.sl .is ([]:List Int))],[4],none⟩]) none (.seq (.reg [
  ⟨.blt .is 0 101,[.s (lk 101)],[5,lk 101],none⟩,
  ⟨.k .mv,[.s 0],[6],none⟩,
  ⟨.k (.ap 101 102 1 8),[.s 5,.s 6,.s (lk 101),.s (lk 102)],[7,lk 101,lk 102],none⟩,
  ⟨.k .mv,[.s 1],[8],none⟩,
  ⟨.bl .is 1,[.s 8],[9],none⟩,
  ⟨.k (.ap 102 104 1 8),[.s 7,.s 9,.s (lk 102),.s (lk 104)],[10,lk 102,lk 104],none⟩,
  ⟨.k .mv,[.s 10],[4],none⟩]) none .ret)
def ref17_longer.d:TFD:={ np:=2,m:=ref17_longer.m,ref:=none,tips:=[],res:=[.t 4],own:=[],new:=none,tnew:=[] }
noncomputable def ref17_longer.F (p:List Int) (k:Int):Option (List TV):=ref17_longer.d.run ref17_longer.E [(.sl .is p),(.i .i64 k)]
theorem ref17_longer.F_in (p:List Int) (k:Int) {ρ:Option (List TV)} (K:∀(v1:List Int) (h1:v1=((([]:List Int)++p)++([k]:List Int))),ck (apOK ((([]:List Int)).length+(p).length) 8) (ck (apOK (((([]:List Int)++p)).length+(([k]:List Int)).length) 8) (some [(.sl .is v1)]))=ρ):ref17_longer.F p k=ρ:=Eq.trans (by kernel_rfl) (K _ rfl)
theorem ref17_longer.chk:((Go.Proofs.Try.prog.funcs[35]?).any fun fn=>chkF Go.Proofs.Try.prog (fun k=>((envL noGl ref17_longer.env).fs k).2) fn ref17_longer.d.erase)=true:=by kernel_rfl
def ref17_check.env (n:Nat):List (Nat × (Ctr × FSig)):=[(24,(ref17_check.cn n,ref17_check.sg)),(33,(ref17_own.c,ref17_own.sg)),(34,(ref17_Named.c,ref17_Named.sg)),(35,(ref17_longer.c,ref17_longer.sg))]
def ref17_check.E (n:Nat):TEnv:=envL noGl (ref17_check.env n)
def ref17_check.m1:TM := .seq (.seq (.reg [
  ⟨.k .mv,[.s 9],[25],none⟩,
  ⟨.k (.fa 1055 0 8),[.s 3],[26],none⟩,
  ⟨.k (.ld 1055 8 1 false),[.s 26,.s 1055],[27],none⟩,
  ⟨.k .len,[.s 27],[28],none⟩,
  ⟨.k (.bin .lss),[.s 25,.s 28],[29],none⟩]) none (.cond (.s 29) [] .skip (.exit 0))) none (.seq (.block 1 [(3,.ptr 1055 0),(1055,.cl [])] (.seq (.reg [
  ⟨.k (.fa 1055 0 8),[.s 3],[33],none⟩,
  ⟨.k (.ld 1055 8 1 false),[.s 33,.s 1055],[34],none⟩,
  ⟨.k .mv,[.s 9],[35],none⟩,
  ⟨.k (.ix 10),[.s 34,.s 35],[36],none⟩,
  ⟨.k (.fr 1 9 true),[.s 36],[37],none⟩,
  ⟨.k (.lr 9 true),[.s 37],[38],none⟩,
  ⟨.k (.fa 1055 0 8),[.s 3],[39],none⟩,
  ⟨.k (.ld 1055 8 1 false),[.s 39,.s 1055],[40],none⟩,
  ⟨.k .mv,[.s 9],[41],none⟩,
  ⟨.k (.ix 10),[.s 40,.s 41],[42],none⟩,
  ⟨.k (.fr 0 1 false),[.s 42],[43],none⟩,
  ⟨.k (.lr 1 false),[.s 43],[44],none⟩,
  ⟨.k .mv,[.s 2],[45],none⟩,
  ⟨.k .mv,[.s 9],[46],none⟩,
  ⟨.k (.call 35 (.plain 2 1)),[.s 45,.s 46],[47],none⟩,
  ⟨.k (.call 24 (.plain 3 2)),[.s 38,.s 44,.s 47],[48],none⟩,
  ⟨.k .mv,[.s 48],[32],none⟩,
  ⟨.k (.ex 0),[.s 32],[49],none⟩,
  ⟨.k (.ex 1),[.s 32],[50],none⟩,
  ⟨.k .mv,[.s 49],[10],none⟩,
  ⟨.k .mv,[.s 50],[11],none⟩]) none (.seq (.reg [
  ⟨.k .mv,[.s 11],[51],none⟩,
  ⟨.k (.bin .neq),[.s 51,.c (.i .i64 (0:Int))],[52],none⟩]) none (.cond (.s 52) [] (.seq (.reg [
  ⟨.k .mv,[.s 10],[53],none⟩,
  ⟨.k .mv,[.s 11],[54],none⟩,
  ⟨.k .mv,[.s 53],[6],none⟩,
  ⟨.k .mv,[.s 54],[7],none⟩]) none .ret) .skip)))) none (.reg [
  ⟨.k .mv,[.s 9],[30],none⟩,
  ⟨.k (.bin .add),[.s 30,.c (.i .i64 (1:Int))],[31],none⟩,
  ⟨.k .mv,[.s 31],[9],none⟩]))
def ref17_check.m2:TM := .seq (.seq (.reg [
  ⟨.k .mv,[.s 8],[21],none⟩,
  ⟨.k (.bin .neq),[.s 21,.c (.i .i64 (0:Int))],[22],none⟩]) none (.cond (.s 22) [] (.seq (.reg [
  ⟨.k .mv,[.s 2],[23],none⟩,
  ⟨.k .mv,[.s 8],[24],none⟩,
  ⟨.k .mv,[.s 23],[6],none⟩,
  ⟨.k .mv,[.s 24],[7],none⟩]) none .ret) .skip)) none (.seq (.seq (.reg [
  ⟨.k .mv,[.c (.i .i64 (0:Int))],[9],none⟩]) none (.block 0 [] (.loop [2,3,9,1055] [(3,.ptr 1055 0),(1055,.cl [])] ref17_check.m1))) none (.seq (.reg [
  ⟨.k .mv,[.c (.sl .is ([]:List Int))],[6],none⟩,
  ⟨.k .mv,[.c (.i .i64 (0:Int))],[7],none⟩]) none .ret))
def ref17_check.m:TM := .seq (.reg [
  ⟨.k (.bx 1055),[.s 0,.s 1055],[3,1055],none⟩,
  ⟨.k .mv,[.c (.sl .is ([]:List Int))],[6],none⟩,
  ⟨.k .mv,[.c (.i .i64 (0:Int))],[7],none⟩]) none (.seq (.reg [
  ⟨.k (.ld 1055 0 9 true),[.s 3,.s 1055],[12],none⟩,
  ⟨.k (.call 33 (.plain 1 1)),[.s 12],[13],none⟩,
  ⟨.k .mv,[.s 13],[8],none⟩]) none (.seq (.seq (.reg [
  ⟨.k .mv,[.s 8],[14],none⟩,
  ⟨.k (.bin .eql),[.s 14,.c (.i .i64 (0:Int))],[15],none⟩,
  ⟨.k .mv,[.s 15],[16],none⟩,
  ⟨.k .mv,[.s 1],[17],some (16,true)⟩,
  ⟨.k (.call 34 (.plain 1 1)),[.s 17],[18],some (16,true)⟩,
  ⟨.k (.un .not),[.s 18],[19],some (16,true)⟩,
  ⟨.k .pick,[.s 16,.s 19,.c (.b false)],[20],none⟩]) none (.cond (.s 20) [(3,.ptr 1055 0),(1055,.cl [])] (.reg [
  ⟨.k .mv,[.c (.i .i64 (4:Int))],[8],none⟩]) .skip)) (some [2,3,8,1055]) ref17_check.m2))
def ref17_check.d:TFD:={ np:=3,m:=ref17_check.m,ref:=none,tips:=[],res:=[.t 6,.t 7],own:=[],new:=none,tnew:=[] }
noncomputable def ref17_check.F (n:Nat) (v:Val) (name:Str) (p:List Int):Option (List TV):=ref17_check.d.run (ref17_check.E n) [(.ag (Val.cells v)),(.s name),(.sl .is p)]
noncomputable def ref17_check.k1 (n:Nat):Cont (List TV):=seqK (ev _ (ref17_check.E n) (.seq (.reg [
  ⟨.k .mv,[.c (.sl .is ([]:List Int))],[6],none⟩,
  ⟨.k .mv,[.c (.i .i64 (0:Int))],[7],none⟩]) none .ret)) none (endK ref17_check.d)
noncomputable def ref17_check.j1 (n:Nat) (x0:List Int) (x1:Int) (x2:Val):Option (List TV):=evO _ (ref17_check.E n) ref17_check.m2 (headT [2,3,8,1055] [(.sl .is x0),.pt,(.i .i64 x1),(.ag (Val.cells x2))]) (endK ref17_check.d)
noncomputable def ref17_check.l2 (n:Nat) (x0:List Int) (x1:Int) (x2:Val):Option (List TV):=loopL (evO _ (ref17_check.E n) ref17_check.m1) isN [2,3,9,1055] (headT [2,3,9,1055] [(.sl .is x0),.pt,(.i .i64 x1),(.ag (Val.cells x2))]) (blockK 0 (ref17_check.k1 n))
theorem ref17_check.j1_eq (n:Nat) (x0:List Int) (x1:Int) (x2:Val):ref17_check.j1 n x0 x1 x2=cond (!decide (x1=(0:Int)))
  (some [(.sl .is x0),(.i .i64 x1)])
  (ref17_check.l2 n x0 (0:Int) x2):=((congrFun (congrFun (ev_eq _ _) _) _).trans (by kernel_rfl))
theorem ref17_check.l2_in (n:Nat) (x0:List Int) (x1:Int) (x2:Val) {ρ:Option (List TV)} (K:∀(v1:Int) (h1:v1=(((Val.kids x2)).length:Int)) (v2:Fld) (h2:v2=(List.getD (Val.kids x2) (x1).toNat (STy.dflt .fl))) (v3:List Int) (h3:v3=((Tree.chkF (Fld.of ((Fld.name v2)) (Fld.val v2)) (((x0++[x1])))).1)) (v4:Int) (h4:v4=((Tree.chkF (Fld.of ((Fld.name v2)) (Fld.val v2)) (((x0++[x1])))).2)) (v5:Int) (h5:v5=(IntKind.i64.wrap (x1+(1:Int)))),cond (decide (x1<v1))
  (ck (idxOK x1 ((Val.kids x2)).length) (ck (idxOK x1 ((Val.kids x2)).length) (ck (decide (x0.length≤1099511627776)) (ck ((decide (Fld.bulk (Fld.of ((Fld.name v2)) (Fld.val v2))+(((x0++[x1]))).length≤1099511627776))&&decide ((Fld.bulk (Fld.of ((Fld.name v2)) (Fld.val v2)))<n)) (cond (!decide (v4=(0:Int)))
  (some [(.sl .is v3),(.i .i64 v4)])
  (ref17_check.l2 n x0 v5 x2))))))
  (some [(.sl .is ([]:List Int)),(.i .i64 (0:Int))])=ρ):ref17_check.l2 n x0 x1 x2=ρ:=((ev_loop _ _ _ _ _ _).trans (by kernel_rfl)).trans (K _ rfl _ rfl _ rfl _ rfl _ rfl)
theorem ref17_check.F_in (n:Nat) (v:Val) (name:Str) (p:List Int) {ρ:Option (List TV)} (K:∀(v1:Bool) (h1:v1=(cond (decide ((Tree.own v)=(0:Int))) (!(Tree.wholeT name true)) false)),ck (decide (Fld.bulk (Fld.of [] v)≤1099511627776)) (ck (!(decide ((Tree.own v)=(0:Int))) || ((decide ((Tree.own v)=(0:Int)))&&(decide (name.length≤1099511627776)))) (ck (!(decide ((Tree.own v)=(0:Int))) || (decide ((Tree.own v)=(0:Int)))) (ck (!(decide ((Tree.own v)=(0:Int))) || (decide ((Tree.own v)=(0:Int)))) (cond v1
  (ref17_check.j1 n p (4:Int) v)
  (ref17_check.j1 n p (Tree.own v) v)))))=ρ):ref17_check.F n v name p=ρ:=Eq.trans (by kernel_rfl) (K _ rfl)
theorem ref17_check.chk (n:Nat):((Go.Proofs.Try.prog.funcs[24]?).any fun fn=>chkF Go.Proofs.Try.prog (fun k=>((envL noGl (ref17_check.env n)).fs k).2) fn ref17_check.d.erase)=true:=by kernel_rfl
def ref17_Check.env:List (Nat × (Ctr × FSig)):=[(24,(ref17_check.c,ref17_check.sg))]
def ref17_Check.E:TEnv:=envL noGl ref17_Check.env
def ref17_Check.m:TM := .seq (.reg [
  ⟨.k (.bx 1008),[.s 0,.s 1008],[1,1008],none⟩,
  ⟨.k .mv,[.c (.sl .is ([]:List Int))],[2],none⟩,
  ⟨.k .mv,[.c (.i .i64 (0:Int))],[3],none⟩]) none (.seq (.reg [
  ⟨.k (.ld 1008 0 9 true),[.s 1,.s 1008],[4],none⟩,
  ⟨.k (.call 24 (.plain 3 2)),[.s 4,.c (.s ([]:Str)),.c (.sl .is ([]:List Int))],[5],none⟩,
  ⟨.k (.ex 0),[.s 5],[6],none⟩,
  ⟨.k (.ex 1),[.s 5],[7],none⟩,
  ⟨.k .mv,[.s 6],[2],none⟩,
  ⟨.k .mv,[.s 7],[3],none⟩]) none .ret)
def ref17_Check.d:TFD:={ np:=1,m:=ref17_Check.m,ref:=none,tips:=[],res:=[.t 2,.t 3],own:=[],new:=none,tnew:=[] }
noncomputable def ref17_Check.F (v:Val):Option (List TV):=ref17_Check.d.run ref17_Check.E [(.ag (Val.cells v))]
theorem ref17_Check.F_in (v:Val) {ρ:Option (List TV)} (K:∀(v1:List Int) (h1:v1=((Tree.chkF (Fld.of (([]:Str)) v) (([]:List Int))).1)) (v2:Int) (h2:v2=((Tree.chkF (Fld.of (([]:Str)) v) (([]:List Int))).2)),ck (decide (Fld.bulk (Fld.of (([]:Str)) v)+(([]:List Int)).length≤1099511627776)) (some [(.sl .is v1),(.i .i64 v2)])=ρ):ref17_Check.F v=ρ:=Eq.trans (by kernel_rfl) (K _ rfl _ rfl)
theorem ref17_Check.chk:((Go.Proofs.Try.prog.funcs[10]?).any fun fn=>chkF Go.Proofs.Try.prog (fun k=>((envL noGl ref17_Check.env).fs k).2) fn ref17_Check.d.erase)=true:=by kernel_rfl
def ref1_SameInts.env:List (Nat × (Ctr × FSig)):=[]
def ref1_SameInts.E:TEnv:=envL noGl ref1_SameInts.env
def ref1_SameInts.m1:TM := .seq (.seq (.reg [
  ⟨.k .mv,[.s 5],[11],none⟩,
  ⟨.k .mv,[.s 0],[12],none⟩,
  ⟨.k .len,[.s 12],[13],none⟩,
  ⟨.k (.bin .lss),[.s 11,.s 13],[14],none⟩]) none (.cond (.s 14) [] .skip (.exit 0))) none (.seq (.block 1 [] (.seq (.reg [
  ⟨.k .mv,[.s 0],[17],none⟩,
  ⟨.k .mv,[.s 5],[18],none⟩,
  ⟨.k (.ix 1),[.s 17,.s 18],[19],none⟩,
  ⟨.k (.lr 1 false),[.s 19],[20],none⟩,
  ⟨.k .mv,[.s 1],[21],none⟩,
  ⟨.k .mv,[.s 5],[22],none⟩,
  ⟨.k (.ix 1),[.s 21,.s 22],[23],none⟩,
  ⟨.k (.lr 1 false),[.s 23],[24],none⟩,
  ⟨.k (.bin .neq),[.s 20,.s 24],[25],none⟩]) none (.cond (.s 25) [] (.seq (.reg [
  ⟨.k .mv,[.c (.b false)],[4],none⟩]) none .ret) .skip))) none (.reg [
  ⟨.k .mv,[.s 5],[15],none⟩,
  ⟨.k (.bin .add),[.s 15,.c (.i .i64 (1:Int))],[16],none⟩,
  ⟨.k .mv,[.s 16],[5],none⟩]))
def ref1_SameInts.m:TM := .seq (.reg [
  ⟨.k .mv,[.c (.b false)],[4],none⟩]) none (.seq (.seq (.reg [
  ⟨.k .mv,[.s 0],[6],none⟩,
  ⟨.k .len,[.s 6],[7],none⟩,
  ⟨.k .mv,[.s 1],[8],none⟩,
  ⟨.k .len,[.s 8],[9],none⟩,
  ⟨.k (.bin .neq),[.s 7,.s 9],[10],none⟩]) none (.cond (.s 10) [] (.seq (.reg [
  ⟨.k .mv,[.c (.b false)],[4],none⟩]) none .ret) .skip)) none (.seq (.seq (.reg [
  ⟨.k .mv,[.c (.i .i64 (0:Int))],[5],none⟩]) none (.block 0 [] (.loop [0,1,5] [] ref1_SameInts.m1))) none (.seq (.reg [
  ⟨.k .mv,[.c (.b true)],[4],none⟩]) none .ret)))
def ref1_SameInts.d:TFD:={ np:=2,m:=ref1_SameInts.m,ref:=none,tips:=[],res:=[.t 4],own:=[],new:=none,tnew:=[] }
noncomputable def ref1_SameInts.F (a:List Int) (b:List Int):Option (List TV):=ref1_SameInts.d.run ref1_SameInts.E [(.sl .is a),(.sl .is b)]
noncomputable def ref1_SameInts.k1:Cont (List TV):=seqK (ev _ ref1_SameInts.E (.seq (.reg [
  ⟨.k .mv,[.c (.b true)],[4],none⟩]) none .ret)) none (endK ref1_SameInts.d)
noncomputable def ref1_SameInts.l1 (x0:List Int) (x1:List Int) (x2:Int):Option (List TV):=loopL (evO _ ref1_SameInts.E ref1_SameInts.m1) isN [0,1,5] (headT [0,1,5] [(.sl .is x0),(.sl .is x1),(.i .i64 x2)]) (blockK 0 ref1_SameInts.k1)
theorem ref1_SameInts.l1_in (x0:List Int) (x1:List Int) (x2:Int) {ρ:Option (List TV)} (K:∀(v1:Int) (h1:v1=(List.getD x0 (x2).toNat (0:Int))) (v2:Int) (h2:v2=(List.getD x1 (x2).toNat (0:Int))) (v3:Int) (h3:v3=(IntKind.i64.wrap (x2+(1:Int)))),cond (decide (x2<((x0).length:Int)))
  (ck (idxOK x2 (x0).length) (ck (idxOK x2 (x1).length) (cond (!decide (v1=v2))
  (some [(.b false)])
  (ref1_SameInts.l1 x0 x1 v3))))
  (some [(.b true)])=ρ):ref1_SameInts.l1 x0 x1 x2=ρ:=((ev_loop _ _ _ _ _ _).trans (by kernel_rfl)).trans (K _ rfl _ rfl _ rfl)
theorem ref1_SameInts.F_eq (a:List Int) (b:List Int):ref1_SameInts.F a b=cond (!decide (((a).length:Int)=((b).length:Int)))
  (some [(.b false)])
  (ref1_SameInts.l1 a b (0:Int)):=by kernel_rfl
theorem ref1_SameInts.chk:((Go.Proofs.Try.prog.funcs[11]?).any fun fn=>chkF Go.Proofs.Try.prog (fun k=>((envL noGl ref1_SameInts.env).fs k).2) fn ref1_SameInts.d.erase)=true:=by kernel_rfl
def book_Room.env:List (Nat × (Ctr × FSig)):=[]
def book_Room.E:TEnv:=envL noGl book_Room.env
def book_Room.m1:TM := .seq (.seq (.reg [
  ⟨.k .mv,[.s 5],[6],none⟩,
  ⟨.k .mv,[.s 1],[7],none⟩,
  ⟨.k .len,[.s 7],[8],none⟩,
  ⟨.k (.bin .lss),[.s 6,.s 8],[9],none⟩]) none (.cond (.s 9) [] .skip (.exit 0))) none (.seq (.block 1 [] (.seq (.seq (.reg [
  ⟨.k .mv,[.s 0],[12],none⟩,
  ⟨.k (.bin .lss),[.s 12,.c (.i .i64 (0:Int))],[13],none⟩,
  ⟨.k .mv,[.s 13],[14],none⟩,
  ⟨.k .mv,[.s 1],[15],some (14,false)⟩,
  ⟨.k .mv,[.s 5],[16],some (14,false)⟩,
  ⟨.k (.ix 1),[.s 15,.s 16],[17],some (14,false)⟩,
  ⟨.k (.lr 1 false),[.s 17],[18],some (14,false)⟩,
  ⟨.k .mv,[.s 0],[19],some (14,false)⟩,
  ⟨.k (.bin .gtr),[.s 18,.s 19],[20],some (14,false)⟩,
  ⟨.k .pick,[.s 14,.c (.b true),.s 20],[21],none⟩]) none (.cond (.s 21) [] (.seq (.reg [
  ⟨.k .mv,[.c (.i .i64 (-1:Int))],[4],none⟩]) none .ret) .skip)) none (.reg [
  ⟨.k .mv,[.s 0],[22],none⟩,
  ⟨.k .mv,[.s 1],[23],none⟩,
  ⟨.k .mv,[.s 5],[24],none⟩,
  ⟨.k (.ix 1),[.s 23,.s 24],[25],none⟩,
  ⟨.k (.lr 1 false),[.s 25],[26],none⟩,
  ⟨.k (.bin .sub),[.s 22,.s 26],[27],none⟩,
  ⟨.k .mv,[.s 27],[0],none⟩]))) none (.reg [
  ⟨.k .mv,[.s 5],[10],none⟩,
  ⟨.k (.bin .add),[.s 10,.c (.i .i64 (1:Int))],[11],none⟩,
  ⟨.k .mv,[.s 11],[5],none⟩]))
def book_Room.m:TM := .seq (.reg [
  ⟨.k .mv,[.c (.i .i64 (0:Int))],[4],none⟩]) none (.seq (.seq (.reg [
  ⟨.k .mv,[.c (.i .i64 (0:Int))],[5],none⟩]) none (.block 0 [] (.loop [0,1,5] [] book_Room.m1))) none (.seq (.reg [
  ⟨.k .mv,[.s 0],[28],none⟩,
  ⟨.k .mv,[.s 28],[4],none⟩]) none .ret))
def book_Room.d:TFD:={ np:=2,m:=book_Room.m,ref:=none,tips:=[],res:=[.t 4],own:=[],new:=none,tnew:=[] }
noncomputable def book_Room.F (left:Int) (sizes:List Int):Option (List TV):=book_Room.d.run book_Room.E [(.i .i64 left),(.sl .is sizes)]
noncomputable def book_Room.k1:Cont (List TV):=seqK (ev _ book_Room.E (.seq (.reg [
  ⟨.k .mv,[.s 0],[28],none⟩,
  ⟨.k .mv,[.s 28],[4],none⟩]) none .ret)) none (endK book_Room.d)
noncomputable def book_Room.l1 (x0:Int) (x1:List Int) (x2:Int):Option (List TV):=loopL (evO _ book_Room.E book_Room.m1) isN [0,1,5] (headT [0,1,5] [(.i .i64 x0),(.sl .is x1),(.i .i64 x2)]) (blockK 0 book_Room.k1)
theorem book_Room.l1_in (x0:Int) (x1:List Int) (x2:Int) {ρ:Option (List TV)} (K:∀(v1:Int) (h1:v1=(List.getD x1 (x2).toNat (0:Int))) (v2:Bool) (h2:v2=(cond (decide (x0<(0:Int))) true (decide (x0<v1)))) (v3:Int) (h3:v3=(IntKind.i64.wrap (x2+(1:Int)))),cond (decide (x2<((x1).length:Int)))
  (ck (!(!(decide (x0<(0:Int)))) || (((!(decide (x0<(0:Int))))&&(!(decide (x0<(0:Int)))))&&(idxOK x2 (x1).length))) (ck (!(!(decide (x0<(0:Int)))) || (!(decide (x0<(0:Int))))) (ck (!(!(decide (x0<(0:Int)))) || ((!(decide (x0<(0:Int))))&&(!(decide (x0<(0:Int)))))) (ck ((decide (x0<(0:Int))) || (!(decide (x0<(0:Int))))) (cond v2
  (some [(.i .i64 (-1:Int))])
  (ck (idxOK x2 (x1).length) (book_Room.l1 (IntKind.i64.wrap (x0 - v1)) x1 v3)))))))
  (some [(.i .i64 x0)])=ρ):book_Room.l1 x0 x1 x2=ρ:=((ev_loop _ _ _ _ _ _).trans (by kernel_rfl)).trans (K _ rfl _ rfl _ rfl)
theorem book_Room.F_eq (left:Int) (sizes:List Int):book_Room.F left sizes=book_Room.l1 left sizes (0:Int):=by kernel_rfl
theorem book_Room.chk:((Go.Proofs.Try.prog.funcs[29]?).any fun fn=>chkF Go.Proofs.Try.prog (fun k=>((envL noGl book_Room.env).fs k).2) fn book_Room.d.erase)=true:=by kernel_rfl
def book_Value.env (n:Nat):List (Nat × (Ctr × FSig)):=[(22,(book_Value.cn n,book_Value.sg)),(29,(book_Room.c,book_Room.sg))]
def book_Value.E (n:Nat):TEnv:=envL noGl (book_Value.env n)
def book_Value.m1:TM := .seq (.seq (.reg [
  ⟨.k .mv,[.s 5],[18],none⟩,
  ⟨.k (.fa 1047 0 8),[.s 3],[19],none⟩,
  ⟨.k (.ld 1047 8 1 false),[.s 19,.s 1047],[20],none⟩,
  ⟨.k .len,[.s 20],[21],none⟩,
  ⟨.k (.bin .lss),[.s 18,.s 21],[22],none⟩,
  ⟨.k .mv,[.s 22],[23],none⟩,
  ⟨.k .mv,[.s 0],[24],some (23,true)⟩,
  ⟨.k (.bin .geq),[.s 24,.c (.i .i64 (0:Int))],[25],some (23,true)⟩,
  ⟨.k .pick,[.s 23,.s 25,.c (.b false)],[26],none⟩]) none (.cond (.s 26) [] .skip (.exit 0))) none (.seq (.block 1 [(3,.ptr 1047 0),(1047,.cl [])] (.reg [
  ⟨.k .mv,[.s 0],[29],none⟩,
  ⟨.k (.fa 1047 0 8),[.s 3],[30],none⟩,
  ⟨.k (.ld 1047 8 1 false),[.s 30,.s 1047],[31],none⟩,
  ⟨.k .mv,[.s 5],[32],none⟩,
  ⟨.k (.ix 10),[.s 31,.s 32],[33],none⟩,
  ⟨.k (.fr 0 1 false),[.s 33],[34],none⟩,
  ⟨.k (.lr 1 false),[.s 34],[35],none⟩,
  ⟨.k .lns,[.s 35],[36],none⟩,
  ⟨.bl .is 1,[.s 36],[37],none⟩,
  ⟨.k (.call 29 (.plain 2 1)),[.s 29,.s 37],[38],none⟩,
  ⟨.k (.fa 1047 0 8),[.s 3],[39],none⟩,
  ⟨.k (.ld 1047 8 1 false),[.s 39,.s 1047],[40],none⟩,
  ⟨.k .mv,[.s 5],[41],none⟩,
  ⟨.k (.ix 10),[.s 40,.s 41],[42],none⟩,
  ⟨.k (.fr 1 9 true),[.s 42],[43],none⟩,
  ⟨.k (.lr 9 true),[.s 43],[44],none⟩,
  ⟨.k (.call 22 (.plain 2 1)),[.s 38,.s 44],[45],none⟩,
  ⟨.k .mv,[.s 45],[0],none⟩])) none (.reg [
  ⟨.k .mv,[.s 5],[27],none⟩,
  ⟨.k (.bin .add),[.s 27,.c (.i .i64 (1:Int))],[28],none⟩,
  ⟨.k .mv,[.s 28],[5],none⟩]))
def book_Value.m:TM := .seq (.reg [
  ⟨.k (.bx 1047),[.s 1,.s 1047],[3,1047],none⟩,
  ⟨.k .mv,[.c (.i .i64 (0:Int))],[4],none⟩]) none (.seq (.reg [
  ⟨.k .mv,[.s 0],[6],none⟩,
  ⟨.k (.fa 1047 0 4),[.s 3],[7],none⟩,
  ⟨.k (.ld 1047 4 1 false),[.s 7,.s 1047],[8],none⟩,
  ⟨.k .lns,[.s 8],[9],none⟩,
  ⟨.k (.fa 1047 0 5),[.s 3],[10],none⟩,
  ⟨.k (.ld 1047 5 1 false),[.s 10,.s 1047],[11],none⟩,
  ⟨.k .lns,[.s 11],[12],none⟩,
  ⟨.k (.fa 1047 0 7),[.s 3],[13],none⟩,
  ⟨.k (.ld 1047 7 1 false),[.s 13,.s 1047],[14],none⟩,
  ⟨.k .len,[.s 14],[15],none⟩,
  ⟨.bl .is 4,[.c (.i .i64 (2:Int)),.s 9,.s 12,.s 15],[16],none⟩,
  ⟨.k (.call 29 (.plain 2 1)),[.s 6,.s 16],[17],none⟩,
  ⟨.k .mv,[.s 17],[0],none⟩]) none (.seq (.seq (.reg [
  ⟨.k .mv,[.c (.i .i64 (0:Int))],[5],none⟩]) none (.block 0 [] (.loop [0,3,5,1047] [(3,.ptr 1047 0),(1047,.cl [])] book_Value.m1))) none (.seq (.reg [
  ⟨.k .mv,[.s 0],[46],none⟩,
  ⟨.k .mv,[.s 46],[4],none⟩]) none .ret)))
def book_Value.d:TFD:={ np:=2,m:=book_Value.m,ref:=none,tips:=[],res:=[.t 4],own:=[],new:=none,tnew:=[] }
noncomputable def book_Value.F (n:Nat) (left:Int) (v:Val):Option (List TV):=book_Value.d.run (book_Value.E n) [(.i .i64 left),(.ag (Val.cells v))]
noncomputable def book_Value.k1 (n:Nat):Cont (List TV):=seqK (ev _ (book_Value.E n) (.seq (.reg [
  ⟨.k .mv,[.s 0],[46],none⟩,
  ⟨.k .mv,[.s 46],[4],none⟩]) none .ret)) none (endK book_Value.d)
noncomputable def book_Value.l1 (n:Nat) (x0:Int) (x1:Int) (x2:Val):Option (List TV):=loopL (evO _ (book_Value.E n) book_Value.m1) isN [0,3,5,1047] (headT [0,3,5,1047] [(.i .i64 x0),.pt,(.i .i64 x1),(.ag (Val.cells x2))]) (blockK 0 (book_Value.k1 n))
theorem book_Value.l1_in (n:Nat) (x0:Int) (x1:Int) (x2:Val) {ρ:Option (List TV)} (K:∀(v1:Int) (h1:v1=(((Val.kids x2)).length:Int)) (v2:Bool) (h2:v2=(cond (decide (x1<v1)) (decide ((0:Int)≤x0)) false)) (v3:Fld) (h3:v3=(List.getD (Val.kids x2) (x1).toNat (STy.dflt .fl))) (v4:Int) (h4:v4=(((Fld.name v3)).length:Int)) (v5:Int) (h5:v5=(Book.room x0 (([v4]:List Int)))) (v6:Int) (h6:v6=(Book.value v5 (Fld.of [] (Fld.val v3)))) (v7:Int) (h7:v7=(IntKind.i64.wrap (x1+(1:Int)))),ck (!(decide (x1<v1)) || (decide (x1<v1))) (ck (!(decide (x1<v1)) || (decide (x1<v1))) (cond v2
  (ck (idxOK x1 ((Val.kids x2)).length) (ck (decide (x0≤1200∧(([v4]:List Int)).length≤10)&&(([v4]:List Int)).all (fun s=>decide (0≤s))) (ck (idxOK x1 ((Val.kids x2)).length) (ck ((decide (v5≤1200))&&decide ((Fld.bulk (Fld.of [] (Fld.val v3)))<n)) (book_Value.l1 n v6 v7 x2)))))
  (some [(.i .i64 x0)])))=ρ):book_Value.l1 n x0 x1 x2=ρ:=((ev_loop _ _ _ _ _ _).trans (by kernel_rfl)).trans (K _ rfl _ rfl _ rfl _ rfl _ rfl _ rfl _ rfl)
theorem book_Value.F_in (n:Nat) (left:Int) (v:Val) {ρ:Option (List TV)} (K:∀(v1:Int) (h1:v1=(((Val.text v)).length:Int)) (v2:Int) (h2:v2=(((Val.more v)).length:Int)) (v3:Int) (h3:v3=(((Val.bytes v)).length:Int)) (v4:List Int) (h4:v4=([(2:Int),v1,v2,v3]:List Int)),ck (decide (left≤1200∧v4.length≤10)&&v4.all (fun s=>decide (0≤s))) (book_Value.l1 n (Book.room left v4) (0:Int) v)=ρ):book_Value.F n left v=ρ:=Eq.trans (by kernel_rfl) (K _ rfl _ rfl _ rfl _ rfl)
theorem book_Value.chk (n:Nat):((Go.Proofs.Try.prog.funcs[22]?).any fun fn=>chkF Go.Proofs.Try.prog (fun k=>((envL noGl (book_Value.env n)).fs k).2) fn book_Value.d.erase)=true:=by kernel_rfl
def book_Place.env:List (Nat × (Ctr × FSig)):=[]
def book_Place.E:TEnv:=envL noGl book_Place.env
def book_Place.m:TM := .seq (.reg [
  ⟨.k .mv,[.c (.i .i64 (0:Int))],[4],none⟩]) none (.seq (.reg [
  ⟨.k .mv,[.s 0],[5],none⟩,
  ⟨.k .mv,[.s 1],[6],none⟩,
  ⟨.k (.bin .rem),[.s 5,.s 6],[7],none⟩,
  ⟨.k .mv,[.s 1],[8],none⟩,
  ⟨.k (.bin .add),[.s 7,.s 8],[9],none⟩,
  ⟨.k .mv,[.s 1],[10],none⟩,
  ⟨.k (.bin .rem),[.s 9,.s 10],[11],none⟩,
  ⟨.k .mv,[.s 11],[4],none⟩]) none .ret)
def book_Place.d:TFD:={ np:=2,m:=book_Place.m,ref:=none,tips:=[],res:=[.t 4],own:=[],new:=none,tnew:=[] }
noncomputable def book_Place.F (k:Int) (n:Int):Option (List TV):=book_Place.d.run book_Place.E [(.i .i64 k),(.i .i64 n)]
theorem book_Place.F_in (k:Int) (n:Int) {ρ:Option (List TV)} (K:∀(v1:Int) (h1:v1=(IntKind.i64.wrap ((Int.tmod k n)+n))),ck (!decide (n=0)) (ck (!decide (n=0)) (some [(.i .i64 (Int.tmod v1 n))]))=ρ):book_Place.F k n=ρ:=Eq.trans (by kernel_rfl) (K _ rfl)
theorem book_Place.chk:((Go.Proofs.Try.prog.funcs[13]?).any fun fn=>chkF Go.Proofs.Try.prog (fun k=>((envL noGl book_Place.env).fs k).2) fn book_Place.d.erase)=true:=by kernel_rfl
def book_With.env (n:Nat):List (Nat × (Ctr × FSig)):=[(14,(book_With.cn n,book_With.sg))]
def book_With.E (n:Nat):TEnv:=envL noGl (book_With.env n)
def book_With.m:TM := .seq (.reg [
  ⟨.k (.bx 1036),[.s 0,.s 1036],[3,1036],none⟩,
  ⟨.k (.bx 1037),[.s 2,.s 1037],[5,1037],none⟩,
  ⟨.al 1038 [(.i .i64 (0:Int)),(.u64 (0:UInt64)),(.u64 (0:UInt64)),(.u64 (0:UInt64)),(.s ([]:Str)),(.s ([]:Str)),(.i .i64 (0:Int)),(.sl .bs ([]:List UInt8)),(.sl .fl ([]:List Fld))] [],[.s 1038],[6,1038],none⟩]) none (.seq (.seq (.reg [
  ⟨.k .mv,[.s 1],[7],none⟩,
  ⟨.k .len,[.s 7],[8],none⟩,
  ⟨.k (.bin .eql),[.s 8,.c (.i .i64 (0:Int))],[9],none⟩]) none (.cond (.s 9) [] (.seq (.reg [
  ⟨.k (.ld 1037 0 9 true),[.s 5,.s 1037],[10],none⟩,
  ⟨.k (.st 1038 0 9),[.s 6,.s 1038,.s 10],[1038],none⟩]) none .ret) .skip)) none (.seq (.reg [
  ⟨.blt .fl 0 102,[.s (lk 102)],[11,lk 102],none⟩,
  ⟨.k (.fa 1036 0 8),[.s 3],[12],none⟩,
  ⟨.k (.ld 1036 8 1 false),[.s 12,.s 1036],[13],none⟩,
  ⟨.k (.apv 102 103 10 136),[.s 11,.s 13,.s (lk 102),.s (lk 103)],[14,lk 102,lk 103],none⟩,
  ⟨.k (.fa 1036 0 8),[.s 3],[15],none⟩,
  ⟨.k (.stp 1036 8),[.s 15,.s 1036,.s 14],[1036],none⟩]) none (.seq (.reg [
  ⟨.k (.fa 1036 0 8),[.s 3],[16],none⟩,
  ⟨.k (.ld 1036 8 1 false),[.s 16,.s 1036],[17],none⟩,
  ⟨.k .mv,[.s 1],[18],none⟩,
  ⟨.k (.ix 1),[.s 18,.c (.i .i64 (0:Int))],[19],none⟩,
  ⟨.k (.lr 1 false),[.s 19],[20],none⟩,
  ⟨.k (.fa 1036 0 8),[.s 3],[21],none⟩,
  ⟨.k (.ld 1036 8 1 false),[.s 21,.s 1036],[22],none⟩,
  ⟨.k .mv,[.s 1],[23],none⟩,
  ⟨.k (.ix 1),[.s 23,.c (.i .i64 (0:Int))],[24],none⟩,
  ⟨.k (.lr 1 false),[.s 24],[25],none⟩,
  ⟨.k (.pix 103 10),[.s 22,.s 25,.s (lk 103)],[26],none⟩,
  ⟨.k (.pfa 103 1),[.s 26],[27],none⟩,
  ⟨.k (.pld 103 10 9 true),[.s 27,.s (lk 103)],[28],none⟩,
  ⟨.k .mv,[.s 1],[29],none⟩,
  ⟨.k (.sc 1 true false),[.s 29,.c (.i .i64 (1:Int))],[30],none⟩,
  ⟨.k (.ld 1037 0 9 true),[.s 5,.s 1037],[31],none⟩,
  ⟨.k (.call 14 (.plain 3 1)),[.s 28,.s 30,.s 31],[32],none⟩,
  ⟨.k (.pix 103 10),[.s 17,.s 20,.s (lk 103)],[33],none⟩,
  ⟨.k (.pfa 103 1),[.s 33],[34],none⟩,
  ⟨.k (.pst 103 10 9),[.s 34,.s (lk 103),.s 32],[lk 103],none⟩]) none (.seq (.reg [
  ⟨.k (.ldz 1036 0 9 8 103 10),[.s 3,.s 1036,.s (lk 103)],[35,1036,lk 103],none⟩,
  ⟨.k (.st 1038 0 9),[.s 6,.s 1038,.s 35],[1038],none⟩]) none .ret))))
def book_With.d:TFD:={ np:=3,m:=book_With.m,ref:=none,tips:=[],res:=[.c 6 1038 9 true],own:=[],new:=none,tnew:=[] }
noncomputable def book_With.F (n:Nat) (v:Val) (p:List Int) (x:Val):Option (List TV):=book_With.d.run (book_With.E n) [(.ag (Val.cells v)),(.sl .is p),(.ag (Val.cells x))]
theorem book_With.F_in (n:Nat) (v:Val) (p:List Int) (x:Val) {ρ:Option (List TV)} (K:∀(v1:Int) (h1:v1=(List.getD p ((0:Int)).toNat (0:Int))) (v2:List Int) (h2:v2=(List.drop ((1:Int)).toNat p)) (v3:Val) (h3:v3=(Tree.put v2 (Fld.val (List.getD (Val.kids v) ((v1).toNat) (STy.dflt .fl))) x)) (v4:List Fld) (h4:v4=(List.set (Val.kids v) ((v1).toNat) (Fld.mk (Fld.name (List.getD (Val.kids v) ((v1).toNat) (STy.dflt .fl))) (Val.kind v3) (Val.bits v3) (Val.high v3) (Val.low v3) (Val.text v3) (Val.more v3) (Val.sub v3) (Val.bytes v3) (Val.kids v3)))),cond (decide (((p).length:Int)=(0:Int)))
  (some [(.ag (Val.cells x))])
  (ck (apOK ((Val.kids v)).length 136) (ck (idxOK (0:Int) (p).length) (ck (idxOK (0:Int) (p).length) (ck (idxOK v1 ((Val.kids v)).length) (ck (decide ((v1).toNat<((Val.kids v)).length)) (ck (cutOK (1:Int) (p).length (p).length) (ck ((decide (Fld.bulk (Fld.of [] (Fld.val (List.getD (Val.kids v) ((v1).toNat) (STy.dflt .fl))))≤1048576)&&Tree.within v2 (Fld.val (List.getD (Val.kids v) ((v1).toNat) (STy.dflt .fl))))&&decide (((v2).length)<n)) (ck (idxOK v1 ((Val.kids v)).length) (ck (decide ((v1).toNat<((Val.kids v)).length)) (some [(.ag [(.i .i64 (Val.kind v)),(.u64 (Val.bits v)),(.u64 (Val.high v)),(.u64 (Val.low v)),(.s (Val.text v)),(.s (Val.more v)),(.i .i64 (Val.sub v)),(.sl .bs (Val.bytes v)),(.sl .fl v4)])]))))))))))=ρ):book_With.F n v p x=ρ:=Eq.trans (by kernel_rfl) (K _ rfl _ rfl _ rfl _ rfl)
theorem book_With.chk (n:Nat):((Go.Proofs.Try.prog.funcs[14]?).any fun fn=>chkF Go.Proofs.Try.prog (fun k=>((envL noGl (book_With.env n)).fs k).2) fn book_With.d.erase)=true:=by kernel_rfl
def ref17_all.env (n:Nat):List (Nat × (Ctr × FSig)):=[(25,(ref17_all.cn n,ref17_all.sg)),(35,(ref17_longer.c,ref17_longer.sg))]
def ref17_all.E (n:Nat):TEnv:=envL noGl (ref17_all.env n)
def ref17_all.m1:TM := .seq (.seq (.reg [
  ⟨.k .mv,[.s 6],[9],none⟩,
  ⟨.k (.fa 1029 0 8),[.s 2],[10],none⟩,
  ⟨.k (.ld 1029 8 1 false),[.s 10,.s 1029],[11],none⟩,
  ⟨.k .len,[.s 11],[12],none⟩,
  ⟨.k (.bin .lss),[.s 9,.s 12],[13],none⟩]) none (.cond (.s 13) [] .skip (.exit 0))) none (.seq (.block 1 [(2,.ptr 1029 0),(5,.tip 102 1),(1029,.cl []),(lk 102,.live 1)] (.reg [
  ⟨.k .mv,[.s 5],[16],none⟩,
  ⟨.k (.fa 1029 0 8),[.s 2],[17],none⟩,
  ⟨.k (.ld 1029 8 1 false),[.s 17,.s 1029],[18],none⟩,
  ⟨.k .mv,[.s 6],[19],none⟩,
  ⟨.k (.ix 10),[.s 18,.s 19],[20],none⟩,
  ⟨.k (.fr 1 9 true),[.s 20],[21],none⟩,
  ⟨.k (.lr 9 true),[.s 21],[22],none⟩,
  ⟨.k .mv,[.s 1],[23],none⟩,
  ⟨.k .mv,[.s 6],[24],none⟩,
  ⟨.k (.call 35 (.plain 2 1)),[.s 23,.s 24],[25],none⟩,
  ⟨.k (.call 25 (.plain 2 1)),[.s 22,.s 25],[26],none⟩,
  ⟨.k (.ap 101 102 1 24),[.s 16,.s 26,.s (lk 101),.s (lk 102)],[27,lk 101,lk 102],none⟩,
  ⟨.k .mv,[.s 27],[5],none⟩])) none (.reg [
  ⟨.k .mv,[.s 6],[14],none⟩,
  ⟨.k (.bin .add),[.s 14,.c (.i .i64 (1:Int))],[15],none⟩,
  ⟨.k .mv,[.s 15],[6],none⟩]))
def ref17_all.m:TM := .seq (.reg [
  ⟨.k (.bx 1029),[.s 0,.s 1029],[2,1029],none⟩,
  ⟨.k .mv,[.c (.sl .iss ([]:List (List Int)))],[4],none⟩]) none (.seq (.reg [
  ⟨.k .mv,[.s 1],[7],none⟩,
  ⟨.blt .iss 1 101,[.s 7,.s (lk 101)],[8,lk 101],none⟩,
  ⟨.k .mv,[.s 8],[5],none⟩]) none (.seq (.seq (.reg [
  ⟨.k .mv,[.c (.i .i64 (0:Int))],[6],none⟩]) none (.block 0 [(5,.tip 101 1),(lk 101,.live 1)] (.loop [1,2,5,6,1029] [(2,.ptr 1029 0),(5,.tip 101 1),(1029,.cl []),(lk 101,.live 1)] ref17_all.m1))) none (.seq (.reg [
  ⟨.k .mv,[.s 5],[28],none⟩,
  ⟨.k .mv,[.s 28],[4],none⟩]) none .ret)))
def ref17_all.d:TFD:={ np:=2,m:=ref17_all.m,ref:=none,tips:=[],res:=[.t 4],own:=[],new:=none,tnew:=[] }
noncomputable def ref17_all.F (n:Nat) (v:Val) (p:List Int):Option (List TV):=ref17_all.d.run (ref17_all.E n) [(.ag (Val.cells v)),(.sl .is p)]
noncomputable def ref17_all.k1 (n:Nat):Cont (List TV):=seqK (ev _ (ref17_all.E n) (.seq (.reg [
  ⟨.k .mv,[.s 5],[28],none⟩,
  ⟨.k .mv,[.s 28],[4],none⟩]) none .ret)) none (endK ref17_all.d)
noncomputable def ref17_all.l1 (n:Nat) (x0:List Int) (x1:List (List Int)) (x2:Int) (x3:Val):Option (List TV):=loopL (evO _ (ref17_all.E n) ref17_all.m1) isN [1,2,5,6,1029] (headT [1,2,5,6,1029] [(.sl .is x0),.pt,(.sl .iss x1),(.i .i64 x2),(.ag (Val.cells x3))]) (blockK 0 (ref17_all.k1 n))
theorem ref17_all.l1_in (n:Nat) (x0:List Int) (x1:List (List Int)) (x2:Int) (x3:Val) {ρ:Option (List TV)} (K:∀(v1:Int) (h1:v1=(((Val.kids x3)).length:Int)) (v2:Fld) (h2:v2=(List.getD (Val.kids x3) (x2).toNat (STy.dflt .fl))) (v3:List (List Int)) (h3:v3=(Tree.paths (Fld.of [] (Fld.val v2)) (((x0++[x2]))))) (v4:Int) (h4:v4=(IntKind.i64.wrap (x2+(1:Int)))),cond (decide (x2<v1))
  (ck (idxOK x2 ((Val.kids x3)).length) (ck (decide (x0.length≤1099511627776)) (ck ((decide (Fld.bulk (Fld.of [] (Fld.val v2))+((((x0++[x2])))).length≤1048576))&&decide ((Fld.bulk (Fld.of [] (Fld.val v2)))<n)) (ck (apOK ((x1).length+(v3).length) 24) (ref17_all.l1 n x0 (x1++v3) v4 x3)))))
  (some [(.sl .iss x1)])=ρ):ref17_all.l1 n x0 x1 x2 x3=ρ:=((ev_loop _ _ _ _ _ _).trans (by kernel_rfl)).trans (K _ rfl _ rfl _ rfl _ rfl)
theorem ref17_all.F_eq (n:Nat) (v:Val) (p:List Int):ref17_all.F n v p=ref17_all.l1 n p ([p]:List (List Int)) (0:Int) v:=by kernel_rfl
theorem ref17_all.chk (n:Nat):((Go.Proofs.Try.prog.funcs[25]?).any fun fn=>chkF Go.Proofs.Try.prog (fun k=>((envL noGl (ref17_all.env n)).fs k).2) fn ref17_all.d.erase)=true:=by kernel_rfl
def ref17_All.env:List (Nat × (Ctr × FSig)):=[(25,(ref17_all.c,ref17_all.sg))]
def ref17_All.E:TEnv:=envL noGl ref17_All.env
def ref17_All.m:TM := .seq (.reg [
  ⟨.k (.bx 1005),[.s 0,.s 1005],[1,1005],none⟩,
  ⟨.k .mv,[.c (.sl .iss ([]:List (List Int)))],[2],none⟩]) none (.seq (.reg [
  ⟨.k (.ld 1005 0 9 true),[.s 1,.s 1005],[3],none⟩,
  ⟨.k (.call 25 (.plain 2 1)),[.s 3,.c (.sl .is ([]:List Int))],[4],none⟩,
  ⟨.k .mv,[.s 4],[2],none⟩]) none .ret)
def ref17_All.d:TFD:={ np:=1,m:=ref17_All.m,ref:=none,tips:=[],res:=[.t 2],own:=[],new:=none,tnew:=[] }
noncomputable def ref17_All.F (v:Val):Option (List TV):=ref17_All.d.run ref17_All.E [(.ag (Val.cells v))]
theorem ref17_All.F_in (v:Val) {ρ:Option (List TV)} (K:∀(v1:List (List Int)) (h1:v1=(Tree.paths (Fld.of [] v) (([]:List Int)))),ck (decide (Fld.bulk (Fld.of [] v)+((([]:List Int))).length≤1048576)) (some [(.sl .iss v1)])=ρ):ref17_All.F v=ρ:=Eq.trans (by kernel_rfl) (K _ rfl)
theorem ref17_All.chk:((Go.Proofs.Try.prog.funcs[12]?).any fun fn=>chkF Go.Proofs.Try.prog (fun k=>((envL noGl ref17_All.env).fs k).2) fn ref17_All.d.erase)=true:=by kernel_rfl
def book_Small.env:List (Nat × (Ctr × FSig)):=[(22,(book_Value.c,book_Value.sg))]
def book_Small.E:TEnv:=envL noGl book_Small.env
def book_Small.m:TM := .seq (.reg [
  ⟨.k (.bx 1006),[.s 0,.s 1006],[1,1006],none⟩,
  ⟨.k .mv,[.c (.b false)],[2],none⟩]) none (.seq (.reg [
  ⟨.k (.ld 1006 0 9 true),[.s 1,.s 1006],[3],none⟩,
  ⟨.k (.call 22 (.plain 2 1)),[.c (.i .i64 (1200:Int)),.s 3],[4],none⟩,
  ⟨.k (.bin .geq),[.s 4,.c (.i .i64 (0:Int))],[5],none⟩,
  ⟨.k .mv,[.s 5],[2],none⟩]) none .ret)
def book_Small.d:TFD:={ np:=1,m:=book_Small.m,ref:=none,tips:=[],res:=[.t 2],own:=[],new:=none,tnew:=[] }
noncomputable def book_Small.F (v:Val):Option (List TV):=book_Small.d.run book_Small.E [(.ag (Val.cells v))]
theorem book_Small.F_in (v:Val) {ρ:Option (List TV)} (K:∀(v1:Int) (h1:v1=(Book.value ((1200:Int)) (Fld.of [] v))),ck (decide (((1200:Int))≤1200)) (some [(.b (decide ((0:Int)≤v1)))])=ρ):book_Small.F v=ρ:=Eq.trans (by kernel_rfl) (K _ rfl)
theorem book_Small.chk:((Go.Proofs.Try.prog.funcs[8]?).any fun fn=>chkF Go.Proofs.Try.prog (fun k=>((envL noGl book_Small.env).fs k).2) fn book_Small.d.erase)=true:=by kernel_rfl
def law17_awake.env:List (Nat × (Ctr × FSig)):=[(9,(tree_Check.c,tree_Check.sg)),(11,(ref1_SameInts.c,ref1_SameInts.sg)),(21,(tree_Depth.c,tree_Depth.sg))]
def law17_awake.E:TEnv:=envL noGl law17_awake.env
def law17_awake.m:TM := .seq (.reg [
  ⟨.k .mv,[.c (.b false)],[0],none⟩]) none (.seq (.reg [
  ⟨.bd [(.i .i64 (0:Int)),(.u64 (0:UInt64)),(.u64 (0:UInt64)),(.u64 (0:UInt64)),(.s ([]:Str)),(.s ([]:Str)),(.i .i64 (0:Int)),(.sl .bs ([]:List UInt8)),(.sl .fl ([]:List Fld))] [(0,1)],[.c (.i .i64 (3:Int))],[4],none⟩,
  ⟨.bd [(.s ([]:Str)),(.i .i64 (0:Int)),(.u64 (0:UInt64)),(.u64 (0:UInt64)),(.u64 (0:UInt64)),(.s ([]:Str)),(.s ([]:Str)),(.i .i64 (0:Int)),(.sl .bs ([]:List UInt8)),(.sl .fl ([]:List Fld))] [(0,1),(1,9)],[.c (.s ([97]:Str)),.s 4],[5],none⟩,
  ⟨.al 1028 [(.s ([]:Str)),(.i .i64 (0:Int)),(.u64 (0:UInt64)),(.u64 (0:UInt64)),(.u64 (0:UInt64)),(.s ([]:Str)),(.s ([]:Str)),(.i .i64 (0:Int)),(.sl .bs ([]:List UInt8)),(.sl .fl ([]:List Fld))] [],[.s 1028],[1,1028],none⟩,
  ⟨.k (.st 1028 0 10),[.s 1,.s 1028,.s 5],[1028],none⟩]) none (.seq (.reg [
  ⟨.bd [(.i .i64 (0:Int)),(.u64 (0:UInt64)),(.u64 (0:UInt64)),(.u64 (0:UInt64)),(.s ([]:Str)),(.s ([]:Str)),(.i .i64 (0:Int)),(.sl .bs ([]:List UInt8)),(.sl .fl ([]:List Fld))] [(0,1)],[.c (.i .i64 (99:Int))],[7],none⟩,
  ⟨.bd [(.s ([]:Str)),(.i .i64 (0:Int)),(.u64 (0:UInt64)),(.u64 (0:UInt64)),(.u64 (0:UInt64)),(.s ([]:Str)),(.s ([]:Str)),(.i .i64 (0:Int)),(.sl .bs ([]:List UInt8)),(.sl .fl ([]:List Fld))] [(0,1),(1,9)],[.c (.s ([97]:Str)),.s 7],[8],none⟩,
  ⟨.bl .fl 1,[.s 8],[9],none⟩,
  ⟨.bd [(.i .i64 (0:Int)),(.u64 (0:UInt64)),(.u64 (0:UInt64)),(.u64 (0:UInt64)),(.s ([]:Str)),(.s ([]:Str)),(.i .i64 (0:Int)),(.sl .bs ([]:List UInt8)),(.sl .fl ([]:List Fld))] [(0,1),(8,1)],[.c (.i .i64 (3:Int)),.s 9],[10],none⟩,
  ⟨.k (.call 9 (.plain 1 2)),[.s 10],[11],none⟩,
  ⟨.k .mv,[.s 11],[6],none⟩,
  ⟨.k (.ex 0),[.s 6],[12],none⟩,
  ⟨.k (.ex 1),[.s 6],[13],none⟩,
  ⟨.k .mv,[.s 12],[2],none⟩,
  ⟨.k .mv,[.s 13],[3],none⟩]) none (.seq (.reg [
  ⟨.k (.ld 1028 0 10 true),[.s 1,.s 1028],[14],none⟩,
  ⟨.bl .fl 1,[.s 14],[15],none⟩,
  ⟨.bd [(.i .i64 (0:Int)),(.u64 (0:UInt64)),(.u64 (0:UInt64)),(.u64 (0:UInt64)),(.s ([]:Str)),(.s ([]:Str)),(.i .i64 (0:Int)),(.sl .bs ([]:List UInt8)),(.sl .fl ([]:List Fld))] [(0,1),(8,1)],[.c (.i .i64 (3:Int)),.s 15],[16],none⟩,
  ⟨.k (.call 21 (.plain 1 1)),[.s 16],[17],none⟩,
  ⟨.k (.bin .eql),[.s 17,.c (.i .i64 (2:Int))],[18],none⟩,
  ⟨.k .mv,[.s 18],[19],none⟩,
  ⟨.k .mv,[.s 3],[20],some (19,true)⟩,
  ⟨.k (.bin .eql),[.s 20,.c (.i .i64 (5:Int))],[21],some (19,true)⟩,
  ⟨.k .pick,[.s 19,.s 21,.c (.b false)],[22],none⟩,
  ⟨.k .mv,[.s 22],[23],none⟩,
  ⟨.k .mv,[.s 2],[24],some (23,true)⟩,
  ⟨.bl .is 1,[.c (.i .i64 (0:Int))],[25],some (23,true)⟩,
  ⟨.k (.call 11 (.plain 2 1)),[.s 24,.s 25],[26],some (23,true)⟩,
  ⟨.k .pick,[.s 23,.s 26,.c (.b false)],[27],none⟩,
  ⟨.k .mv,[.s 27],[0],none⟩]) none .ret)))
def law17_awake.d:TFD:={ np:=0,m:=law17_awake.m,ref:=none,tips:=[],res:=[.t 0],own:=[],new:=none,tnew:=[] }
noncomputable def law17_awake.F  : Option (List TV):=law17_awake.d.run law17_awake.E []
theorem law17_awake.F_in  {ρ:Option (List TV)} (K:∀(v1:List Fld) (h1:v1=([(Fld.mk ([97]:Str) (99:Int) (0:UInt64) (0:UInt64) (0:UInt64) ([]:Str) ([]:Str) (0:Int) ([]:List UInt8) ([]:List Fld))]:List Fld)) (v2:List Int) (h2:v2=((Tree.chkF (Fld.of [] (Val.mk (3:Int) (0:UInt64) (0:UInt64) (0:UInt64) ([]:Str) ([]:Str) (0:Int) ([]:List UInt8) v1)) []).1)) (v3:Int) (h3:v3=((Tree.chkF (Fld.of [] (Val.mk (3:Int) (0:UInt64) (0:UInt64) (0:UInt64) ([]:Str) ([]:Str) (0:Int) ([]:List UInt8) v1)) []).2)) (v4:List Fld) (h4:v4=([(Fld.mk ([97]:Str) (3:Int) (0:UInt64) (0:UInt64) (0:UInt64) ([]:Str) ([]:Str) (0:Int) ([]:List UInt8) ([]:List Fld))]:List Fld)) (v5:Int) (h5:v5=((Tree.depth (Fld.of [] (Val.mk (3:Int) (0:UInt64) (0:UInt64) (0:UInt64) ([]:Str) ([]:Str) (0:Int) ([]:List UInt8) v4)):Int))) (v6:Bool) (h6:v6=(cond (decide (v5=(2:Int))) (decide (v3=(5:Int))) false)) (v7:Bool) (h7:v7=(cond v6 (decide (v2=(([(0:Int)]:List Int)))) false)),ck (decide (Fld.bulk (Fld.of [] (Val.mk (3:Int) (0:UInt64) (0:UInt64) (0:UInt64) ([]:Str) ([]:Str) (0:Int) ([]:List UInt8) v1))≤1099511627776)) (ck (decide (Fld.bulk (Fld.of [] (Val.mk (3:Int) (0:UInt64) (0:UInt64) (0:UInt64) ([]:Str) ([]:Str) (0:Int) ([]:List UInt8) v4))≤1099511627776)) (ck (!(decide (v5=(2:Int))) || (decide (v5=(2:Int)))) (ck (!(decide (v5=(2:Int))) || (decide (v5=(2:Int)))) (ck (!v6 || ((v6&&v6)&&(decide (v2.length≤1099511627776)))) (ck (!v6 || v6) (some [(.b v7)]))))))=ρ):law17_awake.F  = ρ:=Eq.trans (by kernel_rfl) (K _ rfl _ rfl _ rfl _ rfl _ rfl _ rfl _ rfl)
theorem law17_awake.chk:((Go.Proofs.Try.prog.funcs[7]?).any fun fn=>chkF Go.Proofs.Try.prog (fun k=>((envL noGl law17_awake.env).fs k).2) fn law17_awake.d.erase)=true:=by kernel_rfl
def TreeSpoilt.env:List (Nat × (Ctr × FSig)):=[(7,(law17_awake.c,law17_awake.sg)),(8,(book_Small.c,book_Small.sg)),(9,(tree_Check.c,tree_Check.sg)),(10,(ref17_Check.c,ref17_Check.sg)),(11,(ref1_SameInts.c,ref1_SameInts.sg)),(12,(ref17_All.c,ref17_All.sg)),(13,(book_Place.c,book_Place.sg)),(14,(book_With.c,book_With.sg))]
def TreeSpoilt.E:TEnv:=envL noGl TreeSpoilt.env
def TreeSpoilt.m:TM := .seq (.reg [
  ⟨.k (.bx 1080),[.s 0,.s 1080],[2,1080],none⟩,
  ⟨.k .mv,[.c (.b false)],[4],none⟩]) none (.seq (.seq (.reg [
  ⟨.k (.call 7 (.plain 0 1)),[],[15],none⟩,
  ⟨.k (.un .not),[.s 15],[16],none⟩]) none (.cond (.s 16) [] (.seq (.reg [
  ⟨.k .mv,[.c (.b false)],[4],none⟩]) none .ret) .skip)) none (.seq (.seq (.reg [
  ⟨.k (.ld 1080 0 9 true),[.s 2,.s 1080],[17],none⟩,
  ⟨.k (.call 8 (.plain 1 1)),[.s 17],[18],none⟩,
  ⟨.k (.un .not),[.s 18],[19],none⟩]) none (.cond (.s 19) [] (.seq (.reg [
  ⟨.k .mv,[.c (.b true)],[4],none⟩]) none .ret) .skip)) none (.seq (.reg [
  ⟨.k (.ld 1080 0 9 true),[.s 2,.s 1080],[21],none⟩,
  ⟨.k (.call 10 (.plain 1 2)),[.s 21],[22],none⟩,
  ⟨.k .mv,[.s 22],[20],none⟩,
  ⟨.k (.ex 0),[.s 20],[23],none⟩,
  ⟨.k (.ex 1),[.s 20],[24],none⟩,
  ⟨.k .mv,[.s 23],[5],none⟩,
  ⟨.k .mv,[.s 24],[6],none⟩]) none (.seq (.reg [
  ⟨.k (.ld 1080 0 9 true),[.s 2,.s 1080],[25],none⟩,
  ⟨.k (.call 12 (.plain 1 1)),[.s 25],[26],none⟩,
  ⟨.k .mv,[.s 26],[7],none⟩]) none (.seq (.seq (.reg [
  ⟨.k .mv,[.s 6],[27],none⟩,
  ⟨.k (.bin .neq),[.s 27,.c (.i .i64 (0:Int))],[28],none⟩]) none (.cond (.s 28) [] (.seq (.reg [
  ⟨.k .mv,[.c (.b true)],[4],none⟩]) none .ret) .skip)) none (.seq (.reg [
  ⟨.k .mv,[.s 7],[29],none⟩,
  ⟨.k .mv,[.s 1],[30],none⟩,
  ⟨.k .mv,[.s 7],[31],none⟩,
  ⟨.k .len,[.s 31],[32],none⟩,
  ⟨.k (.call 13 (.plain 2 1)),[.s 30,.s 32],[33],none⟩,
  ⟨.k (.ix 1),[.s 29,.s 33],[34],none⟩,
  ⟨.k (.lr 1 false),[.s 34],[35],none⟩,
  ⟨.k .mv,[.s 35],[8],none⟩]) none (.seq (.reg [
  ⟨.k (.ld 1080 0 9 true),[.s 2,.s 1080],[37],none⟩,
  ⟨.k .mv,[.s 8],[38],none⟩,
  ⟨.bd [(.i .i64 (0:Int)),(.u64 (0:UInt64)),(.u64 (0:UInt64)),(.u64 (0:UInt64)),(.s ([]:Str)),(.s ([]:Str)),(.i .i64 (0:Int)),(.sl .bs ([]:List UInt8)),(.sl .fl ([]:List Fld))] [(0,1)],[.c (.i .i64 (300:Int))],[39],none⟩,
  ⟨.k (.call 14 (.plain 3 1)),[.s 37,.s 38,.s 39],[40],none⟩,
  ⟨.k (.call 9 (.plain 1 2)),[.s 40],[41],none⟩,
  ⟨.k .mv,[.s 41],[36],none⟩,
  ⟨.k (.ex 0),[.s 36],[42],none⟩,
  ⟨.k (.ex 1),[.s 36],[43],none⟩,
  ⟨.k .mv,[.s 42],[9],none⟩,
  ⟨.k .mv,[.s 43],[10],none⟩]) none (.seq (.reg [
  ⟨.k (.ld 1080 0 9 true),[.s 2,.s 1080],[45],none⟩,
  ⟨.k .mv,[.s 8],[46],none⟩,
  ⟨.bd [(.i .i64 (0:Int)),(.u64 (0:UInt64)),(.u64 (0:UInt64)),(.u64 (0:UInt64)),(.s ([]:Str)),(.s ([]:Str)),(.i .i64 (0:Int)),(.sl .bs ([]:List UInt8)),(.sl .fl ([]:List Fld))] [(0,1),(1,1)],[.c (.i .i64 (8:Int)),.c (.u64 (2:UInt64))],[47],none⟩,
  ⟨.k (.call 14 (.plain 3 1)),[.s 45,.s 46,.s 47],[48],none⟩,
  ⟨.k (.call 9 (.plain 1 2)),[.s 48],[49],none⟩,
  ⟨.k .mv,[.s 49],[44],none⟩,
  ⟨.k (.ex 0),[.s 44],[50],none⟩,
  ⟨.k (.ex 1),[.s 44],[51],none⟩,
  ⟨.k .mv,[.s 50],[11],none⟩,
  ⟨.k .mv,[.s 51],[12],none⟩]) none (.seq (.reg [
  ⟨.k (.ld 1080 0 9 true),[.s 2,.s 1080],[53],none⟩,
  ⟨.k .mv,[.s 8],[54],none⟩,
  ⟨.bd [(.i .i64 (0:Int)),(.u64 (0:UInt64)),(.u64 (0:UInt64)),(.u64 (0:UInt64)),(.s ([]:Str)),(.s ([]:Str)),(.i .i64 (0:Int)),(.sl .bs ([]:List UInt8)),(.sl .fl ([]:List Fld))] [(0,1),(1,1)],[.c (.i .i64 (8:Int)),.c (.u64 (1:UInt64))],[55],none⟩,
  ⟨.k (.call 14 (.plain 3 1)),[.s 53,.s 54,.s 55],[56],none⟩,
  ⟨.k (.call 9 (.plain 1 2)),[.s 56],[57],none⟩,
  ⟨.k .mv,[.s 57],[52],none⟩,
  ⟨.k (.ex 0),[.s 52],[58],none⟩,
  ⟨.k (.ex 1),[.s 52],[59],none⟩,
  ⟨.k .mv,[.s 58],[13],none⟩,
  ⟨.k .mv,[.s 59],[14],none⟩]) none (.seq (.reg [
  ⟨.k .mv,[.s 10],[60],none⟩,
  ⟨.k (.bin .eql),[.s 60,.c (.i .i64 (5:Int))],[61],none⟩,
  ⟨.k .mv,[.s 61],[62],none⟩,
  ⟨.k .mv,[.s 9],[63],some (62,true)⟩,
  ⟨.k .mv,[.s 8],[64],some (62,true)⟩,
  ⟨.k (.call 11 (.plain 2 1)),[.s 63,.s 64],[65],some (62,true)⟩,
  ⟨.k .pick,[.s 62,.s 65,.c (.b false)],[66],none⟩,
  ⟨.k .mv,[.s 66],[67],none⟩,
  ⟨.k .mv,[.s 12],[68],some (67,true)⟩,
  ⟨.k (.bin .eql),[.s 68,.c (.i .i64 (1:Int))],[69],some (67,true)⟩,
  ⟨.k .pick,[.s 67,.s 69,.c (.b false)],[70],none⟩,
  ⟨.k .mv,[.s 70],[71],none⟩,
  ⟨.k .mv,[.s 11],[72],some (71,true)⟩,
  ⟨.k .mv,[.s 8],[73],some (71,true)⟩,
  ⟨.k (.call 11 (.plain 2 1)),[.s 72,.s 73],[74],some (71,true)⟩,
  ⟨.k .pick,[.s 71,.s 74,.c (.b false)],[75],none⟩,
  ⟨.k .mv,[.s 75],[76],none⟩,
  ⟨.k .mv,[.s 14],[77],some (76,true)⟩,
  ⟨.k (.bin .eql),[.s 77,.c (.i .i64 (0:Int))],[78],some (76,true)⟩,
  ⟨.k .pick,[.s 76,.s 78,.c (.b false)],[79],none⟩,
  ⟨.k .mv,[.s 79],[4],none⟩]) none .ret))))))))))
def TreeSpoilt.d:TFD:={ np:=2,m:=TreeSpoilt.m,ref:=none,tips:=[],res:=[.t 4],own:=[],new:=none,tnew:=[] }
noncomputable def TreeSpoilt.F (v:Val) (k:Int):Option (List TV):=TreeSpoilt.d.run TreeSpoilt.E [(.ag (Val.cells v)),(.i .i64 k)]
theorem TreeSpoilt.F_in (v:Val) (k:Int) {ρ:Option (List TV)} (K:∀(v1:List Int) (h1:v1=((Tree.chkF (Fld.of [] v) []).1)) (v2:Int) (h2:v2=((Tree.chkF (Fld.of [] v) []).2)) (v3:List (List Int)) (h3:v3=(Tree.paths (Fld.of [] v) [])) (v4:List Int) (h4:v4=(List.getD v3 ((k % (((v3).length:Int)))).toNat ([]:List Int))) (v5:Val) (h5:v5=(Tree.put v4 v (Val.mk (300:Int) (0:UInt64) (0:UInt64) (0:UInt64) ([]:Str) ([]:Str) (0:Int) ([]:List UInt8) ([]:List Fld)))) (v6:List Int) (h6:v6=((Tree.chkF (Fld.of [] v5) []).1)) (v7:Int) (h7:v7=((Tree.chkF (Fld.of [] v5) []).2)) (v8:Val) (h8:v8=(Tree.put v4 v (Val.mk (8:Int) (2:UInt64) (0:UInt64) (0:UInt64) ([]:Str) ([]:Str) (0:Int) ([]:List UInt8) ([]:List Fld)))) (v9:List Int) (h9:v9=((Tree.chkF (Fld.of [] v8) []).1)) (v10:Int) (h10:v10=((Tree.chkF (Fld.of [] v8) []).2)) (v11:Val) (h11:v11=(Tree.put v4 v (Val.mk (8:Int) (1:UInt64) (0:UInt64) (0:UInt64) ([]:Str) ([]:Str) (0:Int) ([]:List UInt8) ([]:List Fld)))) (v12:List Int) (h12:v12=((Tree.chkF (Fld.of [] v11) []).1)) (v13:Int) (h13:v13=((Tree.chkF (Fld.of [] v11) []).2)) (v14:Bool) (h14:v14=(cond (decide (v7=(5:Int))) (decide (v6=v4)) false)) (v15:Bool) (h15:v15=(cond v14 (decide (v10=(1:Int))) false)) (v16:Bool) (h16:v16=(cond v15 (decide (v9=v4)) false)) (v17:Bool) (h17:v17=(cond v16 (decide (v13=(0:Int))) false)),cond (!(true))
  (some [(.b false)])
  (cond (!(decide (0≤Book.value 1200 (Fld.of [] v))))
  (some [(.b true)])
  (ck (decide (Fld.bulk (Fld.of [] v)≤1099511627776)) (ck (decide (Fld.bulk (Fld.of [] v)≤1000000)) (cond (!decide (v2=(0:Int)))
  (some [(.b true)])
  (ck (decide (1≤(((v3).length:Int))∧(((v3).length:Int))≤1099511627776)) (ck (idxOK (k % (((v3).length:Int))) (v3).length) (ck (decide (Fld.bulk (Fld.of [] v)≤1048576)&&Tree.within v4 v) (ck (decide (Fld.bulk (Fld.of [] v5)≤1099511627776)) (ck (decide (Fld.bulk (Fld.of [] v)≤1048576)&&Tree.within v4 v) (ck (decide (Fld.bulk (Fld.of [] v8)≤1099511627776)) (ck (decide (Fld.bulk (Fld.of [] v)≤1048576)&&Tree.within v4 v) (ck (decide (Fld.bulk (Fld.of [] v11)≤1099511627776)) (ck (!(decide (v7=(5:Int))) || (((decide (v7=(5:Int)))&&(decide (v7=(5:Int))))&&(decide (v6.length≤1099511627776)))) (ck (!(decide (v7=(5:Int))) || (decide (v7=(5:Int)))) (ck (!v14 || v14) (ck (!v14 || v14) (ck (!v15 || ((v15&&v15)&&(decide (v9.length≤1099511627776)))) (ck (!v15 || v15) (ck (!v16 || v16) (ck (!v16 || v16) (some [(.b v17)])))))))))))))))))))))=ρ):TreeSpoilt.F v k=ρ:=Eq.trans (by kernel_rfl) (K _ rfl _ rfl _ rfl _ rfl _ rfl _ rfl _ rfl _ rfl _ rfl _ rfl _ rfl _ rfl _ rfl _ rfl _ rfl _ rfl _ rfl)
theorem TreeSpoilt.chk:((Go.Proofs.Try.prog.funcs[4]?).any fun fn=>chkF Go.Proofs.Try.prog (fun k=>((envL noGl TreeSpoilt.env).fs k).2) fn TreeSpoilt.d.erase)=true:=by kernel_rfl
end
end Go.Eng
