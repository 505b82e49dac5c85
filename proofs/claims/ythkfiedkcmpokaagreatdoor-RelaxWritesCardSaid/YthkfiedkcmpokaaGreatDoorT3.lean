/- Texts of my own, one behind the other: WrZPure, WrYPure, WrDPure, VC, WrC, WrT34R, WrT34K, WrG0, WrG1, WrG2, WrG3, WrG4. -/
import Derived.Test.YthkfiedkcmpokaaGreatDoorT2
import Derived.Test.YthkfiedkcmpokaaGreatDoorProg
set_option linter.defProp false
set_option linter.unusedVariables false
set_option linter.unusedSimpArgs false
open Decidable renaming decide→oG
open Option renaming some→BQ
open Option renaming none→Ku
open Bool renaming true→NS
open Bool renaming false→NT
noncomputable section
set_option maxRecDepth 20000
namespace Go.Eng
namespace Rl
open Classical in
def kL(s:bD):Option Int:=if h:∃n,Nr.i64 n=NS/\Nr.itoa n=s then BQ h.choose else Ku
def oc(b:UInt64):bD×Bool:=
 if(Nr.split b).1=1 then([48],!(Nr.split b).2.1)
 else if(Nr.split b).1≠2 then([],NT)
 else(Sh.text b,oG (Sh.ju b<4845873199050653696)||oG (Nr.fy (Sh.text b)=2))
def HL:{f:UInt64->bD×Bool//∀b,f b=oc b}:=Classical.choice ⟨⟨oc,λ_=>rfl⟩⟩
def number(b:UInt64):bD×Bool:=HL.1 b
theorem nT(b:UInt64):number b=oc b:=HL.2 b
def pB(k:Int)(b:UInt64):Option Int:=if k=18 then BQ (Cn.i64 b)else if k=1/\(number b).2=NS then kL (number b).1 else Ku
def yC(k:Int)(b:UInt64):Int×UInt64:=match pB k b with|none=>(k,b)|some n=>if IntKind.wrap .i64 (IntKind.wrap .i32 n)=n then(16,UInt64.ofInt (UInt32.ofInt n).toNat)else(18,UInt64.ofInt n)
def Qk:{f:Int->UInt64->Int×UInt64//∀k b,f k b=yC k b}:=Classical.choice ⟨⟨yC,λ_ _=>rfl⟩⟩
def rT(k:Int)(b:UInt64):Int×UInt64:=Qk.1 k b
theorem yB(k:Int)(b:UInt64):rT k b=yC k b:=Qk.2 k b
mutual
def Hp:bF->bF
 |.mk n k b h l t m s y ks=>.mk n (rT k b).1 (rT k b).2 h l t m s y (oj ks)
def oj:List bF->List bF
 |[]=>[]
 |f::r=>Hp f::oj r
end
def kD(v:Val):Val:=⟨(rT v.kind v.bits).1,(rT v.kind v.bits).2,v.high,v.low,v.text,v.more,v.sub,v.bytes,oj v.kids⟩
def order(b:UInt64):Int:=if(Nr.split b).2.1 then -(Sh.ju b:Int)else Sh.ju b
def E3(a b:UInt64):Int×Bool:=if(Nr.split a).1=4\/(Nr.split b).1=4 then(0,NT)else(if order a<order b then -1 else if order b<order a then 1 else 0,NS)
mutual
def qq:bF->bF->List Int->Option (List (List Int))
 |.mk _ k b h l t m s y ks,.mk _ k' b' h' l' t' m' s' y' Sg,p=>
  if ks.length≠Sg.length then Ku
  else(pZ ks Sg 0 p).map fun r=>(if Tree.tj ⟨k,b,h,l,t,m,s,y,ks⟩ ⟨k',b',h',l',t',m',s',y',Sg⟩then[]else[p])++r
def pZ:List bF->List bF->Nat->List Int->Option (List (List Int))
 |f::r,g::q,i,p=>if f.name≠g.name then Ku else(qq f g (p++[(i:Int)])).bind fun a=>(pZ r q (i+1) p).map fun b=>a++b
 |[],[],_,_=>BQ []
 |_,_,_,_=>Ku
end
def diff(a b:Val):Option (List (List Int)):=qq (bF.of [] a) (bF.of [] b) []
def uC(o:List (List Int))(a b:Val)(p:List Int):List (List Int)×Bool:=match qq (bF.of [] a) (bF.of [] b) p with|some l=>(o++l,NS)|none=>([],NT)
def rI(y:Int):Bool:=oG (y%4=0)&&(!decide (y%100=0)||oG (y%400=0))
def month(y m:Int):Int:=if m=4\/m=6\/m=9\/m=11 then 30 else if m=2 then(if rI y then 29 else 28)else 31
def ahead(y:Int):Int:=(y -1)*365+(y -1)/4 -(y -1)/100+(y -1)/400 -719162
def pad(n l:Int):bD:=List.replicate (l.toNat -(Nr.itoa n).length) 48++Nr.itoa n
def kC(d:Int):Nat->Int->Int
 |0,y=>y
 |n+1,y=>if ahead (y+1)<=d then kC d n (y+1)else y
def q8(y:Int):Nat->Int->Int->Int×Int
 |0,d,m=>(d,m)
 |n+1,d,m=>if month y m<=d then q8 y n (d -month y m) (m+1)else(d,m)
def zY(t:Int):bD×Bool:=
 if t<0\/253402300799999<t then([],NT)
 else
  let days:=t/86400000
  let rest:=t%86400000
  let y:=kC days 100000 (1970+days/366)
  let q:=q8 y 20 (days -ahead y) 1
  let s:=rest/1000
  let x:=pad y 4++[45]++pad q.2 2++[45]++pad (q.1+1) 2++[84]++pad (s/3600) 2++[58]++pad (s/60%60) 2++[58]++pad (s%60) 2
  (cond (oG (rest%1000=0)) x (x++([46]++pad (rest%1000) 3))++[90],NS)
def Rf:{f:Int->bD×Bool//∀t,f t=zY t}:=Classical.choice ⟨⟨zY,λ_=>rfl⟩⟩
def date (t:Int):bD×Bool:=Rf.1 t
theorem ym(t:Int):date t=zY t:=Rf.2 t
mutual
def oD(date:Int->bD×Bool):bF->cQ
 |.mk _ k b h l t m s y ks=>
  if k=16 then⟨4,Nr.itoa (Cn.i32 b),[]⟩
  else if k=18 then⟨4,Nr.itoa (Cn.i64 b),[]⟩
  else if k=1/\(number b).2=NS then⟨4,(number b).1,[]⟩
  else if k=9/\(date (Cn.i64 b)).2=NS then Cn.one [36,100,97,116,101] (Cn.str (date (Cn.i64 b)).1)
  else if k=3 then cond (Cn.ln ks) (Cn.one [36,100,111,99,117,109,101,110,116] ⟨7,[],jI date ks⟩) ⟨7,[],jI date ks⟩
  else if k=4 then cond (Tree.regular ks) ⟨6,[],(jI date ks).map Cn.oN⟩ (Cn.one [36,97,114,114,97,121] ⟨7,[],jI date ks⟩)
  else if k=15 then Cn.two [36,99,111,100,101] (Cn.str t) [36,115,99,111,112,101] ⟨7,[],jI date ks⟩
  else Cn.mj ⟨k,b,h,l,t,m,s,y,ks⟩
def jI(date:Int->bD×Bool):List bF->List Mem
 |[]=>[]
 |f::r=>Mem.of f.name (oD date f)::jI date r
end
def uD(date:Int->bD×Bool)(l:List bF):cQ:=⟨7,[],jI date l⟩
def mF(date:Int->bD×Bool)(v:Val):cQ:=if(Cn.fC v).2=0 then uD date v.kids else⟨0,[],[]⟩
def mD(date:Int->bD×Bool)(v:Val):List Int×Int:=if(Cn.fC v).2≠0 then Cn.fC v else([],Cn.iz (mF date v))
def xn(date:Int->bD×Bool)(v:Val):bD:=if(Cn.fC v).2≠0 then[]else Cn.pG (mF date v)
end Rl
namespace Wq
def Uo(b:UInt64):cQ:=(Cn.nF ⟨1,b,0,0,[],[],0,[],[]⟩).1
def val(e:Bool)(v:Val):cQ:=cond e (Rl.oD Rl.date (bF.of [] v)) (Cn.oP (bF.of [] v))
def doc(e:Bool)(l:List bF):cQ:=cond e (Rl.uD Rl.date l) (Cn.uE l)
def json(e:Bool)(v:Val):cQ:=cond e (Rl.mF Rl.date v) (Cn.xz v)
def text(e:Bool)(v:Val):bD:=if(Cn.fC v).2≠0 then[]else Cn.pG (json e v)
def Lf(v:Val):Bool:=oG (v.kind=6\/v.kind=8\/v.kind=9\/v.kind=10\/v.kind=16\/v.kind=18\/v.kind=19\/v.kind=127\/v.kind=255)
end Wq
section
variable(P:Program)(E:cE)(nt n:Nat){R:Type}
abbrev Sb(o:Ev R):AG R:=gg λh S K=>match h with
 |.l G a=>match lS nt G S with|some xs=>pW (TL (o a) G) (RE nt G) n xs K|none=>Ku
 |_=>Ku
abbrev B5(f:Nat->Option (Ev R))(ls:List (Nat×GL))(a:Hint)(K:gf R):gf R:=λe S=>
 match II nt ls e S with
 |none=>K e S
 |some Ku=>Ku
 |some (BQ j)=>pW (Kg f ls a) (II nt ls) n j K
abbrev OP(f:AG R):AG R:=gg λh S K=>match h with|.sc ls a=>f.1 a S (B5 nt n f.2 ls a K)|_=>Ku
abbrev Tx(x:Operand)(fa fb:AG R):AG R:=gg λh S K=>match ik E nt S 0 x with|some (.b t,.no)=>cond t (fa.1 h.s1 S K) (fb.1 h.s2 S K)|some (.ub e,.no)=>cond e Ku (fb.1 h.s2 S K)|_=>Ku
def qp(c:Code):AG R:=Code.rec (motive:=λ_=>AG R) (gg λ_ S K=>K .normal S) (λ_ ops draw=>gg λ_ S K=>B7 P E nt ops draw S (K .normal)) (λ_ _ fa fb=>K6 nt fa fb fb.1) (λx _ _ fa fb=>Tx E nt x fa fb) (λid _ f=>gg λh S K=>f.1 h.s1 S (oR id K)) (λ_ f=>Sb nt n f.1) (λ_ _ _ _ _ _=>gg λ_ _ _=>Ku) (λid=>gg λ_ S K=>K (.exit id) S) (λ_ f=>OP nt n f) GC (λl=>gg λ_ S K=>K (.goto l) S) (gg λ_ S K=>K .ret S) (λ_=>gg λ_ _ _=>Ku) c
end
section
variable{R:Type}
def KLe(K K':gf R):Prop:=∀e S r,K e S=BQ r->K' e S=BQ r
def Le(g g':Ev R):Prop:=∀h S K K' r,KLe K K'->g h S K=BQ r->g' h S K'=BQ r
def Ys:Option (Ev R)->Option (Ev R)->Prop
 |none,Ku=>True
 |some g,BQ g'=>Le g g'
 |_,_=>False
theorem CG{ι:Type}{f f':ι->gf R->Option R}{tr:MX->St->Option (Option ι)}(hf:∀i K K' r,KLe K K'->f i K=BQ r->f' i K'=BQ r):∀(m:Nat)(i:ι)(K K':gf R)(r:R),KLe K K'->pW f tr m i K=BQ r->pW f' tr m i K'=BQ r
 |0,_,_,_,_,_,h=>by cases h
 |m+1,i,K,K',r,hk,h=>by
  rw[pW]at h⊢;refine hf i _ _ r (λe S r he=>?_) h;cases ht:tr e S with
  |none=>simp only[ht]at he⊢;exact hk _ _ _ he
  |some j=>cases j with
   |none=>simp only[ht]at he;cases he
   |some j=>simp only[ht]at he⊢;exact CG hf m _ K K' r hk he
theorem Le.seq{nt:Nat}{g g' b b':Ev R}(h1:Le g g')(h2:Le b b'):Le (K7 nt g b b) (K7 nt g' b' b'):=by intro h S K K' r hk he;have plain:∀{a c:Hint},g a S (IW (b c) K)=BQ r->g' a S (IW (b' c) K')=BQ r:=λ{a c}he=>by{refine h1 _ _ _ _ _ (λe S' r' hr=>?_) he;cases e<;>first|exact h2 _ _ _ _ _ hk hr|exact hk _ _ _ hr};(cases h<;>first|exact plain he|skip);rename_i G a c;refine h1 _ _ _ _ _ (λe S' r' hr=>?_) he;(cases e<;>first|exact hk _ _ _ hr|skip);simp only[xA]at hr⊢;split at hr;{rename_i xs e;exact h2 _ _ _ _ _ hk hr};{cases hr}
theorem Tl(P:Program)(E:cE)(nt n:Nat)(c:Code):Le (R:=R) (qp P E nt n c).1 (qa P E nt c)/\∀l,Ys ((qp (R:=R) P E nt n c).2 l) (xM P E nt c l):=by
  have xZ:∀{f g:Ev R}(l:Nat),Ys ((gg f).2 l) ((gg g).2 l):=λl=>trivial;induction c with
  |skip=>exact⟨λh S K K' r hk he=>hk _ _ _ he,λ_=>trivial⟩
  |label l=>
    refine⟨λh S K K' r hk he=>hk _ _ _ he,λl'=>?_⟩;show Ys (qz (R:=R) l l') (qz l l');unfold qz;cases Nat.beq l l' with
    |true=>exact λh S K K' r hk he=>hk _ _ _ he
    |false=>trivial
  |exit id=>exact⟨λh S K K' r hk he=>hk _ _ _ he,λ_=>trivial⟩
  |goto l=>exact⟨λh S K K' r hk he=>hk _ _ _ he,λ_=>trivial⟩
  |ret=>exact⟨λh S K K' r hk he=>hk _ _ _ he,λ_=>trivial⟩
  |region id ops draw=>
    refine⟨λh S K K' r hk he=>?_,λ_=>trivial⟩;obtain⟨p,hp⟩:=DJ (R:=R) P E (nt:=nt) ops draw S;have he:B7 P E nt ops draw S (K .normal)=BQ r:=he;show B7 P E nt ops draw S (K' .normal)=BQ r;rw[hp]at he⊢;cases p with
    |none=>cases he
    |some S'=>exact hk _ _ _ he
  |seq a b GK C4=>refine⟨GK.1.seq C4.1,λl=>?_⟩;have e1:=GK.2 l;have e2:=C4.2 l;show Ys (Ax nt (qp P E nt n a).2 (qp P E nt n b).2 (qp P E nt n b).1 (qp P E nt n b).1 l) (Ax nt (xM P E nt a) (xM P E nt b) (qa P E nt b) (qa P E nt b) l);unfold Ax;(cases h1:(qp (R:=R) P E nt n a).2 l<;>cases h2:xM (R:=R) P E nt a l<;>rw[h1,h2]at e1<;>first|exact e1.elim|skip);{simp only;(cases h1:(qp (R:=R) P E nt n b).2 l<;>cases h2:xM (R:=R) P E nt b l<;>rw[h1,h2]at e2<;>first|exact e2.elim|skip);{trivial};{exact λh S K K' r hk he=>e2 _ _ _ _ _ hk he}};{exact Le.seq e1 C4.1}
  |cond x a b GK C4=>
    refine⟨λh S K K' r hk he=>?_,λ_=>trivial⟩;have he:(match ik E nt S 0 x with|some (.b t,.no)=>cond t ((qp P E nt n a).1 h.s1 S K) ((qp P E nt n b).1 h.s2 S K)|some (.ub e,.no)=>cond e Ku ((qp P E nt n b).1 h.s2 S K)|_=>Ku)=BQ r:=he;show(match ik E nt S 0 x with|some (.b t,.no)=>cond t (qa P E nt a h.s1 S K') (qa P E nt b h.s2 S K')|some (.ub e,.no)=>cond e (both (qa P E nt a h.s1 S K') (qa P E nt b h.s2 S K')) (qa P E nt b h.s2 S K')|_=>Ku)=BQ r;split at he
    ·rename_i t ho;(try simp only[ho]);cases t with
      |true=>exact GK.1 _ _ _ _ _ hk he
      |false=>exact C4.1 _ _ _ _ _ hk he
    ·rename_i e ho;(try simp only[ho]);cases e with
      |true=>cases he
      |false=>exact C4.1 _ _ _ _ _ hk he
    {cases he}
  |block id a ih=>refine⟨λh S K K' r hk he=>ih.1 _ _ _ _ _ (λe S' r' hr=>?_) he,λ_=>trivial⟩;(cases e<;>first|exact hk _ _ _ hr|skip);rename_i j;cases hb:Nat.beq j id<;>simp only[oR,hb]at hr⊢<;>exact hk _ _ _ hr
  |loop a ih=>refine⟨λh S K K' r hk he=>?_,λ_=>trivial⟩;(cases h<;>first|(cases he;done)|skip);rename_i G a';have he:(match lS nt G S with|some xs=>pW (TL ((qp P E nt n a).1 a') G) (RE nt G) n xs K|none=>Ku)=BQ r:=he;show zn nt (qa P E nt a a') G S K'=BQ r;unfold zn;split at he;{rename_i xs hx;(try simp only[hx]);exact(px (yp ((tx P E a).1 a') G) xs K' r).2 ⟨n,CG (f:=TL ((qp P E nt n a).1 a') G) (λi K K' r hk hf=>ih.1 a' (hO G i) K K' r hk hf) n xs K K' r hk he⟩};{cases he}
  |rangeFunc _ _ _ _ _ _=>exact⟨λh S K K' r hk he=>(by cases he),λ_=>trivial⟩
  |scope a ih=>
    refine⟨λh S K K' r hk he=>?_,λ_=>trivial⟩;(cases h<;>first|(cases he;done)|skip);rename_i ls a';refine ih.1 _ _ _ _ _ (λe S' r' hr=>?_) he;show nL nt (xM P E nt a) ls a' K' e S'=BQ r';have hr:B5 nt n (qp P E nt n a).2 ls a' K e S'=BQ r':=hr;unfold B5 at hr;unfold nL zT;cases ht:II nt ls e S' with
    |none=>simp only[ht]at hr⊢;exact hk _ _ _ hr
    |some j=>
     cases j with
     |none=>simp only[ht]at hr;cases hr
     |some j=>
      simp only[ht]at hr⊢;refine(px (yo (tx P E a).2 ls a') j K' r').2 ⟨n,CG (λi K K' r hk hf=>?_) n j K K' r' hk hr⟩;unfold Kg at hf⊢;have e1:=ih.2 i.1;(cases h1:(qp (R:=R) P E nt n a).2 i.1<;>cases h2:xM (R:=R) P E nt a i.1<;>rw[h1,h2]at e1<;>first|exact e1.elim|skip);{rw[h1]at hf;cases hf}
      ·rw[h1]at hf;cases hG:zo i.1 ls with
        |none=>simp only[hG]at hf;cases hf
        |some G=>simp only[hG]at hf⊢;exact e1 _ _ _ _ _ hk hf
  |refuse _=>exact⟨λh S K K' r hk he=>(by cases he),λ_=>trivial⟩
end
def runN(P:Program)(E:cE)(n f:Nat)(sg:iB)(h:Hint)(ins:List TV):OT:=
 match P.funcs[f]? with
 |some fn=>match fn.body with|some c=>gj (EN fn sg&&Nat.beq ins.length fn.params.size) ((qp P E fn.ntmps n c).1 h (Mc fn.params.size sg.md ins) (To P fn.ntmps fn sg))|none=>Ku
 |none=>Ku
def OS{P:Program}{E:cE}{n f:Nat}{sg:iB}{h:Hint}{ins outs:List TV}(he:runN P E n f sg h ins=BQ outs):b9 P E f sg h ins=BQ outs:=by
 unfold runN at he;unfold b9;cases hf:P.funcs[f]? with
 |none=>rw[hf]at he;cases he
 |some fn=>
 cases hb:fn.body with
 |none=>simp only[hf,hb]at he;cases he
 |some c=>
 simp only[hf,hb]at he⊢;obtain⟨h1,h2⟩:=bL.1 he;refine bL.2 ⟨h1,?_⟩;rw[<-Ib];exact(Tl P E _ n _).1 _ _ _ _ _ (λ_ _ _ h=>h) h2
abbrev Qf:=List (Nat×(iB×Hint))
def Gc(P:Program)(n:Nat)(ty:Qe)(z:Zs)(ld:List Nat)(base:List (Nat×(dn×iB)))(rs:Qf):Nat->cE
 |0=>cW ty z base ld
 |d+1=>⟨λf=>match vm rs f with
  |some p=>(λins=>match runN P (Gc P n ty z ld base rs d) n f p.1 p.2 ins with|some outs=>.ok outs|none=>.err,p.1)
  |none=>look HM base f,vm ty,vm z,ld⟩
theorem Hw{P:Program}{gl:Nat->Option (List Value)}{n:Nat}{ty:Qe}{z:Zs}{ld:List Nat}{base:List (Nat×(dn×iB))}{rs:Qf}(hm:P.follows .mixedOrders=NS/\AL P ty=NS/\ID P z=NS)(hE:∀p∈base,gp P gl p.1 p.2)(hs:(rs.all λp=>!p.2.1.md.contains .sm)=NS):∀d,kZ P (Gc P n ty z ld base rs d)/\∀f,gp P gl f ((Gc P n ty z ld base rs d).fs f)
 |0=>⟨G5 hm.1 hm.2.1 hm.2.2,G6 hE⟩
 |d+1=>by
  obtain⟨h1,h2⟩:=Hw (n:=n) (ld:=ld) hm hE hs d;have h0:=G5 (l:=base) (ld:=ld) hm.1 hm.2.1 hm.2.2;refine⟨⟨h0.mixed,h0.ty,h0.z⟩,λf=>?_⟩;show gp P gl f (match vm rs f with|some p=>_|none=>_);split
  ·rename_i p hp;refine Hs h1 h2 p.2 λins outs hc=>?_;have hl:∀(ms:List Md)(ins:List TV),ms.contains .sm=NT->oS ms ins=[]:=by
    intro ms;induction ms with
    |nil=>exact λins _=>by cases ins<;>rfl
    |cons m ms ih=>
     intro ins h;simp only[List.contains_cons,Bool.or_eq_false_iff]at h;cases ins with
     |nil=>cases m<;>rfl
     |cons x ins=>cases m<;>first|exact ih ins h.2|(exact absurd h.1 (by decide))
   have hn:oS p.1.md ins=[]:=hl _ _ (by have:=aC.1 hs _ (tp (l:=rs) hp);simpa using this);rw[hn,aM];refine OS (n:=n) ?_;cases ho:runN P (Gc P n ty z ld base rs d) n f p.1 p.2 ins with
   |none=>simp only[ho]at hc;exact hc.elim
   |some o=>simp only[ho]at hc;rw[show outs=o from hc]
  {exact G6 hE f}
def aql{P:Program}{gl:Nat->Option (List Value)}{n d:Nat}{ty:Qe}{z:Zs}{ld:List Nat}{base:List (Nat×(dn×iB))}{rs:Qf}(hm:P.follows .mixedOrders=NS/\AL P ty=NS/\ID P z=NS)(hE:∀p∈base,gp P gl p.1 p.2)(hs:(rs.all λp=>!p.2.1.md.contains .sm)=NS)(f:Nat):gp P gl f ((Gc P n ty z ld base rs d).fs f):=(Hw hm hE hs d).2 f
set_option maxRecDepth 100000
abbrev PG:=Go.Proofs.Tryz.prog
open Go.Proofs
def sc(l:List Nat):GL:=l.map λk=>(k,.no)
@[reducible] def gr:Qe:=[(23,.bs,1),(24,.fl,136),(29,.ml,64),(33,.is,8),(57,.r9,24),(136,.ss,16),(150,.ws,2),(162,.us,8),(262,.qd,64)]
@[reducible] def zs:Zs:=[(26,[(.i .i64 (0:Int)),(.u64 (0:UInt64)),(.u64 (0:UInt64)),(.u64 (0:UInt64)),(.s ([]:bD)),(.s ([]:bD)),(.i .i64 (0:Int)),(.nl .bs),(.nl .fl)]),(31,[(.i .i64 (0:Int)),(.s ([]:bD)),(.nl .ml)]),(35,[(.i .i64 (0:Int)),(.i .i64 (0:Int)),(.nl .is)]),(45,[(.s ([]:bD)),(.i .i64 (0:Int)),(.u64 (0:UInt64)),(.u64 (0:UInt64)),(.u64 (0:UInt64)),(.s ([]:bD)),(.s ([]:bD)),(.i .i64 (0:Int)),(.nl .bs),(.nl .fl)]),(55,[(.s ([]:bD)),(.i .i64 (0:Int)),(.s ([]:bD)),(.nl .ml)]),(100,[(.s ([]:bD)),(.s ([]:bD)),(.s ([]:bD)),(.s ([]:bD)),(.s ([]:bD)),(.s ([]:bD)),(.s ([]:bD)),(.s ([]:bD)),(.s ([]:bD)),(.s ([]:bD)),(.s ([]:bD)),(.s ([]:bD)),(.s ([]:bD)),(.s ([]:bD)),(.s ([]:bD)),(.s ([]:bD)),(.s ([]:bD)),(.s ([]:bD)),(.s ([]:bD)),(.s ([]:bD))]),(130,[(.u64 (0:UInt64)),(.u64 (0:UInt64))]),(265,[(.c (.complex .f64 ((0,0):Cx).1 ((0,0):Cx).2)),(.c (.complex .f64 ((0,0):Cx).1 ((0,0):Cx).2)),(.c (.complex .f64 ((0,0):Cx).1 ((0,0):Cx).2)),(.c (.complex .f64 ((0,0):Cx).1 ((0,0):Cx).2))])]
def bH:PG.follows .mixedOrders=NS/\AL PG gr=NS/\ID PG zs=NS:=⟨by kernel_rfl,by kernel_rfl,by kernel_rfl⟩
def Errs:Type:={p:Value×Value//(p.1=.nilIface\/∃te pe,p.1=.iface te pe)/\(p.2=.nilIface\/∃te pe,p.2=.iface te pe)}
def cnGl(ee:Errs):Nat->Option (List Value):=PD [(7,Aw .u8 (Lib.deBruijn64tab.map Int.ofNat)),(3,Aw .u64 Lib.pow10Tab),(1,[ee.1.1]),(2,[ee.1.2])]
abbrev KO(ee:Errs)(n:Nat)(c:dn)(s:iB):Prop:=gp PG (cnGl ee) n (c,s)
def bB:iB:={}
def aeE:dn
 |[.sl .bs b]=>.dX (oG (b.length<=1099511627776)) [.s (kQ.text b)]
 |_=>.err
def aet:dn
 |[.sl .bs b]=>.dX (oG (b.length<=1099511627776)) [.s (kQ.text b)]
 |_=>.err
def amX:dn
 |[.i .i64 r]=>.ok [.b (dE.oO r)]
 |_=>.err
def bN:iB:={jE:=2}
def apN:dn
 |[.sl .bs b,.i .i64 at_]=>.dX (oG (b.length<=1099511627776)) [.i .i64 (dE.mq b at_).1,.i .i64 (dE.mq b at_).2]
 |_=>.err
def apd:dn
 |[.sl .bs b]=>.dX (oG (b.length<=1099511627776)) [.i .i64 ((dE.look b).1:Int),.i .i64 ((dE.look b).2:Int)]
 |_=>.err
def agE:dn
 |[.sl .bs b]=>.dX (oG (b.length<=1099511627776)) [.i .i64 ((dE.look b).1:Int),.b (dE.whole b)]
 |_=>.err
def apP:dn
 |[.sl .bs b,.i .i64 at_]=>.dX (oG (b.length<=1099511627776)) [.i .i64 (dE.mq b at_).1,.i .i64 (dE.mq b at_).2]
 |_=>.err
def apa:dn
 |[.sl .bs b]=>.dX (oG (b.length<=1099511627776)) [.i .i64 ((dE.look b).1:Int),.b (dE.whole b)]
 |_=>.err
def adP:dn
 |[.s s]=>.dX (oG (s.length<=1099511627776)) [.b (dE.whole s)]
 |_=>.err
def aip:dn
 |[.s s]=>.dX (oG (s.length<=1099511627776)) [.b (dE.zero s)]
 |_=>.err
def ahy:dn
 |[.s s,.u8 c]=>.ok [.i .i64 (Lib.indexByte s c)]
 |_=>.err
def anu:dn
 |[.s s,.s t]=>.dX (oG (t.length=1)) [.i .i64 (Lib.indexByte s (t.getD 0 0))]
 |_=>.err
def anv:dn
 |[.s s,.s t]=>.dX (oG (t.length=1)) [.i .i64 (Lib.indexByte s (t.getD 0 0))]
 |_=>.err
def anQ:dn
 |[.s s,.s t]=>.dX (oG (t.length=1)) [.b (oG (0<=Lib.indexByte s (t.getD 0 0)))]
 |_=>.err
def abA:iB:={md:=[.sm]}
def agH:dn
 |[.sl .is l]=>.dX (dP l.length 8) [.sl .is l]
 |_=>.err
def anA:dn
 |[.i .i64 k]=>.ok [.s (Tree.name k)]
 |_=>.err
def aqe:dn
 |[.ag [.i .i64 ji,.u64 jl,.u64 jj,.u64 jh,.s je,.s jg,.i .i64 jf,.sl .bs jd,.sl .fl jk]]=>.ok [.b (Tree.ia (Val.mk ji jl jj jh je jg jf jd jk))]
 |_=>.err
def anU:dn
 |[.s s,.b plain]=>.dX (oG (s.length<=1099511627776)) [.b (Tree.ft s plain)]
 |_=>.err
def aaz:iB:={md:=[.pl,.pl,.sm],jE:=2}
def ap4:dn
 |[.ag [.i .i64 ji,.u64 jl,.u64 jj,.u64 jh,.s je,.s jg,.i .i64 jf,.sl .bs jd,.sl .fl jk],.s name,.sl .is path]=>.dX (oG ((bF.of name (Val.mk ji jl jj jh je jg jf jd jk)).bJ+path.length<=1099511627776)) [.sl .is (Tree.fD (bF.of name (Val.mk ji jl jj jh je jg jf jd jk)) path).1,.i .i64 (Tree.fD (bF.of name (Val.mk ji jl jj jh je jg jf jd jk)) path).2]
 |_=>.err
def aa9(n:Nat):dn
 |[.ag [.i .i64 ji,.u64 jl,.u64 jj,.u64 jh,.s je,.s jg,.i .i64 jf,.sl .bs jd,.sl .fl jk],.s name,.sl .is path]=>.dX ((oG ((bF.of name (Val.mk ji jl jj jh je jg jf jd jk)).bJ+path.length<=1099511627776))&&oG ((bF.of name (Val.mk ji jl jj jh je jg jf jd jk)).bJ<n)) [.sl .is (Tree.fD (bF.of name (Val.mk ji jl jj jh je jg jf jd jk)) path).1,.i .i64 (Tree.fD (bF.of name (Val.mk ji jl jj jh je jg jf jd jk)) path).2]
 |_=>.err
def ag0:dn
 |[.ag [.i .i64 ji,.u64 jl,.u64 jj,.u64 jh,.s je,.s jg,.i .i64 jf,.sl .bs jd,.sl .fl jk]]=>.dX (oG ((bF.of [] (Val.mk ji jl jj jh je jg jf jd jk)).bJ<=1099511627776)) [.sl .is (Tree.fD (bF.of [] (Val.mk ji jl jj jh je jg jf jd jk)) []).1,.i .i64 (Tree.fD (bF.of [] (Val.mk ji jl jj jh je jg jf jd jk)) []).2]
 |_=>.err
def ani:dn
 |[.sl .bs a,.sl .bs b]=>.ok [.b (oG (a=b))]
 |_=>.err
def anE:dn
 |[]=>.ok [.sl .is (Tree.kinds)]
 |_=>.err
def ao8:dn
 |[.i .i64 k]=>.ok [.s (Tree.name k)]
 |_=>.err
def aaf:iB:={jE:=7}
def aqc:dn
 |[.i .i64 k]=>.ok [.b (Tree.kT 0 k),.b (Tree.kT 1 k),.b (Tree.kT 2 k),.b (Tree.kT 3 k),.b (Tree.kT 4 k),.b (Tree.kT 5 k),.b (Tree.kT 6 k)]
 |_=>.err
def anK:dn
 |[.ag [.i .i64 ji,.u64 jl,.u64 jj,.u64 jh,.s je,.s jg,.i .i64 jf,.sl .bs jd,.sl .fl jk]]=>.dX (oG ((bF.of [] (Val.mk ji jl jj jh je jg jf jd jk)).bJ<=1099511627776)) [.i .i64 (Tree.own (Val.mk ji jl jj jh je jg jf jd jk))]
 |_=>.err
def anP:dn
 |[.s s]=>.dX (oG (s.length<=1099511627776)) [.b (Tree.ft s NS)]
 |_=>.err
def anZ:dn
 |[.sl .is p,.i .i64 k]=>.dX (oG (p.length<=1099511627776)) [.sl .is (p++[k])]
 |_=>.err
def ap7:dn
 |[.ag [.i .i64 ji,.u64 jl,.u64 jj,.u64 jh,.s je,.s jg,.i .i64 jf,.sl .bs jd,.sl .fl jk],.s name,.sl .is p]=>.dX (oG ((bF.of name (Val.mk ji jl jj jh je jg jf jd jk)).bJ+p.length<=1099511627776)) [.sl .is (Tree.fD (bF.of name (Val.mk ji jl jj jh je jg jf jd jk)) p).1,.i .i64 (Tree.fD (bF.of name (Val.mk ji jl jj jh je jg jf jd jk)) p).2]
 |_=>.err
def abd(n:Nat):dn
 |[.ag [.i .i64 ji,.u64 jl,.u64 jj,.u64 jh,.s je,.s jg,.i .i64 jf,.sl .bs jd,.sl .fl jk],.s name,.sl .is p]=>.dX ((oG ((bF.of name (Val.mk ji jl jj jh je jg jf jd jk)).bJ+p.length<=1099511627776))&&oG ((bF.of name (Val.mk ji jl jj jh je jg jf jd jk)).bJ<n)) [.sl .is (Tree.fD (bF.of name (Val.mk ji jl jj jh je jg jf jd jk)) p).1,.i .i64 (Tree.fD (bF.of name (Val.mk ji jl jj jh je jg jf jd jk)) p).2]
 |_=>.err
def ap5:dn
 |[.ag [.i .i64 eY,.s eW,.sl .ml eZ]]=>.dX (oG ((cQ.mk eY eW eZ).bJ<=1099511627776)) [.i .i64 (Cn.iz (cQ.mk eY eW eZ))]
 |_=>.err
def abb(n:Nat):dn
 |[.ag [.i .i64 eY,.s eW,.sl .ml eZ]]=>.dX ((oG ((cQ.mk eY eW eZ).bJ<=1099511627776))&&oG ((cQ.mk eY eW eZ).bJ<n)) [.i .i64 (Cn.iz (cQ.mk eY eW eZ))]
 |_=>.err
def aod:dn
 |[.ag [.i .i64 ji,.u64 jl,.u64 jj,.u64 jh,.s je,.s jg,.i .i64 jf,.sl .bs jd,.sl .fl jk]]=>.dX (oG ((bF.of [] (Val.mk ji jl jj jh je jg jf jd jk)).bJ<=1099511627776)) [.sl .is (Tree.fD (bF.of [] (Val.mk ji jl jj jh je jg jf jd jk)) []).1,.i .i64 (Tree.fD (bF.of [] (Val.mk ji jl jj jh je jg jf jd jk)) []).2]
 |_=>.err
def ai7:dn
 |[.sl .is a,.sl .is b]=>.dX (oG (a.length<=1099511627776)) [.b (oG (a=b))]
 |_=>.err
def aoM:dn
 |[.i .i64 left,.sl .is ly]=>.dX (oG (left<=1200/\ly.length<=10)&&ly.all (λs=>oG (0<=s))) [.i .i64 (gn.room left ly)]
 |_=>.err
def apR:dn
 |[.i .i64 left,.ag [.i .i64 ji,.u64 jl,.u64 jj,.u64 jh,.s je,.s jg,.i .i64 jf,.sl .bs jd,.sl .fl jk]]=>.dX (oG (left<=1200)) [.i .i64 (gn.value left (bF.of [] (Val.mk ji jl jj jh je jg jf jd jk)))]
 |_=>.err
def aa5(n:Nat):dn
 |[.i .i64 left,.ag [.i .i64 ji,.u64 jl,.u64 jj,.u64 jh,.s je,.s jg,.i .i64 jf,.sl .bs jd,.sl .fl jk]]=>.dX ((oG (left<=1200))&&oG ((bF.of [] (Val.mk ji jl jj jh je jg jf jd jk)).bJ<n)) [.i .i64 (gn.value left (bF.of [] (Val.mk ji jl jj jh je jg jf jd jk)))]
 |_=>.err
def anF:dn
 |[.ag [.i .i64 ji,.u64 jl,.u64 jj,.u64 jh,.s je,.s jg,.i .i64 jf,.sl .bs jd,.sl .fl jk]]=>.ok [.b (oG (0<=gn.value 1200 (bF.of [] (Val.mk ji jl jj jh je jg jf jd jk))))]
 |_=>.err
def adJ:dn
 |[.i .i64 v]=>.dX (Nr.i64 v) [.s (Nr.itoa v)]
 |_=>.err
def adQ:dn
 |[.u64 v]=>.ok [.s (Nr.dec v.toNat)]
 |_=>.err
def ai9:dn
 |[.sl .fl l]=>.dX (oG (l.length<=1099511627776)) [.b (Tree.regular l)]
 |_=>.err
def ap2:dn
 |[.sl .fl l]=>.dX (oG (l.length<=1099511627776)) [.b (Tree.regular l)]
 |_=>.err
def ah4:dn
 |[.u16 x]=>.ok [.i .i64 (Nt.bits x.toNat:Int)]
 |_=>.err
def WN:dn
 |[.u64 x]=>.ok [.i .i64 (Nt.bits x.toNat:Int)]
 |_=>.err
def amN:dn
 |[.u64 x]=>.ok [.i .i64 (Lib.ctz 64 x.toNat:Int)]
 |_=>.err
def amQ:dn
 |[.s s,.s c]=>.dX (oG (s.length<=1099511627776/\c.length<=100)&&c.all (λb=>oG (b.toNat<128))) [.s (Lib.trimS s c)]
 |_=>.err
def afB:dn
 |[.s s,.s c]=>.dX (oG (s.length<=1099511627776/\c.length<=100)&&c.all (λb=>oG (b.toNat<128))) [.s (Lib.trimLeftS s c)]
 |_=>.err
def af6:dn
 |[.s s,.s c]=>.dX (oG (s.length<=1099511627776/\c.length<=100)&&c.all (λb=>oG (b.toNat<128))) [.s (Lib.trimRightS s c)]
 |_=>.err
def qe:iB:={own:=[0]}
def afY:dn
 |[.sl .ws a]=>.dX (dP a.length 2) [.sl .ws a]
 |_=>.err
def anN:dn
 |[.c (.float .f64 x)]=>.dX (Fl.num x) [.c (.float .f64 (Fl.om x))]
 |_=>.err
def ad3:dn
 |[.c (.complex .f64 FP FO),.c (.float .f64 m)]=>.dX (Gz.Sp ((FP,FO):Cx) m) [.b NS]
 |_=>.err
def anB:dn
 |[.c (.complex .f64 FP FO)]=>.dX (Gz.AB ((FP,FO):Cx) 33554432) [.b NS]
 |_=>.err
def amS:dn
 |[.i .i64 x,.i .i64 y]=>.dX (oG (-33554432<=x/\x<=33554432/\-33554432<=y/\y<=33554432)) [.c (.complex .f64 ((Fl.ofInt x,Fl.ofInt y):Cx).1 ((Fl.ofInt x,Fl.ofInt y):Cx).2)]
 |_=>.err
def gN:iB:={jE:=3}
def agc:dn
 |[.c (.complex .f64 FP FO)]=>.dX (Gz.AB ((FP,FO):Cx) 4503599627370496) [.i .i64 (Fl.toInt ((FP,FO):Cx).1),.i .i64 (Fl.toInt ((FP,FO):Cx).2),.b NS]
 |_=>.err
def am8:dn
 |[.c (.complex .f64 FP FO),.i .i64 k]=>.dX (Gz.AB ((FP,FO):Cx) 1125899906842624&&oG (-100<=k/\k<=100)) [.c (.complex .f64 (Gz.kD ((FP,FO):Cx) k).1 (Gz.kD ((FP,FO):Cx) k).2)]
 |_=>.err
def anh:dn
 |[.c (.complex .f64 FP FO),.c (.complex .f64 Yx Yw)]=>.dX (Gz.AB ((FP,FO):Cx) 33554432&&Gz.AB ((Yx,Yw):Cx) 33554432) [.c (.complex .f64 (Gz.mul ((FP,FO):Cx) ((Yx,Yw):Cx)).1 (Gz.mul ((FP,FO):Cx) ((Yx,Yw):Cx)).2)]
 |_=>.err
def am5:dn
 |[.c (.float .f64 x)]=>.dX (Gz.QJ x) [.b NS]
 |_=>.err
def ag8:dn
 |[.ag [.c (.complex .f64 pR pQ),.c (.complex .f64 pP pN),.c (.complex .f64 pM pL),.c (.complex .f64 pK pJ)]]=>.dX (Gz.C3 (Qd.mk ((pR,pQ):Cx) ((pP,pN):Cx) ((pM,pL):Cx) ((pK,pJ):Cx)) 1125899906842624) [.b NS]
 |_=>.err
def aiB:dn
 |[.ag [.c (.complex .f64 pR pQ),.c (.complex .f64 pP pN),.c (.complex .f64 pM pL),.c (.complex .f64 pK pJ)],.i .i64 w]=>.dX (Gz.C3 (Qd.mk ((pR,pQ):Cx) ((pP,pN):Cx) ((pM,pL):Cx) ((pK,pJ):Cx)) 1125899906842624&&oG (w=1\/w=-1)) [.ag (Qd.cells (Gz.rA (Qd.mk ((pR,pQ):Cx) ((pP,pN):Cx) ((pM,pL):Cx) ((pK,pJ):Cx)) w))]
 |_=>.err
def am4:dn
 |[.ag [.c (.complex .f64 pR pQ),.c (.complex .f64 pP pN),.c (.complex .f64 pM pL),.c (.complex .f64 pK pJ)]]=>.dX (Gz.C3 (Qd.mk ((pR,pQ):Cx) ((pP,pN):Cx) ((pM,pL):Cx) ((pK,pJ):Cx)) 1125899906842624) [.ag (Qd.cells (Gz.rA (Qd.mk ((pR,pQ):Cx) ((pP,pN):Cx) ((pM,pL):Cx) ((pK,pJ):Cx)) 1))]
 |_=>.err
def anS:dn
 |[.ag [.c (.complex .f64 pR pQ),.c (.complex .f64 pP pN),.c (.complex .f64 pM pL),.c (.complex .f64 pK pJ)]]=>.dX (Gz.C3 (Qd.mk ((pR,pQ):Cx) ((pP,pN):Cx) ((pM,pL):Cx) ((pK,pJ):Cx)) 1125899906842624&&Gz.Sq (Qd.mk ((pR,pQ):Cx) ((pP,pN):Cx) ((pM,pL):Cx) ((pK,pJ):Cx))) [.ag (Qd.cells (Gz.back (Qd.mk ((pR,pQ):Cx) ((pP,pN):Cx) ((pM,pL):Cx) ((pK,pJ):Cx)))),.b NS]
 |_=>.err
def aoQ:dn
 |[.sl .is l]=>.dX (oG (l.length<=256)&&Gz.kn l) [.b NS]
 |_=>.err
def ao5:dn
 |[.sl .is l]=>.dX (oG (l.length<=256)&&Gz.kn l) [.sl .qd (Gz.j0 l)]
 |_=>.err
def apF:dn
 |[.sl .is a,.sl .is b]=>.dX (oG (a.length<=256/\b.length<=256)&&(Gz.kn a&&Gz.kn b)) [.sl .is (Gz.conv a b),.b NS]
 |_=>.err
def adO:dn
 |[.sl .ws a]=>.dX (oG (a.length<=1099511627776)) [.sl .ws (Nt.of (Nt.val a))]
 |_=>.err
def Yv:dn
 |[.sl .ws a]=>.dX (oG (a.length<=1099511627776)) [.b (Nt.is a)]
 |_=>.err
def abr:dn
 |[.u64 v]=>.ok [.sl .ws (Nt.of v.toNat)]
 |_=>.err
def aok:dn
 |[.sl .ws a]=>.dX (oG (Nt.is a=NS/\a.length<=4)) [.u64 (UInt64.ofNat (Nt.val a)),.b NS]
 |_=>.err
def af8:dn
 |[.sl .ws a]=>.dX (Nt.is a) [.i .i64 (Nt.bits (Nt.val a):Int)]
 |_=>.err
def agW:dn
 |[.sl .ws a,.sl .ws b]=>.dX (oG (a.length<=1099511627776/\b.length<=1099511627776)&&(Nt.norm a&&Nt.norm b)) [.i .i64 (Nt.cmp (Nt.val a) (Nt.val b))]
 |_=>.err
def aed:dn
 |[.sl .ws a,.sl .ws b]=>.dX (Nt.is a&&Nt.is b) [.i .i64 (Nt.cmp (Nt.val a) (Nt.val b))]
 |_=>.err
def apu:dn
 |[.sl .ws a]=>.dX (oG (a.length<=256)) [.sl .is (a.map λd=>(d.toNat:Int))]
 |_=>.err
def ahn:dn
 |[.sl .ws a,.sl .ws b]=>.dX (Nt.is a&&Nt.is b) [.sl .ws (Nt.of (Nt.val a*Nt.val b))]
 |_=>.err
def ag6:dn
 |[.sl .ws a,.u16 d]=>.dX (oG (a.length<=1000000/\d≠0)) [.sl .ws (Nt.of (Nt.val a/d.toNat)),.u16 (UInt16.ofNat (Nt.val a% d.toNat))]
 |_=>.err
def agR:dn
 |[.sl .ws a,.i .i64 n]=>.dX (oG (a.length<=1000000/\0<=n/\n<16)&&Nt.norm a) [.sl .ws (Nt.of (Nt.val a*2^n.toNat))]
 |_=>.err
def aoT:dn
 |[.sl .ws a,.i .i64 n]=>.dX (oG (a.length<=1000000/\0<=n/\n<16)) [.sl .ws (Nt.of (Nt.val a/2^n.toNat))]
 |_=>.err
def Yp:iB:={md:=[.gv],jE:=2}
def aqd:dn
 |[.sl .ws u,.sl .ws v]=>.dX (oG (u.length<=1000000/\2<=v.length/\v.length<=u.length/\32768<=(v.getLast?.getD 0).toNat)) [.sl .ws (Nt.fix (u.length+1 -v.length) (Nt.val u/Nt.val v)),.sl .ws (Nt.fix v.length (Nt.val u% Nt.val v))]
 |_=>.err
def aft:dn
 |[.sl .ws a,.sl .ws b]=>.dX (Nt.is a&&Nt.is b&&oG (b≠[])) [.sl .ws (Nt.of (Nt.val a/Nt.val b)),.sl .ws (Nt.of (Nt.val a% Nt.val b)),.b NS]
 |_=>.err
def ad5:dn
 |[.sl .ws a,.i .i64 n]=>.dX (oG (0<=n/\n<=4096)&&Nt.is a) [.sl .ws (Nt.of (Nt.val a*2^n.toNat))]
 |_=>.err
def ahP:dn
 |[.sl .ws a,.i .i64 b,.i .i64 c]=>.dX (oG (a.length<=1000000/\1<=b/\b<=65535/\0<=c/\c<=65535)&&Nt.norm a) [.sl .ws (Nt.of (Nt.val a*b.toNat+c.toNat))]
 |_=>.err
def ahY:dn
 |[.i .i64 b,.i .i64 e]=>.dX (oG (2<=b/\b<=65535/\0<=e/\e<=1000/\b.toNat^e.toNat<2^4096)) [.sl .ws (Nt.of (b.toNat^e.toNat)),.b NS]
 |_=>.err
def aoi:dn
 |[.s s]=>.dX (oG (1<=s.length/\s.length<=300/\s.getD 0 0≠48)&&s.all Nr.dG) [.sl .ws (Nt.of (Nr.num s)),.b NS]
 |_=>.err
def aor:dn
 |[.b n,.u64 m,.i .i64 e]=>.dX (oG (-1100<=e/\e<=2000)) [.u64 (Nr.pat (Nr.join n m.toNat e)),.b (Nr.join n m.toNat e).isSome]
 |_=>.err
def ao0:dn
 |[.sl .ws a,.sl .ws b,.i .i64 e]=>.dX (Nt.is a&&Nt.is b&&oG (-4096<=e/\e<=4096/\0<Nt.val b/\Nr.mE (Nt.val a) e<2^4090/\Nr.mi (Nt.val b) e<2^4090/\Nr.mE (Nt.val a) e<2^60*Nr.mi (Nt.val b) e)) [.u64 (UInt64.ofNat (Nr.Aq (Nr.mE (Nt.val a) e) (Nr.mi (Nt.val b) e))),.b (Nr.qf (Nr.mE (Nt.val a) e) (Nr.mi (Nt.val b) e))]
 |_=>.err
def aop:dn
 |[.sl .ws a,.sl .ws b]=>.dX (Nt.is a&&Nt.is b&&oG (0<Nt.val a/\0<Nt.val b/\Nt.val a<2^1100/\Nt.val b<2^2200)) [.u64 (Nr.pat (Nr.kG (Nt.val a) (Nt.val b))),.b (Nr.kG (Nt.val a) (Nt.val b)).isSome]
 |_=>.err
def aot:dn
 |[.s d,.i .i64 x]=>.ok [.u64 (Nr.pat (Nr.read d x)),.b (Nr.read d x).isSome]
 |_=>.err
def amT:dn
 |[.s s,.i .i64 at_,.u8 c,.u8 d]=>.dX (oG (s.length<=1099511627776)&&oG (0<=at_)) [.b (oG (at_<s.length)&&(oG (s.getD at_.toNat 0=c)||oG (s.getD at_.toNat 0=d)))]
 |_=>.err
def aoO:dn
 |[.s s,.i .i64 at_]=>.dX (oG (s.length<=1099511627776)&&oG (0<=at_/\at_<=1099511627776)) [.i .i64 (at_+(Nr.run (s.drop at_.toNat):Int))]
 |_=>.err
def ajp:dn
 |[.s s]=>.dX (oG (s.length<=1099511627776)) [.i .i64 (Nr.fy s)]
 |_=>.err
def anM:dn
 |[.s s]=>.dX (oG (s.length<=1099511627776)) [.i .i64 (Nr.run s:Int)]
 |_=>.err
def ajr:dn
 |[.s s]=>.dX (oG (s.length<=1099511627776)) [.i .i64 (Nr.fy s)]
 |_=>.err
def aef:dn
 |[.i .i64 v]=>.dX (Nr.i64 v) [.s (Nr.itoa v)]
 |_=>.err
def mh:iB:={jE:=4}
def adN:dn
 |[.u64 b]=>.ok [.i .i64 (Nr.split b).1,.b (Nr.split b).2.1,.u64 (Nr.split b).2.2.1,.i .i64 (Nr.split b).2.2.2]
 |_=>.err
def ot:iB:={md:=[.gv],own:=[0]}
def apo:dn
 |[.sl .us a,.u64 m]=>.dX (oG (a.length<=1000/\m.toNat<=100000000)&&a.all (λx=>oG (x.toNat<100000000))) [.sl .us (Nr.times a m 0)]
 |_=>.err
def aqf:dn
 |[.u64 m,.i .i64 e]=>.dX (oG (1<=m.toNat/\m.toNat<2^55/\-1075<=e/\e<=971)) [.s (Nr.Bt m.toNat e),.i .i64 (Nr.C9 m.toNat e)]
 |_=>.err
def anx:dn
 |[.s a,.i .i64 x,.s b,.i .i64 y]=>.ok [.i .i64 (Nr.jF a x b y)]
 |_=>.err
def adM:dn
 |[.u64 b]=>.ok [.i .i64 (Nr.split b).1,.b (Nr.split b).2.1,.u64 (Nr.split b).2.2.1,.i .i64 (Nr.split b).2.2.2]
 |_=>.err
def apC:dn
 |[.sl .ws a,.sl .ws b]=>.dX (Nt.is a&&Nt.is b) [.sl .ws (Nt.of (Nt.val a+Nt.val b))]
 |_=>.err
def aoG:dn
 |[.sl .ws a]=>.dX (Nt.is a) [.s (Sh.vY (Nt.val a))]
 |_=>.err
def adK:dn
 |[.s s,.i .i64 n]=>.dX (oG (s=[48]/\0<=n/\n<=100)) [.s (Sh.eK n)]
 |_=>.err
def amP:dn
 |[.sl .ss l,.s s]=>.dX (oG (s=[]/\l.length<=100000/\l.flatten.length<=100000)) [.s l.flatten]
 |_=>.err
def amZ:dn
 |[.i .i64 v,.i .i64 b]=>.dX (Nr.i64 v&&oG (b=10)) [.s (Nr.itoa v)]
 |_=>.err
def acB:iB:={md:=[.sl],jE:=0}
def apj:dn
 |[.sl .ss l]=>.dX (oG (l.length<=100000)) [.sl .ss l.reverse]
 |_=>.err
def adL:dn
 |[.i .i64 v]=>.dX (Nr.i64 v) [.s (Nr.itoa v)]
 |_=>.err
def afW:dn
 |[.sl .ws a,.sl .ws b,.i .i64 k]=>.dX (Nt.is a&&Nt.is b&&oG (-400<=k/\k<=400/\Nt.val a<2^1100/\Nt.val b<2^1100)) [.sl .ws (Nt.of (Sh.tA (Nt.val a) k)),.sl .ws (Nt.of (Sh.tB (Nt.val b) k))]
 |_=>.err
def ans:dn
 |[.sl .ws a,.sl .ws b,.i .i64 x]=>.dX (Nt.is a&&Nt.is b&&oG (-400<=x/\x<=400/\Nt.val a<2^1100/\Nt.val b<2^1100)) [.b (oG (Sh.tB (Nt.val b) (-x)<=Sh.tA (Nt.val a) (-x)))]
 |_=>.err
def ant:dn
 |[.u64 b,.sl .ws a,.i .i64 p]=>.dX (Nt.is a&&oG (-1000<=p/\p<=1000/\0<Nt.val a/\Nt.val a<10^200)) [.s ((Sh.nN b.toNat (Nt.val a) p).getD ([],0)).1,.i .i64 ((Sh.nN b.toNat (Nt.val a) p).getD ([],0)).2,.b (Sh.nN b.toNat (Nt.val a) p).isSome]
 |_=>.err
def anf:dn
 |[.u64 b,.sl .ws p,.sl .ws q,.i .i64 x,.i .i64 n]=>.dX (Nt.is p&&Nt.is q&&Sh.ta (Nt.val p) (Nt.val q) x n) [.s ((Sh.tT b.toNat (Nt.val p) (Nt.val q) x n).getD ([],0)).1,.i .i64 ((Sh.tT b.toNat (Nt.val p) (Nt.val q) x n).getD ([],0)).2,.b (Sh.tT b.toNat (Nt.val p) (Nt.val q) x n).isSome]
 |_=>.err
def apJ:dn
 |[.u64 b]=>.ok [.s (Sh.dg b).1,.i .i64 (Sh.dg b).2.1,.b (Sh.dg b).2.2]
 |_=>.err
def aov:dn
 |[.s d,.i .i64 x]=>.dX (oG (1<=d.length/\d.length<=17/\-900<=x/\x<=900)) [.s (Sh.HW d x)]
 |_=>.err
def ahI:dn
 |[.u64 b]=>.ok [.s (Sh.text b)]
 |_=>.err
def aoc:dn
 |[.s d,.i .i64 x]=>.dX (oG (1<=d.length/\d.length<=100000/\-100000<=x/\x<=100000)) [.s (Sh.more d x).1,.i .i64 (Sh.more d x).2]
 |_=>.err
def anz:dn
 |[.u64 p,.i .i64 lo,.i .i64 hi]=>.ok [.b (Sh.wi p.toNat lo hi)]
 |_=>.err
def ap9:dn
 |[.u64 b]=>.ok [.s (Sh.dg b).1,.i .i64 (Sh.dg b).2.1,.b (Sh.dg b).2.2]
 |_=>.err
def ae5:dn
 |[.u64 b]=>.ok [.s (Sh.text b)]
 |_=>.err
def amO:dn
 |[.u64 v,.i .i64 b]=>.dX (oG (b=10)) [.s (Nr.dec v.toNat)]
 |_=>.err
def aoE:dn
 |[.u64 v,.i .i64 b]=>.dX (oG (b=10)) [.s (Nr.dec v.toNat)]
 |_=>.err
def an0:dn
 |[.s s,.s t]=>.ok [.b (List.isPrefixOf t s)]
 |_=>.err
def ahK:dn
 |[.s s,.s t]=>.ok [.b (List.isPrefixOf t s)]
 |_=>.err
def aow:dn
 |[.s s,.u8 c]=>.ok [.i .i64 (Lib.indexByte s c)]
 |_=>.err
def anl:dn
 |[.u64 a,.u64 b]=>.ok [.u64 (UInt64.ofNat (a.toNat*b.toNat/18446744073709551616)),.u64 (UInt64.ofNat (a.toNat*b.toNat))]
 |_=>.err
def anI:dn
 |[.u64 v]=>.dX (oG (9223372036854775808<=v.toNat)) [.i .i64 (0)]
 |_=>.err
def aqa:dn
 |[.u64 a,.u64 b,.u64 y]=>.dX (oG (9223372036854775808<=y.toNat/\a.toNat<y.toNat)) [.u64 (UInt64.ofNat ((a.toNat*18446744073709551616+b.toNat)/y.toNat)),.u64 (UInt64.ofNat ((a.toNat*18446744073709551616+b.toNat)% y.toNat))]
 |_=>.err
def afo:dn
 |[.ag [.u64 tL,.u64 tK],.ag [.u64 FJ,.u64 FI]]=>.ok [.i .i64 (cond (oG ((dY.mk tL tK).val=(dY.mk FJ FI).val)) 0 (cond (oG ((dY.mk tL tK).val<(dY.mk FJ FI).val)) (-1) 1))]
 |_=>.err
def am2:dn
 |[.u64 a,.u64 b]=>.ok [.ag (dY.of (a.toNat*b.toNat)).cells]
 |_=>.err
def am1:dn
 |[.ag [.u64 tL,.u64 tK],.u64 b]=>.dX (oG (9223372036854775808<=b.toNat)) [.ag (dY.of ((dY.mk tL tK).val/b.toNat)).cells,.u64 (UInt64.ofNat ((dY.mk tL tK).val% b.toNat)),.b NS]
 |_=>.err
def apq:dn
 |[.ag [.u64 tL,.u64 tK]]=>.ok [.s (Nr.dec (dY.mk tL tK).val)]
 |_=>.err
def aga:dn
 |[]=>.ok [.ag (Cn.sH).cells]
 |_=>.err
def ahi:dn
 |[.u64 h,.u64 l]=>.ok [.i .i64 (Cn.split h l).1,.b (Cn.split h l).2.1,.ag (Cn.split h l).2.2.1.cells,.i .i64 (Cn.split h l).2.2.2]
 |_=>.err
def an5:dn
 |[.b n,.ag [.u64 uG,.u64 z8],.i .i64 x]=>.dX (Nr.i64 x) [.u64 (Cn.join n (dY.mk uG z8) x).1,.u64 (Cn.join n (dY.mk uG z8) x).2.1,.b (Cn.join n (dY.mk uG z8) x).2.2]
 |_=>.err
def ang:dn
 |[.u64 h,.u64 l]=>.ok [.b (Cn.nQ h l)]
 |_=>.err
def aom:dn
 |[.s d,.i .i64 x]=>.dX (oG (1<=d.length/\d.length<=40/\-10000<=x/\x<=100000)) [.s (Cn.laid d x)]
 |_=>.err
def an7:dn
 |[.u64 h,.u64 l]=>.ok [.s (Cn.qX h l)]
 |_=>.err
def aoR:dn
 |[.sl .bs b]=>.dX (oG (b.length<=1099511627776)) [.s (Cn.base b)]
 |_=>.err
def ad7:dn
 |[.s s]=>.ok [.ag (Cn.str s).cells]
 |_=>.err
def afv:dn
 |[.i .i64 v]=>.dX (Nr.i64 v) [.ag (Cn.num v).cells]
 |_=>.err
def aeb:dn
 |[.s s,.ag [.i .i64 eY,.s eW,.sl .ml eZ]]=>.ok [.ag (Cn.one s (cQ.mk eY eW eZ)).cells]
 |_=>.err
def ad9:dn
 |[.s s,.ag [.i .i64 eY,.s eW,.sl .ml eZ],.s t,.ag [.i .i64 GG,.s GF,.sl .ml GH]]=>.ok [.ag (Cn.two s (cQ.mk eY eW eZ) t (cQ.mk GG GF GH)).cells]
 |_=>.err
def aoy:dn
 |[.u64 v]=>.ok [.s (Cn.high v)]
 |_=>.err
def anG:dn
 |[.ag [.i .i64 ji,.u64 jl,.u64 jj,.u64 jh,.s je,.s jg,.i .i64 jf,.sl .bs jd,.sl .fl jk]]=>.ok [.ag (Cn.nF (Val.mk ji jl jj jh je jg jf jd jk)).1.cells,.b (Cn.nF (Val.mk ji jl jj jh je jg jf jd jk)).2]
 |_=>.err
def am7:dn
 |[.ag [.i .i64 ji,.u64 jl,.u64 jj,.u64 jh,.s je,.s jg,.i .i64 jf,.sl .bs jd,.sl .fl jk]]=>.dX (oG ((bF.of [] (Val.mk ji jl jj jh je jg jf jd jk)).bJ<=1099511627776)) [.ag (Cn.oo (Val.mk ji jl jj jh je jg jf jd jk)).cells]
 |_=>.err
def pE:iB:={own:=[1002]}
def apy:dn
 |[.sl .fl l]=>.dX (oG (bF.bV l<=1099511627776)) [.ag (Cn.uE l).cells]
 |_=>.err
def aaR(n:Nat):dn
 |[.sl .fl l]=>.dX ((oG (bF.bV l<=1099511627776))&&oG ((2*bF.bV l+1)<n)) [.ag (Cn.uE l).cells]
 |_=>.err
def abR(n:Nat):dn
 |[.ag [.i .i64 ji,.u64 jl,.u64 jj,.u64 jh,.s je,.s jg,.i .i64 jf,.sl .bs jd,.sl .fl jk]]=>.dX ((oG ((bF.of [] (Val.mk ji jl jj jh je jg jf jd jk)).bJ<=1099511627776))&&oG ((2*(bF.of [] (Val.mk ji jl jj jh je jg jf jd jk)).bJ)<n)) [.ag (Cn.Dk (Val.mk ji jl jj jh je jg jf jd jk)).cells]
 |_=>.err
def am6:dn
 |[.ag [.i .i64 ji,.u64 jl,.u64 jj,.u64 jh,.s je,.s jg,.i .i64 jf,.sl .bs jd,.sl .fl jk]]=>.dX (oG ((bF.of [] (Val.mk ji jl jj jh je jg jf jd jk)).bJ<=1099511627776)) [.ag (Cn.xz (Val.mk ji jl jj jh je jg jf jd jk)).cells,.ag [.i .i64 (Cn.fC (Val.mk ji jl jj jh je jg jf jd jk)).2,.i .i64 0,.sl .is (Cn.fC (Val.mk ji jl jj jh je jg jf jd jk)).1]]
 |_=>.err
def afc:dn
 |[.s s]=>.dX (oG (s.length<=1099511627776)) [.b (dE.whole s)]
 |_=>.err
def apU:dn
 |[.ag [.i .i64 eY,.s eW,.sl .ml eZ]]=>.dX (oG ((cQ.mk eY eW eZ).bJ<=1099511627776)) [.i .i64 (Cn.iz (cQ.mk eY eW eZ))]
 |_=>.err
def aa6(n:Nat):dn
 |[.ag [.i .i64 eY,.s eW,.sl .ml eZ]]=>.dX ((oG ((cQ.mk eY eW eZ).bJ<=1099511627776))&&oG ((cQ.mk eY eW eZ).bJ<n)) [.i .i64 (Cn.iz (cQ.mk eY eW eZ))]
 |_=>.err
def apb:dn
 |[.s s]=>.dX (oG (s.length<=1000000000000)) [.s (Cn.jC s),.b (dE.whole s)]
 |_=>.err
def anH:dn
 |[.sl .bs b,.s s]=>.dX (oG (b.length+6*s.length<=5000000000000)) [.sl .bs (b++Cn.jC s)]
 |_=>.err
def aph:dn
 |[.sl .bs b,.ag [.i .i64 eY,.s eW,.sl .ml eZ]]=>.dX (oG (b.length+12*(cQ.mk eY eW eZ).bJ<=4000000000000)) [.sl .bs (b++Cn.sO (cQ.mk eY eW eZ))]
 |_=>.err
def aaN(n:Nat):dn
 |[.sl .bs b,.ag [.i .i64 eY,.s eW,.sl .ml eZ]]=>.dX ((oG (b.length+12*(cQ.mk eY eW eZ).bJ<=4000000000000))&&oG ((cQ.mk eY eW eZ).bJ<n)) [.sl .bs (b++Cn.sO (cQ.mk eY eW eZ))]
 |_=>.err
def anC:dn
 |[.ag [.i .i64 eY,.s eW,.sl .ml eZ]]=>.dX (oG (12*(cQ.mk eY eW eZ).bJ<=1000000000000)) [.s (Cn.pG (cQ.mk eY eW eZ)),.i .i64 (Cn.iz (cQ.mk eY eW eZ))]
 |_=>.err
def apE:dn
 |[.ag [.i .i64 Am,.s Al,.sl .ml An],.ag [.i .i64 Iw,.s Iv,.sl .ml Ix]]=>.dX (oG ((cQ.mk Am Al An).bJ<=1099511627776)) [.b (Cn.sq (cQ.mk Am Al An) (cQ.mk Iw Iv Ix))]
 |_=>.err
def aaV(n:Nat):dn
 |[.ag [.i .i64 Am,.s Al,.sl .ml An],.ag [.i .i64 Iw,.s Iv,.sl .ml Ix]]=>.dX ((oG ((cQ.mk Am Al An).bJ<=1099511627776))&&oG ((cQ.mk Am Al An).bJ<n)) [.b (Cn.sq (cQ.mk Am Al An) (cQ.mk Iw Iv Ix))]
 |_=>.err
def anj:dn
 |[.sl .bs a]=>.dX (dP a.length 1) [.sl .bs a]
 |_=>.err
def amR:dn
 |[.s s]=>.dX (oG (s.length<=281474976710656)) [.i .i64 ((Rl.kL s).getD 0),.b (Rl.kL s).isSome]
 |_=>.err
def ank:dn
 |[.u64 b]=>.ok [.i .i64 (Rl.order b)]
 |_=>.err
def am0:dn
 |[.u64 a,.u64 b]=>.ok [.i .i64 (Rl.E3 a b).1,.b (Rl.E3 a b).2]
 |_=>.err
def amW:dn
 |[.s t]=>.ok [.ag (cQ.mk 4 t []).cells]
 |_=>.err
def agC:dn
 |[.u64 b]=>.ok [.s (Rl.number b).1,.b (Rl.number b).2]
 |_=>.err
def amY:dn
 |[.s s,.ag [.i .i64 eY,.s eW,.sl .ml eZ]]=>.ok [.ag (Cn.one s (cQ.mk eY eW eZ)).cells]
 |_=>.err
def apW:dn
 |[.ag [.i .i64 ji,.u64 jl,.u64 jj,.u64 jh,.s je,.s jg,.i .i64 jf,.sl .bs jd,.sl .fl jk]]=>.dX (oG ((bF.of [] (Val.mk ji jl jj jh je jg jf jd jk)).bJ<=1000000000000)) [.ag (Rl.kD (Val.mk ji jl jj jh je jg jf jd jk)).cells]
 |_=>.err
def aa8(n:Nat):dn
 |[.ag [.i .i64 ji,.u64 jl,.u64 jj,.u64 jh,.s je,.s jg,.i .i64 jf,.sl .bs jd,.sl .fl jk]]=>.dX ((oG ((bF.of [] (Val.mk ji jl jj jh je jg jf jd jk)).bJ<=1000000000000))&&oG ((bF.of [] (Val.mk ji jl jj jh je jg jf jd jk)).bJ<n)) [.ag (Rl.kD (Val.mk ji jl jj jh je jg jf jd jk)).cells]
 |_=>.err
def anD:dn
 |[.ag [.i .i64 Am,.u64 FN,.u64 tL,.u64 tK,.s Al,.s FM,.i .i64 FL,.sl .bs FK,.sl .fl An],.ag [.i .i64 Iw,.u64 Oj,.u64 FJ,.u64 FI,.s Iv,.s Oi,.i .i64 Oh,.sl .bs Og,.sl .fl Ix]]=>.ok [.b (Tree.tj (Val.mk Am FN tL tK Al FM FL FK An) (Val.mk Iw Oj FJ FI Iv Oi Oh Og Ix))]
 |_=>.err
def aae:iB:={md:=[.gv,.pl,.pl,.sm],jE:=2,own:=[0]}
def apK:dn
 |[.sl .r9 o,.ag [.i .i64 Am,.u64 FN,.u64 tL,.u64 tK,.s Al,.s FM,.i .i64 FL,.sl .bs FK,.sl .fl An],.ag [.i .i64 Iw,.u64 Oj,.u64 FJ,.u64 FI,.s Iv,.s Oi,.i .i64 Oh,.sl .bs Og,.sl .fl Ix],.sl .is p]=>.dX (oG (o.length+(bF.of [] (Val.mk Am FN tL tK Al FM FL FK An)).bJ<=1000000000/\p.length+(bF.of [] (Val.mk Am FN tL tK Al FM FL FK An)).bJ<=1000000000)) [.sl .r9 (Rl.uC o (Val.mk Am FN tL tK Al FM FL FK An) (Val.mk Iw Oj FJ FI Iv Oi Oh Og Ix) p).1,.b (Rl.uC o (Val.mk Am FN tL tK Al FM FL FK An) (Val.mk Iw Oj FJ FI Iv Oi Oh Og Ix) p).2]
 |_=>.err
def aa1(n:Nat):dn
 |[.sl .r9 o,.ag [.i .i64 Am,.u64 FN,.u64 tL,.u64 tK,.s Al,.s FM,.i .i64 FL,.sl .bs FK,.sl .fl An],.ag [.i .i64 Iw,.u64 Oj,.u64 FJ,.u64 FI,.s Iv,.s Oi,.i .i64 Oh,.sl .bs Og,.sl .fl Ix],.sl .is p]=>.dX ((oG (o.length+(bF.of [] (Val.mk Am FN tL tK Al FM FL FK An)).bJ<=1000000000/\p.length+(bF.of [] (Val.mk Am FN tL tK Al FM FL FK An)).bJ<=1000000000))&&oG ((bF.of [] (Val.mk Am FN tL tK Al FM FL FK An)).bJ<n)) [.sl .r9 (Rl.uC o (Val.mk Am FN tL tK Al FM FL FK An) (Val.mk Iw Oj FJ FI Iv Oi Oh Og Ix) p).1,.b (Rl.uC o (Val.mk Am FN tL tK Al FM FL FK An) (Val.mk Iw Oj FJ FI Iv Oi Oh Og Ix) p).2]
 |_=>.err
def am9:dn
 |[.ag [.i .i64 Am,.u64 FN,.u64 tL,.u64 tK,.s Al,.s FM,.i .i64 FL,.sl .bs FK,.sl .fl An],.ag [.i .i64 Iw,.u64 Oj,.u64 FJ,.u64 FI,.s Iv,.s Oi,.i .i64 Oh,.sl .bs Og,.sl .fl Ix]]=>.dX (oG ((bF.of [] (Val.mk Am FN tL tK Al FM FL FK An)).bJ<=100000000)) [.sl .r9 ((Rl.diff (Val.mk Am FN tL tK Al FM FL FK An) (Val.mk Iw Oj FJ FI Iv Oi Oh Og Ix)).getD []),.b (Rl.diff (Val.mk Am FN tL tK Al FM FL FK An) (Val.mk Iw Oj FJ FI Iv Oi Oh Og Ix)).isSome]
 |_=>.err
def anc:dn
 |[.ag [.i .i64 ji,.u64 jl,.u64 jj,.u64 jh,.s je,.s jg,.i .i64 jf,.sl .bs jd,.sl .fl jk]]=>.dX (oG ((bF.of [] (Val.mk ji jl jj jh je jg jf jd jk)).bJ<=10000000)) [.sl .r9 ((Rl.diff (Val.mk ji jl jj jh je jg jf jd jk) (Rl.kD (Val.mk ji jl jj jh je jg jf jd jk))).getD [])]
 |_=>.err
def am3:dn
 |[.i .i64 y]=>.dX (oG (0<=y/\y<=100000)) [.b (Rl.rI y)]
 |_=>.err
def aoK:dn
 |[.i .i64 y,.i .i64 m]=>.dX (oG (0<=y/\y<=100000)) [.i .i64 (Rl.month y m)]
 |_=>.err
def anm:dn
 |[.i .i64 y]=>.dX (oG (1<=y/\y<=100000)) [.i .i64 (Rl.ahead y)]
 |_=>.err
def anW:dn
 |[.i .i64 n,.i .i64 l]=>.dX (oG (0<=n/\n<=1000000/\0<=l/\l<=10)) [.s (Rl.pad n l)]
 |_=>.err
def apO:dn
 |[.i .i64 t]=>.dX (Nr.i64 t) [.s (Rl.date t).1,.b (Rl.date t).2]
 |_=>.err
def apA:dn
 |[.sl .fl l]=>.dX (oG (bF.bV l<=1000000000000)&&oG ((Tree.jv l 0 []).2=0)) [.ag (Rl.uD Rl.date l).cells]
 |_=>.err
def aaS(n:Nat):dn
 |[.sl .fl l]=>.dX ((oG (bF.bV l<=1000000000000)&&oG ((Tree.jv l 0 []).2=0))&&oG ((2*bF.bV l+1)<n)) [.ag (Rl.uD Rl.date l).cells]
 |_=>.err
def acE(n:Nat):dn
 |[.ag [.i .i64 ji,.u64 jl,.u64 jj,.u64 jh,.s je,.s jg,.i .i64 jf,.sl .bs jd,.sl .fl jk]]=>.dX ((oG ((bF.of [] (Val.mk ji jl jj jh je jg jf jd jk)).bJ<=1000000000000)&&oG ((Tree.fD (bF.of [] (Val.mk ji jl jj jh je jg jf jd jk)) []).2=0))&&oG ((2*(bF.of [] (Val.mk ji jl jj jh je jg jf jd jk)).bJ)<n)) [.ag (Rl.oD Rl.date (bF.of [] (Val.mk ji jl jj jh je jg jf jd jk))).cells]
 |_=>.err
def afS:dn
 |[.ag [.i .i64 ji,.u64 jl,.u64 jj,.u64 jh,.s je,.s jg,.i .i64 jf,.sl .bs jd,.sl .fl jk]]=>.dX (oG ((bF.of [] (Val.mk ji jl jj jh je jg jf jd jk)).bJ<=1000000000000)) [.ag (Rl.mF Rl.date (Val.mk ji jl jj jh je jg jf jd jk)).cells,.ag [.i .i64 (Cn.fC (Val.mk ji jl jj jh je jg jf jd jk)).2,.i .i64 0,.sl .is (Cn.fC (Val.mk ji jl jj jh je jg jf jd jk)).1]]
 |_=>.err
def afU:dn
 |[.ag [.i .i64 ji,.u64 jl,.u64 jj,.u64 jh,.s je,.s jg,.i .i64 jf,.sl .bs jd,.sl .fl jk]]=>.dX (oG ((bF.of [] (Val.mk ji jl jj jh je jg jf jd jk)).bJ<=100000)) [.s (Rl.xn Rl.date (Val.mk ji jl jj jh je jg jf jd jk)),.ag [.i .i64 (Rl.mD Rl.date (Val.mk ji jl jj jh je jg jf jd jk)).2,.i .i64 0,.sl .is (Rl.mD Rl.date (Val.mk ji jl jj jh je jg jf jd jk)).1]]
 |_=>.err
def apI:dn
 |[.sl .r9 a,.sl .r9 b]=>.dX (oG (a.length<=1000000000)&&a.all (λl=>oG (l.length<=1099511627776))) [.b (oG (a=b))]
 |_=>.err
def anw:dn
 |[.u64 b]=>.ok [.i .i64 (Cn.i32 b)]
 |_=>.err
def aoW:dn
 |[.u64 v,.i .i64 n]=>.dX (oG (n=8)) [.sl .bs (Cn.b8 v).reverse]
 |_=>.err
def apg:dn
 |[.u64 v,.i .i64 n]=>.dX (oG (n=8)) [.sl .bs (Cn.b8 v)]
 |_=>.err
def apG:dn
 |[.sl .bs b]=>.dX (oG (b.length<=1000000000)) [.s (Cn.base b)]
 |_=>.err
def anb:dn
 |[.ag [.i .i64 IB,.i .i64 Qc,.sl .is CX],.ag [.i .i64 NH,.i .i64 TI,.sl .is Hf]]=>.dX (oG ((xg.mk IB Qc CX).path.length<=1099511627776)) [.b (oG ((xg.mk IB Qc CX).err=(xg.mk NH TI Hf).err)&&(oG ((xg.mk IB Qc CX).at_=(xg.mk NH TI Hf).at_)&&oG ((xg.mk IB Qc CX).path=(xg.mk NH TI Hf).path)))]
 |_=>.err
def afh:dn
 |[.ag [.u64 tL,.u64 tK],.ag [.u64 FJ,.u64 FI]]=>.ok [.i .i64 (cond (oG ((dY.mk tL tK).val=(dY.mk FJ FI).val)) 0 (cond (oG ((dY.mk tL tK).val<(dY.mk FJ FI).val)) (-1) 1))]
 |_=>.err
def amV:dn
 |[.ag [.u64 tL,.u64 tK],.i .i64 k]=>.dX (oG (0<=k/\k<128)) [.u64 (UInt64.ofNat ((dY.mk tL tK).val/2^k.toNat%2))]
 |_=>.err
def aoB:dn
 |[.ag [.u64 tL,.u64 tK],.u64 b]=>.dX (oG (1<=b.toNat/\b.toNat<=4611686018427387904)) [.ag (dY.of ((dY.mk tL tK).val/b.toNat)).cells,.u64 (UInt64.ofNat ((dY.mk tL tK).val% b.toNat)),.b NS]
 |_=>.err
def aiw:dn
 |[.ag [.u64 tL,.u64 tK]]=>.ok [.s (Nr.dec (dY.mk tL tK).val)]
 |_=>.err
def afa:dn
 |[]=>.ok [.ag (Cn.sH).cells]
 |_=>.err
def ahk:dn
 |[.u64 h,.u64 l]=>.ok [.i .i64 (Cn.split h l).1,.b (Cn.split h l).2.1,.ag (Cn.split h l).2.2.1.cells,.i .i64 (Cn.split h l).2.2.2]
 |_=>.err
def aoa:dn
 |[.b n,.ag [.u64 uG,.u64 z8],.i .i64 x]=>.dX (Nr.i64 x) [.u64 (Cn.join n (dY.mk uG z8) x).1,.u64 (Cn.join n (dY.mk uG z8) x).2.1,.b (Cn.join n (dY.mk uG z8) x).2.2]
 |_=>.err
def anr:dn
 |[.u64 h,.u64 l]=>.ok [.b (Cn.nQ h l)]
 |_=>.err
def ao2:dn
 |[.i .i64 n]=>.dX (oG (n<=100000)) [.s (List.replicate n.toNat 48)]
 |_=>.err
def apS:dn
 |[.u64 h,.u64 l]=>.ok [.s (Cn.qX h l)]
 |_=>.err
def agj:dn
 |[.i .i64 y]=>.dX (oG (0<=y/\y<=100000)) [.b (Rl.rI y)]
 |_=>.err
def ano:dn
 |[.i .i64 y,.i .i64 m]=>.dX (oG (0<=y/\y<=100000)) [.i .i64 (Rl.month y m)]
 |_=>.err
def aoA:dn
 |[.i .i64 v,.i .i64 n]=>.dX (oG (0<=v/\v<=1000000/\0<=n/\n<=10)) [.s (Rl.pad v n)]
 |_=>.err
def aqb:dn
 |[.i .i64 t]=>.dX (Nr.i64 t) [.s (Rl.date t).1,.b (Rl.date t).2]
 |_=>.err
def apZ:dn
 |[.s s]=>.dX (oG (s.length<=1000000000000)) [.s (Cn.jC s),.b (dE.whole s)]
 |_=>.err
def apM:dn
 |[.ag [.i .i64 eY,.s eW,.sl .ml eZ]]=>.dX (oG (12*(cQ.mk eY eW eZ).bJ<=1000000000000)) [.sl .bs (Cn.sO (cQ.mk eY eW eZ))]
 |_=>.err
def aa2(n:Nat):dn
 |[.ag [.i .i64 eY,.s eW,.sl .ml eZ]]=>.dX ((oG (12*(cQ.mk eY eW eZ).bJ<=1000000000000))&&oG ((cQ.mk eY eW eZ).bJ<n)) [.sl .bs (Cn.sO (cQ.mk eY eW eZ))]
 |_=>.err
def anJ:dn
 |[.ag [.i .i64 eY,.s eW,.sl .ml eZ]]=>.dX (oG (12*(cQ.mk eY eW eZ).bJ<=1000000000000)) [.s (Cn.pG (cQ.mk eY eW eZ)),.i .i64 (Cn.iz (cQ.mk eY eW eZ))]
 |_=>.err
def aeh:dn
 |[.s s]=>.ok [.ag (Cn.str s).cells]
 |_=>.err
def afH:dn
 |[.s s]=>.ok [.ag (cQ.mk 4 s []).cells]
 |_=>.err
def afJ:dn
 |[.sl .ml l]=>.ok [.ag (cQ.mk 7 [] l).cells]
 |_=>.err
def aej:dn
 |[.s s,.ag [.i .i64 eY,.s eW,.sl .ml eZ]]=>.ok [.ag (Cn.one s (cQ.mk eY eW eZ)).cells]
 |_=>.err
def ana:dn
 |[.s s,.ag [.i .i64 eY,.s eW,.sl .ml eZ],.s t,.ag [.i .i64 GG,.s GF,.sl .ml GH]]=>.ok [.ag (Cn.two s (cQ.mk eY eW eZ) t (cQ.mk GG GF GH)).cells]
 |_=>.err
def afP:dn
 |[.u64 v]=>.ok [.s (Cn.high v)]
 |_=>.err
def anp:dn
 |[.u64 b]=>.ok [.b (Rl.number b).2]
 |_=>.err
def anT:dn
 |[.u64 b]=>.ok [.ag (Wq.Uo b).cells]
 |_=>.err
def apm:dn
 |[.sl .fl l,.b e]=>.dX (oG (bF.bV l<=1000000000)&&oG ((Tree.jv l 0 []).2=0)) [.ag (Wq.doc e l).cells]
 |_=>.err
def aaO(n:Nat):dn
 |[.sl .fl l,.b e]=>.dX ((oG (bF.bV l<=1000000000)&&oG ((Tree.jv l 0 []).2=0))&&oG ((2*bF.bV l+1)<n)) [.ag (Wq.doc e l).cells]
 |_=>.err
def aCK:dn
 |[.ag [.i .i64 ji,.u64 jl,.u64 jj,.u64 jh,.s je,.s jg,.i .i64 jf,.sl .bs jd,.sl .fl jk],.b e]=>.dX (oG ((bF.of [] (Val.mk ji jl jj jh je jg jf jd jk)).bJ<=1000000000)&&oG ((Tree.fD (bF.of [] (Val.mk ji jl jj jh je jg jf jd jk)) []).2=0)) [.ag (Wq.val e (Val.mk ji jl jj jh je jg jf jd jk)).cells]
 |_=>.err
def aaT(n:Nat):dn
 |[.ag [.i .i64 ji,.u64 jl,.u64 jj,.u64 jh,.s je,.s jg,.i .i64 jf,.sl .bs jd,.sl .fl jk],.b e]=>.dX ((oG ((bF.of [] (Val.mk ji jl jj jh je jg jf jd jk)).bJ<=1000000000)&&oG ((Tree.fD (bF.of [] (Val.mk ji jl jj jh je jg jf jd jk)) []).2=0))&&oG ((2*(bF.of [] (Val.mk ji jl jj jh je jg jf jd jk)).bJ)<n)) [.ag (Wq.val e (Val.mk ji jl jj jh je jg jf jd jk)).cells]
 |_=>.err
def ao3:dn
 |[.ag [.i .i64 ji,.u64 jl,.u64 jj,.u64 jh,.s je,.s jg,.i .i64 jf,.sl .bs jd,.sl .fl jk],.b e]=>.dX (oG ((bF.of [] (Val.mk ji jl jj jh je jg jf jd jk)).bJ<=1000000000)&&oG ((Tree.fD (bF.of [] (Val.mk ji jl jj jh je jg jf jd jk)) []).2=0)&&Wq.Lf (Val.mk ji jl jj jh je jg jf jd jk)) [.ag (Wq.val e (Val.mk ji jl jj jh je jg jf jd jk)).cells]
 |_=>.err
def age:dn
 |[.ag [.i .i64 ji,.u64 jl,.u64 jj,.u64 jh,.s je,.s jg,.i .i64 jf,.sl .bs jd,.sl .fl jk],.b e]=>.dX (oG ((bF.of [] (Val.mk ji jl jj jh je jg jf jd jk)).bJ<=1000000000)) [.ag (Wq.json e (Val.mk ji jl jj jh je jg jf jd jk)).cells,.ag [.i .i64 (Cn.fC (Val.mk ji jl jj jh je jg jf jd jk)).2,.i .i64 0,.sl .is (Cn.fC (Val.mk ji jl jj jh je jg jf jd jk)).1]]
 |_=>.err
def anq:dn
 |[.ag [.i .i64 ji,.u64 jl,.u64 jj,.u64 jh,.s je,.s jg,.i .i64 jf,.sl .bs jd,.sl .fl jk],.b e]=>.dX (oG ((bF.of [] (Val.mk ji jl jj jh je jg jf jd jk)).bJ<=100000)) [.s (Wq.text e (Val.mk ji jl jj jh je jg jf jd jk)),.ag [.i .i64 (Cn.fC (Val.mk ji jl jj jh je jg jf jd jk)).2,.i .i64 0,.sl .is (Cn.fC (Val.mk ji jl jj jh je jg jf jd jk)).1]]
 |_=>.err
end Go.Eng
set_option maxRecDepth 100000
namespace Go.Eng
open Go.Proofs
@[reducible] def KE:Qe:=[]
@[reducible] def Rz:Zs:=[(130,[(.u64 (0:UInt64)),(.u64 (0:UInt64))]),(254,[(.u64 (0:UInt64)),(.u64 (0:UInt64)),(.u64 (0:UInt64)),(.u64 (0:UInt64))]),(256,[(.u64 (0:UInt64)),(.u64 (0:UInt64))]),(257,[(.u64 (0:UInt64)),(.u64 (0:UInt64)),(.u64 (0:UInt64)),(.u64 (0:UInt64)),(.u64 (0:UInt64)),(.u64 (0:UInt64))])]
def KF:Qf:=[(161,({},.o)),(197,({jE:=2},.s .o (.s .o (.s .o (.s (.s .o (.b (.l [(0,.no),(2,.ptr 62 0),(4,.ptr 64 0),(5,.no),(62,.cl []),(64,.cl [])] .o))) .o))))),(229,({jE:=2},.s .o (.s .o (.s .o (.s .o (.s (.s .o (.b (.l [(4,.ptr 72 0),(6,.ptr 74 0),(7,.ptr 75 0),(8,.ptr 76 0),(9,.no),(72,.cl []),(74,.cl []),(75,.cl []),(76,.cl [])] (.s .o (.s (.b (.s .o (.s (.s .o (.b (.l [(4,.ptr 72 0),(6,.ptr 74 0),(7,.ptr 75 0),(8,.ptr 76 0),(9,.no),(10,.no),(11,.no),(72,.cl []),(74,.cl []),(75,.cl []),(76,.cl [])] .o))) .o))) .o))))) .o)))))),(230,({jE:=2},.s .o (.s .o (.s .o (.s .o (.s (.s .o (.b (.l [(4,.ptr 43 0),(6,.ptr 45 0),(7,.ptr 46 0),(8,.ptr 47 0),(9,.no),(10,.no),(43,.cl []),(45,.cl []),(46,.cl []),(47,.cl [])] .o))) .o)))))),(248,({},.o)),(249,({},.o))]
def yG:bD:=[49,48,48,48,48,48,48,48,48,48,48,48,48,48,48,48,48,48,48,48,48,48,48,48,48,48,48,48,48,48,48,48,48,48,48]
def UQ:List ((UInt64×UInt64)×(UInt64×UInt64)):=[((0,0),(0,0)),((0,1),(0,10)),((0,10),(0,100)),((0,100),(0,1000)),((0,1000),(0,10000))]
def UO:List ((UInt64×UInt64)×(UInt64×UInt64)):=[((0,10000),(0,100000)),((0,100000),(0,1000000)),((0,1000000),(0,10000000)),((0,10000000),(0,100000000)),((0,100000000),(0,1000000000))]
def UN:List ((UInt64×UInt64)×(UInt64×UInt64)):=[((0,1000000000),(0,10000000000)),((0,10000000000),(0,100000000000)),((0,100000000000),(0,1000000000000)),((0,1000000000000),(0,10000000000000)),((0,10000000000000),(0,100000000000000))]
def UM:List ((UInt64×UInt64)×(UInt64×UInt64)):=[((0,100000000000000),(0,1000000000000000)),((0,1000000000000000),(0,10000000000000000)),((0,10000000000000000),(0,100000000000000000)),((0,100000000000000000),(0,1000000000000000000)),((0,1000000000000000000),(0,10000000000000000000))]
def UL:List ((UInt64×UInt64)×(UInt64×UInt64)):=[((0,10000000000000000000),(5,7766279631452241920)),((5,7766279631452241920),(54,3875820019684212736)),((54,3875820019684212736),(542,1864712049423024128)),((542,1864712049423024128),(5421,200376420520689664)),((5421,200376420520689664),(54210,2003764205206896640))]
def UK:List ((UInt64×UInt64)×(UInt64×UInt64)):=[((54210,2003764205206896640),(542101,1590897978359414784)),((542101,1590897978359414784),(5421010,15908979783594147840)),((5421010,15908979783594147840),(54210108,11515845246265065472)),((54210108,11515845246265065472),(542101086,4477988020393345024)),((542101086,4477988020393345024),(5421010862,7886392056514347008))]
def UJ:List ((UInt64×UInt64)×(UInt64×UInt64)):=[((5421010862,7886392056514347008),(54210108624,5076944270305263616)),((54210108624,5076944270305263616),(542101086242,13875954555633532928)),((542101086242,13875954555633532928),(5421010862427,9632337040368467968)),((5421010862427,9632337040368467968),(54210108624275,4089650035136921600)),((54210108624275,4089650035136921600),(542101086242752,4003012203950112768))]
def W0:List ((UInt64×UInt64)×(UInt64×UInt64)):=UQ++UO++UN++UM++UL++UK++UJ
def U9:List ((UInt64×UInt64)×(UInt64×UInt64)):=[((0,10),(0,10)),((0,100),(0,100)),((0,1000),(0,1000)),((0,10000),(0,10000)),((0,100000),(0,100000))]
def U8:List ((UInt64×UInt64)×(UInt64×UInt64)):=[((0,1000000),(0,1000000)),((0,10000000),(0,10000000)),((0,100000000),(0,100000000)),((0,1000000000),(0,1000000000)),((0,10000000000),(0,10000000000))]
def U7:List ((UInt64×UInt64)×(UInt64×UInt64)):=[((0,100000000000),(0,100000000000)),((0,1000000000000),(0,1000000000000)),((0,10000000000000),(0,10000000000000)),((0,100000000000000),(0,100000000000000)),((0,1000000000000000),(0,1000000000000000))]
def U6:List ((UInt64×UInt64)×(UInt64×UInt64)):=[((0,10000000000000000),(0,10000000000000000)),((0,100000000000000000),(0,100000000000000000)),((0,1000000000000000000),(0,1000000000000000000)),((0,10000000000000000000),(0,10000000000000000000)),((5,7766279631452241920),(5,7766279631452241920))]
def U5:List ((UInt64×UInt64)×(UInt64×UInt64)):=[((54,3875820019684212736),(54,3875820019684212736)),((542,1864712049423024128),(542,1864712049423024128)),((5421,200376420520689664),(5421,200376420520689664)),((54210,2003764205206896640),(54210,2003764205206896640)),((542101,1590897978359414784),(542101,1590897978359414784))]
def U4:List ((UInt64×UInt64)×(UInt64×UInt64)):=[((5421010,15908979783594147840),(5421010,15908979783594147840)),((54210108,11515845246265065472),(54210108,11515845246265065472)),((542101086,4477988020393345024),(542101086,4477988020393345024)),((5421010862,7886392056514347008),(5421010862,7886392056514347008)),((54210108624,5076944270305263616),(54210108624,5076944270305263616))]
def U3:List ((UInt64×UInt64)×(UInt64×UInt64)):=[((542101086242,13875954555633532928),(542101086242,13875954555633532928)),((5421010862427,9632337040368467968),(5421010862427,9632337040368467968)),((54210108624275,4089650035136921600),(54210108624275,4089650035136921600)),((542101086242752,4003012203950112768),(542101086242752,4003012203950112768))]
def W5:List ((UInt64×UInt64)×(UInt64×UInt64)):=U9++U8++U7++U6++U5++U4++U3
def KD(p:UInt64×UInt64):TV:=.ag [.u64 p.1,.u64 p.2]
def W4(l:List ((UInt64×UInt64)×(UInt64×UInt64)))(h lo:UInt64)(x:TV):sa:=match l.find? (λp=>p.1.1==h&&p.1.2==lo)with|some p=>.ok [KD p.2,x]|none=>.err
def UT:dn:=λins=>match ins with|[.ag [.u64 h,.u64 l],.u64 b]=>if b=10 then W4 W0 h l (.u64 0)else .err|_=>.err
def UU:dn:=λins=>match ins with|[.ag [.u64 h,.u64 l],.ag [.u64 c,.u64 d]]=>if c=0 then(if d=0 then W4 W5 h l (.b NT)else if d=1 then(if h=0 then(if l=0 then .ok [.ag [.u64 0,.u64 1],.b NT]else .err)else .err)else .err)else .err|_=>.err
def W3(r:sa)(p:UInt64×UInt64)(x:TV):Bool:=match r,x with|.ok [.ag [.u64 h,.u64 l],.u64 c],.u64 0=>(h.toNat==p.1.toNat&&l.toNat==p.2.toNat)&&c.toNat==0|.ok [.ag [.u64 h,.u64 l],.b c],.b NT=>(h.toNat==p.1.toNat&&l.toNat==p.2.toNat)&&!c|_,_=>NT
def US:dn:=λins=>match ins with|[.ag [.u64 h,.u64 l]]=>if h=542101086242752 then(if l=4003012203950112768 then .ok [.s yG]else .err)else .err|_=>.err
def F0:List (Nat×(dn×iB)):=[(135,(US,{})),(229,(UT,{jE:=2})),(230,(UU,{jE:=2}))]
def F1(d:Nat):cE:=Gc PG 300 KE Rz [] [] KF d
def T3(d:Nat):cE:=Gc PG 300 KE Rz [] F0 (KF.filter λr=>!(r.1==229||r.1==230)) d
def UR:PG.follows .mixedOrders=NS/\AL PG KE=NS/\ID PG Rz=NS:=⟨by kernel_rfl,by kernel_rfl,by kernel_rfl⟩
def FZ{r:sa}{p:UInt64×UInt64}{x:TV}(h:W3 r p x=NS):r=.ok [KD p,x]:=by unfold W3 at h;split at h;{simp only[af,beq_iff_eq]at h;rw[aW.1 h.1.1,aW.1 h.1.2,aW.1 (h.2.trans (show(0:Nat)=(0:UInt64).toNat from rfl))];rfl};{simp only[af,beq_iff_eq,Bool.not_eq_true']at h;rw[aW.1 h.1.1,aW.1 h.1.2,h.2];rfl};{cases h}
def Dm(p:(UInt64×UInt64)×(UInt64×UInt64)):Bool:=W3 (((F1 4).fs 229).1 [KD p.1,.u64 10]) p.2 (.u64 0)
def Dn(p:(UInt64×UInt64)×(UInt64×UInt64)):Bool:=W3 (((F1 4).fs 230).1 [KD p.1,.ag [.u64 0,.u64 0]]) p.2 (.b NT)
def UI:UQ.all Dm=NS:=by kernel_rfl
def UH:UO.all Dm=NS:=by kernel_rfl
def UG:UN.all Dm=NS:=by kernel_rfl
def UF:UM.all Dm=NS:=by kernel_rfl
def UE:UL.all Dm=NS:=by kernel_rfl
def UD:UK.all Dm=NS:=by kernel_rfl
def UC:UJ.all Dm=NS:=by kernel_rfl
def U2:U9.all Dn=NS:=by kernel_rfl
def U1:U8.all Dn=NS:=by kernel_rfl
def U0:U7.all Dn=NS:=by kernel_rfl
def UZ:U6.all Dn=NS:=by kernel_rfl
def UY:U5.all Dn=NS:=by kernel_rfl
def UX:U4.all Dn=NS:=by kernel_rfl
def UW:U3.all Dn=NS:=by kernel_rfl
def OA{p:(UInt64×UInt64)×(UInt64×UInt64)}(h:p∈W0):((F1 4).fs 229).1 [KD p.1,.u64 10]=.ok [KD p.2,.u64 0]:=by have e:W0.all Dm=NS:=by{unfold W0;simp only[List.all_append,UI,UH,UG,UF,UE,UD,UC,aX]};exact FZ (aC.1 e p h)
def OB{p:(UInt64×UInt64)×(UInt64×UInt64)}(h:p∈W5):((F1 4).fs 230).1 [KD p.1,.ag [.u64 0,.u64 0]]=.ok [KD p.2,.b NT]:=by have e:W5.all Dn=NS:=by{unfold W5;simp only[List.all_append,U2,U1,U0,UZ,UY,UX,UW,aX]};exact FZ (aC.1 e p h)
theorem OC:((F1 4).fs 230).1 [.ag [.u64 0,.u64 0],.ag [.u64 0,.u64 1]]=.ok [.ag [.u64 0,.u64 1],.b NT]:=FZ (p:=(0,1)) (by kernel_rfl)
theorem RA:(F1 4).fs 229=(((F1 4).fs 229).1,{jE:=2}):=by kernel_rfl
theorem RC:(F1 4).fs 230=(((F1 4).fs 230).1,{jE:=2}):=by kernel_rfl
theorem Oy:((T3 6).fs 161).1 []=.ok [.ag [.u64 542101086242752,.u64 4003012203950112768]]:=by kernel_rfl
theorem UB:(T3 6).fs 161=(((T3 6).fs 161).1,bB):=by kernel_rfl
variable{ρ:OT}
def dH:cE:=cW gr zs []
def apv:Hint:=.s .o (.s .o (.s (.s .o (.b (.l [(3,.fF 800000),(10,.no),(11,.no),(12,.no),(800000,.pv)] .o))) .o))
def ayr(b:List UInt8):OT:=b9 PG dH 89 bB apv [.sl .bs b]
def acJ(x0:List UInt8)(x1 x2:Int)(x3:List UInt8):OT:=cM PG dH 89 bB apv 43 [.pt,.sl .bs x0,.i .i64 x1,.i .i64 x2,.sl .bs x3]
theorem alh(x0:List UInt8)(x1 x2:Int)(x3:List UInt8)(K:∀v1,v1=List.getD x0 x2.toNat 0->∀v2,v2=oK v1 (4:UInt64).toNat->∀v3,v3=List.getD [48,49,50,51,52,53,54,55,56,57,97,98,99,100,101,102] (v2.toNat:Int).toNat 0->∀v4,v4=List.getD [48,49,50,51,52,53,54,55,56,57,97,98,99,100,101,102] ((v1&&&15).toNat:Int).toNat 0->∀v5,v5=x3++([v3,v4]:List UInt8)->∀v6,v6=IntKind.i64.wrap (x2+1)->cond (oG (x2<x1)) (ck (bG x2 x0.length) (ck (bG (v2.toNat:Int) ([48,49,50,51,52,53,54,55,56,57,97,98,99,100,101,102]:bD).length) (ck (bG ((v1&&&15).toNat:Int) ([48,49,50,51,52,53,54,55,56,57,97,98,99,100,101,102]:bD).length) (ck (dP (x3.length+([v3,v4]:List UInt8).length) 1) (acJ x0 x1 v6 v5))))) (BQ [.s x3])=ρ):acJ x0 x1 x2 x3=ρ:=jx (by kernel_rfl) (gH (mf K:):)
theorem ayq(b:List UInt8)(K:∀v1,v1=IntKind.i64.wrap (2*(b.length:Int))->∀v2,v2=List.replicate (0:Int).toNat 0->ck (uu 0 v1 1) (acJ b (b.length:Int) 0 v2)=ρ):ayr b=ρ:=Eq.trans (by kernel_rfl) (lY K:)
def aoI:Hint:=.s .o (.s .o (.s (.s .o (.b (.l [(0,.no),(3,.fF 800000),(4,.no),(800000,.pv)] .o))) .o))
def awx(b:List UInt8):OT:=b9 PG dH 63 bB aoI [.sl .bs b]
def ab5(x0:List UInt8)(x1:Int)(x2:List UInt8):OT:=cM PG dH 63 bB aoI 43 [.sl .bs x0,.pt,.i .i64 x1,.sl .bs x2]
theorem akF(x0:List UInt8)(x1:Int)(x2:List UInt8)(K:∀v1,v1=List.getD x0 x1.toNat (0:UInt8)->∀v2,v2=List.getD ([48,49,50,51,52,53,54,55,56,57,97,98,99,100,101,102]:bD) ((v1/(16:UInt8)).toNat:Int).toNat (0:UInt8)->∀v3,v3=List.getD ([48,49,50,51,52,53,54,55,56,57,97,98,99,100,101,102]:bD) ((v1%(16:UInt8)).toNat:Int).toNat (0:UInt8)->∀v4,v4=x2++([v2,v3]:List UInt8)->∀v5,v5=IntKind.i64.wrap (x1+(1:Int))->cond (oG (x1<(x0.length:Int))) (ck (bG x1 x0.length) (ck (!decide ((16:UInt8)=0)) (ck (bG ((v1/(16:UInt8)).toNat:Int) ([48,49,50,51,52,53,54,55,56,57,97,98,99,100,101,102]:bD).length) (ck (bG x1 x0.length) (ck (!decide ((16:UInt8)=0)) (ck (bG ((v1%(16:UInt8)).toNat:Int) ([48,49,50,51,52,53,54,55,56,57,97,98,99,100,101,102]:bD).length) (ck (dP (x2.length+([v2,v3]:List UInt8).length) 1) (ab5 x0 v5 v4)))))))) (BQ [.s x2])=ρ):ab5 x0 x1 x2=ρ:=jx (by kernel_rfl) (gH K:)
theorem awv(b:List UInt8):awx b=ab5 b 0 ([]:List UInt8):=by kernel_rfl
def aqC(r:Int):OT:=b9 PG dH 173 bB (.o) [.i .i64 r]
theorem aqB(r:Int)(K:∀v1,v1=cond (oG (0<=r)) (oG (r<=1114111)) NT->∀v2,v2=(v1&&(!(oG (r<55296))))->∀v3,v3=cond (oG (r<55296)) NS (oG (57343<r))->ck (!(oG (0<=r))||(oG (0<=r))) (ck (!(oG (0<=r))||(oG (0<=r))) (ck (!v1||v1) (ck (!v1||v1) (ck (!v2||v2) (ck (!v1||(v1&&((oG (r<55296))||v2))) (ck (!v1||v1) (BQ [.b (cond v1 v3 NT)])))))))=ρ):aqC r=ρ:=Eq.trans (by kernel_rfl) (po K:)
def aiT:cE:=cW gr zs [(173,amX,bB)]
def aeM:Hint:=.s .o (.sc [(0,(sc [])),(1,(sc [0,1,4,7,8,9]))] (.s .o (.s .o (.s .o (.j (sc [0,1,4,7,8]) .o .o)))))
def azp(b:List UInt8)(at_:Int):OT:=b9 PG aiT 145 bN aeM [.sl .bs b,.i .i64 at_]
def Yn:OT:=Cp PG aiT 145 bN aeM 3 0 []
def aaw(x0:List UInt8)(x1 x2 x3 x4:Int):OT:=df PG aiT 145 bN aeM 61 [.sl .bs x0,.i .i64 x1,.i .i64 x2,.i .i64 x3,.i .i64 x4]
def acZ(x0:List UInt8)(x1:Int)(x2:Int)(x3:Int)(x4:Int)(x5:Int):OT:=Cp PG aiT 145 bN aeM 3 1 [(.sl .bs x0),(.i .i64 x1),(.i .i64 x2),(.i .i64 x3),(.i .i64 x4),(.i .i64 x5)]
theorem aax:Yn=BQ [.i .i64 0,.i .i64 0]:=((Bh _ _ _ _ _ _ _ _).trans (by kernel_rfl))
theorem alO(x0:List UInt8)(x1 x2 x3 x4:Int)(K:∀v1,v1=IntKind.i64.wrap ((x0.length:Int) -x1)->∀v2,v2=IntKind.i64.wrap (v1 -1)->∀v3,v3=IntKind.i64.wrap (x1+1)->∀v4,v4=List.getD x0 v3.toNat 0->∀v5,v5=!decide ((v4&&&192)=128)->∀v6,v6=IntKind.i64.wrap (x2*2^(min (6:UInt64).toNat (IntKind.i64.bits)))->∀v7,v7=IntKind.i64.wrap ((v4&&&63).toNat:Int)->∀v8,v8=IntKind.i64.wrap (1+1)->∀v9,v9=cond (oG (x2<x4)) NS (!(dE.oO x2))->∀v10,v10=IntKind.i64.wrap (x3+1)->cond (oG (v2<x3)) Yn (cond (oG (1<=x3)) (ck (bG v3 x0.length) (cond v5 Yn (ck (bG v3 x0.length) (acZ x0 x1 (dm .or .i64 v6 v7) x3 x4 v8)))) (ck (!(!(oG (x2<x4)))||(!(oG (x2<x4)))) (ck (!(!(oG (x2<x4)))||(!(oG (x2<x4)))) (ck ((oG (x2<x4))||(!(oG (x2<x4)))) (cond v9 Yn (BQ [.i .i64 x2,.i .i64 v10]))))))=ρ):aaw x0 x1 x2 x3 x4=ρ:=lH (by kernel_rfl) (gH (gH K:):)
theorem aeN(x0:List UInt8)(x1 x2 x3 x4 x5:Int)(K:∀v1,v1=List.getD x0 (IntKind.i64.wrap (x1+x5)).toNat 0->∀v2,v2=!decide ((v1&&&192)=128)->∀v3,v3=IntKind.i64.wrap (x2*2^(min (6:UInt64).toNat (IntKind.i64.bits)))->∀v4,v4=IntKind.i64.wrap ((v1&&&63).toNat:Int)->∀v5,v5=IntKind.i64.wrap (x5+1)->∀v6,v6=cond (oG (x2<x4)) NS (!(dE.oO x2))->∀v7,v7=IntKind.i64.wrap (x3+1)->cond (oG (x5<=x3)) (ck (bG (IntKind.i64.wrap (x1+x5)) x0.length) (cond v2 Yn (ck (bG (IntKind.i64.wrap (x1+x5)) x0.length) (acZ x0 x1 (dm .or .i64 v3 v4) x3 x4 v5)))) (ck (!(!(oG (x2<x4)))||(!(oG (x2<x4)))) (ck (!(!(oG (x2<x4)))||(!(oG (x2<x4)))) (ck ((oG (x2<x4))||(!(oG (x2<x4)))) (cond v6 Yn (BQ [.i .i64 x2,.i .i64 v7])))))=ρ):acZ x0 x1 x2 x3 x4 x5=ρ:=((Bh _ _ _ _ _ _ _ _).trans (by kernel_rfl)).trans (gH (lY K:):)
theorem azn(b:List UInt8)(at_:Int)(K:∀v1,v1=cond (oG (at_<0)) NS (oG ((b.length:Int)<=at_))->∀v2,v2=List.getD b at_.toNat 0->∀v3,v3=IntKind.i64.wrap (v2.toNat:Int)->∀v4,v4=cond (oG (192<=v3)) (oG (v3<224)) NT->∀v5,v5=dm .and .i64 v3 31->∀v6,v6=cond (oG (224<=v3)) (oG (v3<240)) NT->∀v7,v7=dm .and .i64 v3 15->∀v8,v8=cond (oG (240<=v3)) (oG (v3<248)) NT->∀v9,v9=dm .and .i64 v3 7->ck (!(!(oG (at_<0)))||(!(oG (at_<0)))) (ck (!(!(oG (at_<0)))||((!(oG (at_<0)))&&(!(oG (at_<0))))) (ck ((oG (at_<0))||(!(oG (at_<0)))) (cond v1 Yn (ck (bG at_ b.length) (cond (oG (v3<128)) (BQ [.i .i64 v3,.i .i64 1]) (ck (!(oG (192<=v3))||(oG (192<=v3))) (ck (!(oG (192<=v3))||(oG (192<=v3))) (cond v4 (aaw b at_ v5 1 128) (ck (!(oG (224<=v3))||(oG (224<=v3))) (ck (!(oG (224<=v3))||(oG (224<=v3))) (cond v6 (aaw b at_ v7 2 2048) (ck (!(oG (240<=v3))||(oG (240<=v3))) (ck (!(oG (240<=v3))||(oG (240<=v3))) (cond v8 (aaw b at_ v9 3 65536) Yn))))))))))))))=ρ):azp b at_=ρ:=Eq.trans (by kernel_rfl) (gH (qS K:):)
def ape:cE:=cW gr zs [(145,apN,bN)]
def aif:Hint:=.s .o (.j (sc [2,3]) (.b (.l (sc [0,2,3]) .o)) .o)
def axJ(b:List UInt8):OT:=b9 PG ape 115 bN aif [.sl .bs b]
def acv(x0:List UInt8)(x1 x2:Int):OT:=cM PG ape 115 bN aif 9 [.sl .bs x0,.i .i64 x1,.i .i64 x2]
def aex(x0 x1:Int):OT:=df PG ape 115 bN aif 3 [.i .i64 x0,.i .i64 x1]
theorem aey(x0:List UInt8)(x1 x2:Int)(K:∀v1,v1=IntKind.i64.wrap (x1+(dE.mq x0 x1).2)->∀v2,v2=IntKind.i64.wrap (x2+1)->cond (oG (x1<(x0.length:Int))) (ck (oG (x0.length<=1099511627776)) (cond (oG ((dE.mq x0 x1).2=0)) (aex x1 x2) (acv x0 v1 v2))) (aex x1 x2)=ρ):acv x0 x1 x2=ρ:=jx (by kernel_rfl) (lY K:)
theorem aew(x0 x1:Int):aex x0 x1=BQ [.i .i64 x0,.i .i64 x1]:=lH (by kernel_rfl) rfl
theorem axH(b:List UInt8):axJ b=acv b 0 0:=by kernel_rfl
def aCq:cE:=cW gr zs [(115,apd,bN)]
def att(b:List UInt8):OT:=b9 PG aCq 80 bN (.o) [.sl .bs b]
theorem ats(b:List UInt8):att b=ck (oG (b.length<=1099511627776)) (BQ [.i .i64 ((dE.look b).1:Int),.b (oG (((dE.look b).1:Int)=(b.length:Int)))]):=by kernel_rfl
def aiW:Hint:=.s .o (.s .o (.s .o (.s .o (.j (sc [0,1,7,8,9]) .o (.s .o (.s (.s .o (.b (.l (sc [0,1,7,8,9,10]) .o))) .o))))))
def azA(b:List UInt8)(at_:Int):OT:=b9 PG dH 138 bN aiW [.sl .bs b,.i .i64 at_]
def aay(x0:List UInt8)(x1 x2 x3 x4:Int):OT:=df PG dH 138 bN aiW 31 [.sl .bs x0,.i .i64 x1,.i .i64 x2,.i .i64 x3,.i .i64 x4]
def ac0(x0:List UInt8)(x1 x2 x3 x4 x5:Int):OT:=cM PG dH 138 bN aiW 703 [.sl .bs x0,.i .i64 x1,.i .i64 x2,.i .i64 x3,.i .i64 x4,.i .i64 x5]
theorem azy(x0:List UInt8)(x1 x2 x3 x4:Int)(K:∀v1,v1=IntKind.i64.wrap ((x0.length:Int) -x1)->cond (oG (v1<x2)) (BQ [.i .i64 0,.i .i64 0]) (ac0 x0 x1 x2 x3 x4 1)=ρ):aay x0 x1 x2 x3 x4=ρ:=lH (by kernel_rfl) (mf K:)
theorem alT(x0:List UInt8)(x1 x2 x3 x4 x5:Int)(K:∀v1,v1=List.getD x0 (IntKind.i64.wrap (x1+x5)).toNat 0->∀v2,v2=IntKind.i64.wrap (v1.toNat:Int)->∀v3,v3=cond (oG (v2<128)) NS (oG (192<=v2))->∀v4,v4=IntKind.i64.wrap (x3*64)->∀v5,v5=IntKind.i64.wrap ((IntKind.i64.wrap (v4+v2)) -128)->∀v6,v6=IntKind.i64.wrap (x5+1)->∀v7,v7=cond (oG (x3<x4)) NS (oG (1114111<x3))->∀v8,v8=((!v7)&&(oG (55296<=x3)))->∀v9,v9=cond (oG (55296<=x3)) (oG (x3<=57343)) NT->cond (oG (x5<x2)) (ck (bG (IntKind.i64.wrap (x1+x5)) x0.length) (ck (!(!(oG (v2<128)))||(!(oG (v2<128)))) (ck ((oG (v2<128))||(!(oG (v2<128)))) (cond v3 (BQ [.i .i64 0,.i .i64 0]) (ac0 x0 x1 x2 v5 x4 v6))))) (ck (!(!(oG (x3<x4)))||(!(oG (x3<x4)))) (ck ((oG (x3<x4))||(!(oG (x3<x4)))) (ck (!(!v7)||(!v7)) (ck (!(!v7)||(!v7)) (ck (!v8||v8) (ck (!(!v7)||((!v7)&&(!(oG (55296<=x3))||v8))) (ck (v7||(!v7)) (cond (cond v7 NS v9) (BQ [.i .i64 0,.i .i64 0]) (BQ [.i .i64 x3,.i .i64 x2])))))))))=ρ):ac0 x0 x1 x2 x3 x4 x5=ρ:=jx (by kernel_rfl) (gH (qS K:):)
theorem azz(b:List UInt8)(at_:Int)(K:∀v1,v1=cond (oG (at_<0)) NS (oG ((b.length:Int)<=at_))->∀v2,v2=List.getD b at_.toNat 0->∀v3,v3=IntKind.i64.wrap (v2.toNat:Int)->∀v4,v4=cond (oG (192<=v3)) (oG (v3<224)) NT->∀v5,v5=IntKind.i64.wrap (v3 -192)->∀v6,v6=cond (oG (224<=v3)) (oG (v3<240)) NT->∀v7,v7=IntKind.i64.wrap (v3 -224)->∀v8,v8=cond (oG (240<=v3)) (oG (v3<248)) NT->∀v9,v9=IntKind.i64.wrap (v3 -240)->ck (!(!(oG (at_<0)))||(!(oG (at_<0)))) (ck (!(!(oG (at_<0)))||((!(oG (at_<0)))&&(!(oG (at_<0))))) (ck ((oG (at_<0))||(!(oG (at_<0)))) (cond v1 (BQ [.i .i64 0,.i .i64 0]) (ck (bG at_ b.length) (cond (oG (v3<128)) (BQ [.i .i64 v3,.i .i64 1]) (ck (!(oG (192<=v3))||(oG (192<=v3))) (ck (!(oG (192<=v3))||(oG (192<=v3))) (cond v4 (aay b at_ 2 v5 128) (ck (!(oG (224<=v3))||(oG (224<=v3))) (ck (!(oG (224<=v3))||(oG (224<=v3))) (cond v6 (aay b at_ 3 v7 2048) (ck (!(oG (240<=v3))||(oG (240<=v3))) (ck (!(oG (240<=v3))||(oG (240<=v3))) (cond v8 (aay b at_ 4 v9 65536) (BQ [.i .i64 0,.i .i64 0])))))))))))))))=ρ):azA b at_=ρ:=Eq.trans (by kernel_rfl) (gH (qS K:):)
def axB:cE:=cW gr zs [(138,apP,bN)]
def ao9:Hint:=.s .o (.s (.s .o (.b (.l (sc [0,4]) .o))) .o)
def axA(b:List UInt8):OT:=b9 PG axB 106 bN ao9 [.sl .bs b]
def acs(x0:List UInt8)(x1:Int):OT:=cM PG axB 106 bN ao9 21 [.sl .bs x0,.i .i64 x1]
theorem akX(x0:List UInt8)(x1:Int)(K:∀v1,v1=IntKind.i64.wrap (x1+(dE.mq x0 x1).2)->cond (oG (x1<(x0.length:Int))) (ck (oG (x0.length<=1099511627776)) (cond (oG ((dE.mq x0 x1).2=0)) (BQ [.i .i64 x1,.b NT]) (acs x0 v1))) (BQ [.i .i64 (x0.length:Int),.b NS])=ρ):acs x0 x1=ρ:=jx (by kernel_rfl) (mf K:)
theorem axy(b:List UInt8):axA b=acs b 0:=by kernel_rfl
def aCH:cE:=cW gr zs [(106,apa,bN)]
def awh(s:bD):OT:=b9 PG aCH 70 bB (.o) [.s s]
theorem awg(s:bD):awh s=ck (qQ s.length) (ck (oG (s.length<=1099511627776)) (BQ [.b (dE.whole s)])):=by kernel_rfl
def apn:Hint:=.s .o (.s (.s .o (.b (.l (sc [0,3]) .o))) .o)
def ax8(s:bD):OT:=b9 PG dH 92 bB apn [.s s]
def acG(x0:bD)(x1:Int):OT:=cM PG dH 92 bB apn 21 [.s x0,.i .i64 x1]
theorem ala(x0:bD)(x1:Int)(K:∀v1,v1=List.getD x0 x1.toNat 0->∀v2,v2=IntKind.i64.wrap (x1+1)->cond (oG (x1<(x0.length:Int))) (ck (bG x1 x0.length) (cond (oG (v1=0)) (BQ [.b NS]) (acG x0 v2))) (BQ [.b NT])=ρ):acG x0 x1=ρ:=jx (by kernel_rfl) (lY K:)
theorem ax6(s:bD):ax8 s=acG s 0:=by kernel_rfl
def avU(s:bD)(c:UInt8):OT:=b9 PG dH 163 bB (.o) [.s s,.u8 c]
theorem avT(s:bD)(c:UInt8):avU s c=BQ [.i .i64 (Lib.indexByte s c)]:=by kernel_rfl
def aCj:cE:=cW gr zs [(163,ahy,bB)]
def asU(s t:bD):OT:=b9 PG aCj 146 bB (.o) [.s s,.s t]
theorem asT(s t:bD)(K:∀v1,v1=cond (oG ((t.length:Int)=0)) NS (oG (t=s))->∀v2,v2=List.getD t (0:Int).toNat 0->ck (!(!(oG ((t.length:Int)=0)))||((!(oG ((t.length:Int)=0)))&&(!(oG ((t.length:Int)=0))))) (ck ((oG ((t.length:Int)=0))||(!(oG ((t.length:Int)=0)))) (cond v1 (BQ [.i .i64 0]) (cond (oG ((t.length:Int)=1)) (ck (bG 0 t.length) (BQ [.i .i64 (Lib.indexByte s v2)])) (cond (oG ((s.length:Int)<=(t.length:Int))) (BQ [.i .i64 (-1)]) Ku))))=ρ):asU s t=ρ:=Eq.trans (by kernel_rfl) (lY K:)
def aCk:cE:=cW gr zs [(146,anu,bB)]
def asX(s t:bD):OT:=b9 PG aCk 116 bB (.o) [.s s,.s t]
theorem asW(s t:bD)(K:∀v1,v1=Lib.indexByte s (t.getD 0 0)->ck (oG (t.length=1)) (BQ [.i .i64 v1])=ρ):asX s t=ρ:=Eq.trans (by kernel_rfl) (mf K:)
def aCz:cE:=cW gr zs [(116,anv,bB)]
def aue(s t:bD):OT:=b9 PG aCz 81 bB (.o) [.s s,.s t]
theorem aud(s t:bD)(K:∀v1,v1=Lib.indexByte s (t.getD 0 0)->ck (oG (t.length=1)) (BQ [.b (oG (0<=v1))])=ρ):aue s t=ρ:=Eq.trans (by kernel_rfl) (mf K:)
def aty(l:List Int):OT:=b9 PG dH 40 abA (.o) [.sl .is l]
theorem atx(l:List Int):aty l=cond (List.isEmpty l) (both (BQ [.sl .is ([]:List Int),.sl .is l]) (ck (dP (([]:List Int).length+l.length) 8) (BQ [.sl .is (([]:List Int)++l),.sl .is l]))) (ck (dP (([]:List Int).length+l.length) 8) (BQ [.sl .is (([]:List Int)++l),.sl .is l])):=by kernel_rfl
def as9(k:Int):OT:=b9 PG dH 39 bB (.o) [.i .i64 k]
theorem as8(k:Int)(K:∀(v1:Bool)(h1:v1=(cond (oG (k<(0:Int))) NS (oG ((20:Int)<=k))))(v2:bD)(h2:v2=(List.getD [([]:bD),([100,111,117,98,108,101]:bD),([115,116,114,105,110,103]:bD),([100,111,99,117,109,101,110,116]:bD),([97,114,114,97,121]:bD),([98,105,110,97,114,121]:bD),([117,110,100,101,102,105,110,101,100]:bD),([111,98,106,101,99,116,105,100]:bD),([98,111,111,108]:bD),([100,97,116,101]:bD),([110,117,108,108]:bD),([114,101,103,101,120]:bD),([112,111,105,110,116,101,114]:bD),([99,111,100,101]:bD),([115,121,109,98,111,108]:bD),([115,99,111,112,101,100]:bD),([105,110,116,51,50]:bD),([116,105,109,101,115,116,97,109,112]:bD),([105,110,116,54,52]:bD),([100,101,99,105,109,97,108]:bD)] ((k).toNat) ([]:bD))),cond (oG (k=(127:Int))) (BQ [(.s ([109,97,120,107,101,121]:bD))]) (cond (oG (k=(255:Int))) (BQ [(.s ([109,105,110,107,101,121]:bD))]) (ck (!(!(oG (k<(0:Int))))||(!(oG (k<(0:Int))))) (ck ((oG (k<(0:Int)))||(!(oG (k<(0:Int))))) (cond v1 (BQ [(.s [])]) (ck (bG k 20) (ck (oG ((k).toNat<20)) (BQ [(.s v2)])))))))=ρ):as9 k=ρ:=Eq.trans (by kernel_rfl) (K _ rfl _ rfl)
def adZ:Hint:=.s .o (.s .o (.j [(1,.ptr 116 0),(3,.no),(116,.cl [])] (.s .o (.b (.j [(1,.ptr 116 0),(3,.no),(5,.no),(6,.no),(116,.cl [])] .o (.s .o (.s .o (.s .o (.s .o (.s .o (.s .o (.s .o (.j [(1,.ptr 116 0),(3,.no),(5,.no),(28,.no),(116,.cl [])] .o (.s .o (.s .o (.s .o (.s .o (.s .o (.s .o (.s .o (.s .o (.s .o (.j [(1,.ptr 116 0),(3,.no),(5,.no),(64,.no),(116,.cl [])] .o .o))))))))))))))))))))) .o))
def aBf(v:Val):OT:=b9 PG dH 41 bB adZ [.ag v.cells]
def abm(x0:Bool)(x1:Int)(x2:Bool)(x3:Val):OT:=df PG dH 41 bB adZ 43 [.pt,.b x0,.i .i64 x1,.b x2,.ag x3.cells]
def WJ(x0:Bool)(x1:Val):OT:=df PG dH 41 bB adZ 7 [.pt,.b x0,.ag x1.cells]
def abl(x0:Bool)(x1:Int)(x2:Bool)(x3:Val):OT:=df PG dH 41 bB adZ 16363 [.pt,.b x0,.i .i64 x1,.b x2,.ag x3.cells]
def abk(x0:Bool)(x1:Int)(x2:Bool)(x3:Val):OT:=df PG dH 41 bB adZ 16777195 [.pt,.b x0,.i .i64 x1,.b x2,.ag x3.cells]
theorem aBc(x0:Bool)(x1:Int)(x2:Bool)(x3:Val):abm x0 x1 x2 x3=cond x2 (WJ x0 (Val.mk x3.kind 0 x3.high x3.low x3.text x3.more x3.sub x3.bytes x3.kids)) (cond (oG (x1=16)) (WJ (oG (x3.bits<4294967296)) (Val.mk x3.kind 0 x3.high x3.low x3.text x3.more x3.sub x3.bytes x3.kids)) (cond (oG (x1=8)) (WJ (oG (x3.bits<2)) (Val.mk x3.kind 0 x3.high x3.low x3.text x3.more x3.sub x3.bytes x3.kids)) (cond (oG (x1=19)) (WJ x0 (Val.mk x3.kind x3.bits 0 0 x3.text x3.more x3.sub x3.bytes x3.kids)) (cond (oG (x1=2)) (abl x0 x1 (oG (x1=2)) x3) (cond (oG (x1=13)) (abl x0 x1 (oG (x1=13)) x3) (abl x0 x1 (oG (x1=14)) x3)))))):=lH (by kernel_rfl) rfl
theorem aBd(x0:Bool)(x1:Val)(K:∀v1,v1=cond x0 (oG (x1.bits=0)) NT->∀v2,v2=cond v1 (oG (x1.high=0)) NT->∀v3,v3=cond v2 (oG (x1.low=0)) NT->∀v4,v4=cond v3 (oG (x1.text=[])) NT->∀v5,v5=cond v4 (oG (x1.more=[])) NT->∀v6,v6=cond v5 (oG (x1.sub=0)) NT->∀v7,v7=(x1.bytes.length:Int)->∀v8,v8=cond v6 (oG (v7=0)) NT->∀v9,v9=(x1.kids.length:Int)->∀v10,v10=cond v8 (oG (v9=0)) NT->ck (!x0||x0) (ck (!x0||x0) (ck (!x0||x0) (ck (!v1||v1) (ck (!v1||v1) (ck (!v1||v1) (ck (!v2||v2) (ck (!v2||v2) (ck (!v2||v2) (ck (!v3||v3) (ck (!v3||v3) (ck (!v3||v3) (ck (!v4||v4) (ck (!v4||v4) (ck (!v4||v4) (ck (!v5||v5) (ck (!v5||v5) (ck (!v5||v5) (ck (!v6||v6) (ck (!v6||v6) (ck (!v6||v6) (ck (!v6||v6) (ck (!v8||v8) (ck (!v8||v8) (ck (!v8||v8) (ck (!v8||v8) (BQ [.b v10]))))))))))))))))))))))))))=ρ):WJ x0 x1=ρ:=lH (by kernel_rfl) (gH (gH K:):)
theorem aBb(x0:Bool)(x1:Int)(x2:Bool)(x3:Val)(K:∀v1,v1=cond (oG (0<=x3.sub)) (oG (x3.sub<=255)) NT->∀v2,v2=(x3.bytes.length:Int)->cond x2 (WJ x0 (Val.mk x3.kind x3.bits x3.high x3.low [] x3.more x3.sub x3.bytes x3.kids)) (cond (oG (x1=11)) (WJ x0 (Val.mk x3.kind x3.bits x3.high x3.low [] [] x3.sub x3.bytes x3.kids)) (cond (oG (x1=5)) (ck (!(oG (0<=x3.sub))||(oG (0<=x3.sub))) (ck (!(oG (0<=x3.sub))||(oG (0<=x3.sub))) (ck (!(oG (0<=x3.sub))||(oG (0<=x3.sub))) (WJ v1 (Val.mk x3.kind x3.bits x3.high x3.low x3.text x3.more 0 [] x3.kids))))) (cond (oG (x1=7)) (WJ (oG (v2=12)) (Val.mk x3.kind x3.bits x3.high x3.low x3.text x3.more x3.sub [] x3.kids)) (cond (oG (x1=12)) (WJ (oG (v2=12)) (Val.mk x3.kind x3.bits x3.high x3.low [] x3.more x3.sub [] x3.kids)) (cond (oG (x1=3)) (abk x0 x1 (oG (x1=3)) x3) (abk x0 x1 (oG (x1=4)) x3))))))=ρ):abl x0 x1 x2 x3=ρ:=lH (by kernel_rfl) (lY K:)
theorem aA9(x0:Bool)(x1:Int)(x2:Bool)(x3:Val):abk x0 x1 x2 x3=cond x2 (WJ x0 (Val.mk x3.kind x3.bits x3.high x3.low x3.text x3.more x3.sub x3.bytes [])) (cond (oG (x1=15)) (WJ x0 (Val.mk x3.kind x3.bits x3.high x3.low [] x3.more x3.sub x3.bytes [])) (WJ x0 x3)):=lH (by kernel_rfl) rfl
theorem aBe(v:Val):aBf v=cond (oG (v.kind=1)) (abm NS v.kind (oG (v.kind=1)) v) (cond (oG (v.kind=9)) (abm NS v.kind (oG (v.kind=9)) v) (cond (oG (v.kind=17)) (abm NS v.kind (oG (v.kind=17)) v) (abm NS v.kind (oG (v.kind=18)) v))):=by kernel_rfl
def aCC:cE:=cW gr zs [(80,agE,bN),(81,anQ,bB)]
def auq(s:bD)(plain:Bool):OT:=b9 PG aCC 42 bB (.o) [.s s,.b plain]
theorem aup(s:bD)(plain:Bool)(K:∀v1,v1=cond plain (oG (0<=Lib.indexByte s (([0]:bD).getD 0 0))) NT->∀v2,v2=cond (dE.whole s) (!v1) NT->ck (qQ s.length) (ck (oG (s.length<=1099511627776)) (ck (!(dE.whole s)||(dE.whole s)) (ck (!((dE.whole s)&&plain)||(((dE.whole s)&&plain)&&(oG (([0]:bD).length=1)))) (ck (!(dE.whole s)||((dE.whole s)&&(!plain||((dE.whole s)&&plain)))) (ck (!(dE.whole s)||(dE.whole s)) (ck (!(dE.whole s)||(dE.whole s)) (BQ [.b v2])))))))=ρ):auq s plain=ρ:=Eq.trans (by kernel_rfl) (lY K:)
def aAc(n:Nat):cE:=cW gr zs [(28,aa9 n,aaz),(39,anA,bB),(40,agH,abA),(41,aqe,bB),(42,anU,bB)] [139]
def ap3:Hint:=.s .o (.s .o (.s .o (.s (.s .o (.b (.l [(2,.fF 1000002),(50,.no),(51,.no),(52,.no),(1000002,.pv)] .o))) .o)))
def aAb(n:Nat)(v:Val)(name:bD)(path:List Int):OT:=b9 PG (aAc n) 28 aaz ap3 [.ag v.cells,.s name,.sl .is path]
def adf(n:Nat)(x0:List bF)(x1 x2:Int)(x3:List Int):OT:=cM PG (aAc n) 28 aaz ap3 87 [.pt,.sl .fl x0,.i .i64 x1,.i .i64 x2,.sl .is x3]
theorem al8(n:Nat)(x0:List bF)(x1 x2:Int)(x3:List Int)(K:∀v1,v1=List.getD x0 x2.toNat (fE.fu .fl)->∀v2,v2=(Tree.fD (bF.of v1.name v1.val) (x3++([x2]:List Int))).1->∀v3,v3=(Tree.fD (bF.of v1.name v1.val) (x3++([x2]:List Int))).2->∀v4,v4=IntKind.i64.wrap (x2+1)->cond (oG (x2<x1)) (ck (bG x2 x0.length) (ck (dP (x3.length+([x2]:List Int).length) 8) (ck ((oG ((bF.of v1.name v1.val).bJ+(x3++([x2]:List Int)).length<=1099511627776))&&oG ((bF.of v1.name v1.val).bJ<n)) (cond (!decide (v3=0)) (BQ [.sl .is v2,.i .i64 v3,.sl .is x3]) (adf n x0 x1 v4 x3))))) (BQ [.sl .is ([]:List Int),.i .i64 0,.sl .is x3])=ρ):adf n x0 x1 x2 x3=ρ:=jx (by kernel_rfl) (qS K:)
theorem aAa(n:Nat)(v:Val)(name:bD)(path:List Int)(K:∀v1,v1=Tree.ft v.text (oG (v.kind=11))->∀v2,v2=Tree.ft v.more (oG (v.kind=11))->∀v3,v3=cond (cond (!v1) NS (!v2)) NS (!(Tree.ft name NS))->∀v4,v4=(v.kids.length:Int)->cond (oG ((Tree.name v.kind)=[])) (ck (dP path.length 8) (BQ [.sl .is path,.i .i64 5,.sl .is path])) (cond (!(Tree.ia v)) (ck (dP path.length 8) (BQ [.sl .is path,.i .i64 1,.sl .is path])) (ck (oG (v.text.length<=1099511627776)) (ck (!(!(!v1))||(!(!v1))) (ck (!(!(!v1))||(((!(!v1))&&(!(!v1)))&&(oG (v.more.length<=1099511627776)))) (ck (!(!(!v1))||(!(!v1))) (ck ((!v1)||(!(!v1))) (ck (!(!(cond (!v1) NS (!v2)))||((!(cond (!v1) NS (!v2)))&&(oG (name.length<=1099511627776)))) (ck (!(!(cond (!v1) NS (!v2)))||(!(cond (!v1) NS (!v2)))) (ck ((cond (!v1) NS (!v2))||(!(cond (!v1) NS (!v2)))) (cond v3 (ck (dP path.length 8) (BQ [.sl .is path,.i .i64 4,.sl .is path])) (adf n v.kids v4 0 path)))))))))))=ρ):aAb n v name path=ρ:=Eq.trans (by kernel_rfl) (qS K:)
def aCA:cE:=cW gr zs [(28,ap4,aaz)]
def aug(v:Val):OT:=b9 PG aCA 17 bN (.o) [.ag v.cells]
theorem auf(v:Val)(K:∀v1,v1=(Tree.fD (bF.of [] v) ([]:List Int)).1->∀v2,v2=(Tree.fD (bF.of [] v) ([]:List Int)).2->ck (oG ((bF.of [] v).bJ+([]:List Int).length<=1099511627776)) (BQ [.sl .is v1,.i .i64 v2])=ρ):aug v=ρ:=Eq.trans (by kernel_rfl) (lY K:)
def ar9(a b:List UInt8):OT:=b9 PG dH 139 bB (.o) [.sl .bs a,.sl .bs b]
theorem ar8(a b:List UInt8):ar9 a b=BQ [.b (oG (a=b))]:=by kernel_rfl
def atp:OT:=b9 PG dH 124 bB (.o) []
theorem ato(K:∀v1,v1=([1,2,3,4,5,6,7,8,9,10,11,12,13,14,15,16,17,18,19,127,255]:List Int)->BQ [.sl .is v1]=ρ):atp=ρ:=Eq.trans (by kernel_rfl) (mf K:)
def axw:cE:=cW gr zs [(124,anE,bB)]
def ao7:Hint:=.s .o (.s .o (.s .o (.s (.s .o (.b (.l [(0,.no),(3,.fF 800000),(800000,.pv),(4,.no),(5,.no)] .o))) .o)))
def axv(k:Int):OT:=b9 PG axw 90 bB ao7 [.i .i64 k]
def acr(x0:Int)(x1:List bD)(x2:List Int)(x3:Int):OT:=cM PG axw 90 bB ao7 87 [.i .i64 x0,.pt,.sl .ss x1,.sl .is x2,.i .i64 x3]
theorem akW(x0:Int)(x1:List bD)(x2:List Int)(x3:Int)(K:∀v1,v1=List.getD x2 x3.toNat 0->∀v2,v2=List.getD x1 x3.toNat []->∀v3,v3=IntKind.i64.wrap (x3+1)->cond (oG (x3<(x2.length:Int))) (ck (bG x3 x2.length) (cond (oG (v1=x0)) (ck (bG x3 x1.length) (ck (oG (x3.toNat<x1.length)) (BQ [.s v2]))) (acr x0 x1 x2 v3))) (BQ [.s []])=ρ):acr x0 x1 x2 x3=ρ:=jx (by kernel_rfl) (po K:)
theorem axu(k:Int)(K:∀v1,v1=([[100,111,117,98,108,101],[115,116,114,105,110,103],[100,111,99,117,109,101,110,116],[97,114,114,97,121],[98,105,110,97,114,121],[117,110,100,101,102,105,110,101,100],[111,98,106,101,99,116,105,100],[98,111,111,108],[100,97,116,101],[110,117,108,108],[114,101,103,101,120],[112,111,105,110,116,101,114],[99,111,100,101],[115,121,109,98,111,108],[115,99,111,112,101,100],[105,110,116,51,50],[116,105,109,101,115,116,97,109,112],[105,110,116,54,52],[100,101,99,105,109,97,108],[109,97,120,107,101,121],[109,105,110,107,101,121]]:List bD)->acr k v1 (Tree.kinds) 0=ρ):axv k=ρ:=Eq.trans (by kernel_rfl) (mf K:)
def adW:Hint:=.s .o (.j (sc [2,3,4,5,6,7,8]) (.s .o (.b (.j (sc [2,3,4,5,6,7,8,9,10]) .o (.s .o (.s .o (.s .o (.j (sc [2,3,4,5,6,7,8,9,19]) .o (.s .o (.s .o (.s .o (.s .o (.s .o (.s .o (.s .o (.s .o (.s .o (.j (sc [2,3,4,5,6,7,8,9,31]) .o .o))))))))))))))))) .o)
def aAN(k:Int):OT:=b9 PG dH 91 aaf adW [.i .i64 k]
def aag(x0 x1 x2 x3 x4 x5 x6:Bool)(x7:Int)(x8:Bool):OT:=df PG dH 91 aaf adW 21 [.b x0,.b x1,.b x2,.b x3,.b x4,.b x5,.b x6,.i .i64 x7,.b x8]
def WO(x0 x1 x2 x3 x4 x5 x6:Bool):OT:=df PG dH 91 aaf adW 3 [.b x0,.b x1,.b x2,.b x3,.b x4,.b x5,.b x6]
def adp(x0 x1 x2 x3 x4 x5 x6:Bool)(x7:Int)(x8:Bool):OT:=df PG dH 91 aaf adW 501 [.b x0,.b x1,.b x2,.b x3,.b x4,.b x5,.b x6,.i .i64 x7,.b x8]
def aeV(x0 x1 x2 x3 x4 x5 x6:Bool)(x7:Int)(x8:Bool):OT:=df PG dH 91 aaf adW 524277 [.b x0,.b x1,.b x2,.b x3,.b x4,.b x5,.b x6,.i .i64 x7,.b x8]
theorem aAK(x0 x1 x2 x3 x4 x5 x6:Bool)(x7:Int)(x8:Bool):aag x0 x1 x2 x3 x4 x5 x6 x7 x8=cond x8 (WO NS x1 x2 x3 x4 x5 x6) (cond (oG (x7=19)) (WO x0 NS x2 x3 x4 x5 x6) (cond (oG (x7=2)) (adp x0 x1 x2 x3 x4 x5 x6 x7 (oG (x7=2))) (cond (oG (x7=13)) (adp x0 x1 x2 x3 x4 x5 x6 x7 (oG (x7=13))) (adp x0 x1 x2 x3 x4 x5 x6 x7 (oG (x7=14)))))):=lH (by kernel_rfl) rfl
theorem aAL(x0 x1 x2 x3 x4 x5 x6:Bool):WO x0 x1 x2 x3 x4 x5 x6=BQ [.b x0,.b x1,.b x2,.b x3,.b x4,.b x5,.b x6]:=lH (by kernel_rfl) rfl
theorem aAI(x0 x1 x2 x3 x4 x5 x6:Bool)(x7:Int)(x8:Bool):adp x0 x1 x2 x3 x4 x5 x6 x7 x8=cond x8 (WO x0 x1 NS x3 x4 x5 x6) (cond (oG (x7=11)) (WO x0 x1 NS NS x4 x5 x6) (cond (oG (x7=5)) (WO x0 x1 x2 x3 NS NS x6) (cond (oG (x7=7)) (WO x0 x1 x2 x3 x4 NS x6) (cond (oG (x7=12)) (WO x0 x1 NS x3 x4 NS x6) (cond (oG (x7=3)) (aeV x0 x1 x2 x3 x4 x5 x6 x7 (oG (x7=3))) (aeV x0 x1 x2 x3 x4 x5 x6 x7 (oG (x7=4)))))))):=lH (by kernel_rfl) rfl
theorem aAH(x0 x1 x2 x3 x4 x5 x6:Bool)(x7:Int)(x8:Bool):aeV x0 x1 x2 x3 x4 x5 x6 x7 x8=cond x8 (WO x0 x1 x2 x3 x4 x5 NS) (cond (oG (x7=15)) (WO x0 x1 NS x3 x4 x5 NS) (WO x0 x1 x2 x3 x4 x5 x6)):=lH (by kernel_rfl) rfl
theorem aAM(k:Int):aAN k=cond (oG (k=1)) (aag NT NT NT NT NT NT NT k (oG (k=1))) (cond (oG (k=9)) (aag NT NT NT NT NT NT NT k (oG (k=9))) (cond (oG (k=17)) (aag NT NT NT NT NT NT NT k (oG (k=17))) (cond (oG (k=18)) (aag NT NT NT NT NT NT NT k (oG (k=18))) (cond (oG (k=16)) (aag NT NT NT NT NT NT NT k (oG (k=16))) (aag NT NT NT NT NT NT NT k (oG (k=8))))))):=by kernel_rfl
def aCw:cE:=cW gr zs [(70,adP,bB),(90,ao8,bB),(91,aqc,aaf),(92,aip,bB)]
def atN(v:Val):OT:=b9 PG aCw 51 bB (.o) [.ag v.cells]
theorem atM(v:Val)(K:∀v1,v1=!(Tree.kT 0 v.kind)->∀v2,v2=cond v1 (!decide (v.bits=0)) NT->∀v3,v3=!(Tree.kT 1 v.kind)->∀v4,v4=(((!v2)&&v3)&&(!(!decide (v.high=0))))->∀v5,v5=cond (!decide (v.high=0)) NS (!decide (v.low=0))->∀v6,v6=cond v2 NS (cond v3 v5 NT)->∀v7,v7=!(Tree.kT 2 v.kind)->∀v8,v8=cond v7 (!decide (v.text=[])) NT->∀v9,v9=!(Tree.kT 3 v.kind)->∀v10,v10=cond v9 (!decide (v.more=[])) NT->∀v11,v11=cond (cond v6 NS v8) NS v10->∀v12,v12=!(Tree.kT 4 v.kind)->∀jw,jw=cond v12 (!decide (v.sub=0)) NT->∀iI,iI=!(Tree.kT 5 v.kind)->∀iO,iO=((!(cond v11 NS jw))&&iI)->∀mo,mo=(v.bytes.length:Int)->∀ug,ug=cond iI (oG (0<mo)) NT->∀o8,o8=cond (cond v11 NS jw) NS ug->∀sj,sj=!(Tree.kT 6 v.kind)->∀v20,v20=(v.kids.length:Int)->∀v21,v21=cond sj (oG (0<v20)) NT->∀v22,v22=cond (oG (v.kind=16)) (oG (4294967296<=v.bits)) NT->∀FU,FU=((!v22)&&(oG (v.kind=8)))->∀v24,v24=cond (oG (v.kind=8)) (oG (1<v.bits)) NT->∀v25,v25=cond (cond v22 NS v24) NS (oG (v.sub<0))->∀r8,r8=cond v25 NS (oG (255<v.sub))->∀v27,v27=((!r8)&&(!(oG (v.kind=7))))->∀v28,v28=cond (oG (v.kind=7)) NS (oG (v.kind=12))->∀N7,N7=cond v28 (!decide (mo=12)) NT->∀v30,v30=!(dE.whole v.text)->∀v31,v31=!(dE.whole v.more)->∀Kl,Kl=((!(cond v30 NS v31))&&(oG (v.kind=11)))->∀v33,v33=(Kl&&(!(dE.zero v.text)))->∀YM,YM=cond (dE.zero v.text) NS (dE.zero v.more)->∀v35,v35=cond (oG (v.kind=11)) YM NT->∀v36,v36=cond (cond v30 NS v31) NS v35->cond (oG ((Tree.name v.kind)=[])) (BQ [.i .i64 5]) (ck (!v1||v1) (ck (!v1||v1) (ck (!v1||v1) (ck (!(!v2)||(!v2)) (ck (!(!v2)||(!v2)) (ck (!((!v2)&&v3)||((!v2)&&v3)) (ck (!((!v2)&&v3)||((!v2)&&v3)) (ck (!((!v2)&&v3)||((!v2)&&v3)) (ck (!v4||v4) (ck (!v4||v4) (ck (!((!v2)&&v3)||(((!v2)&&v3)&&((!decide (v.high=0))||v4))) (ck (!(!v2)||((!v2)&&(!v3||((!v2)&&v3)))) (ck (v2||(!v2)) (ck (!(!v6)||(!v6)) (ck (!(!v6)||(!v6)) (ck (!((!v6)&&v7)||((!v6)&&v7)) (ck (!((!v6)&&v7)||((!v6)&&v7)) (ck (!(!v6)||((!v6)&&(!v7||((!v6)&&v7)))) (ck (v6||(!v6)) (ck (!(!(cond v6 NS v8))||(!(cond v6 NS v8))) (ck (!(!(cond v6 NS v8))||(!(cond v6 NS v8))) (ck (!((!(cond v6 NS v8))&&v9)||((!(cond v6 NS v8))&&v9)) (ck (!((!(cond v6 NS v8))&&v9)||((!(cond v6 NS v8))&&v9)) (ck (!(!(cond v6 NS v8))||((!(cond v6 NS v8))&&(!v9||((!(cond v6 NS v8))&&v9)))) (ck ((cond v6 NS v8)||(!(cond v6 NS v8))) (ck (!(!v11)||(!v11)) (ck (!(!v11)||(!v11)) (ck (!((!v11)&&v12)||((!v11)&&v12)) (ck (!((!v11)&&v12)||((!v11)&&v12)) (ck (!(!v11)||((!v11)&&(!v12||((!v11)&&v12)))) (ck (v11||(!v11)) (ck (!(!(cond v11 NS jw))||(!(cond v11 NS jw))) (ck (!(!(cond v11 NS jw))||(!(cond v11 NS jw))) (ck (!iO||iO) (ck (!iO||iO) (ck (!iO||iO) (ck (!(!(cond v11 NS jw))||((!(cond v11 NS jw))&&(!iI||iO))) (ck ((cond v11 NS jw)||(!(cond v11 NS jw))) (ck (!(!o8)||(!o8)) (ck (!(!o8)||(!o8)) (ck (!((!o8)&&sj)||((!o8)&&sj)) (ck (!((!o8)&&sj)||((!o8)&&sj)) (ck (!((!o8)&&sj)||((!o8)&&sj)) (ck (!(!o8)||((!o8)&&(!sj||((!o8)&&sj)))) (ck (o8||(!o8)) (cond (cond o8 NS v21) (BQ [.i .i64 1]) (ck (!(oG (v.kind=16))||(oG (v.kind=16))) (ck (!(oG (v.kind=16))||(oG (v.kind=16))) (ck (!(oG (v.kind=16))||(oG (v.kind=16))) (ck (!(!v22)||(!v22)) (ck (!(!v22)||(!v22)) (ck (!(!v22)||(!v22)) (ck (!FU||FU) (ck (!FU||FU) (ck (!(!v22)||((!v22)&&(!(oG (v.kind=8))||FU))) (ck (v22||(!v22)) (ck (!(!(cond v22 NS v24))||(!(cond v22 NS v24))) (ck (!(!(cond v22 NS v24))||(!(cond v22 NS v24))) (ck ((cond v22 NS v24)||(!(cond v22 NS v24))) (ck (!(!v25)||(!v25)) (ck (!(!v25)||(!v25)) (ck (v25||(!v25)) (ck (!(!r8)||(!r8)) (ck (!(!r8)||(!r8)) (ck (!(!r8)||(!r8)) (ck (!v27||v27) (ck (!v27||v27) (ck (!(!r8)||((!r8)&&((oG (v.kind=7))||v27))) (ck (!(!r8)||(!r8)) (ck (!((!r8)&&v28)||((!r8)&&v28)) (ck (!((!r8)&&v28)||((!r8)&&v28)) (ck (!((!r8)&&v28)||((!r8)&&v28)) (ck (!(!r8)||((!r8)&&(!v28||((!r8)&&v28)))) (ck (r8||(!r8)) (cond (cond r8 NS N7) (BQ [.i .i64 1]) (ck (oG (v.text.length<=1099511627776)) (ck (!(!v30)||(!v30)) (ck (!(!v30)||((!v30)&&(oG (v.more.length<=1099511627776)))) (ck (!(!v30)||(!v30)) (ck (v30||(!v30)) (ck (!(!(cond v30 NS v31))||(!(cond v30 NS v31))) (ck (!(!(cond v30 NS v31))||(!(cond v30 NS v31))) (ck (!(!(cond v30 NS v31))||(!(cond v30 NS v31))) (ck (!Kl||Kl) (ck (!Kl||(Kl&&(oG (v.text.length<=1099511627776)))) (ck (!Kl||Kl) (ck (!v33||v33) (ck (!v33||(v33&&(oG (v.more.length<=1099511627776)))) (ck (!Kl||(Kl&&((dE.zero v.text)||v33))) (ck (!(!(cond v30 NS v31))||((!(cond v30 NS v31))&&(!(oG (v.kind=11))||Kl))) (ck ((cond v30 NS v31)||(!(cond v30 NS v31))) (cond v36 (BQ [.i .i64 4]) (BQ [.i .i64 0])))))))))))))))))))))))))))))))))))))))))))))))))))))))))))))))))))))))))))))))))))))))))))))=ρ):atN v=ρ:=Eq.trans (by kernel_rfl) (gH (mf (gH (gH (gH (gH (gH (gH K:):):):):):):):)
def aCy:cE:=cW gr zs [(70,adP,bB),(92,aip,bB)]
def aub(s:bD):OT:=b9 PG aCy 52 bB (.o) [.s s]
theorem aua(s:bD)(K:∀v1,v1=cond (dE.whole s) (!(dE.zero s)) NT->ck (oG (s.length<=1099511627776)) (ck (!(dE.whole s)||((dE.whole s)&&(oG (s.length<=1099511627776)))) (ck (!(dE.whole s)||(dE.whole s)) (ck (!(dE.whole s)||(dE.whole s)) (BQ [.b v1]))))=ρ):aub s=ρ:=Eq.trans (by kernel_rfl) (mf K:)
def auG(p:List Int)(k:Int):OT:=b9 PG dH 53 bB (.o) [.sl .is p,.i .i64 k]
theorem auF(p:List Int)(k:Int)(K:∀v1,v1=(([]:List Int)++p)++([k]:List Int)->ck (dP (([]:List Int).length+p.length) 8) (ck (dP ((([]:List Int)++p).length+([k]:List Int).length) 8) (BQ [.sl .is v1]))=ρ):auG p k=ρ:=Eq.trans (by kernel_rfl) (mf K:)
def ap8(n:Nat):cE:=cW gr zs [(30,abd n,bN),(51,anK,bB),(52,anP,bB),(53,anZ,bB)]
def ajg:Hint:=.s .o (.s .o (.j [(2,.no),(3,.ptr 58 0),(8,.no),(58,.cl [])] .o (.s .o (.s (.s .o (.b (.l [(2,.no),(3,.ptr 58 0),(9,.no),(58,.cl [])] .o))) .o))))
def aAl(n:Nat)(v:Val)(name:bD)(p:List Int):OT:=b9 PG (ap8 n) 30 bN ajg [.ag v.cells,.s name,.sl .is p]
def aeS(n:Nat)(x0:List Int)(x1:Int)(x2:Val):OT:=df PG (ap8 n) 30 bN ajg 7 [.sl .is x0,.pt,.i .i64 x1,.ag x2.cells]
def abc(n:Nat)(x0:List Int)(x1:Int)(x2:Val):OT:=cM PG (ap8 n) 30 bN ajg 175 [.sl .is x0,.pt,.i .i64 x1,.ag x2.cells]
theorem aAi(n:Nat)(x0:List Int)(x1:Int)(x2:Val):aeS n x0 x1 x2=cond (!decide (x1=0)) (BQ [.sl .is x0,.i .i64 x1]) (abc n x0 0 x2):=lH (by kernel_rfl) rfl
theorem amd(n:Nat)(x0:List Int)(x1:Int)(x2:Val)(K:∀v1,v1=(x2.kids.length:Int)->∀v2,v2=List.getD x2.kids x1.toNat (fE.fu .fl)->∀v3,v3=(Tree.fD (bF.of v2.name v2.val) (x0++[x1])).1->∀v4,v4=(Tree.fD (bF.of v2.name v2.val) (x0++[x1])).2->∀v5,v5=IntKind.i64.wrap (x1+1)->cond (oG (x1<v1)) (ck (bG x1 x2.kids.length) (ck (bG x1 x2.kids.length) (ck (oG (x0.length<=1099511627776)) (ck ((oG ((bF.of v2.name v2.val).bJ+(x0++[x1]).length<=1099511627776))&&oG ((bF.of v2.name v2.val).bJ<n)) (cond (!decide (v4=0)) (BQ [.sl .is v3,.i .i64 v4]) (abc n x0 v5 x2)))))) (BQ [.sl .is ([]:List Int),.i .i64 0])=ρ):abc n x0 x1 x2=ρ:=jx (by kernel_rfl) (gH K:)
theorem aAk(n:Nat)(v:Val)(name:bD)(p:List Int)(K:∀v1,v1=cond (oG ((Tree.own v)=0)) (!(Tree.ft name NS)) NT->ck (oG ((bF.of [] v).bJ<=1099511627776)) (ck (!(oG ((Tree.own v)=0))||((oG ((Tree.own v)=0))&&(oG (name.length<=1099511627776)))) (ck (!(oG ((Tree.own v)=0))||(oG ((Tree.own v)=0))) (ck (!(oG ((Tree.own v)=0))||(oG ((Tree.own v)=0))) (cond v1 (aeS n p 4 v) (aeS n p (Tree.own v) v)))))=ρ):aAl n v name p=ρ:=Eq.trans (by kernel_rfl) (mf K:)
def aCE:cE:=cW gr zs [(30,ap7,bN)]
def au6(v:Val):OT:=b9 PG aCE 19 bN (.o) [.ag v.cells]
theorem au5(v:Val)(K:∀v1,v1=(Tree.fD (bF.of [] v) ([]:List Int)).1->∀v2,v2=(Tree.fD (bF.of [] v) ([]:List Int)).2->ck (oG ((bF.of [] v).bJ+([]:List Int).length<=1099511627776)) (BQ [.sl .is v1,.i .i64 v2])=ρ):au6 v=ρ:=Eq.trans (by kernel_rfl) (lY K:)
def apX:Hint:=.s .o (.s .o (.s (.s .o (.b (.l (sc [0,1,5]) .o))) .o))
def azU(a b:List Int):OT:=b9 PG dH 23 bB apX [.sl .is a,.sl .is b]
def ac9(x0 x1:List Int)(x2:Int):OT:=cM PG dH 23 bB apX 43 [.sl .is x0,.sl .is x1,.i .i64 x2]
theorem al2(x0 x1:List Int)(x2:Int)(K:∀v1,v1=List.getD x0 x2.toNat 0->∀v2,v2=List.getD x1 x2.toNat 0->∀v3,v3=IntKind.i64.wrap (x2+1)->cond (oG (x2<(x0.length:Int))) (ck (bG x2 x0.length) (ck (bG x2 x1.length) (cond (!decide (v1=v2)) (BQ [.b NT]) (ac9 x0 x1 v3)))) (BQ [.b NS])=ρ):ac9 x0 x1 x2=ρ:=jx (by kernel_rfl) (po K:)
theorem azS(a b:List Int):azU a b=cond (!decide ((a.length:Int)=(b.length:Int))) (BQ [.b NT]) (ac9 a b 0):=by kernel_rfl
end Go.Eng
namespace Go.Eng
open Go.Proofs
variable{ρ:OT}
def aoL:Hint:=.s .o (.s (.s .o (.b (.l (sc [0,1,5]) .o))) .o)
def awF(left:Int)(ly:List Int):OT:=b9 PG dH 27 bB aoL [.i .i64 left,.sl .is ly]
def ab7(x0:Int)(x1:List Int)(x2:Int):OT:=cM PG dH 27 bB aoL 21 [.i .i64 x0,.sl .is x1,.i .i64 x2]
theorem akG(x0:Int)(x1:List Int)(x2:Int)(K:∀v1,v1=List.getD x1 x2.toNat 0->∀v2,v2=cond (oG (x0<0)) NS (oG (x0<v1))->∀v3,v3=IntKind.i64.wrap (x2+1)->cond (oG (x2<(x1.length:Int))) (ck (!(!(oG (x0<0)))||(((!(oG (x0<0)))&&(!(oG (x0<0))))&&(bG x2 x1.length))) (ck (!(!(oG (x0<0)))||(!(oG (x0<0)))) (ck (!(!(oG (x0<0)))||((!(oG (x0<0)))&&(!(oG (x0<0))))) (ck ((oG (x0<0))||(!(oG (x0<0)))) (cond v2 (BQ [.i .i64 (-1)]) (ck (bG x2 x1.length) (ab7 (IntKind.i64.wrap (x0 -v1)) x1 v3))))))) (BQ [.i .i64 x0])=ρ):ab7 x0 x1 x2=ρ:=jx (by kernel_rfl) (po K:)
theorem awD(left:Int)(ly:List Int):awF left ly=ab7 left ly 0:=by kernel_rfl
def azF(n:Nat):cE:=cW gr zs [(16,aa5 n,bB),(27,aoM,bB)]
def apQ:Hint:=.s .o (.s .o (.s (.s .o (.b (.l [(0,.no),(3,.ptr 50 0),(5,.no),(50,.cl [])] .o))) .o))
def azE(n:Nat)(left:Int)(v:Val):OT:=b9 PG (azF n) 16 bB apQ [.i .i64 left,.ag v.cells]
def ac1(n:Nat)(x0 x1:Int)(x2:Val):OT:=cM PG (azF n) 16 bB apQ 43 [.i .i64 x0,.pt,.i .i64 x1,.ag x2.cells]
theorem alU(n:Nat)(x0 x1:Int)(x2:Val)(K:∀v1,v1=(x2.kids.length:Int)->∀v2,v2=cond (oG (x1<v1)) (oG (0<=x0)) NT->∀v3,v3=List.getD x2.kids x1.toNat (fE.fu .fl)->∀v4,v4=(v3.name.length:Int)->∀v5,v5=gn.room x0 ([v4]:List Int)->∀v6,v6=gn.value v5 (bF.of [] v3.val)->∀v7,v7=IntKind.i64.wrap (x1+1)->ck (!(oG (x1<v1))||(oG (x1<v1))) (ck (!(oG (x1<v1))||(oG (x1<v1))) (cond v2 (ck (bG x1 x2.kids.length) (ck (oG (x0<=1200/\([v4]:List Int).length<=10)&&([v4]:List Int).all (λs=>oG (0<=s))) (ck (bG x1 x2.kids.length) (ck ((oG (v5<=1200))&&oG ((bF.of [] v3.val).bJ<n)) (ac1 n v6 v7 x2))))) (BQ [.i .i64 x0])))=ρ):ac1 n x0 x1 x2=ρ:=jx (by kernel_rfl) (gH (lY K:):)
theorem azD(n:Nat)(left:Int)(v:Val)(K:∀v1,v1=(v.text.length:Int)->∀v2,v2=(v.more.length:Int)->∀v3,v3=(v.bytes.length:Int)->∀v4,v4=([2,v1,v2,v3]:List Int)->ck (oG (left<=1200/\v4.length<=10)&&v4.all (λs=>oG (0<=s))) (ac1 n (gn.room left v4) 0 v)=ρ):azE n left v=ρ:=Eq.trans (by kernel_rfl) (qS K:)
def aCr:cE:=cW gr zs [(16,apR,bB)]
def atw(v:Val):OT:=b9 PG aCr 6 bB (.o) [.ag v.cells]
theorem atv(v:Val)(K:∀v1,v1=gn.value (1200:Int) (bF.of [] v)->ck (oG ((1200:Int)<=1200)) (BQ [.b (oG ((0:Int)<=v1))])=ρ):atw v=ρ:=Eq.trans (by kernel_rfl) (mf K:)
def aoX:Hint:=.s .o (.s .o (.s (.b (.l (sc [0,3]) .o)) .o))
def aw5(v:UInt64):OT:=b9 PG dH 64 bB aoX [.u64 v]
def aci(x0:UInt64)(x1:bD):OT:=cM PG dH 64 bB aoX 19 [.u64 x0,.s x1]
theorem akQ(x0:UInt64)(x1:bD)(K:∀v1,v1=(48:UInt64)+(x0%(10:UInt64))->∀v2,v2=UInt8.ofInt (v1.toNat:Int)->∀v3,v3=UInt8.ofInt (((48:UInt64)+x0).toNat:Int)->cond (oG ((9:UInt64)<x0)) (ck (!decide ((10:UInt64)=0)) (ck (oG (([v2]:List UInt8).length+x1.length<=9223372036854775807)) (ck (!decide ((10:UInt64)=0)) (aci (x0/(10:UInt64)) (([v2]:List UInt8)++x1))))) (ck (oG (([v3]:List UInt8).length+x1.length<=9223372036854775807)) (BQ [.s (([v3]:List UInt8)++x1)]))=ρ):aci x0 x1=ρ:=jx (by kernel_rfl) (po K:)
theorem aw3(v:UInt64):aw5 v=aci v []:=by kernel_rfl
def azY:cE:=cW gr zs [(83,adJ,bB)]
def apY:Hint:=.s .o (.s (.s .o (.b (.l (sc [5,6,7]) .o))) .o)
def azX(l:List bF):OT:=b9 PG azY 45 bB apY [.sl .fl l]
def ada(x0:List bF)(x1 x2:Int):OT:=cM PG azY 45 bB apY 21 [.sl .fl x0,.i .i64 x1,.i .i64 x2]
theorem al4(x0:List bF)(x1 x2:Int)(K:∀v1,v1=List.getD x0 x2.toNat (fE.fu .fl)->∀v2,v2=IntKind.i64.wrap (x2+1)->cond (oG (x2<x1)) (ck (bG x2 x0.length) (ck (Nr.i64 x2) (cond (!decide (v1.name=(Nr.itoa x2))) (BQ [.b NT]) (ada x0 x1 v2)))) (BQ [.b NS])=ρ):ada x0 x1 x2=ρ:=jx (by kernel_rfl) (lY K:)
theorem azV(l:List bF):azX l=ada l (l.length:Int) 0:=by kernel_rfl
def az7:cE:=cW gr zs [(64,adQ,bB)]
def ap1:Hint:=.s .o (.s (.s .o (.b (.l (sc [0,3]) .o))) .o)
def az6(l:List bF):OT:=b9 PG az7 60 bB ap1 [.sl .fl l]
def ade(x0:List bF)(x1:Int):OT:=cM PG az7 60 bB ap1 21 [.sl .fl x0,.i .i64 x1]
theorem al7(x0:List bF)(x1:Int)(K:∀v1,v1=List.getD x0 x1.toNat (fE.fu .fl)->∀v2,v2=Nr.dec (UInt64.ofInt x1).toNat->∀v3,v3=IntKind.i64.wrap (x1+1)->cond (oG (x1<(x0.length:Int))) (ck (bG x1 x0.length) (cond (!decide (v1.name=v2)) (BQ [.b NT]) (ade x0 v3))) (BQ [.b NS])=ρ):ade x0 x1=ρ:=jx (by kernel_rfl) (po K:)
theorem az4(l:List bF):az6 l=ade l 0:=by kernel_rfl
def aoY:Hint:=.s .o (.j (sc [0,2]) .o .o)
def aw8(x:UInt16):OT:=b9 PG dH 179 bB aoY [.u16 x]
def acj(x0:UInt16)(x1:Int):OT:=df PG dH 179 bB aoY 3 [.u16 x0,.i .i64 x1]
theorem aw6(x0:UInt16)(x1:Int)(K:∀v1,v1=UInt8.ofInt (x0.toNat:Int)->∀v2,v2=List.getD ([0,1,2,2,3,3,3,3,4,4,4,4,4,4,4,4,5,5,5,5,5,5,5,5,5,5,5,5,5,5,5,5,6,6,6,6,6,6,6,6,6,6,6,6,6,6,6,6,6,6,6,6,6,6,6,6,6,6,6,6,6,6,6,6,7,7,7,7,7,7,7,7,7,7,7,7,7,7,7,7,7,7,7,7,7,7,7,7,7,7,7,7,7,7,7,7,7,7,7,7,7,7,7,7,7,7,7,7,7,7,7,7,7,7,7,7,7,7,7,7,7,7,7,7,7,7,7,7,8,8,8,8,8,8,8,8,8,8,8,8,8,8,8,8,8,8,8,8,8,8,8,8,8,8,8,8,8,8,8,8,8,8,8,8,8,8,8,8,8,8,8,8,8,8,8,8,8,8,8,8,8,8,8,8,8,8,8,8,8,8,8,8,8,8,8,8,8,8,8,8,8,8,8,8,8,8,8,8,8,8,8,8,8,8,8,8,8,8,8,8,8,8,8,8,8,8,8,8,8,8,8,8,8,8,8,8,8,8,8,8,8,8,8,8,8,8,8,8,8,8,8,8,8,8,8,8]:bD) (v1.toNat:Int).toNat 0->∀v3,v3=IntKind.i64.wrap (v2.toNat:Int)->ck (bG (v1.toNat:Int) ([0,1,2,2,3,3,3,3,4,4,4,4,4,4,4,4,5,5,5,5,5,5,5,5,5,5,5,5,5,5,5,5,6,6,6,6,6,6,6,6,6,6,6,6,6,6,6,6,6,6,6,6,6,6,6,6,6,6,6,6,6,6,6,6,7,7,7,7,7,7,7,7,7,7,7,7,7,7,7,7,7,7,7,7,7,7,7,7,7,7,7,7,7,7,7,7,7,7,7,7,7,7,7,7,7,7,7,7,7,7,7,7,7,7,7,7,7,7,7,7,7,7,7,7,7,7,7,7,8,8,8,8,8,8,8,8,8,8,8,8,8,8,8,8,8,8,8,8,8,8,8,8,8,8,8,8,8,8,8,8,8,8,8,8,8,8,8,8,8,8,8,8,8,8,8,8,8,8,8,8,8,8,8,8,8,8,8,8,8,8,8,8,8,8,8,8,8,8,8,8,8,8,8,8,8,8,8,8,8,8,8,8,8,8,8,8,8,8,8,8,8,8,8,8,8,8,8,8,8,8,8,8,8,8,8,8,8,8,8,8,8,8,8,8,8,8,8,8,8,8,8,8,8,8,8,8]:bD).length) (BQ [.i .i64 (IntKind.i64.wrap (x1+v3))])=ρ):acj x0 x1=ρ:=lH (by kernel_rfl) (po K:)
theorem aw7(x:UInt16)(K:∀v1,v1=uT x (8:UInt64).toNat->cond (oG (256<=x)) (acj v1 8) (acj x 0)=ρ):aw8 x=ρ:=Eq.trans (by kernel_rfl) (mf K:)
def WI:Hint:=.s .o (.j (sc [0,2]) .o (.j (sc [0,2]) .o (.j (sc [0,2]) .o .o)))
def Yo(x:UInt64):OT:=b9 PG dH 205 bB WI [.u64 x]
def WM(x0:UInt64)(x1:Int):OT:=df PG dH 205 bB WI 3 [.u64 x0,.i .i64 x1]
def WL(x0:UInt64)(x1:Int):OT:=df PG dH 205 bB WI 7 [.u64 x0,.i .i64 x1]
def WK(x0:UInt64)(x1:Int):OT:=df PG dH 205 bB WI 15 [.u64 x0,.i .i64 x1]
theorem aam(x0:UInt64)(x1:Int)(K:∀v1,v1=cK x0 (16:UInt64).toNat->∀v2,v2=IntKind.i64.wrap (x1+16)->cond (oG (65536<=x0)) (WL v1 v2) (WL x0 x1)=ρ):WM x0 x1=ρ:=lH (by kernel_rfl) (lY K:)
theorem aal(x0:UInt64)(x1:Int)(K:∀v1,v1=cK x0 (8:UInt64).toNat->∀v2,v2=IntKind.i64.wrap (x1+8)->cond (oG (256<=x0)) (WK v1 v2) (WK x0 x1)=ρ):WL x0 x1=ρ:=lH (by kernel_rfl) (lY K:)
theorem aak(x0:UInt64)(x1:Int)(K:∀v1,v1=UInt8.ofInt (x0.toNat:Int)->∀v2,v2=List.getD ([0,1,2,2,3,3,3,3,4,4,4,4,4,4,4,4,5,5,5,5,5,5,5,5,5,5,5,5,5,5,5,5,6,6,6,6,6,6,6,6,6,6,6,6,6,6,6,6,6,6,6,6,6,6,6,6,6,6,6,6,6,6,6,6,7,7,7,7,7,7,7,7,7,7,7,7,7,7,7,7,7,7,7,7,7,7,7,7,7,7,7,7,7,7,7,7,7,7,7,7,7,7,7,7,7,7,7,7,7,7,7,7,7,7,7,7,7,7,7,7,7,7,7,7,7,7,7,7,8,8,8,8,8,8,8,8,8,8,8,8,8,8,8,8,8,8,8,8,8,8,8,8,8,8,8,8,8,8,8,8,8,8,8,8,8,8,8,8,8,8,8,8,8,8,8,8,8,8,8,8,8,8,8,8,8,8,8,8,8,8,8,8,8,8,8,8,8,8,8,8,8,8,8,8,8,8,8,8,8,8,8,8,8,8,8,8,8,8,8,8,8,8,8,8,8,8,8,8,8,8,8,8,8,8,8,8,8,8,8,8,8,8,8,8,8,8,8,8,8,8,8,8,8,8,8,8]:bD) (v1.toNat:Int).toNat 0->∀v3,v3=IntKind.i64.wrap (v2.toNat:Int)->ck (bG (v1.toNat:Int) ([0,1,2,2,3,3,3,3,4,4,4,4,4,4,4,4,5,5,5,5,5,5,5,5,5,5,5,5,5,5,5,5,6,6,6,6,6,6,6,6,6,6,6,6,6,6,6,6,6,6,6,6,6,6,6,6,6,6,6,6,6,6,6,6,7,7,7,7,7,7,7,7,7,7,7,7,7,7,7,7,7,7,7,7,7,7,7,7,7,7,7,7,7,7,7,7,7,7,7,7,7,7,7,7,7,7,7,7,7,7,7,7,7,7,7,7,7,7,7,7,7,7,7,7,7,7,7,7,8,8,8,8,8,8,8,8,8,8,8,8,8,8,8,8,8,8,8,8,8,8,8,8,8,8,8,8,8,8,8,8,8,8,8,8,8,8,8,8,8,8,8,8,8,8,8,8,8,8,8,8,8,8,8,8,8,8,8,8,8,8,8,8,8,8,8,8,8,8,8,8,8,8,8,8,8,8,8,8,8,8,8,8,8,8,8,8,8,8,8,8,8,8,8,8,8,8,8,8,8,8,8,8,8,8,8,8,8,8,8,8,8,8,8,8,8,8,8,8,8,8,8,8,8,8,8,8]:bD).length) (BQ [.i .i64 (IntKind.i64.wrap (x1+v3))])=ρ):WK x0 x1=ρ:=lH (by kernel_rfl) (po K:)
theorem aan(x:UInt64)(K:∀v1,v1=cK x (32:UInt64).toNat->cond (oG (4294967296<=x)) (WM v1 32) (WM x 0)=ρ):Yo x=ρ:=Eq.trans (by kernel_rfl) (mf K:)
def ar0(a:List UInt16):OT:=b9 PG dH 213 qe (.o) [.sl .ws a]
theorem arZ(a:List UInt16):ar0 a=cond (List.isEmpty a) (both (BQ [.sl .ws ([]:List UInt16)]) (ck (dP (([]:List UInt16).length+a.length) 2) (BQ [.sl .ws (([]:List UInt16)++a)]))) (ck (dP (([]:List UInt16).length+a.length) 2) (BQ [.sl .ws (([]:List UInt16)++a)])):=by kernel_rfl
def atZ(x:Nat):OT:=b9 PG dH 268 bB (.o) [.c (.float .f64 x)]
theorem atY(x:Nat):atZ x=cond NS (ck (Fl.num x) (BQ [.c (.float .f64 (Fl.om x))])) Ku:=by kernel_rfl
def aCm:cE:=cW gr zs [(264,ad3,bB)]
def atg(z:Cx):OT:=b9 PG aCm 261 bB (.o) [.c (.complex .f64 z.1 z.2)]
theorem atf(z:Cx):atg z=ck (Gz.Sp z (4719772409484279808:Nat)) (BQ [.b NS]):=by kernel_rfl
def aqo(x y:Int):OT:=b9 PG dH 259 bB (.o) [.i .i64 x,.i .i64 y]
theorem aqn(x:Int)(y:Int)(K:∀(v1:Bool)(h1:v1=(cond (oG (x<(-33554432:Int))) NS (oG ((33554432:Int)<x))))(v2:Bool)(h2:v2=(cond v1 NS (oG (y<(-33554432:Int)))))(v3:Bool)(h3:v3=(cond v2 NS (oG ((33554432:Int)<y))))(v4:Cx)(h4:v4=(((Fl.ofInt x),(Fl.ofInt y)):Cx)),ck (!(!(oG (x<(-33554432:Int))))||(!(oG (x<(-33554432:Int))))) (ck ((oG (x<(-33554432:Int)))||(!(oG (x<(-33554432:Int))))) (ck (!(!v1)||(!v1)) (ck (v1||(!v1)) (ck (!(!v2)||(!v2)) (ck (v2||(!v2)) (cond v3 (BQ [(.c (.complex .f64 ((0,0):Cx).1 ((0,0):Cx).2))]) (BQ [(.c (.complex .f64 v4.1 v4.2))])))))))=ρ):aqo x y=ρ:=Eq.trans (by kernel_rfl) (K _ rfl _ rfl _ rfl _ rfl)
def aCb:cE:=cW gr zs [(264,ad3,bB)]
def ass(z:Cx):OT:=b9 PG aCb 254 gN (.o) [.c (.complex .f64 z.1 z.2)]
theorem asr(z:Cx):ass z=ck (Gz.Sp z (4841369599423283200:Nat)) (cond (!true) (BQ [.i .i64 0,.i .i64 0,.b NT]) (ck (Fl.rr z.1) (ck (Fl.rr z.2) (BQ [.i .i64 (Fl.toInt z.1),.i .i64 (Fl.toInt z.2),.b NS])))):=by kernel_rfl
def aBX:cE:=cW gr zs [(264,ad3,bB)]
def arv(z:Cx)(k:Int):OT:=b9 PG aBX 269 bB (.o) [.c (.complex .f64 z.1 z.2),.i .i64 k]
theorem aru(z:Cx)(k:Int)(K:∀(v1:Cx)(h1:v1=((4607182418800017408,0):Cx))(v2:Cx)(h2:v2=((0,4607182418800017408):Cx))(v3:Cx)(h3:v3=((13830554455654793216,0):Cx))(v4:Cx)(h4:v4=((0,13830554455654793216):Cx))(v5:Int)(h5:v5=(dm .and .i64 k (3:Int)))(v6:Cx)(h6:v6=(List.getD ([v1,v2,v3,v4]:List Cx) ((v5).toNat) (0,0)))(v7:Cx)(h7:v7=((Fl.wW z.1 z.2 v6.1 v6.2,Fl.wX z.1 z.2 v6.1 v6.2):Cx)),ck (Gz.Sp z ((4841369599423283200:Nat))) (cond (!(NS)) (BQ [(.c (.complex .f64 ((0,0):Cx).1 ((0,0):Cx).2))]) (ck (bG v5 4) (ck (oG ((v5).toNat<4)) (ck (Fl.sW z.1 z.2 v6.1 v6.2) (BQ [(.c (.complex .f64 v7.1 v7.2))])))))=ρ):arv z k=ρ:=Eq.trans (by kernel_rfl) (K _ rfl _ rfl _ rfl _ rfl _ rfl _ rfl _ rfl)
def aB8:cE:=cW gr zs [(261,anB,bB)]
def ar6(z w:Cx):OT:=b9 PG aB8 252 bB (.o) [.c (.complex .f64 z.1 z.2),.c (.complex .f64 w.1 w.2)]
theorem ar5(z:Cx)(w:Cx)(K:∀(v1:Bool)(h1:v1=(cond (!(NS)) NS (!(NS))))(v2:Cx)(h2:v2=((Fl.wW z.1 z.2 w.1 w.2,Fl.wX z.1 z.2 w.1 w.2):Cx)),ck (Gz.AB z 33554432) (ck (!(!(!(NS)))||((!(!(NS)))&&(Gz.AB w 33554432))) (ck (!(!(!(NS)))||(!(!(NS)))) (ck ((!(NS))||(!(!(NS)))) (cond v1 (BQ [(.c (.complex .f64 ((0,0):Cx).1 ((0,0):Cx).2))]) (ck (Fl.sW z.1 z.2 w.1 w.2) (BQ [(.c (.complex .f64 v2.1 v2.2))]))))))=ρ):ar6 z w=ρ:=Eq.trans (by kernel_rfl) (K _ rfl _ rfl)
def aBS:cE:=cW gr zs [(268,anN,bB)]
def arf(x:Nat):OT:=b9 PG aBS 267 bB (.o) [.c (.float .f64 x)]
theorem ard(x:Nat)(K:∀v1,v1=(Fl.gt x (14055734437023318016:Nat)||Fl.eq x (14055734437023318016:Nat))->∀v2,v2=(Fl.lt x (4832362400168542208:Nat)||Fl.eq x (4832362400168542208:Nat))->∀v3,v3=cond (cond v1 v2 NT) (Fl.eq x (Fl.om x)) NT->ck (!v1||v1) (ck (!v1||v1) (ck (!(cond v1 v2 NT)||((cond v1 v2 NT)&&(Fl.num x))) (ck (!(cond v1 v2 NT)||((cond v1 v2 NT)&&(cond v1 v2 NT))) (ck (!(cond v1 v2 NT)||(cond v1 v2 NT)) (BQ [.b v3])))))=ρ):arf x=ρ:=Eq.trans (by kernel_rfl) (po K:)
def auD:cE:=cW gr zs [(267,am5,bB)]
def anY:Hint:=.s .o (.s .o (.s (.s .o (.b (.l (sc [3,6,7]) .o))) .o))
def auC(l:Qd):OT:=b9 PG auD 262 bB anY [.ag (Qd.cells l)]
def abK(x0:Qd)(x1:Int):OT:=cM PG auD 262 bB anY 43 [.c (.func (.func 267) #[] #[]),.ag (Qd.cells x0),.i .i64 x1]
theorem aj7(x0:Qd)(x1:Int)(K:∀v1,v1=cond (!true) NS (!true)->∀v2,v2=IntKind.i64.wrap (x1+1)->cond (oG (x1<4)) (ck (bG x1 4) (ck (Gz.QJ (Qd.get x0 x1.toNat).1) (ck (!(!(!true))||(!(!true))) (ck (!(!(!true))||(((!(!true))&&(!(!true)))&&(Gz.QJ (Qd.get x0 x1.toNat).2))) (ck (!(!(!true))||(!(!true))) (ck ((!true)||(!(!true))) (cond v1 (BQ [.b NT]) (abK x0 v2)))))))) (BQ [.b NS])=ρ):abK x0 x1=ρ:=jx (by kernel_rfl) (lY K:)
theorem auA(l:Qd):auC l=abK l 0:=by kernel_rfl
def apw:cE:=cW gr zs [(269,am8,bB)]
def aiz:Hint:=.s .o (.s .o (.s (.s .o (.b (.l [(1,.no),(2,.ptr 34 0),(4,.ptr 36 0),(5,.ptr 37 0),(9,.no),(34,.cl []),(36,.cl []),(37,.cl [])] (.s .o (.s .o (.s (.b (.s .o (.s .o (.b (.l [(1,.no),(2,.ptr 34 0),(4,.ptr 36 0),(5,.ptr 37 0),(6,.no),(9,.no),(12,.no),(13,.no),(34,.cl []),(36,.cl []),(37,.cl [])] .o))))) .o)))))) .o))
def ayu(l:Qd)(w:Int):OT:=b9 PG apw 263 bB aiz [.ag (Qd.cells l),.i .i64 w]
def aau(x0 x1:Int)(x2 x3 x4:Qd):OT:=cM PG apw 263 bB aiz 43 [.i .i64 x0,.pt,.pt,.pt,.i .i64 x1,.ag (Qd.cells x2),.ag (Qd.cells x3),.ag (Qd.cells x4)]
def acK(x0 x1 x2:Int)(x3:Qd)(x4:Int)(x5 x6 x7:Qd):OT:=cM PG apw 263 bB aiz 11467 [.i .i64 x0,.pt,.pt,.pt,.i .i64 x1,.i .i64 x2,.ag (Qd.cells x3),.i .i64 x4,.ag (Qd.cells x5),.ag (Qd.cells x6),.ag (Qd.cells x7)]
theorem ali(x0 x1:Int)(x2 x3 x4:Qd):aau x0 x1 x2 x3 x4=cond (oG (x1<4)) (acK x0 x1 x1 x2 0 x2 x3 x4) (BQ [.ag (Qd.cells x4)]):=jx (by kernel_rfl) rfl
theorem alk(x0:Int)(x1:Int)(x2:Int)(x3:Qd)(x4:Int)(x5:Qd)(x6:Qd)(x7:Qd)(K:∀(v1:Int)(h1:v1=(IntKind.i64.wrap ((IntKind.i64.wrap (x4*x1))*x0)))(v2:Cx)(h2:v2=(Gz.kD ((Qd.get x3 ((x4).toNat))) v1))(v3:Cx)(h3:v3=((Fl.add (Qd.get x7 ((x1).toNat)).1 v2.1,Fl.add (Qd.get x7 ((x1).toNat)).2 v2.2):Cx))(v4:Int)(h4:v4=(IntKind.i64.wrap (x4+(1:Int))))(v5:Int)(h5:v5=(IntKind.i64.wrap (x2+(1:Int)))),cond (oG (x4<(4:Int))) (ck (bG x4 4) (ck (bG x1 4) (ck (oG ((x1).toNat<4)) (ck (Gz.AB ((Qd.get x3 ((x4).toNat))) 1125899906842624&&oG (-100<=v1/\v1<=100)) (ck (Fl.o6 (Qd.get x7 ((x1).toNat)).1 v2.1&&Fl.o6 (Qd.get x7 ((x1).toNat)).2 v2.2) (ck (bG x1 4) (ck (oG ((x1).toNat<4)) (acK x0 x1 x2 x3 v4 x5 x6 (Qd.set x7 ((x1).toNat) v3))))))))) (aau x0 v5 x5 x6 x7)=ρ):acK x0 x1 x2 x3 x4 x5 x6 x7=ρ:=((sJ _ _ _ _ _ _ _).trans (by kernel_rfl)).trans (K _ rfl _ rfl _ rfl _ rfl _ rfl)
theorem ayt(l:Qd)(w:Int):ayu l w=aau w 0 l (Qd.mk ((0,0):Cx) ((0,0):Cx) ((0,0):Cx) ((0,0):Cx)) (Qd.mk ((0,0):Cx) ((0,0):Cx) ((0,0):Cx) ((0,0):Cx)):=by kernel_rfl
def aBR:cE:=cW gr zs [(262,ag8,bB),(263,aiB,bB)]
def arb(l:Qd):OT:=b9 PG aBR 260 bB (.o) [.ag (Qd.cells l)]
theorem ara(l:Qd):arb l=ck (Gz.C3 l 1125899906842624) (cond (!true) (BQ [.ag [.c (.complex .f64 ((0,0):Cx).1 ((0,0):Cx).2),.c (.complex .f64 ((0,0):Cx).1 ((0,0):Cx).2),.c (.complex .f64 ((0,0):Cx).1 ((0,0):Cx).2),.c (.complex .f64 ((0,0):Cx).1 ((0,0):Cx).2)]]) (ck (Gz.C3 l 1125899906842624&&oG ((1:Int)=1\/(1:Int)=-1)) (BQ [.ag (Qd.cells (Gz.rA l (1:Int)))]))):=by kernel_rfl
def auk:cE:=cW gr zs [(254,agc,gN),(262,ag8,bB),(263,aiB,bB)]
def anR:Hint:=.s .o (.s .o (.s .o (.s (.s .o (.b (.l [(2,.ptr 53 0),(4,.ptr 55 0),(16,.no),(17,.no),(53,.cl []),(55,.cl [])] .o))) .o)))
def auj(l:Qd):OT:=b9 PG auk 253 bN anR [.ag (Qd.cells l)]
def aaG(x0:Qd)(x1:Int)(x2 x3:Qd):OT:=cM PG auk 253 bN anR 87 [.pt,.pt,.ag (Qd.cells x0),.i .i64 x1,.ag (Qd.cells x2),.ag (Qd.cells x3)]
theorem aj1(x0:Qd)(x1:Int)(x2:Qd)(x3:Qd)(K:∀(v1:Int)(h1:v1=(Fl.toInt (((Qd.get x0 ((x1).toNat)))).1))(v2:Int)(h2:v2=(Fl.toInt (((Qd.get x0 ((x1).toNat)))).2))(v3:Bool)(h3:v3=(cond (!(NS)) NS (!decide ((Int.tmod v1 (4:Int))=(0:Int)))))(v4:Bool)(h4:v4=(cond v3 NS (!decide ((Int.tmod v2 (4:Int))=(0:Int)))))(v5:Int)(h5:v5=(IntKind.i64.wrap (Int.tdiv v1 (4:Int))))(v6:Int)(h6:v6=(IntKind.i64.wrap (Int.tdiv v2 (4:Int))))(v7:Cx)(h7:v7=(((Fl.ofInt v5),(Fl.ofInt v6)):Cx))(v8:Int)(h8:v8=(IntKind.i64.wrap (x1+(1:Int)))),cond (oG (x1<(4:Int))) (ck (bG x1 4) (ck (Gz.AB ((Qd.get x0 ((x1).toNat))) 4503599627370496) (ck (!(!(!(NS)))||((!(!(NS)))&&(!decide ((4:Int)=0)))) (ck (!(!(!(NS)))||(!(!(NS)))) (ck ((!(NS))||(!(!(NS)))) (ck (!(!v3)||((!v3)&&(!decide ((4:Int)=0)))) (ck (!(!v3)||(!v3)) (ck (v3||(!v3)) (cond v4 (BQ [(.ag [(.c (.complex .f64 ((0,0):Cx).1 ((0,0):Cx).2)),(.c (.complex .f64 ((0,0):Cx).1 ((0,0):Cx).2)),(.c (.complex .f64 ((0,0):Cx).1 ((0,0):Cx).2)),(.c (.complex .f64 ((0,0):Cx).1 ((0,0):Cx).2))]),(.b NT)]) (ck (!decide ((4:Int)=0)) (ck (!decide ((4:Int)=0)) (ck (bG x1 4) (ck (oG ((x1).toNat<4)) (aaG x0 v8 x2 (Qd.set x3 ((x1).toNat) v7))))))))))))))) (BQ [(.ag (Qd.cells x3)),(.b NS)])=ρ):aaG x0 x1 x2 x3=ρ:=((sJ _ _ _ _ _ _ _).trans (by kernel_rfl)).trans (K _ rfl _ rfl _ rfl _ rfl _ rfl _ rfl _ rfl _ rfl)
theorem aui(l:Qd):auj l=ck (Gz.C3 l 1125899906842624) (cond (!true) (BQ [.ag [.c (.complex .f64 ((0,0):Cx).1 ((0,0):Cx).2),.c (.complex .f64 ((0,0):Cx).1 ((0,0):Cx).2),.c (.complex .f64 ((0,0):Cx).1 ((0,0):Cx).2),.c (.complex .f64 ((0,0):Cx).1 ((0,0):Cx).2)],.b NT]) (ck (Gz.C3 l 1125899906842624&&oG ((-1)=1\/(-1)=-1)) (aaG (Gz.rA l (-1)) 0 (Qd.mk ((0,0):Cx) ((0,0):Cx) ((0,0):Cx) ((0,0):Cx)) (Gz.rA l (-1))))):=by kernel_rfl
def aoP:Hint:=.s .o (.s (.s .o (.b (.l (sc [0,5,6,7]) .o))) .o)
def awN(l:List Int):OT:=b9 PG dH 250 bB aoP [.sl .is l]
def ab9(x0 x1:List Int)(x2 x3:Int):OT:=cM PG dH 250 bB aoP 21 [.sl .is x0,.sl .is x1,.i .i64 x2,.i .i64 x3]
theorem akI(x0 x1:List Int)(x2 x3:Int)(K:∀v1,v1=List.getD x1 x3.toNat 0->∀v2,v2=cond (oG (v1<0)) NS (oG (65535<v1))->∀v3,v3=IntKind.i64.wrap (x3+1)->cond (oG (x3<x2)) (ck (bG x3 x1.length) (ck (!(!(oG (v1<0)))||(!(oG (v1<0)))) (ck ((oG (v1<0))||(!(oG (v1<0)))) (cond v2 (BQ [.b NT]) (ab9 x0 x1 x2 v3))))) (BQ [.b (oG ((x0.length:Int)<=256))])=ρ):ab9 x0 x1 x2 x3=ρ:=jx (by kernel_rfl) (po K:)
theorem awL(l:List Int):awN l=ab9 l l (l.length:Int) 0:=by kernel_rfl
def ao6:cE:=cW gr zs [(259,amS,bB),(260,am4,bB)]
def ah9:Hint:=.s .o (.s .o (.s (.s .o (.b (.l [(0,.no),(3,.fF 800000),(800000,.pv),(4,.no)] (.s .o (.s (.b (.s .o (.j [(0,.no),(3,.fF 800000),(800000,.pv),(4,.no),(5,.ptr 41 0),(41,.cl [])] .o .o))) .o))))) .o))
def axr(l:List Int):OT:=b9 PG ao6 251 bB ah9 [.sl .is l]
def acp(x0:List Int)(x1:List Qd)(x2:Int):OT:=cM PG ao6 251 bB ah9 43 [.sl .is x0,.pt,.sl .qd x1,.i .i64 x2]
def acq(x0:List Int)(x1:List Qd)(x2:Int)(x3:Qd):OT:=df PG ao6 251 bB ah9 1611 [.sl .is x0,.pt,.sl .qd x1,.i .i64 x2,.pt,.ag (Qd.cells x3)]
theorem akV(x0:List Int)(x1:List Qd)(x2:Int)(K:∀(v1:Int)(h1:v1=(List.getD x0 (x2).toNat (0:Int)))(v2:Cx)(h2:v2=(((Fl.ofInt v1,Fl.ofInt ((0:Int))):Cx)))(v3:Int)(h3:v3=(IntKind.i64.wrap (x2+(1:Int))))(v4:Int)(h4:v4=(List.getD x0 (v3).toNat (0:Int)))(v5:Cx)(h5:v5=(((Fl.ofInt v4,Fl.ofInt ((0:Int))):Cx)))(v6:Qd)(h6:v6=(Qd.set (Qd.mk v2 ((0,0):Cx) ((0,0):Cx) ((0,0):Cx)) (((1:Int)).toNat) v5)),cond (oG (x2<((x0).length:Int))) (ck (bG x2 (x0).length) (ck (oG (-33554432<=v1/\v1<=33554432/\-33554432<=((0:Int))/\((0:Int))<=33554432)) (cond (oG (v3<((x0).length:Int))) (ck (bG v3 (x0).length) (ck (oG (-33554432<=v4/\v4<=33554432/\-33554432<=((0:Int))/\((0:Int))<=33554432)) (ck (bG (1:Int) 4) (ck (oG (((1:Int)).toNat<4)) (acq x0 x1 x2 v6))))) (acq x0 x1 x2 (Qd.mk v2 ((0,0):Cx) ((0,0):Cx) ((0,0):Cx)))))) (BQ [(.sl .qd x1)])=ρ):acp x0 x1 x2=ρ:=((sJ _ _ _ _ _ _ _).trans (by kernel_rfl)).trans (K _ rfl _ rfl _ rfl _ rfl _ rfl _ rfl)
theorem axo(x0:List Int)(x1:List Qd)(x2:Int)(x3:Qd)(K:∀v1,v1=x1++([Gz.rA x3 1]:List Qd)->∀v2,v2=IntKind.i64.wrap (x2+2)->ck (Gz.C3 x3 1125899906842624) (ck (dP (x1.length+([Gz.rA x3 1]:List Qd).length) 64) (acp x0 v1 v2))=ρ):acq x0 x1 x2 x3=ρ:=lH (by kernel_rfl) (lY K:)
theorem axp(l:List Int):axr l=acp l ([]:List Qd) 0:=by kernel_rfl
def aeH:cE:=cW gr zs [(250,aoQ,bB),(251,ao5,bB),(252,anh,bB),(253,anS,bN),(254,agc,gN)]
def adT:Hint:=.s .o (.s .o (.s .o (.s .o (.s .o (.s (.s .o (.b (.l [(0,.no),(1,.no),(6,.fF 800000),(8,.no),(48,.no),(49,.no),(50,.no),(800000,.pv)] (.s .o (.s .o (.s (.b (.s .o (.s .o (.b (.l [(0,.no),(1,.no),(6,.fF 800000),(8,.no),(9,.no),(10,.ptr 126 0),(48,.no),(49,.no),(50,.no),(55,.no),(56,.no),(57,.no),(126,.cl []),(800000,.pv)] (.s .o (.s .o (.s (.b (.s .o (.s .o (.s (.s .o (.b (.l [(0,.no),(1,.no),(6,.fF 800000),(8,.no),(9,.no),(10,.ptr 126 0),(11,.no),(12,.ptr 128 0),(13,.ptr 129 0),(48,.no),(49,.no),(50,.no),(55,.no),(56,.no),(57,.no),(62,.no),(126,.cl []),(128,.cl []),(129,.cl []),(800000,.pv)] .o))) (.s .o (.s .o (.b (.l [(0,.no),(1,.no),(6,.fF 800000),(8,.no),(9,.no),(10,.ptr 126 0),(11,.no),(15,.ptr 131 0),(48,.no),(49,.no),(50,.no),(55,.no),(56,.no),(57,.no),(80,.no),(126,.cl []),(131,.cl []),(800000,.pv)] .o)))))))) .o)))))))) .o)))))) .o)))))
def ayW(a b:List Int):OT:=b9 PG aeH 234 bN adT [.sl .is a,.sl .is b]
def aaX(x0 x1:List Int)(x2 x3:List Qd)(x4 x5:Int)(x6:List Int):OT:=cM PG aeH 234 bN adT 351 [.sl .is x0,.sl .is x1,.pt,.sl .qd x2,.sl .qd x3,.i .i64 x4,.i .i64 x5,.sl .is x6]
def aaW(x0 x1:List Int)(x2:List Qd)(x3:Int)(x4:List Qd)(x5 x6:Int)(x7:List Qd)(x8 x9:Int)(qE:Qd)(nE:List Int):OT:=cM PG aeH 234 bN adT 91743 [.sl .is x0,.sl .is x1,.pt,.sl .qd x2,.i .i64 x3,.pt,.sl .qd x4,.i .i64 x5,.i .i64 x6,.sl .qd x7,.i .i64 x8,.i .i64 x9,.ag (Qd.cells qE),.sl .is nE]
def aav(x0 x1:List Int)(x2:List Qd)(x3 x4:Int)(x5:List Qd)(x6 x7:Int)(x8:List Qd)(x9 qE nE:Int)(rY rR qD:Qd)(uO:List Int):OT:=cM PG aeH 234 bN adT 90596959 [.sl .is x0,.sl .is x1,.pt,.sl .qd x2,.i .i64 x3,.pt,.i .i64 x4,.pt,.pt,.sl .qd x5,.i .i64 x6,.i .i64 x7,.sl .qd x8,.i .i64 x9,.i .i64 qE,.i .i64 nE,.ag (Qd.cells rY),.ag (Qd.cells rR),.ag (Qd.cells qD),.sl .is uO]
def aad(x0 x1:List Int)(x2:List Qd)(x3 x4:Int)(x5:List Qd)(x6 x7:Int)(x8:List Qd)(x9 qE nE:Int)(rY rR:Qd)(qD:List Int):OT:=cM PG aeH 234 bN adT 199648863 [.sl .is x0,.sl .is x1,.pt,.sl .qd x2,.i .i64 x3,.pt,.i .i64 x4,.pt,.sl .qd x5,.i .i64 x6,.i .i64 x7,.sl .qd x8,.i .i64 x9,.i .i64 qE,.i .i64 nE,.ag (Qd.cells rY),.ag (Qd.cells rR),.sl .is qD]
theorem alA(x0 x1:List Int)(x2 x3:List Qd)(x4 x5:Int)(x6:List Int)(K:∀v1,v1=List.getD x3 x5.toNat (fE.fu .qd)->∀v2,v2=IntKind.i64.wrap ((x0.length:Int)+(x1.length:Int))->∀v3,v3=IntKind.i64.wrap (v2 -1)->cond (oG (x5<x4)) (ck (bG x5 x3.length) (aaW x0 x1 x2 x5 x3 x4 x5 x2 (x2.length:Int) 0 v1 x6)) (ck (fe 0 v3 x6.length) (ck (dP (List.take v3.toNat x6).length 8) (BQ [.sl .is (List.take v3.toNat x6),.b NS])))=ρ):aaX x0 x1 x2 x3 x4 x5 x6=ρ:=jx (by kernel_rfl) (po K:)
theorem alz(x0 x1:List Int)(x2:List Qd)(x3:Int)(x4:List Qd)(x5 x6:Int)(x7:List Qd)(x8 x9:Int)(qE:Qd)(nE:List Int)(K:∀v1,v1=List.getD x7 x9.toNat (fE.fu .qd)->∀v2,v2=IntKind.i64.wrap (x6+1)->cond (oG (x9<x8)) (ck (bG x9 x7.length) (aav x0 x1 x2 x3 x9 x4 x5 x6 x7 x8 x9 0 qE v1 (Qd.mk ((0,0):Cx) ((0,0):Cx) ((0,0):Cx) ((0,0):Cx)) nE)) (aaX x0 x1 x2 x4 x5 v2 nE)=ρ):aaW x0 x1 x2 x3 x4 x5 x6 x7 x8 x9 qE nE=ρ:=jx (by kernel_rfl) (lY K:)
theorem aly(x0 x1:List Int)(x2:List Qd)(x3 x4:Int)(x5:List Qd)(x6 x7:Int)(x8:List Qd)(x9 qE nE:Int)(rY rR qD:Qd)(uO:List Int)(K:∀v1,v1=Gz.mul (Qd.get rY nE.toNat) (Qd.get rR nE.toNat)->∀v2,v2=Qd.set qD nE.toNat v1->∀v3,v3=IntKind.i64.wrap (nE+1)->cond (oG (nE<4)) (ck (bG nE 4) (ck (oG (nE.toNat<4)) (ck (bG nE 4) (ck (oG (nE.toNat<4)) (ck (Gz.AB (Qd.get rY nE.toNat) 33554432&&Gz.AB (Qd.get rR nE.toNat) 33554432) (ck (bG nE 4) (ck (oG (nE.toNat<4)) (aav x0 x1 x2 x3 x4 x5 x6 x7 x8 x9 qE v3 rY rR v2 uO)))))))) (ck (Gz.C3 qD 1125899906842624&&Gz.Sq qD) (aad x0 x1 x2 x3 x4 x5 x6 x7 x8 x9 qE 0 rY (Gz.back qD) uO))=ρ):aav x0 x1 x2 x3 x4 x5 x6 x7 x8 x9 qE nE rY rR qD uO=ρ:=jx (by kernel_rfl) (po K:)
theorem alx(x0 x1:List Int)(x2:List Qd)(x3 x4:Int)(x5:List Qd)(x6 x7:Int)(x8:List Qd)(x9 qE nE:Int)(rY rR:Qd)(qD:List Int)(K:∀v1,v1=Fl.toInt (Qd.get rR nE.toNat).1->∀v2,v2=Fl.toInt (Qd.get rR nE.toNat).2->∀v3,v3=IntKind.i64.wrap (2*x3)->∀v4,v4=IntKind.i64.wrap (2*x4)->∀v5,v5=IntKind.i64.wrap ((IntKind.i64.wrap (v3+v4))+nE)->∀v6,v6=List.getD qD v5.toNat 0->∀v7,v7=List.set qD v5.toNat (IntKind.i64.wrap (v6+v1))->∀v8,v8=IntKind.i64.wrap (nE+1)->∀v9,v9=IntKind.i64.wrap (qE+1)->cond (oG (nE<3)) (ck (bG nE 4) (ck (oG (nE.toNat<4)) (ck (Gz.AB (Qd.get rR nE.toNat) 4503599627370496) (ck (bG v5 qD.length) (ck (oG (v5.toNat<qD.length)) (ck (bG v5 qD.length) (ck (oG (v5.toNat<qD.length)) (aad x0 x1 x2 x3 x4 x5 x6 x7 x8 x9 qE v8 rY rR v7)))))))) (aaW x0 x1 x2 x3 x5 x6 x7 x8 x9 v9 rY qD)=ρ):aad x0 x1 x2 x3 x4 x5 x6 x7 x8 x9 qE nE rY rR qD=ρ:=jx (by kernel_rfl) (gH (qS K:):)
theorem ayV(a b:List Int)(K:∀v1,v1=cond (!true) NS (!true)->∀v2,v2=cond (oG ((a.length:Int)=0)) NS (oG ((b.length:Int)=0))->∀v3,v3=IntKind.i64.wrap ((a.length:Int)+(b.length:Int))->∀v4,v4=IntKind.i64.wrap (v3+2)->∀v5,v5=List.replicate v4.toNat 0->∀v6,v6=((Gz.j0 a).length:Int)->ck (oG (a.length<=256)&&Gz.kn a) (ck (!(!(!true))||((!(!true))&&(oG (b.length<=256)&&Gz.kn b))) (ck (!(!(!true))||(!(!true))) (ck ((!true)||(!(!true))) (cond v1 (BQ [.sl .is ([]:List Int),.b NT]) (ck (!(!(oG ((a.length:Int)=0)))||(!(oG ((a.length:Int)=0)))) (ck (!(!(oG ((a.length:Int)=0)))||(!(oG ((a.length:Int)=0)))) (ck ((oG ((a.length:Int)=0))||(!(oG ((a.length:Int)=0)))) (cond v2 (BQ [.sl .is ([]:List Int),.b NS]) (ck (uu v4 v4 8) (ck (oG (a.length<=256)&&Gz.kn a) (ck (oG (b.length<=256)&&Gz.kn b) (aaX a b (Gz.j0 b) (Gz.j0 a) v6 0 v5))))))))))))=ρ):ayW a b=ρ:=Eq.trans (by kernel_rfl) (gH (mf K:):)
def aoD:Hint:=.s .o (.s (.b (.l (sc [0]) .o)) .o)
def awc(a:List UInt16):OT:=b9 PG dH 216 bB aoD [.sl .ws a]
def ab2(x0:List UInt16):OT:=cM PG dH 216 bB aoD 9 [.sl .ws x0]
theorem akx(x0:List UInt16)(K:∀v1,v1=IntKind.i64.wrap ((x0.length:Int) -1)->∀v2,v2=List.getD x0 v1.toNat 0->∀v3,v3=cond (oG (0<(x0.length:Int))) (oG (v2=0)) NT->ck (!(oG (0<(x0.length:Int)))||(oG (0<(x0.length:Int)))) (ck (!(oG (0<(x0.length:Int)))||(oG (0<(x0.length:Int)))) (ck (!(oG (0<(x0.length:Int)))||(((oG (0<(x0.length:Int)))&&(oG (0<(x0.length:Int))))&&(bG v1 x0.length))) (ck (!(oG (0<(x0.length:Int)))||(oG (0<(x0.length:Int)))) (ck (!(oG (0<(x0.length:Int)))||(oG (0<(x0.length:Int)))) (ck (!(oG (0<(x0.length:Int)))||(oG (0<(x0.length:Int)))) (cond v3 (ck (fe 0 v1 x0.length) (ab2 (List.take v1.toNat x0))) (BQ [.sl .ws x0])))))))=ρ):ab2 x0=ρ:=jx (by kernel_rfl) (po K:)
theorem awa(a:List UInt16):awc a=ab2 a:=by kernel_rfl
def atb(a:List UInt16):OT:=b9 PG dH 177 bB (.o) [.sl .ws a]
theorem ata(a:List UInt16)(K:∀v1,v1=((oG ((a.length:Int)<=256))&&(!(oG ((a.length:Int)=0))))->∀v2,v2=IntKind.i64.wrap ((a.length:Int) -1)->∀v3,v3=List.getD a v2.toNat 0->∀v4,v4=cond (oG ((a.length:Int)=0)) NS (!decide (v3=0))->∀v5,v5=cond (oG ((a.length:Int)<=256)) v4 NT->ck (!(oG ((a.length:Int)<=256))||(oG ((a.length:Int)<=256))) (ck (!(oG ((a.length:Int)<=256))||(oG ((a.length:Int)<=256))) (ck (!(oG ((a.length:Int)<=256))||(oG ((a.length:Int)<=256))) (ck (!v1||v1) (ck (!v1||v1) (ck (!v1||((v1&&v1)&&(bG v2 a.length))) (ck (!v1||v1) (ck (!v1||v1) (ck (!(oG ((a.length:Int)<=256))||((oG ((a.length:Int)<=256))&&((oG ((a.length:Int)=0))||v1))) (ck (!(oG ((a.length:Int)<=256))||(oG ((a.length:Int)<=256))) (BQ [.b v5]))))))))))=ρ):atb a=ρ:=Eq.trans (by kernel_rfl) (gH K:)
def ann:Hint:=.s .o (.s .o (.s (.b (.l [(0,.no),(3,.fF 800000),(800000,.pv)] .o)) .o))
def asx(v:UInt64):OT:=b9 PG dH 147 bB ann [.u64 v]
def abz(x0:UInt64)(x1:List UInt16):OT:=cM PG dH 147 bB ann 19 [.u64 x0,.pt,.sl .ws x1]
theorem ajO(x0:UInt64)(x1:List UInt16)(K:∀v1,v1=UInt16.ofInt (x0.toNat:Int)->∀v2,v2=cK x0 (16:UInt64).toNat->cond (oG (0<x0)) (ck (dP (x1.length+([v1]:List UInt16).length) 2) (abz v2 (x1++([v1]:List UInt16)))) (BQ [.sl .ws x1])=ρ):abz x0 x1=ρ:=jx (by kernel_rfl) (lY K:)
theorem asv(v:UInt64):asx v=abz v ([]:List UInt16):=by kernel_rfl
def avq:cE:=cW gr zs [(177,Yv,bB)]
def aoj:Hint:=.s .o (.s .o (.s .o (.s (.s .o (.b (.l (sc [4,15,16,17]) .o))) .o)))
def avp(a:List UInt16):OT:=b9 PG avq 266 bN aoj [.sl .ws a]
def abP(x0:UInt64)(x1:List UInt16)(x2 x3:Int):OT:=cM PG avq 266 bN aoj 87 [.u64 x0,.sl .ws x1,.i .i64 x2,.i .i64 x3]
theorem akj(x0:UInt64)(x1:List UInt16)(x2 x3:Int)(K:∀v1,v1=List.getD x1 x3.toNat 0->∀v2,v2=UInt64.ofInt (v1.toNat:Int)->∀v3,v3=IntKind.i64.wrap (16*x3)->∀v4,v4=(x0|||(jB v2 v3.toNat))->∀v5,v5=IntKind.i64.wrap (x3+1)->cond (oG (x3<x2)) (ck (bG x3 x1.length) (ck (oG (0<=v3)) (abP v4 x1 x2 v5))) (BQ [.u64 x0,.b NS])=ρ):abP x0 x1 x2 x3=ρ:=jx (by kernel_rfl) (gH K:)
theorem avo(a:List UInt16)(K:∀v1,v1=cond (!(Nt.is a)) NS (oG (4<(a.length:Int)))->ck (oG (a.length<=1099511627776)) (ck (!(!(!(Nt.is a)))||(!(!(Nt.is a)))) (ck (!(!(!(Nt.is a)))||(!(!(Nt.is a)))) (ck ((!(Nt.is a))||(!(!(Nt.is a)))) (cond v1 (BQ [.u64 0,.b NT]) (abP 0 a (a.length:Int) 0)))))=ρ):avp a=ρ:=Eq.trans (by kernel_rfl) (mf K:)
def aB9:cE:=cW gr zs [(177,Yv,bB),(179,ah4,bB)]
def aso(a:List UInt16):OT:=b9 PG aB9 149 bB (.o) [.sl .ws a]
theorem asn(a:List UInt16)(K:∀v1,v1=cond (!(Nt.is a)) NS (oG ((a.length:Int)=0))->∀v2,v2=IntKind.i64.wrap ((a.length:Int) -1)->∀v3,v3=IntKind.i64.wrap (16*v2)->∀v4,v4=List.getD a v2.toNat 0->∀v5,v5=IntKind.i64.wrap (v3+(Nt.bits v4.toNat:Int))->ck (oG (a.length<=1099511627776)) (ck (!(!(!(Nt.is a)))||(!(!(Nt.is a)))) (ck (!(!(!(Nt.is a)))||(!(!(Nt.is a)))) (ck ((!(Nt.is a))||(!(!(Nt.is a)))) (cond v1 (BQ [.i .i64 0]) (ck (bG v2 a.length) (BQ [.i .i64 v5]))))))=ρ):aso a=ρ:=Eq.trans (by kernel_rfl) (gH K:)
def anO:Hint:=.s .o (.s .o (.s (.s .o (.b (.l (sc [0,1,5]) .o))) .o))
def at6(a b:List UInt16):OT:=b9 PG dH 212 bB anO [.sl .ws a,.sl .ws b]
def abG(x0 x1:List UInt16)(x2:Int):OT:=cM PG dH 212 bB anO 43 [.sl .ws x0,.sl .ws x1,.i .i64 x2]
theorem ajZ(x0 x1:List UInt16)(x2:Int)(K:∀v1,v1=List.getD x0 x2.toNat 0->∀v2,v2=List.getD x1 x2.toNat 0->∀v3,v3=IntKind.i64.wrap (x2 -1)->cond (oG (0<=x2)) (ck (bG x2 x0.length) (ck (bG x2 x1.length) (cond (!decide (v1=v2)) (ck (bG x2 x0.length) (ck (bG x2 x1.length) (cond (oG (v1<v2)) (BQ [.i .i64 (-1)]) (BQ [.i .i64 1])))) (abG x0 x1 v3)))) (BQ [.i .i64 0])=ρ):abG x0 x1 x2=ρ:=jx (by kernel_rfl) (po K:)
theorem at5(a b:List UInt16)(K:∀v1,v1=IntKind.i64.wrap ((a.length:Int) -1)->cond (!decide ((a.length:Int)=(b.length:Int))) (cond (oG ((a.length:Int)<(b.length:Int))) (BQ [.i .i64 (-1)]) (BQ [.i .i64 1])) (abG a b v1)=ρ):at6 a b=ρ:=Eq.trans (by kernel_rfl) (mf K:)
def aBT:cE:=cW gr zs [(177,Yv,bB),(212,agW,bB)]
def ari(a b:List UInt16):OT:=b9 PG aBT 181 bB (.o) [.sl .ws a,.sl .ws b]
theorem arh(a b:List UInt16)(K:∀v1,v1=cond (!(Nt.is a)) NS (!(Nt.is b))->∀v2,v2=Nt.cmp (Nt.val a) (Nt.val b)->ck (oG (a.length<=1099511627776)) (ck (!(!(!(Nt.is a)))||((!(!(Nt.is a)))&&(oG (b.length<=1099511627776)))) (ck (!(!(!(Nt.is a)))||(!(!(Nt.is a)))) (ck ((!(Nt.is a))||(!(!(Nt.is a)))) (cond v1 (BQ [.i .i64 0]) (ck (oG (a.length<=1099511627776/\b.length<=1099511627776)&&(Nt.norm a&&Nt.norm b)) (BQ [.i .i64 v2]))))))=ρ):ari a b=ρ:=Eq.trans (by kernel_rfl) (lY K:)
def apt:Hint:=.s .o (.s .o (.s (.s .o (.b (.l [(3,.fF 800000),(9,.no),(10,.no),(11,.no),(800000,.pv)] .o))) .o))
def ayo(a:List UInt16):OT:=b9 PG dH 235 bB apt [.sl .ws a]
def acI(x0:List UInt16)(x1 x2:Int)(x3:List Int):OT:=cM PG dH 235 bB apt 43 [.pt,.sl .ws x0,.i .i64 x1,.i .i64 x2,.sl .is x3]
theorem alg(x0:List UInt16)(x1 x2:Int)(x3:List Int)(K:∀v1,v1=List.getD x0 x2.toNat 0->∀v2,v2=IntKind.i64.wrap (v1.toNat:Int)->∀v3,v3=List.set x3 x2.toNat v2->∀v4,v4=IntKind.i64.wrap (x2+1)->cond (oG (x2<x1)) (ck (bG x2 x0.length) (ck (bG x2 x3.length) (ck (oG (x2.toNat<x3.length)) (acI x0 x1 v4 v3)))) (BQ [.sl .is x3])=ρ):acI x0 x1 x2 x3=ρ:=jx (by kernel_rfl) (qS K:)
theorem ayn(a:List UInt16)(K:∀v1,v1=List.replicate (a.length:Int).toNat 0->ck (uu (a.length:Int) (a.length:Int) 8) (acI a (a.length:Int) 0 v1)=ρ):ayo a=ρ:=Eq.trans (by kernel_rfl) (mf K:)
def aog:cE:=cW gr zs [(177,Yv,bB),(216,adO,bB),(234,apF,bN),(235,apu,bB)]
def ahl:Hint:=.s .o (.s .o (.s .o (.s .o (.s .o (.s (.s .o (.b (.l [(7,.fF 800000),(800000,.pv),(8,.no),(27,.no),(28,.no),(29,.no)] .o))) (.s (.b (.l [(7,.fF 800000),(800000,.pv),(8,.no)] .o)) .o))))))
def avg(a b:List UInt16):OT:=b9 PG aog 211 bB ahl [.sl .ws a,.sl .ws b]
def aaH(x0:List UInt16)(x1:Int)(x2:List Int)(x3 x4:Int):OT:=cM PG aog 211 bB ahl 351 [.pt,.sl .ws x0,.i .i64 x1,.sl .is x2,.i .i64 x3,.i .i64 x4]
def abN(x0:List UInt16)(x1:Int):OT:=cM PG aog 211 bB ahl 319 [.pt,.sl .ws x0,.i .i64 x1]
theorem akh(x0:List UInt16)(x1:Int)(x2:List Int)(x3 x4:Int)(K:∀v1,v1=List.getD x2 x4.toNat 0->∀v2,v2=UInt16.ofInt (IntKind.i64.wrap (x1+v1))->∀v3,v3=Int.fdiv (IntKind.i64.wrap (x1+v1)) (2^(min (16:UInt64).toNat (IntKind.i64.bits)))->∀v4,v4=IntKind.i64.wrap (x4+1)->cond (oG (x4<x3)) (ck (bG x4 x2.length) (ck (dP (x0.length+([v2]:List UInt16).length) 2) (aaH (x0++([v2]:List UInt16)) v3 x2 x3 v4))) (abN x0 x1)=ρ):aaH x0 x1 x2 x3 x4=ρ:=jx (by kernel_rfl) (qS K:)
theorem akg(x0:List UInt16)(x1:Int)(K:∀v1,v1=([UInt16.ofInt x1]:List UInt16)->∀v2,v2=Int.fdiv x1 (2^(min (16:UInt64).toNat (IntKind.i64.bits)))->cond (oG (0<x1)) (ck (dP (x0.length+v1.length) 2) (abN (x0++v1) v2)) (ck (oG (x0.length<=1099511627776)) (BQ [.sl .ws (Nt.of (Nt.val x0))]))=ρ):abN x0 x1=ρ:=jx (by kernel_rfl) (lY K:)
theorem avf(a b:List UInt16)(K:∀v1,v1=cond (!(Nt.is a)) NS (!(Nt.is b))->∀v2,v2=(a.map λd=>(d.toNat:Int))->∀v3,v3=(b.map λd=>(d.toNat:Int))->∀v4,v4=((Gz.conv v2 v3).length:Int)->ck (oG (a.length<=1099511627776)) (ck (!(!(!(Nt.is a)))||((!(!(Nt.is a)))&&(oG (b.length<=1099511627776)))) (ck (!(!(!(Nt.is a)))||(!(!(Nt.is a)))) (ck ((!(Nt.is a))||(!(!(Nt.is a)))) (cond v1 (BQ [.sl .ws ([]:List UInt16)]) (ck (oG (a.length<=256)) (ck (oG (b.length<=256)) (ck (oG (v2.length<=256/\v3.length<=256)&&(Gz.kn v2&&Gz.kn v3)) (aaH ([]:List UInt16) 0 (Gz.conv v2 v3) v4 0))))))))=ρ):avg a b=ρ:=Eq.trans (by kernel_rfl) (qS K:)
def auz:cE:=cW gr zs [(216,adO,bB)]
def anX:Hint:=.s .o (.s .o (.s .o (.s (.s .o (.b (.l [(0,.no),(1,.no),(6,.fF 800000),(7,.no),(8,.no),(800000,.pv)] .o))) .o)))
def auy(a:List UInt16)(d:UInt16):OT:=b9 PG auz 214 bN anX [.sl .ws a,.u16 d]
def abJ(x0:List UInt16)(x1:UInt16)(x2:UInt32)(x3:Int)(x4:List UInt16):OT:=cM PG auz 214 bN anX 87 [.sl .ws x0,.u16 x1,.pt,.u32 x2,.i .i64 x3,.sl .ws x4]
theorem aj5(x0:List UInt16)(x1:UInt16)(x2:UInt32)(x3:Int)(x4:List UInt16)(K:∀v1,v1=uU x2 (16:UInt64).toNat->∀v2,v2=List.getD x0 x3.toNat 0->∀v3,v3=UInt32.ofInt (v2.toNat:Int)->∀v4,v4=UInt32.ofInt (x1.toNat:Int)->∀v5,v5=UInt16.ofInt (((v1|||v3)/v4).toNat:Int)->∀v6,v6=List.set x4 x3.toNat v5->∀v7,v7=IntKind.i64.wrap (x3 -1)->∀v8,v8=UInt16.ofInt (x2.toNat:Int)->cond (oG (0<=x3)) (ck (bG x3 x0.length) (ck (!decide (v4=0)) (ck (bG x3 x4.length) (ck (oG (x3.toNat<x4.length)) (ck (!decide (v4=0)) (abJ x0 x1 ((v1|||v3)% v4) v7 v6)))))) (ck (oG (x4.length<=1099511627776)) (BQ [.sl .ws (Nt.of (Nt.val x4)),.u16 v8]))=ρ):abJ x0 x1 x2 x3 x4=ρ:=jx (by kernel_rfl) (gH (po K:):)
theorem auw(a:List UInt16)(d:UInt16)(K:∀v1,v1=List.replicate (a.length:Int).toNat 0->∀v2,v2=IntKind.i64.wrap ((a.length:Int) -1)->ck (uu (a.length:Int) (a.length:Int) 2) (abJ a d 0 v2 v1)=ρ):auy a d=ρ:=Eq.trans (by kernel_rfl) (lY K:)
end Go.Eng
namespace Go.Eng
open Go.Proofs
variable{ρ:OT}
def agP:Hint:=.s .o (.s .o (.s .o (.s (.s .o (.b (.l [(1,.no),(5,.fF 800000),(800000,.pv),(6,.no),(9,.no),(10,.no),(11,.no)] .o))) (.j [(5,.fF 800000),(800000,.pv)] .o .o))))
def atX(a:List UInt16)(n:Int):OT:=b9 PG dH 178 qe agP [.sl .ws a,.i .i64 n]
def abD(x0:Int)(x1:List UInt16)(x2:UInt32)(x3:List UInt16)(x4 x5:Int):OT:=cM PG dH 178 qe agP 87 [.i .i64 x0,.pt,.sl .ws x1,.u32 x2,.sl .ws x3,.i .i64 x4,.i .i64 x5]
def aek(x0:List UInt16):OT:=df PG dH 178 qe agP 31 [.pt,.sl .ws x0]
theorem ajW(x0:Int)(x1:List UInt16)(x2:UInt32)(x3:List UInt16)(x4 x5:Int)(K:∀v1,v1=List.getD x3 x5.toNat 0->∀v2,v2=UInt32.ofInt (v1.toNat:Int)->∀v3,v3=(x2|||(uU v2 x0.toNat))->∀v4,v4=UInt16.ofInt (v3.toNat:Int)->∀v5,v5=yL v3 (16:UInt64).toNat->∀v6,v6=IntKind.i64.wrap (x5+1)->∀v7,v7=UInt16.ofInt (x2.toNat:Int)->cond (oG (x5<x4)) (ck (bG x5 x3.length) (ck (oG (0<=x0)) (ck (dP (x1.length+([v4]:List UInt16).length) 2) (abD x0 (x1++([v4]:List UInt16)) v5 x3 x4 v6)))) (cond (oG (0<x2)) (ck (dP (x1.length+([v7]:List UInt16).length) 2) (aek (x1++([v7]:List UInt16)))) (aek x1))=ρ):abD x0 x1 x2 x3 x4 x5=ρ:=jx (by kernel_rfl) (gH (lY K:):)
theorem ajV(x0:List UInt16):aek x0=BQ [.sl .ws x0]:=lH (by kernel_rfl) rfl
theorem atV(a:List UInt16)(n:Int):atX a n=abD n ([]:List UInt16) 0 a (a.length:Int) 0:=by kernel_rfl
def aoU:cE:=cW gr zs [(216,adO,bB)]
def ahZ:Hint:=.s .o (.s .o (.s (.s .o (.b (.l [(0,.no),(1,.no),(5,.fF 800000),(11,.no),(12,.no),(13,.no),(800000,.pv)] (.s .o (.s .o (.j [(0,.no),(1,.no),(5,.fF 800000),(11,.no),(12,.no),(13,.no),(800000,.pv)] .o .o)))))) .o))
def awZ(a:List UInt16)(n:Int):OT:=b9 PG aoU 217 bB ahZ [.sl .ws a,.i .i64 n]
def acf(x0:List UInt16)(x1:Int)(x2:List UInt16)(x3 x4:Int)(x5:List UInt16):OT:=cM PG aoU 217 bB ahZ 43 [.sl .ws x0,.i .i64 x1,.pt,.sl .ws x2,.i .i64 x3,.i .i64 x4,.sl .ws x5]
def aeu(x0:List UInt16)(x1:Int)(x2:List UInt16)(x3 x4:Int)(x5:List UInt16):OT:=df PG aoU 217 bB ahZ 459 [.sl .ws x0,.i .i64 x1,.pt,.sl .ws x2,.i .i64 x3,.i .i64 x4,.sl .ws x5]
theorem akN(x0:List UInt16)(x1:Int)(x2:List UInt16)(x3 x4:Int)(x5:List UInt16)(K:∀v1,v1=List.getD x2 x4.toNat 0->∀v2,v2=List.set x5 x4.toNat (uT v1 x1.toNat)->∀v3,v3=IntKind.i64.wrap (x4+1)->∀v4,v4=List.getD v2 x4.toNat 0->∀v5,v5=List.getD x0 v3.toNat 0->∀v6,v6=UInt32.ofInt (v5.toNat:Int)->∀v7,v7=IntKind.i64.wrap (16 -x1)->∀v8,v8=UInt16.ofInt ((uU v6 v7.toNat).toNat:Int)->∀v9,v9=List.set v2 x4.toNat (v4|||v8)->cond (oG (x4<x3)) (ck (bG x4 x2.length) (ck (oG (0<=x1)) (ck (bG x4 x5.length) (ck (oG (x4.toNat<x5.length)) (cond (oG (v3<(x0.length:Int))) (ck (bG x4 v2.length) (ck (oG (x4.toNat<v2.length)) (ck (bG v3 x0.length) (ck (oG (0<=v7)) (ck (bG x4 v2.length) (ck (oG (x4.toNat<v2.length)) (aeu x0 x1 x2 x3 x4 v9))))))) (aeu x0 x1 x2 x3 x4 v2)))))) (ck (oG (x5.length<=1099511627776)) (BQ [.sl .ws (Nt.of (Nt.val x5))]))=ρ):acf x0 x1 x2 x3 x4 x5=ρ:=jx (by kernel_rfl) (gH (qS K:):)
theorem akM(x0:List UInt16)(x1:Int)(x2:List UInt16)(x3 x4:Int)(x5:List UInt16)(K:∀v1,v1=IntKind.i64.wrap (x4+1)->acf x0 x1 x2 x3 v1 x5=ρ):aeu x0 x1 x2 x3 x4 x5=ρ:=lH (by kernel_rfl) (mf K:)
theorem awY(a:List UInt16)(n:Int)(K:∀v1,v1=List.replicate (a.length:Int).toNat 0->ck (uu (a.length:Int) (a.length:Int) 2) (acf a n a (a.length:Int) 0 v1)=ρ):awZ a n=ρ:=Eq.trans (by kernel_rfl) (mf K:)
def abj:Hint:=.s .o (.s .o (.s .o (.s .o (.s (.s .o (.b (.l [(0,.fF 800000),(1,.no),(4,.fF 800001),(6,.no),(7,.no),(800000,.pv),(800001,.pv)] (.s .o (.s (.b (.s .o (.s .o (.j [(0,.fF 800000),(1,.no),(4,.fF 800001),(6,.no),(7,.no),(9,.no),(800000,.pv),(800001,.pv)] (.b (.l [(0,.fF 800000),(1,.no),(4,.fF 800001),(6,.no),(7,.no),(9,.no),(10,.no),(800000,.pv),(800001,.pv)] .o)) (.s .o (.s (.s .o (.b (.l [(0,.fF 800000),(1,.no),(4,.fF 800001),(6,.no),(7,.no),(9,.no),(11,.no),(12,.no),(107,.no),(108,.no),(800000,.pv),(800001,.pv)] .o))) (.s .o (.s .o (.j [(0,.fF 800000),(1,.no),(4,.fF 800001),(6,.no),(7,.no),(9,.no),(800000,.pv),(800001,.pv)] (.s .o (.s (.s .o (.s .o (.s (.s .o (.b (.l [(0,.fF 800000),(1,.no),(4,.fF 800001),(6,.no),(7,.no),(9,.no),(17,.no),(169,.no),(170,.no),(800000,.pv),(800001,.pv)] .o))) .o))) .o)) .o))))))))) .o))))) .o))))
def aAW(u v:List UInt16):OT:=b9 PG dH 215 Yp abj [.sl .ws u,.sl .ws v]
def adq(x0:List UInt16)(x1 x2:Int)(x3 x4:List UInt16):OT:=cM PG dH 215 Yp abj 175 [.pt,.sl .ws x0,.pt,.i .i64 x1,.i .i64 x2,.sl .ws x3,.sl .ws x4]
def aah(x0:List UInt16)(x1 x2:Int)(x3 x4:UInt64)(x5 x6:List UInt16):OT:=cM PG dH 215 Yp abj 39215 [.pt,.sl .ws x0,.pt,.i .i64 x1,.i .i64 x2,.u64 x3,.u64 x4,.sl .ws x5,.sl .ws x6]
def aaC(x0:List UInt16)(x1 x2:Int)(x3:UInt64)(x4 x5:List UInt16):OT:=df PG dH 215 Yp abj 14639 [.pt,.sl .ws x0,.pt,.i .i64 x1,.i .i64 x2,.u64 x3,.sl .ws x4,.sl .ws x5]
def abi(x0:List UInt16)(x1 x2:Int)(x3:UInt64)(x4:Int)(x5:UInt64)(x6 x7:Int)(x8 x9:List UInt16):OT:=cM PG dH 215 Yp abj 358703 [.pt,.sl .ws x0,.pt,.i .i64 x1,.i .i64 x2,.u64 x3,.i .i64 x4,.u64 x5,.i .i64 x6,.i .i64 x7,.sl .ws x8,.sl .ws x9]
def abh(x0:List UInt16)(x1 x2:Int)(x3:UInt64)(x4:UInt32)(x5 x6:Int)(x7 x8:List UInt16):OT:=cM PG dH 215 Yp abj 90962223 [.pt,.sl .ws x0,.pt,.i .i64 x1,.i .i64 x2,.u64 x3,.u32 x4,.i .i64 x5,.i .i64 x6,.sl .ws x7,.sl .ws x8]
def aaB(x0:List UInt16)(x1 x2:Int)(x3:UInt64)(x4 x5:List UInt16):OT:=df PG dH 215 Yp abj 522543 [.pt,.sl .ws x0,.pt,.i .i64 x1,.i .i64 x2,.u64 x3,.sl .ws x4,.sl .ws x5]
theorem amt(x0:List UInt16)(x1 x2:Int)(x3 x4:List UInt16)(K:∀v1,v1=(IntKind.i64.wrap (x2+x1)).toNat->∀v2,v2=List.getD x3 v1 0->∀v3,v3=UInt64.ofInt (v2.toNat:Int)->∀v4,v4=jB v3 (16:UInt64).toNat->∀v5,v5=IntKind.i64.wrap ((IntKind.i64.wrap (x2+x1)) -1)->∀v6,v6=List.getD x3 v5.toNat 0->∀v7,v7=UInt64.ofInt (v6.toNat:Int)->∀v8,v8=IntKind.i64.wrap (x1 -1)->∀v9,v9=List.getD x0 v8.toNat 0->∀v10,v10=UInt64.ofInt (v9.toNat:Int)->cond (oG (0<=x2)) (ck (bG (IntKind.i64.wrap (x2+x1)) x3.length) (ck (oG (v1<x3.length)) (ck (bG v5 x3.length) (ck (oG (v5.toNat<x3.length)) (ck (bG v8 x0.length) (ck (!decide (v10=0)) (ck (bG v8 x0.length) (ck (!decide (v10=0)) (aah x0 x1 x2 ((v4|||v7)/v10) ((v4|||v7)% v10) x3 x4))))))))) (ck (fe 0 x1 x3.length) (BQ [.sl .ws x4,.sl .ws (List.take x1.toNat x3)]))=ρ):adq x0 x1 x2 x3 x4=ρ:=jx (by kernel_rfl) (gH (gH K:):)
theorem ams(x0:List UInt16)(x1 x2:Int)(x3 x4:UInt64)(x5 x6:List UInt16)(K:∀v1,v1=IntKind.i64.wrap (x1 -2)->∀v2,v2=List.getD x0 v1.toNat 0->∀v3,v3=UInt64.ofInt (v2.toNat:Int)->∀v4,v4=jB x4 (16:UInt64).toNat->∀v5,v5=IntKind.i64.wrap ((IntKind.i64.wrap (x2+x1)) -2)->∀v6,v6=List.getD x5 v5.toNat 0->∀v7,v7=UInt64.ofInt (v6.toNat:Int)->∀v8,v8=oG ((v4|||v7)<(x3*v3))->∀v9,v9=cond (oG (65535<x3)) NS v8->∀v10,v10=IntKind.i64.wrap (x1 -1)->∀v11,v11=List.getD x0 v10.toNat 0->∀v12,v12=UInt64.ofInt (v11.toNat:Int)->ck (!(!(oG (65535<x3)))||(!(oG (65535<x3)))) (ck (!(!(oG (65535<x3)))||(((!(oG (65535<x3)))&&(!(oG (65535<x3))))&&(bG v1 x0.length))) (ck (!(!(oG (65535<x3)))||(!(oG (65535<x3)))) (ck (!(!(oG (65535<x3)))||(!(oG (65535<x3)))) (ck (!(!(oG (65535<x3)))||((!(oG (65535<x3)))&&(!(oG (65535<x3))))) (ck (!(!(oG (65535<x3)))||(!(oG (65535<x3)))) (ck (!(!(oG (65535<x3)))||((!(oG (65535<x3)))&&(!(oG (65535<x3))))) (ck (!(!(oG (65535<x3)))||(!(oG (65535<x3)))) (ck (!(!(oG (65535<x3)))||(((!(oG (65535<x3)))&&(!(oG (65535<x3))))&&(bG v5 x5.length))) (ck (!(!(oG (65535<x3)))||((!(oG (65535<x3)))&&(oG (v5.toNat<x5.length)))) (ck (!(!(oG (65535<x3)))||(!(oG (65535<x3)))) (ck (!(!(oG (65535<x3)))||((!(oG (65535<x3)))&&(!(oG (65535<x3))))) (ck (!(!(oG (65535<x3)))||((!(oG (65535<x3)))&&(!(oG (65535<x3))))) (ck ((oG (65535<x3))||(!(oG (65535<x3)))) (cond v9 (ck (bG v10 x0.length) (cond (oG (65535<(x4+v12))) (aaC x0 x1 x2 (x3 -1) x5 x6) (aah x0 x1 x2 (x3 -1) (x4+v12) x5 x6))) (aaC x0 x1 x2 x3 x5 x6)))))))))))))))=ρ):aah x0 x1 x2 x3 x4 x5 x6=ρ:=jx (by kernel_rfl) (gH (lY (gH K:):):)
theorem aAP(x0:List UInt16)(x1 x2:Int)(x3:UInt64)(x4 x5:List UInt16):aaC x0 x1 x2 x3 x4 x5=abi x0 x1 x2 x3 0 0 x1 0 x4 x5:=lH (by kernel_rfl) rfl
theorem amr(x0:List UInt16)(x1 x2:Int)(x3:UInt64)(x4:Int)(x5:UInt64)(x6 x7:Int)(x8 x9:List UInt16)(K:∀v1,v1=List.getD x0 x7.toNat 0->∀v2,v2=UInt64.ofInt (v1.toNat:Int)->∀v3,v3=cK ((x3*v2)+x5) (16:UInt64).toNat->∀v4,v4=(IntKind.i64.wrap (x7+x2)).toNat->∀v5,v5=List.getD x8 v4 0->∀v6,v6=IntKind.i64.wrap (v5.toNat:Int)->∀v7,v7=(((x3*v2)+x5)&&&65535)->∀v8,v8=IntKind.i64.wrap (v7.toNat:Int)->∀v9,v9=IntKind.i64.wrap ((IntKind.i64.wrap (v6 -x4)) -v8)->∀v10,v10=Int.fdiv v9 (2^(min (16:UInt64).toNat (IntKind.i64.bits)))->∀v11,v11=dm .and .i64 v10 1->∀v12,v12=List.set x8 v4 (UInt16.ofInt v9)->∀jw,jw=IntKind.i64.wrap (x7+1)->∀iI,iI=(IntKind.i64.wrap (x2+x1)).toNat->∀iO,iO=List.getD x8 iI 0->∀mo,mo=IntKind.i64.wrap (iO.toNat:Int)->∀ug,ug=IntKind.i64.wrap (mo -x4)->∀o8,o8=IntKind.i64.wrap (x5.toNat:Int)->∀sj,sj=IntKind.i64.wrap (ug -o8)->∀v20,v20=List.set x8 iI (UInt16.ofInt sj)->cond (oG (x7<x6)) (ck (bG x7 x0.length) (ck (bG (IntKind.i64.wrap (x7+x2)) x8.length) (ck (oG (v4<x8.length)) (ck (bG (IntKind.i64.wrap (x7+x2)) x8.length) (ck (oG (v4<x8.length)) (abi x0 x1 x2 x3 v11 v3 x6 jw v12 x9)))))) (ck (bG (IntKind.i64.wrap (x2+x1)) x8.length) (ck (oG (iI<x8.length)) (ck (bG (IntKind.i64.wrap (x2+x1)) x8.length) (ck (oG (iI<x8.length)) (cond (oG (sj<0)) (abh x0 x1 x2 (x3 -1) 0 x1 0 v20 x9) (aaB x0 x1 x2 x3 v20 x9))))))=ρ):abi x0 x1 x2 x3 x4 x5 x6 x7 x8 x9=ρ:=jx (by kernel_rfl) (gH (gH (gH (gH K:):):):)
theorem amq(x0:List UInt16)(x1 x2:Int)(x3:UInt64)(x4:UInt32)(x5 x6:Int)(x7 x8:List UInt16)(K:∀v1,v1=(IntKind.i64.wrap (x6+x2)).toNat->∀v2,v2=List.getD x7 v1 0->∀v3,v3=UInt32.ofInt (v2.toNat:Int)->∀v4,v4=List.getD x0 x6.toNat 0->∀v5,v5=UInt32.ofInt (v4.toNat:Int)->∀v6,v6=UInt16.ofInt ((x4+(v3+v5)).toNat:Int)->∀v7,v7=yL (x4+(v3+v5)) (16:UInt64).toNat->∀v8,v8=IntKind.i64.wrap (x6+1)->∀v9,v9=(IntKind.i64.wrap (x2+x1)).toNat->∀v10,v10=List.getD x7 v9 0->∀v11,v11=UInt16.ofInt (x4.toNat:Int)->∀v12,v12=List.set x7 v9 (v10+v11)->cond (oG (x6<x5)) (ck (bG (IntKind.i64.wrap (x6+x2)) x7.length) (ck (oG (v1<x7.length)) (ck (bG x6 x0.length) (ck (bG (IntKind.i64.wrap (x6+x2)) x7.length) (ck (oG (v1<x7.length)) (abh x0 x1 x2 x3 v7 x5 v8 (List.set x7 v1 v6) x8)))))) (ck (bG (IntKind.i64.wrap (x2+x1)) x7.length) (ck (oG (v9<x7.length)) (ck (bG (IntKind.i64.wrap (x2+x1)) x7.length) (ck (oG (v9<x7.length)) (aaB x0 x1 x2 x3 v12 x8)))))=ρ):abh x0 x1 x2 x3 x4 x5 x6 x7 x8=ρ:=jx (by kernel_rfl) (gH (lY (gH K:):):)
theorem aAV(x0:List UInt16)(x1 x2:Int)(x3:UInt64)(x4 x5:List UInt16)(K:∀v1,v1=UInt16.ofInt (x3.toNat:Int)->∀v2,v2=List.set x5 x2.toNat v1->∀v3,v3=IntKind.i64.wrap (x2 -1)->ck (bG x2 x5.length) (ck (oG (x2.toNat<x5.length)) (adq x0 x1 v3 x4 v2))=ρ):aaB x0 x1 x2 x3 x4 x5=ρ:=lH (by kernel_rfl) (po K:)
theorem aAT(u v:List UInt16)(K:∀v1,v1=([0]:List UInt16)->∀v2,v2=IntKind.i64.wrap (((u++v1).length:Int) -(v.length:Int))->∀v3,v3=List.replicate v2.toNat 0->∀v4,v4=IntKind.i64.wrap (v2 -1)->ck (dP (u.length+v1.length) 2) (ck (uu v2 v2 2) (adq v (v.length:Int) v4 (u++v1) v3))=ρ):aAW u v=ρ:=Eq.trans (by kernel_rfl) (qS K:)
def aBP:cE:=cW gr zs [(147,abr,bB),(177,Yv,bB),(178,agR,qe),(179,ah4,bB),(212,agW,bB),(213,afY,qe),(214,ag6,bN),(215,aqd,Yp),(216,adO,bB),(217,aoT,bB)]
def aq4(a b:List UInt16):OT:=b9 PG aBP 182 gN (.o) [.sl .ws a,.sl .ws b]
theorem aq3(a b:List UInt16)(K:∀v1,v1=cond (!(Nt.is a)) NS (!(Nt.is b))->∀v2,v2=cond v1 NS (oG ((b.length:Int)=0))->∀v3,v3=Nt.cmp (Nt.val a) (Nt.val b)->∀v4,v4=List.getD b (0:Int).toNat 0->∀v5,v5=Nt.of (Nt.val a/v4.toNat)->∀v6,v6=UInt16.ofNat (Nt.val a% v4.toNat)->∀v7,v7=UInt64.ofInt (v6.toNat:Int)->∀v8,v8=IntKind.i64.wrap ((b.length:Int) -1)->∀v9,v9=List.getD b v8.toNat 0->∀v10,v10=IntKind.i64.wrap (16 -(Nt.bits v9.toNat:Int))->∀v11,v11=Nt.of (Nt.val a*2^v10.toNat)->∀v12,v12=Nt.of (Nt.val b*2^v10.toNat)->∀jw,jw=Nt.fix (v11.length+1 -v12.length) (Nt.val v11/Nt.val v12)->∀iI,iI=Nt.fix v12.length (Nt.val v11% Nt.val v12)->∀iO,iO=Nt.of (Nt.val (Nt.of (Nt.val iI))/2^v10.toNat)->ck (oG (a.length<=1099511627776)) (ck (!(!(!(Nt.is a)))||((!(!(Nt.is a)))&&(oG (b.length<=1099511627776)))) (ck (!(!(!(Nt.is a)))||(!(!(Nt.is a)))) (ck ((!(Nt.is a))||(!(!(Nt.is a)))) (ck (!(!v1)||(!v1)) (ck (!(!v1)||(!v1)) (ck (v1||(!v1)) (cond v2 (BQ [.sl .ws ([]:List UInt16),.sl .ws ([]:List UInt16),.b NT]) (ck (oG (a.length<=1099511627776/\b.length<=1099511627776)&&(Nt.norm a&&Nt.norm b)) (cond (oG (v3<0)) (ck (dP a.length 2) (BQ [.sl .ws ([]:List UInt16),.sl .ws a,.b NS])) (cond (oG ((b.length:Int)=1)) (ck (bG 0 b.length) (ck (oG (a.length<=1000000/\v4≠0)) (BQ [.sl .ws v5,.sl .ws (Nt.of v7.toNat),.b NS]))) (ck (bG v8 b.length) (ck (oG (a.length<=1000000/\0<=v10/\v10<16)&&Nt.norm a) (ck (oG (b.length<=1000000/\0<=v10/\v10<16)&&Nt.norm b) (ck (oG (v11.length<=1000000/\2<=v12.length/\v12.length<=v11.length/\32768<=(v12.getLast?.getD 0).toNat)) (ck (oG (jw.length<=1099511627776)) (ck (oG (iI.length<=1099511627776)) (ck (oG ((Nt.of (Nt.val iI)).length<=1000000/\0<=v10/\v10<16)) (BQ [.sl .ws (Nt.of (Nt.val jw)),.sl .ws iO,.b NS]))))))))))))))))))=ρ):aq4 a b=ρ:=Eq.trans (by kernel_rfl) (gH (gH (gH K:):):)
def aBL:cE:=cW gr zs [(177,Yv,bB),(178,agR,qe)]
def aqK(a:List UInt16)(n:Int):OT:=b9 PG aBL 148 bB (.o) [.sl .ws a,.i .i64 n]
theorem aqJ(a:List UInt16)(n:Int)(K:∀v1,v1=cond (!(Nt.is a)) NS (oG (n<(0:Int)))->∀v2,v2=cond v1 NS (oG ((4096:Int)<n))->∀v3,v3=cond v2 NS (oG ((a.length:Int)=(0:Int)))->∀v4,v4=IntKind.i64.wrap (Int.tdiv n (16:Int))->∀v5,v5=List.replicate v4.toNat (0:UInt16)->∀v6,v6=Nt.of (Nt.val a*2^(Int.tmod n (16:Int)).toNat)->ck (oG (a.length<=1099511627776)) (ck (!(!(!(Nt.is a)))||(!(!(Nt.is a)))) (ck ((!(Nt.is a))||(!(!(Nt.is a)))) (ck (!(!v1)||(!v1)) (ck (v1||(!v1)) (ck (!(!v2)||(!v2)) (ck (!(!v2)||(!v2)) (ck (v2||(!v2)) (cond v3 (BQ [.sl .ws ([]:List UInt16)]) (ck (!decide ((16:Int)=0)) (ck (uu v4 v4 2) (ck (!decide ((16:Int)=0)) (ck (oG (a.length<=1000000/\0<=(Int.tmod n (16:Int))/\(Int.tmod n (16:Int))<16)&&Nt.norm a) (ck (dP (v5.length+v6.length) 2) (BQ [.sl .ws (v5++v6)]))))))))))))))=ρ):aqK a n=ρ:=Eq.trans (by kernel_rfl) (gH (mf K:):)
def ahN:Hint:=.s .o (.s .o (.s .o (.s (.s .o (.b (.l [(1,.no),(7,.fF 800000),(800000,.pv),(8,.no),(16,.no),(17,.no),(18,.no)] .o))) (.j [(7,.fF 800000),(800000,.pv)] .o .o))))
def awu(a:List UInt16)(b c:Int):OT:=b9 PG dH 233 bB ahN [.sl .ws a,.i .i64 b,.i .i64 c]
def ab4(x0:Int)(x1:List UInt16)(x2:Int)(x3:List UInt16)(x4 x5:Int):OT:=cM PG dH 233 bB ahN 87 [.i .i64 x0,.pt,.sl .ws x1,.i .i64 x2,.sl .ws x3,.i .i64 x4,.i .i64 x5]
def aer(x0:List UInt16):OT:=df PG dH 233 bB ahN 31 [.pt,.sl .ws x0]
theorem akE(x0:Int)(x1:List UInt16)(x2:Int)(x3:List UInt16)(x4 x5:Int)(K:∀v1,v1=List.getD x3 x5.toNat 0->∀v2,v2=IntKind.i64.wrap (v1.toNat:Int)->∀v3,v3=IntKind.i64.wrap (x2+(IntKind.i64.wrap (v2*x0)))->∀v4,v4=([UInt16.ofInt v3]:List UInt16)->∀v5,v5=Int.fdiv v3 (2^(min (16:UInt64).toNat (IntKind.i64.bits)))->∀v6,v6=IntKind.i64.wrap (x5+1)->∀v7,v7=([UInt16.ofInt x2]:List UInt16)->cond (oG (x5<x4)) (ck (bG x5 x3.length) (ck (dP (x1.length+v4.length) 2) (ab4 x0 (x1++v4) v5 x3 x4 v6))) (cond (oG (0<x2)) (ck (dP (x1.length+v7.length) 2) (aer (x1++v7))) (aer x1))=ρ):ab4 x0 x1 x2 x3 x4 x5=ρ:=jx (by kernel_rfl) (gH (lY K:):)
theorem akD(x0:List UInt16):aer x0=BQ [.sl .ws x0]:=lH (by kernel_rfl) rfl
theorem awt(a:List UInt16)(b c:Int)(K:∀v1,v1=IntKind.i64.wrap ((a.length:Int)+1)->∀v2,v2=List.replicate (0:Int).toNat 0->ck (uu 0 v1 2) (ab4 b v2 c a (a.length:Int) 0)=ρ):awu a b c=ρ:=Eq.trans (by kernel_rfl) (lY K:)
def awV:cE:=cW gr zs [(147,abr,bB),(177,Yv,bB),(233,ahP,bB)]
def aoS:Hint:=.s .o (.s .o (.s .o (.s (.b (.l (sc [0,1,6]) .o)) .o)))
def awU(b e:Int):OT:=b9 PG awV 210 bN aoS [.i .i64 b,.i .i64 e]
def ace(x0 x1:Int)(x2:List UInt16):OT:=cM PG awV 210 bN aoS 39 [.i .i64 x0,.i .i64 x1,.sl .ws x2]
theorem akL(x0 x1:Int)(x2:List UInt16)(K:∀v1,v1=Nt.of (Nt.val x2*x0.toNat+(0:Int).toNat)->∀v2,v2=IntKind.i64.wrap (x1 -(1:Int))->cond (oG ((0:Int)<x1)) (ck (oG (x2.length<=1000000/\1<=x0/\x0<=65535/\0<=(0:Int)/\(0:Int)<=65535)&&Nt.norm x2) (ck (oG (v1.length<=1099511627776)) (cond (!(Nt.is v1)) (BQ [.sl .ws ([]:List UInt16),.b NT]) (ace x0 v2 v1)))) (BQ [.sl .ws x2,.b NS])=ρ):ace x0 x1 x2=ρ:=jx (by kernel_rfl) (lY K:)
theorem awT(b e:Int)(K:∀v1,v1=cond (oG (b<0)) NS (oG (65535<b))->∀v2,v2=cond v1 NS (oG (e<0))->∀v3,v3=cond (oG (e=0)) NS (oG (b=1))->∀v4,v4=Nt.of (1:UInt64).toNat->ck (!(!(oG (b<0)))||(!(oG (b<0)))) (ck ((oG (b<0))||(!(oG (b<0)))) (ck (!(!v1)||(!v1)) (ck (v1||(!v1)) (cond v2 (BQ [.sl .ws ([]:List UInt16),.b NT]) (ck (!(!(oG (e=0)))||(!(oG (e=0)))) (ck ((oG (e=0))||(!(oG (e=0)))) (cond v3 (BQ [.sl .ws v4,.b NS]) (cond (oG (b=0)) (BQ [.sl .ws ([]:List UInt16),.b NS]) (ace b e v4)))))))))=ρ):awU b e=ρ:=Eq.trans (by kernel_rfl) (qS K:)
def avl:cE:=cW gr zs [(177,Yv,bB),(233,ahP,bB)]
def aoh:Hint:=.s .o (.s .o (.s .o (.s (.s .o (.b (.l (sc [0,4,24,25]) .o))) .o)))
def avk(s:bD):OT:=b9 PG avl 242 bN aoh [.s s]
def abO(x0:bD)(x1:List UInt16)(x2 x3:Int):OT:=cM PG avl 242 bN aoh 87 [.s x0,.sl .ws x1,.i .i64 x2,.i .i64 x3]
theorem aki(x0:bD)(x1:List UInt16)(x2 x3:Int)(K:∀v1,v1=List.getD x0 x3.toNat (0:UInt8)->∀v2,v2=cond (oG (v1<(48:UInt8))) NS (oG ((57:UInt8)<v1))->∀v3,v3=IntKind.i64.wrap ((v1 -(48:UInt8)).toNat:Int)->∀v4,v4=Nt.of (Nt.val x1*(10:Int).toNat+v3.toNat)->∀v5,v5=IntKind.i64.wrap (x3+(1:Int))->cond (oG (x3<x2)) (ck (bG x3 x0.length) (ck (!(!(oG (v1<(48:UInt8))))||(((!(oG (v1<(48:UInt8))))&&(!(oG (v1<(48:UInt8)))))&&(bG x3 x0.length))) (ck (!(!(oG (v1<(48:UInt8))))||(!(oG (v1<(48:UInt8))))) (ck ((oG (v1<(48:UInt8)))||(!(oG (v1<(48:UInt8))))) (cond v2 (BQ [.sl .ws ([]:List UInt16),.b NT]) (ck (bG x3 x0.length) (ck (oG (x1.length<=1000000/\1<=(10:Int)/\(10:Int)<=65535/\0<=v3/\v3<=65535)&&Nt.norm x1) (abO x0 v4 x2 v5)))))))) (ck (oG (x1.length<=1099511627776)) (cond (!(Nt.is x1)) (BQ [.sl .ws ([]:List UInt16),.b NT]) (BQ [.sl .ws x1,.b NS])))=ρ):abO x0 x1 x2 x3=ρ:=jx (by kernel_rfl) (gH K:)
theorem avj(s:bD)(K:∀v1,v1=cond (oG (s=[])) NS (oG (1240<(s.length:Int)))->∀v2,v2=List.getD s (0:Int).toNat 0->∀v3,v3=((!v1)&&(oG (v2=48)))->∀v4,v4=cond (oG (v2=48)) (oG (1<(s.length:Int))) NT->ck (!(!(oG (s=[])))||(!(oG (s=[])))) (ck (!(!(oG (s=[])))||(!(oG (s=[])))) (ck ((oG (s=[]))||(!(oG (s=[])))) (ck (!(!v1)||((!v1)&&(bG 0 s.length))) (ck (!(!v1)||(!v1)) (ck (!(!v1)||(!v1)) (ck (!v3||v3) (ck (!v3||v3) (ck (!(!v1)||((!v1)&&(!(oG (v2=48))||v3))) (ck (v1||(!v1)) (cond (cond v1 NS v4) (BQ [.sl .ws ([]:List UInt16),.b NT]) (abO s ([]:List UInt16) (s.length:Int) 0)))))))))))=ρ):avk s=ρ:=Eq.trans (by kernel_rfl) (qS K:)
def avI:cE:=cW gr zs [(205,WN,bB),(232,amN,bB)]
def aoq:Hint:=.s .o (.s .o (.j (sc [1,2,8]) .o .o))
def avH(n:Bool)(m:UInt64)(e:Int):OT:=b9 PG avI 257 bN aoq [.b n,.u64 m,.i .i64 e]
def abV(x0:UInt64)(x1:Int)(x2:UInt64):OT:=df PG avI 257 bN aoq 7 [.u64 x0,.i .i64 x1,.u64 x2]
theorem avF(x0:UInt64)(x1:Int)(x2:UInt64)(K:∀v1,v1=cond (oG (x1<(-2000))) NS (oG (2000<x1))->∀v2,v2=(Lib.ctz 64 x0.toNat:Int)->∀v3,v3=(Nt.bits (cK x0 v2.toNat).toNat:Int)->∀v4,v4=cond (oG (53<v3)) NS (oG ((IntKind.i64.wrap (x1+v2))<(-1074)))->∀v5,v5=IntKind.i64.wrap ((IntKind.i64.wrap (x1+v2))+v3)->∀v6,v6=cond v4 NS (oG (1024<v5))->∀v7,v7=IntKind.i64.wrap (v5 -1)->∀v8,v8=IntKind.i64.wrap ((IntKind.i64.wrap (x1+v2))+1074)->∀v9,v9=jB (cK x0 v2.toNat) v8.toNat->∀v10,v10=IntKind.i64.wrap (53 -v3)->∀v11,v11=jB (cK x0 v2.toNat) v10.toNat->∀v12,v12=IntKind.i64.wrap ((IntKind.i64.wrap (x1+v2)) -v10)->∀jw,jw=IntKind.i64.wrap (v12+1075)->∀iI,iI=jB (UInt64.ofInt jw) (52:UInt64).toNat->∀iO,iO=(v11&&&4503599627370495)->cond (oG (x0=0)) (BQ [.u64 x2,.b NS]) (ck (!(!(oG (x1<(-2000))))||(!(oG (x1<(-2000))))) (ck ((oG (x1<(-2000)))||(!(oG (x1<(-2000))))) (cond v1 (BQ [.u64 0,.b NT]) (ck (oG (0<=v2)) (ck (!(!(oG (53<v3)))||(!(oG (53<v3)))) (ck ((oG (53<v3))||(!(oG (53<v3)))) (ck (!(!v4)||((!v4)&&(!v4))) (ck (!(!v4)||(!v4)) (ck (v4||(!v4)) (cond v6 (BQ [.u64 0,.b NT]) (cond (oG (v7<(-1022))) (ck (oG (0<=v8)) (BQ [.u64 (x2|||v9),.b NS])) (ck (oG (0<=v10)) (BQ [.u64 ((x2|||iI)|||iO),.b NS])))))))))))))=ρ):abV x0 x1 x2=ρ:=lH (by kernel_rfl) (gH (gH (gH K:):):)
theorem avG(n:Bool)(m:UInt64)(e:Int):avH n m e=cond n (abV m e 9223372036854775808) (abV m e 0):=by kernel_rfl
def axe:cE:=cW gr zs [(148,ad5,bB),(181,aed,bB),(182,aft,gN),(266,aok,bN)]
def aoZ:Hint:=.s .o (.j (sc [0,1]) .o .o)
def axd(a b:List UInt16)(e:Int):OT:=b9 PG axe 256 bN aoZ [.sl .ws a,.sl .ws b,.i .i64 e]
def ack(x0 x1:List UInt16):OT:=df PG axe 256 bN aoZ 3 [.sl .ws x0,.sl .ws x1]
theorem axb(x0 x1:List UInt16)(K:∀v1,v1=Nt.of (Nt.val x0/Nt.val x1)->∀v2,v2=Nt.of (Nt.val x0% Nt.val x1)->∀v3,v3=Nt.of (Nt.val v2*2^(1:Int).toNat)->∀v4,v4=Nt.cmp (Nt.val v3) (Nt.val x1)->∀v5,v5=((!(oG ((0:Int)<v4)))&&(oG (v4=(0:Int))))->∀v6,v6=(UInt64.ofNat (Nt.val v1))%(2:UInt64)->∀v7,v7=cond (oG (v4=(0:Int))) (oG (v6=(1:UInt64))) NT->∀v8,v8=cond (oG ((0:Int)<v4)) NS v7->∀v9,v9=(UInt64.ofNat (Nt.val v1))+(1:UInt64)->ck (Nt.is x0&&Nt.is x1&&oG (x1≠[])) (ck (oG (Nt.is v1=NS/\v1.length<=4)) (ck (oG (0<=(1:Int)/\(1:Int)<=4096)&&Nt.is v2) (ck (Nt.is v3&&Nt.is x1) (ck (!(!(oG ((0:Int)<v4)))||(!(oG ((0:Int)<v4)))) (ck (!(!(oG ((0:Int)<v4)))||(!(oG ((0:Int)<v4)))) (ck (!v5||(v5&&(!decide ((2:UInt64)=0)))) (ck (!v5||v5) (ck (!(!(oG ((0:Int)<v4)))||((!(oG ((0:Int)<v4)))&&(!(oG (v4=(0:Int)))||v5))) (ck ((oG ((0:Int)<v4))||(!(oG ((0:Int)<v4)))) (cond v8 (BQ [.u64 v9,.b (oG (v9=(9007199254740992:UInt64)))]) (BQ [.u64 (UInt64.ofNat (Nt.val v1)),.b NT])))))))))))=ρ):ack x0 x1=ρ:=lH (by kernel_rfl) (gH (qS K:):)
theorem axc(a b:List UInt16)(e:Int)(K:∀v1,v1=Nt.of (Nt.val a*2^(IntKind.i64.wrap (0 -e)).toNat)->∀v2,v2=Nt.of (Nt.val b*2^e.toNat)->cond (oG (e<0)) (ck (oG (0<=(IntKind.i64.wrap (0 -e))/\(IntKind.i64.wrap (0 -e))<=4096)&&Nt.is a) (ack v1 b)) (ck (oG (0<=e/\e<=4096)&&Nt.is b) (ack a v2))=ρ):axd a b e=ρ:=Eq.trans (by kernel_rfl) (lY K:)
def avD:cE:=cW gr zs [(149,af8,bB),(256,ao0,bN),(257,aor,bN)]
def aoo:Hint:=.s .o (.s .o (.s .o (.j (sc [6,7]) .o .o)))
def avC(a b:List UInt16):OT:=b9 PG avD 243 bN aoo [.sl .ws a,.sl .ws b]
def abU(x0:Int)(x1:UInt64):OT:=df PG avD 243 bN aoo 15 [.i .i64 x0,.u64 x1]
theorem avA(x0:Int)(x1:UInt64)(K:∀v1,v1=Nr.pat (Nr.join NT x1.toNat x0)->∀v2,v2=(Nr.join NT x1.toNat x0).isSome->ck (oG (-1100<=x0/\x0<=2000)) (BQ [.u64 v1,.b v2])=ρ):abU x0 x1=ρ:=lH (by kernel_rfl) (lY K:)
theorem avB(a b:List UInt16)(K:∀v1,v1=IntKind.i64.wrap ((Nt.bits (Nt.val a):Int) -(Nt.bits (Nt.val b):Int))->∀v2,v2=IntKind.i64.wrap (v1 -53)->∀v3,v3=UInt64.ofNat (Nr.Aq (Nr.mE (Nt.val a) (rZ v2 (-1074))) (Nr.mi (Nt.val b) (rZ v2 (-1074))))->∀v4,v4=Nr.qf (Nr.mE (Nt.val a) (rZ v2 (-1074))) (Nr.mi (Nt.val b) (rZ v2 (-1074)))->∀v5,v5=cond (oG (9007199254740992<=v3)) (!v4) NT->∀v6,v6=IntKind.i64.wrap ((rZ v2 (-1074))+1)->∀v7,v7=UInt64.ofNat (Nr.Aq (Nr.mE (Nt.val a) v6) (Nr.mi (Nt.val b) v6))->∀v8,v8=Nr.qf (Nr.mE (Nt.val a) v6) (Nr.mi (Nt.val b) v6)->ck (Nt.is a) (ck (Nt.is b) (ck (Nt.is a&&Nt.is b&&oG (-4096<=(rZ v2 (-1074))/\(rZ v2 (-1074))<=4096/\0<Nt.val b/\Nr.mE (Nt.val a) (rZ v2 (-1074))<2^4090/\Nr.mi (Nt.val b) (rZ v2 (-1074))<2^4090/\Nr.mE (Nt.val a) (rZ v2 (-1074))<2^60*Nr.mi (Nt.val b) (rZ v2 (-1074)))) (ck (!(oG (9007199254740992<=v3))||(oG (9007199254740992<=v3))) (ck (!(oG (9007199254740992<=v3))||(oG (9007199254740992<=v3))) (cond v5 (ck (Nt.is a&&Nt.is b&&oG (-4096<=v6/\v6<=4096/\0<Nt.val b/\Nr.mE (Nt.val a) v6<2^4090/\Nr.mi (Nt.val b) v6<2^4090/\Nr.mE (Nt.val a) v6<2^60*Nr.mi (Nt.val b) v6)) (abU v6 v7)) (abU (rZ v2 (-1074)) v3))))))=ρ):avC a b=ρ:=Eq.trans (by kernel_rfl) (gH (po K:):)
def avN:cE:=cW gr zs [(147,abr,bB),(157,afB,bB),(210,ahY,bN),(211,ahn,bB),(219,af6,bB),(241,amQ,bB),(242,aoi,bN),(243,aop,bN)]
def aos:Hint:=.s .o (.s .o (.s .o (.s .o (.s .o (.s .o (.s .o (.s .o (.s .o (.s .o (.j (sc [7,9]) .o .o))))))))))
def avM(d:bD)(x:Int):OT:=b9 PG avN 220 bN aos [.s d,.i .i64 x]
def abW(x0 x1:List UInt16):OT:=df PG avN 220 bN aos 2047 [.sl .ws x0,.sl .ws x1]
theorem avK(x0 x1:List UInt16)(K:∀v1,v1=Nr.pat (Nr.kG (Nt.val x0) (Nt.val x1))->∀v2,v2=(Nr.kG (Nt.val x0) (Nt.val x1)).isSome->ck (Nt.is x0&&Nt.is x1&&oG (0<Nt.val x0/\0<Nt.val x1/\Nt.val x0<2^1100/\Nt.val x1<2^2200)) (BQ [.u64 v1,.b v2])=ρ):abW x0 x1=ρ:=lH (by kernel_rfl) (lY K:)
theorem avL(d:bD)(x:Int)(K:∀(v1:Bool)(h1:v1=(cond (oG (((d).length:Int)<(1:Int))) NS (oG ((300:Int)<((d).length:Int)))))(v2:bD)(h2:v2=(Lib.trimS d (([48,49,50,51,52,53,54,55,56,57]:bD))))(v3:Bool)(h3:v3=(cond v1 NS (!decide (v2=([]:bD)))))(v4:bD)(h4:v4=(Lib.trimLeftS d (([48]:bD))))(v5:Bool)(h5:v5=(cond (oG (v4=([]:bD))) NS (oG (x<(-1000:Int)))))(v6:Int)(h6:v6=(IntKind.i64.wrap (((d).length:Int) -((v4).length:Int))))(v7:bD)(h7:v7=(Lib.trimRightS v4 (([48]:bD))))(v8:List UInt16)(h8:v8=(Nt.of (((1:UInt64))).toNat))(v9:Int)(h9:v9=(IntKind.i64.wrap ((IntKind.i64.wrap (x -v6)) -((v7).length:Int))))(v10:List UInt16)(jo:v10=(Nt.of ((((10:Int))).toNat^(v9).toNat)))(v11:List UInt16)(lg:v11=(Nt.of (Nt.val ((Nt.of (Nr.num v7)))*Nt.val v10)))(v12:List UInt16)(lZ:v12=(Nt.of ((((10:Int))).toNat^(((IntKind.i64.wrap (0 -v9)))).toNat))),ck (!(!(oG (((d).length:Int)<(1:Int))))||(!(oG (((d).length:Int)<(1:Int))))) (ck (!(!(oG (((d).length:Int)<(1:Int))))||(!(oG (((d).length:Int)<(1:Int))))) (ck ((oG (((d).length:Int)<(1:Int)))||(!(oG (((d).length:Int)<(1:Int))))) (ck (!(!v1)||((!v1)&&(oG ((d).length<=1099511627776/\((([48,49,50,51,52,53,54,55,56,57]:bD))).length<=100)&&((([48,49,50,51,52,53,54,55,56,57]:bD))).all (λb=>oG (b.toNat<128))))) (ck (!(!v1)||(!v1)) (ck (v1||(!v1)) (cond v3 (BQ [(.u64 0),(.b NT)]) (ck (oG ((d).length<=1099511627776/\((([48]:bD))).length<=100)&&((([48]:bD))).all (λb=>oG (b.toNat<128))) (ck (!(!(oG (v4=([]:bD))))||(!(oG (v4=([]:bD))))) (ck ((oG (v4=([]:bD)))||(!(oG (v4=([]:bD))))) (cond v5 (BQ [(.u64 0),(.b NS)]) (cond (oG ((1000:Int)<x)) (BQ [(.u64 0),(.b NT)]) (ck (oG ((v4).length<=1099511627776/\((([48]:bD))).length<=100)&&((([48]:bD))).all (λb=>oG (b.toNat<128))) (cond (oG ((IntKind.i64.wrap (x -v6))<(-330:Int))) (BQ [(.u64 0),(.b NS)]) (cond (oG ((310:Int)<(IntKind.i64.wrap (x -v6)))) (BQ [(.u64 0),(.b NT)]) (ck (oG (1<=(v7).length/\(v7).length<=300/\(v7).getD 0 0≠48)&&(v7).all Nr.dG) (cond (oG ((0:Int)<=v9)) (ck (oG (2<=((10:Int))/\((10:Int))<=65535/\0<=v9/\v9<=1000/\(((10:Int))).toNat^(v9).toNat<2^4096)) (ck (Nt.is ((Nt.of (Nr.num v7)))&&Nt.is v10) (abW v11 v8))) (ck (oG (2<=((10:Int))/\((10:Int))<=65535/\0<=((IntKind.i64.wrap (0 -v9)))/\((IntKind.i64.wrap (0 -v9)))<=1000/\(((10:Int))).toNat^(((IntKind.i64.wrap (0 -v9)))).toNat<2^4096)) (abW (Nt.of (Nr.num v7)) v12))))))))))))))))))=ρ):avM d x=ρ:=Eq.trans (by kernel_rfl) (K _ rfl _ rfl _ rfl _ rfl _ rfl _ rfl _ rfl _ rfl _ rfl _ rfl _ rfl _ rfl)
def aqr(s:bD)(at_:Int)(c d:UInt8):OT:=b9 PG dH 102 bB (.o) [.s s,.i .i64 at_,.u8 c,.u8 d]
theorem aqq(s:bD)(at_:Int)(c d:UInt8)(K:∀v1,v1=List.getD s at_.toNat 0->∀v2,v2=((oG (at_<(s.length:Int)))&&(!(oG (v1=c))))->∀v3,v3=cond (oG (v1=c)) NS (oG (v1=d))->∀v4,v4=cond (oG (at_<(s.length:Int))) v3 NT->ck (!(oG (at_<(s.length:Int)))||(((oG (at_<(s.length:Int)))&&(oG (at_<(s.length:Int))))&&(bG at_ s.length))) (ck (!(oG (at_<(s.length:Int)))||((oG (at_<(s.length:Int)))&&(oG (at_<(s.length:Int))))) (ck (!(oG (at_<(s.length:Int)))||(oG (at_<(s.length:Int)))) (ck (!v2||((v2&&v2)&&(bG at_ s.length))) (ck (!v2||(v2&&v2)) (ck (!(oG (at_<(s.length:Int)))||((oG (at_<(s.length:Int)))&&((oG (v1=c))||v2))) (ck (!(oG (at_<(s.length:Int)))||(oG (at_<(s.length:Int)))) (BQ [.b v4])))))))=ρ):aqr s at_ c d=ρ:=Eq.trans (by kernel_rfl) (qS K:)
def aoN:Hint:=.s .o (.s (.b (.l (sc [0,1]) .o)) .o)
def awJ(s:bD)(at_:Int):OT:=b9 PG dH 103 bB aoN [.s s,.i .i64 at_]
def ab8(x0:bD)(x1:Int):OT:=cM PG dH 103 bB aoN 9 [.s x0,.i .i64 x1]
theorem akH(x0:bD)(x1:Int)(K:∀v1,v1=List.getD x0 x1.toNat 0->∀v2,v2=cond (oG (x1<(x0.length:Int))) (oG (48<=v1)) NT->∀v3,v3=cond v2 (oG (v1<=57)) NT->∀v4,v4=IntKind.i64.wrap (x1+1)->ck (!(oG (x1<(x0.length:Int)))||(((oG (x1<(x0.length:Int)))&&(oG (x1<(x0.length:Int))))&&(bG x1 x0.length))) (ck (!(oG (x1<(x0.length:Int)))||(oG (x1<(x0.length:Int)))) (ck (!(oG (x1<(x0.length:Int)))||(oG (x1<(x0.length:Int)))) (ck (!v2||((v2&&v2)&&(bG x1 x0.length))) (ck (!v2||v2) (ck (!v2||v2) (cond v3 (ab8 x0 v4) (BQ [.i .i64 x1])))))))=ρ):ab8 x0 x1=ρ:=jx (by kernel_rfl) (qS K:)
theorem awH(s:bD)(at_:Int):awJ s at_=ab8 s at_:=by kernel_rfl
def aeY:cE:=cW gr zs [(102,amT,bB),(103,aoO,bB)]
def adX:Hint:=.s .o (.s .o (.j (sc [0,3,4]) .o (.s .o (.s .o (.s .o (.j (sc [0,3,4]) .o (.j (sc [0,3,4]) (.s .o (.s (.s .o (.s .o (.j (sc [0,3,4]) .o .o))) .o)) .o)))))))
def aA2(s:bD):OT:=b9 PG aeY 66 bB adX [.s s]
def adu(x0:bD)(x1 x2:Int):OT:=df PG aeY 66 bB adX 7 [.s x0,.i .i64 x1,.i .i64 x2]
def adt(x0:bD)(x1 x2:Int):OT:=df PG aeY 66 bB adX 127 [.s x0,.i .i64 x1,.i .i64 x2]
def ads(x0:bD)(x1 x2:Int):OT:=df PG aeY 66 bB adX 7551 [.s x0,.i .i64 x1,.i .i64 x2]
def adr(x0:bD)(x1 x2:Int):OT:=df PG aeY 66 bB adX 255 [.s x0,.i .i64 x1,.i .i64 x2]
theorem aA0(x0:bD)(x1 x2:Int)(K:∀v1,v1=x1+(Nr.run (x0.drop x1.toNat):Int)->∀v2,v2=List.getD x0 x1.toNat 0->∀v3,v3=((!(oG (v1=x1)))&&(oG (v2=48)))->∀v4,v4=IntKind.i64.wrap (x1+1)->∀v5,v5=cond (oG (v2=48)) (oG (v4<v1)) NT->∀v6,v6=cond (oG (v1=x1)) NS v5->∀v7,v7=(oG (v1<x0.length)&&(oG (x0.getD v1.toNat 0=46)||oG (x0.getD v1.toNat 0=46)))->∀v8,v8=IntKind.i64.wrap (v1+1)->∀v9,v9=v8+(Nr.run (x0.drop v8.toNat):Int)->ck (oG (x0.length<=1099511627776)&&oG (0<=x1/\x1<=1099511627776)) (ck (!(!(oG (v1=x1)))||(((!(oG (v1=x1)))&&(!(oG (v1=x1))))&&(bG x1 x0.length))) (ck (!(!(oG (v1=x1)))||(!(oG (v1=x1)))) (ck (!(!(oG (v1=x1)))||(!(oG (v1=x1)))) (ck (!v3||v3) (ck (!v3||(v3&&v3)) (ck (!(!(oG (v1=x1)))||((!(oG (v1=x1)))&&(!(oG (v2=48))||v3))) (ck ((oG (v1=x1))||(!(oG (v1=x1)))) (cond v6 (BQ [.i .i64 0]) (ck (oG (x0.length<=1099511627776)&&oG (0<=v1)) (cond v7 (ck (oG (x0.length<=1099511627776)&&oG (0<=v8/\v8<=1099511627776)) (cond (oG (v9=v8)) (BQ [.i .i64 0]) (adt x0 v9 2))) (adt x0 v1 x2)))))))))))=ρ):adu x0 x1 x2=ρ:=lH (by kernel_rfl) (gH (qS K:):)
theorem aAZ(x0:bD)(x1 x2:Int)(K:∀v1,v1=(oG (x1<x0.length)&&(oG (x0.getD x1.toNat 0=101)||oG (x0.getD x1.toNat 0=69)))->∀v2,v2=IntKind.i64.wrap (x1+1)->∀v3,v3=(oG (v2<x0.length)&&(oG (x0.getD v2.toNat 0=43)||oG (x0.getD v2.toNat 0=45)))->∀v4,v4=IntKind.i64.wrap (v2+1)->ck (oG (x0.length<=1099511627776)&&oG (0<=x1)) (cond v1 (ck (oG (x0.length<=1099511627776)&&oG (0<=v2)) (cond v3 (ads x0 v4 2) (ads x0 v2 2))) (adr x0 x1 x2))=ρ):adt x0 x1 x2=ρ:=lH (by kernel_rfl) (qS K:)
theorem aAY(x0:bD)(x1 x2:Int)(K:∀v1,v1=x1+(Nr.run (x0.drop x1.toNat):Int)->ck (oG (x0.length<=1099511627776)&&oG (0<=x1/\x1<=1099511627776)) (cond (oG (v1=x1)) (BQ [.i .i64 0]) (adr x0 v1 x2))=ρ):ads x0 x1 x2=ρ:=lH (by kernel_rfl) (mf K:)
theorem aAX(x0:bD)(x1 x2:Int):adr x0 x1 x2=cond (!decide (x1=(x0.length:Int))) (BQ [.i .i64 0]) (BQ [.i .i64 x2]):=lH (by kernel_rfl) rfl
theorem aA1(s:bD)(K:∀v1,v1=(oG ((0:Int)<s.length)&&(oG (s.getD (0:Int).toNat 0=(45:UInt8))||oG (s.getD (0:Int).toNat 0=(45:UInt8))))->∀v2,v2=IntKind.i64.wrap ((0:Int)+(1:Int))->ck (oG (s.length<=1099511627776)&&oG (0<=(0:Int))) (cond v1 (adu s v2 (1:Int)) (adu s (0:Int) (1:Int)))=ρ):aA2 s=ρ:=Eq.trans (by kernel_rfl) (lY K:)
def anL:Hint:=.s .o (.s .o (.s (.b (.l (sc [0,3]) .o)) .o))
def atU(s:bD):OT:=b9 PG dH 105 bB anL [.s s]
def abC(x0:bD)(x1:Int):OT:=cM PG dH 105 bB anL 19 [.s x0,.i .i64 x1]
theorem ajT(x0:bD)(x1:Int)(K:∀v1,v1=List.getD x0 x1.toNat 0->∀v2,v2=cond (oG (x1<(x0.length:Int))) (oG (48<=v1)) NT->∀v3,v3=cond v2 (oG (v1<=57)) NT->∀v4,v4=IntKind.i64.wrap (x1+1)->ck (!(oG (x1<(x0.length:Int)))||(((oG (x1<(x0.length:Int)))&&(oG (x1<(x0.length:Int))))&&(bG x1 x0.length))) (ck (!(oG (x1<(x0.length:Int)))||(oG (x1<(x0.length:Int)))) (ck (!(oG (x1<(x0.length:Int)))||(oG (x1<(x0.length:Int)))) (ck (!v2||((v2&&v2)&&(bG x1 x0.length))) (ck (!v2||v2) (ck (!v2||v2) (cond v3 (abC x0 v4) (BQ [.i .i64 x1])))))))=ρ):abC x0 x1=ρ:=jx (by kernel_rfl) (qS K:)
theorem atS(s:bD):atU s=abC s 0:=by kernel_rfl
end Go.Eng
namespace Go.Eng
open Go.Proofs
variable{ρ:OT}
def ae3:cE:=cW gr zs [(105,anM,bB)]
def adY:Hint:=.s .o (.s .o (.j (sc [0,3]) .o (.s .o (.s .o (.s .o (.j (sc [0,3]) .o (.j (sc [0,3]) (.s .o (.s (.s .o (.j (sc [0]) .o .o)) .o)) .o)))))))
def aA8(s:bD):OT:=b9 PG ae3 69 bB adY [.s s]
def ady(x0:bD)(x1:Int):OT:=df PG ae3 69 bB adY 7 [.s x0,.i .i64 x1]
def adx(x0:bD)(x1:Int):OT:=df PG ae3 69 bB adY 127 [.s x0,.i .i64 x1]
def adw(x0:bD):OT:=df PG ae3 69 bB adY 3455 [.s x0]
def adv(x0:bD)(x1:Int):OT:=df PG ae3 69 bB adY 255 [.s x0,.i .i64 x1]
theorem aA6(x0:bD)(x1:Int)(K:∀(v1:UInt8)(h1:v1=(List.getD x0 ((0:Int)).toNat (0:UInt8)))(v2:Bool)(h2:v2=((!(oG (((Nr.run x0:Int))=(0:Int))))&&(oG (v1=(48:UInt8)))))(v3:Bool)(h3:v3=(cond (oG (v1=(48:UInt8))) (oG ((1:Int)<((Nr.run x0:Int)))) NT))(v4:Bool)(h4:v4=(cond (oG (((Nr.run x0:Int))=(0:Int))) NS v3))(v5:bD)(h5:v5=(List.drop (((Nr.run x0:Int))).toNat x0))(v6:UInt8)(h6:v6=(List.getD v5 ((0:Int)).toNat (0:UInt8)))(v7:Bool)(h7:v7=(cond (oG ((0:Int)<((v5).length:Int))) (oG (v6=(46:UInt8))) NT))(v8:bD)(h8:v8=(List.drop ((1:Int)).toNat v5))(v9:Int)(h9:v9=(IntKind.i64.wrap ((1:Int)+((Nr.run v8:Int))))),ck (oG ((x0).length<=1099511627776)) (ck (!(!(oG (((Nr.run x0:Int))=(0:Int))))||((!(oG (((Nr.run x0:Int))=(0:Int))))&&(bG (0:Int) (x0).length))) (ck (!(!(oG (((Nr.run x0:Int))=(0:Int))))||(!(oG (((Nr.run x0:Int))=(0:Int))))) (ck (!(!(oG (((Nr.run x0:Int))=(0:Int))))||(!(oG (((Nr.run x0:Int))=(0:Int))))) (ck (!v2||v2) (ck (!(!(oG (((Nr.run x0:Int))=(0:Int))))||((!(oG (((Nr.run x0:Int))=(0:Int))))&&(!(oG (v1=(48:UInt8)))||v2))) (ck ((oG (((Nr.run x0:Int))=(0:Int)))||(!(oG (((Nr.run x0:Int))=(0:Int))))) (cond v4 (BQ [(.i .i64 0)]) (ck (fe ((Nr.run x0:Int)) (x0).length (x0).length) (ck (!(oG ((0:Int)<((v5).length:Int)))||((oG ((0:Int)<((v5).length:Int)))&&(bG (0:Int) (v5).length))) (ck (!(oG ((0:Int)<((v5).length:Int)))||(oG ((0:Int)<((v5).length:Int)))) (ck (!(oG ((0:Int)<((v5).length:Int)))||(oG ((0:Int)<((v5).length:Int)))) (cond v7 (ck (fe (1:Int) (v5).length (v5).length) (ck (oG ((v8).length<=1099511627776)) (cond (oG (((Nr.run v8:Int))=(0:Int))) (BQ [(.i .i64 0)]) (ck (fe v9 (v5).length (v5).length) (adx (List.drop (v9).toNat v5) (2:Int)))))) (adx v5 x1)))))))))))))=ρ):ady x0 x1=ρ:=((oA _ _ _ _ _ _ _).trans (by kernel_rfl)).trans (K _ rfl _ rfl _ rfl _ rfl _ rfl _ rfl _ rfl _ rfl _ rfl)
theorem aA5(x0:bD)(x1:Int)(K:∀(v1:UInt8)(h1:v1=(List.getD x0 ((0:Int)).toNat (0:UInt8)))(v2:Bool)(h2:v2=((oG ((0:Int)<((x0).length:Int)))&&(!(oG (v1=(101:UInt8))))))(v3:Bool)(h3:v3=(cond (oG (v1=(101:UInt8))) NS (oG (v1=(69:UInt8)))))(v4:Bool)(h4:v4=(cond (oG ((0:Int)<((x0).length:Int))) v3 NT))(v5:bD)(h5:v5=(List.drop ((1:Int)).toNat x0))(v6:UInt8)(h6:v6=(List.getD v5 ((0:Int)).toNat (0:UInt8)))(v7:Bool)(h7:v7=((oG ((0:Int)<((v5).length:Int)))&&(!(oG (v6=(43:UInt8))))))(v8:Bool)(h8:v8=(cond (oG (v6=(43:UInt8))) NS (oG (v6=(45:UInt8)))))(v9:Bool)(h9:v9=(cond (oG ((0:Int)<((v5).length:Int))) v8 NT))(v10:bD)(jo:v10=(List.drop ((1:Int)).toNat v5)),ck (!(oG ((0:Int)<((x0).length:Int)))||((oG ((0:Int)<((x0).length:Int)))&&(bG (0:Int) (x0).length))) (ck (!(oG ((0:Int)<((x0).length:Int)))||(oG ((0:Int)<((x0).length:Int)))) (ck (!(oG ((0:Int)<((x0).length:Int)))||(oG ((0:Int)<((x0).length:Int)))) (ck (!v2||(v2&&(bG (0:Int) (x0).length))) (ck (!v2||v2) (ck (!(oG ((0:Int)<((x0).length:Int)))||((oG ((0:Int)<((x0).length:Int)))&&((oG (v1=(101:UInt8)))||v2))) (ck (!(oG ((0:Int)<((x0).length:Int)))||(oG ((0:Int)<((x0).length:Int)))) (cond v4 (ck (fe (1:Int) (x0).length (x0).length) (ck (!(oG ((0:Int)<((v5).length:Int)))||((oG ((0:Int)<((v5).length:Int)))&&(bG (0:Int) (v5).length))) (ck (!(oG ((0:Int)<((v5).length:Int)))||(oG ((0:Int)<((v5).length:Int)))) (ck (!(oG ((0:Int)<((v5).length:Int)))||(oG ((0:Int)<((v5).length:Int)))) (ck (!v7||(v7&&(bG (0:Int) (v5).length))) (ck (!v7||v7) (ck (!(oG ((0:Int)<((v5).length:Int)))||((oG ((0:Int)<((v5).length:Int)))&&((oG (v6=(43:UInt8)))||v7))) (ck (!(oG ((0:Int)<((v5).length:Int)))||(oG ((0:Int)<((v5).length:Int)))) (cond v9 (ck (fe (1:Int) (v5).length (v5).length) (adw v10)) (adw v5)))))))))) (adv x0 x1))))))))=ρ):adx x0 x1=ρ:=((oA _ _ _ _ _ _ _).trans (by kernel_rfl)).trans (K _ rfl _ rfl _ rfl _ rfl _ rfl _ rfl _ rfl _ rfl _ rfl _ rfl)
theorem aA4(x0:bD)(K:∀(v1:bD)(h1:v1=(List.drop (((Nr.run x0:Int))).toNat x0)),ck (oG ((x0).length<=1099511627776)) (cond (oG (((Nr.run x0:Int))=(0:Int))) (BQ [(.i .i64 0)]) (ck (fe ((Nr.run x0:Int)) (x0).length (x0).length) (adv v1 (2:Int))))=ρ):adw x0=ρ:=((oA _ _ _ _ _ _ _).trans (by kernel_rfl)).trans (K _ rfl)
theorem aA3(x0:bD)(x1:Int):adv x0 x1=cond (!decide (x0=[])) (BQ [.i .i64 0]) (BQ [.i .i64 x1]):=lH (by kernel_rfl) rfl
theorem aA7(s:bD)(K:∀(v1:UInt8)(h1:v1=(List.getD s ((0:Int)).toNat (0:UInt8)))(v2:Bool)(h2:v2=(cond (oG ((0:Int)<((s).length:Int))) (oG (v1=(45:UInt8))) NT))(v3:bD)(h3:v3=(List.drop ((1:Int)).toNat s)),ck (!(oG ((0:Int)<((s).length:Int)))||((oG ((0:Int)<((s).length:Int)))&&(bG (0:Int) (s).length))) (ck (!(oG ((0:Int)<((s).length:Int)))||(oG ((0:Int)<((s).length:Int)))) (ck (!(oG ((0:Int)<((s).length:Int)))||(oG ((0:Int)<((s).length:Int)))) (cond v2 (ck (fe (1:Int) (s).length (s).length) (ady v3 (1:Int))) (ady s (1:Int)))))=ρ):aA8 s=ρ:=Eq.trans (by kernel_rfl) (K _ rfl _ rfl _ rfl)
def aBU:cE:=cW gr zs [(64,adQ,bB)]
def ark(v:Int):OT:=b9 PG aBU 95 bB (.o) [.i .i64 v]
theorem arj(v:Int)(K:∀v1,v1=IntKind.i64.wrap (v+1)->∀v2,v2=UInt64.ofInt (IntKind.i64.wrap (0 -v1))->∀v3,v3=Nr.dec (v2+1).toNat->∀v4,v4=Nr.dec (UInt64.ofInt v).toNat->cond (oG (v<0)) (ck (oG (([45]:bD).length+v3.length<=9223372036854775807)) (BQ [.s (([45]:bD)++v3)])) (BQ [.s v4])=ρ):ark v=ρ:=Eq.trans (by kernel_rfl) (qS K:)
def at3(b:UInt64):OT:=b9 PG dH 93 mh (.o) [.u64 b]
theorem at2(b:UInt64)(K:∀v1,v1=cK b (63:UInt64).toNat->∀v2,v2=cK b (52:UInt64).toNat->∀v3,v3=IntKind.i64.wrap ((v2&&&2047).toNat:Int)->∀v4,v4=(b&&&4503599627370495)->∀v5,v5=cond (oG (v3=0)) (oG (v4=0)) NT->∀v6,v6=cond (oG (v3=2047)) (oG (v4=0)) NT->∀v7,v7=4503599627370496+v4->∀v8,v8=IntKind.i64.wrap (v3 -1075)->ck (!(oG (v3=0))||(oG (v3=0))) (ck (!(oG (v3=0))||(oG (v3=0))) (cond v5 (BQ [.i .i64 1,.b (oG (v1=1)),.u64 0,.i .i64 0]) (ck (!(oG (v3=2047))||(oG (v3=2047))) (ck (!(oG (v3=2047))||(oG (v3=2047))) (cond v6 (BQ [.i .i64 3,.b (oG (v1=1)),.u64 0,.i .i64 0]) (cond (oG (v3=2047)) (BQ [.i .i64 4,.b (oG (v1=1)),.u64 0,.i .i64 0]) (cond (oG (v3=0)) (BQ [.i .i64 2,.b (oG (v1=1)),.u64 v4,.i .i64 (-1074)]) (BQ [.i .i64 2,.b (oG (v1=1)),.u64 v7,.i .i64 v8]))))))))=ρ):at3 b=ρ:=Eq.trans (by kernel_rfl) (gH (po K:):)
def aiq:Hint:=.s .o (.s .o (.s (.s .o (.b (.l [(0,.fF 1000000),(1,.no),(5,.no),(6,.no),(1000000,.pv)] .o))) (.j [(0,.fF 800000),(800000,.pv)] .o .o)))
def ayc(a:List UInt64)(m:UInt64):OT:=b9 PG dH 158 ot aiq [.sl .us a,.u64 m]
def acH(x0 x1:UInt64)(x2:Int)(x3:List UInt64):OT:=cM PG dH 158 ot aiq 43 [.pt,.u64 x0,.u64 x1,.i .i64 x2,.sl .us x3]
def aeA(x0:List UInt64):OT:=df PG dH 158 ot aiq 15 [.pt,.sl .us x0]
theorem alc(x0 x1:UInt64)(x2:Int)(x3:List UInt64)(K:∀v1,v1=List.getD x3 x2.toNat (0:UInt64)->∀v2,v2=(x1+(v1*x0))%(100000000:UInt64)->∀v3,v3=List.set x3 x2.toNat v2->∀v4,v4=(x1+(v1*x0))/(100000000:UInt64)->∀v5,v5=IntKind.i64.wrap (x2+(1:Int))->cond (oG (x2<(x3.length:Int))) (ck (bG x2 x3.length) (ck (oG (x2.toNat<x3.length)) (ck (!decide ((100000000:UInt64)=0)) (ck (bG x2 x3.length) (ck (oG (x2.toNat<x3.length)) (ck (!decide ((100000000:UInt64)=0)) (acH x0 v4 v5 v3))))))) (cond (oG ((0:UInt64)<x1)) (ck (dP (x3.length+([x1]:List UInt64).length) 8) (aeA (x3++([x1]:List UInt64)))) (aeA x3))=ρ):acH x0 x1 x2 x3=ρ:=jx (by kernel_rfl) (gH K:)
theorem alb(x0:List UInt64):aeA x0=BQ [.sl .us x0]:=lH (by kernel_rfl) rfl
theorem aya(a:List UInt64)(m:UInt64):ayc a m=acH m 0 0 a:=by kernel_rfl
def aai:cE:=cW gr zs [(158,apo,ot)]
def aab:Hint:=.s .o (.s .o (.s (.b (.l [(1,.no),(6,.fF 800000),(800000,.pv)] .o)) (.s .o (.s (.b (.l [(1,.no),(6,.fF 800000),(7,.no),(800000,.pv)] .o)) (.s (.b (.l [(1,.no),(6,.fF 800000),(7,.no),(800000,.pv)] .o)) (.s .o (.s (.b (.l [(1,.no),(6,.fF 800000),(7,.no),(800000,.pv)] .o)) (.s (.b (.l [(1,.no),(6,.fF 800000),(7,.no),(800000,.pv)] .o)) (.s .o (.s (.s .o (.b (.l [(1,.no),(6,.fF 800000),(8,.fF 800001),(9,.no),(800000,.pv),(800001,.pv)] (.s .o (.s (.b (.s .o (.s .o (.b (.l [(1,.no),(6,.fF 800000),(8,.fF 800001),(9,.no),(10,.no),(11,.no),(800000,.pv),(800001,.pv)] .o))))) .o))))) (.s (.b (.l [(1,.no),(8,.fF 800001),(800001,.pv)] .o)) (.s .o (.s .o (.s (.s .o (.b (.l [(8,.fF 800001),(12,.no),(13,.fF 800002),(14,.no),(800001,.pv),(800002,.pv)] .o))) (.s (.b (.l [(12,.no),(13,.fF 800002),(800002,.pv)] .o)) .o)))))))))))))))
def aBz(m:UInt64)(e:Int):OT:=b9 PG aai 125 bN aab [.u64 m,.i .i64 e]
def adH(x0:Int)(x1:List UInt64):OT:=cM PG aai 125 bN aab 19 [.i .i64 x0,.pt,.sl .us x1]
def abq(x0 x1:Int)(x2:List UInt64):OT:=cM PG aai 125 bN aab 79 [.i .i64 x0,.pt,.i .i64 x1,.sl .us x2]
def adG(x0 x1:Int)(x2:List UInt64):OT:=cM PG aai 125 bN aab 159 [.i .i64 x0,.pt,.i .i64 x1,.sl .us x2]
def abp(x0 x1:Int)(x2:List UInt64):OT:=cM PG aai 125 bN aab 639 [.i .i64 x0,.pt,.i .i64 x1,.sl .us x2]
def adF(x0 x1:Int)(x2:List UInt64):OT:=cM PG aai 125 bN aab 1279 [.i .i64 x0,.pt,.i .i64 x1,.sl .us x2]
def abo(x0 x1:Int)(x2:List UInt64)(x3:List UInt8):OT:=cM PG aai 125 bN aab 11263 [.i .i64 x0,.pt,.pt,.i .i64 x1,.sl .us x2,.sl .bs x3]
def adE(x0 x1:Int)(x2:UInt64)(x3:Int)(x4:List UInt64)(x5:List UInt8):OT:=cM PG aai 125 bN aab 1461247 [.i .i64 x0,.pt,.pt,.i .i64 x1,.u64 x2,.i .i64 x3,.sl .us x4,.sl .bs x5]
def adD(x0:Int)(x1:List UInt8):OT:=cM PG aai 125 bN aab 10239 [.i .i64 x0,.pt,.sl .bs x1]
def abn(x0 x1:Int)(x2 x3:List UInt8):OT:=cM PG aai 125 bN aab 180223 [.pt,.i .i64 x0,.pt,.i .i64 x1,.sl .bs x2,.sl .bs x3]
def aaD(x0:Int)(x1:List UInt8):OT:=cM PG aai 125 bN aab 163839 [.i .i64 x0,.pt,.sl .bs x1]
theorem aBs(x0:Int)(x1:List UInt64)(K:∀v1,v1=IntKind.i64.wrap ((x1.length:Int) -1)->∀v2,v2=List.getD x1 v1.toNat 0->∀v3,v3=cond (oG (1<(x1.length:Int))) (oG (v2=0)) NT->ck (!(oG (1<(x1.length:Int)))||(oG (1<(x1.length:Int)))) (ck (!(oG (1<(x1.length:Int)))||(oG (1<(x1.length:Int)))) (ck (!(oG (1<(x1.length:Int)))||(((oG (1<(x1.length:Int)))&&(oG (1<(x1.length:Int))))&&(bG v1 x1.length))) (ck (!(oG (1<(x1.length:Int)))||((oG (1<(x1.length:Int)))&&(oG (v1.toNat<x1.length)))) (ck (!(oG (1<(x1.length:Int)))||(oG (1<(x1.length:Int)))) (ck (!(oG (1<(x1.length:Int)))||(oG (1<(x1.length:Int)))) (cond v3 (ck (fe 0 v1 x1.length) (adH x0 (List.take v1.toNat x1))) (abq x0 0 x1)))))))=ρ):adH x0 x1=ρ:=jx (by kernel_rfl) (po K:)
theorem amF(x0 x1:Int)(x2:List UInt64)(K:∀v1,v1=IntKind.i64.wrap (x1+20)->∀v2,v2=Nr.times x2 1048576 0->cond (oG (v1<=x0)) (ck (oG (x2.length<=1000/\(1048576:UInt64).toNat<=100000000)&&x2.all (λx=>oG (x.toNat<100000000))) (abq x0 v1 v2)) (adG x0 x1 x2)=ρ):abq x0 x1 x2=ρ:=jx (by kernel_rfl) (lY K:)
theorem amE(x0 x1:Int)(x2:List UInt64)(K:∀v1,v1=Nr.times x2 2 0->∀v2,v2=IntKind.i64.wrap (x1+1)->cond (oG (x1<x0)) (ck (oG (x2.length<=1000/\(2:UInt64).toNat<=100000000)&&x2.all (λx=>oG (x.toNat<100000000))) (adG x0 v2 v1)) (abp x0 0 x2)=ρ):adG x0 x1 x2=ρ:=jx (by kernel_rfl) (lY K:)
theorem amD(x0 x1:Int)(x2:List UInt64)(K:∀v1,v1=IntKind.i64.wrap (x1 -10)->∀v2,v2=Nr.times x2 9765625 0->cond (oG (x0<=v1)) (ck (oG (x2.length<=1000/\(9765625:UInt64).toNat<=100000000)&&x2.all (λx=>oG (x.toNat<100000000))) (abp x0 v1 v2)) (adF x0 x1 x2)=ρ):abp x0 x1 x2=ρ:=jx (by kernel_rfl) (lY K:)
theorem amC(x0 x1:Int)(x2:List UInt64)(K:∀v1,v1=Nr.times x2 5 0->∀v2,v2=IntKind.i64.wrap (x1 -1)->cond (oG (x0<x1)) (ck (oG (x2.length<=1000/\(5:UInt64).toNat<=100000000)&&x2.all (λx=>oG (x.toNat<100000000))) (adF x0 v2 v1)) (abo x0 0 x2 ([]:List UInt8))=ρ):adF x0 x1 x2=ρ:=jx (by kernel_rfl) (lY K:)
theorem amH(x0 x1:Int)(x2:List UInt64)(x3:List UInt8)(K:∀v1,v1=List.getD x2 x1.toNat 0->cond (oG (x1<(x2.length:Int))) (ck (bG x1 x2.length) (ck (oG (x1.toNat<x2.length)) (adE x0 x1 v1 0 x2 x3))) (adD x0 x3)=ρ):abo x0 x1 x2 x3=ρ:=jx (by kernel_rfl) (mf K:)
theorem amI(x0 x1:Int)(x2:UInt64)(x3:Int)(x4:List UInt64)(x5:List UInt8)(K:∀v1,v1=(48:UInt64)+(x2%(10:UInt64))->∀v2,v2=UInt8.ofInt (v1.toNat:Int)->∀v3,v3=IntKind.i64.wrap (x3+(1:Int))->∀v4,v4=IntKind.i64.wrap (x1+(1:Int))->cond (oG (x3<(8:Int))) (ck (!decide ((10:UInt64)=0)) (ck (dP (x5.length+([v2]:List UInt8).length) 1) (ck (!decide ((10:UInt64)=0)) (adE x0 x1 (x2/(10:UInt64)) v3 x4 (x5++([v2]:List UInt8)))))) (abo x0 v4 x4 x5)=ρ):adE x0 x1 x2 x3 x4 x5=ρ:=jx (by kernel_rfl) (qS K:)
theorem amJ(x0:Int)(x1:List UInt8)(K:∀v1,v1=IntKind.i64.wrap ((x1.length:Int) -1)->∀v2,v2=List.getD x1 v1.toNat 0->∀v3,v3=cond (oG (0<(x1.length:Int))) (oG (v2=48)) NT->∀v4,v4=IntKind.i64.wrap ((x1.length:Int)+(Cf x0 0))->ck (!(oG (0<(x1.length:Int)))||(oG (0<(x1.length:Int)))) (ck (!(oG (0<(x1.length:Int)))||(oG (0<(x1.length:Int)))) (ck (!(oG (0<(x1.length:Int)))||(((oG (0<(x1.length:Int)))&&(oG (0<(x1.length:Int))))&&(bG v1 x1.length))) (ck (!(oG (0<(x1.length:Int)))||((oG (0<(x1.length:Int)))&&(oG (v1.toNat<x1.length)))) (ck (!(oG (0<(x1.length:Int)))||(oG (0<(x1.length:Int)))) (ck (!(oG (0<(x1.length:Int)))||(oG (0<(x1.length:Int)))) (cond v3 (ck (fe 0 v1 x1.length) (adD x0 (List.take v1.toNat x1))) (abn v4 v1 x1 ([]:List UInt8))))))))=ρ):adD x0 x1=ρ:=jx (by kernel_rfl) (qS K:)
theorem amK(x0 x1:Int)(x2 x3:List UInt8)(K:∀v1,v1=List.getD x2 x1.toNat 0->∀v2,v2=IntKind.i64.wrap (x1 -1)->cond (oG (0<=x1)) (ck (bG x1 x2.length) (ck (oG (x1.toNat<x2.length)) (ck (dP (x3.length+([v1]:List UInt8).length) 1) (abn x0 v2 x2 (x3++([v1]:List UInt8)))))) (aaD x0 x3)=ρ):abn x0 x1 x2 x3=ρ:=jx (by kernel_rfl) (lY K:)
theorem amL(x0:Int)(x1:List UInt8)(K:∀v1,v1=IntKind.i64.wrap ((x1.length:Int) -1)->∀v2,v2=List.getD x1 v1.toNat 0->∀v3,v3=cond (oG (0<(x1.length:Int))) (oG (v2=48)) NT->ck (!(oG (0<(x1.length:Int)))||(oG (0<(x1.length:Int)))) (ck (!(oG (0<(x1.length:Int)))||(oG (0<(x1.length:Int)))) (ck (!(oG (0<(x1.length:Int)))||(((oG (0<(x1.length:Int)))&&(oG (0<(x1.length:Int))))&&(bG v1 x1.length))) (ck (!(oG (0<(x1.length:Int)))||((oG (0<(x1.length:Int)))&&(oG (v1.toNat<x1.length)))) (ck (!(oG (0<(x1.length:Int)))||(oG (0<(x1.length:Int)))) (ck (!(oG (0<(x1.length:Int)))||(oG (0<(x1.length:Int)))) (cond v3 (ck (fe 0 v1 x1.length) (aaD x0 (List.take v1.toNat x1))) (BQ [.s x1,.i .i64 x0])))))))=ρ):aaD x0 x1=ρ:=jx (by kernel_rfl) (po K:)
theorem aBr(m:UInt64)(e:Int)(K:∀v1,v1=(m/(100000000:UInt64))%(100000000:UInt64)->∀v2,v2=m/(10000000000000000:UInt64)->∀v3,v3=([m%(100000000:UInt64),v1,v2]:List UInt64)->ck (!decide ((100000000:UInt64)=0)) (ck (!decide ((100000000:UInt64)=0)) (ck (!decide ((100000000:UInt64)=0)) (ck (!decide ((10000000000000000:UInt64)=0)) (adH e v3))))=ρ):aBz m e=ρ:=Eq.trans (by kernel_rfl) (po K:)
def as3(a:bD)(x:Int)(b:bD)(y:Int):OT:=b9 PG dH 128 bB (.o) [.s a,.i .i64 x,.s b,.i .i64 y]
theorem as2(a:bD)(x:Int)(b:bD)(y:Int)(K:∀v1,v1=((!(oG (x<y)))&&(oG (x=y)))->∀v2,v2=cond (oG (x=y)) (Op.bytesLess a b) NT->∀v3,v3=cond (oG (x<y)) NS v2->∀v4,v4=cond (oG (x=y)) (oG (a=b)) NT->ck (!(!(oG (x<y)))||((!(oG (x<y)))&&(!(oG (x<y))))) (ck (!(!(oG (x<y)))||(!(oG (x<y)))) (ck (!v1||(v1&&v1)) (ck (!(!(oG (x<y)))||((!(oG (x<y)))&&(!(oG (x=y))||v1))) (ck ((oG (x<y))||(!(oG (x<y)))) (cond v3 (BQ [.i .i64 (-1)]) (ck (!(oG (x=y))||((oG (x=y))&&(oG (x=y)))) (ck (!(oG (x=y))||(oG (x=y))) (cond v4 (BQ [.i .i64 0]) (BQ [.i .i64 1])))))))))=ρ):as3 a x b y=ρ:=Eq.trans (by kernel_rfl) (qS K:)
def at1(b:UInt64):OT:=b9 PG dH 108 mh (.o) [.u64 b]
theorem at0(b:UInt64)(K:∀v1,v1=cK b (52:UInt64).toNat->∀v2,v2=IntKind.i64.wrap ((v1&&&2047).toNat:Int)->∀v3,v3=(b&&&4503599627370495)->∀v4,v4=cK b (63:UInt64).toNat->∀v5,v5=cond (oG (v2=2047)) (!decide (v3=0)) NT->∀v6,v6=cond (oG (v2=0)) (oG (v3=0)) NT->∀v7,v7=(4503599627370496|||v3)->∀v8,v8=IntKind.i64.wrap (v2 -1075)->ck (!(oG (v2=2047))||(oG (v2=2047))) (ck (!(oG (v2=2047))||(oG (v2=2047))) (cond v5 (BQ [.i .i64 4,.b (oG (v4=1)),.u64 0,.i .i64 0]) (cond (oG (v2=2047)) (BQ [.i .i64 3,.b (oG (v4=1)),.u64 0,.i .i64 0]) (ck (!(oG (v2=0))||(oG (v2=0))) (ck (!(oG (v2=0))||(oG (v2=0))) (cond v6 (BQ [.i .i64 1,.b (oG (v4=1)),.u64 0,.i .i64 0]) (cond (oG (v2=0)) (BQ [.i .i64 2,.b (oG (v4=1)),.u64 v3,.i .i64 (-1074)]) (BQ [.i .i64 2,.b (oG (v4=1)),.u64 v7,.i .i64 v8]))))))))=ρ):at1 b=ρ:=Eq.trans (by kernel_rfl) (gH (po K:):)
def aeG:cE:=cW gr zs [(177,Yv,bB),(213,afY,qe)]
def adS:Hint:=.s .o (.s .o (.j (sc [0,1]) .o (.s .o (.s .o (.s (.s .o (.b (.l [(1,.no),(5,.fF 800000),(6,.no),(26,.no),(27,.no),(800000,.pv)] (.s .o (.s .o (.s (.b (.s .o (.s .o (.j [(1,.no),(5,.fF 800000),(6,.no),(7,.no),(26,.no),(27,.no),(800000,.pv)] .o .o)))) .o)))))) (.j [(5,.fF 800000),(800000,.pv)] .o .o))))))
def ayL(a b:List UInt16):OT:=b9 PG aeG 184 bB adS [.sl .ws a,.sl .ws b]
def acQ(x0 x1:List UInt16):OT:=df PG aeG 184 bB adS 7 [.sl .ws x0,.sl .ws x1]
def acO(x0:List UInt16)(x1 x2 x3:Int)(x4:List UInt16):OT:=cM PG aeG 184 bB adS 351 [.sl .ws x0,.pt,.i .i64 x1,.i .i64 x2,.i .i64 x3,.sl .ws x4]
def acP(x0:List UInt16)(x1 x2 x3 x4:Int)(x5:List UInt16):OT:=df PG aeG 184 bB adS 58975 [.sl .ws x0,.pt,.i .i64 x1,.i .i64 x2,.i .i64 x3,.i .i64 x4,.sl .ws x5]
def aeF(x0:List UInt16):OT:=df PG aeG 184 bB adS 127 [.pt,.sl .ws x0]
theorem ayI(x0 x1:List UInt16):acQ x0 x1=ck (dP x0.length 2) (acO x1 0 (x0.length:Int) 0 x0):=lH (by kernel_rfl) rfl
theorem alu(x0:List UInt16)(x1 x2 x3:Int)(x4:List UInt16)(K:∀v1,v1=List.getD x4 x3.toNat 0->∀v2,v2=IntKind.i64.wrap (v1.toNat:Int)->∀v3,v3=List.getD x0 x3.toNat 0->∀v4,v4=IntKind.i64.wrap (v3.toNat:Int)->∀v5,v5=IntKind.i64.wrap ((IntKind.i64.wrap (x1+v2))+v4)->∀v6,v6=([UInt16.ofInt x1]:List UInt16)->cond (oG (x3<x2)) (ck (bG x3 x4.length) (ck (oG (x3.toNat<x4.length)) (cond (oG (x3<(x0.length:Int))) (ck (bG x3 x0.length) (acP x0 v5 x3 x2 x3 x4)) (acP x0 (IntKind.i64.wrap (x1+v2)) x3 x2 x3 x4)))) (cond (oG (0<x1)) (ck (dP (x4.length+v6.length) 2) (aeF (x4++v6))) (aeF x4))=ρ):acO x0 x1 x2 x3 x4=ρ:=jx (by kernel_rfl) (gH (mf K:):)
theorem ayH(x0:List UInt16)(x1 x2 x3 x4:Int)(x5:List UInt16)(K:∀v1,v1=List.set x5 x2.toNat (UInt16.ofInt x1)->∀v2,v2=Int.fdiv x1 (2^(min (16:UInt64).toNat (IntKind.i64.bits)))->∀v3,v3=IntKind.i64.wrap (x4+1)->ck (bG x2 x5.length) (ck (oG (x2.toNat<x5.length)) (acO x0 v2 x3 v3 v1))=ρ):acP x0 x1 x2 x3 x4 x5=ρ:=lH (by kernel_rfl) (po K:)
theorem als(x0:List UInt16):aeF x0=BQ [.sl .ws x0]:=lH (by kernel_rfl) rfl
theorem ayK(a b:List UInt16)(K:∀v1,v1=cond (!(Nt.is a)) NS (!(Nt.is b))->ck (oG (a.length<=1099511627776)) (ck (!(!(!(Nt.is a)))||((!(!(Nt.is a)))&&(oG (b.length<=1099511627776)))) (ck (!(!(!(Nt.is a)))||(!(!(Nt.is a)))) (ck ((!(Nt.is a))||(!(!(Nt.is a)))) (cond v1 (BQ [.sl .ws ([]:List UInt16)]) (cond (oG ((a.length:Int)<(b.length:Int))) (acQ b a) (acQ a b))))))=ρ):ayL a b=ρ:=Eq.trans (by kernel_rfl) (mf K:)
def aoH:cE:=cW gr zs [(83,adJ,bB),(152,adK,bB),(177,Yv,bB),(214,ag6,bN),(236,apj,acB),(237,amP,bB)]
def ahL:Hint:=.s .o (.s .o (.s .o (.s (.b (.l [(0,.no),(3,.fF 800000),(800000,.pv)] (.s .o (.b (.s .o (.s .o (.j [(3,.fF 800000),(4,.no),(6,.no),(800000,.pv)] .o .o))))))) .o)))
def awr(a:List UInt16):OT:=b9 PG aoH 218 bB ahL [.sl .ws a]
def aaK(x0:List UInt16)(x1:List bD):OT:=cM PG aoH 218 bB ahL 39 [.sl .ws x0,.pt,.sl .ss x1]
def aeq(x0:List UInt16)(x1:bD)(x2:List bD):OT:=df PG aoH 218 bB ahL 1863 [.pt,.sl .ws x0,.s x1,.sl .ss x2]
theorem akB(x0:List UInt16)(x1:List bD)(K:∀v1,v1=Nt.of (Nt.val x0/(10000:UInt16).toNat)->∀v2,v2=UInt16.ofNat (Nt.val x0%(10000:UInt16).toNat)->∀v3,v3=IntKind.i64.wrap (v2.toNat:Int)->∀v4,v4=((Nr.itoa v3).length:Int)->∀v5,v5=IntKind.i64.wrap ((4:Int) -v4)->∀v6,v6=(Sh.eK v5)++(Nr.itoa v3)->cond (oG ((0:Int)<(x0.length:Int))) (ck (oG (x0.length<=1000000/\(10000:UInt16)≠0)) (ck (Nr.i64 v3) (cond (oG ((0:Int)<(v1.length:Int))) (ck (oG (([48]:bD)=[48]/\0<=v5/\v5<=100)) (ck (oG ((Sh.eK v5).length+(Nr.itoa v3).length<=9223372036854775807)) (aeq v1 v6 x1))) (aeq v1 (Nr.itoa v3) x1)))) (ck (oG (x1.length<=100000)) (ck (oG (([]:bD)=[]/\x1.reverse.length<=100000/\x1.reverse.flatten.length<=100000)) (BQ [.s x1.reverse.flatten])))=ρ):aaK x0 x1=ρ:=jx (by kernel_rfl) (gH (mf K:):)
theorem akA(x0:List UInt16)(x1:bD)(x2:List bD):aeq x0 x1 x2=ck (dP (x2.length+([x1]:List bD).length) 16) (aaK x0 (x2++([x1]:List bD))):=lH (by kernel_rfl) rfl
theorem awp(a:List UInt16):awr a=ck (oG (a.length<=1099511627776)) (cond (!(Nt.is a)) (BQ [.s []]) (cond (oG ((a.length:Int)=0)) (BQ [.s [48]]) (aaK a ([]:List bD)))):=by kernel_rfl
def api:Hint:=.s .o (.b (.l [(0,.fF 1000000),(2,.no),(3,.no),(1000000,.pv)] .o))
def axX(l:List bD):OT:=b9 PG dH 236 acB api [.sl .ss l]
def acC(x0 x1:Int)(x2:List bD):OT:=cM PG dH 236 acB api 5 [.pt,.i .i64 x0,.i .i64 x1,.sl .ss x2]
theorem ak4(x0 x1:Int)(x2:List bD)(K:∀v1,v1=List.getD x2 x1.toNat []->∀v2,v2=List.getD x2 x0.toNat []->∀v3,v3=List.set x2 x0.toNat v1->∀v4,v4=List.set v3 x1.toNat v2->∀v5,v5=IntKind.i64.wrap (x0+1)->∀v6,v6=IntKind.i64.wrap (x1 -1)->cond (oG (x0<x1)) (ck (bG x1 x2.length) (ck (oG (x1.toNat<x2.length)) (ck (bG x0 x2.length) (ck (oG (x0.toNat<x2.length)) (ck (bG x0 x2.length) (ck (oG (x0.toNat<x2.length)) (ck (bG x1 v3.length) (ck (oG (x1.toNat<v3.length)) (acC v5 v6 v4))))))))) (BQ [.sl .ss x2])=ρ):acC x0 x1 x2=ρ:=jx (by kernel_rfl) (gH (mf K:):)
theorem axW(l:List bD)(K:∀v1,v1=IntKind.i64.wrap ((l.length:Int) -1)->acC 0 v1 l=ρ):axX l=ρ:=Eq.trans (by kernel_rfl) (mf K:)
def aCx:cE:=cW gr zs [(111,amZ,bB)]
def atP(v:Int):OT:=b9 PG aCx 77 bB (.o) [.i .i64 v]
theorem atO(v:Int):atP v=ck (Nr.i64 v&&oG ((10:Int)=10)) (BQ [.s (Nr.itoa v)]):=by kernel_rfl
def aB6:cE:=cW gr zs [(210,ahY,bN),(211,ahn,bB)]
def arY(a b:List UInt16)(k:Int):OT:=b9 PG aB6 180 bN (.o) [.sl .ws a,.sl .ws b,.i .i64 k]
theorem arX(a b:List UInt16)(k:Int)(K:∀v1,v1=Nt.of ((10:Int).toNat^k.toNat)->∀v2,v2=Nt.of (Nt.val a*Nt.val v1)->∀v3,v3=Nt.of ((10:Int).toNat^(IntKind.i64.wrap (0 -k)).toNat)->∀v4,v4=Nt.of (Nt.val b*Nt.val v3)->cond (oG ((0:Int)<=k)) (ck (oG (2<=(10:Int)/\(10:Int)<=65535/\0<=k/\k<=1000/\(10:Int).toNat^k.toNat<2^4096)) (ck (Nt.is a&&Nt.is v1) (BQ [.sl .ws v2,.sl .ws b]))) (ck (oG (2<=(10:Int)/\(10:Int)<=65535/\0<=(IntKind.i64.wrap (0 -k))/\(IntKind.i64.wrap (0 -k))<=1000/\(10:Int).toNat^(IntKind.i64.wrap (0 -k)).toNat<2^4096)) (ck (Nt.is b&&Nt.is v3) (BQ [.sl .ws a,.sl .ws v4])))=ρ):arY a b k=ρ:=Eq.trans (by kernel_rfl) (qS K:)
def aCh:cE:=cW gr zs [(180,afW,bN),(181,aed,bB)]
def asO(a b:List UInt16)(x:Int):OT:=b9 PG aCh 150 bB (.o) [.sl .ws a,.sl .ws b,.i .i64 x]
theorem asN(a b:List UInt16)(x:Int)(K:∀v1,v1=Nt.of (Sh.tA (Nt.val a) (IntKind.i64.wrap (0 -x)))->∀v2,v2=Nt.of (Sh.tB (Nt.val b) (IntKind.i64.wrap (0 -x)))->∀v3,v3=Nt.cmp (Nt.val v1) (Nt.val v2)->ck (Nt.is a&&Nt.is b&&oG (-400<=(IntKind.i64.wrap (0 -x))/\(IntKind.i64.wrap (0 -x))<=400/\Nt.val a<2^1100/\Nt.val b<2^1100)) (ck (Nt.is v1&&Nt.is v2) (BQ [.b (oG (0<=v3))]))=ρ):asO a b x=ρ:=Eq.trans (by kernel_rfl) (po K:)
def aCi:cE:=cW gr zs [(218,aoG,bB),(219,af6,bB),(220,aot,bN)]
def asR(b:UInt64)(a:List UInt16)(p:Int):OT:=b9 PG aCi 183 gN (.o) [.u64 b,.sl .ws a,.i .i64 p]
theorem asQ(b:UInt64)(a:List UInt16)(p:Int)(K:∀(v1:Int)(h1:v1=(((Sh.vY (Nt.val a))).length:Int))(v2:bD)(h2:v2=(Lib.trimRightS ((Sh.vY (Nt.val a))) (([48]:bD))))(v3:UInt64)(h3:v3=(Nr.pat (Nr.read v2 ((IntKind.i64.wrap (v1+p))))))(v4:Bool)(h4:v4=((Nr.read v2 ((IntKind.i64.wrap (v1+p)))).isSome))(v5:Bool)(h5:v5=(cond (!v4) NS (!decide (v3=b)))),ck (Nt.is a) (ck (oG ((((Sh.vY (Nt.val a)))).length<=1099511627776/\((([48]:bD))).length<=100)&&((([48]:bD))).all (λb=>oG (b.toNat<128))) (ck (!(!(!v4))||((!(!v4))&&(!(!v4)))) (ck ((!v4)||(!(!v4))) (cond v5 (BQ [(.s []),(.i .i64 0),(.b NT)]) (BQ [(.s v2),(.i .i64 (IntKind.i64.wrap (v1+p))),(.b NS)])))))=ρ):asR b a p=ρ:=Eq.trans (by kernel_rfl) (K _ rfl _ rfl _ rfl _ rfl _ rfl)
def aB2:cE:=cW gr zs [(147,abr,bB),(148,ad5,bB),(180,afW,bN),(181,aed,bB),(182,aft,gN),(183,ant,gN),(184,apC,bB)]
def arO(b:UInt64)(p q:List UInt16)(x n:Int):OT:=b9 PG aB2 151 gN (.o) [.u64 b,.sl .ws p,.sl .ws q,.i .i64 x,.i .i64 n]
theorem arN(b:UInt64)(p q:List UInt16)(x n:Int)(K:∀v1,v1=Nt.of (Sh.tA (Nt.val p) (IntKind.i64.wrap (n -x)))->∀v2,v2=Nt.of (Sh.tB (Nt.val q) (IntKind.i64.wrap (n -x)))->∀v3,v3=Nt.of (Nt.val v1/Nt.val v2)->∀v4,v4=Nt.of (Nt.val v1% Nt.val v2)->∀v5,v5=((Sh.nN b.toNat (Nt.val v3) (IntKind.i64.wrap (x -n))).getD ([],0)).1->∀v6,v6=((Sh.nN b.toNat (Nt.val v3) (IntKind.i64.wrap (x -n))).getD ([],0)).2->∀v7,v7=(Sh.nN b.toNat (Nt.val v3) (IntKind.i64.wrap (x -n))).isSome->∀v8,v8=Nt.of (1:UInt64).toNat->∀v9,v9=Nt.of (Nt.val v3+Nt.val v8)->∀v10,v10=((Sh.nN b.toNat (Nt.val v9) (IntKind.i64.wrap (x -n))).getD ([],0)).1->∀v11,v11=((Sh.nN b.toNat (Nt.val v9) (IntKind.i64.wrap (x -n))).getD ([],0)).2->∀v12,v12=(Sh.nN b.toNat (Nt.val v9) (IntKind.i64.wrap (x -n))).isSome->∀jw,jw=Nt.of (Nt.val v4*2^(1:Int).toNat)->∀iI,iI=Nt.cmp (Nt.val jw) (Nt.val v2)->∀iO,iO=cond (!v12) NS (oG (iI<(0:Int)))->∀mo,mo=((v7&&(!iO))&&(oG (iI=(0:Int))))->∀ug,ug=List.getD v3 (0:Int).toNat (0:UInt16)->∀o8,o8=cond (oG (iI=(0:Int))) (oG ((ug%(2:UInt16))=(0:UInt16))) NT->∀sj,sj=cond v7 (cond iO NS o8) NT->ck (Nt.is p&&Nt.is q&&oG (-400<=(IntKind.i64.wrap (n -x))/\(IntKind.i64.wrap (n -x))<=400/\Nt.val p<2^1100/\Nt.val q<2^1100)) (ck (Nt.is v1&&Nt.is v2&&oG (v2≠[])) (ck (Nt.is v3&&oG (-1000<=(IntKind.i64.wrap (x -n))/\(IntKind.i64.wrap (x -n))<=1000/\0<Nt.val v3/\Nt.val v3<10^200)) (ck (Nt.is v3&&Nt.is v8) (ck (Nt.is v9&&oG (-1000<=(IntKind.i64.wrap (x -n))/\(IntKind.i64.wrap (x -n))<=1000/\0<Nt.val v9/\Nt.val v9<10^200)) (ck (oG (0<=(1:Int)/\(1:Int)<=4096)&&Nt.is v4) (ck (Nt.is jw&&Nt.is v2) (ck (!v7||v7) (ck (!v7||v7) (ck (!(v7&&(!(!v12)))||(v7&&(!(!v12)))) (ck (!v7||(v7&&((!v12)||(v7&&(!(!v12)))))) (ck (!v7||v7) (ck (!(v7&&(!iO))||(v7&&(!iO))) (ck (!(v7&&(!iO))||(v7&&(!iO))) (ck (!mo||(mo&&(bG (0:Int) v3.length))) (ck (!mo||mo) (ck (!mo||(mo&&(!decide ((2:UInt16)=0)))) (ck (!mo||mo) (ck (!(v7&&(!iO))||((v7&&(!iO))&&(!(oG (iI=(0:Int)))||mo))) (ck (!v7||(v7&&(iO||(v7&&(!iO))))) (ck (!v7||v7) (cond sj (BQ [.s v5,.i .i64 v6,.b NS]) (BQ [.s v10,.i .i64 v11,.b v12]))))))))))))))))))))))=ρ):arO b p q x n=ρ:=Eq.trans (by kernel_rfl) (gH (qS (gH (gH K:):):):)
def aiM:cE:=cW gr zs [(108,adM,mh),(147,abr,bB),(148,ad5,bB),(149,af8,bB),(150,ans,bB),(151,anf,gN)]
def aeK:Hint:=.s .o (.s .o (.s .o (.s .o (.s .o (.j (sc [0,9,10]) .o (.s .o (.s (.b (.l (sc [0,3,9,10]) .o)) (.s .o (.b (.l (sc [0,3,9,10,11]) .o))))))))))
def azb(b:UInt64):OT:=b9 PG aiM 118 gN aeK [.u64 b]
def aaZ(x0:UInt64)(x1 x2:List UInt16):OT:=df PG aiM 118 gN aeK 63 [.u64 x0,.sl .ws x1,.sl .ws x2]
def acU(x0:UInt64)(x1:Int)(x2 x3:List UInt16):OT:=cM PG aiM 118 gN aeK 639 [.u64 x0,.i .i64 x1,.sl .ws x2,.sl .ws x3]
def acT(x0:UInt64)(x1:Int)(x2 x3:List UInt16)(x4:Int):OT:=cM PG aiM 118 gN aeK 1535 [.u64 x0,.i .i64 x1,.sl .ws x2,.sl .ws x3,.i .i64 x4]
theorem ay9(x0:UInt64)(x1 x2:List UInt16)(K:∀v1,v1=(Nt.bits (Nt.val x1):Int)->∀v2,v2=(Nt.bits (Nt.val x2):Int)->∀v3,v3=IntKind.i64.wrap ((IntKind.i64.wrap (v1 -v2))*(30103:Int))->∀v4,v4=IntKind.i64.wrap (Int.tdiv v3 (100000:Int))->∀v5,v5=IntKind.i64.wrap (v4 -(2:Int))->ck (Nt.is x1) (ck (Nt.is x2) (ck (!decide ((100000:Int)=0)) (acU x0 v5 x1 x2)))=ρ):aaZ x0 x1 x2=ρ:=lH (by kernel_rfl) (gH K:)
theorem alJ(x0:UInt64)(x1:Int)(x2 x3:List UInt16)(K:∀v1,v1=IntKind.i64.wrap (x1+1)->ck (Nt.is x2&&Nt.is x3&&oG (-400<=x1/\x1<=400/\Nt.val x2<2^1100/\Nt.val x3<2^1100)) (cond (oG (Sh.tB (Nt.val x3) (-x1)<=Sh.tA (Nt.val x2) (-x1))) (acU x0 v1 x2 x3) (acT x0 x1 x2 x3 1))=ρ):acU x0 x1 x2 x3=ρ:=jx (by kernel_rfl) (mf K:)
theorem alI(x0:UInt64)(x1:Int)(x2 x3:List UInt16)(x4:Int)(K:∀v1,v1=((Sh.tT x0.toNat (Nt.val x2) (Nt.val x3) x1 x4).getD ([],0)).1->∀v2,v2=((Sh.tT x0.toNat (Nt.val x2) (Nt.val x3) x1 x4).getD ([],0)).2->∀v3,v3=(Sh.tT x0.toNat (Nt.val x2) (Nt.val x3) x1 x4).isSome->∀v4,v4=IntKind.i64.wrap (x4+1)->ck (Nt.is x2&&Nt.is x3&&Sh.ta (Nt.val x2) (Nt.val x3) x1 x4) (cond v3 (BQ [.s v1,.i .i64 v2,.b NS]) (acT x0 x1 x2 x3 v4))=ρ):acT x0 x1 x2 x3 x4=ρ:=jx (by kernel_rfl) (qS K:)
theorem aza(b:UInt64)(K:∀v1,v1=(b&&&~~~9223372036854775808)->∀v2,v2=Nt.of (Nr.split b).2.2.1.toNat->∀v3,v3=Nt.of (1:UInt64).toNat->∀v4,v4=Nt.of (Nt.val v2*2^(Nr.split b).2.2.2.toNat)->∀v5,v5=IntKind.i64.wrap (0 -(Nr.split b).2.2.2)->∀v6,v6=Nt.of (Nt.val v3*2^v5.toNat)->cond (!decide ((Nr.split b).1=2)) (BQ [.s [],.i .i64 0,.b NT]) (cond (oG (0<=(Nr.split b).2.2.2)) (ck (oG (0<=(Nr.split b).2.2.2/\(Nr.split b).2.2.2<=4096)&&Nt.is v2) (aaZ v1 v4 v3)) (ck (oG (0<=v5/\v5<=4096)&&Nt.is v3) (aaZ v1 v2 v6)))=ρ):azb b=ρ:=Eq.trans (by kernel_rfl) (gH (mf K:):)
def avS:cE:=cW gr zs [(77,adL,bB),(152,adK,bB)]
def aou:Hint:=.s .o (.s .o (.s .o (.s .o (.j (sc [1,6]) .o .o))))
def avR(d:bD)(x:Int):OT:=b9 PG avS 119 bB aou [.s d,.i .i64 x]
def abX(x0:Int)(x1:bD):OT:=df PG avS 119 bB aou 31 [.i .i64 x0,.s x1]
theorem avP(x0:Int)(x1:bD)(K:∀v1,v1=IntKind.i64.wrap (1 -x0)->∀v2,v2=(x1++[101,45])++(Nr.itoa v1)->∀v3,v3=IntKind.i64.wrap (x0 -1)->∀v4,v4=(x1++[101,43])++(Nr.itoa v3)->cond (oG (x0<1)) (ck (oG (x1.length+([101,45]:bD).length<=9223372036854775807)) (ck (Nr.i64 v1) (ck (oG ((x1++[101,45]).length+(Nr.itoa v1).length<=9223372036854775807)) (BQ [.s v2])))) (ck (oG (x1.length+([101,43]:bD).length<=9223372036854775807)) (ck (Nr.i64 v3) (ck (oG ((x1++[101,43]).length+(Nr.itoa v3).length<=9223372036854775807)) (BQ [.s v4]))))=ρ):abX x0 x1=ρ:=lH (by kernel_rfl) (qS K:)
theorem avQ(d:bD)(x:Int)(K:∀(v1:Bool)(h1:v1=(cond (oG ((1:Int)<=x)) (oG (x<=(21:Int))) NT))(v2:Bool)(h2:v2=(cond v1 (oG (((d).length:Int)<=x)) NT))(v3:Int)(h3:v3=(IntKind.i64.wrap (x -((d).length:Int))))(v4:bD)(h4:v4=((List.take (x).toNat d)++([46]:bD)))(v5:bD)(h5:v5=(v4++(List.drop (x).toNat d)))(v6:Bool)(h6:v6=(cond (oG ((-5:Int)<=x)) (oG (x<=(0:Int))) NT))(v7:bD)(h7:v7=(Sh.eK ((IntKind.i64.wrap (0 -x)))))(v8:bD)(h8:v8=((([48,46]:bD)++v7)++d))(v9:bD)(h9:v9=(List.take ((1:Int)).toNat d))(v10:bD)(jo:v10=(List.drop ((1:Int)).toNat d))(v11:bD)(lg:v11=(v9++(([46]:bD)++v10))),ck (!(oG ((1:Int)<=x))||(oG ((1:Int)<=x))) (ck (!(oG ((1:Int)<=x))||(oG ((1:Int)<=x))) (ck (!v1||(v1&&v1)) (ck (!v1||v1) (cond v2 (ck (oG ((([48]:bD))=[48]/\0<=v3/\v3<=100)) (ck (oG ((d).length+((Sh.eK v3)).length<=9223372036854775807)) (BQ [(.s (d++(Sh.eK v3)))]))) (ck (!(oG ((1:Int)<=x))||(oG ((1:Int)<=x))) (ck (!(oG ((1:Int)<=x))||(oG ((1:Int)<=x))) (cond v1 (ck (fe 0 x (d).length) (ck (oG (((List.take (x).toNat d)).length+(([46]:bD)).length<=9223372036854775807)) (ck (fe x (d).length (d).length) (ck (oG ((v4).length+((List.drop (x).toNat d)).length<=9223372036854775807)) (BQ [(.s v5)]))))) (ck (!(oG ((-5:Int)<=x))||(oG ((-5:Int)<=x))) (ck (!(oG ((-5:Int)<=x))||(oG ((-5:Int)<=x))) (cond v6 (ck (oG ((([48]:bD))=[48]/\0<=((IntKind.i64.wrap (0 -x)))/\((IntKind.i64.wrap (0 -x)))<=100)) (ck (oG ((([48,46]:bD)).length+(v7).length<=9223372036854775807)) (ck (oG (((([48,46]:bD)++v7)).length+(d).length<=9223372036854775807)) (BQ [(.s v8)])))) (ck (fe 0 (1:Int) (d).length) (cond (oG ((1:Int)<((d).length:Int))) (ck (fe (1:Int) (d).length (d).length) (ck (oG ((([46]:bD)).length+(v10).length<=9223372036854775807)) (ck (oG ((v9).length+((([46]:bD)++v10)).length<=9223372036854775807)) (abX x v11)))) (abX x v9)))))))))))))=ρ):avR d x=ρ:=Eq.trans (by kernel_rfl) (K _ rfl _ rfl _ rfl _ rfl _ rfl _ rfl _ rfl _ rfl _ rfl _ rfl _ rfl)
def awl:cE:=cW gr zs [(108,adM,mh),(118,apJ,gN),(119,aov,bB)]
def aoF:Hint:=.s .o (.s .o (.s .o (.j (sc [4,7]) .o .o)))
def awk(b:UInt64):OT:=b9 PG awl 84 bB aoF [.u64 b]
def aaJ(x0:Bool)(x1:bD):OT:=df PG awl 84 bB aoF 15 [.b x0,.s x1]
theorem awi(x0:Bool)(x1:bD):aaJ x0 x1=cond x0 (ck (oG (([45]:bD).length+x1.length<=9223372036854775807)) (BQ [.s (([45]:bD)++x1)])) (BQ [.s x1]):=lH (by kernel_rfl) rfl
theorem awj(b:UInt64)(K:∀v1,v1=Sh.HW (Sh.dg b).1 (Sh.dg b).2.1->cond (oG ((Nr.split b).1=4)) (BQ [.s [78,97,78]]) (cond (oG ((Nr.split b).1=3)) (aaJ (Nr.split b).2.1 [73,110,102,105,110,105,116,121]) (cond (oG ((Nr.split b).1=1)) (aaJ (Nr.split b).2.1 [48]) (ck (oG (1<=(Sh.dg b).1.length/\(Sh.dg b).1.length<=17/\-900<=(Sh.dg b).2.1/\(Sh.dg b).2.1<=900)) (aaJ (Nr.split b).2.1 v1))))=ρ):awk b=ρ:=Eq.trans (by kernel_rfl) (mf K:)
def aob:Hint:=.s .o (.s .o (.s .o (.s (.b (.l [(1,.no),(6,.fF 800000),(7,.no),(800000,.pv)] .o)) .o)))
def au3(d:bD)(x:Int):OT:=b9 PG dH 126 bN aob [.s d,.i .i64 x]
def abM(x0 x1:Int)(x2:List UInt8):OT:=cM PG dH 126 bN aob 39 [.i .i64 x0,.pt,.i .i64 x1,.sl .bs x2]
theorem aka(x0 x1:Int)(x2:List UInt8)(K:∀v1,v1=List.getD x2 x1.toNat 0->∀v2,v2=cond (oG (0<=x1)) (oG (v1=57)) NT->∀v3,v3=List.set x2 x1.toNat 48->∀v4,v4=IntKind.i64.wrap (x1 -1)->∀v5,v5=IntKind.i64.wrap (x0+1)->∀v6,v6=List.set x2 x1.toNat (v1+1)->∀v7,v7=IntKind.i64.wrap (x1+1)->ck (!(oG (0<=x1))||(((oG (0<=x1))&&(oG (0<=x1)))&&(bG x1 x2.length))) (ck (!(oG (0<=x1))||((oG (0<=x1))&&(oG (x1.toNat<x2.length)))) (ck (!(oG (0<=x1))||(oG (0<=x1))) (ck (!(oG (0<=x1))||(oG (0<=x1))) (cond v2 (ck (bG x1 x2.length) (ck (oG (x1.toNat<x2.length)) (abM x0 v4 v3))) (cond (oG (x1<0)) (BQ [.s [49],.i .i64 v5]) (ck (bG x1 x2.length) (ck (oG (x1.toNat<x2.length)) (ck (bG x1 x2.length) (ck (oG (x1.toNat<x2.length)) (ck (fe 0 v7 v6.length) (BQ [.s (List.take v7.toNat v6),.i .i64 x0])))))))))))=ρ):abM x0 x1 x2=ρ:=jx (by kernel_rfl) (gH (lY K:):)
theorem au2(d:bD)(x:Int)(K:∀v1,v1=IntKind.i64.wrap ((d.length:Int) -1)->ck (qQ d.length) (abM x v1 d)=ρ):au3 d x=ρ:=Eq.trans (by kernel_rfl) (mf K:)
def as6(p:UInt64)(lo hi:Int):OT:=b9 PG dH 127 bB (.o) [.u64 p,.i .i64 lo,.i .i64 hi]
theorem as5(p:UInt64)(lo hi:Int)(K:∀v1,v1=cond (oG ((0:Int)<=lo)) (oG (hi<=(0:Int))) NT->∀v2,v2=cond (oG ((0:Int)<lo)) (oG (hi<(0:Int))) NT->ck (!decide ((2:UInt64)=0)) (cond (oG ((p%(2:UInt64))=(0:UInt64))) (ck (!(oG ((0:Int)<=lo))||(oG ((0:Int)<=lo))) (ck (!(oG ((0:Int)<=lo))||(oG ((0:Int)<=lo))) (BQ [.b v1]))) (ck (!(oG ((0:Int)<lo))||(oG ((0:Int)<lo))) (ck (!(oG ((0:Int)<lo))||(oG ((0:Int)<lo))) (BQ [.b v2]))))=ρ):as6 p lo hi=ρ:=Eq.trans (by kernel_rfl) (lY K:)
end Go.Eng
namespace Go.Eng
open Go.Proofs
variable{ρ:OT}
def ajj:cE:=cW gr zs [(93,adN,mh),(125,aqf,bN),(126,aoc,bN),(127,anz,bB),(128,anx,bB)]
def aeT:Hint:=.s .o (.s .o (.s .o (.s .o (.s .o (.s .o (.s .o (.j (sc [7,8,9,10,11,12,13]) .o (.s .o (.s (.s .o (.b (.l (sc [9,10,11,12,13,14,15,16]) (.s .o (.s (.b (.s .o (.s (.b (.l (sc [9,10,11,12,13,14,15,16,17,18]) .o)) .o))) .o))))) .o)))))))))
def aAq(b:UInt64):OT:=b9 PG ajj 94 gN aeT [.u64 b]
def adh(x0:UInt64)(x1:Int)(x2:UInt64)(x3:bD)(x4:Int)(x5:bD)(x6:Int):OT:=df PG ajj 94 gN aeT 255 [.u64 x0,.i .i64 x1,.u64 x2,.s x3,.i .i64 x4,.s x5,.i .i64 x6]
def aaA(x0:UInt64)(x1:bD)(x2:Int)(x3:bD)(x4:Int)(x5:bD)(x6 x7:Int):OT:=cM PG ajj 94 gN aeT 5631 [.u64 x0,.s x1,.i .i64 x2,.s x3,.i .i64 x4,.s x5,.i .i64 x6,.i .i64 x7]
def abe(x0:UInt64)(x1:bD)(x2:Int)(x3:bD)(x4:Int)(x5:bD)(x6 x7:Int)(x8 x9:bD):OT:=cM PG ajj 94 gN aeT 599551 [.u64 x0,.s x1,.i .i64 x2,.s x3,.i .i64 x4,.s x5,.i .i64 x6,.i .i64 x7,.s x8,.s x9]
theorem aAo(x0:UInt64)(x1:Int)(x2:UInt64)(x3:bD)(x4:Int)(x5:bD)(x6:Int)(K:∀v1,v1=(2*x0)+1->∀v2,v2=IntKind.i64.wrap (x1 -1)->ck (oG (1<=v1.toNat/\v1.toNat<2^55/\-1075<=v2/\v2<=971)) (aaA x2 x3 x4 x5 x6 (Nr.Bt v1.toNat v2) (Nr.C9 v1.toNat v2) 1)=ρ):adh x0 x1 x2 x3 x4 x5 x6=ρ:=lH (by kernel_rfl) (lY K:)
theorem amh(x0:UInt64)(x1:bD)(x2:Int)(x3:bD)(x4:Int)(x5:bD)(x6 x7:Int):aaA x0 x1 x2 x3 x4 x5 x6 x7=cond (oG (x7<(x1.length:Int))) (ck (fe 0 x7 x1.length) (ck (fe x7 x1.length x1.length) (abe x0 x1 x2 x3 x4 x5 x6 x7 (List.take x7.toNat x1) (List.drop x7.toNat x1)))) (BQ [.s x1,.i .i64 x2,.b NS]):=jx (by kernel_rfl) rfl
theorem amf(x0:UInt64)(x1:bD)(x2:Int)(x3:bD)(x4:Int)(x5:bD)(x6 x7:Int)(x8 x9:bD)(K:∀v1,v1=IntKind.i64.wrap ((x8.length:Int) -(1:Int))->∀v2,v2=List.getD x8 v1.toNat (0:UInt8)->∀v3,v3=cond (oG ((0:Int)<(x8.length:Int))) (oG (v2=(48:UInt8))) NT->∀v4,v4=(Sh.more (List.take x7.toNat x1) x2).1->∀v5,v5=(Sh.more (List.take x7.toNat x1) x2).2->∀v6,v6=Sh.wi x0.toNat (Nr.jF x8 x2 x5 x6) (Nr.jF x8 x2 x3 x4)->∀v7,v7=Sh.wi x0.toNat (Nr.jF v4 v5 x5 x6) (Nr.jF v4 v5 x3 x4)->∀v8,v8=Op.bytesLess x9 ([53]:bD)->∀v9,v9=((!v8)&&(oG (x9=([53]:bD))))->∀v10,v10=IntKind.i64.wrap (x7 -(1:Int))->∀v11,v11=List.getD x1 v10.toNat (0:UInt8)->∀v12,v12=(v11 -(48:UInt8))%(2:UInt8)->∀jw,jw=cond (oG (x9=([53]:bD))) (oG (v12=(0:UInt8))) NT->∀iI,iI=IntKind.i64.wrap (x7+(1:Int))->ck (!(oG ((0:Int)<(x8.length:Int)))||(oG ((0:Int)<(x8.length:Int)))) (ck (!(oG ((0:Int)<(x8.length:Int)))||(oG ((0:Int)<(x8.length:Int)))) (ck (!(oG ((0:Int)<(x8.length:Int)))||(((oG ((0:Int)<(x8.length:Int)))&&(oG ((0:Int)<(x8.length:Int))))&&(bG v1 x8.length))) (ck (!(oG ((0:Int)<(x8.length:Int)))||(oG ((0:Int)<(x8.length:Int)))) (ck (!(oG ((0:Int)<(x8.length:Int)))||(oG ((0:Int)<(x8.length:Int)))) (cond v3 (ck (fe 0 v1 x8.length) (abe x0 x1 x2 x3 x4 x5 x6 x7 (List.take v1.toNat x8) x9)) (ck (fe 0 x7 x1.length) (ck (oG (1<=(List.take x7.toNat x1).length/\(List.take x7.toNat x1).length<=100000/\-100000<=x2/\x2<=100000)) (ck (!v6||v6) (cond (cond v6 v7 NT) (ck (!(!v8)||(!v8)) (ck (!(!v8)||(!v8)) (ck (!v9||v9) (ck (!v9||((v9&&v9)&&(bG v10 x1.length))) (ck (!v9||v9) (ck (!v9||(v9&&(!decide ((2:UInt8)=0)))) (ck (!v9||v9) (ck (!(!v8)||((!v8)&&(!(oG (x9=([53]:bD)))||v9))) (ck (v8||(!v8)) (cond (cond v8 NS jw) (BQ [.s x8,.i .i64 x2,.b NS]) (BQ [.s v4,.i .i64 v5,.b NS]))))))))))) (cond v6 (BQ [.s x8,.i .i64 x2,.b NS]) (cond v7 (BQ [.s v4,.i .i64 v5,.b NS]) (aaA x0 x1 x2 x3 x4 x5 x6 iI))))))))))))=ρ):abe x0 x1 x2 x3 x4 x5 x6 x7 x8 x9=ρ:=jx (by kernel_rfl) (gH (qS (gH K:):):)
theorem aAp(b:UInt64)(K:∀v1,v1=jB b (1:UInt64).toNat->∀v2,v2=cK v1 (1:UInt64).toNat->∀v3,v3=Nr.Bt (Nr.split b).2.2.1.toNat (Nr.split b).2.2.2->∀v4,v4=Nr.C9 (Nr.split b).2.2.1.toNat (Nr.split b).2.2.2->∀v5,v5=2*(Nr.split b).2.2.1->∀v6,v6=IntKind.i64.wrap ((Nr.split b).2.2.2 -1)->∀v7,v7=Nr.Bt (v5+1).toNat v6->∀v8,v8=Nr.C9 (v5+1).toNat v6->∀v9,v9=(Nr.split (v2 -1)).1->∀v10,v10=(Nr.split (v2 -1)).2.1->∀v11,v11=(Nr.split (v2 -1)).2.2.1->∀v12,v12=(Nr.split (v2 -1)).2.2.2->cond (!decide ((Nr.split b).1=2)) (BQ [.s [],.i .i64 0,.b NT]) (ck (oG (1<=(Nr.split b).2.2.1.toNat/\(Nr.split b).2.2.1.toNat<2^55/\-1075<=(Nr.split b).2.2.2/\(Nr.split b).2.2.2<=971)) (ck (oG (1<=(v5+1).toNat/\(v5+1).toNat<2^55/\-1075<=v6/\v6<=971)) (cond (oG (v2=1)) (adh v11 (-1074) v2 v3 v4 v7 v8) (adh v11 v12 v2 v3 v4 v7 v8))))=ρ):aAq b=ρ:=Eq.trans (by kernel_rfl) (gH (lY (gH K:):):)
def ae6:cE:=cW gr zs [(93,adN,mh),(94,ap9,gN),(95,aef,bB)]
def ad0:Hint:=.s .o (.s .o (.s .o (.j (sc [0,3,7]) .o (.s .o (.s .o (.s .o (.s (.b (.s .o (.s (.s (.b (.l (sc [7,8,9]) .o)) .o) (.s .o (.s .o (.s .o (.s (.s (.s .o (.b (.l (sc [7,8,12]) .o))) .o) .o))))))) (.s .o (.j (sc [9,13]) .o .o)))))))))
def aBk(b:UInt64):OT:=b9 PG ae6 56 bB ad0 [.u64 b]
def adC(x0:UInt64)(x1:Int)(x2:bD):OT:=df PG ae6 56 bB ad0 15 [.u64 x0,.i .i64 x1,.s x2]
def adA(x0 x1:bD)(x2:Int):OT:=cM PG ae6 56 bB ad0 8831 [.s x0,.s x1,.i .i64 x2]
def adz(x0 x1:bD)(x2:Int):OT:=cM PG ae6 56 bB ad0 343679 [.s x0,.s x1,.i .i64 x2]
def adB(x0:Int)(x1:bD):OT:=df PG ae6 56 bB ad0 1023 [.i .i64 x0,.s x1]
theorem aBi(x0:UInt64)(x1:Int)(x2:bD)(K:∀(v1:bD)(h1:v1=(x2++([73,110,102,105,110,105,116,121]:bD)))(v2:Int)(h2:v2=((((Sh.dg x0).1)).length:Int))(v3:Bool)(h3:v3=(cond (oG ((1:Int)<=((Sh.dg x0).2.1))) (oG (((Sh.dg x0).2.1)<=(21:Int))) NT))(v4:Bool)(h4:v4=(cond v3 (oG (v2<=((Sh.dg x0).2.1))) NT))(v5:bD)(h5:v5=(List.take (((Sh.dg x0).2.1)).toNat ((Sh.dg x0).1)))(v6:bD)(h6:v6=(List.drop (((Sh.dg x0).2.1)).toNat ((Sh.dg x0).1)))(v7:bD)(h7:v7=(((x2++v5)++([46]:bD))++v6))(v8:Bool)(h8:v8=(cond (oG ((-5:Int)<=((Sh.dg x0).2.1))) (oG (((Sh.dg x0).2.1)<=(0:Int))) NT))(v9:bD)(h9:v9=(List.take ((1:Int)).toNat ((Sh.dg x0).1)))(v10:bD)(jo:v10=(List.drop ((1:Int)).toNat ((Sh.dg x0).1)))(v11:bD)(lg:v11=(((x2++v9)++([46]:bD))++v10)),cond (oG (x1=(4:Int))) (BQ [(.s ([78,97,78]:bD))]) (cond (oG (x1=(3:Int))) (ck (oG ((x2).length+(([73,110,102,105,110,105,116,121]:bD)).length<=9223372036854775807)) (BQ [(.s v1)])) (cond (oG (x1=(1:Int))) (ck (oG ((x2).length+(([48]:bD)).length<=9223372036854775807)) (BQ [(.s (x2++([48]:bD)))])) (ck (!(oG ((1:Int)<=((Sh.dg x0).2.1)))||(oG ((1:Int)<=((Sh.dg x0).2.1)))) (ck (!(oG ((1:Int)<=((Sh.dg x0).2.1)))||(oG ((1:Int)<=((Sh.dg x0).2.1)))) (ck (!v3||(v3&&v3)) (ck (!v3||v3) (cond v4 (adA x2 ((Sh.dg x0).1) ((Sh.dg x0).2.1)) (ck (!(oG ((1:Int)<=((Sh.dg x0).2.1)))||(oG ((1:Int)<=((Sh.dg x0).2.1)))) (ck (!(oG ((1:Int)<=((Sh.dg x0).2.1)))||(oG ((1:Int)<=((Sh.dg x0).2.1)))) (cond v3 (ck (fe 0 ((Sh.dg x0).2.1) (((Sh.dg x0).1)).length) (ck (oG ((x2).length+(v5).length<=9223372036854775807)) (ck (oG (((x2++v5)).length+(([46]:bD)).length<=9223372036854775807)) (ck (fe ((Sh.dg x0).2.1) (((Sh.dg x0).1)).length (((Sh.dg x0).1)).length) (ck (oG ((((x2++v5)++([46]:bD))).length+(v6).length<=9223372036854775807)) (BQ [(.s v7)])))))) (ck (!(oG ((-5:Int)<=((Sh.dg x0).2.1)))||(oG ((-5:Int)<=((Sh.dg x0).2.1)))) (ck (!(oG ((-5:Int)<=((Sh.dg x0).2.1)))||(oG ((-5:Int)<=((Sh.dg x0).2.1)))) (cond v8 (adz x2 ((Sh.dg x0).1) ((Sh.dg x0).2.1)) (ck (fe 0 (1:Int) (((Sh.dg x0).1)).length) (ck (oG ((x2).length+(v9).length<=9223372036854775807)) (cond (oG ((1:Int)<v2)) (ck (oG (((x2++v9)).length+(([46]:bD)).length<=9223372036854775807)) (ck (fe (1:Int) (((Sh.dg x0).1)).length (((Sh.dg x0).1)).length) (ck (oG ((((x2++v9)++([46]:bD))).length+(v10).length<=9223372036854775807)) (adB ((Sh.dg x0).2.1) v11)))) (adB ((Sh.dg x0).2.1) (x2++v9))))))))))))))))))=ρ):adC x0 x1 x2=ρ:=((oA _ _ _ _ _ _ _).trans (by kernel_rfl)).trans (K _ rfl _ rfl _ rfl _ rfl _ rfl _ rfl _ rfl _ rfl _ rfl _ rfl _ rfl)
theorem amB(x0 x1:bD)(x2:Int):adA x0 x1 x2=cond (oG ((x1.length:Int)<x2)) (ck (oG (x1.length+([48]:bD).length<=9223372036854775807)) (adA x0 (x1++[48]) x2)) (ck (oG (x0.length+x1.length<=9223372036854775807)) (BQ [.s (x0++x1)])):=jx (by kernel_rfl) rfl
theorem amz(x0 x1:bD)(x2:Int)(K:∀v1,v1=IntKind.i64.wrap (x2+1)->∀v2,v2=(x0++([48,46]:bD))++x1->cond (oG (x2<0)) (ck (oG (([48]:bD).length+x1.length<=9223372036854775807)) (adz x0 (([48]:bD)++x1) v1)) (ck (oG (x0.length+([48,46]:bD).length<=9223372036854775807)) (ck (oG ((x0++([48,46]:bD)).length+x1.length<=9223372036854775807)) (BQ [.s v2])))=ρ):adz x0 x1 x2=ρ:=jx (by kernel_rfl) (lY K:)
theorem aBl(x0:Int)(x1:bD)(K:∀v1,v1=IntKind.i64.wrap (1 -x0)->∀v2,v2=(x1++[101,45])++(Nr.itoa v1)->∀v3,v3=IntKind.i64.wrap (x0 -1)->∀v4,v4=(x1++[101,43])++(Nr.itoa v3)->cond (oG (x0<1)) (ck (oG (x1.length+([101,45]:bD).length<=9223372036854775807)) (ck (Nr.i64 v1) (ck (oG ((x1++[101,45]).length+(Nr.itoa v1).length<=9223372036854775807)) (BQ [.s v2])))) (ck (oG (x1.length+([101,43]:bD).length<=9223372036854775807)) (ck (Nr.i64 v3) (ck (oG ((x1++[101,43]).length+(Nr.itoa v3).length<=9223372036854775807)) (BQ [.s v4]))))=ρ):adB x0 x1=ρ:=lH (by kernel_rfl) (qS K:)
theorem aBj(b:UInt64):aBk b=cond (Nr.split b).2.1 (adC b (Nr.split b).1 [45]) (adC b (Nr.split b).1 []):=by kernel_rfl
def aCG:cE:=cW gr zs [(192,amO,bB)]
def awf(v:UInt64)(b:Int):OT:=b9 PG aCG 156 bB (.o) [.u64 v,.i .i64 b]
theorem awe(v:UInt64)(b:Int):awf v b=ck (oG (b=10)) (BQ [.s (Nr.dec v.toNat)]):=by kernel_rfl
def auJ(s t:bD):OT:=b9 PG dH 82 bB (.o) [.s s,.s t]
theorem auI(s:bD)(t:bD)(K:∀(v1:bD)(h1:v1=(List.take (((t).length:Int)).toNat s))(v2:Bool)(h2:v2=(cond (oG (((t).length:Int)<=((s).length:Int))) (oG (v1=t)) NT)),ck (!(oG (((t).length:Int)<=((s).length:Int)))||(oG (((t).length:Int)<=((s).length:Int)))) (ck (!(oG (((t).length:Int)<=((s).length:Int)))||(((oG (((t).length:Int)<=((s).length:Int)))&&(oG (((t).length:Int)<=((s).length:Int))))&&(fe 0 ((t).length:Int) (s).length))) (ck (!(oG (((t).length:Int)<=((s).length:Int)))||((oG (((t).length:Int)<=((s).length:Int)))&&(oG (((t).length:Int)<=((s).length:Int))))) (ck (!(oG (((t).length:Int)<=((s).length:Int)))||(oG (((t).length:Int)<=((s).length:Int)))) (BQ [(.b v2)]))))=ρ):auJ s t=ρ:=Eq.trans (by kernel_rfl) (K _ rfl _ rfl)
def aCI:cE:=cW gr zs [(82,an0,bB)]
def awn(s t:bD):OT:=b9 PG aCI 43 bB (.o) [.s s,.s t]
theorem awm(s t:bD):awn s t=BQ [.b (List.isPrefixOf t s)]:=by kernel_rfl
def aCF:cE:=cW gr zs [(163,ahy,bB)]
def avX(s:bD)(c:UInt8):OT:=b9 PG aCF 137 bB (.o) [.s s,.u8 c]
theorem avW(s:bD)(c:UInt8):avX s c=BQ [.i .i64 (Lib.indexByte s c)]:=by kernel_rfl
def asi(a b:UInt64):OT:=b9 PG dH 222 bN (.o) [.u64 a,.u64 b]
theorem ash(a b:UInt64)(K:∀v1,v1=(a&&&4294967295)->∀v2,v2=cK a (32:UInt64).toNat->∀v3,v3=(b&&&4294967295)->∀v4,v4=cK b (32:UInt64).toNat->∀v5,v5=cK (v1*v3) (32:UInt64).toNat->∀v6,v6=(((v2*v3)+v5)&&&4294967295)->∀v7,v7=cK ((v2*v3)+v5) (32:UInt64).toNat->∀v8,v8=cK (v6+(v1*v4)) (32:UInt64).toNat->BQ [.u64 (((v2*v4)+v7)+v8),.u64 (a*b)]=ρ):asi a b=ρ:=Eq.trans (by kernel_rfl) (gH (po K:):)
def aCu:cE:=cW gr zs [(205,WN,bB)]
def atH(v:UInt64):OT:=b9 PG aCu 225 bB (.o) [.u64 v]
theorem atG(v:UInt64)(K:∀v1,v1=IntKind.i64.wrap (64 -(Nt.bits v.toNat:Int))->BQ [.i .i64 v1]=ρ):atH v=ρ:=Eq.trans (by kernel_rfl) (mf K:)
def abu:cE:=cW gr zs [(225,anI,bB)]
def abf:Hint:=.s .o (.j (sc [0,1,2]) .o (.j (sc [0,1,2]) .o (.s .o (.s .o (.s .o (.s .o (.s .o (.s .o (.s .o (.s .o (.s .o (.s .o (.s .o (.j (sc [2,8,9,10,11,13,14,15]) (.b (.l (sc [2,8,9,10,11,13,14,15,16]) .o)) (.s .o (.s .o (.s .o (.j (sc [2,8,14,15,17,18]) (.b (.l (sc [2,8,9,10,14,15,16,17,18]) .o)) .o))))))))))))))))))
def aAA(a b y:UInt64):OT:=b9 PG abu 191 bN abf [.u64 a,.u64 b,.u64 y]
def amj(x0 x1 x2:UInt64):OT:=df PG abu 191 bN abf 3 [.u64 x0,.u64 x1,.u64 x2]
def ami(x0 x1 x2:UInt64):OT:=df PG abu 191 bN abf 7 [.u64 x0,.u64 x1,.u64 x2]
def adj(x0 x1 x2 x3 x4 x5 x6 x7 x8:UInt64):OT:=cM PG abu 191 bN abf 81919 [.u64 x0,.u64 x1,.u64 x2,.u64 x3,.u64 x4,.u64 x5,.u64 x6,.u64 x7,.u64 x8]
def adl(x0 x1 x2 x3 x4 x5 x6 x7:UInt64):OT:=df PG abu 191 bN abf 32767 [.u64 x0,.u64 x1,.u64 x2,.u64 x3,.u64 x4,.u64 x5,.u64 x6,.u64 x7]
def adi(x0 x1 x2 x3 x4 x5 x6 x7 x8:UInt64):OT:=cM PG abu 191 bN abf 1310719 [.u64 x0,.u64 x1,.u64 x2,.u64 x3,.u64 x4,.u64 x5,.u64 x6,.u64 x7,.u64 x8]
def adk(x0 x1 x2 x3 x4 x5:UInt64):OT:=df PG abu 191 bN abf 524287 [.u64 x0,.u64 x1,.u64 x2,.u64 x3,.u64 x4,.u64 x5]
theorem aAu(x0 x1 x2:UInt64):amj x0 x1 x2=cond (oG (x2<=x0)) Ku (ami x0 x1 x2):=lH (by kernel_rfl) rfl
theorem aAv(x0 x1 x2:UInt64)(K:∀v1,v1=jB x2 (UInt64.ofInt (0)).toNat->∀v2,v2=cK v1 (32:UInt64).toNat->∀v3,v3=(v1&&&4294967295)->∀v4,v4=jB x0 (UInt64.ofInt (0)).toNat->∀v5,v5=64 -(UInt64.ofInt (0))->∀v6,v6=(v4|||(cK x1 v5.toNat))->∀v7,v7=jB x1 (UInt64.ofInt (0)).toNat->∀v8,v8=cK v7 (32:UInt64).toNat->∀v9,v9=(v7&&&4294967295)->cond (oG (x0=0)) (ck (!decide (x2=0)) (ck (!decide (x2=0)) (BQ [.u64 (x1/x2),.u64 (x1% x2)]))) (ck (oG (9223372036854775808<=x2.toNat)) (ck (!decide (v2=0)) (adj v1 (UInt64.ofInt (0)) v2 v3 v6 v8 v9 (v6/v2) (v6 -((v6/v2)*v2)))))=ρ):ami x0 x1 x2=ρ:=lH (by kernel_rfl) (gH (qS K:):)
theorem aAt(x0 x1 x2 x3 x4 x5 x6 x7 x8:UInt64)(K:∀v1,v1=(4294967296*x8)+x5->∀v2,v2=cond (oG (4294967296<=x7)) NS (oG (v1<(x7*x3)))->ck (!(!(oG (4294967296<=x7)))||((!(oG (4294967296<=x7)))&&(!(oG (4294967296<=x7))))) (ck (!(!(oG (4294967296<=x7)))||(!(oG (4294967296<=x7)))) (ck (!(!(oG (4294967296<=x7)))||((!(oG (4294967296<=x7)))&&(!(oG (4294967296<=x7))))) (ck (!(!(oG (4294967296<=x7)))||((!(oG (4294967296<=x7)))&&(!(oG (4294967296<=x7))))) (ck ((oG (4294967296<=x7))||(!(oG (4294967296<=x7)))) (cond v2 (cond (oG (4294967296<=(x8+x2))) (adl x0 x1 x2 x3 x4 x5 x6 (x7 -1)) (adj x0 x1 x2 x3 x4 x5 x6 (x7 -1) (x8+x2))) (adl x0 x1 x2 x3 x4 x5 x6 x7))))))=ρ):adj x0 x1 x2 x3 x4 x5 x6 x7 x8=ρ:=jx (by kernel_rfl) (lY K:)
theorem aAB(x0 x1 x2 x3 x4 x5 x6 x7:UInt64)(K:∀v1,v1=(x4*4294967296)+x5->∀v2,v2=((v1 -(x7*x0))/x2)*x2->ck (!decide (x2=0)) (adi x0 x1 x2 x3 x6 x7 ((v1 -(x7*x0)) -v2) (v1 -(x7*x0)) ((v1 -(x7*x0))/x2))=ρ):adl x0 x1 x2 x3 x4 x5 x6 x7=ρ:=lH (by kernel_rfl) (lY K:)
theorem aAr(x0 x1 x2 x3 x4 x5 x6 x7 x8:UInt64)(K:∀v1,v1=(4294967296*x6)+x4->∀v2,v2=cond (oG (4294967296<=x8)) NS (oG (v1<(x8*x3)))->ck (!(!(oG (4294967296<=x8)))||((!(oG (4294967296<=x8)))&&(!(oG (4294967296<=x8))))) (ck (!(!(oG (4294967296<=x8)))||(!(oG (4294967296<=x8)))) (ck (!(!(oG (4294967296<=x8)))||((!(oG (4294967296<=x8)))&&(!(oG (4294967296<=x8))))) (ck (!(!(oG (4294967296<=x8)))||((!(oG (4294967296<=x8)))&&(!(oG (4294967296<=x8))))) (ck ((oG (4294967296<=x8))||(!(oG (4294967296<=x8)))) (cond v2 (cond (oG (4294967296<=(x6+x2))) (adk x0 x1 x4 x5 x7 (x8 -1)) (adi x0 x1 x2 x3 x4 x5 (x6+x2) x7 (x8 -1))) (adk x0 x1 x4 x5 x7 x8))))))=ρ):adi x0 x1 x2 x3 x4 x5 x6 x7 x8=ρ:=jx (by kernel_rfl) (lY K:)
theorem aAz(x0 x1 x2 x3 x4 x5:UInt64)(K:∀v1,v1=(x3*4294967296)+x5->∀v2,v2=(x4*4294967296)+x2->∀v3,v3=cK (v2 -(x5*x0)) x1.toNat->BQ [.u64 v1,.u64 v3]=ρ):adk x0 x1 x2 x3 x4 x5=ρ:=lH (by kernel_rfl) (po K:)
theorem aAw(a b y:UInt64):aAA a b y=cond (oG (y=0)) Ku (amj a b y):=by kernel_rfl
def aqT(a b:dY):OT:=b9 PG dH 153 bB (.o) [.ag a.cells,.ag b.cells]
theorem aqS(a b:dY)(K:∀v1,v1=(oG (a.high=b.high)&&oG (a.low=b.low))->∀v2,v2=((!(oG (a.high<b.high)))&&(oG (a.high=b.high)))->∀v3,v3=cond (oG (a.high=b.high)) (oG (a.low<b.low)) NT->∀v4,v4=cond (oG (a.high<b.high)) NS v3->cond v1 (BQ [.i .i64 0]) (ck (!(!(oG (a.high<b.high)))||(!(oG (a.high<b.high)))) (ck (!(!(oG (a.high<b.high)))||(!(oG (a.high<b.high)))) (ck (!(!(oG (a.high<b.high)))||((!(oG (a.high<b.high)))&&(!(oG (a.high<b.high))))) (ck (!(!(oG (a.high<b.high)))||(!(oG (a.high<b.high)))) (ck (!v2||v2) (ck (!v2||v2) (ck (!v2||(v2&&v2)) (ck (!(!(oG (a.high<b.high)))||((!(oG (a.high<b.high)))&&(!(oG (a.high=b.high))||v2))) (ck ((oG (a.high<b.high))||(!(oG (a.high<b.high)))) (cond v4 (BQ [.i .i64 (-1)]) (BQ [.i .i64 1])))))))))))=ρ):aqT a b=ρ:=Eq.trans (by kernel_rfl) (qS K:)
def aBO:cE:=cW gr zs [(222,anl,bN)]
def aqZ(a b:UInt64):OT:=b9 PG aBO 190 bB (.o) [.u64 a,.u64 b]
theorem aqY(a b:UInt64)(K:∀v1,v1=UInt64.ofNat (a.toNat*b.toNat/18446744073709551616)->∀v2,v2=UInt64.ofNat (a.toNat*b.toNat)->BQ [.ag [.u64 v1,.u64 v2]]=ρ):aqZ a b=ρ:=Eq.trans (by kernel_rfl) (lY K:)
def aBN:cE:=cW gr zs [(191,aqa,bN)]
def aqW(a:dY)(b:UInt64):OT:=b9 PG aBN 155 gN (.o) [.ag a.cells,.u64 b]
theorem aqV(a:dY)(b:UInt64)(K:∀v1,v1=UInt64.ofNat (((0:UInt64).toNat*18446744073709551616+a.high.toNat)/b.toNat)->∀v2,v2=UInt64.ofNat (((0:UInt64).toNat*18446744073709551616+a.high.toNat)% b.toNat)->∀v3,v3=UInt64.ofNat ((v2.toNat*18446744073709551616+a.low.toNat)/b.toNat)->∀v4,v4=UInt64.ofNat ((v2.toNat*18446744073709551616+a.low.toNat)% b.toNat)->cond (oG (b=0)) (BQ [.ag [.u64 0,.u64 0],.u64 0,.b NT]) (ck (oG (9223372036854775808<=b.toNat/\(0:UInt64).toNat<b.toNat)) (ck (oG (9223372036854775808<=b.toNat/\v2.toNat<b.toNat)) (BQ [.ag [.u64 v1,.u64 v3],.u64 v4,.b NS])))=ρ):aqW a b=ρ:=Eq.trans (by kernel_rfl) (qS K:)
def apr:cE:=cW gr zs [(152,adK,bB),(155,am1,gN),(156,aoE,bB),(157,afB,bB)]
def ais:Hint:=.s .o (.s .o (.s (.b (.l [(1,.ptr 53 0),(3,.no),(53,.cl [])] .o)) (.j (sc [3]) .o .o)))
def ayh(a:dY):OT:=b9 PG apr 123 bB ais [.ag a.cells]
def aaP(x0:bD)(x1 x2:UInt64):OT:=cM PG apr 123 bB ais 19 [.pt,.s x0,.ag [.u64 x1,.u64 x2]]
def aat(x0:bD):OT:=df PG apr 123 bB ais 15 [.s x0]
theorem ald(x0:bD)(x1 x2:UInt64)(K:∀v1,v1=dY.of ((dY.mk x1 x2).val/(10000000000000000000:UInt64).toNat)->∀v2,v2=UInt64.ofNat ((dY.mk x1 x2).val%(10000000000000000000:UInt64).toNat)->∀v3,v3=((Nr.dec v2.toNat).length:Int)->∀v4,v4=IntKind.i64.wrap ((19:Int) -v3)->∀v5,v5=(Sh.eK v4)++(Nr.dec v2.toNat)->∀v6,v6=cond (oG (x0=([]:bD))) NS (!decide (x2=(0:UInt64)))->cond (!decide (x1=(0:UInt64))) (ck (oG (9223372036854775808<=(10000000000000000000:UInt64).toNat)) (ck (oG ((10:Int)=10)) (ck (oG (([48]:bD)=[48]/\0<=v4/\v4<=100)) (ck (oG ((Sh.eK v4).length+(Nr.dec v2.toNat).length<=9223372036854775807)) (ck (oG (v5.length+x0.length<=9223372036854775807)) (aaP (v5++x0) v1.high v1.low)))))) (ck (!(!(oG (x0=([]:bD))))||(!(oG (x0=([]:bD))))) (ck (!(!(oG (x0=([]:bD))))||(!(oG (x0=([]:bD))))) (ck ((oG (x0=([]:bD)))||(!(oG (x0=([]:bD))))) (cond v6 (ck (oG ((10:Int)=10)) (ck (oG ((Nr.dec x2.toNat).length+x0.length<=9223372036854775807)) (aat ((Nr.dec x2.toNat)++x0)))) (aat x0)))))=ρ):aaP x0 x1 x2=ρ:=jx (by kernel_rfl) (gH (mf K:):)
theorem aye(x0:bD)(K:∀(v1:Int)(h1:v1=(IntKind.i64.wrap (((x0).length:Int) -(1:Int))))(v2:bD)(h2:v2=(Lib.trimLeftS ((List.take (v1).toNat x0)) (([48]:bD))))(v3:bD)(h3:v3=(v2++(List.drop (v1).toNat x0))),ck (fe 0 v1 (x0).length) (ck (oG ((((List.take (v1).toNat x0))).length<=1099511627776/\((([48]:bD))).length<=100)&&((([48]:bD))).all (λb=>oG (b.toNat<128))) (ck (fe v1 (x0).length (x0).length) (ck (oG ((v2).length+((List.drop (v1).toNat x0)).length<=9223372036854775807)) (BQ [(.s v3)]))))=ρ):aat x0=ρ:=((oA _ _ _ _ _ _ _).trans (by kernel_rfl)).trans (K _ rfl _ rfl _ rfl)
theorem ayf(a:dY):ayh a=aaP [] a.high a.low:=by kernel_rfl
def aCa:cE:=cW gr zs [(190,am2,bB)]
def asq:OT:=b9 PG aCa 154 bB (.o) []
theorem asp(K:∀v1,v1=dY.of ((100000000000000000:UInt64).toNat*(100000000000000000:UInt64).toNat)->BQ [.ag v1.cells]=ρ):asq=ρ:=Eq.trans (by kernel_rfl) (mf K:)
def au9:cE:=cW gr zs [(153,afo,bB),(154,aga,bB)]
def aoe:Hint:=.s .o (.s .o (.s .o (.s .o (.s .o (.j [(0,.no),(5,.no),(6,.ptr 58 0),(58,.cl [])] .o .o)))))
def au8(h l:UInt64):OT:=b9 PG au9 120 mh aoe [.u64 h,.u64 l]
def aen(x0:UInt64)(x1:Bool)(x2 x3:UInt64):OT:=df PG au9 120 mh aoe 63 [.u64 x0,.b x1,.pt,.ag [.u64 x2,.u64 x3]]
theorem akc(x0:UInt64)(x1:Bool)(x2 x3:UInt64)(K:∀v1,v1=cK x0 (49:UInt64).toNat->∀v2,v2=IntKind.i64.wrap ((v1&&&16383).toNat:Int)->∀v3,v3=IntKind.i64.wrap (v2 -6176)->BQ [.i .i64 1,.b x1,.ag [.u64 x2,.u64 x3],.i .i64 v3]=ρ):aen x0 x1 x2 x3=ρ:=lH (by kernel_rfl) (po K:)
theorem au7(h l:UInt64)(K:∀v1,v1=cK h (63:UInt64).toNat->∀v2,v2=cK h (58:UInt64).toNat->∀v3,v3=oG ((v2&&&31)=31)->∀v4,v4=oG ((v2&&&31)=30)->∀v5,v5=cK (v2&&&31) (3:UInt64).toNat->∀v6,v6=cK h (47:UInt64).toNat->∀v7,v7=IntKind.i64.wrap ((v6&&&16383).toNat:Int)->∀v8,v8=IntKind.i64.wrap (v7 -6176)->∀v9,v9=(h&&&562949953421311)->∀v10,v10=cond (oG ((dY.mk v9 l).val=(Cn.sH).val)) 0 (cond (oG ((dY.mk v9 l).val<(Cn.sH).val)) (-1) 1)->cond v3 (BQ [.i .i64 3,.b (oG (v1=1)),.ag [.u64 0,.u64 0],.i .i64 0]) (cond v4 (BQ [.i .i64 2,.b (oG (v1=1)),.ag [.u64 0,.u64 0],.i .i64 0]) (cond (oG (v5=3)) (BQ [.i .i64 1,.b (oG (v1=1)),.ag [.u64 0,.u64 0],.i .i64 v8]) (cond (oG (0<=v10)) (aen h (oG (v1=1)) 0 0) (aen h (oG (v1=1)) v9 l))))=ρ):au8 h l=ρ:=Eq.trans (by kernel_rfl) (gH (gH K:):)
def auN:cE:=cW gr zs [(153,afo,bB),(154,aga,bB)]
def an4:Hint:=.s .o (.s .o (.s .o (.j [(4,.ptr 38 0),(6,.no),(38,.cl [])] .o .o)))
def auM(n:Bool)(c:dY)(x:Int):OT:=b9 PG auN 121 gN an4 [.b n,.ag c.cells,.i .i64 x]
def ael(x0 x1 x2:UInt64):OT:=df PG auN 121 gN an4 15 [.pt,.u64 x0,.ag [.u64 x1,.u64 x2]]
theorem aj8(x0 x1 x2:UInt64):ael x0 x1 x2=BQ [.u64 x0,.u64 x2,.b NS]:=lH (by kernel_rfl) rfl
theorem auL(n:Bool)(c:dY)(x:Int)(K:∀v1,v1=cond (oG (c.val=(Cn.sH).val)) 0 (cond (oG (c.val<(Cn.sH).val)) (-1) 1)->∀v2,v2=cond (oG (0<=v1)) NS (oG (x<(-6176)))->∀v3,v3=cond v2 NS (oG (6111<x))->∀v4,v4=IntKind.i64.wrap (x+6176)->∀v5,v5=jB (UInt64.ofInt v4) (49:UInt64).toNat->∀v6,v6=((v5|||c.high)|||9223372036854775808)->ck (!(!(oG (0<=v1)))||(!(oG (0<=v1)))) (ck ((oG (0<=v1))||(!(oG (0<=v1)))) (ck (!(!v2)||(!v2)) (ck (v2||(!v2)) (cond v3 (BQ [.u64 0,.u64 0,.b NT]) (cond n (ael v6 c.high c.low) (ael (v5|||c.high) c.high c.low))))))=ρ):auM n c x=ρ:=Eq.trans (by kernel_rfl) (gH (mf K:):)
def aB7:cE:=cW gr zs [(120,ahi,mh),(121,an5,gN)]
def ar3(h l:UInt64):OT:=b9 PG aB7 86 bB (.o) [.u64 h,.u64 l]
theorem ar2(h l:UInt64)(K:∀v1,v1=cond (oG (h=8935141660703064064)) (oG (l=0)) NT->∀v2,v2=(h&&&~~~9223372036854775808)->∀v3,v3=cond (oG (v2=8646911284551352320)) (oG (l=0)) NT->∀v4,v4=(Cn.join (Cn.split h l).2.1 (Cn.split h l).2.2.1 (Cn.split h l).2.2.2).1->∀v5,v5=(Cn.join (Cn.split h l).2.1 (Cn.split h l).2.2.1 (Cn.split h l).2.2.2).2.1->∀v6,v6=(Cn.join (Cn.split h l).2.1 (Cn.split h l).2.2.1 (Cn.split h l).2.2.2).2.2->∀v7,v7=cond v6 (oG (v4=h)) NT->∀v8,v8=cond v7 (oG (v5=l)) NT->cond (oG ((Cn.split h l).1=3)) (ck (!(oG (h=8935141660703064064))||(oG (h=8935141660703064064))) (ck (!(oG (h=8935141660703064064))||(oG (h=8935141660703064064))) (BQ [.b v1]))) (cond (oG ((Cn.split h l).1=2)) (ck (!(oG (v2=8646911284551352320))||(oG (v2=8646911284551352320))) (ck (!(oG (v2=8646911284551352320))||(oG (v2=8646911284551352320))) (BQ [.b v3]))) (ck (Nr.i64 (Cn.split h l).2.2.2) (ck (!v6||(v6&&v6)) (ck (!v6||v6) (ck (!v7||(v7&&v7)) (ck (!v7||v7) (BQ [.b v8])))))))=ρ):ar3 h l=ρ:=Eq.trans (by kernel_rfl) (gH (po K:):)
def aon:cE:=cW gr zs [(83,adJ,bB),(152,adK,bB)]
def ahr:Hint:=.s .o (.s .o (.s .o (.s (.b (.s .o (.s .o (.s .o (.s (.j (sc [0,1,5]) .o .o) .o))))) (.s .o (.j (sc [6,7]) .o .o)))))
def avy(d:bD)(x:Int):OT:=b9 PG aon 122 bB ahr [.s d,.i .i64 x]
def abT(x0:bD)(x1 x2:Int):OT:=df PG aon 122 bB ahr 743 [.s x0,.i .i64 x1,.i .i64 x2]
def abS(x0:Int)(x1:bD):OT:=df PG aon 122 bB ahr 63 [.i .i64 x0,.s x1]
theorem avw(x0:bD)(x1:Int)(x2:Int)(K:∀(v1:bD)(h1:v1=(List.take ((IntKind.i64.wrap (x2+x1))).toNat x0))(v2:bD)(h2:v2=(List.drop ((IntKind.i64.wrap (x2+x1))).toNat x0)),ck (fe 0 (IntKind.i64.wrap (x2+x1)) (x0).length) (ck (oG ((v1).length+(([46]:bD)).length<=9223372036854775807)) (ck (fe (IntKind.i64.wrap (x2+x1)) (x0).length (x0).length) (ck (oG (((v1++([46]:bD))).length+(v2).length<=9223372036854775807)) (BQ [(.s ((v1++([46]:bD))++v2))]))))=ρ):abT x0 x1 x2=ρ:=((oA _ _ _ _ _ _ _).trans (by kernel_rfl)).trans (K _ rfl _ rfl)
theorem avv(x0:Int)(x1:bD)(K:∀v1,v1=Nr.itoa (IntKind.i64.wrap (0 -x0))->∀v2,v2=(x1++[69,45])++v1->∀v3,v3=(x1++[69,43])++(Nr.itoa x0)->cond (oG (x0<0)) (ck (oG (x1.length+([69,45]:bD).length<=9223372036854775807)) (ck (Nr.i64 (IntKind.i64.wrap (0 -x0))) (ck (oG ((x1++[69,45]).length+v1.length<=9223372036854775807)) (BQ [.s v2])))) (ck (oG (x1.length+([69,43]:bD).length<=9223372036854775807)) (ck (Nr.i64 x0) (ck (oG ((x1++[69,43]).length+(Nr.itoa x0).length<=9223372036854775807)) (BQ [.s v3]))))=ρ):abS x0 x1=ρ:=lH (by kernel_rfl) (po K:)
theorem avx(d:bD)(x:Int)(K:∀(v1:Int)(h1:v1=(IntKind.i64.wrap (x+((d).length:Int))))(v2:Int)(h2:v2=(IntKind.i64.wrap (v1 -(1:Int))))(v3:Bool)(h3:v3=(cond (oG (x<(0:Int))) (oG ((-6:Int)<=v2)) NT))(v4:Int)(h4:v4=(IntKind.i64.wrap ((1:Int) -x)))(v5:Int)(h5:v5=(IntKind.i64.wrap (v4 -((d).length:Int))))(v6:Int)(h6:v6=((((Sh.eK v5)++d)).length:Int))(v7:bD)(h7:v7=(List.take ((1:Int)).toNat d))(v8:bD)(h8:v8=(List.drop ((1:Int)).toNat d)),cond (oG (x=(0:Int))) (BQ [(.s d)]) (ck (!(oG (x<(0:Int)))||(oG (x<(0:Int)))) (ck (!(oG (x<(0:Int)))||(oG (x<(0:Int)))) (cond v3 (cond (oG (((d).length:Int)<=(IntKind.i64.wrap (0 -x)))) (ck (oG ((([48]:bD))=[48]/\0<=v5/\v5<=100)) (ck (oG (((Sh.eK v5)).length+(d).length<=9223372036854775807)) (abT ((Sh.eK v5)++d) x v6))) (abT d x ((d).length:Int))) (ck (fe 0 (1:Int) (d).length) (cond (oG ((1:Int)<((d).length:Int))) (ck (fe (1:Int) (d).length (d).length) (ck (oG ((([46]:bD)).length+(v8).length<=9223372036854775807)) (ck (oG ((v7).length+((([46]:bD)++v8)).length<=9223372036854775807)) (abS v2 (v7++(([46]:bD)++v8)))))) (abS v2 v7))))))=ρ):avy d x=ρ:=Eq.trans (by kernel_rfl) (K _ rfl _ rfl _ rfl _ rfl _ rfl _ rfl _ rfl _ rfl)
def auS:cE:=cW gr zs [(120,ahi,mh),(122,aom,bB),(123,apq,bB)]
def an6:Hint:=.s .o (.s .o (.s .o (.j (sc [6,9]) .o .o)))
def auR(h l:UInt64):OT:=b9 PG auS 87 bB an6 [.u64 h,.u64 l]
def abL(x0:Bool)(x1:bD):OT:=df PG auS 87 bB an6 15 [.b x0,.s x1]
theorem auP(x0:Bool)(x1:bD):abL x0 x1=cond x0 (ck (oG (([45]:bD).length+x1.length<=9223372036854775807)) (BQ [.s (([45]:bD)++x1)])) (BQ [.s x1]):=lH (by kernel_rfl) rfl
theorem auQ(h l:UInt64)(K:∀v1,v1=Nr.dec (Cn.split h l).2.2.1.val->∀v2,v2=Cn.laid v1 (Cn.split h l).2.2.2->cond (oG ((Cn.split h l).1=3)) (BQ [.s [78,97,78]]) (cond (oG ((Cn.split h l).1=2)) (abL (Cn.split h l).2.1 [73,110,102,105,110,105,116,121]) (ck (oG (1<=v1.length/\v1.length<=40/\-10000<=(Cn.split h l).2.2.2/\(Cn.split h l).2.2.2<=100000)) (abL (Cn.split h l).2.1 v2)))=ρ):auR h l=ρ:=Eq.trans (by kernel_rfl) (lY K:)
def ahV:Hint:=.s .o (.s .o (.s (.b (.l [(0,.no),(3,.fF 800000),(800000,.pv)] .o)) (.j [(3,.fF 800000),(800000,.pv)] .o .o)))
def awR(b:List UInt8):OT:=b9 PG dH 88 bB ahV [.sl .bs b]
def aca(x0 x1:List UInt8):OT:=cM PG dH 88 bB ahV 19 [.sl .bs x0,.pt,.sl .bs x1]
def acd(x0:List UInt8):OT:=df PG dH 88 bB ahV 15 [.pt,.sl .bs x0]
theorem akJ(x0 x1:List UInt8)(K:∀v1,v1=List.getD x0 (0:Int).toNat 0->∀v2,v2=oK v1 (2:UInt64).toNat->∀v3,v3=List.getD [65,66,67,68,69,70,71,72,73,74,75,76,77,78,79,80,81,82,83,84,85,86,87,88,89,90,97,98,99,100,101,102,103,104,105,106,107,108,109,110,111,112,113,114,115,116,117,118,119,120,121,122,48,49,50,51,52,53,54,55,56,57,43,47] (v2.toNat:Int).toNat 0->∀v4,v4=o9 (v1&&&3) (4:UInt64).toNat->∀v5,v5=List.getD x0 (1:Int).toNat 0->∀v6,v6=oK v5 (4:UInt64).toNat->∀v7,v7=List.getD [65,66,67,68,69,70,71,72,73,74,75,76,77,78,79,80,81,82,83,84,85,86,87,88,89,90,97,98,99,100,101,102,103,104,105,106,107,108,109,110,111,112,113,114,115,116,117,118,119,120,121,122,48,49,50,51,52,53,54,55,56,57,43,47] ((v4|||v6).toNat:Int).toNat 0->∀v8,v8=o9 (v5&&&15) (2:UInt64).toNat->∀v9,v9=List.getD x0 (2:Int).toNat 0->∀v10,v10=oK v9 (6:UInt64).toNat->∀v11,v11=List.getD [65,66,67,68,69,70,71,72,73,74,75,76,77,78,79,80,81,82,83,84,85,86,87,88,89,90,97,98,99,100,101,102,103,104,105,106,107,108,109,110,111,112,113,114,115,116,117,118,119,120,121,122,48,49,50,51,52,53,54,55,56,57,43,47] ((v8|||v10).toNat:Int).toNat 0->∀v12,v12=List.getD [65,66,67,68,69,70,71,72,73,74,75,76,77,78,79,80,81,82,83,84,85,86,87,88,89,90,97,98,99,100,101,102,103,104,105,106,107,108,109,110,111,112,113,114,115,116,117,118,119,120,121,122,48,49,50,51,52,53,54,55,56,57,43,47] ((v9&&&63).toNat:Int).toNat 0->∀jw,jw=([v3,v7,v11,v12]:List UInt8)->∀iI,iI=List.drop (3:Int).toNat x0->∀iO,iO=List.getD [65,66,67,68,69,70,71,72,73,74,75,76,77,78,79,80,81,82,83,84,85,86,87,88,89,90,97,98,99,100,101,102,103,104,105,106,107,108,109,110,111,112,113,114,115,116,117,118,119,120,121,122,48,49,50,51,52,53,54,55,56,57,43,47] (v4.toNat:Int).toNat 0->∀mo,mo=([v3,iO,61,61]:List UInt8)->∀ug,ug=List.getD [65,66,67,68,69,70,71,72,73,74,75,76,77,78,79,80,81,82,83,84,85,86,87,88,89,90,97,98,99,100,101,102,103,104,105,106,107,108,109,110,111,112,113,114,115,116,117,118,119,120,121,122,48,49,50,51,52,53,54,55,56,57,43,47] (v8.toNat:Int).toNat 0->∀o8,o8=([v3,v7,ug,61]:List UInt8)->cond (oG (3<=(x0.length:Int))) (ck (bG 0 x0.length) (ck (bG (v2.toNat:Int) ([65,66,67,68,69,70,71,72,73,74,75,76,77,78,79,80,81,82,83,84,85,86,87,88,89,90,97,98,99,100,101,102,103,104,105,106,107,108,109,110,111,112,113,114,115,116,117,118,119,120,121,122,48,49,50,51,52,53,54,55,56,57,43,47]:bD).length) (ck (bG 0 x0.length) (ck (bG 1 x0.length) (ck (bG ((v4|||v6).toNat:Int) ([65,66,67,68,69,70,71,72,73,74,75,76,77,78,79,80,81,82,83,84,85,86,87,88,89,90,97,98,99,100,101,102,103,104,105,106,107,108,109,110,111,112,113,114,115,116,117,118,119,120,121,122,48,49,50,51,52,53,54,55,56,57,43,47]:bD).length) (ck (bG 1 x0.length) (ck (bG 2 x0.length) (ck (bG ((v8|||v10).toNat:Int) ([65,66,67,68,69,70,71,72,73,74,75,76,77,78,79,80,81,82,83,84,85,86,87,88,89,90,97,98,99,100,101,102,103,104,105,106,107,108,109,110,111,112,113,114,115,116,117,118,119,120,121,122,48,49,50,51,52,53,54,55,56,57,43,47]:bD).length) (ck (bG 2 x0.length) (ck (bG ((v9&&&63).toNat:Int) ([65,66,67,68,69,70,71,72,73,74,75,76,77,78,79,80,81,82,83,84,85,86,87,88,89,90,97,98,99,100,101,102,103,104,105,106,107,108,109,110,111,112,113,114,115,116,117,118,119,120,121,122,48,49,50,51,52,53,54,55,56,57,43,47]:bD).length) (ck (dP (x1.length+jw.length) 1) (ck (fe 3 x0.length x0.length) (aca iI (x1++jw)))))))))))))) (cond (oG ((x0.length:Int)=1)) (ck (bG 0 x0.length) (ck (bG (v2.toNat:Int) ([65,66,67,68,69,70,71,72,73,74,75,76,77,78,79,80,81,82,83,84,85,86,87,88,89,90,97,98,99,100,101,102,103,104,105,106,107,108,109,110,111,112,113,114,115,116,117,118,119,120,121,122,48,49,50,51,52,53,54,55,56,57,43,47]:bD).length) (ck (bG 0 x0.length) (ck (bG (v4.toNat:Int) ([65,66,67,68,69,70,71,72,73,74,75,76,77,78,79,80,81,82,83,84,85,86,87,88,89,90,97,98,99,100,101,102,103,104,105,106,107,108,109,110,111,112,113,114,115,116,117,118,119,120,121,122,48,49,50,51,52,53,54,55,56,57,43,47]:bD).length) (ck (dP (x1.length+mo.length) 1) (acd (x1++mo))))))) (cond (oG ((x0.length:Int)=2)) (ck (bG 0 x0.length) (ck (bG (v2.toNat:Int) ([65,66,67,68,69,70,71,72,73,74,75,76,77,78,79,80,81,82,83,84,85,86,87,88,89,90,97,98,99,100,101,102,103,104,105,106,107,108,109,110,111,112,113,114,115,116,117,118,119,120,121,122,48,49,50,51,52,53,54,55,56,57,43,47]:bD).length) (ck (bG 0 x0.length) (ck (bG 1 x0.length) (ck (bG ((v4|||v6).toNat:Int) ([65,66,67,68,69,70,71,72,73,74,75,76,77,78,79,80,81,82,83,84,85,86,87,88,89,90,97,98,99,100,101,102,103,104,105,106,107,108,109,110,111,112,113,114,115,116,117,118,119,120,121,122,48,49,50,51,52,53,54,55,56,57,43,47]:bD).length) (ck (bG 1 x0.length) (ck (bG (v8.toNat:Int) ([65,66,67,68,69,70,71,72,73,74,75,76,77,78,79,80,81,82,83,84,85,86,87,88,89,90,97,98,99,100,101,102,103,104,105,106,107,108,109,110,111,112,113,114,115,116,117,118,119,120,121,122,48,49,50,51,52,53,54,55,56,57,43,47]:bD).length) (ck (dP (x1.length+o8.length) 1) (acd (x1++o8)))))))))) (acd x1)))=ρ):aca x0 x1=ρ:=jx (by kernel_rfl) (gH (po (gH (gH K:):):):)
theorem acb(x0:List UInt8):acd x0=BQ [.s x0]:=lH (by kernel_rfl) rfl
theorem awP(b:List UInt8):awR b=aca b ([]:List UInt8):=by kernel_rfl
def aqP(s:bD):OT:=b9 PG dH 47 bB (.o) [.s s]
theorem aqO(s:bD):aqP s=BQ [.ag [.i .i64 5,.s s,.sl .ml ([]:List Mem)]]:=by kernel_rfl
def aBQ:cE:=cW gr zs [(77,adL,bB)]
def aq6(v:Int):OT:=b9 PG aBQ 48 bB (.o) [.i .i64 v]
theorem aq5(v:Int):aq6 v=ck (Nr.i64 v) (BQ [.ag [.i .i64 4,.s (Nr.itoa v),.sl .ml ([]:List Mem)]]):=by kernel_rfl
def aq8(s:bD)(j:cQ):OT:=b9 PG dH 44 bB (.o) [.s s,.ag j.cells]
theorem aq7(s:bD)(j:cQ)(K:∀v1,v1=([Mem.mk s j.kind j.text j.kids]:List Mem)->BQ [.ag [.i .i64 7,.s [],.sl .ml v1]]=ρ):aq8 s j=ρ:=Eq.trans (by kernel_rfl) (mf K:)
def aqR(s:bD)(j:cQ)(t:bD)(k:cQ):OT:=b9 PG dH 46 bB (.o) [.s s,.ag j.cells,.s t,.ag k.cells]
theorem aqQ(s:bD)(j:cQ)(t:bD)(k:cQ)(K:∀v1,v1=([Mem.mk s j.kind j.text j.kids,Mem.mk t k.kind k.text k.kids]:List Mem)->BQ [.ag [.i .i64 7,.s [],.sl .ml v1]]=ρ):aqR s j t k=ρ:=Eq.trans (by kernel_rfl) (mf K:)
def av1:cE:=cW gr zs [(89,aeE,bB)]
def aox:Hint:=.s .o (.s .o (.s (.s .o (.b (.l [(0,.no),(3,.fF 800000),(4,.no),(800000,.pv)] .o))) .o))
def av0(v:UInt64):OT:=b9 PG av1 85 bB aox [.u64 v]
def abY(x0:UInt64)(x1:Int)(x2:List UInt8):OT:=cM PG av1 85 bB aox 43 [.u64 x0,.pt,.i .i64 x1,.sl .bs x2]
theorem aks(x0:UInt64)(x1:Int)(x2:List UInt8)(K:∀v1,v1=UInt8.ofInt ((cK x0 x1.toNat).toNat:Int)->∀v2,v2=IntKind.i64.wrap (x1 -8)->cond (oG (0<=x1)) (ck (oG (0<=x1)) (ck (dP (x2.length+([v1]:List UInt8).length) 1) (abY x0 v2 (x2++([v1]:List UInt8))))) (ck (oG (x2.length<=1099511627776)) (BQ [.s (kQ.text x2)]))=ρ):abY x0 x1 x2=ρ:=jx (by kernel_rfl) (lY K:)
theorem avZ(v:UInt64):av0 v=abY v 56 ([]:List UInt8):=by kernel_rfl
end Go.Eng
