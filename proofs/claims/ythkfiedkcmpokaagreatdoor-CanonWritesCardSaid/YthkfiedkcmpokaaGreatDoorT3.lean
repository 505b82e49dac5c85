/- Texts of my own, one behind the other: WcZPure, WcYPure, WcDPure, VC, WcC, WcT34R, WcT34K, WcG0, WcG1, WcG2, WcG3, WcG4. -/
import Derived.Test.YthkfiedkcmpokaaGreatDoorT2
import Derived.Test.YthkfiedkcmpokaaGreatDoorProg
set_option linter.defProp false
set_option linter.unusedVariables false
set_option linter.unusedSimpArgs false
noncomputable section
set_option maxRecDepth 20000
namespace Go.Eng
namespace Rl
open Classical in
def Pr(s:bD):Option Int:=if h:∃n,Nr.i64 n=true/\Nr.itoa n=s then some h.choose else none
def qq(b:UInt64):bD×Bool:=
 if(Nr.split b).1=1 then([48],!(Nr.split b).2.1)
 else if(Nr.split b).1≠2 then([],false)
 else(Sh.text b,decide (Sh.jP b<4845873199050653696)||decide (Nr.fC (Sh.text b)=2))
def FZ:{f:UInt64->bD×Bool//∀b,f b=qq b}:=Classical.choice ⟨⟨qq,λ_=>rfl⟩⟩
def number(b:UInt64):bD×Bool:=FZ.1 b
theorem rU(b:UInt64):number b=qq b:=FZ.2 b
def Tm(k:Int)(b:UInt64):Option Int:=if k=18 then some (Cn.i64 b)else if k=1/\(number b).2=true then Pr (number b).1 else none
def IU(k:Int)(b:UInt64):Int×UInt64:=match Tm k b with|none=>(k,b)|some n=>if IntKind.wrap .i64 (IntKind.wrap .i32 n)=n then(16,UInt64.ofInt (UInt32.ofInt n).toNat)else(18,UInt64.ofInt n)
def Tk:{f:Int->UInt64->Int×UInt64//∀k b,f k b=IU k b}:=Classical.choice ⟨⟨IU,λ_ _=>rfl⟩⟩
def Oe(k:Int)(b:UInt64):Int×UInt64:=Tk.1 k b
mutual
def Tl:bJ->bJ
 |.mk n k b h l t m s y ks=>.mk n (Oe k b).1 (Oe k b).2 h l t m s y (Od ks)
def Od:List bJ->List bJ
 |[]=>[]
 |f::r=>Tl f::Od r
end
def tS(y:Int):Bool:=decide (y%4=0)&&(!decide (y%100=0)||decide (y%400=0))
def month(y m:Int):Int:=if m=4\/m=6\/m=9\/m=11 then 30 else if m=2 then(if tS y then 29 else 28)else 31
def ahead(y:Int):Int:=(y -1)*365+(y -1)/4 -(y -1)/100+(y -1)/400 -719162
def pad(n l:Int):bD:=List.replicate (l.toNat -(Nr.itoa n).length) 48++Nr.itoa n
def mJ(d:Int):Nat->Int->Int
 |0,y=>y
 |n+1,y=>if ahead (y+1)<=d then mJ d n (y+1)else y
def uj(y:Int):Nat->Int->Int->Int×Int
 |0,d,m=>(d,m)
 |n+1,d,m=>if month y m<=d then uj y n (d -month y m) (m+1)else(d,m)
def Dt(t:Int):bD×Bool:=
 if t<0\/253402300799999<t then([],false)
 else
  let days:=t/86400000
  let rest:=t%86400000
  let y:=mJ days 100000 (1970+days/366)
  let q:=uj y 20 (days -ahead y) 1
  let s:=rest/1000
  let x:=pad y 4++[45]++pad q.2 2++[45]++pad (q.1+1) 2++[84]++pad (s/3600) 2++[58]++pad (s/60%60) 2++[58]++pad (s%60) 2
  (cond (decide (rest%1000=0)) x (x++([46]++pad (rest%1000) 3))++[90],true)
def Pc:{f:Int->bD×Bool//∀t,f t=Dt t}:=Classical.choice ⟨⟨Dt,λ_=>rfl⟩⟩
def date (t:Int):bD×Bool:=Pc.1 t
theorem Gx(t:Int):date t=Dt t:=Pc.2 t
mutual
def qJ(date:Int->bD×Bool):bJ->cQ
 |.mk _ k b h l t m s y ks=>
  if k=16 then⟨4,Nr.itoa (Cn.i32 b),[]⟩
  else if k=18 then⟨4,Nr.itoa (Cn.i64 b),[]⟩
  else if k=1/\(number b).2=true then⟨4,(number b).1,[]⟩
  else if k=9/\(date (Cn.i64 b)).2=true then Cn.one [36,100,97,116,101] (Cn.str (date (Cn.i64 b)).1)
  else if k=3 then cond (Cn.mW ks) (Cn.one [36,100,111,99,117,109,101,110,116] ⟨7,[],nU date ks⟩) ⟨7,[],nU date ks⟩
  else if k=4 then cond (Tree.regular ks) ⟨6,[],(nU date ks).map Cn.pE⟩ (Cn.one [36,97,114,114,97,121] ⟨7,[],nU date ks⟩)
  else if k=15 then Cn.two [36,99,111,100,101] (Cn.str t) [36,115,99,111,112,101] ⟨7,[],nU date ks⟩
  else Cn.lx ⟨k,b,h,l,t,m,s,y,ks⟩
def nU(date:Int->bD×Bool):List bJ->List Mem
 |[]=>[]
 |f::r=>Mem.of f.name (qJ date f)::nU date r
end
def Rr(date:Int->bD×Bool)(l:List bJ):cQ:=⟨7,[],nU date l⟩
def Kc(date:Int->bD×Bool)(v:Val):cQ:=if(Cn.fY v).2=0 then Rr date v.kids else⟨0,[],[]⟩
end Rl
namespace Wq
def Ss(b:UInt64):cQ:=(Cn.mC ⟨1,b,0,0,[],[],0,[],[]⟩).1
def val(e:Bool)(v:Val):cQ:=cond e (Rl.qJ Rl.date (bJ.of [] v)) (Cn.oX (bJ.of [] v))
def doc(e:Bool)(l:List bJ):cQ:=cond e (Rl.Rr Rl.date l) (Cn.ug l)
def json(e:Bool)(v:Val):cQ:=cond e (Rl.Kc Rl.date v) (Cn.lN v)
def text(e:Bool)(v:Val):bD:=if(Cn.fY v).2≠0 then[]else Cn.oH (json e v)
def Jo(v:Val):Bool:=decide (v.kind=6\/v.kind=8\/v.kind=9\/v.kind=10\/v.kind=16\/v.kind=18\/v.kind=19\/v.kind=127\/v.kind=255)
end Wq
section
variable(P:Program)(E:cH)(nt n:Nat){R:Type}
abbrev P5(o:Ev R):zd R:=fR λh S K=>match h with
 |.l G a=>match lf nt G S with|some xs=>oW (RM (o a) G) (PD nt G) n xs K|none=>none
 |_=>none
abbrev AE(f:Nat->Option (Ev R))(ls:List (Nat×GL))(a:Hint)(K:fQ R):fQ R:=λe S=>
 match GV nt ls e S with
 |none=>K e S
 |some none=>none
 |some (some j)=>oW (Il f ls a) (GV nt ls) n j K
abbrev MJ(f:zd R):zd R:=fR λh S K=>match h with|.sc ls a=>f.1 a S (AE nt n f.2 ls a K)|_=>none
abbrev Rx(x:Operand)(fa fb:zd R):zd R:=fR λh S K=>match gR E nt S 0 x with|some (.b t,.no)=>cond t (fa.1 h.s1 S K) (fb.1 h.s2 S K)|some (.ub e,.no)=>cond e none (fb.1 h.s2 S K)|_=>none
def pz(c:Code):zd R:=Code.rec (motive:=λ_=>zd R) (fR λ_ S K=>K .normal S) (λ_ ops draw=>fR λ_ S K=>AG P E nt ops draw S (K .normal)) (λ_ _ fa fb=>Jg nt fa fb fb.1) (λx _ _ fa fb=>Rx E nt x fa fb) (λid _ f=>fR λh S K=>f.1 h.s1 S (nT id K)) (λ_ f=>P5 nt n f.1) (λ_ _ _ _ _ _=>fR λ_ _ _=>none) (λid=>fR λ_ S K=>K (.exit id) S) (λ_ f=>MJ nt n f) EP (λl=>fR λ_ S K=>K (.goto l) S) (fR λ_ S K=>K .ret S) (λ_=>fR λ_ _ _=>none) c
end
section
variable{R:Type}
def YT(K K':fQ R):Prop:=∀e S r,K e S=some r->K' e S=some r
def Le(g g':Ev R):Prop:=∀h S K K' r,YT K K'->g h S K=some r->g' h S K'=some r
def V9:Option (Ev R)->Option (Ev R)->Prop
 |none,none=>True
 |some g,some g'=>Le g g'
 |_,_=>False
theorem A9{ι:Type}{f f':ι->fQ R->Option R}{tr:MX->St->Option (Option ι)}(hf:∀i K K' r,YT K K'->f i K=some r->f' i K'=some r):∀(m:Nat)(i:ι)(K K':fQ R)(r:R),YT K K'->oW f tr m i K=some r->oW f' tr m i K'=some r
 |0,_,_,_,_,_,h=>by cases h
 |m+1,i,K,K',r,hk,h=>by
  rw[oW]at h⊢;refine hf i _ _ r (λe S r he=>?_) h;cases ht:tr e S with
  |none=>simp only[ht]at he⊢;exact hk _ _ _ he
  |some j=>cases j with
   |none=>simp only[ht]at he;cases he
   |some j=>simp only[ht]at he⊢;exact A9 hf m _ K K' r hk he
theorem Le.seq{nt:Nat}{g g' b b':Ev R}(h1:Le g g')(h2:Le b b'):Le (Jh nt g b b) (Jh nt g' b' b'):=by intro h S K K' r hk he;have plain:∀{a c:Hint},g a S (G5 (b c) K)=some r->g' a S (G5 (b' c) K')=some r:=λ{a c}he=>by{refine h1 _ _ _ _ _ (λe S' r' hr=>?_) he;cases e<;>first|exact h2 _ _ _ _ _ hk hr|exact hk _ _ _ hr};(cases h<;>first|exact plain he|skip);rename_i G a c;refine h1 _ _ _ _ _ (λe S' r' hr=>?_) he;(cases e<;>first|exact hk _ _ _ hr|skip);simp only[vW]at hr⊢;split at hr;{rename_i xs e;exact h2 _ _ _ _ _ hk hr};{cases hr}
theorem Rg(P:Program)(E:cH)(nt n:Nat)(c:Code):Le (R:=R) (pz P E nt n c).1 (o8 P E nt c)/\∀l,V9 ((pz (R:=R) P E nt n c).2 l) (wv P E nt c l):=by
  have wG:∀{f g:Ev R}(l:Nat),V9 ((fR f).2 l) ((fR g).2 l):=λl=>trivial;induction c with
  |skip=>exact⟨λh S K K' r hk he=>hk _ _ _ he,λ_=>trivial⟩
  |label l=>
    refine⟨λh S K K' r hk he=>hk _ _ _ he,λl'=>?_⟩;show V9 (pG (R:=R) l l') (pG l l');unfold pG;cases Nat.beq l l' with
    |true=>exact λh S K K' r hk he=>hk _ _ _ he
    |false=>trivial
  |exit id=>exact⟨λh S K K' r hk he=>hk _ _ _ he,λ_=>trivial⟩
  |goto l=>exact⟨λh S K K' r hk he=>hk _ _ _ he,λ_=>trivial⟩
  |ret=>exact⟨λh S K K' r hk he=>hk _ _ _ he,λ_=>trivial⟩
  |region id ops draw=>
    refine⟨λh S K K' r hk he=>?_,λ_=>trivial⟩;obtain⟨p,hp⟩:=B9 (R:=R) P E (nt:=nt) ops draw S;have he:AG P E nt ops draw S (K .normal)=some r:=he;show AG P E nt ops draw S (K' .normal)=some r;rw[hp]at he⊢;cases p with
    |none=>cases he
    |some S'=>exact hk _ _ _ he
  |seq a b EX Bz=>refine⟨EX.1.seq Bz.1,λl=>?_⟩;have e1:=EX.2 l;have e2:=Bz.2 l;show V9 (y5 nt (pz P E nt n a).2 (pz P E nt n b).2 (pz P E nt n b).1 (pz P E nt n b).1 l) (y5 nt (wv P E nt a) (wv P E nt b) (o8 P E nt b) (o8 P E nt b) l);unfold y5;(cases h1:(pz (R:=R) P E nt n a).2 l<;>cases h2:wv (R:=R) P E nt a l<;>rw[h1,h2]at e1<;>first|exact e1.elim|skip);{simp only;(cases h1:(pz (R:=R) P E nt n b).2 l<;>cases h2:wv (R:=R) P E nt b l<;>rw[h1,h2]at e2<;>first|exact e2.elim|skip);{trivial};{exact λh S K K' r hk he=>e2 _ _ _ _ _ hk he}};{exact Le.seq e1 Bz.1}
  |cond x a b EX Bz=>
    refine⟨λh S K K' r hk he=>?_,λ_=>trivial⟩;have he:(match gR E nt S 0 x with|some (.b t,.no)=>cond t ((pz P E nt n a).1 h.s1 S K) ((pz P E nt n b).1 h.s2 S K)|some (.ub e,.no)=>cond e none ((pz P E nt n b).1 h.s2 S K)|_=>none)=some r:=he;show(match gR E nt S 0 x with|some (.b t,.no)=>cond t (o8 P E nt a h.s1 S K') (o8 P E nt b h.s2 S K')|some (.ub e,.no)=>cond e (both (o8 P E nt a h.s1 S K') (o8 P E nt b h.s2 S K')) (o8 P E nt b h.s2 S K')|_=>none)=some r;split at he
    ·rename_i t ho;(try simp only[ho]);cases t with
      |true=>exact EX.1 _ _ _ _ _ hk he
      |false=>exact Bz.1 _ _ _ _ _ hk he
    ·rename_i e ho;(try simp only[ho]);cases e with
      |true=>cases he
      |false=>exact Bz.1 _ _ _ _ _ hk he
    {cases he}
  |block id a ih=>refine⟨λh S K K' r hk he=>ih.1 _ _ _ _ _ (λe S' r' hr=>?_) he,λ_=>trivial⟩;(cases e<;>first|exact hk _ _ _ hr|skip);rename_i j;cases hb:Nat.beq j id<;>simp only[nT,hb]at hr⊢<;>exact hk _ _ _ hr
  |loop a ih=>refine⟨λh S K K' r hk he=>?_,λ_=>trivial⟩;(cases h<;>first|(cases he;done)|skip);rename_i G a';have he:(match lf nt G S with|some xs=>oW (RM ((pz P E nt n a).1 a') G) (PD nt G) n xs K|none=>none)=some r:=he;show xS nt (o8 P E nt a a') G S K'=some r;unfold xS;split at he;{rename_i xs hx;(try simp only[hx]);exact(oz (wW ((r8 P E a).1 a') G) xs K' r).2 ⟨n,A9 (f:=RM ((pz P E nt n a).1 a') G) (λi K K' r hk hf=>ih.1 a' (gN G i) K K' r hk hf) n xs K K' r hk he⟩};{cases he}
  |rangeFunc _ _ _ _ _ _=>exact⟨λh S K K' r hk he=>(by cases he),λ_=>trivial⟩
  |scope a ih=>
    refine⟨λh S K K' r hk he=>?_,λ_=>trivial⟩;(cases h<;>first|(cases he;done)|skip);rename_i ls a';refine ih.1 _ _ _ _ _ (λe S' r' hr=>?_) he;show mO nt (wv P E nt a) ls a' K' e S'=some r';have hr:AE nt n (pz P E nt n a).2 ls a' K e S'=some r':=hr;unfold AE at hr;unfold mO yu;cases ht:GV nt ls e S' with
    |none=>simp only[ht]at hr⊢;exact hk _ _ _ hr
    |some j=>
     cases j with
     |none=>simp only[ht]at hr;cases hr
     |some j=>
      simp only[ht]at hr⊢;refine(oz (wV (r8 P E a).2 ls a') j K' r').2 ⟨n,A9 (λi K K' r hk hf=>?_) n j K K' r' hk hr⟩;unfold Il at hf⊢;have e1:=ih.2 i.1;(cases h1:(pz (R:=R) P E nt n a).2 i.1<;>cases h2:wv (R:=R) P E nt a i.1<;>rw[h1,h2]at e1<;>first|exact e1.elim|skip);{rw[h1]at hf;cases hf}
      ·rw[h1]at hf;cases hG:xT i.1 ls with
        |none=>simp only[hG]at hf;cases hf
        |some G=>simp only[hG]at hf⊢;exact e1 _ _ _ _ _ hk hf
  |refuse _=>exact⟨λh S K K' r hk he=>(by cases he),λ_=>trivial⟩
end
def runN(P:Program)(E:cH)(n f:Nat)(sg:ib)(h:Hint)(ins:List TV):OT:=
 match P.funcs[f]? with
 |some fn=>match fn.body with|some c=>fV (Dd fn sg&&Nat.beq ins.length fn.params.size) ((pz P E fn.ntmps n c).1 h (Kk fn.params.size sg.md ins) (Rj P fn.ntmps fn sg))|none=>none
 |none=>none
theorem ML{P:Program}{E:cH}{n f:Nat}{sg:ib}{h:Hint}{ins outs:List TV}(he:runN P E n f sg h ins=some outs):cq P E f sg h ins=some outs:=by
 unfold runN at he;unfold cq;cases hf:P.funcs[f]? with
 |none=>rw[hf]at he;cases he
 |some fn=>
 cases hb:fn.body with
 |none=>simp only[hf,hb]at he;cases he
 |some c=>
 simp only[hf,hb]at he⊢;obtain⟨h1,h2⟩:=bK.1 he;refine bK.2 ⟨h1,?_⟩;rw[<-Gr];exact(Rg P E _ n _).1 _ _ _ _ _ (λ_ _ _ h=>h) h2
abbrev N8:=List (Nat×(ib×Hint))
def Eu(P:Program)(n:Nat)(ty:N7)(z:Zs)(ld:List Nat)(base:List (Nat×(dD×ib)))(rs:N8):Nat->cH
 |0=>dc ty z base ld
 |d+1=>⟨λf=>match tQ rs f with
  |some p=>(λins=>match runN P (Eu P n ty z ld base rs d) n f p.1 p.2 ins with|some outs=>.ok outs|none=>.err,p.1)
  |none=>look F0 base f,tQ ty,tQ z,ld⟩
theorem FK{P:Program}{gl:Nat->Option (List Value)}{n:Nat}{ty:N7}{z:Zs}{ld:List Nat}{base:List (Nat×(dD×ib))}{rs:N8}(hm:P.follows .mixedOrders=true/\zh P ty=true/\GQ P z=true)(hE:∀p∈base,gf P gl p.1 p.2)(hs:(rs.all λp=>!p.2.1.md.contains .sm)=true):∀d,kB P (Eu P n ty z ld base rs d)/\∀f,gf P gl f ((Eu P n ty z ld base rs d).fs f)
 |0=>⟨Fe hm.1 hm.2.1 hm.2.2,Ff hE⟩
 |d+1=>by
  obtain⟨h1,h2⟩:=FK (n:=n) (ld:=ld) hm hE hs d;have h0:=Fe (l:=base) (ld:=ld) hm.1 hm.2.1 hm.2.2;refine⟨⟨h0.mixed,h0.ty,h0.z⟩,λf=>?_⟩;show gf P gl f (match tQ rs f with|some p=>_|none=>_);split
  ·rename_i p hp;refine FG h1 h2 p.2 λins outs hc=>?_;have hl:∀(ms:List Md)(ins:List TV),ms.contains .sm=false->nV ms ins=[]:=by
    intro ms;induction ms with
    |nil=>exact λins _=>by cases ins<;>rfl
    |cons m ms ih=>
     intro ins h;simp only[List.contains_cons,Bool.or_eq_false_iff]at h;cases ins with
     |nil=>cases m<;>rfl
     |cons x ins=>cases m<;>first|exact ih ins h.2|(exact absurd h.1 (by decide))
   have hn:nV p.1.md ins=[]:=hl _ _ (by have:=aC.1 hs _ (rX (l:=rs) hp);simpa using this);rw[hn,aK];refine ML (n:=n) ?_;cases ho:runN P (Eu P n ty z ld base rs d) n f p.1 p.2 ins with
   |none=>simp only[ho]at hc;exact hc.elim
   |some o=>simp only[ho]at hc;rw[show outs=o from hc]
  {exact Ff hE f}
theorem runs{P:Program}{gl:Nat->Option (List Value)}{n d:Nat}{ty:N7}{z:Zs}{ld:List Nat}{base:List (Nat×(dD×ib))}{rs:N8}(hm:P.follows .mixedOrders=true/\zh P ty=true/\GQ P z=true)(hE:∀p∈base,gf P gl p.1 p.2)(hs:(rs.all λp=>!p.2.1.md.contains .sm)=true)(f:Nat):gf P gl f ((Eu P n ty z ld base rs d).fs f):=(FK hm hE hs d).2 f
set_option maxRecDepth 100000
abbrev PG:=Go.Proofs.Tryz.prog
open Go.Proofs
def sc(l:List Nat):GL:=l.map λk=>(k,.no)
@[reducible] def gH:N7:=[(23,.bs,1),(24,.fl,136),(29,.ml,64),(33,.is,8),(57,.Nk,24),(136,.ss,16),(150,.ws,2),(162,.us,8),(262,.qd,64)]
@[reducible] def zs:Zs:=[(26,[(.i .i64 (0:Int)),(.u64 (0:UInt64)),(.u64 (0:UInt64)),(.u64 (0:UInt64)),(.s ([]:bD)),(.s ([]:bD)),(.i .i64 (0:Int)),(.nl .bs),(.nl .fl)]),(31,[(.i .i64 (0:Int)),(.s ([]:bD)),(.nl .ml)]),(35,[(.i .i64 (0:Int)),(.i .i64 (0:Int)),(.nl .is)]),(45,[(.s ([]:bD)),(.i .i64 (0:Int)),(.u64 (0:UInt64)),(.u64 (0:UInt64)),(.u64 (0:UInt64)),(.s ([]:bD)),(.s ([]:bD)),(.i .i64 (0:Int)),(.nl .bs),(.nl .fl)]),(55,[(.s ([]:bD)),(.i .i64 (0:Int)),(.s ([]:bD)),(.nl .ml)]),(100,[(.s ([]:bD)),(.s ([]:bD)),(.s ([]:bD)),(.s ([]:bD)),(.s ([]:bD)),(.s ([]:bD)),(.s ([]:bD)),(.s ([]:bD)),(.s ([]:bD)),(.s ([]:bD)),(.s ([]:bD)),(.s ([]:bD)),(.s ([]:bD)),(.s ([]:bD)),(.s ([]:bD)),(.s ([]:bD)),(.s ([]:bD)),(.s ([]:bD)),(.s ([]:bD)),(.s ([]:bD))]),(130,[(.u64 (0:UInt64)),(.u64 (0:UInt64))]),(265,[(.c (.complex .f64 ((0,0):Cx).1 ((0,0):Cx).2)),(.c (.complex .f64 ((0,0):Cx).1 ((0,0):Cx).2)),(.c (.complex .f64 ((0,0):Cx).1 ((0,0):Cx).2)),(.c (.complex .f64 ((0,0):Cx).1 ((0,0):Cx).2))])]
theorem bH:PG.follows .mixedOrders=true/\zh PG gH=true/\GQ PG zs=true:=⟨by kernel_rfl,by kernel_rfl,by kernel_rfl⟩
def cnGl:Nat->Option (List Value):=Sp [(7,y0 .u8 (Lib.deBruijn64tab.map Int.ofNat)),(3,y0 .u64 Lib.pow10Tab)]
abbrev KO(n:Nat)(c:dD)(s:ib):Prop:=gf PG cnGl n (c,s)
def bC:ib:={}
def dE.c:dD
 |[.sl .bs b]=>.eI (decide (b.length<=1099511627776)) [.s (kv.text b)]
 |_=>.err
def eH.c:dD
 |[.sl .bs b]=>.eI (decide (b.length<=1099511627776)) [.s (kv.text b)]
 |_=>.err
def nM.c:dD
 |[.i .i64 r]=>.ok [.b (dy.nR r)]
 |_=>.err
def bR:ib:={jd:=2}
def bZ.c:dD
 |[.sl .bs b,.i .i64 at_]=>.eI (decide (b.length<=1099511627776)) [.i .i64 (dy.lA b at_).1,.i .i64 (dy.lA b at_).2]
 |_=>.err
def cZ.c:dD
 |[.sl .bs b]=>.eI (decide (b.length<=1099511627776)) [.i .i64 ((dy.look b).1:Int),.i .i64 ((dy.look b).2:Int)]
 |_=>.err
def gP.c:dD
 |[.sl .bs b]=>.eI (decide (b.length<=1099511627776)) [.i .i64 ((dy.look b).1:Int),.b (dy.whole b)]
 |_=>.err
def cP.c:dD
 |[.sl .bs b,.i .i64 at_]=>.eI (decide (b.length<=1099511627776)) [.i .i64 (dy.lA b at_).1,.i .i64 (dy.lA b at_).2]
 |_=>.err
def df.c:dD
 |[.sl .bs b]=>.eI (decide (b.length<=1099511627776)) [.i .i64 ((dy.look b).1:Int),.b (dy.whole b)]
 |_=>.err
def fk.c:dD
 |[.s s]=>.eI (decide (s.length<=1099511627776)) [.b (dy.whole s)]
 |_=>.err
def dQ.c:dD
 |[.s s]=>.eI (decide (s.length<=1099511627776)) [.b (dy.zero s)]
 |_=>.err
def fM.c:dD
 |[.s s,.u8 c]=>.ok [.i .i64 (Lib.indexByte s c)]
 |_=>.err
def jq.c:dD
 |[.s s,.s t]=>.eI (decide (t.length=1)) [.i .i64 (Lib.indexByte s (t.getD 0 0))]
 |_=>.err
def jm.c:dD
 |[.s s,.s t]=>.eI (decide (t.length=1)) [.i .i64 (Lib.indexByte s (t.getD 0 0))]
 |_=>.err
def gg.c:dD
 |[.s s,.s t]=>.eI (decide (t.length=1)) [.b (decide (0<=Lib.indexByte s (t.getD 0 0)))]
 |_=>.err
def iO.sg:ib:={md:=[.sm]}
def iO.c:dD
 |[.sl .is l]=>.eI (dY l.length 8) [.sl .is l]
 |_=>.err
def jg.c:dD
 |[.i .i64 k]=>.ok [.s (Tree.name k)]
 |_=>.err
def bI.c:dD
 |[.ag [.i .i64 j8,.u64 kb,.u64 j9,.u64 j7,.s jY,.s j0,.i .i64 jZ,.sl .bs jX,.sl .fl ka]]=>.ok [.b (Tree.ia (Val.mk j8 kb j9 j7 jY j0 jZ jX ka))]
 |_=>.err
def gI.c:dD
 |[.s s,.b plain]=>.eI (decide (s.length<=1099511627776)) [.b (Tree.fj s plain)]
 |_=>.err
def cz.sg:ib:={md:=[.pl,.pl,.sm],jd:=2}
def cz.c:dD
 |[.ag [.i .i64 j8,.u64 kb,.u64 j9,.u64 j7,.s jY,.s j0,.i .i64 jZ,.sl .bs jX,.sl .fl ka],.s name,.sl .is path]=>.eI (decide ((bJ.of name (Val.mk j8 kb j9 j7 jY j0 jZ jX ka)).bL+path.length<=1099511627776)) [.sl .is (Tree.fW (bJ.of name (Val.mk j8 kb j9 j7 jY j0 jZ jX ka)) path).1,.i .i64 (Tree.fW (bJ.of name (Val.mk j8 kb j9 j7 jY j0 jZ jX ka)) path).2]
 |_=>.err
def cz.cn(n:Nat):dD
 |[.ag [.i .i64 j8,.u64 kb,.u64 j9,.u64 j7,.s jY,.s j0,.i .i64 jZ,.sl .bs jX,.sl .fl ka],.s name,.sl .is path]=>.eI ((decide ((bJ.of name (Val.mk j8 kb j9 j7 jY j0 jZ jX ka)).bL+path.length<=1099511627776))&&decide ((bJ.of name (Val.mk j8 kb j9 j7 jY j0 jZ jX ka)).bL<n)) [.sl .is (Tree.fW (bJ.of name (Val.mk j8 kb j9 j7 jY j0 jZ jX ka)) path).1,.i .i64 (Tree.fW (bJ.of name (Val.mk j8 kb j9 j7 jY j0 jZ jX ka)) path).2]
 |_=>.err
def gJ.c:dD
 |[.ag [.i .i64 j8,.u64 kb,.u64 j9,.u64 j7,.s jY,.s j0,.i .i64 jZ,.sl .bs jX,.sl .fl ka]]=>.eI (decide ((bJ.of [] (Val.mk j8 kb j9 j7 jY j0 jZ jX ka)).bL<=1099511627776)) [.sl .is (Tree.fW (bJ.of [] (Val.mk j8 kb j9 j7 jY j0 jZ jX ka)) []).1,.i .i64 (Tree.fW (bJ.of [] (Val.mk j8 kb j9 j7 jY j0 jZ jX ka)) []).2]
 |_=>.err
def gT.c:dD
 |[]=>.ok [.sl .is (Tree.kinds)]
 |_=>.err
def dh.c:dD
 |[.i .i64 k]=>.ok [.s (Tree.name k)]
 |_=>.err
def bS.sg:ib:={jd:=7}
def bS.c:dD
 |[.i .i64 k]=>.ok [.b (Tree.kI 0 k),.b (Tree.kI 1 k),.b (Tree.kI 2 k),.b (Tree.kI 3 k),.b (Tree.kI 4 k),.b (Tree.kI 5 k),.b (Tree.kI 6 k)]
 |_=>.err
def iB.c:dD
 |[.ag [.i .i64 j8,.u64 kb,.u64 j9,.u64 j7,.s jY,.s j0,.i .i64 jZ,.sl .bs jX,.sl .fl ka]]=>.eI (decide ((bJ.of [] (Val.mk j8 kb j9 j7 jY j0 jZ jX ka)).bL<=1099511627776)) [.i .i64 (Tree.own (Val.mk j8 kb j9 j7 jY j0 jZ jX ka))]
 |_=>.err
def gh.c:dD
 |[.s s]=>.eI (decide (s.length<=1099511627776)) [.b (Tree.fj s true)]
 |_=>.err
def gz.c:dD
 |[.sl .is p,.i .i64 k]=>.eI (decide (p.length<=1099511627776)) [.sl .is (p++[k])]
 |_=>.err
def bX.c:dD
 |[.ag [.i .i64 j8,.u64 kb,.u64 j9,.u64 j7,.s jY,.s j0,.i .i64 jZ,.sl .bs jX,.sl .fl ka],.s name,.sl .is p]=>.eI (decide ((bJ.of name (Val.mk j8 kb j9 j7 jY j0 jZ jX ka)).bL+p.length<=1099511627776)) [.sl .is (Tree.fW (bJ.of name (Val.mk j8 kb j9 j7 jY j0 jZ jX ka)) p).1,.i .i64 (Tree.fW (bJ.of name (Val.mk j8 kb j9 j7 jY j0 jZ jX ka)) p).2]
 |_=>.err
def bX.cn(n:Nat):dD
 |[.ag [.i .i64 j8,.u64 kb,.u64 j9,.u64 j7,.s jY,.s j0,.i .i64 jZ,.sl .bs jX,.sl .fl ka],.s name,.sl .is p]=>.eI ((decide ((bJ.of name (Val.mk j8 kb j9 j7 jY j0 jZ jX ka)).bL+p.length<=1099511627776))&&decide ((bJ.of name (Val.mk j8 kb j9 j7 jY j0 jZ jX ka)).bL<n)) [.sl .is (Tree.fW (bJ.of name (Val.mk j8 kb j9 j7 jY j0 jZ jX ka)) p).1,.i .i64 (Tree.fW (bJ.of name (Val.mk j8 kb j9 j7 jY j0 jZ jX ka)) p).2]
 |_=>.err
def cw.c:dD
 |[.ag [.i .i64 fe,.s fc,.sl .ml ff]]=>.eI (decide ((cQ.mk fe fc ff).bL<=1099511627776)) [.i .i64 (Cn.iA (cQ.mk fe fc ff))]
 |_=>.err
def cw.cn(n:Nat):dD
 |[.ag [.i .i64 fe,.s fc,.sl .ml ff]]=>.eI ((decide ((cQ.mk fe fc ff).bL<=1099511627776))&&decide ((cQ.mk fe fc ff).bL<n)) [.i .i64 (Cn.iA (cQ.mk fe fc ff))]
 |_=>.err
def gi.c:dD
 |[.ag [.i .i64 j8,.u64 kb,.u64 j9,.u64 j7,.s jY,.s j0,.i .i64 jZ,.sl .bs jX,.sl .fl ka]]=>.eI (decide ((bJ.of [] (Val.mk j8 kb j9 j7 jY j0 jZ jX ka)).bL<=1099511627776)) [.sl .is (Tree.fW (bJ.of [] (Val.mk j8 kb j9 j7 jY j0 jZ jX ka)) []).1,.i .i64 (Tree.fW (bJ.of [] (Val.mk j8 kb j9 j7 jY j0 jZ jX ka)) []).2]
 |_=>.err
def cK.c:dD
 |[.sl .is a,.sl .is b]=>.eI (decide (a.length<=1099511627776)) [.b (decide (a=b))]
 |_=>.err
def eG.c:dD
 |[.i .i64 left,.sl .is kM]=>.eI (decide (left<=1200/\kM.length<=10)&&kM.all (λs=>decide (0<=s))) [.i .i64 (fZ.room left kM)]
 |_=>.err
def cO.c:dD
 |[.i .i64 left,.ag [.i .i64 j8,.u64 kb,.u64 j9,.u64 j7,.s jY,.s j0,.i .i64 jZ,.sl .bs jX,.sl .fl ka]]=>.eI (decide (left<=1200)) [.i .i64 (fZ.value left (bJ.of [] (Val.mk j8 kb j9 j7 jY j0 jZ jX ka)))]
 |_=>.err
def cO.cn(n:Nat):dD
 |[.i .i64 left,.ag [.i .i64 j8,.u64 kb,.u64 j9,.u64 j7,.s jY,.s j0,.i .i64 jZ,.sl .bs jX,.sl .fl ka]]=>.eI ((decide (left<=1200))&&decide ((bJ.of [] (Val.mk j8 kb j9 j7 jY j0 jZ jX ka)).bL<n)) [.i .i64 (fZ.value left (bJ.of [] (Val.mk j8 kb j9 j7 jY j0 jZ jX ka)))]
 |_=>.err
def gO.c:dD
 |[.ag [.i .i64 j8,.u64 kb,.u64 j9,.u64 j7,.s jY,.s j0,.i .i64 jZ,.sl .bs jX,.sl .fl ka]]=>.ok [.b (decide (0<=fZ.value 1200 (bJ.of [] (Val.mk j8 kb j9 j7 jY j0 jZ jX ka))))]
 |_=>.err
def og.c:dD
 |[.i .i64 v]=>.eI (Nr.i64 v) [.s (Nr.itoa v)]
 |_=>.err
def dr.c:dD
 |[.u64 v]=>.ok [.s (Nr.dec v.toNat)]
 |_=>.err
def cI.c:dD
 |[.sl .fl l]=>.eI (decide (l.length<=1099511627776)) [.b (Tree.regular l)]
 |_=>.err
def cC.c:dD
 |[.sl .fl l]=>.eI (decide (l.length<=1099511627776)) [.b (Tree.regular l)]
 |_=>.err
def dq.c:dD
 |[.u16 x]=>.ok [.i .i64 (Nt.bits x.toNat:Int)]
 |_=>.err
def bits_Len64.c:dD
 |[.u64 x]=>.ok [.i .i64 (Nt.bits x.toNat:Int)]
 |_=>.err
def uo.c:dD
 |[.u64 x]=>.ok [.i .i64 (Lib.ctz 64 x.toNat:Int)]
 |_=>.err
def tj.c:dD
 |[.s s,.s c]=>.eI (decide (s.length<=1099511627776/\c.length<=100)&&c.all (λb=>decide (b.toNat<128))) [.s (Lib.trimS s c)]
 |_=>.err
def kX.c:dD
 |[.s s,.s c]=>.eI (decide (s.length<=1099511627776/\c.length<=100)&&c.all (λb=>decide (b.toNat<128))) [.s (Lib.trimLeftS s c)]
 |_=>.err
def kp.c:dD
 |[.s s,.s c]=>.eI (decide (s.length<=1099511627776/\c.length<=100)&&c.all (λb=>decide (b.toNat<128))) [.s (Lib.trimRightS s c)]
 |_=>.err
def pf:ib:={own:=[0]}
def jE.c:dD
 |[.sl .ws a]=>.eI (dY a.length 2) [.sl .ws a]
 |_=>.err
def ic.c:dD
 |[.c (.float .f64 x)]=>.eI (Fl.num x) [.c (.float .f64 (Fl.nn x))]
 |_=>.err
def mG.c:dD
 |[.c (.complex .f64 D6 D5),.c (.float .f64 m)]=>.eI (Gz.Qi ((D6,D5):Cx) m) [.b true]
 |_=>.err
def jA.c:dD
 |[.c (.complex .f64 D6 D5)]=>.eI (Gz.y9 ((D6,D5):Cx) 33554432) [.b true]
 |_=>.err
def qE.c:dD
 |[.i .i64 x,.i .i64 y]=>.eI (decide (-33554432<=x/\x<=33554432/\-33554432<=y/\y<=33554432)) [.c (.complex .f64 ((Fl.ofInt x,Fl.ofInt y):Cx).1 ((Fl.ofInt x,Fl.ofInt y):Cx).2)]
 |_=>.err
def gA:ib:={jd:=3}
def iN.c:dD
 |[.c (.complex .f64 D6 D5)]=>.eI (Gz.y9 ((D6,D5):Cx) 4503599627370496) [.i .i64 (Fl.toInt ((D6,D5):Cx).1),.i .i64 (Fl.toInt ((D6,D5):Cx).2),.b true]
 |_=>.err
def kS.c:dD
 |[.c (.complex .f64 D6 D5),.i .i64 k]=>.eI (Gz.y9 ((D6,D5):Cx) 1125899906842624&&decide (-100<=k/\k<=100)) [.c (.complex .f64 (Gz.qQ ((D6,D5):Cx) k).1 (Gz.qQ ((D6,D5):Cx) k).2)]
 |_=>.err
def jB.c:dD
 |[.c (.complex .f64 D6 D5),.c (.complex .f64 We Wd)]=>.eI (Gz.y9 ((D6,D5):Cx) 33554432&&Gz.y9 ((We,Wd):Cx) 33554432) [.c (.complex .f64 (Gz.mul ((D6,D5):Cx) ((We,Wd):Cx)).1 (Gz.mul ((D6,D5):Cx) ((We,Wd):Cx)).2)]
 |_=>.err
def kK.c:dD
 |[.c (.float .f64 x)]=>.eI (Gz.OG x) [.b true]
 |_=>.err
def gB.c:dD
 |[.ag [.c (.complex .f64 oR oQ),.c (.complex .f64 oP oO),.c (.complex .f64 oN oM),.c (.complex .f64 oL oK)]]=>.eI (Gz.By (Qd.mk ((oR,oQ):Cx) ((oP,oO):Cx) ((oN,oM):Cx) ((oL,oK):Cx)) 1125899906842624) [.b true]
 |_=>.err
def dB.c:dD
 |[.ag [.c (.complex .f64 oR oQ),.c (.complex .f64 oP oO),.c (.complex .f64 oN oM),.c (.complex .f64 oL oK)],.i .i64 w]=>.eI (Gz.By (Qd.mk ((oR,oQ):Cx) ((oP,oO):Cx) ((oN,oM):Cx) ((oL,oK):Cx)) 1125899906842624&&decide (w=1\/w=-1)) [.ag (Qd.cells (Gz.qn (Qd.mk ((oR,oQ):Cx) ((oP,oO):Cx) ((oN,oM):Cx) ((oL,oK):Cx)) w))]
 |_=>.err
def kL.c:dD
 |[.ag [.c (.complex .f64 oR oQ),.c (.complex .f64 oP oO),.c (.complex .f64 oN oM),.c (.complex .f64 oL oK)]]=>.eI (Gz.By (Qd.mk ((oR,oQ):Cx) ((oP,oO):Cx) ((oN,oM):Cx) ((oL,oK):Cx)) 1125899906842624) [.ag (Qd.cells (Gz.qn (Qd.mk ((oR,oQ):Cx) ((oP,oO):Cx) ((oN,oM):Cx) ((oL,oK):Cx)) 1))]
 |_=>.err
def fT.c:dD
 |[.ag [.c (.complex .f64 oR oQ),.c (.complex .f64 oP oO),.c (.complex .f64 oN oM),.c (.complex .f64 oL oK)]]=>.eI (Gz.By (Qd.mk ((oR,oQ):Cx) ((oP,oO):Cx) ((oN,oM):Cx) ((oL,oK):Cx)) 1125899906842624&&Gz.Qj (Qd.mk ((oR,oQ):Cx) ((oP,oO):Cx) ((oN,oM):Cx) ((oL,oK):Cx))) [.ag (Qd.cells (Gz.back (Qd.mk ((oR,oQ):Cx) ((oP,oO):Cx) ((oN,oM):Cx) ((oL,oK):Cx)))),.b true]
 |_=>.err
def eC.c:dD
 |[.sl .is l]=>.eI (decide (l.length<=256)&&Gz.jI l) [.b true]
 |_=>.err
def dj.c:dD
 |[.sl .is l]=>.eI (decide (l.length<=256)&&Gz.jI l) [.sl .qd (Gz.jy l)]
 |_=>.err
def cp.c:dD
 |[.sl .is a,.sl .is b]=>.eI (decide (a.length<=256/\b.length<=256)&&(Gz.jI a&&Gz.jI b)) [.sl .is (Gz.conv a b),.b true]
 |_=>.err
def fv.c:dD
 |[.sl .ws a]=>.eI (decide (a.length<=1099511627776)) [.sl .ws (Nt.of (Nt.val a))]
 |_=>.err
def jc.c:dD
 |[.sl .ws a]=>.eI (decide (a.length<=1099511627776)) [.b (Nt.is a)]
 |_=>.err
def iH.c:dD
 |[.u64 v]=>.ok [.sl .ws (Nt.of v.toNat)]
 |_=>.err
def eT.c:dD
 |[.sl .ws a]=>.eI (decide (Nt.is a=true/\a.length<=4)) [.u64 (UInt64.ofNat (Nt.val a)),.b true]
 |_=>.err
def jT.c:dD
 |[.sl .ws a]=>.eI (Nt.is a) [.i .i64 (Nt.bits (Nt.val a):Int)]
 |_=>.err
def gW.c:dD
 |[.sl .ws a,.sl .ws b]=>.eI (decide (a.length<=1099511627776/\b.length<=1099511627776)&&(Nt.norm a&&Nt.norm b)) [.i .i64 (Nt.cmp (Nt.val a) (Nt.val b))]
 |_=>.err
def kJ.c:dD
 |[.sl .ws a,.sl .ws b]=>.eI (Nt.is a&&Nt.is b) [.i .i64 (Nt.cmp (Nt.val a) (Nt.val b))]
 |_=>.err
def dG.c:dD
 |[.sl .ws a]=>.eI (decide (a.length<=256)) [.sl .is (a.map λd=>(d.toNat:Int))]
 |_=>.err
def eW.c:dD
 |[.sl .ws a,.sl .ws b]=>.eI (Nt.is a&&Nt.is b) [.sl .ws (Nt.of (Nt.val a*Nt.val b))]
 |_=>.err
def gC.c:dD
 |[.sl .ws a,.u16 d]=>.eI (decide (a.length<=1000000/\d≠0)) [.sl .ws (Nt.of (Nt.val a/d.toNat)),.u16 (UInt16.ofNat (Nt.val a% d.toNat))]
 |_=>.err
def iq.c:dD
 |[.sl .ws a,.i .i64 n]=>.eI (decide (a.length<=1000000/\0<=n/\n<16)&&Nt.norm a) [.sl .ws (Nt.of (Nt.val a*2^n.toNat))]
 |_=>.err
def dW.c:dD
 |[.sl .ws a,.i .i64 n]=>.eI (decide (a.length<=1000000/\0<=n/\n<16)) [.sl .ws (Nt.of (Nt.val a/2^n.toNat))]
 |_=>.err
def bQ.sg:ib:={md:=[.gv],jd:=2}
def bQ.c:dD
 |[.sl .ws u,.sl .ws v]=>.eI (decide (u.length<=1000000/\2<=v.length/\v.length<=u.length/\32768<=(v.getLast?.getD 0).toNat)) [.sl .ws (Nt.fix (u.length+1 -v.length) (Nt.val u/Nt.val v)),.sl .ws (Nt.fix v.length (Nt.val u% Nt.val v))]
 |_=>.err
def lI.c:dD
 |[.sl .ws a,.sl .ws b]=>.eI (Nt.is a&&Nt.is b&&decide (b≠[])) [.sl .ws (Nt.of (Nt.val a/Nt.val b)),.sl .ws (Nt.of (Nt.val a% Nt.val b)),.b true]
 |_=>.err
def mK.c:dD
 |[.sl .ws a,.i .i64 n]=>.eI (decide (0<=n/\n<=4096)&&Nt.is a) [.sl .ws (Nt.of (Nt.val a*2^n.toNat))]
 |_=>.err
def eJ.c:dD
 |[.sl .ws a,.i .i64 b,.i .i64 c]=>.eI (decide (a.length<=1000000/\1<=b/\b<=65535/\0<=c/\c<=65535)&&Nt.norm a) [.sl .ws (Nt.of (Nt.val a*b.toNat+c.toNat))]
 |_=>.err
def dZ.c:dD
 |[.i .i64 b,.i .i64 e]=>.eI (decide (2<=b/\b<=65535/\0<=e/\e<=1000/\b.toNat^e.toNat<2^4096)) [.sl .ws (Nt.of (b.toNat^e.toNat)),.b true]
 |_=>.err
def eU.c:dD
 |[.s s]=>.eI (decide (1<=s.length/\s.length<=300/\s.getD 0 0≠48)&&s.all Nr.dA) [.sl .ws (Nt.of (Nr.num s)),.b true]
 |_=>.err
def fP.c:dD
 |[.b n,.u64 m,.i .i64 e]=>.eI (decide (-1100<=e/\e<=2000)) [.u64 (Nr.pat (Nr.join n m.toNat e)),.b (Nr.join n m.toNat e).isSome]
 |_=>.err
def dp.c:dD
 |[.sl .ws a,.sl .ws b,.i .i64 e]=>.eI (Nt.is a&&Nt.is b&&decide (-4096<=e/\e<=4096/\0<Nt.val b/\Nr.lL (Nt.val a) e<2^4090/\Nr.lu (Nt.val b) e<2^4090/\Nr.lL (Nt.val a) e<2^60*Nr.lu (Nt.val b) e)) [.u64 (UInt64.ofNat (Nr.yU (Nr.lL (Nt.val a) e) (Nr.lu (Nt.val b) e))),.b (Nr.pg (Nr.lL (Nt.val a) e) (Nr.lu (Nt.val b) e))]
 |_=>.err
def eO.c:dD
 |[.sl .ws a,.sl .ws b]=>.eI (Nt.is a&&Nt.is b&&decide (0<Nt.val a/\0<Nt.val b/\Nt.val a<2^1100/\Nt.val b<2^2200)) [.u64 (Nr.pat (Nr.jW (Nt.val a) (Nt.val b))),.b (Nr.jW (Nt.val a) (Nt.val b)).isSome]
 |_=>.err
def fO.c:dD
 |[.s d,.i .i64 x]=>.ok [.u64 (Nr.pat (Nr.read d x)),.b (Nr.read d x).isSome]
 |_=>.err
def qC.c:dD
 |[.s s,.i .i64 at_,.u8 c,.u8 d]=>.eI (decide (s.length<=1099511627776)&&decide (0<=at_)) [.b (decide (at_<s.length)&&(decide (s.getD at_.toNat 0=c)||decide (s.getD at_.toNat 0=d)))]
 |_=>.err
def eD.c:dD
 |[.s s,.i .i64 at_]=>.eI (decide (s.length<=1099511627776)&&decide (0<=at_/\at_<=1099511627776)) [.i .i64 (at_+(Nr.run (s.drop at_.toNat):Int))]
 |_=>.err
def bO.c:dD
 |[.s s]=>.eI (decide (s.length<=1099511627776)) [.i .i64 (Nr.fC s)]
 |_=>.err
def iv.c:dD
 |[.s s]=>.eI (decide (s.length<=1099511627776)) [.i .i64 (Nr.run s:Int)]
 |_=>.err
def bN.c:dD
 |[.s s]=>.eI (decide (s.length<=1099511627776)) [.i .i64 (Nr.fC s)]
 |_=>.err
def kG.c:dD
 |[.i .i64 v]=>.eI (Nr.i64 v) [.s (Nr.itoa v)]
 |_=>.err
def lZ:ib:={jd:=4}
def hO.c:dD
 |[.u64 b]=>.ok [.i .i64 (Nr.split b).1,.b (Nr.split b).2.1,.u64 (Nr.split b).2.2.1,.i .i64 (Nr.split b).2.2.2]
 |_=>.err
def nv:ib:={md:=[.gv],own:=[0]}
def dL.c:dD
 |[.sl .us a,.u64 m]=>.eI (decide (a.length<=1000/\m.toNat<=100000000)&&a.all (λx=>decide (x.toNat<100000000))) [.sl .us (Nr.times a m 0)]
 |_=>.err
def bE.c:dD
 |[.u64 m,.i .i64 e]=>.eI (decide (1<=m.toNat/\m.toNat<2^55/\-1075<=e/\e<=971)) [.s (Nr.z6 m.toNat e),.i .i64 (Nr.BC m.toNat e)]
 |_=>.err
def jj.c:dD
 |[.s a,.i .i64 x,.s b,.i .i64 y]=>.ok [.i .i64 (Nr.iV a x b y)]
 |_=>.err
def jD.c:dD
 |[.u64 b]=>.ok [.i .i64 (Nr.split b).1,.b (Nr.split b).2.1,.u64 (Nr.split b).2.2.1,.i .i64 (Nr.split b).2.2.2]
 |_=>.err
def dw.c:dD
 |[.sl .ws a,.sl .ws b]=>.eI (Nt.is a&&Nt.is b) [.sl .ws (Nt.of (Nt.val a+Nt.val b))]
 |_=>.err
def dR.c:dD
 |[.sl .ws a]=>.eI (Nt.is a) [.s (Sh.uM (Nt.val a))]
 |_=>.err
def jU.c:dD
 |[.s s,.i .i64 n]=>.eI (decide (s=[48]/\0<=n/\n<=100)) [.s (Sh.eu n)]
 |_=>.err
def tm.c:dD
 |[.sl .ss l,.s s]=>.eI (decide (s=[]/\l.length<=100000/\l.flatten.length<=100000)) [.s l.flatten]
 |_=>.err
def mu.c:dD
 |[.i .i64 v,.i .i64 b]=>.eI (Nr.i64 v&&decide (b=10)) [.s (Nr.itoa v)]
 |_=>.err
def cW.sg:ib:={md:=[.sl],jd:=0}
def cW.c:dD
 |[.sl .ss l]=>.eI (decide (l.length<=100000)) [.sl .ss l.reverse]
 |_=>.err
def iW.c:dD
 |[.i .i64 v]=>.eI (Nr.i64 v) [.s (Nr.itoa v)]
 |_=>.err
def jL.c:dD
 |[.sl .ws a,.sl .ws b,.i .i64 k]=>.eI (Nt.is a&&Nt.is b&&decide (-400<=k/\k<=400/\Nt.val a<2^1100/\Nt.val b<2^1100)) [.sl .ws (Nt.of (Sh.tA (Nt.val a) k)),.sl .ws (Nt.of (Sh.tB (Nt.val b) k))]
 |_=>.err
def js.c:dD
 |[.sl .ws a,.sl .ws b,.i .i64 x]=>.eI (Nt.is a&&Nt.is b&&decide (-400<=x/\x<=400/\Nt.val a<2^1100/\Nt.val b<2^1100)) [.b (decide (Sh.tB (Nt.val b) (-x)<=Sh.tA (Nt.val a) (-x)))]
 |_=>.err
def jr.c:dD
 |[.u64 b,.sl .ws a,.i .i64 p]=>.eI (Nt.is a&&decide (-1000<=p/\p<=1000/\0<Nt.val a/\Nt.val a<10^200)) [.s ((Sh.mQ b.toNat (Nt.val a) p).getD ([],0)).1,.i .i64 ((Sh.mQ b.toNat (Nt.val a) p).getD ([],0)).2,.b (Sh.mQ b.toNat (Nt.val a) p).isSome]
 |_=>.err
def kN.c:dD
 |[.u64 b,.sl .ws p,.sl .ws q,.i .i64 x,.i .i64 n]=>.eI (Nt.is p&&Nt.is q&&Sh.rQ (Nt.val p) (Nt.val q) x n) [.s ((Sh.sy b.toNat (Nt.val p) (Nt.val q) x n).getD ([],0)).1,.i .i64 ((Sh.sy b.toNat (Nt.val p) (Nt.val q) x n).getD ([],0)).2,.b (Sh.sy b.toNat (Nt.val p) (Nt.val q) x n).isSome]
 |_=>.err
def cj.c:dD
 |[.u64 b]=>.ok [.s (Sh.dg b).1,.i .i64 (Sh.dg b).2.1,.b (Sh.dg b).2.2]
 |_=>.err
def fN.c:dD
 |[.s d,.i .i64 x]=>.eI (decide (1<=d.length/\d.length<=17/\-900<=x/\x<=900)) [.s (Sh.Ga d x)]
 |_=>.err
def fy.c:dD
 |[.u64 b]=>.ok [.s (Sh.text b)]
 |_=>.err
def gj.c:dD
 |[.s d,.i .i64 x]=>.eI (decide (1<=d.length/\d.length<=100000/\-100000<=x/\x<=100000)) [.s (Sh.more d x).1,.i .i64 (Sh.more d x).2]
 |_=>.err
def ji.c:dD
 |[.u64 p,.i .i64 lo,.i .i64 hi]=>.ok [.b (Sh.wi p.toNat lo hi)]
 |_=>.err
def bW.c:dD
 |[.u64 b]=>.ok [.s (Sh.dg b).1,.i .i64 (Sh.dg b).2.1,.b (Sh.dg b).2.2]
 |_=>.err
def bG.c:dD
 |[.u64 b]=>.ok [.s (Sh.text b)]
 |_=>.err
def tw.c:dD
 |[.u64 v,.i .i64 b]=>.eI (decide (b=10)) [.s (Nr.dec v.toNat)]
 |_=>.err
def ft.c:dD
 |[.u64 v,.i .i64 b]=>.eI (decide (b=10)) [.s (Nr.dec v.toNat)]
 |_=>.err
def gw.c:dD
 |[.s s,.s t]=>.ok [.b (List.isPrefixOf t s)]
 |_=>.err
def fL.c:dD
 |[.s s,.s t]=>.ok [.b (List.isPrefixOf t s)]
 |_=>.err
def fK.c:dD
 |[.s s,.u8 c]=>.ok [.i .i64 (Lib.indexByte s c)]
 |_=>.err
def ky.c:dD
 |[.u64 a,.u64 b]=>.ok [.u64 (UInt64.ofNat (a.toNat*b.toNat/18446744073709551616)),.u64 (UInt64.ofNat (a.toNat*b.toNat))]
 |_=>.err
def iD.c:dD
 |[.u64 v]=>.eI (decide (9223372036854775808<=v.toNat)) [.i .i64 (0)]
 |_=>.err
def bV.c:dD
 |[.u64 a,.u64 b,.u64 y]=>.eI (decide (9223372036854775808<=y.toNat/\a.toNat<y.toNat)) [.u64 (UInt64.ofNat ((a.toNat*18446744073709551616+b.toNat)/y.toNat)),.u64 (UInt64.ofNat ((a.toNat*18446744073709551616+b.toNat)% y.toNat))]
 |_=>.err
def mq.c:dD
 |[.ag [.u64 DQ,.u64 DP],.ag [.u64 UB,.u64 UA]]=>.ok [.i .i64 (cond (decide ((dP.mk DQ DP).val=(dP.mk UB UA).val)) 0 (cond (decide ((dP.mk DQ DP).val<(dP.mk UB UA).val)) (-1) 1))]
 |_=>.err
def mj.c:dD
 |[.u64 a,.u64 b]=>.ok [.ag (dP.of (a.toNat*b.toNat)).cells]
 |_=>.err
def mo.c:dD
 |[.ag [.u64 DQ,.u64 DP],.u64 b]=>.eI (decide (9223372036854775808<=b.toNat)) [.ag (dP.of ((dP.mk DQ DP).val/b.toNat)).cells,.u64 (UInt64.ofNat ((dP.mk DQ DP).val% b.toNat)),.b true]
 |_=>.err
def dK.c:dD
 |[.ag [.u64 DQ,.u64 DP]]=>.ok [.s (Nr.dec (dP.mk DQ DP).val)]
 |_=>.err
def jQ.c:dD
 |[]=>.ok [.ag (Cn.rh).cells]
 |_=>.err
def fi.c:dD
 |[.u64 h,.u64 l]=>.ok [.i .i64 (Cn.split h l).1,.b (Cn.split h l).2.1,.ag (Cn.split h l).2.2.1.cells,.i .i64 (Cn.split h l).2.2.2]
 |_=>.err
def gp.c:dD
 |[.b n,.ag [.u64 sZ,.u64 yF],.i .i64 x]=>.eI (Nr.i64 x) [.u64 (Cn.join n (dP.mk sZ yF) x).1,.u64 (Cn.join n (dP.mk sZ yF) x).2.1,.b (Cn.join n (dP.mk sZ yF) x).2.2]
 |_=>.err
def jC.c:dD
 |[.u64 h,.u64 l]=>.ok [.b (Cn.mS h l)]
 |_=>.err
def eP.c:dD
 |[.s d,.i .i64 x]=>.eI (decide (1<=d.length/\d.length<=40/\-10000<=x/\x<=100000)) [.s (Cn.laid d x)]
 |_=>.err
def gn.c:dD
 |[.u64 h,.u64 l]=>.ok [.s (Cn.qa h l)]
 |_=>.err
def eh.c:dD
 |[.sl .bs b]=>.eI (decide (b.length<=1099511627776)) [.s (Cn.base b)]
 |_=>.err
def lF.c:dD
 |[.s s]=>.ok [.ag (Cn.str s).cells]
 |_=>.err
def lH.c:dD
 |[.i .i64 v]=>.eI (Nr.i64 v) [.ag (Cn.num v).cells]
 |_=>.err
def lG.c:dD
 |[.s s,.ag [.i .i64 fe,.s fc,.sl .ml ff]]=>.ok [.ag (Cn.one s (cQ.mk fe fc ff)).cells]
 |_=>.err
def lE.c:dD
 |[.s s,.ag [.i .i64 fe,.s fc,.sl .ml ff],.s t,.ag [.i .i64 ET,.s ES,.sl .ml EU]]=>.ok [.ag (Cn.two s (cQ.mk fe fc ff) t (cQ.mk ET ES EU)).cells]
 |_=>.err
def fE.c:dD
 |[.u64 v]=>.ok [.s (Cn.high v)]
 |_=>.err
def iG.c:dD
 |[.ag [.i .i64 j8,.u64 kb,.u64 j9,.u64 j7,.s jY,.s j0,.i .i64 jZ,.sl .bs jX,.sl .fl ka]]=>.ok [.ag (Cn.mC (Val.mk j8 kb j9 j7 jY j0 jZ jX ka)).1.cells,.b (Cn.mC (Val.mk j8 kb j9 j7 jY j0 jZ jX ka)).2]
 |_=>.err
def kT.c:dD
 |[.ag [.i .i64 j8,.u64 kb,.u64 j9,.u64 j7,.s jY,.s j0,.i .i64 jZ,.sl .bs jX,.sl .fl ka]]=>.eI (decide ((bJ.of [] (Val.mk j8 kb j9 j7 jY j0 jZ jX ka)).bL<=1099511627776)) [.ag (Cn.nq (Val.mk j8 kb j9 j7 jY j0 jZ jX ka)).cells]
 |_=>.err
def cS.sg:ib:={own:=[1002]}
def cS.c:dD
 |[.sl .fl l]=>.eI (decide (bJ.cr l<=1099511627776)) [.ag (Cn.ug l).cells]
 |_=>.err
def cS.cn(n:Nat):dD
 |[.sl .fl l]=>.eI ((decide (bJ.cr l<=1099511627776))&&decide ((2*bJ.cr l+1)<n)) [.ag (Cn.ug l).cells]
 |_=>.err
def eS.cn(n:Nat):dD
 |[.ag [.i .i64 j8,.u64 kb,.u64 j9,.u64 j7,.s jY,.s j0,.i .i64 jZ,.sl .bs jX,.sl .fl ka]]=>.eI ((decide ((bJ.of [] (Val.mk j8 kb j9 j7 jY j0 jZ jX ka)).bL<=1099511627776))&&decide ((2*(bJ.of [] (Val.mk j8 kb j9 j7 jY j0 jZ jX ka)).bL)<n)) [.ag (Cn.BL (Val.mk j8 kb j9 j7 jY j0 jZ jX ka)).cells]
 |_=>.err
def jS.c:dD
 |[.ag [.i .i64 j8,.u64 kb,.u64 j9,.u64 j7,.s jY,.s j0,.i .i64 jZ,.sl .bs jX,.sl .fl ka]]=>.eI (decide ((bJ.of [] (Val.mk j8 kb j9 j7 jY j0 jZ jX ka)).bL<=1099511627776)) [.ag (Cn.lN (Val.mk j8 kb j9 j7 jY j0 jZ jX ka)).cells,.ag [.i .i64 (Cn.fY (Val.mk j8 kb j9 j7 jY j0 jZ jX ka)).2,.i .i64 0,.sl .is (Cn.fY (Val.mk j8 kb j9 j7 jY j0 jZ jX ka)).1]]
 |_=>.err
def nY.c:dD
 |[.s s]=>.eI (decide (s.length<=1099511627776)) [.b (dy.whole s)]
 |_=>.err
def cJ.c:dD
 |[.ag [.i .i64 fe,.s fc,.sl .ml ff]]=>.eI (decide ((cQ.mk fe fc ff).bL<=1099511627776)) [.i .i64 (Cn.iA (cQ.mk fe fc ff))]
 |_=>.err
def cJ.cn(n:Nat):dD
 |[.ag [.i .i64 fe,.s fc,.sl .ml ff]]=>.eI ((decide ((cQ.mk fe fc ff).bL<=1099511627776))&&decide ((cQ.mk fe fc ff).bL<n)) [.i .i64 (Cn.iA (cQ.mk fe fc ff))]
 |_=>.err
def da.c:dD
 |[.s s]=>.eI (decide (s.length<=1000000000000)) [.s (Cn.iT s),.b (dy.whole s)]
 |_=>.err
def iE.c:dD
 |[.sl .bs b,.s s]=>.eI (decide (b.length+6*s.length<=5000000000000)) [.sl .bs (b++Cn.iT s)]
 |_=>.err
def cX.c:dD
 |[.sl .bs b,.ag [.i .i64 fe,.s fc,.sl .ml ff]]=>.eI (decide (b.length+12*(cQ.mk fe fc ff).bL<=4000000000000)) [.sl .bs (b++Cn.rq (cQ.mk fe fc ff))]
 |_=>.err
def cX.cn(n:Nat):dD
 |[.sl .bs b,.ag [.i .i64 fe,.s fc,.sl .ml ff]]=>.eI ((decide (b.length+12*(cQ.mk fe fc ff).bL<=4000000000000))&&decide ((cQ.mk fe fc ff).bL<n)) [.sl .bs (b++Cn.rq (cQ.mk fe fc ff))]
 |_=>.err
def jz.c:dD
 |[.ag [.i .i64 fe,.s fc,.sl .ml ff]]=>.eI (decide (12*(cQ.mk fe fc ff).bL<=1000000000000)) [.s (Cn.oH (cQ.mk fe fc ff)),.i .i64 (Cn.iA (cQ.mk fe fc ff))]
 |_=>.err
def jR.c:dD
 |[.ag [.i .i64 j8,.u64 kb,.u64 j9,.u64 j7,.s jY,.s j0,.i .i64 jZ,.sl .bs jX,.sl .fl ka]]=>.eI (decide ((bJ.of [] (Val.mk j8 kb j9 j7 jY j0 jZ jX ka)).bL<=100000)) [.s (Cn.vK (Val.mk j8 kb j9 j7 jY j0 jZ jX ka)),.ag [.i .i64 (Cn.lK (Val.mk j8 kb j9 j7 jY j0 jZ jX ka)).2,.i .i64 0,.sl .is (Cn.lK (Val.mk j8 kb j9 j7 jY j0 jZ jX ka)).1]]
 |_=>.err
def dv.c:dD
 |[.ag [.i .i64 Sx,.s Sw,.sl .ml Sy],.ag [.i .i64 Yv,.s Yu,.sl .ml Yw]]=>.eI (decide ((cQ.mk Sx Sw Sy).bL<=1099511627776)) [.b (Cn.qR (cQ.mk Sx Sw Sy) (cQ.mk Yv Yu Yw))]
 |_=>.err
def dv.cn(n:Nat):dD
 |[.ag [.i .i64 Sx,.s Sw,.sl .ml Sy],.ag [.i .i64 Yv,.s Yu,.sl .ml Yw]]=>.eI ((decide ((cQ.mk Sx Sw Sy).bL<=1099511627776))&&decide ((cQ.mk Sx Sw Sy).bL<n)) [.b (Cn.qR (cQ.mk Sx Sw Sy) (cQ.mk Yv Yu Yw))]
 |_=>.err
def jk.c:dD
 |[.u64 b]=>.ok [.i .i64 (Cn.i32 b)]
 |_=>.err
def dU.c:dD
 |[.u64 v,.i .i64 n]=>.eI (decide (n=8)) [.sl .bs (Cn.b8 v).reverse]
 |_=>.err
def cY.c:dD
 |[.u64 v,.i .i64 n]=>.eI (decide (n=8)) [.sl .bs (Cn.b8 v)]
 |_=>.err
def cm.c:dD
 |[.sl .bs b]=>.eI (decide (b.length<=1000000000)) [.s (Cn.base b)]
 |_=>.err
def kO.c:dD
 |[.ag [.i .i64 GN,.i .i64 N6,.sl .is Bq],.ag [.i .i64 LO,.i .i64 RI,.sl .is Fq]]=>.eI (decide ((vF.mk GN N6 Bq).path.length<=1099511627776)) [.b (decide ((vF.mk GN N6 Bq).err=(vF.mk LO RI Fq).err)&&(decide ((vF.mk GN N6 Bq).at_=(vF.mk LO RI Fq).at_)&&decide ((vF.mk GN N6 Bq).path=(vF.mk LO RI Fq).path)))]
 |_=>.err
def mz.c:dD
 |[.ag [.u64 DQ,.u64 DP],.ag [.u64 UB,.u64 UA]]=>.ok [.i .i64 (cond (decide ((dP.mk DQ DP).val=(dP.mk UB UA).val)) 0 (cond (decide ((dP.mk DQ DP).val<(dP.mk UB UA).val)) (-1) 1))]
 |_=>.err
def nQ.c:dD
 |[.ag [.u64 DQ,.u64 DP],.i .i64 k]=>.eI (decide (0<=k/\k<128)) [.u64 (UInt64.ofNat ((dP.mk DQ DP).val/2^k.toNat%2))]
 |_=>.err
def fA.c:dD
 |[.ag [.u64 DQ,.u64 DP],.u64 b]=>.eI (decide (1<=b.toNat/\b.toNat<=4611686018427387904)) [.ag (dP.of ((dP.mk DQ DP).val/b.toNat)).cells,.u64 (UInt64.ofNat ((dP.mk DQ DP).val% b.toNat)),.b true]
 |_=>.err
def dH.c:dD
 |[.ag [.u64 DQ,.u64 DP]]=>.ok [.s (Nr.dec (dP.mk DQ DP).val)]
 |_=>.err
def oG.c:dD
 |[]=>.ok [.ag (Cn.rh).cells]
 |_=>.err
def fh.c:dD
 |[.u64 h,.u64 l]=>.ok [.i .i64 (Cn.split h l).1,.b (Cn.split h l).2.1,.ag (Cn.split h l).2.2.1.cells,.i .i64 (Cn.split h l).2.2.2]
 |_=>.err
def gk.c:dD
 |[.b n,.ag [.u64 sZ,.u64 yF],.i .i64 x]=>.eI (Nr.i64 x) [.u64 (Cn.join n (dP.mk sZ yF) x).1,.u64 (Cn.join n (dP.mk sZ yF) x).2.1,.b (Cn.join n (dP.mk sZ yF) x).2.2]
 |_=>.err
def jt.c:dD
 |[.u64 h,.u64 l]=>.ok [.b (Cn.mS h l)]
 |_=>.err
def dn.c:dD
 |[.i .i64 n]=>.eI (decide (n<=100000)) [.s (List.replicate n.toNat 48)]
 |_=>.err
def cN.c:dD
 |[.u64 h,.u64 l]=>.ok [.s (Cn.qa h l)]
 |_=>.err
def jw.c:dD
 |[.i .i64 y]=>.eI (decide (0<=y/\y<=100000)) [.b (Rl.tS y)]
 |_=>.err
def jx.c:dD
 |[.i .i64 y,.i .i64 m]=>.eI (decide (0<=y/\y<=100000)) [.i .i64 (Rl.month y m)]
 |_=>.err
def fB.c:dD
 |[.i .i64 v,.i .i64 n]=>.eI (decide (0<=v/\v<=1000000/\0<=n/\n<=10)) [.s (Rl.pad v n)]
 |_=>.err
def bT.c:dD
 |[.i .i64 t]=>.eI (Nr.i64 t) [.s (Rl.date t).1,.b (Rl.date t).2]
 |_=>.err
def cD.c:dD
 |[.s s]=>.eI (decide (s.length<=1000000000000)) [.s (Cn.iT s),.b (dy.whole s)]
 |_=>.err
def b9.c:dD
 |[.ag [.i .i64 fe,.s fc,.sl .ml ff]]=>.eI (decide (12*(cQ.mk fe fc ff).bL<=1000000000000)) [.sl .bs (Cn.rq (cQ.mk fe fc ff))]
 |_=>.err
def b9.cn(n:Nat):dD
 |[.ag [.i .i64 fe,.s fc,.sl .ml ff]]=>.eI ((decide (12*(cQ.mk fe fc ff).bL<=1000000000000))&&decide ((cQ.mk fe fc ff).bL<n)) [.sl .bs (Cn.rq (cQ.mk fe fc ff))]
 |_=>.err
def iC.c:dD
 |[.ag [.i .i64 fe,.s fc,.sl .ml ff]]=>.eI (decide (12*(cQ.mk fe fc ff).bL<=1000000000000)) [.s (Cn.oH (cQ.mk fe fc ff)),.i .i64 (Cn.iA (cQ.mk fe fc ff))]
 |_=>.err
def jM.c:dD
 |[.s s]=>.ok [.ag (Cn.str s).cells]
 |_=>.err
def kR.c:dD
 |[.s s]=>.ok [.ag (cQ.mk 4 s []).cells]
 |_=>.err
def kQ.c:dD
 |[.sl .ml l]=>.ok [.ag (cQ.mk 7 [] l).cells]
 |_=>.err
def iX.c:dD
 |[.s s,.ag [.i .i64 fe,.s fc,.sl .ml ff]]=>.ok [.ag (Cn.one s (cQ.mk fe fc ff)).cells]
 |_=>.err
def kP.c:dD
 |[.s s,.ag [.i .i64 fe,.s fc,.sl .ml ff],.s t,.ag [.i .i64 ET,.s ES,.sl .ml EU]]=>.ok [.ag (Cn.two s (cQ.mk fe fc ff) t (cQ.mk ET ES EU)).cells]
 |_=>.err
def jN.c:dD
 |[.u64 v]=>.ok [.s (Cn.high v)]
 |_=>.err
def jv.c:dD
 |[.u64 b]=>.ok [.b (Rl.number b).2]
 |_=>.err
def gL.c:dD
 |[.u64 b]=>.ok [.ag (Wq.Ss b).cells]
 |_=>.err
def cV.c:dD
 |[.sl .fl l,.b e]=>.eI (decide (bJ.cr l<=1000000000)&&decide ((Tree.lj l 0 []).2=0)) [.ag (Wq.doc e l).cells]
 |_=>.err
def cV.cn(n:Nat):dD
 |[.sl .fl l,.b e]=>.eI ((decide (bJ.cr l<=1000000000)&&decide ((Tree.lj l 0 []).2=0))&&decide ((2*bJ.cr l+1)<n)) [.ag (Wq.doc e l).cells]
 |_=>.err
def dz.c:dD
 |[.ag [.i .i64 j8,.u64 kb,.u64 j9,.u64 j7,.s jY,.s j0,.i .i64 jZ,.sl .bs jX,.sl .fl ka],.b e]=>.eI (decide ((bJ.of [] (Val.mk j8 kb j9 j7 jY j0 jZ jX ka)).bL<=1000000000)&&decide ((Tree.fW (bJ.of [] (Val.mk j8 kb j9 j7 jY j0 jZ jX ka)) []).2=0)) [.ag (Wq.val e (Val.mk j8 kb j9 j7 jY j0 jZ jX ka)).cells]
 |_=>.err
def dz.cn(n:Nat):dD
 |[.ag [.i .i64 j8,.u64 kb,.u64 j9,.u64 j7,.s jY,.s j0,.i .i64 jZ,.sl .bs jX,.sl .fl ka],.b e]=>.eI ((decide ((bJ.of [] (Val.mk j8 kb j9 j7 jY j0 jZ jX ka)).bL<=1000000000)&&decide ((Tree.fW (bJ.of [] (Val.mk j8 kb j9 j7 jY j0 jZ jX ka)) []).2=0))&&decide ((2*(bJ.of [] (Val.mk j8 kb j9 j7 jY j0 jZ jX ka)).bL)<n)) [.ag (Wq.val e (Val.mk j8 kb j9 j7 jY j0 jZ jX ka)).cells]
 |_=>.err
def dm.c:dD
 |[.ag [.i .i64 j8,.u64 kb,.u64 j9,.u64 j7,.s jY,.s j0,.i .i64 jZ,.sl .bs jX,.sl .fl ka],.b e]=>.eI (decide ((bJ.of [] (Val.mk j8 kb j9 j7 jY j0 jZ jX ka)).bL<=1000000000)&&decide ((Tree.fW (bJ.of [] (Val.mk j8 kb j9 j7 jY j0 jZ jX ka)) []).2=0)&&Wq.Jo (Val.mk j8 kb j9 j7 jY j0 jZ jX ka)) [.ag (Wq.val e (Val.mk j8 kb j9 j7 jY j0 jZ jX ka)).cells]
 |_=>.err
def iM.c:dD
 |[.ag [.i .i64 j8,.u64 kb,.u64 j9,.u64 j7,.s jY,.s j0,.i .i64 jZ,.sl .bs jX,.sl .fl ka],.b e]=>.eI (decide ((bJ.of [] (Val.mk j8 kb j9 j7 jY j0 jZ jX ka)).bL<=1000000000)) [.ag (Wq.json e (Val.mk j8 kb j9 j7 jY j0 jZ jX ka)).cells,.ag [.i .i64 (Cn.fY (Val.mk j8 kb j9 j7 jY j0 jZ jX ka)).2,.i .i64 0,.sl .is (Cn.fY (Val.mk j8 kb j9 j7 jY j0 jZ jX ka)).1]]
 |_=>.err
def ju.c:dD
 |[.ag [.i .i64 j8,.u64 kb,.u64 j9,.u64 j7,.s jY,.s j0,.i .i64 jZ,.sl .bs jX,.sl .fl ka],.b e]=>.eI (decide ((bJ.of [] (Val.mk j8 kb j9 j7 jY j0 jZ jX ka)).bL<=100000)) [.s (Wq.text e (Val.mk j8 kb j9 j7 jY j0 jZ jX ka)),.ag [.i .i64 (Cn.fY (Val.mk j8 kb j9 j7 jY j0 jZ jX ka)).2,.i .i64 0,.sl .is (Cn.fY (Val.mk j8 kb j9 j7 jY j0 jZ jX ka)).1]]
 |_=>.err
end Go.Eng
set_option maxRecDepth 100000
namespace Go.Eng
open Go.Proofs
@[reducible] def IK:N7:=[]
@[reducible] def Py:Zs:=[(130,[(.u64 (0:UInt64)),(.u64 (0:UInt64))]),(254,[(.u64 (0:UInt64)),(.u64 (0:UInt64)),(.u64 (0:UInt64)),(.u64 (0:UInt64))]),(256,[(.u64 (0:UInt64)),(.u64 (0:UInt64))]),(257,[(.u64 (0:UInt64)),(.u64 (0:UInt64)),(.u64 (0:UInt64)),(.u64 (0:UInt64)),(.u64 (0:UInt64)),(.u64 (0:UInt64))])]
def IL:N8:=[(161,({},.o)),(197,({jd:=2},.s .o (.s .o (.s .o (.s (.s .o (.b (.l [(0,.no),(2,.ptr 62 0),(4,.ptr 64 0),(5,.no),(62,.cl []),(64,.cl [])] .o))) .o))))),(229,({jd:=2},.s .o (.s .o (.s .o (.s .o (.s (.s .o (.b (.l [(4,.ptr 72 0),(6,.ptr 74 0),(7,.ptr 75 0),(8,.ptr 76 0),(9,.no),(72,.cl []),(74,.cl []),(75,.cl []),(76,.cl [])] (.s .o (.s (.b (.s .o (.s (.s .o (.b (.l [(4,.ptr 72 0),(6,.ptr 74 0),(7,.ptr 75 0),(8,.ptr 76 0),(9,.no),(10,.no),(11,.no),(72,.cl []),(74,.cl []),(75,.cl []),(76,.cl [])] .o))) .o))) .o))))) .o)))))),(230,({jd:=2},.s .o (.s .o (.s .o (.s .o (.s (.s .o (.b (.l [(4,.ptr 43 0),(6,.ptr 45 0),(7,.ptr 46 0),(8,.ptr 47 0),(9,.no),(10,.no),(43,.cl []),(45,.cl []),(46,.cl []),(47,.cl [])] .o))) .o)))))),(248,({},.o)),(249,({},.o))]
def xh:bD:=[49,48,48,48,48,48,48,48,48,48,48,48,48,48,48,48,48,48,48,48,48,48,48,48,48,48,48,48,48,48,48,48,48,48,48]
def SZ:List ((UInt64×UInt64)×(UInt64×UInt64)):=[((0,0),(0,0)),((0,1),(0,10)),((0,10),(0,100)),((0,100),(0,1000)),((0,1000),(0,10000))]
def SY:List ((UInt64×UInt64)×(UInt64×UInt64)):=[((0,10000),(0,100000)),((0,100000),(0,1000000)),((0,1000000),(0,10000000)),((0,10000000),(0,100000000)),((0,100000000),(0,1000000000))]
def SX:List ((UInt64×UInt64)×(UInt64×UInt64)):=[((0,1000000000),(0,10000000000)),((0,10000000000),(0,100000000000)),((0,100000000000),(0,1000000000000)),((0,1000000000000),(0,10000000000000)),((0,10000000000000),(0,100000000000000))]
def SW:List ((UInt64×UInt64)×(UInt64×UInt64)):=[((0,100000000000000),(0,1000000000000000)),((0,1000000000000000),(0,10000000000000000)),((0,10000000000000000),(0,100000000000000000)),((0,100000000000000000),(0,1000000000000000000)),((0,1000000000000000000),(0,10000000000000000000))]
def SV:List ((UInt64×UInt64)×(UInt64×UInt64)):=[((0,10000000000000000000),(5,7766279631452241920)),((5,7766279631452241920),(54,3875820019684212736)),((54,3875820019684212736),(542,1864712049423024128)),((542,1864712049423024128),(5421,200376420520689664)),((5421,200376420520689664),(54210,2003764205206896640))]
def SU:List ((UInt64×UInt64)×(UInt64×UInt64)):=[((54210,2003764205206896640),(542101,1590897978359414784)),((542101,1590897978359414784),(5421010,15908979783594147840)),((5421010,15908979783594147840),(54210108,11515845246265065472)),((54210108,11515845246265065472),(542101086,4477988020393345024)),((542101086,4477988020393345024),(5421010862,7886392056514347008))]
def SS:List ((UInt64×UInt64)×(UInt64×UInt64)):=[((5421010862,7886392056514347008),(54210108624,5076944270305263616)),((54210108624,5076944270305263616),(542101086242,13875954555633532928)),((542101086242,13875954555633532928),(5421010862427,9632337040368467968)),((5421010862427,9632337040368467968),(54210108624275,4089650035136921600)),((54210108624275,4089650035136921600),(542101086242752,4003012203950112768))]
def U9:List ((UInt64×UInt64)×(UInt64×UInt64)):=SZ++SY++SX++SW++SV++SU++SS
def Tj:List ((UInt64×UInt64)×(UInt64×UInt64)):=[((0,10),(0,10)),((0,100),(0,100)),((0,1000),(0,1000)),((0,10000),(0,10000)),((0,100000),(0,100000))]
def Ti:List ((UInt64×UInt64)×(UInt64×UInt64)):=[((0,1000000),(0,1000000)),((0,10000000),(0,10000000)),((0,100000000),(0,100000000)),((0,1000000000),(0,1000000000)),((0,10000000000),(0,10000000000))]
def Th:List ((UInt64×UInt64)×(UInt64×UInt64)):=[((0,100000000000),(0,100000000000)),((0,1000000000000),(0,1000000000000)),((0,10000000000000),(0,10000000000000)),((0,100000000000000),(0,100000000000000)),((0,1000000000000000),(0,1000000000000000))]
def Tg:List ((UInt64×UInt64)×(UInt64×UInt64)):=[((0,10000000000000000),(0,10000000000000000)),((0,100000000000000000),(0,100000000000000000)),((0,1000000000000000000),(0,1000000000000000000)),((0,10000000000000000000),(0,10000000000000000000)),((5,7766279631452241920),(5,7766279631452241920))]
def Tf:List ((UInt64×UInt64)×(UInt64×UInt64)):=[((54,3875820019684212736),(54,3875820019684212736)),((542,1864712049423024128),(542,1864712049423024128)),((5421,200376420520689664),(5421,200376420520689664)),((54210,2003764205206896640),(54210,2003764205206896640)),((542101,1590897978359414784),(542101,1590897978359414784))]
def Te:List ((UInt64×UInt64)×(UInt64×UInt64)):=[((5421010,15908979783594147840),(5421010,15908979783594147840)),((54210108,11515845246265065472),(54210108,11515845246265065472)),((542101086,4477988020393345024),(542101086,4477988020393345024)),((5421010862,7886392056514347008),(5421010862,7886392056514347008)),((54210108624,5076944270305263616),(54210108624,5076944270305263616))]
def Td:List ((UInt64×UInt64)×(UInt64×UInt64)):=[((542101086242,13875954555633532928),(542101086242,13875954555633532928)),((5421010862427,9632337040368467968),(5421010862427,9632337040368467968)),((54210108624275,4089650035136921600),(54210108624275,4089650035136921600)),((542101086242752,4003012203950112768),(542101086242752,4003012203950112768))]
def Vc:List ((UInt64×UInt64)×(UInt64×UInt64)):=Tj++Ti++Th++Tg++Tf++Te++Td
def IJ(p:UInt64×UInt64):TV:=.ag [.u64 p.1,.u64 p.2]
def Vb(l:List ((UInt64×UInt64)×(UInt64×UInt64)))(h lo:UInt64)(x:TV):qK:=match l.find? (λp=>p.1.1==h&&p.1.2==lo)with|some p=>.ok [IJ p.2,x]|none=>.err
def S4:dD:=λins=>match ins with|[.ag [.u64 h,.u64 l],.u64 b]=>if b=10 then Vb U9 h l (.u64 0)else .err|_=>.err
def S5:dD:=λins=>match ins with|[.ag [.u64 h,.u64 l],.ag [.u64 c,.u64 d]]=>if c=0 then(if d=0 then Vb Vc h l (.b false)else if d=1 then(if h=0 then(if l=0 then .ok [.ag [.u64 0,.u64 1],.b false]else .err)else .err)else .err)else .err|_=>.err
def Va(r:qK)(p:UInt64×UInt64)(x:TV):Bool:=match r,x with|.ok [.ag [.u64 h,.u64 l],.u64 c],.u64 0=>(h.toNat==p.1.toNat&&l.toNat==p.2.toNat)&&c.toNat==0|.ok [.ag [.u64 h,.u64 l],.b c],.b false=>(h.toNat==p.1.toNat&&l.toNat==p.2.toNat)&&!c|_,_=>false
def S3:dD:=λins=>match ins with|[.ag [.u64 h,.u64 l]]=>if h=542101086242752 then(if l=4003012203950112768 then .ok [.s xh]else .err)else .err|_=>.err
def Eg:List (Nat×(dD×ib)):=[(135,(S3,{})),(229,(S4,{jd:=2})),(230,(S5,{jd:=2}))]
def Eh(d:Nat):cH:=Eu PG 300 IK Py [] [] IL d
def R5(d:Nat):cH:=Eu PG 300 IK Py [] Eg (IL.filter λr=>!(r.1==229||r.1==230)) d
theorem S2:PG.follows .mixedOrders=true/\zh PG IK=true/\GQ PG Py=true:=⟨by kernel_rfl,by kernel_rfl,by kernel_rfl⟩
theorem Ef{r:qK}{p:UInt64×UInt64}{x:TV}(h:Va r p x=true):r=.ok [IJ p,x]:=by unfold Va at h;split at h;{simp only[af,beq_iff_eq]at h;rw[aU.1 h.1.1,aU.1 h.1.2,aU.1 (h.2.trans (show(0:Nat)=(0:UInt64).toNat from rfl))];rfl};{simp only[af,beq_iff_eq,Bool.not_eq_true']at h;rw[aU.1 h.1.1,aU.1 h.1.2,h.2];rfl};{cases h}
def BN(p:(UInt64×UInt64)×(UInt64×UInt64)):Bool:=Va (((Eh 4).fs 229).1 [IJ p.1,.u64 10]) p.2 (.u64 0)
def BO(p:(UInt64×UInt64)×(UInt64×UInt64)):Bool:=Va (((Eh 4).fs 230).1 [IJ p.1,.ag [.u64 0,.u64 0]]) p.2 (.b false)
theorem SR:SZ.all BN=true:=by kernel_rfl
theorem SQ:SY.all BN=true:=by kernel_rfl
theorem SP:SX.all BN=true:=by kernel_rfl
theorem SO:SW.all BN=true:=by kernel_rfl
theorem SN:SV.all BN=true:=by kernel_rfl
theorem SM:SU.all BN=true:=by kernel_rfl
theorem SL:SS.all BN=true:=by kernel_rfl
theorem Tc:Tj.all BO=true:=by kernel_rfl
theorem Tb:Ti.all BO=true:=by kernel_rfl
theorem Ta:Th.all BO=true:=by kernel_rfl
theorem S9:Tg.all BO=true:=by kernel_rfl
theorem S8:Tf.all BO=true:=by kernel_rfl
theorem S7:Te.all BO=true:=by kernel_rfl
theorem S6:Td.all BO=true:=by kernel_rfl
theorem Mw{p:(UInt64×UInt64)×(UInt64×UInt64)}(h:p∈U9):((Eh 4).fs 229).1 [IJ p.1,.u64 10]=.ok [IJ p.2,.u64 0]:=by have e:U9.all BN=true:=by{unfold U9;simp only[List.all_append,SR,SQ,SP,SO,SN,SM,SL,aX]};exact Ef (aC.1 e p h)
theorem Mx{p:(UInt64×UInt64)×(UInt64×UInt64)}(h:p∈Vc):((Eh 4).fs 230).1 [IJ p.1,.ag [.u64 0,.u64 0]]=.ok [IJ p.2,.b false]:=by have e:Vc.all BO=true:=by{unfold Vc;simp only[List.all_append,Tc,Tb,Ta,S9,S8,S7,S6,aX]};exact Ef (aC.1 e p h)
theorem My:((Eh 4).fs 230).1 [.ag [.u64 0,.u64 0],.ag [.u64 0,.u64 1]]=.ok [.ag [.u64 0,.u64 1],.b false]:=Ef (p:=(0,1)) (by kernel_rfl)
theorem Pz:(Eh 4).fs 229=(((Eh 4).fs 229).1,{jd:=2}):=by kernel_rfl
theorem PB:(Eh 4).fs 230=(((Eh 4).fs 230).1,{jd:=2}):=by kernel_rfl
theorem Mu:((R5 6).fs 161).1 []=.ok [.ag [.u64 542101086242752,.u64 4003012203950112768]]:=by kernel_rfl
theorem SK:(R5 6).fs 161=(((R5 6).fs 161).1,bC):=by kernel_rfl
variable{ρ:OT}
def dI:cH:=dc gH zs []
def dE.h:Hint:=.s .o (.s .o (.s (.s .o (.b (.l [(3,.fo 800000),(10,.no),(11,.no),(12,.no),(800000,.pv)] .o))) .o))
def dE.F(b:List UInt8):OT:=cq PG dI 89 bC dE.h [.sl .bs b]
def dE.l1(x0:List UInt8)(x1 x2:Int)(x3:List UInt8):OT:=cM PG dI 89 bC dE.h 43 [.pt,.sl .bs x0,.i .i64 x1,.i .i64 x2,.sl .bs x3]
theorem dE.bM(x0:List UInt8)(x1 x2:Int)(x3:List UInt8)(K:∀v1,v1=List.getD x0 x2.toNat 0->∀v2,v2=nP v1 (4:UInt64).toNat->∀v3,v3=List.getD [48,49,50,51,52,53,54,55,56,57,97,98,99,100,101,102] (v2.toNat:Int).toNat 0->∀v4,v4=List.getD [48,49,50,51,52,53,54,55,56,57,97,98,99,100,101,102] ((v1&&&15).toNat:Int).toNat 0->∀v5,v5=x3++([v3,v4]:List UInt8)->∀v6,v6=IntKind.i64.wrap (x2+1)->cond (decide (x2<x1)) (ck (bF x2 x0.length) (ck (bF (v2.toNat:Int) ([48,49,50,51,52,53,54,55,56,57,97,98,99,100,101,102]:bD).length) (ck (bF ((v1&&&15).toNat:Int) ([48,49,50,51,52,53,54,55,56,57,97,98,99,100,101,102]:bD).length) (ck (dY (x3.length+([v3,v4]:List UInt8).length) 1) (dE.l1 x0 x1 v6 v5))))) (some [.s x3])=ρ):dE.l1 x0 x1 x2 x3=ρ:=je (by kernel_rfl) (gQ (lP K:):)
theorem dE.bU(b:List UInt8)(K:∀v1,v1=IntKind.i64.wrap (2*(b.length:Int))->∀v2,v2=List.replicate (0:Int).toNat 0->ck (sP 0 v1 1) (dE.l1 b (b.length:Int) 0 v2)=ρ):dE.F b=ρ:=Eq.trans (by kernel_rfl) (mg K:)
def eH.h:Hint:=.s .o (.s .o (.s (.s .o (.b (.l [(0,.no),(3,.fo 800000),(4,.no),(800000,.pv)] .o))) .o))
def eH.F(b:List UInt8):OT:=cq PG dI 63 bC eH.h [.sl .bs b]
def eH.l1(x0:List UInt8)(x1:Int)(x2:List UInt8):OT:=cM PG dI 63 bC eH.h 43 [.sl .bs x0,.pt,.i .i64 x1,.sl .bs x2]
theorem eH.bM(x0:List UInt8)(x1:Int)(x2:List UInt8)(K:∀v1,v1=List.getD x0 x1.toNat (0:UInt8)->∀v2,v2=List.getD ([48,49,50,51,52,53,54,55,56,57,97,98,99,100,101,102]:bD) ((v1/(16:UInt8)).toNat:Int).toNat (0:UInt8)->∀v3,v3=List.getD ([48,49,50,51,52,53,54,55,56,57,97,98,99,100,101,102]:bD) ((v1%(16:UInt8)).toNat:Int).toNat (0:UInt8)->∀v4,v4=x2++([v2,v3]:List UInt8)->∀v5,v5=IntKind.i64.wrap (x1+(1:Int))->cond (decide (x1<(x0.length:Int))) (ck (bF x1 x0.length) (ck (!decide ((16:UInt8)=0)) (ck (bF ((v1/(16:UInt8)).toNat:Int) ([48,49,50,51,52,53,54,55,56,57,97,98,99,100,101,102]:bD).length) (ck (bF x1 x0.length) (ck (!decide ((16:UInt8)=0)) (ck (bF ((v1%(16:UInt8)).toNat:Int) ([48,49,50,51,52,53,54,55,56,57,97,98,99,100,101,102]:bD).length) (ck (dY (x2.length+([v2,v3]:List UInt8).length) 1) (eH.l1 x0 v5 v4)))))))) (some [.s x2])=ρ):eH.l1 x0 x1 x2=ρ:=je (by kernel_rfl) (gQ K:)
theorem eH.de(b:List UInt8):eH.F b=eH.l1 b 0 ([]:List UInt8):=by kernel_rfl
def nM.F(r:Int):OT:=cq PG dI 173 bC (.o) [.i .i64 r]
theorem nM.bU(r:Int)(K:∀v1,v1=cond (decide (0<=r)) (decide (r<=1114111)) false->∀v2,v2=(v1&&(!(decide (r<55296))))->∀v3,v3=cond (decide (r<55296)) true (decide (57343<r))->ck (!(decide (0<=r))||(decide (0<=r))) (ck (!(decide (0<=r))||(decide (0<=r))) (ck (!v1||v1) (ck (!v1||v1) (ck (!v2||v2) (ck (!v1||(v1&&((decide (r<55296))||v2))) (ck (!v1||v1) (some [.b (cond v1 v3 false)])))))))=ρ):nM.F r=ρ:=Eq.trans (by kernel_rfl) (pn K:)
def bZ.E:cH:=dc gH zs [(173,nM.c,bC)]
def bZ.h:Hint:=.s .o (.sc [(0,(sc [])),(1,(sc [0,1,4,7,8,9]))] (.s .o (.s .o (.s .o (.j (sc [0,1,4,7,8]) .o .o)))))
def bZ.F(b:List UInt8)(at_:Int):OT:=cq PG bZ.E 145 bR bZ.h [.sl .bs b,.i .i64 at_]
def bZ.g1:OT:=AX PG bZ.E 145 bR bZ.h 3 0 []
def bZ.j2(x0:List UInt8)(x1 x2 x3 x4:Int):OT:=di PG bZ.E 145 bR bZ.h 61 [.sl .bs x0,.i .i64 x1,.i .i64 x2,.i .i64 x3,.i .i64 x4]
def bZ.g3(x0:List UInt8)(x1:Int)(x2:Int)(x3:Int)(x4:Int)(x5:Int):OT:=AX PG bZ.E 145 bR bZ.h 3 1 [(.sl .bs x0),(.i .i64 x1),(.i .i64 x2),(.i .i64 x3),(.i .i64 x4),(.i .i64 x5)]
theorem bZ.zV:bZ.g1=some [.i .i64 0,.i .i64 0]:=((zO _ _ _ _ _ _ _ _).trans (by kernel_rfl))
theorem bZ.ik(x0:List UInt8)(x1 x2 x3 x4:Int)(K:∀v1,v1=IntKind.i64.wrap ((x0.length:Int) -x1)->∀v2,v2=IntKind.i64.wrap (v1 -1)->∀v3,v3=IntKind.i64.wrap (x1+1)->∀v4,v4=List.getD x0 v3.toNat 0->∀v5,v5=!decide ((v4&&&192)=128)->∀v6,v6=IntKind.i64.wrap (x2*2^(min (6:UInt64).toNat (IntKind.i64.bits)))->∀v7,v7=IntKind.i64.wrap ((v4&&&63).toNat:Int)->∀v8,v8=IntKind.i64.wrap (1+1)->∀v9,v9=cond (decide (x2<x4)) true (!(dy.nR x2))->∀v10,v10=IntKind.i64.wrap (x3+1)->cond (decide (v2<x3)) bZ.g1 (cond (decide (1<=x3)) (ck (bF v3 x0.length) (cond v5 bZ.g1 (ck (bF v3 x0.length) (bZ.g3 x0 x1 (db .or .i64 v6 v7) x3 x4 v8)))) (ck (!(!(decide (x2<x4)))||(!(decide (x2<x4)))) (ck (!(!(decide (x2<x4)))||(!(decide (x2<x4)))) (ck ((decide (x2<x4))||(!(decide (x2<x4)))) (cond v9 bZ.g1 (some [.i .i64 x2,.i .i64 v10]))))))=ρ):bZ.j2 x0 x1 x2 x3 x4=ρ:=ly (by kernel_rfl) (gQ (gQ K:):)
theorem bZ.KG(x0:List UInt8)(x1 x2 x3 x4 x5:Int)(K:∀v1,v1=List.getD x0 (IntKind.i64.wrap (x1+x5)).toNat 0->∀v2,v2=!decide ((v1&&&192)=128)->∀v3,v3=IntKind.i64.wrap (x2*2^(min (6:UInt64).toNat (IntKind.i64.bits)))->∀v4,v4=IntKind.i64.wrap ((v1&&&63).toNat:Int)->∀v5,v5=IntKind.i64.wrap (x5+1)->∀v6,v6=cond (decide (x2<x4)) true (!(dy.nR x2))->∀v7,v7=IntKind.i64.wrap (x3+1)->cond (decide (x5<=x3)) (ck (bF (IntKind.i64.wrap (x1+x5)) x0.length) (cond v2 bZ.g1 (ck (bF (IntKind.i64.wrap (x1+x5)) x0.length) (bZ.g3 x0 x1 (db .or .i64 v3 v4) x3 x4 v5)))) (ck (!(!(decide (x2<x4)))||(!(decide (x2<x4)))) (ck (!(!(decide (x2<x4)))||(!(decide (x2<x4)))) (ck ((decide (x2<x4))||(!(decide (x2<x4)))) (cond v6 bZ.g1 (some [.i .i64 x2,.i .i64 v7])))))=ρ):bZ.g3 x0 x1 x2 x3 x4 x5=ρ:=((zO _ _ _ _ _ _ _ _).trans (by kernel_rfl)).trans (gQ (mg K:):)
theorem bZ.bU(b:List UInt8)(at_:Int)(K:∀v1,v1=cond (decide (at_<0)) true (decide ((b.length:Int)<=at_))->∀v2,v2=List.getD b at_.toNat 0->∀v3,v3=IntKind.i64.wrap (v2.toNat:Int)->∀v4,v4=cond (decide (192<=v3)) (decide (v3<224)) false->∀v5,v5=db .and .i64 v3 31->∀v6,v6=cond (decide (224<=v3)) (decide (v3<240)) false->∀v7,v7=db .and .i64 v3 15->∀v8,v8=cond (decide (240<=v3)) (decide (v3<248)) false->∀v9,v9=db .and .i64 v3 7->ck (!(!(decide (at_<0)))||(!(decide (at_<0)))) (ck (!(!(decide (at_<0)))||((!(decide (at_<0)))&&(!(decide (at_<0))))) (ck ((decide (at_<0))||(!(decide (at_<0)))) (cond v1 bZ.g1 (ck (bF at_ b.length) (cond (decide (v3<128)) (some [.i .i64 v3,.i .i64 1]) (ck (!(decide (192<=v3))||(decide (192<=v3))) (ck (!(decide (192<=v3))||(decide (192<=v3))) (cond v4 (bZ.j2 b at_ v5 1 128) (ck (!(decide (224<=v3))||(decide (224<=v3))) (ck (!(decide (224<=v3))||(decide (224<=v3))) (cond v6 (bZ.j2 b at_ v7 2 2048) (ck (!(decide (240<=v3))||(decide (240<=v3))) (ck (!(decide (240<=v3))||(decide (240<=v3))) (cond v8 (bZ.j2 b at_ v9 3 65536) bZ.g1))))))))))))))=ρ):bZ.F b at_=ρ:=Eq.trans (by kernel_rfl) (gQ (qz K:):)
def cZ.E:cH:=dc gH zs [(145,bZ.c,bR)]
def cZ.h:Hint:=.s .o (.j (sc [2,3]) (.b (.l (sc [0,2,3]) .o)) .o)
def cZ.F(b:List UInt8):OT:=cq PG cZ.E 115 bR cZ.h [.sl .bs b]
def cZ.l1(x0:List UInt8)(x1 x2:Int):OT:=cM PG cZ.E 115 bR cZ.h 9 [.sl .bs x0,.i .i64 x1,.i .i64 x2]
def cZ.j2(x0 x1:Int):OT:=di PG cZ.E 115 bR cZ.h 3 [.i .i64 x0,.i .i64 x1]
theorem cZ.bM(x0:List UInt8)(x1 x2:Int)(K:∀v1,v1=IntKind.i64.wrap (x1+(dy.lA x0 x1).2)->∀v2,v2=IntKind.i64.wrap (x2+1)->cond (decide (x1<(x0.length:Int))) (ck (decide (x0.length<=1099511627776)) (cond (decide ((dy.lA x0 x1).2=0)) (cZ.j2 x1 x2) (cZ.l1 x0 v1 v2))) (cZ.j2 x1 x2)=ρ):cZ.l1 x0 x1 x2=ρ:=je (by kernel_rfl) (mg K:)
theorem cZ.kn(x0 x1:Int):cZ.j2 x0 x1=some [.i .i64 x0,.i .i64 x1]:=ly (by kernel_rfl) rfl
theorem cZ.de(b:List UInt8):cZ.F b=cZ.l1 b 0 0:=by kernel_rfl
def gP.E:cH:=dc gH zs [(115,cZ.c,bR)]
def gP.F(b:List UInt8):OT:=cq PG gP.E 80 bR (.o) [.sl .bs b]
theorem gP.de(b:List UInt8):gP.F b=ck (decide (b.length<=1099511627776)) (some [.i .i64 ((dy.look b).1:Int),.b (decide (((dy.look b).1:Int)=(b.length:Int)))]):=by kernel_rfl
def cP.h:Hint:=.s .o (.s .o (.s .o (.s .o (.j (sc [0,1,7,8,9]) .o (.s .o (.s (.s .o (.b (.l (sc [0,1,7,8,9,10]) .o))) .o))))))
def cP.F(b:List UInt8)(at_:Int):OT:=cq PG dI 138 bR cP.h [.sl .bs b,.i .i64 at_]
def cP.j1(x0:List UInt8)(x1 x2 x3 x4:Int):OT:=di PG dI 138 bR cP.h 31 [.sl .bs x0,.i .i64 x1,.i .i64 x2,.i .i64 x3,.i .i64 x4]
def cP.l2(x0:List UInt8)(x1 x2 x3 x4 x5:Int):OT:=cM PG dI 138 bR cP.h 703 [.sl .bs x0,.i .i64 x1,.i .i64 x2,.i .i64 x3,.i .i64 x4,.i .i64 x5]
theorem cP.gM(x0:List UInt8)(x1 x2 x3 x4:Int)(K:∀v1,v1=IntKind.i64.wrap ((x0.length:Int) -x1)->cond (decide (v1<x2)) (some [.i .i64 0,.i .i64 0]) (cP.l2 x0 x1 x2 x3 x4 1)=ρ):cP.j1 x0 x1 x2 x3 x4=ρ:=ly (by kernel_rfl) (lP K:)
theorem cP.gU(x0:List UInt8)(x1 x2 x3 x4 x5:Int)(K:∀v1,v1=List.getD x0 (IntKind.i64.wrap (x1+x5)).toNat 0->∀v2,v2=IntKind.i64.wrap (v1.toNat:Int)->∀v3,v3=cond (decide (v2<128)) true (decide (192<=v2))->∀v4,v4=IntKind.i64.wrap (x3*64)->∀v5,v5=IntKind.i64.wrap ((IntKind.i64.wrap (v4+v2)) -128)->∀v6,v6=IntKind.i64.wrap (x5+1)->∀v7,v7=cond (decide (x3<x4)) true (decide (1114111<x3))->∀v8,v8=((!v7)&&(decide (55296<=x3)))->∀v9,v9=cond (decide (55296<=x3)) (decide (x3<=57343)) false->cond (decide (x5<x2)) (ck (bF (IntKind.i64.wrap (x1+x5)) x0.length) (ck (!(!(decide (v2<128)))||(!(decide (v2<128)))) (ck ((decide (v2<128))||(!(decide (v2<128)))) (cond v3 (some [.i .i64 0,.i .i64 0]) (cP.l2 x0 x1 x2 v5 x4 v6))))) (ck (!(!(decide (x3<x4)))||(!(decide (x3<x4)))) (ck ((decide (x3<x4))||(!(decide (x3<x4)))) (ck (!(!v7)||(!v7)) (ck (!(!v7)||(!v7)) (ck (!v8||v8) (ck (!(!v7)||((!v7)&&(!(decide (55296<=x3))||v8))) (ck (v7||(!v7)) (cond (cond v7 true v9) (some [.i .i64 0,.i .i64 0]) (some [.i .i64 x3,.i .i64 x2])))))))))=ρ):cP.l2 x0 x1 x2 x3 x4 x5=ρ:=je (by kernel_rfl) (gQ (qz K:):)
theorem cP.bU(b:List UInt8)(at_:Int)(K:∀v1,v1=cond (decide (at_<0)) true (decide ((b.length:Int)<=at_))->∀v2,v2=List.getD b at_.toNat 0->∀v3,v3=IntKind.i64.wrap (v2.toNat:Int)->∀v4,v4=cond (decide (192<=v3)) (decide (v3<224)) false->∀v5,v5=IntKind.i64.wrap (v3 -192)->∀v6,v6=cond (decide (224<=v3)) (decide (v3<240)) false->∀v7,v7=IntKind.i64.wrap (v3 -224)->∀v8,v8=cond (decide (240<=v3)) (decide (v3<248)) false->∀v9,v9=IntKind.i64.wrap (v3 -240)->ck (!(!(decide (at_<0)))||(!(decide (at_<0)))) (ck (!(!(decide (at_<0)))||((!(decide (at_<0)))&&(!(decide (at_<0))))) (ck ((decide (at_<0))||(!(decide (at_<0)))) (cond v1 (some [.i .i64 0,.i .i64 0]) (ck (bF at_ b.length) (cond (decide (v3<128)) (some [.i .i64 v3,.i .i64 1]) (ck (!(decide (192<=v3))||(decide (192<=v3))) (ck (!(decide (192<=v3))||(decide (192<=v3))) (cond v4 (cP.j1 b at_ 2 v5 128) (ck (!(decide (224<=v3))||(decide (224<=v3))) (ck (!(decide (224<=v3))||(decide (224<=v3))) (cond v6 (cP.j1 b at_ 3 v7 2048) (ck (!(decide (240<=v3))||(decide (240<=v3))) (ck (!(decide (240<=v3))||(decide (240<=v3))) (cond v8 (cP.j1 b at_ 4 v9 65536) (some [.i .i64 0,.i .i64 0])))))))))))))))=ρ):cP.F b at_=ρ:=Eq.trans (by kernel_rfl) (gQ (qz K:):)
def df.E:cH:=dc gH zs [(138,cP.c,bR)]
def df.h:Hint:=.s .o (.s (.s .o (.b (.l (sc [0,4]) .o))) .o)
def df.F(b:List UInt8):OT:=cq PG df.E 106 bR df.h [.sl .bs b]
def df.l1(x0:List UInt8)(x1:Int):OT:=cM PG df.E 106 bR df.h 21 [.sl .bs x0,.i .i64 x1]
theorem df.bM(x0:List UInt8)(x1:Int)(K:∀v1,v1=IntKind.i64.wrap (x1+(dy.lA x0 x1).2)->cond (decide (x1<(x0.length:Int))) (ck (decide (x0.length<=1099511627776)) (cond (decide ((dy.lA x0 x1).2=0)) (some [.i .i64 x1,.b false]) (df.l1 x0 v1))) (some [.i .i64 (x0.length:Int),.b true])=ρ):df.l1 x0 x1=ρ:=je (by kernel_rfl) (lP K:)
theorem df.de(b:List UInt8):df.F b=df.l1 b 0:=by kernel_rfl
def fk.E:cH:=dc gH zs [(106,df.c,bR)]
def fk.F(s:bD):OT:=cq PG fk.E 70 bC (.o) [.s s]
theorem fk.de(s:bD):fk.F s=ck (pU s.length) (ck (decide (s.length<=1099511627776)) (some [.b (dy.whole s)])):=by kernel_rfl
def dQ.h:Hint:=.s .o (.s (.s .o (.b (.l (sc [0,3]) .o))) .o)
def dQ.F(s:bD):OT:=cq PG dI 92 bC dQ.h [.s s]
def dQ.l1(x0:bD)(x1:Int):OT:=cM PG dI 92 bC dQ.h 21 [.s x0,.i .i64 x1]
theorem dQ.bM(x0:bD)(x1:Int)(K:∀v1,v1=List.getD x0 x1.toNat 0->∀v2,v2=IntKind.i64.wrap (x1+1)->cond (decide (x1<(x0.length:Int))) (ck (bF x1 x0.length) (cond (decide (v1=0)) (some [.b true]) (dQ.l1 x0 v2))) (some [.b false])=ρ):dQ.l1 x0 x1=ρ:=je (by kernel_rfl) (mg K:)
theorem dQ.de(s:bD):dQ.F s=dQ.l1 s 0:=by kernel_rfl
def fM.F(s:bD)(c:UInt8):OT:=cq PG dI 163 bC (.o) [.s s,.u8 c]
theorem fM.de(s:bD)(c:UInt8):fM.F s c=some [.i .i64 (Lib.indexByte s c)]:=by kernel_rfl
def jq.E:cH:=dc gH zs [(163,fM.c,bC)]
def jq.F(s t:bD):OT:=cq PG jq.E 146 bC (.o) [.s s,.s t]
theorem jq.bU(s t:bD)(K:∀v1,v1=cond (decide ((t.length:Int)=0)) true (decide (t=s))->∀v2,v2=List.getD t (0:Int).toNat 0->ck (!(!(decide ((t.length:Int)=0)))||((!(decide ((t.length:Int)=0)))&&(!(decide ((t.length:Int)=0))))) (ck ((decide ((t.length:Int)=0))||(!(decide ((t.length:Int)=0)))) (cond v1 (some [.i .i64 0]) (cond (decide ((t.length:Int)=1)) (ck (bF 0 t.length) (some [.i .i64 (Lib.indexByte s v2)])) (cond (decide ((s.length:Int)<=(t.length:Int))) (some [.i .i64 (-1)]) none))))=ρ):jq.F s t=ρ:=Eq.trans (by kernel_rfl) (mg K:)
def jm.E:cH:=dc gH zs [(146,jq.c,bC)]
def jm.F(s t:bD):OT:=cq PG jm.E 116 bC (.o) [.s s,.s t]
theorem jm.bU(s t:bD)(K:∀v1,v1=Lib.indexByte s (t.getD 0 0)->ck (decide (t.length=1)) (some [.i .i64 v1])=ρ):jm.F s t=ρ:=Eq.trans (by kernel_rfl) (lP K:)
def gg.E:cH:=dc gH zs [(116,jm.c,bC)]
def gg.F(s t:bD):OT:=cq PG gg.E 81 bC (.o) [.s s,.s t]
theorem gg.bU(s t:bD)(K:∀v1,v1=Lib.indexByte s (t.getD 0 0)->ck (decide (t.length=1)) (some [.b (decide (0<=v1))])=ρ):gg.F s t=ρ:=Eq.trans (by kernel_rfl) (lP K:)
def iO.F(l:List Int):OT:=cq PG dI 40 iO.sg (.o) [.sl .is l]
theorem iO.de(l:List Int):iO.F l=cond (List.isEmpty l) (both (some [.sl .is ([]:List Int),.sl .is l]) (ck (dY (([]:List Int).length+l.length) 8) (some [.sl .is (([]:List Int)++l),.sl .is l]))) (ck (dY (([]:List Int).length+l.length) 8) (some [.sl .is (([]:List Int)++l),.sl .is l])):=by kernel_rfl
def jg.F(k:Int):OT:=cq PG dI 39 bC (.o) [.i .i64 k]
theorem jg.bU(k:Int)(K:∀(v1:Bool)(h1:v1=(cond (decide (k<(0:Int))) true (decide ((20:Int)<=k))))(v2:bD)(h2:v2=(List.getD [([]:bD),([100,111,117,98,108,101]:bD),([115,116,114,105,110,103]:bD),([100,111,99,117,109,101,110,116]:bD),([97,114,114,97,121]:bD),([98,105,110,97,114,121]:bD),([117,110,100,101,102,105,110,101,100]:bD),([111,98,106,101,99,116,105,100]:bD),([98,111,111,108]:bD),([100,97,116,101]:bD),([110,117,108,108]:bD),([114,101,103,101,120]:bD),([112,111,105,110,116,101,114]:bD),([99,111,100,101]:bD),([115,121,109,98,111,108]:bD),([115,99,111,112,101,100]:bD),([105,110,116,51,50]:bD),([116,105,109,101,115,116,97,109,112]:bD),([105,110,116,54,52]:bD),([100,101,99,105,109,97,108]:bD)] ((k).toNat) ([]:bD))),cond (decide (k=(127:Int))) (some [(.s ([109,97,120,107,101,121]:bD))]) (cond (decide (k=(255:Int))) (some [(.s ([109,105,110,107,101,121]:bD))]) (ck (!(!(decide (k<(0:Int))))||(!(decide (k<(0:Int))))) (ck ((decide (k<(0:Int)))||(!(decide (k<(0:Int))))) (cond v1 (some [(.s [])]) (ck (bF k 20) (ck (decide ((k).toNat<20)) (some [(.s v2)])))))))=ρ):jg.F k=ρ:=Eq.trans (by kernel_rfl) (K _ rfl _ rfl)
def bI.h:Hint:=.s .o (.s .o (.j [(1,.ptr 116 0),(3,.no),(116,.cl [])] (.s .o (.b (.j [(1,.ptr 116 0),(3,.no),(5,.no),(6,.no),(116,.cl [])] .o (.s .o (.s .o (.s .o (.s .o (.s .o (.s .o (.s .o (.j [(1,.ptr 116 0),(3,.no),(5,.no),(28,.no),(116,.cl [])] .o (.s .o (.s .o (.s .o (.s .o (.s .o (.s .o (.s .o (.s .o (.s .o (.j [(1,.ptr 116 0),(3,.no),(5,.no),(64,.no),(116,.cl [])] .o .o))))))))))))))))))))) .o))
def bI.F(v:Val):OT:=cq PG dI 41 bC bI.h [.ag v.cells]
def bI.j1(x0:Bool)(x1:Int)(x2:Bool)(x3:Val):OT:=di PG dI 41 bC bI.h 43 [.pt,.b x0,.i .i64 x1,.b x2,.ag x3.cells]
def bI.j2(x0:Bool)(x1:Val):OT:=di PG dI 41 bC bI.h 7 [.pt,.b x0,.ag x1.cells]
def bI.j3(x0:Bool)(x1:Int)(x2:Bool)(x3:Val):OT:=di PG dI 41 bC bI.h 16363 [.pt,.b x0,.i .i64 x1,.b x2,.ag x3.cells]
def bI.j4(x0:Bool)(x1:Int)(x2:Bool)(x3:Val):OT:=di PG dI 41 bC bI.h 16777195 [.pt,.b x0,.i .i64 x1,.b x2,.ag x3.cells]
theorem bI.mF(x0:Bool)(x1:Int)(x2:Bool)(x3:Val):bI.j1 x0 x1 x2 x3=cond x2 (bI.j2 x0 (Val.mk x3.kind 0 x3.high x3.low x3.text x3.more x3.sub x3.bytes x3.kids)) (cond (decide (x1=16)) (bI.j2 (decide (x3.bits<4294967296)) (Val.mk x3.kind 0 x3.high x3.low x3.text x3.more x3.sub x3.bytes x3.kids)) (cond (decide (x1=8)) (bI.j2 (decide (x3.bits<2)) (Val.mk x3.kind 0 x3.high x3.low x3.text x3.more x3.sub x3.bytes x3.kids)) (cond (decide (x1=19)) (bI.j2 x0 (Val.mk x3.kind x3.bits 0 0 x3.text x3.more x3.sub x3.bytes x3.kids)) (cond (decide (x1=2)) (bI.j3 x0 x1 (decide (x1=2)) x3) (cond (decide (x1=13)) (bI.j3 x0 x1 (decide (x1=13)) x3) (bI.j3 x0 x1 (decide (x1=14)) x3)))))):=ly (by kernel_rfl) rfl
theorem bI.ik(x0:Bool)(x1:Val)(K:∀v1,v1=cond x0 (decide (x1.bits=0)) false->∀v2,v2=cond v1 (decide (x1.high=0)) false->∀v3,v3=cond v2 (decide (x1.low=0)) false->∀v4,v4=cond v3 (decide (x1.text=[])) false->∀v5,v5=cond v4 (decide (x1.more=[])) false->∀v6,v6=cond v5 (decide (x1.sub=0)) false->∀v7,v7=(x1.bytes.length:Int)->∀v8,v8=cond v6 (decide (v7=0)) false->∀v9,v9=(x1.kids.length:Int)->∀v10,v10=cond v8 (decide (v9=0)) false->ck (!x0||x0) (ck (!x0||x0) (ck (!x0||x0) (ck (!v1||v1) (ck (!v1||v1) (ck (!v1||v1) (ck (!v2||v2) (ck (!v2||v2) (ck (!v2||v2) (ck (!v3||v3) (ck (!v3||v3) (ck (!v3||v3) (ck (!v4||v4) (ck (!v4||v4) (ck (!v4||v4) (ck (!v5||v5) (ck (!v5||v5) (ck (!v5||v5) (ck (!v6||v6) (ck (!v6||v6) (ck (!v6||v6) (ck (!v6||v6) (ck (!v8||v8) (ck (!v8||v8) (ck (!v8||v8) (ck (!v8||v8) (some [.b v10]))))))))))))))))))))))))))=ρ):bI.j2 x0 x1=ρ:=ly (by kernel_rfl) (gQ (gQ K:):)
theorem bI.nZ(x0:Bool)(x1:Int)(x2:Bool)(x3:Val)(K:∀v1,v1=cond (decide (0<=x3.sub)) (decide (x3.sub<=255)) false->∀v2,v2=(x3.bytes.length:Int)->cond x2 (bI.j2 x0 (Val.mk x3.kind x3.bits x3.high x3.low [] x3.more x3.sub x3.bytes x3.kids)) (cond (decide (x1=11)) (bI.j2 x0 (Val.mk x3.kind x3.bits x3.high x3.low [] [] x3.sub x3.bytes x3.kids)) (cond (decide (x1=5)) (ck (!(decide (0<=x3.sub))||(decide (0<=x3.sub))) (ck (!(decide (0<=x3.sub))||(decide (0<=x3.sub))) (ck (!(decide (0<=x3.sub))||(decide (0<=x3.sub))) (bI.j2 v1 (Val.mk x3.kind x3.bits x3.high x3.low x3.text x3.more 0 [] x3.kids))))) (cond (decide (x1=7)) (bI.j2 (decide (v2=12)) (Val.mk x3.kind x3.bits x3.high x3.low x3.text x3.more x3.sub [] x3.kids)) (cond (decide (x1=12)) (bI.j2 (decide (v2=12)) (Val.mk x3.kind x3.bits x3.high x3.low [] x3.more x3.sub [] x3.kids)) (cond (decide (x1=3)) (bI.j4 x0 x1 (decide (x1=3)) x3) (bI.j4 x0 x1 (decide (x1=4)) x3))))))=ρ):bI.j3 x0 x1 x2 x3=ρ:=ly (by kernel_rfl) (mg K:)
theorem bI.sD(x0:Bool)(x1:Int)(x2:Bool)(x3:Val):bI.j4 x0 x1 x2 x3=cond x2 (bI.j2 x0 (Val.mk x3.kind x3.bits x3.high x3.low x3.text x3.more x3.sub x3.bytes [])) (cond (decide (x1=15)) (bI.j2 x0 (Val.mk x3.kind x3.bits x3.high x3.low [] x3.more x3.sub x3.bytes [])) (bI.j2 x0 x3)):=ly (by kernel_rfl) rfl
theorem bI.de(v:Val):bI.F v=cond (decide (v.kind=1)) (bI.j1 true v.kind (decide (v.kind=1)) v) (cond (decide (v.kind=9)) (bI.j1 true v.kind (decide (v.kind=9)) v) (cond (decide (v.kind=17)) (bI.j1 true v.kind (decide (v.kind=17)) v) (bI.j1 true v.kind (decide (v.kind=18)) v))):=by kernel_rfl
def gI.E:cH:=dc gH zs [(80,gP.c,bR),(81,gg.c,bC)]
def gI.F(s:bD)(plain:Bool):OT:=cq PG gI.E 42 bC (.o) [.s s,.b plain]
theorem gI.bU(s:bD)(plain:Bool)(K:∀v1,v1=cond plain (decide (0<=Lib.indexByte s (([0]:bD).getD 0 0))) false->∀v2,v2=cond (dy.whole s) (!v1) false->ck (pU s.length) (ck (decide (s.length<=1099511627776)) (ck (!(dy.whole s)||(dy.whole s)) (ck (!((dy.whole s)&&plain)||(((dy.whole s)&&plain)&&(decide (([0]:bD).length=1)))) (ck (!(dy.whole s)||((dy.whole s)&&(!plain||((dy.whole s)&&plain)))) (ck (!(dy.whole s)||(dy.whole s)) (ck (!(dy.whole s)||(dy.whole s)) (some [.b v2])))))))=ρ):gI.F s plain=ρ:=Eq.trans (by kernel_rfl) (mg K:)
def cz.E(n:Nat):cH:=dc gH zs [(28,cz.cn n,cz.sg),(39,jg.c,bC),(40,iO.c,iO.sg),(41,bI.c,bC),(42,gI.c,bC)] [139]
def cz.h:Hint:=.s .o (.s .o (.s .o (.s (.s .o (.b (.l [(2,.fo 1000002),(50,.no),(51,.no),(52,.no),(1000002,.pv)] .o))) .o)))
def cz.F(n:Nat)(v:Val)(name:bD)(path:List Int):OT:=cq PG (cz.E n) 28 cz.sg cz.h [.ag v.cells,.s name,.sl .is path]
def cz.l1(n:Nat)(x0:List bJ)(x1 x2:Int)(x3:List Int):OT:=cM PG (cz.E n) 28 cz.sg cz.h 87 [.pt,.sl .fl x0,.i .i64 x1,.i .i64 x2,.sl .is x3]
theorem cz.bM(n:Nat)(x0:List bJ)(x1 x2:Int)(x3:List Int)(K:∀v1,v1=List.getD x0 x2.toNat (fF.fS .fl)->∀v2,v2=(Tree.fW (bJ.of v1.name v1.val) (x3++([x2]:List Int))).1->∀v3,v3=(Tree.fW (bJ.of v1.name v1.val) (x3++([x2]:List Int))).2->∀v4,v4=IntKind.i64.wrap (x2+1)->cond (decide (x2<x1)) (ck (bF x2 x0.length) (ck (dY (x3.length+([x2]:List Int).length) 8) (ck ((decide ((bJ.of v1.name v1.val).bL+(x3++([x2]:List Int)).length<=1099511627776))&&decide ((bJ.of v1.name v1.val).bL<n)) (cond (!decide (v3=0)) (some [.sl .is v2,.i .i64 v3,.sl .is x3]) (cz.l1 n x0 x1 v4 x3))))) (some [.sl .is ([]:List Int),.i .i64 0,.sl .is x3])=ρ):cz.l1 n x0 x1 x2 x3=ρ:=je (by kernel_rfl) (qz K:)
theorem cz.bU(n:Nat)(v:Val)(name:bD)(path:List Int)(K:∀v1,v1=Tree.fj v.text (decide (v.kind=11))->∀v2,v2=Tree.fj v.more (decide (v.kind=11))->∀v3,v3=cond (cond (!v1) true (!v2)) true (!(Tree.fj name true))->∀v4,v4=(v.kids.length:Int)->cond (decide ((Tree.name v.kind)=[])) (ck (dY path.length 8) (some [.sl .is path,.i .i64 5,.sl .is path])) (cond (!(Tree.ia v)) (ck (dY path.length 8) (some [.sl .is path,.i .i64 1,.sl .is path])) (ck (decide (v.text.length<=1099511627776)) (ck (!(!(!v1))||(!(!v1))) (ck (!(!(!v1))||(((!(!v1))&&(!(!v1)))&&(decide (v.more.length<=1099511627776)))) (ck (!(!(!v1))||(!(!v1))) (ck ((!v1)||(!(!v1))) (ck (!(!(cond (!v1) true (!v2)))||((!(cond (!v1) true (!v2)))&&(decide (name.length<=1099511627776)))) (ck (!(!(cond (!v1) true (!v2)))||(!(cond (!v1) true (!v2)))) (ck ((cond (!v1) true (!v2))||(!(cond (!v1) true (!v2)))) (cond v3 (ck (dY path.length 8) (some [.sl .is path,.i .i64 4,.sl .is path])) (cz.l1 n v.kids v4 0 path)))))))))))=ρ):cz.F n v name path=ρ:=Eq.trans (by kernel_rfl) (qz K:)
def gJ.E:cH:=dc gH zs [(28,cz.c,cz.sg)]
def gJ.F(v:Val):OT:=cq PG gJ.E 17 bR (.o) [.ag v.cells]
theorem gJ.bU(v:Val)(K:∀v1,v1=(Tree.fW (bJ.of [] v) ([]:List Int)).1->∀v2,v2=(Tree.fW (bJ.of [] v) ([]:List Int)).2->ck (decide ((bJ.of [] v).bL+([]:List Int).length<=1099511627776)) (some [.sl .is v1,.i .i64 v2])=ρ):gJ.F v=ρ:=Eq.trans (by kernel_rfl) (mg K:)
def gT.F:OT:=cq PG dI 124 bC (.o) []
theorem gT.bU(K:∀v1,v1=([1,2,3,4,5,6,7,8,9,10,11,12,13,14,15,16,17,18,19,127,255]:List Int)->some [.sl .is v1]=ρ):gT.F=ρ:=Eq.trans (by kernel_rfl) (lP K:)
def dh.E:cH:=dc gH zs [(124,gT.c,bC)]
def dh.h:Hint:=.s .o (.s .o (.s .o (.s (.s .o (.b (.l [(0,.no),(3,.fo 800000),(800000,.pv),(4,.no),(5,.no)] .o))) .o)))
def dh.F(k:Int):OT:=cq PG dh.E 90 bC dh.h [.i .i64 k]
def dh.l1(x0:Int)(x1:List bD)(x2:List Int)(x3:Int):OT:=cM PG dh.E 90 bC dh.h 87 [.i .i64 x0,.pt,.sl .ss x1,.sl .is x2,.i .i64 x3]
theorem dh.bM(x0:Int)(x1:List bD)(x2:List Int)(x3:Int)(K:∀v1,v1=List.getD x2 x3.toNat 0->∀v2,v2=List.getD x1 x3.toNat []->∀v3,v3=IntKind.i64.wrap (x3+1)->cond (decide (x3<(x2.length:Int))) (ck (bF x3 x2.length) (cond (decide (v1=x0)) (ck (bF x3 x1.length) (ck (decide (x3.toNat<x1.length)) (some [.s v2]))) (dh.l1 x0 x1 x2 v3))) (some [.s []])=ρ):dh.l1 x0 x1 x2 x3=ρ:=je (by kernel_rfl) (pn K:)
theorem dh.bU(k:Int)(K:∀v1,v1=([[100,111,117,98,108,101],[115,116,114,105,110,103],[100,111,99,117,109,101,110,116],[97,114,114,97,121],[98,105,110,97,114,121],[117,110,100,101,102,105,110,101,100],[111,98,106,101,99,116,105,100],[98,111,111,108],[100,97,116,101],[110,117,108,108],[114,101,103,101,120],[112,111,105,110,116,101,114],[99,111,100,101],[115,121,109,98,111,108],[115,99,111,112,101,100],[105,110,116,51,50],[116,105,109,101,115,116,97,109,112],[105,110,116,54,52],[100,101,99,105,109,97,108],[109,97,120,107,101,121],[109,105,110,107,101,121]]:List bD)->dh.l1 k v1 (Tree.kinds) 0=ρ):dh.F k=ρ:=Eq.trans (by kernel_rfl) (lP K:)
def bS.h:Hint:=.s .o (.j (sc [2,3,4,5,6,7,8]) (.s .o (.b (.j (sc [2,3,4,5,6,7,8,9,10]) .o (.s .o (.s .o (.s .o (.j (sc [2,3,4,5,6,7,8,9,19]) .o (.s .o (.s .o (.s .o (.s .o (.s .o (.s .o (.s .o (.s .o (.s .o (.j (sc [2,3,4,5,6,7,8,9,31]) .o .o))))))))))))))))) .o)
def bS.F(k:Int):OT:=cq PG dI 91 bS.sg bS.h [.i .i64 k]
def bS.j1(x0 x1 x2 x3 x4 x5 x6:Bool)(x7:Int)(x8:Bool):OT:=di PG dI 91 bS.sg bS.h 21 [.b x0,.b x1,.b x2,.b x3,.b x4,.b x5,.b x6,.i .i64 x7,.b x8]
def bS.j2(x0 x1 x2 x3 x4 x5 x6:Bool):OT:=di PG dI 91 bS.sg bS.h 3 [.b x0,.b x1,.b x2,.b x3,.b x4,.b x5,.b x6]
def bS.j3(x0 x1 x2 x3 x4 x5 x6:Bool)(x7:Int)(x8:Bool):OT:=di PG dI 91 bS.sg bS.h 501 [.b x0,.b x1,.b x2,.b x3,.b x4,.b x5,.b x6,.i .i64 x7,.b x8]
def bS.j4(x0 x1 x2 x3 x4 x5 x6:Bool)(x7:Int)(x8:Bool):OT:=di PG dI 91 bS.sg bS.h 524277 [.b x0,.b x1,.b x2,.b x3,.b x4,.b x5,.b x6,.i .i64 x7,.b x8]
theorem bS.mF(x0 x1 x2 x3 x4 x5 x6:Bool)(x7:Int)(x8:Bool):bS.j1 x0 x1 x2 x3 x4 x5 x6 x7 x8=cond x8 (bS.j2 true x1 x2 x3 x4 x5 x6) (cond (decide (x7=19)) (bS.j2 x0 true x2 x3 x4 x5 x6) (cond (decide (x7=2)) (bS.j3 x0 x1 x2 x3 x4 x5 x6 x7 (decide (x7=2))) (cond (decide (x7=13)) (bS.j3 x0 x1 x2 x3 x4 x5 x6 x7 (decide (x7=13))) (bS.j3 x0 x1 x2 x3 x4 x5 x6 x7 (decide (x7=14)))))):=ly (by kernel_rfl) rfl
theorem bS.kn(x0 x1 x2 x3 x4 x5 x6:Bool):bS.j2 x0 x1 x2 x3 x4 x5 x6=some [.b x0,.b x1,.b x2,.b x3,.b x4,.b x5,.b x6]:=ly (by kernel_rfl) rfl
theorem bS.CQ(x0 x1 x2 x3 x4 x5 x6:Bool)(x7:Int)(x8:Bool):bS.j3 x0 x1 x2 x3 x4 x5 x6 x7 x8=cond x8 (bS.j2 x0 x1 true x3 x4 x5 x6) (cond (decide (x7=11)) (bS.j2 x0 x1 true true x4 x5 x6) (cond (decide (x7=5)) (bS.j2 x0 x1 x2 x3 true true x6) (cond (decide (x7=7)) (bS.j2 x0 x1 x2 x3 x4 true x6) (cond (decide (x7=12)) (bS.j2 x0 x1 true x3 x4 true x6) (cond (decide (x7=3)) (bS.j4 x0 x1 x2 x3 x4 x5 x6 x7 (decide (x7=3))) (bS.j4 x0 x1 x2 x3 x4 x5 x6 x7 (decide (x7=4)))))))):=ly (by kernel_rfl) rfl
theorem bS.sD(x0 x1 x2 x3 x4 x5 x6:Bool)(x7:Int)(x8:Bool):bS.j4 x0 x1 x2 x3 x4 x5 x6 x7 x8=cond x8 (bS.j2 x0 x1 x2 x3 x4 x5 true) (cond (decide (x7=15)) (bS.j2 x0 x1 true x3 x4 x5 true) (bS.j2 x0 x1 x2 x3 x4 x5 x6)):=ly (by kernel_rfl) rfl
theorem bS.de(k:Int):bS.F k=cond (decide (k=1)) (bS.j1 false false false false false false false k (decide (k=1))) (cond (decide (k=9)) (bS.j1 false false false false false false false k (decide (k=9))) (cond (decide (k=17)) (bS.j1 false false false false false false false k (decide (k=17))) (cond (decide (k=18)) (bS.j1 false false false false false false false k (decide (k=18))) (cond (decide (k=16)) (bS.j1 false false false false false false false k (decide (k=16))) (bS.j1 false false false false false false false k (decide (k=8))))))):=by kernel_rfl
def iB.E:cH:=dc gH zs [(70,fk.c,bC),(90,dh.c,bC),(91,bS.c,bS.sg),(92,dQ.c,bC)]
def iB.F(v:Val):OT:=cq PG iB.E 51 bC (.o) [.ag v.cells]
theorem iB.bU(v:Val)(K:∀v1,v1=!(Tree.kI 0 v.kind)->∀v2,v2=cond v1 (!decide (v.bits=0)) false->∀v3,v3=!(Tree.kI 1 v.kind)->∀v4,v4=(((!v2)&&v3)&&(!(!decide (v.high=0))))->∀v5,v5=cond (!decide (v.high=0)) true (!decide (v.low=0))->∀v6,v6=cond v2 true (cond v3 v5 false)->∀v7,v7=!(Tree.kI 2 v.kind)->∀v8,v8=cond v7 (!decide (v.text=[])) false->∀v9,v9=!(Tree.kI 3 v.kind)->∀v10,v10=cond v9 (!decide (v.more=[])) false->∀v11,v11=cond (cond v6 true v8) true v10->∀v12,v12=!(Tree.kI 4 v.kind)->∀kx,kx=cond v12 (!decide (v.sub=0)) false->∀kg,kg=!(Tree.kI 5 v.kind)->∀kf,kf=((!(cond v11 true kx))&&kg)->∀oD,oD=(v.bytes.length:Int)->∀uF,uF=cond kg (decide (0<oD)) false->∀o9,o9=cond (cond v11 true kx) true uF->∀sI,sI=!(Tree.kI 6 v.kind)->∀v20,v20=(v.kids.length:Int)->∀v21,v21=cond sI (decide (0<v20)) false->∀v22,v22=cond (decide (v.kind=16)) (decide (4294967296<=v.bits)) false->∀IF,IF=((!v22)&&(decide (v.kind=8)))->∀v24,v24=cond (decide (v.kind=8)) (decide (1<v.bits)) false->∀v25,v25=cond (cond v22 true v24) true (decide (v.sub<0))->∀sv,sv=cond v25 true (decide (255<v.sub))->∀v27,v27=((!sv)&&(!(decide (v.kind=7))))->∀v28,v28=cond (decide (v.kind=7)) true (decide (v.kind=12))->∀L9,L9=cond v28 (!decide (oD=12)) false->∀v30,v30=!(dy.whole v.text)->∀v31,v31=!(dy.whole v.more)->∀Ir,Ir=((!(cond v30 true v31))&&(decide (v.kind=11)))->∀v33,v33=(Ir&&(!(dy.zero v.text)))->∀Wh,Wh=cond (dy.zero v.text) true (dy.zero v.more)->∀v35,v35=cond (decide (v.kind=11)) Wh false->∀v36,v36=cond (cond v30 true v31) true v35->cond (decide ((Tree.name v.kind)=[])) (some [.i .i64 5]) (ck (!v1||v1) (ck (!v1||v1) (ck (!v1||v1) (ck (!(!v2)||(!v2)) (ck (!(!v2)||(!v2)) (ck (!((!v2)&&v3)||((!v2)&&v3)) (ck (!((!v2)&&v3)||((!v2)&&v3)) (ck (!((!v2)&&v3)||((!v2)&&v3)) (ck (!v4||v4) (ck (!v4||v4) (ck (!((!v2)&&v3)||(((!v2)&&v3)&&((!decide (v.high=0))||v4))) (ck (!(!v2)||((!v2)&&(!v3||((!v2)&&v3)))) (ck (v2||(!v2)) (ck (!(!v6)||(!v6)) (ck (!(!v6)||(!v6)) (ck (!((!v6)&&v7)||((!v6)&&v7)) (ck (!((!v6)&&v7)||((!v6)&&v7)) (ck (!(!v6)||((!v6)&&(!v7||((!v6)&&v7)))) (ck (v6||(!v6)) (ck (!(!(cond v6 true v8))||(!(cond v6 true v8))) (ck (!(!(cond v6 true v8))||(!(cond v6 true v8))) (ck (!((!(cond v6 true v8))&&v9)||((!(cond v6 true v8))&&v9)) (ck (!((!(cond v6 true v8))&&v9)||((!(cond v6 true v8))&&v9)) (ck (!(!(cond v6 true v8))||((!(cond v6 true v8))&&(!v9||((!(cond v6 true v8))&&v9)))) (ck ((cond v6 true v8)||(!(cond v6 true v8))) (ck (!(!v11)||(!v11)) (ck (!(!v11)||(!v11)) (ck (!((!v11)&&v12)||((!v11)&&v12)) (ck (!((!v11)&&v12)||((!v11)&&v12)) (ck (!(!v11)||((!v11)&&(!v12||((!v11)&&v12)))) (ck (v11||(!v11)) (ck (!(!(cond v11 true kx))||(!(cond v11 true kx))) (ck (!(!(cond v11 true kx))||(!(cond v11 true kx))) (ck (!kf||kf) (ck (!kf||kf) (ck (!kf||kf) (ck (!(!(cond v11 true kx))||((!(cond v11 true kx))&&(!kg||kf))) (ck ((cond v11 true kx)||(!(cond v11 true kx))) (ck (!(!o9)||(!o9)) (ck (!(!o9)||(!o9)) (ck (!((!o9)&&sI)||((!o9)&&sI)) (ck (!((!o9)&&sI)||((!o9)&&sI)) (ck (!((!o9)&&sI)||((!o9)&&sI)) (ck (!(!o9)||((!o9)&&(!sI||((!o9)&&sI)))) (ck (o9||(!o9)) (cond (cond o9 true v21) (some [.i .i64 1]) (ck (!(decide (v.kind=16))||(decide (v.kind=16))) (ck (!(decide (v.kind=16))||(decide (v.kind=16))) (ck (!(decide (v.kind=16))||(decide (v.kind=16))) (ck (!(!v22)||(!v22)) (ck (!(!v22)||(!v22)) (ck (!(!v22)||(!v22)) (ck (!IF||IF) (ck (!IF||IF) (ck (!(!v22)||((!v22)&&(!(decide (v.kind=8))||IF))) (ck (v22||(!v22)) (ck (!(!(cond v22 true v24))||(!(cond v22 true v24))) (ck (!(!(cond v22 true v24))||(!(cond v22 true v24))) (ck ((cond v22 true v24)||(!(cond v22 true v24))) (ck (!(!v25)||(!v25)) (ck (!(!v25)||(!v25)) (ck (v25||(!v25)) (ck (!(!sv)||(!sv)) (ck (!(!sv)||(!sv)) (ck (!(!sv)||(!sv)) (ck (!v27||v27) (ck (!v27||v27) (ck (!(!sv)||((!sv)&&((decide (v.kind=7))||v27))) (ck (!(!sv)||(!sv)) (ck (!((!sv)&&v28)||((!sv)&&v28)) (ck (!((!sv)&&v28)||((!sv)&&v28)) (ck (!((!sv)&&v28)||((!sv)&&v28)) (ck (!(!sv)||((!sv)&&(!v28||((!sv)&&v28)))) (ck (sv||(!sv)) (cond (cond sv true L9) (some [.i .i64 1]) (ck (decide (v.text.length<=1099511627776)) (ck (!(!v30)||(!v30)) (ck (!(!v30)||((!v30)&&(decide (v.more.length<=1099511627776)))) (ck (!(!v30)||(!v30)) (ck (v30||(!v30)) (ck (!(!(cond v30 true v31))||(!(cond v30 true v31))) (ck (!(!(cond v30 true v31))||(!(cond v30 true v31))) (ck (!(!(cond v30 true v31))||(!(cond v30 true v31))) (ck (!Ir||Ir) (ck (!Ir||(Ir&&(decide (v.text.length<=1099511627776)))) (ck (!Ir||Ir) (ck (!v33||v33) (ck (!v33||(v33&&(decide (v.more.length<=1099511627776)))) (ck (!Ir||(Ir&&((dy.zero v.text)||v33))) (ck (!(!(cond v30 true v31))||((!(cond v30 true v31))&&(!(decide (v.kind=11))||Ir))) (ck ((cond v30 true v31)||(!(cond v30 true v31))) (cond v36 (some [.i .i64 4]) (some [.i .i64 0])))))))))))))))))))))))))))))))))))))))))))))))))))))))))))))))))))))))))))))))))))))))))))))=ρ):iB.F v=ρ:=Eq.trans (by kernel_rfl) (gQ (lP (gQ (gQ (gQ (gQ (gQ (gQ K:):):):):):):):)
def gh.E:cH:=dc gH zs [(70,fk.c,bC),(92,dQ.c,bC)]
def gh.F(s:bD):OT:=cq PG gh.E 52 bC (.o) [.s s]
theorem gh.bU(s:bD)(K:∀v1,v1=cond (dy.whole s) (!(dy.zero s)) false->ck (decide (s.length<=1099511627776)) (ck (!(dy.whole s)||((dy.whole s)&&(decide (s.length<=1099511627776)))) (ck (!(dy.whole s)||(dy.whole s)) (ck (!(dy.whole s)||(dy.whole s)) (some [.b v1]))))=ρ):gh.F s=ρ:=Eq.trans (by kernel_rfl) (lP K:)
def gz.F(p:List Int)(k:Int):OT:=cq PG dI 53 bC (.o) [.sl .is p,.i .i64 k]
theorem gz.bU(p:List Int)(k:Int)(K:∀v1,v1=(([]:List Int)++p)++([k]:List Int)->ck (dY (([]:List Int).length+p.length) 8) (ck (dY ((([]:List Int)++p).length+([k]:List Int).length) 8) (some [.sl .is v1]))=ρ):gz.F p k=ρ:=Eq.trans (by kernel_rfl) (lP K:)
def bX.E(n:Nat):cH:=dc gH zs [(30,bX.cn n,bR),(51,iB.c,bC),(52,gh.c,bC),(53,gz.c,bC)]
def bX.h:Hint:=.s .o (.s .o (.j [(2,.no),(3,.ptr 58 0),(8,.no),(58,.cl [])] .o (.s .o (.s (.s .o (.b (.l [(2,.no),(3,.ptr 58 0),(9,.no),(58,.cl [])] .o))) .o))))
def bX.F(n:Nat)(v:Val)(name:bD)(p:List Int):OT:=cq PG (bX.E n) 30 bR bX.h [.ag v.cells,.s name,.sl .is p]
def bX.j1(n:Nat)(x0:List Int)(x1:Int)(x2:Val):OT:=di PG (bX.E n) 30 bR bX.h 7 [.sl .is x0,.pt,.i .i64 x1,.ag x2.cells]
def bX.l2(n:Nat)(x0:List Int)(x1:Int)(x2:Val):OT:=cM PG (bX.E n) 30 bR bX.h 175 [.sl .is x0,.pt,.i .i64 x1,.ag x2.cells]
theorem bX.mF(n:Nat)(x0:List Int)(x1:Int)(x2:Val):bX.j1 n x0 x1 x2=cond (!decide (x1=0)) (some [.sl .is x0,.i .i64 x1]) (bX.l2 n x0 0 x2):=ly (by kernel_rfl) rfl
theorem bX.gU(n:Nat)(x0:List Int)(x1:Int)(x2:Val)(K:∀v1,v1=(x2.kids.length:Int)->∀v2,v2=List.getD x2.kids x1.toNat (fF.fS .fl)->∀v3,v3=(Tree.fW (bJ.of v2.name v2.val) (x0++[x1])).1->∀v4,v4=(Tree.fW (bJ.of v2.name v2.val) (x0++[x1])).2->∀v5,v5=IntKind.i64.wrap (x1+1)->cond (decide (x1<v1)) (ck (bF x1 x2.kids.length) (ck (bF x1 x2.kids.length) (ck (decide (x0.length<=1099511627776)) (ck ((decide ((bJ.of v2.name v2.val).bL+(x0++[x1]).length<=1099511627776))&&decide ((bJ.of v2.name v2.val).bL<n)) (cond (!decide (v4=0)) (some [.sl .is v3,.i .i64 v4]) (bX.l2 n x0 v5 x2)))))) (some [.sl .is ([]:List Int),.i .i64 0])=ρ):bX.l2 n x0 x1 x2=ρ:=je (by kernel_rfl) (gQ K:)
theorem bX.bU(n:Nat)(v:Val)(name:bD)(p:List Int)(K:∀v1,v1=cond (decide ((Tree.own v)=0)) (!(Tree.fj name true)) false->ck (decide ((bJ.of [] v).bL<=1099511627776)) (ck (!(decide ((Tree.own v)=0))||((decide ((Tree.own v)=0))&&(decide (name.length<=1099511627776)))) (ck (!(decide ((Tree.own v)=0))||(decide ((Tree.own v)=0))) (ck (!(decide ((Tree.own v)=0))||(decide ((Tree.own v)=0))) (cond v1 (bX.j1 n p 4 v) (bX.j1 n p (Tree.own v) v)))))=ρ):bX.F n v name p=ρ:=Eq.trans (by kernel_rfl) (lP K:)
def gi.E:cH:=dc gH zs [(30,bX.c,bR)]
def gi.F(v:Val):OT:=cq PG gi.E 19 bR (.o) [.ag v.cells]
theorem gi.bU(v:Val)(K:∀v1,v1=(Tree.fW (bJ.of [] v) ([]:List Int)).1->∀v2,v2=(Tree.fW (bJ.of [] v) ([]:List Int)).2->ck (decide ((bJ.of [] v).bL+([]:List Int).length<=1099511627776)) (some [.sl .is v1,.i .i64 v2])=ρ):gi.F v=ρ:=Eq.trans (by kernel_rfl) (mg K:)
def cK.h:Hint:=.s .o (.s .o (.s (.s .o (.b (.l (sc [0,1,5]) .o))) .o))
def cK.F(a b:List Int):OT:=cq PG dI 23 bC cK.h [.sl .is a,.sl .is b]
def cK.l1(x0 x1:List Int)(x2:Int):OT:=cM PG dI 23 bC cK.h 43 [.sl .is x0,.sl .is x1,.i .i64 x2]
theorem cK.bM(x0 x1:List Int)(x2:Int)(K:∀v1,v1=List.getD x0 x2.toNat 0->∀v2,v2=List.getD x1 x2.toNat 0->∀v3,v3=IntKind.i64.wrap (x2+1)->cond (decide (x2<(x0.length:Int))) (ck (bF x2 x0.length) (ck (bF x2 x1.length) (cond (!decide (v1=v2)) (some [.b false]) (cK.l1 x0 x1 v3)))) (some [.b true])=ρ):cK.l1 x0 x1 x2=ρ:=je (by kernel_rfl) (pn K:)
theorem cK.de(a b:List Int):cK.F a b=cond (!decide ((a.length:Int)=(b.length:Int))) (some [.b false]) (cK.l1 a b 0):=by kernel_rfl
end Go.Eng
namespace Go.Eng
open Go.Proofs
variable{ρ:OT}
def eG.h:Hint:=.s .o (.s (.s .o (.b (.l (sc [0,1,5]) .o))) .o)
def eG.F(left:Int)(kM:List Int):OT:=cq PG dI 27 bC eG.h [.i .i64 left,.sl .is kM]
def eG.l1(x0:Int)(x1:List Int)(x2:Int):OT:=cM PG dI 27 bC eG.h 21 [.i .i64 x0,.sl .is x1,.i .i64 x2]
theorem eG.bM(x0:Int)(x1:List Int)(x2:Int)(K:∀v1,v1=List.getD x1 x2.toNat 0->∀v2,v2=cond (decide (x0<0)) true (decide (x0<v1))->∀v3,v3=IntKind.i64.wrap (x2+1)->cond (decide (x2<(x1.length:Int))) (ck (!(!(decide (x0<0)))||(((!(decide (x0<0)))&&(!(decide (x0<0))))&&(bF x2 x1.length))) (ck (!(!(decide (x0<0)))||(!(decide (x0<0)))) (ck (!(!(decide (x0<0)))||((!(decide (x0<0)))&&(!(decide (x0<0))))) (ck ((decide (x0<0))||(!(decide (x0<0)))) (cond v2 (some [.i .i64 (-1)]) (ck (bF x2 x1.length) (eG.l1 (IntKind.i64.wrap (x0 -v1)) x1 v3))))))) (some [.i .i64 x0])=ρ):eG.l1 x0 x1 x2=ρ:=je (by kernel_rfl) (pn K:)
theorem eG.de(left:Int)(kM:List Int):eG.F left kM=eG.l1 left kM 0:=by kernel_rfl
def cO.E(n:Nat):cH:=dc gH zs [(16,cO.cn n,bC),(27,eG.c,bC)]
def cO.h:Hint:=.s .o (.s .o (.s (.s .o (.b (.l [(0,.no),(3,.ptr 50 0),(5,.no),(50,.cl [])] .o))) .o))
def cO.F(n:Nat)(left:Int)(v:Val):OT:=cq PG (cO.E n) 16 bC cO.h [.i .i64 left,.ag v.cells]
def cO.l1(n:Nat)(x0 x1:Int)(x2:Val):OT:=cM PG (cO.E n) 16 bC cO.h 43 [.i .i64 x0,.pt,.i .i64 x1,.ag x2.cells]
theorem cO.bM(n:Nat)(x0 x1:Int)(x2:Val)(K:∀v1,v1=(x2.kids.length:Int)->∀v2,v2=cond (decide (x1<v1)) (decide (0<=x0)) false->∀v3,v3=List.getD x2.kids x1.toNat (fF.fS .fl)->∀v4,v4=(v3.name.length:Int)->∀v5,v5=fZ.room x0 ([v4]:List Int)->∀v6,v6=fZ.value v5 (bJ.of [] v3.val)->∀v7,v7=IntKind.i64.wrap (x1+1)->ck (!(decide (x1<v1))||(decide (x1<v1))) (ck (!(decide (x1<v1))||(decide (x1<v1))) (cond v2 (ck (bF x1 x2.kids.length) (ck (decide (x0<=1200/\([v4]:List Int).length<=10)&&([v4]:List Int).all (λs=>decide (0<=s))) (ck (bF x1 x2.kids.length) (ck ((decide (v5<=1200))&&decide ((bJ.of [] v3.val).bL<n)) (cO.l1 n v6 v7 x2))))) (some [.i .i64 x0])))=ρ):cO.l1 n x0 x1 x2=ρ:=je (by kernel_rfl) (gQ (mg K:):)
theorem cO.bU(n:Nat)(left:Int)(v:Val)(K:∀v1,v1=(v.text.length:Int)->∀v2,v2=(v.more.length:Int)->∀v3,v3=(v.bytes.length:Int)->∀v4,v4=([2,v1,v2,v3]:List Int)->ck (decide (left<=1200/\v4.length<=10)&&v4.all (λs=>decide (0<=s))) (cO.l1 n (fZ.room left v4) 0 v)=ρ):cO.F n left v=ρ:=Eq.trans (by kernel_rfl) (qz K:)
def gO.E:cH:=dc gH zs [(16,cO.c,bC)]
def gO.F(v:Val):OT:=cq PG gO.E 6 bC (.o) [.ag v.cells]
theorem gO.bU(v:Val)(K:∀v1,v1=fZ.value (1200:Int) (bJ.of [] v)->ck (decide ((1200:Int)<=1200)) (some [.b (decide ((0:Int)<=v1))])=ρ):gO.F v=ρ:=Eq.trans (by kernel_rfl) (lP K:)
def dr.h:Hint:=.s .o (.s .o (.s (.b (.l (sc [0,3]) .o)) .o))
def dr.F(v:UInt64):OT:=cq PG dI 64 bC dr.h [.u64 v]
def dr.l1(x0:UInt64)(x1:bD):OT:=cM PG dI 64 bC dr.h 19 [.u64 x0,.s x1]
theorem dr.bM(x0:UInt64)(x1:bD)(K:∀v1,v1=(48:UInt64)+(x0%(10:UInt64))->∀v2,v2=UInt8.ofInt (v1.toNat:Int)->∀v3,v3=UInt8.ofInt (((48:UInt64)+x0).toNat:Int)->cond (decide ((9:UInt64)<x0)) (ck (!decide ((10:UInt64)=0)) (ck (decide (([v2]:List UInt8).length+x1.length<=9223372036854775807)) (ck (!decide ((10:UInt64)=0)) (dr.l1 (x0/(10:UInt64)) (([v2]:List UInt8)++x1))))) (ck (decide (([v3]:List UInt8).length+x1.length<=9223372036854775807)) (some [.s (([v3]:List UInt8)++x1)]))=ρ):dr.l1 x0 x1=ρ:=je (by kernel_rfl) (pn K:)
theorem dr.de(v:UInt64):dr.F v=dr.l1 v []:=by kernel_rfl
def cI.E:cH:=dc gH zs [(83,og.c,bC)]
def cI.h:Hint:=.s .o (.s (.s .o (.b (.l (sc [5,6,7]) .o))) .o)
def cI.F(l:List bJ):OT:=cq PG cI.E 45 bC cI.h [.sl .fl l]
def cI.l1(x0:List bJ)(x1 x2:Int):OT:=cM PG cI.E 45 bC cI.h 21 [.sl .fl x0,.i .i64 x1,.i .i64 x2]
theorem cI.bM(x0:List bJ)(x1 x2:Int)(K:∀v1,v1=List.getD x0 x2.toNat (fF.fS .fl)->∀v2,v2=IntKind.i64.wrap (x2+1)->cond (decide (x2<x1)) (ck (bF x2 x0.length) (ck (Nr.i64 x2) (cond (!decide (v1.name=(Nr.itoa x2))) (some [.b false]) (cI.l1 x0 x1 v2)))) (some [.b true])=ρ):cI.l1 x0 x1 x2=ρ:=je (by kernel_rfl) (mg K:)
theorem cI.de(l:List bJ):cI.F l=cI.l1 l (l.length:Int) 0:=by kernel_rfl
def cC.E:cH:=dc gH zs [(64,dr.c,bC)]
def cC.h:Hint:=.s .o (.s (.s .o (.b (.l (sc [0,3]) .o))) .o)
def cC.F(l:List bJ):OT:=cq PG cC.E 60 bC cC.h [.sl .fl l]
def cC.l1(x0:List bJ)(x1:Int):OT:=cM PG cC.E 60 bC cC.h 21 [.sl .fl x0,.i .i64 x1]
theorem cC.bM(x0:List bJ)(x1:Int)(K:∀v1,v1=List.getD x0 x1.toNat (fF.fS .fl)->∀v2,v2=Nr.dec (UInt64.ofInt x1).toNat->∀v3,v3=IntKind.i64.wrap (x1+1)->cond (decide (x1<(x0.length:Int))) (ck (bF x1 x0.length) (cond (!decide (v1.name=v2)) (some [.b false]) (cC.l1 x0 v3))) (some [.b true])=ρ):cC.l1 x0 x1=ρ:=je (by kernel_rfl) (pn K:)
theorem cC.de(l:List bJ):cC.F l=cC.l1 l 0:=by kernel_rfl
def dq.h:Hint:=.s .o (.j (sc [0,2]) .o .o)
def dq.F(x:UInt16):OT:=cq PG dI 179 bC dq.h [.u16 x]
def dq.j1(x0:UInt16)(x1:Int):OT:=di PG dI 179 bC dq.h 3 [.u16 x0,.i .i64 x1]
theorem dq.gM(x0:UInt16)(x1:Int)(K:∀v1,v1=UInt8.ofInt (x0.toNat:Int)->∀v2,v2=List.getD ([0,1,2,2,3,3,3,3,4,4,4,4,4,4,4,4,5,5,5,5,5,5,5,5,5,5,5,5,5,5,5,5,6,6,6,6,6,6,6,6,6,6,6,6,6,6,6,6,6,6,6,6,6,6,6,6,6,6,6,6,6,6,6,6,7,7,7,7,7,7,7,7,7,7,7,7,7,7,7,7,7,7,7,7,7,7,7,7,7,7,7,7,7,7,7,7,7,7,7,7,7,7,7,7,7,7,7,7,7,7,7,7,7,7,7,7,7,7,7,7,7,7,7,7,7,7,7,7,8,8,8,8,8,8,8,8,8,8,8,8,8,8,8,8,8,8,8,8,8,8,8,8,8,8,8,8,8,8,8,8,8,8,8,8,8,8,8,8,8,8,8,8,8,8,8,8,8,8,8,8,8,8,8,8,8,8,8,8,8,8,8,8,8,8,8,8,8,8,8,8,8,8,8,8,8,8,8,8,8,8,8,8,8,8,8,8,8,8,8,8,8,8,8,8,8,8,8,8,8,8,8,8,8,8,8,8,8,8,8,8,8,8,8,8,8,8,8,8,8,8,8,8,8,8,8,8]:bD) (v1.toNat:Int).toNat 0->∀v3,v3=IntKind.i64.wrap (v2.toNat:Int)->ck (bF (v1.toNat:Int) ([0,1,2,2,3,3,3,3,4,4,4,4,4,4,4,4,5,5,5,5,5,5,5,5,5,5,5,5,5,5,5,5,6,6,6,6,6,6,6,6,6,6,6,6,6,6,6,6,6,6,6,6,6,6,6,6,6,6,6,6,6,6,6,6,7,7,7,7,7,7,7,7,7,7,7,7,7,7,7,7,7,7,7,7,7,7,7,7,7,7,7,7,7,7,7,7,7,7,7,7,7,7,7,7,7,7,7,7,7,7,7,7,7,7,7,7,7,7,7,7,7,7,7,7,7,7,7,7,8,8,8,8,8,8,8,8,8,8,8,8,8,8,8,8,8,8,8,8,8,8,8,8,8,8,8,8,8,8,8,8,8,8,8,8,8,8,8,8,8,8,8,8,8,8,8,8,8,8,8,8,8,8,8,8,8,8,8,8,8,8,8,8,8,8,8,8,8,8,8,8,8,8,8,8,8,8,8,8,8,8,8,8,8,8,8,8,8,8,8,8,8,8,8,8,8,8,8,8,8,8,8,8,8,8,8,8,8,8,8,8,8,8,8,8,8,8,8,8,8,8,8,8,8,8,8,8]:bD).length) (some [.i .i64 (IntKind.i64.wrap (x1+v3))])=ρ):dq.j1 x0 x1=ρ:=ly (by kernel_rfl) (pn K:)
theorem dq.bU(x:UInt16)(K:∀v1,v1=tp x (8:UInt64).toNat->cond (decide (256<=x)) (dq.j1 v1 8) (dq.j1 x 0)=ρ):dq.F x=ρ:=Eq.trans (by kernel_rfl) (lP K:)
def bits_Len64.h:Hint:=.s .o (.j (sc [0,2]) .o (.j (sc [0,2]) .o (.j (sc [0,2]) .o .o)))
def bits_Len64.F(x:UInt64):OT:=cq PG dI 205 bC bits_Len64.h [.u64 x]
def bits_Len64.j1(x0:UInt64)(x1:Int):OT:=di PG dI 205 bC bits_Len64.h 3 [.u64 x0,.i .i64 x1]
def bits_Len64.j2(x0:UInt64)(x1:Int):OT:=di PG dI 205 bC bits_Len64.h 7 [.u64 x0,.i .i64 x1]
def bits_Len64.j3(x0:UInt64)(x1:Int):OT:=di PG dI 205 bC bits_Len64.h 15 [.u64 x0,.i .i64 x1]
theorem bits_Len64.gM(x0:UInt64)(x1:Int)(K:∀v1,v1=cE x0 (16:UInt64).toNat->∀v2,v2=IntKind.i64.wrap (x1+16)->cond (decide (65536<=x0)) (bits_Len64.j2 v1 v2) (bits_Len64.j2 x0 x1)=ρ):bits_Len64.j1 x0 x1=ρ:=ly (by kernel_rfl) (mg K:)
theorem bits_Len64.ik(x0:UInt64)(x1:Int)(K:∀v1,v1=cE x0 (8:UInt64).toNat->∀v2,v2=IntKind.i64.wrap (x1+8)->cond (decide (256<=x0)) (bits_Len64.j3 v1 v2) (bits_Len64.j3 x0 x1)=ρ):bits_Len64.j2 x0 x1=ρ:=ly (by kernel_rfl) (mg K:)
theorem bits_Len64.nZ(x0:UInt64)(x1:Int)(K:∀v1,v1=UInt8.ofInt (x0.toNat:Int)->∀v2,v2=List.getD ([0,1,2,2,3,3,3,3,4,4,4,4,4,4,4,4,5,5,5,5,5,5,5,5,5,5,5,5,5,5,5,5,6,6,6,6,6,6,6,6,6,6,6,6,6,6,6,6,6,6,6,6,6,6,6,6,6,6,6,6,6,6,6,6,7,7,7,7,7,7,7,7,7,7,7,7,7,7,7,7,7,7,7,7,7,7,7,7,7,7,7,7,7,7,7,7,7,7,7,7,7,7,7,7,7,7,7,7,7,7,7,7,7,7,7,7,7,7,7,7,7,7,7,7,7,7,7,7,8,8,8,8,8,8,8,8,8,8,8,8,8,8,8,8,8,8,8,8,8,8,8,8,8,8,8,8,8,8,8,8,8,8,8,8,8,8,8,8,8,8,8,8,8,8,8,8,8,8,8,8,8,8,8,8,8,8,8,8,8,8,8,8,8,8,8,8,8,8,8,8,8,8,8,8,8,8,8,8,8,8,8,8,8,8,8,8,8,8,8,8,8,8,8,8,8,8,8,8,8,8,8,8,8,8,8,8,8,8,8,8,8,8,8,8,8,8,8,8,8,8,8,8,8,8,8,8]:bD) (v1.toNat:Int).toNat 0->∀v3,v3=IntKind.i64.wrap (v2.toNat:Int)->ck (bF (v1.toNat:Int) ([0,1,2,2,3,3,3,3,4,4,4,4,4,4,4,4,5,5,5,5,5,5,5,5,5,5,5,5,5,5,5,5,6,6,6,6,6,6,6,6,6,6,6,6,6,6,6,6,6,6,6,6,6,6,6,6,6,6,6,6,6,6,6,6,7,7,7,7,7,7,7,7,7,7,7,7,7,7,7,7,7,7,7,7,7,7,7,7,7,7,7,7,7,7,7,7,7,7,7,7,7,7,7,7,7,7,7,7,7,7,7,7,7,7,7,7,7,7,7,7,7,7,7,7,7,7,7,7,8,8,8,8,8,8,8,8,8,8,8,8,8,8,8,8,8,8,8,8,8,8,8,8,8,8,8,8,8,8,8,8,8,8,8,8,8,8,8,8,8,8,8,8,8,8,8,8,8,8,8,8,8,8,8,8,8,8,8,8,8,8,8,8,8,8,8,8,8,8,8,8,8,8,8,8,8,8,8,8,8,8,8,8,8,8,8,8,8,8,8,8,8,8,8,8,8,8,8,8,8,8,8,8,8,8,8,8,8,8,8,8,8,8,8,8,8,8,8,8,8,8,8,8,8,8,8,8]:bD).length) (some [.i .i64 (IntKind.i64.wrap (x1+v3))])=ρ):bits_Len64.j3 x0 x1=ρ:=ly (by kernel_rfl) (pn K:)
theorem bits_Len64.bU(x:UInt64)(K:∀v1,v1=cE x (32:UInt64).toNat->cond (decide (4294967296<=x)) (bits_Len64.j1 v1 32) (bits_Len64.j1 x 0)=ρ):bits_Len64.F x=ρ:=Eq.trans (by kernel_rfl) (lP K:)
def jE.F(a:List UInt16):OT:=cq PG dI 213 pf (.o) [.sl .ws a]
theorem jE.de(a:List UInt16):jE.F a=cond (List.isEmpty a) (both (some [.sl .ws ([]:List UInt16)]) (ck (dY (([]:List UInt16).length+a.length) 2) (some [.sl .ws (([]:List UInt16)++a)]))) (ck (dY (([]:List UInt16).length+a.length) 2) (some [.sl .ws (([]:List UInt16)++a)])):=by kernel_rfl
def ic.F(x:Nat):OT:=cq PG dI 268 bC (.o) [.c (.float .f64 x)]
theorem ic.de(x:Nat):ic.F x=cond true (ck (Fl.num x) (some [.c (.float .f64 (Fl.nn x))])) none:=by kernel_rfl
def jA.E:cH:=dc gH zs [(264,mG.c,bC)]
def jA.F(z:Cx):OT:=cq PG jA.E 261 bC (.o) [.c (.complex .f64 z.1 z.2)]
theorem jA.de(z:Cx):jA.F z=ck (Gz.Qi z (4719772409484279808:Nat)) (some [.b true]):=by kernel_rfl
def qE.F(x y:Int):OT:=cq PG dI 259 bC (.o) [.i .i64 x,.i .i64 y]
theorem qE.bU(x:Int)(y:Int)(K:∀(v1:Bool)(h1:v1=(cond (decide (x<(-33554432:Int))) true (decide ((33554432:Int)<x))))(v2:Bool)(h2:v2=(cond v1 true (decide (y<(-33554432:Int)))))(v3:Bool)(h3:v3=(cond v2 true (decide ((33554432:Int)<y))))(v4:Cx)(h4:v4=(((Fl.ofInt x),(Fl.ofInt y)):Cx)),ck (!(!(decide (x<(-33554432:Int))))||(!(decide (x<(-33554432:Int))))) (ck ((decide (x<(-33554432:Int)))||(!(decide (x<(-33554432:Int))))) (ck (!(!v1)||(!v1)) (ck (v1||(!v1)) (ck (!(!v2)||(!v2)) (ck (v2||(!v2)) (cond v3 (some [(.c (.complex .f64 ((0,0):Cx).1 ((0,0):Cx).2))]) (some [(.c (.complex .f64 v4.1 v4.2))])))))))=ρ):qE.F x y=ρ:=Eq.trans (by kernel_rfl) (K _ rfl _ rfl _ rfl _ rfl)
def iN.E:cH:=dc gH zs [(264,mG.c,bC)]
def iN.F(z:Cx):OT:=cq PG iN.E 254 gA (.o) [.c (.complex .f64 z.1 z.2)]
theorem iN.de(z:Cx):iN.F z=ck (Gz.Qi z (4841369599423283200:Nat)) (cond (!true) (some [.i .i64 0,.i .i64 0,.b false]) (ck (Fl.qm z.1) (ck (Fl.qm z.2) (some [.i .i64 (Fl.toInt z.1),.i .i64 (Fl.toInt z.2),.b true])))):=by kernel_rfl
def kS.E:cH:=dc gH zs [(264,mG.c,bC)]
def kS.F(z:Cx)(k:Int):OT:=cq PG kS.E 269 bC (.o) [.c (.complex .f64 z.1 z.2),.i .i64 k]
theorem kS.bU(z:Cx)(k:Int)(K:∀(v1:Cx)(h1:v1=((4607182418800017408,0):Cx))(v2:Cx)(h2:v2=((0,4607182418800017408):Cx))(v3:Cx)(h3:v3=((13830554455654793216,0):Cx))(v4:Cx)(h4:v4=((0,13830554455654793216):Cx))(v5:Int)(h5:v5=(db .and .i64 k (3:Int)))(v6:Cx)(h6:v6=(List.getD ([v1,v2,v3,v4]:List Cx) ((v5).toNat) (0,0)))(v7:Cx)(h7:v7=((Fl.vw z.1 z.2 v6.1 v6.2,Fl.vx z.1 z.2 v6.1 v6.2):Cx)),ck (Gz.Qi z ((4841369599423283200:Nat))) (cond (!(true)) (some [(.c (.complex .f64 ((0,0):Cx).1 ((0,0):Cx).2))]) (ck (bF v5 4) (ck (decide ((v5).toNat<4)) (ck (Fl.rF z.1 z.2 v6.1 v6.2) (some [(.c (.complex .f64 v7.1 v7.2))])))))=ρ):kS.F z k=ρ:=Eq.trans (by kernel_rfl) (K _ rfl _ rfl _ rfl _ rfl _ rfl _ rfl _ rfl)
def jB.E:cH:=dc gH zs [(261,jA.c,bC)]
def jB.F(z w:Cx):OT:=cq PG jB.E 252 bC (.o) [.c (.complex .f64 z.1 z.2),.c (.complex .f64 w.1 w.2)]
theorem jB.bU(z:Cx)(w:Cx)(K:∀(v1:Bool)(h1:v1=(cond (!(true)) true (!(true))))(v2:Cx)(h2:v2=((Fl.vw z.1 z.2 w.1 w.2,Fl.vx z.1 z.2 w.1 w.2):Cx)),ck (Gz.y9 z 33554432) (ck (!(!(!(true)))||((!(!(true)))&&(Gz.y9 w 33554432))) (ck (!(!(!(true)))||(!(!(true)))) (ck ((!(true))||(!(!(true)))) (cond v1 (some [(.c (.complex .f64 ((0,0):Cx).1 ((0,0):Cx).2))]) (ck (Fl.rF z.1 z.2 w.1 w.2) (some [(.c (.complex .f64 v2.1 v2.2))]))))))=ρ):jB.F z w=ρ:=Eq.trans (by kernel_rfl) (K _ rfl _ rfl)
def kK.E:cH:=dc gH zs [(268,ic.c,bC)]
def kK.F(x:Nat):OT:=cq PG kK.E 267 bC (.o) [.c (.float .f64 x)]
theorem kK.bU(x:Nat)(K:∀v1,v1=(Fl.gt x (14055734437023318016:Nat)||Fl.eq x (14055734437023318016:Nat))->∀v2,v2=(Fl.lt x (4832362400168542208:Nat)||Fl.eq x (4832362400168542208:Nat))->∀v3,v3=cond (cond v1 v2 false) (Fl.eq x (Fl.nn x)) false->ck (!v1||v1) (ck (!v1||v1) (ck (!(cond v1 v2 false)||((cond v1 v2 false)&&(Fl.num x))) (ck (!(cond v1 v2 false)||((cond v1 v2 false)&&(cond v1 v2 false))) (ck (!(cond v1 v2 false)||(cond v1 v2 false)) (some [.b v3])))))=ρ):kK.F x=ρ:=Eq.trans (by kernel_rfl) (pn K:)
def gB.E:cH:=dc gH zs [(267,kK.c,bC)]
def gB.h:Hint:=.s .o (.s .o (.s (.s .o (.b (.l (sc [3,6,7]) .o))) .o))
def gB.F(l:Qd):OT:=cq PG gB.E 262 bC gB.h [.ag (Qd.cells l)]
def gB.l1(x0:Qd)(x1:Int):OT:=cM PG gB.E 262 bC gB.h 43 [.c (.func (.func 267) #[] #[]),.ag (Qd.cells x0),.i .i64 x1]
theorem gB.bM(x0:Qd)(x1:Int)(K:∀v1,v1=cond (!true) true (!true)->∀v2,v2=IntKind.i64.wrap (x1+1)->cond (decide (x1<4)) (ck (bF x1 4) (ck (Gz.OG (Qd.get x0 x1.toNat).1) (ck (!(!(!true))||(!(!true))) (ck (!(!(!true))||(((!(!true))&&(!(!true)))&&(Gz.OG (Qd.get x0 x1.toNat).2))) (ck (!(!(!true))||(!(!true))) (ck ((!true)||(!(!true))) (cond v1 (some [.b false]) (gB.l1 x0 v2)))))))) (some [.b true])=ρ):gB.l1 x0 x1=ρ:=je (by kernel_rfl) (mg K:)
theorem gB.de(l:Qd):gB.F l=gB.l1 l 0:=by kernel_rfl
def dB.E:cH:=dc gH zs [(269,kS.c,bC)]
def dB.h:Hint:=.s .o (.s .o (.s (.s .o (.b (.l [(1,.no),(2,.ptr 34 0),(4,.ptr 36 0),(5,.ptr 37 0),(9,.no),(34,.cl []),(36,.cl []),(37,.cl [])] (.s .o (.s .o (.s (.b (.s .o (.s .o (.b (.l [(1,.no),(2,.ptr 34 0),(4,.ptr 36 0),(5,.ptr 37 0),(6,.no),(9,.no),(12,.no),(13,.no),(34,.cl []),(36,.cl []),(37,.cl [])] .o))))) .o)))))) .o))
def dB.F(l:Qd)(w:Int):OT:=cq PG dB.E 263 bC dB.h [.ag (Qd.cells l),.i .i64 w]
def dB.l1(x0 x1:Int)(x2 x3 x4:Qd):OT:=cM PG dB.E 263 bC dB.h 43 [.i .i64 x0,.pt,.pt,.pt,.i .i64 x1,.ag (Qd.cells x2),.ag (Qd.cells x3),.ag (Qd.cells x4)]
def dB.l2(x0 x1 x2:Int)(x3:Qd)(x4:Int)(x5 x6 x7:Qd):OT:=cM PG dB.E 263 bC dB.h 11467 [.i .i64 x0,.pt,.pt,.pt,.i .i64 x1,.i .i64 x2,.ag (Qd.cells x3),.i .i64 x4,.ag (Qd.cells x5),.ag (Qd.cells x6),.ag (Qd.cells x7)]
theorem dB.qD(x0 x1:Int)(x2 x3 x4:Qd):dB.l1 x0 x1 x2 x3 x4=cond (decide (x1<4)) (dB.l2 x0 x1 x1 x2 0 x2 x3 x4) (some [.ag (Qd.cells x4)]):=je (by kernel_rfl) rfl
theorem dB.gU(x0:Int)(x1:Int)(x2:Int)(x3:Qd)(x4:Int)(x5:Qd)(x6:Qd)(x7:Qd)(K:∀(v1:Int)(h1:v1=(IntKind.i64.wrap ((IntKind.i64.wrap (x4*x1))*x0)))(v2:Cx)(h2:v2=(Gz.qQ ((Qd.get x3 ((x4).toNat))) v1))(v3:Cx)(h3:v3=((Fl.add (Qd.get x7 ((x1).toNat)).1 v2.1,Fl.add (Qd.get x7 ((x1).toNat)).2 v2.2):Cx))(v4:Int)(h4:v4=(IntKind.i64.wrap (x4+(1:Int))))(v5:Int)(h5:v5=(IntKind.i64.wrap (x2+(1:Int)))),cond (decide (x4<(4:Int))) (ck (bF x4 4) (ck (bF x1 4) (ck (decide ((x1).toNat<4)) (ck (Gz.y9 ((Qd.get x3 ((x4).toNat))) 1125899906842624&&decide (-100<=v1/\v1<=100)) (ck (Fl.oc (Qd.get x7 ((x1).toNat)).1 v2.1&&Fl.oc (Qd.get x7 ((x1).toNat)).2 v2.2) (ck (bF x1 4) (ck (decide ((x1).toNat<4)) (dB.l2 x0 x1 x2 x3 v4 x5 x6 (Qd.set x7 ((x1).toNat) v3))))))))) (dB.l1 x0 v5 x5 x6 x7)=ρ):dB.l2 x0 x1 x2 x3 x4 x5 x6 x7=ρ:=((tP _ _ _ _ _ _ _).trans (by kernel_rfl)).trans (K _ rfl _ rfl _ rfl _ rfl _ rfl)
theorem dB.de(l:Qd)(w:Int):dB.F l w=dB.l1 w 0 l (Qd.mk ((0,0):Cx) ((0,0):Cx) ((0,0):Cx) ((0,0):Cx)) (Qd.mk ((0,0):Cx) ((0,0):Cx) ((0,0):Cx) ((0,0):Cx)):=by kernel_rfl
def kL.E:cH:=dc gH zs [(262,gB.c,bC),(263,dB.c,bC)]
def kL.F(l:Qd):OT:=cq PG kL.E 260 bC (.o) [.ag (Qd.cells l)]
theorem kL.de(l:Qd):kL.F l=ck (Gz.By l 1125899906842624) (cond (!true) (some [.ag [.c (.complex .f64 ((0,0):Cx).1 ((0,0):Cx).2),.c (.complex .f64 ((0,0):Cx).1 ((0,0):Cx).2),.c (.complex .f64 ((0,0):Cx).1 ((0,0):Cx).2),.c (.complex .f64 ((0,0):Cx).1 ((0,0):Cx).2)]]) (ck (Gz.By l 1125899906842624&&decide ((1:Int)=1\/(1:Int)=-1)) (some [.ag (Qd.cells (Gz.qn l (1:Int)))]))):=by kernel_rfl
def fT.E:cH:=dc gH zs [(254,iN.c,gA),(262,gB.c,bC),(263,dB.c,bC)]
def fT.h:Hint:=.s .o (.s .o (.s .o (.s (.s .o (.b (.l [(2,.ptr 53 0),(4,.ptr 55 0),(16,.no),(17,.no),(53,.cl []),(55,.cl [])] .o))) .o)))
def fT.F(l:Qd):OT:=cq PG fT.E 253 bR fT.h [.ag (Qd.cells l)]
def fT.l1(x0:Qd)(x1:Int)(x2 x3:Qd):OT:=cM PG fT.E 253 bR fT.h 87 [.pt,.pt,.ag (Qd.cells x0),.i .i64 x1,.ag (Qd.cells x2),.ag (Qd.cells x3)]
theorem fT.bM(x0:Qd)(x1:Int)(x2:Qd)(x3:Qd)(K:∀(v1:Int)(h1:v1=(Fl.toInt (((Qd.get x0 ((x1).toNat)))).1))(v2:Int)(h2:v2=(Fl.toInt (((Qd.get x0 ((x1).toNat)))).2))(v3:Bool)(h3:v3=(cond (!(true)) true (!decide ((Int.tmod v1 (4:Int))=(0:Int)))))(v4:Bool)(h4:v4=(cond v3 true (!decide ((Int.tmod v2 (4:Int))=(0:Int)))))(v5:Int)(h5:v5=(IntKind.i64.wrap (Int.tdiv v1 (4:Int))))(v6:Int)(h6:v6=(IntKind.i64.wrap (Int.tdiv v2 (4:Int))))(v7:Cx)(h7:v7=(((Fl.ofInt v5),(Fl.ofInt v6)):Cx))(v8:Int)(h8:v8=(IntKind.i64.wrap (x1+(1:Int)))),cond (decide (x1<(4:Int))) (ck (bF x1 4) (ck (Gz.y9 ((Qd.get x0 ((x1).toNat))) 4503599627370496) (ck (!(!(!(true)))||((!(!(true)))&&(!decide ((4:Int)=0)))) (ck (!(!(!(true)))||(!(!(true)))) (ck ((!(true))||(!(!(true)))) (ck (!(!v3)||((!v3)&&(!decide ((4:Int)=0)))) (ck (!(!v3)||(!v3)) (ck (v3||(!v3)) (cond v4 (some [(.ag [(.c (.complex .f64 ((0,0):Cx).1 ((0,0):Cx).2)),(.c (.complex .f64 ((0,0):Cx).1 ((0,0):Cx).2)),(.c (.complex .f64 ((0,0):Cx).1 ((0,0):Cx).2)),(.c (.complex .f64 ((0,0):Cx).1 ((0,0):Cx).2))]),(.b false)]) (ck (!decide ((4:Int)=0)) (ck (!decide ((4:Int)=0)) (ck (bF x1 4) (ck (decide ((x1).toNat<4)) (fT.l1 x0 v8 x2 (Qd.set x3 ((x1).toNat) v7))))))))))))))) (some [(.ag (Qd.cells x3)),(.b true)])=ρ):fT.l1 x0 x1 x2 x3=ρ:=((tP _ _ _ _ _ _ _).trans (by kernel_rfl)).trans (K _ rfl _ rfl _ rfl _ rfl _ rfl _ rfl _ rfl _ rfl)
theorem fT.de(l:Qd):fT.F l=ck (Gz.By l 1125899906842624) (cond (!true) (some [.ag [.c (.complex .f64 ((0,0):Cx).1 ((0,0):Cx).2),.c (.complex .f64 ((0,0):Cx).1 ((0,0):Cx).2),.c (.complex .f64 ((0,0):Cx).1 ((0,0):Cx).2),.c (.complex .f64 ((0,0):Cx).1 ((0,0):Cx).2)],.b false]) (ck (Gz.By l 1125899906842624&&decide ((-1)=1\/(-1)=-1)) (fT.l1 (Gz.qn l (-1)) 0 (Qd.mk ((0,0):Cx) ((0,0):Cx) ((0,0):Cx) ((0,0):Cx)) (Gz.qn l (-1))))):=by kernel_rfl
def eC.h:Hint:=.s .o (.s (.s .o (.b (.l (sc [0,5,6,7]) .o))) .o)
def eC.F(l:List Int):OT:=cq PG dI 250 bC eC.h [.sl .is l]
def eC.l1(x0 x1:List Int)(x2 x3:Int):OT:=cM PG dI 250 bC eC.h 21 [.sl .is x0,.sl .is x1,.i .i64 x2,.i .i64 x3]
theorem eC.bM(x0 x1:List Int)(x2 x3:Int)(K:∀v1,v1=List.getD x1 x3.toNat 0->∀v2,v2=cond (decide (v1<0)) true (decide (65535<v1))->∀v3,v3=IntKind.i64.wrap (x3+1)->cond (decide (x3<x2)) (ck (bF x3 x1.length) (ck (!(!(decide (v1<0)))||(!(decide (v1<0)))) (ck ((decide (v1<0))||(!(decide (v1<0)))) (cond v2 (some [.b false]) (eC.l1 x0 x1 x2 v3))))) (some [.b (decide ((x0.length:Int)<=256))])=ρ):eC.l1 x0 x1 x2 x3=ρ:=je (by kernel_rfl) (pn K:)
theorem eC.de(l:List Int):eC.F l=eC.l1 l l (l.length:Int) 0:=by kernel_rfl
def dj.E:cH:=dc gH zs [(259,qE.c,bC),(260,kL.c,bC)]
def dj.h:Hint:=.s .o (.s .o (.s (.s .o (.b (.l [(0,.no),(3,.fo 800000),(800000,.pv),(4,.no)] (.s .o (.s (.b (.s .o (.j [(0,.no),(3,.fo 800000),(800000,.pv),(4,.no),(5,.ptr 41 0),(41,.cl [])] .o .o))) .o))))) .o))
def dj.F(l:List Int):OT:=cq PG dj.E 251 bC dj.h [.sl .is l]
def dj.l1(x0:List Int)(x1:List Qd)(x2:Int):OT:=cM PG dj.E 251 bC dj.h 43 [.sl .is x0,.pt,.sl .qd x1,.i .i64 x2]
def dj.j2(x0:List Int)(x1:List Qd)(x2:Int)(x3:Qd):OT:=di PG dj.E 251 bC dj.h 1611 [.sl .is x0,.pt,.sl .qd x1,.i .i64 x2,.pt,.ag (Qd.cells x3)]
theorem dj.bM(x0:List Int)(x1:List Qd)(x2:Int)(K:∀(v1:Int)(h1:v1=(List.getD x0 (x2).toNat (0:Int)))(v2:Cx)(h2:v2=(((Fl.ofInt v1,Fl.ofInt ((0:Int))):Cx)))(v3:Int)(h3:v3=(IntKind.i64.wrap (x2+(1:Int))))(v4:Int)(h4:v4=(List.getD x0 (v3).toNat (0:Int)))(v5:Cx)(h5:v5=(((Fl.ofInt v4,Fl.ofInt ((0:Int))):Cx)))(v6:Qd)(h6:v6=(Qd.set (Qd.mk v2 ((0,0):Cx) ((0,0):Cx) ((0,0):Cx)) (((1:Int)).toNat) v5)),cond (decide (x2<((x0).length:Int))) (ck (bF x2 (x0).length) (ck (decide (-33554432<=v1/\v1<=33554432/\-33554432<=((0:Int))/\((0:Int))<=33554432)) (cond (decide (v3<((x0).length:Int))) (ck (bF v3 (x0).length) (ck (decide (-33554432<=v4/\v4<=33554432/\-33554432<=((0:Int))/\((0:Int))<=33554432)) (ck (bF (1:Int) 4) (ck (decide (((1:Int)).toNat<4)) (dj.j2 x0 x1 x2 v6))))) (dj.j2 x0 x1 x2 (Qd.mk v2 ((0,0):Cx) ((0,0):Cx) ((0,0):Cx)))))) (some [(.sl .qd x1)])=ρ):dj.l1 x0 x1 x2=ρ:=((tP _ _ _ _ _ _ _).trans (by kernel_rfl)).trans (K _ rfl _ rfl _ rfl _ rfl _ rfl _ rfl)
theorem dj.ik(x0:List Int)(x1:List Qd)(x2:Int)(x3:Qd)(K:∀v1,v1=x1++([Gz.qn x3 1]:List Qd)->∀v2,v2=IntKind.i64.wrap (x2+2)->ck (Gz.By x3 1125899906842624) (ck (dY (x1.length+([Gz.qn x3 1]:List Qd).length) 64) (dj.l1 x0 v1 v2))=ρ):dj.j2 x0 x1 x2 x3=ρ:=ly (by kernel_rfl) (mg K:)
theorem dj.de(l:List Int):dj.F l=dj.l1 l ([]:List Qd) 0:=by kernel_rfl
def cp.E:cH:=dc gH zs [(250,eC.c,bC),(251,dj.c,bC),(252,jB.c,bC),(253,fT.c,bR),(254,iN.c,gA)]
def cp.h:Hint:=.s .o (.s .o (.s .o (.s .o (.s .o (.s (.s .o (.b (.l [(0,.no),(1,.no),(6,.fo 800000),(8,.no),(48,.no),(49,.no),(50,.no),(800000,.pv)] (.s .o (.s .o (.s (.b (.s .o (.s .o (.b (.l [(0,.no),(1,.no),(6,.fo 800000),(8,.no),(9,.no),(10,.ptr 126 0),(48,.no),(49,.no),(50,.no),(55,.no),(56,.no),(57,.no),(126,.cl []),(800000,.pv)] (.s .o (.s .o (.s (.b (.s .o (.s .o (.s (.s .o (.b (.l [(0,.no),(1,.no),(6,.fo 800000),(8,.no),(9,.no),(10,.ptr 126 0),(11,.no),(12,.ptr 128 0),(13,.ptr 129 0),(48,.no),(49,.no),(50,.no),(55,.no),(56,.no),(57,.no),(62,.no),(126,.cl []),(128,.cl []),(129,.cl []),(800000,.pv)] .o))) (.s .o (.s .o (.b (.l [(0,.no),(1,.no),(6,.fo 800000),(8,.no),(9,.no),(10,.ptr 126 0),(11,.no),(15,.ptr 131 0),(48,.no),(49,.no),(50,.no),(55,.no),(56,.no),(57,.no),(80,.no),(126,.cl []),(131,.cl []),(800000,.pv)] .o)))))))) .o)))))))) .o)))))) .o)))))
def cp.F(a b:List Int):OT:=cq PG cp.E 234 bR cp.h [.sl .is a,.sl .is b]
def cp.l1(x0 x1:List Int)(x2 x3:List Qd)(x4 x5:Int)(x6:List Int):OT:=cM PG cp.E 234 bR cp.h 351 [.sl .is x0,.sl .is x1,.pt,.sl .qd x2,.sl .qd x3,.i .i64 x4,.i .i64 x5,.sl .is x6]
def cp.l2(x0 x1:List Int)(x2:List Qd)(x3:Int)(x4:List Qd)(x5 x6:Int)(x7:List Qd)(x8 x9:Int)(yW:Qd)(rK:List Int):OT:=cM PG cp.E 234 bR cp.h 91743 [.sl .is x0,.sl .is x1,.pt,.sl .qd x2,.i .i64 x3,.pt,.sl .qd x4,.i .i64 x5,.i .i64 x6,.sl .qd x7,.i .i64 x8,.i .i64 x9,.ag (Qd.cells yW),.sl .is rK]
def cp.l3(x0 x1:List Int)(x2:List Qd)(x3 x4:Int)(x5:List Qd)(x6 x7:Int)(x8:List Qd)(x9 yW rK:Int)(GR FA Bu:Qd)(SE:List Int):OT:=cM PG cp.E 234 bR cp.h 90596959 [.sl .is x0,.sl .is x1,.pt,.sl .qd x2,.i .i64 x3,.pt,.i .i64 x4,.pt,.pt,.sl .qd x5,.i .i64 x6,.i .i64 x7,.sl .qd x8,.i .i64 x9,.i .i64 yW,.i .i64 rK,.ag (Qd.cells GR),.ag (Qd.cells FA),.ag (Qd.cells Bu),.sl .is SE]
def cp.l4(x0 x1:List Int)(x2:List Qd)(x3 x4:Int)(x5:List Qd)(x6 x7:Int)(x8:List Qd)(x9 yW rK:Int)(GR FA:Qd)(Bu:List Int):OT:=cM PG cp.E 234 bR cp.h 199648863 [.sl .is x0,.sl .is x1,.pt,.sl .qd x2,.i .i64 x3,.pt,.i .i64 x4,.pt,.sl .qd x5,.i .i64 x6,.i .i64 x7,.sl .qd x8,.i .i64 x9,.i .i64 yW,.i .i64 rK,.ag (Qd.cells GR),.ag (Qd.cells FA),.sl .is Bu]
theorem cp.bM(x0 x1:List Int)(x2 x3:List Qd)(x4 x5:Int)(x6:List Int)(K:∀v1,v1=List.getD x3 x5.toNat (fF.fS .qd)->∀v2,v2=IntKind.i64.wrap ((x0.length:Int)+(x1.length:Int))->∀v3,v3=IntKind.i64.wrap (v2 -1)->cond (decide (x5<x4)) (ck (bF x5 x3.length) (cp.l2 x0 x1 x2 x5 x3 x4 x5 x2 (x2.length:Int) 0 v1 x6)) (ck (eM 0 v3 x6.length) (ck (dY (List.take v3.toNat x6).length 8) (some [.sl .is (List.take v3.toNat x6),.b true])))=ρ):cp.l1 x0 x1 x2 x3 x4 x5 x6=ρ:=je (by kernel_rfl) (pn K:)
theorem cp.gU(x0 x1:List Int)(x2:List Qd)(x3:Int)(x4:List Qd)(x5 x6:Int)(x7:List Qd)(x8 x9:Int)(yW:Qd)(rK:List Int)(K:∀v1,v1=List.getD x7 x9.toNat (fF.fS .qd)->∀v2,v2=IntKind.i64.wrap (x6+1)->cond (decide (x9<x8)) (ck (bF x9 x7.length) (cp.l3 x0 x1 x2 x3 x9 x4 x5 x6 x7 x8 x9 0 yW v1 (Qd.mk ((0,0):Cx) ((0,0):Cx) ((0,0):Cx) ((0,0):Cx)) rK)) (cp.l1 x0 x1 x2 x4 x5 v2 rK)=ρ):cp.l2 x0 x1 x2 x3 x4 x5 x6 x7 x8 x9 yW rK=ρ:=je (by kernel_rfl) (mg K:)
theorem cp.nX(x0 x1:List Int)(x2:List Qd)(x3 x4:Int)(x5:List Qd)(x6 x7:Int)(x8:List Qd)(x9 yW rK:Int)(GR FA Bu:Qd)(SE:List Int)(K:∀v1,v1=Gz.mul (Qd.get GR rK.toNat) (Qd.get FA rK.toNat)->∀v2,v2=Qd.set Bu rK.toNat v1->∀v3,v3=IntKind.i64.wrap (rK+1)->cond (decide (rK<4)) (ck (bF rK 4) (ck (decide (rK.toNat<4)) (ck (bF rK 4) (ck (decide (rK.toNat<4)) (ck (Gz.y9 (Qd.get GR rK.toNat) 33554432&&Gz.y9 (Qd.get FA rK.toNat) 33554432) (ck (bF rK 4) (ck (decide (rK.toNat<4)) (cp.l3 x0 x1 x2 x3 x4 x5 x6 x7 x8 x9 yW v3 GR FA v2 SE)))))))) (ck (Gz.By Bu 1125899906842624&&Gz.Qj Bu) (cp.l4 x0 x1 x2 x3 x4 x5 x6 x7 x8 x9 yW 0 GR (Gz.back Bu) SE))=ρ):cp.l3 x0 x1 x2 x3 x4 x5 x6 x7 x8 x9 yW rK GR FA Bu SE=ρ:=je (by kernel_rfl) (pn K:)
theorem cp.pk(x0 x1:List Int)(x2:List Qd)(x3 x4:Int)(x5:List Qd)(x6 x7:Int)(x8:List Qd)(x9 yW rK:Int)(GR FA:Qd)(Bu:List Int)(K:∀v1,v1=Fl.toInt (Qd.get FA rK.toNat).1->∀v2,v2=Fl.toInt (Qd.get FA rK.toNat).2->∀v3,v3=IntKind.i64.wrap (2*x3)->∀v4,v4=IntKind.i64.wrap (2*x4)->∀v5,v5=IntKind.i64.wrap ((IntKind.i64.wrap (v3+v4))+rK)->∀v6,v6=List.getD Bu v5.toNat 0->∀v7,v7=List.set Bu v5.toNat (IntKind.i64.wrap (v6+v1))->∀v8,v8=IntKind.i64.wrap (rK+1)->∀v9,v9=IntKind.i64.wrap (yW+1)->cond (decide (rK<3)) (ck (bF rK 4) (ck (decide (rK.toNat<4)) (ck (Gz.y9 (Qd.get FA rK.toNat) 4503599627370496) (ck (bF v5 Bu.length) (ck (decide (v5.toNat<Bu.length)) (ck (bF v5 Bu.length) (ck (decide (v5.toNat<Bu.length)) (cp.l4 x0 x1 x2 x3 x4 x5 x6 x7 x8 x9 yW v8 GR FA v7)))))))) (cp.l2 x0 x1 x2 x3 x5 x6 x7 x8 x9 v9 GR Bu)=ρ):cp.l4 x0 x1 x2 x3 x4 x5 x6 x7 x8 x9 yW rK GR FA Bu=ρ:=je (by kernel_rfl) (gQ (qz K:):)
theorem cp.bU(a b:List Int)(K:∀v1,v1=cond (!true) true (!true)->∀v2,v2=cond (decide ((a.length:Int)=0)) true (decide ((b.length:Int)=0))->∀v3,v3=IntKind.i64.wrap ((a.length:Int)+(b.length:Int))->∀v4,v4=IntKind.i64.wrap (v3+2)->∀v5,v5=List.replicate v4.toNat 0->∀v6,v6=((Gz.jy a).length:Int)->ck (decide (a.length<=256)&&Gz.jI a) (ck (!(!(!true))||((!(!true))&&(decide (b.length<=256)&&Gz.jI b))) (ck (!(!(!true))||(!(!true))) (ck ((!true)||(!(!true))) (cond v1 (some [.sl .is ([]:List Int),.b false]) (ck (!(!(decide ((a.length:Int)=0)))||(!(decide ((a.length:Int)=0)))) (ck (!(!(decide ((a.length:Int)=0)))||(!(decide ((a.length:Int)=0)))) (ck ((decide ((a.length:Int)=0))||(!(decide ((a.length:Int)=0)))) (cond v2 (some [.sl .is ([]:List Int),.b true]) (ck (sP v4 v4 8) (ck (decide (a.length<=256)&&Gz.jI a) (ck (decide (b.length<=256)&&Gz.jI b) (cp.l1 a b (Gz.jy b) (Gz.jy a) v6 0 v5))))))))))))=ρ):cp.F a b=ρ:=Eq.trans (by kernel_rfl) (gQ (lP K:):)
def fv.h:Hint:=.s .o (.s (.b (.l (sc [0]) .o)) .o)
def fv.F(a:List UInt16):OT:=cq PG dI 216 bC fv.h [.sl .ws a]
def fv.l1(x0:List UInt16):OT:=cM PG dI 216 bC fv.h 9 [.sl .ws x0]
theorem fv.bM(x0:List UInt16)(K:∀v1,v1=IntKind.i64.wrap ((x0.length:Int) -1)->∀v2,v2=List.getD x0 v1.toNat 0->∀v3,v3=cond (decide (0<(x0.length:Int))) (decide (v2=0)) false->ck (!(decide (0<(x0.length:Int)))||(decide (0<(x0.length:Int)))) (ck (!(decide (0<(x0.length:Int)))||(decide (0<(x0.length:Int)))) (ck (!(decide (0<(x0.length:Int)))||(((decide (0<(x0.length:Int)))&&(decide (0<(x0.length:Int))))&&(bF v1 x0.length))) (ck (!(decide (0<(x0.length:Int)))||(decide (0<(x0.length:Int)))) (ck (!(decide (0<(x0.length:Int)))||(decide (0<(x0.length:Int)))) (ck (!(decide (0<(x0.length:Int)))||(decide (0<(x0.length:Int)))) (cond v3 (ck (eM 0 v1 x0.length) (fv.l1 (List.take v1.toNat x0))) (some [.sl .ws x0])))))))=ρ):fv.l1 x0=ρ:=je (by kernel_rfl) (pn K:)
theorem fv.de(a:List UInt16):fv.F a=fv.l1 a:=by kernel_rfl
def jc.F(a:List UInt16):OT:=cq PG dI 177 bC (.o) [.sl .ws a]
theorem jc.bU(a:List UInt16)(K:∀v1,v1=((decide ((a.length:Int)<=256))&&(!(decide ((a.length:Int)=0))))->∀v2,v2=IntKind.i64.wrap ((a.length:Int) -1)->∀v3,v3=List.getD a v2.toNat 0->∀v4,v4=cond (decide ((a.length:Int)=0)) true (!decide (v3=0))->∀v5,v5=cond (decide ((a.length:Int)<=256)) v4 false->ck (!(decide ((a.length:Int)<=256))||(decide ((a.length:Int)<=256))) (ck (!(decide ((a.length:Int)<=256))||(decide ((a.length:Int)<=256))) (ck (!(decide ((a.length:Int)<=256))||(decide ((a.length:Int)<=256))) (ck (!v1||v1) (ck (!v1||v1) (ck (!v1||((v1&&v1)&&(bF v2 a.length))) (ck (!v1||v1) (ck (!v1||v1) (ck (!(decide ((a.length:Int)<=256))||((decide ((a.length:Int)<=256))&&((decide ((a.length:Int)=0))||v1))) (ck (!(decide ((a.length:Int)<=256))||(decide ((a.length:Int)<=256))) (some [.b v5]))))))))))=ρ):jc.F a=ρ:=Eq.trans (by kernel_rfl) (gQ K:)
def iH.h:Hint:=.s .o (.s .o (.s (.b (.l [(0,.no),(3,.fo 800000),(800000,.pv)] .o)) .o))
def iH.F(v:UInt64):OT:=cq PG dI 147 bC iH.h [.u64 v]
def iH.l1(x0:UInt64)(x1:List UInt16):OT:=cM PG dI 147 bC iH.h 19 [.u64 x0,.pt,.sl .ws x1]
theorem iH.bM(x0:UInt64)(x1:List UInt16)(K:∀v1,v1=UInt16.ofInt (x0.toNat:Int)->∀v2,v2=cE x0 (16:UInt64).toNat->cond (decide (0<x0)) (ck (dY (x1.length+([v1]:List UInt16).length) 2) (iH.l1 v2 (x1++([v1]:List UInt16)))) (some [.sl .ws x1])=ρ):iH.l1 x0 x1=ρ:=je (by kernel_rfl) (mg K:)
theorem iH.de(v:UInt64):iH.F v=iH.l1 v ([]:List UInt16):=by kernel_rfl
def eT.E:cH:=dc gH zs [(177,jc.c,bC)]
def eT.h:Hint:=.s .o (.s .o (.s .o (.s (.s .o (.b (.l (sc [4,15,16,17]) .o))) .o)))
def eT.F(a:List UInt16):OT:=cq PG eT.E 266 bR eT.h [.sl .ws a]
def eT.l1(x0:UInt64)(x1:List UInt16)(x2 x3:Int):OT:=cM PG eT.E 266 bR eT.h 87 [.u64 x0,.sl .ws x1,.i .i64 x2,.i .i64 x3]
theorem eT.bM(x0:UInt64)(x1:List UInt16)(x2 x3:Int)(K:∀v1,v1=List.getD x1 x3.toNat 0->∀v2,v2=UInt64.ofInt (v1.toNat:Int)->∀v3,v3=IntKind.i64.wrap (16*x3)->∀v4,v4=(x0|||(iS v2 v3.toNat))->∀v5,v5=IntKind.i64.wrap (x3+1)->cond (decide (x3<x2)) (ck (bF x3 x1.length) (ck (decide (0<=v3)) (eT.l1 v4 x1 x2 v5))) (some [.u64 x0,.b true])=ρ):eT.l1 x0 x1 x2 x3=ρ:=je (by kernel_rfl) (gQ K:)
theorem eT.bU(a:List UInt16)(K:∀v1,v1=cond (!(Nt.is a)) true (decide (4<(a.length:Int)))->ck (decide (a.length<=1099511627776)) (ck (!(!(!(Nt.is a)))||(!(!(Nt.is a)))) (ck (!(!(!(Nt.is a)))||(!(!(Nt.is a)))) (ck ((!(Nt.is a))||(!(!(Nt.is a)))) (cond v1 (some [.u64 0,.b false]) (eT.l1 0 a (a.length:Int) 0)))))=ρ):eT.F a=ρ:=Eq.trans (by kernel_rfl) (lP K:)
def jT.E:cH:=dc gH zs [(177,jc.c,bC),(179,dq.c,bC)]
def jT.F(a:List UInt16):OT:=cq PG jT.E 149 bC (.o) [.sl .ws a]
theorem jT.bU(a:List UInt16)(K:∀v1,v1=cond (!(Nt.is a)) true (decide ((a.length:Int)=0))->∀v2,v2=IntKind.i64.wrap ((a.length:Int) -1)->∀v3,v3=IntKind.i64.wrap (16*v2)->∀v4,v4=List.getD a v2.toNat 0->∀v5,v5=IntKind.i64.wrap (v3+(Nt.bits v4.toNat:Int))->ck (decide (a.length<=1099511627776)) (ck (!(!(!(Nt.is a)))||(!(!(Nt.is a)))) (ck (!(!(!(Nt.is a)))||(!(!(Nt.is a)))) (ck ((!(Nt.is a))||(!(!(Nt.is a)))) (cond v1 (some [.i .i64 0]) (ck (bF v2 a.length) (some [.i .i64 v5]))))))=ρ):jT.F a=ρ:=Eq.trans (by kernel_rfl) (gQ K:)
def gW.h:Hint:=.s .o (.s .o (.s (.s .o (.b (.l (sc [0,1,5]) .o))) .o))
def gW.F(a b:List UInt16):OT:=cq PG dI 212 bC gW.h [.sl .ws a,.sl .ws b]
def gW.l1(x0 x1:List UInt16)(x2:Int):OT:=cM PG dI 212 bC gW.h 43 [.sl .ws x0,.sl .ws x1,.i .i64 x2]
theorem gW.bM(x0 x1:List UInt16)(x2:Int)(K:∀v1,v1=List.getD x0 x2.toNat 0->∀v2,v2=List.getD x1 x2.toNat 0->∀v3,v3=IntKind.i64.wrap (x2 -1)->cond (decide (0<=x2)) (ck (bF x2 x0.length) (ck (bF x2 x1.length) (cond (!decide (v1=v2)) (ck (bF x2 x0.length) (ck (bF x2 x1.length) (cond (decide (v1<v2)) (some [.i .i64 (-1)]) (some [.i .i64 1])))) (gW.l1 x0 x1 v3)))) (some [.i .i64 0])=ρ):gW.l1 x0 x1 x2=ρ:=je (by kernel_rfl) (pn K:)
theorem gW.bU(a b:List UInt16)(K:∀v1,v1=IntKind.i64.wrap ((a.length:Int) -1)->cond (!decide ((a.length:Int)=(b.length:Int))) (cond (decide ((a.length:Int)<(b.length:Int))) (some [.i .i64 (-1)]) (some [.i .i64 1])) (gW.l1 a b v1)=ρ):gW.F a b=ρ:=Eq.trans (by kernel_rfl) (lP K:)
def kJ.E:cH:=dc gH zs [(177,jc.c,bC),(212,gW.c,bC)]
def kJ.F(a b:List UInt16):OT:=cq PG kJ.E 181 bC (.o) [.sl .ws a,.sl .ws b]
theorem kJ.bU(a b:List UInt16)(K:∀v1,v1=cond (!(Nt.is a)) true (!(Nt.is b))->∀v2,v2=Nt.cmp (Nt.val a) (Nt.val b)->ck (decide (a.length<=1099511627776)) (ck (!(!(!(Nt.is a)))||((!(!(Nt.is a)))&&(decide (b.length<=1099511627776)))) (ck (!(!(!(Nt.is a)))||(!(!(Nt.is a)))) (ck ((!(Nt.is a))||(!(!(Nt.is a)))) (cond v1 (some [.i .i64 0]) (ck (decide (a.length<=1099511627776/\b.length<=1099511627776)&&(Nt.norm a&&Nt.norm b)) (some [.i .i64 v2]))))))=ρ):kJ.F a b=ρ:=Eq.trans (by kernel_rfl) (mg K:)
def dG.h:Hint:=.s .o (.s .o (.s (.s .o (.b (.l [(3,.fo 800000),(9,.no),(10,.no),(11,.no),(800000,.pv)] .o))) .o))
def dG.F(a:List UInt16):OT:=cq PG dI 235 bC dG.h [.sl .ws a]
def dG.l1(x0:List UInt16)(x1 x2:Int)(x3:List Int):OT:=cM PG dI 235 bC dG.h 43 [.pt,.sl .ws x0,.i .i64 x1,.i .i64 x2,.sl .is x3]
theorem dG.bM(x0:List UInt16)(x1 x2:Int)(x3:List Int)(K:∀v1,v1=List.getD x0 x2.toNat 0->∀v2,v2=IntKind.i64.wrap (v1.toNat:Int)->∀v3,v3=List.set x3 x2.toNat v2->∀v4,v4=IntKind.i64.wrap (x2+1)->cond (decide (x2<x1)) (ck (bF x2 x0.length) (ck (bF x2 x3.length) (ck (decide (x2.toNat<x3.length)) (dG.l1 x0 x1 v4 v3)))) (some [.sl .is x3])=ρ):dG.l1 x0 x1 x2 x3=ρ:=je (by kernel_rfl) (qz K:)
theorem dG.bU(a:List UInt16)(K:∀v1,v1=List.replicate (a.length:Int).toNat 0->ck (sP (a.length:Int) (a.length:Int) 8) (dG.l1 a (a.length:Int) 0 v1)=ρ):dG.F a=ρ:=Eq.trans (by kernel_rfl) (lP K:)
def eW.E:cH:=dc gH zs [(177,jc.c,bC),(216,fv.c,bC),(234,cp.c,bR),(235,dG.c,bC)]
def eW.h:Hint:=.s .o (.s .o (.s .o (.s .o (.s .o (.s (.s .o (.b (.l [(7,.fo 800000),(800000,.pv),(8,.no),(27,.no),(28,.no),(29,.no)] .o))) (.s (.b (.l [(7,.fo 800000),(800000,.pv),(8,.no)] .o)) .o))))))
def eW.F(a b:List UInt16):OT:=cq PG eW.E 211 bC eW.h [.sl .ws a,.sl .ws b]
def eW.l1(x0:List UInt16)(x1:Int)(x2:List Int)(x3 x4:Int):OT:=cM PG eW.E 211 bC eW.h 351 [.pt,.sl .ws x0,.i .i64 x1,.sl .is x2,.i .i64 x3,.i .i64 x4]
def eW.l2(x0:List UInt16)(x1:Int):OT:=cM PG eW.E 211 bC eW.h 319 [.pt,.sl .ws x0,.i .i64 x1]
theorem eW.bM(x0:List UInt16)(x1:Int)(x2:List Int)(x3 x4:Int)(K:∀v1,v1=List.getD x2 x4.toNat 0->∀v2,v2=UInt16.ofInt (IntKind.i64.wrap (x1+v1))->∀v3,v3=Int.fdiv (IntKind.i64.wrap (x1+v1)) (2^(min (16:UInt64).toNat (IntKind.i64.bits)))->∀v4,v4=IntKind.i64.wrap (x4+1)->cond (decide (x4<x3)) (ck (bF x4 x2.length) (ck (dY (x0.length+([v2]:List UInt16).length) 2) (eW.l1 (x0++([v2]:List UInt16)) v3 x2 x3 v4))) (eW.l2 x0 x1)=ρ):eW.l1 x0 x1 x2 x3 x4=ρ:=je (by kernel_rfl) (qz K:)
theorem eW.gU(x0:List UInt16)(x1:Int)(K:∀v1,v1=([UInt16.ofInt x1]:List UInt16)->∀v2,v2=Int.fdiv x1 (2^(min (16:UInt64).toNat (IntKind.i64.bits)))->cond (decide (0<x1)) (ck (dY (x0.length+v1.length) 2) (eW.l2 (x0++v1) v2)) (ck (decide (x0.length<=1099511627776)) (some [.sl .ws (Nt.of (Nt.val x0))]))=ρ):eW.l2 x0 x1=ρ:=je (by kernel_rfl) (mg K:)
theorem eW.bU(a b:List UInt16)(K:∀v1,v1=cond (!(Nt.is a)) true (!(Nt.is b))->∀v2,v2=(a.map λd=>(d.toNat:Int))->∀v3,v3=(b.map λd=>(d.toNat:Int))->∀v4,v4=((Gz.conv v2 v3).length:Int)->ck (decide (a.length<=1099511627776)) (ck (!(!(!(Nt.is a)))||((!(!(Nt.is a)))&&(decide (b.length<=1099511627776)))) (ck (!(!(!(Nt.is a)))||(!(!(Nt.is a)))) (ck ((!(Nt.is a))||(!(!(Nt.is a)))) (cond v1 (some [.sl .ws ([]:List UInt16)]) (ck (decide (a.length<=256)) (ck (decide (b.length<=256)) (ck (decide (v2.length<=256/\v3.length<=256)&&(Gz.jI v2&&Gz.jI v3)) (eW.l1 ([]:List UInt16) 0 (Gz.conv v2 v3) v4 0))))))))=ρ):eW.F a b=ρ:=Eq.trans (by kernel_rfl) (qz K:)
def gC.E:cH:=dc gH zs [(216,fv.c,bC)]
def gC.h:Hint:=.s .o (.s .o (.s .o (.s (.s .o (.b (.l [(0,.no),(1,.no),(6,.fo 800000),(7,.no),(8,.no),(800000,.pv)] .o))) .o)))
def gC.F(a:List UInt16)(d:UInt16):OT:=cq PG gC.E 214 bR gC.h [.sl .ws a,.u16 d]
def gC.l1(x0:List UInt16)(x1:UInt16)(x2:UInt32)(x3:Int)(x4:List UInt16):OT:=cM PG gC.E 214 bR gC.h 87 [.sl .ws x0,.u16 x1,.pt,.u32 x2,.i .i64 x3,.sl .ws x4]
theorem gC.bM(x0:List UInt16)(x1:UInt16)(x2:UInt32)(x3:Int)(x4:List UInt16)(K:∀v1,v1=tq x2 (16:UInt64).toNat->∀v2,v2=List.getD x0 x3.toNat 0->∀v3,v3=UInt32.ofInt (v2.toNat:Int)->∀v4,v4=UInt32.ofInt (x1.toNat:Int)->∀v5,v5=UInt16.ofInt (((v1|||v3)/v4).toNat:Int)->∀v6,v6=List.set x4 x3.toNat v5->∀v7,v7=IntKind.i64.wrap (x3 -1)->∀v8,v8=UInt16.ofInt (x2.toNat:Int)->cond (decide (0<=x3)) (ck (bF x3 x0.length) (ck (!decide (v4=0)) (ck (bF x3 x4.length) (ck (decide (x3.toNat<x4.length)) (ck (!decide (v4=0)) (gC.l1 x0 x1 ((v1|||v3)% v4) v7 v6)))))) (ck (decide (x4.length<=1099511627776)) (some [.sl .ws (Nt.of (Nt.val x4)),.u16 v8]))=ρ):gC.l1 x0 x1 x2 x3 x4=ρ:=je (by kernel_rfl) (gQ (pn K:):)
theorem gC.bU(a:List UInt16)(d:UInt16)(K:∀v1,v1=List.replicate (a.length:Int).toNat 0->∀v2,v2=IntKind.i64.wrap ((a.length:Int) -1)->ck (sP (a.length:Int) (a.length:Int) 2) (gC.l1 a d 0 v2 v1)=ρ):gC.F a d=ρ:=Eq.trans (by kernel_rfl) (mg K:)
end Go.Eng
namespace Go.Eng
open Go.Proofs
variable{ρ:OT}
def iq.h:Hint:=.s .o (.s .o (.s .o (.s (.s .o (.b (.l [(1,.no),(5,.fo 800000),(800000,.pv),(6,.no),(9,.no),(10,.no),(11,.no)] .o))) (.j [(5,.fo 800000),(800000,.pv)] .o .o))))
def iq.F(a:List UInt16)(n:Int):OT:=cq PG dI 178 pf iq.h [.sl .ws a,.i .i64 n]
def iq.l1(x0:Int)(x1:List UInt16)(x2:UInt32)(x3:List UInt16)(x4 x5:Int):OT:=cM PG dI 178 pf iq.h 87 [.i .i64 x0,.pt,.sl .ws x1,.u32 x2,.sl .ws x3,.i .i64 x4,.i .i64 x5]
def iq.j2(x0:List UInt16):OT:=di PG dI 178 pf iq.h 31 [.pt,.sl .ws x0]
theorem iq.bM(x0:Int)(x1:List UInt16)(x2:UInt32)(x3:List UInt16)(x4 x5:Int)(K:∀v1,v1=List.getD x3 x5.toNat 0->∀v2,v2=UInt32.ofInt (v1.toNat:Int)->∀v3,v3=(x2|||(tq v2 x0.toNat))->∀v4,v4=UInt16.ofInt (v3.toNat:Int)->∀v5,v5=xn v3 (16:UInt64).toNat->∀v6,v6=IntKind.i64.wrap (x5+1)->∀v7,v7=UInt16.ofInt (x2.toNat:Int)->cond (decide (x5<x4)) (ck (bF x5 x3.length) (ck (decide (0<=x0)) (ck (dY (x1.length+([v4]:List UInt16).length) 2) (iq.l1 x0 (x1++([v4]:List UInt16)) v5 x3 x4 v6)))) (cond (decide (0<x2)) (ck (dY (x1.length+([v7]:List UInt16).length) 2) (iq.j2 (x1++([v7]:List UInt16)))) (iq.j2 x1))=ρ):iq.l1 x0 x1 x2 x3 x4 x5=ρ:=je (by kernel_rfl) (gQ (mg K:):)
theorem iq.kn(x0:List UInt16):iq.j2 x0=some [.sl .ws x0]:=ly (by kernel_rfl) rfl
theorem iq.de(a:List UInt16)(n:Int):iq.F a n=iq.l1 n ([]:List UInt16) 0 a (a.length:Int) 0:=by kernel_rfl
def dW.E:cH:=dc gH zs [(216,fv.c,bC)]
def dW.h:Hint:=.s .o (.s .o (.s (.s .o (.b (.l [(0,.no),(1,.no),(5,.fo 800000),(11,.no),(12,.no),(13,.no),(800000,.pv)] (.s .o (.s .o (.j [(0,.no),(1,.no),(5,.fo 800000),(11,.no),(12,.no),(13,.no),(800000,.pv)] .o .o)))))) .o))
def dW.F(a:List UInt16)(n:Int):OT:=cq PG dW.E 217 bC dW.h [.sl .ws a,.i .i64 n]
def dW.l1(x0:List UInt16)(x1:Int)(x2:List UInt16)(x3 x4:Int)(x5:List UInt16):OT:=cM PG dW.E 217 bC dW.h 43 [.sl .ws x0,.i .i64 x1,.pt,.sl .ws x2,.i .i64 x3,.i .i64 x4,.sl .ws x5]
def dW.j2(x0:List UInt16)(x1:Int)(x2:List UInt16)(x3 x4:Int)(x5:List UInt16):OT:=di PG dW.E 217 bC dW.h 459 [.sl .ws x0,.i .i64 x1,.pt,.sl .ws x2,.i .i64 x3,.i .i64 x4,.sl .ws x5]
theorem dW.bM(x0:List UInt16)(x1:Int)(x2:List UInt16)(x3 x4:Int)(x5:List UInt16)(K:∀v1,v1=List.getD x2 x4.toNat 0->∀v2,v2=List.set x5 x4.toNat (tp v1 x1.toNat)->∀v3,v3=IntKind.i64.wrap (x4+1)->∀v4,v4=List.getD v2 x4.toNat 0->∀v5,v5=List.getD x0 v3.toNat 0->∀v6,v6=UInt32.ofInt (v5.toNat:Int)->∀v7,v7=IntKind.i64.wrap (16 -x1)->∀v8,v8=UInt16.ofInt ((tq v6 v7.toNat).toNat:Int)->∀v9,v9=List.set v2 x4.toNat (v4|||v8)->cond (decide (x4<x3)) (ck (bF x4 x2.length) (ck (decide (0<=x1)) (ck (bF x4 x5.length) (ck (decide (x4.toNat<x5.length)) (cond (decide (v3<(x0.length:Int))) (ck (bF x4 v2.length) (ck (decide (x4.toNat<v2.length)) (ck (bF v3 x0.length) (ck (decide (0<=v7)) (ck (bF x4 v2.length) (ck (decide (x4.toNat<v2.length)) (dW.j2 x0 x1 x2 x3 x4 v9))))))) (dW.j2 x0 x1 x2 x3 x4 v2)))))) (ck (decide (x5.length<=1099511627776)) (some [.sl .ws (Nt.of (Nt.val x5))]))=ρ):dW.l1 x0 x1 x2 x3 x4 x5=ρ:=je (by kernel_rfl) (gQ (qz K:):)
theorem dW.ik(x0:List UInt16)(x1:Int)(x2:List UInt16)(x3 x4:Int)(x5:List UInt16)(K:∀v1,v1=IntKind.i64.wrap (x4+1)->dW.l1 x0 x1 x2 x3 v1 x5=ρ):dW.j2 x0 x1 x2 x3 x4 x5=ρ:=ly (by kernel_rfl) (lP K:)
theorem dW.bU(a:List UInt16)(n:Int)(K:∀v1,v1=List.replicate (a.length:Int).toNat 0->ck (sP (a.length:Int) (a.length:Int) 2) (dW.l1 a n a (a.length:Int) 0 v1)=ρ):dW.F a n=ρ:=Eq.trans (by kernel_rfl) (lP K:)
def bQ.h:Hint:=.s .o (.s .o (.s .o (.s .o (.s (.s .o (.b (.l [(0,.fo 800000),(1,.no),(4,.fo 800001),(6,.no),(7,.no),(800000,.pv),(800001,.pv)] (.s .o (.s (.b (.s .o (.s .o (.j [(0,.fo 800000),(1,.no),(4,.fo 800001),(6,.no),(7,.no),(9,.no),(800000,.pv),(800001,.pv)] (.b (.l [(0,.fo 800000),(1,.no),(4,.fo 800001),(6,.no),(7,.no),(9,.no),(10,.no),(800000,.pv),(800001,.pv)] .o)) (.s .o (.s (.s .o (.b (.l [(0,.fo 800000),(1,.no),(4,.fo 800001),(6,.no),(7,.no),(9,.no),(11,.no),(12,.no),(107,.no),(108,.no),(800000,.pv),(800001,.pv)] .o))) (.s .o (.s .o (.j [(0,.fo 800000),(1,.no),(4,.fo 800001),(6,.no),(7,.no),(9,.no),(800000,.pv),(800001,.pv)] (.s .o (.s (.s .o (.s .o (.s (.s .o (.b (.l [(0,.fo 800000),(1,.no),(4,.fo 800001),(6,.no),(7,.no),(9,.no),(17,.no),(169,.no),(170,.no),(800000,.pv),(800001,.pv)] .o))) .o))) .o)) .o))))))))) .o))))) .o))))
def bQ.F(u v:List UInt16):OT:=cq PG dI 215 bQ.sg bQ.h [.sl .ws u,.sl .ws v]
def bQ.l1(x0:List UInt16)(x1 x2:Int)(x3 x4:List UInt16):OT:=cM PG dI 215 bQ.sg bQ.h 175 [.pt,.sl .ws x0,.pt,.i .i64 x1,.i .i64 x2,.sl .ws x3,.sl .ws x4]
def bQ.l2(x0:List UInt16)(x1 x2:Int)(x3 x4:UInt64)(x5 x6:List UInt16):OT:=cM PG dI 215 bQ.sg bQ.h 39215 [.pt,.sl .ws x0,.pt,.i .i64 x1,.i .i64 x2,.u64 x3,.u64 x4,.sl .ws x5,.sl .ws x6]
def bQ.j3(x0:List UInt16)(x1 x2:Int)(x3:UInt64)(x4 x5:List UInt16):OT:=di PG dI 215 bQ.sg bQ.h 14639 [.pt,.sl .ws x0,.pt,.i .i64 x1,.i .i64 x2,.u64 x3,.sl .ws x4,.sl .ws x5]
def bQ.l4(x0:List UInt16)(x1 x2:Int)(x3:UInt64)(x4:Int)(x5:UInt64)(x6 x7:Int)(x8 x9:List UInt16):OT:=cM PG dI 215 bQ.sg bQ.h 358703 [.pt,.sl .ws x0,.pt,.i .i64 x1,.i .i64 x2,.u64 x3,.i .i64 x4,.u64 x5,.i .i64 x6,.i .i64 x7,.sl .ws x8,.sl .ws x9]
def bQ.l5(x0:List UInt16)(x1 x2:Int)(x3:UInt64)(x4:UInt32)(x5 x6:Int)(x7 x8:List UInt16):OT:=cM PG dI 215 bQ.sg bQ.h 90962223 [.pt,.sl .ws x0,.pt,.i .i64 x1,.i .i64 x2,.u64 x3,.u32 x4,.i .i64 x5,.i .i64 x6,.sl .ws x7,.sl .ws x8]
def bQ.j6(x0:List UInt16)(x1 x2:Int)(x3:UInt64)(x4 x5:List UInt16):OT:=di PG dI 215 bQ.sg bQ.h 522543 [.pt,.sl .ws x0,.pt,.i .i64 x1,.i .i64 x2,.u64 x3,.sl .ws x4,.sl .ws x5]
theorem bQ.bM(x0:List UInt16)(x1 x2:Int)(x3 x4:List UInt16)(K:∀v1,v1=(IntKind.i64.wrap (x2+x1)).toNat->∀v2,v2=List.getD x3 v1 0->∀v3,v3=UInt64.ofInt (v2.toNat:Int)->∀v4,v4=iS v3 (16:UInt64).toNat->∀v5,v5=IntKind.i64.wrap ((IntKind.i64.wrap (x2+x1)) -1)->∀v6,v6=List.getD x3 v5.toNat 0->∀v7,v7=UInt64.ofInt (v6.toNat:Int)->∀v8,v8=IntKind.i64.wrap (x1 -1)->∀v9,v9=List.getD x0 v8.toNat 0->∀v10,v10=UInt64.ofInt (v9.toNat:Int)->cond (decide (0<=x2)) (ck (bF (IntKind.i64.wrap (x2+x1)) x3.length) (ck (decide (v1<x3.length)) (ck (bF v5 x3.length) (ck (decide (v5.toNat<x3.length)) (ck (bF v8 x0.length) (ck (!decide (v10=0)) (ck (bF v8 x0.length) (ck (!decide (v10=0)) (bQ.l2 x0 x1 x2 ((v4|||v7)/v10) ((v4|||v7)% v10) x3 x4))))))))) (ck (eM 0 x1 x3.length) (some [.sl .ws x4,.sl .ws (List.take x1.toNat x3)]))=ρ):bQ.l1 x0 x1 x2 x3 x4=ρ:=je (by kernel_rfl) (gQ (gQ K:):)
theorem bQ.gU(x0:List UInt16)(x1 x2:Int)(x3 x4:UInt64)(x5 x6:List UInt16)(K:∀v1,v1=IntKind.i64.wrap (x1 -2)->∀v2,v2=List.getD x0 v1.toNat 0->∀v3,v3=UInt64.ofInt (v2.toNat:Int)->∀v4,v4=iS x4 (16:UInt64).toNat->∀v5,v5=IntKind.i64.wrap ((IntKind.i64.wrap (x2+x1)) -2)->∀v6,v6=List.getD x5 v5.toNat 0->∀v7,v7=UInt64.ofInt (v6.toNat:Int)->∀v8,v8=decide ((v4|||v7)<(x3*v3))->∀v9,v9=cond (decide (65535<x3)) true v8->∀v10,v10=IntKind.i64.wrap (x1 -1)->∀v11,v11=List.getD x0 v10.toNat 0->∀v12,v12=UInt64.ofInt (v11.toNat:Int)->ck (!(!(decide (65535<x3)))||(!(decide (65535<x3)))) (ck (!(!(decide (65535<x3)))||(((!(decide (65535<x3)))&&(!(decide (65535<x3))))&&(bF v1 x0.length))) (ck (!(!(decide (65535<x3)))||(!(decide (65535<x3)))) (ck (!(!(decide (65535<x3)))||(!(decide (65535<x3)))) (ck (!(!(decide (65535<x3)))||((!(decide (65535<x3)))&&(!(decide (65535<x3))))) (ck (!(!(decide (65535<x3)))||(!(decide (65535<x3)))) (ck (!(!(decide (65535<x3)))||((!(decide (65535<x3)))&&(!(decide (65535<x3))))) (ck (!(!(decide (65535<x3)))||(!(decide (65535<x3)))) (ck (!(!(decide (65535<x3)))||(((!(decide (65535<x3)))&&(!(decide (65535<x3))))&&(bF v5 x5.length))) (ck (!(!(decide (65535<x3)))||((!(decide (65535<x3)))&&(decide (v5.toNat<x5.length)))) (ck (!(!(decide (65535<x3)))||(!(decide (65535<x3)))) (ck (!(!(decide (65535<x3)))||((!(decide (65535<x3)))&&(!(decide (65535<x3))))) (ck (!(!(decide (65535<x3)))||((!(decide (65535<x3)))&&(!(decide (65535<x3))))) (ck ((decide (65535<x3))||(!(decide (65535<x3)))) (cond v9 (ck (bF v10 x0.length) (cond (decide (65535<(x4+v12))) (bQ.j3 x0 x1 x2 (x3 -1) x5 x6) (bQ.l2 x0 x1 x2 (x3 -1) (x4+v12) x5 x6))) (bQ.j3 x0 x1 x2 x3 x5 x6)))))))))))))))=ρ):bQ.l2 x0 x1 x2 x3 x4 x5 x6=ρ:=je (by kernel_rfl) (gQ (mg (gQ K:):):)
theorem bQ.CQ(x0:List UInt16)(x1 x2:Int)(x3:UInt64)(x4 x5:List UInt16):bQ.j3 x0 x1 x2 x3 x4 x5=bQ.l4 x0 x1 x2 x3 0 0 x1 0 x4 x5:=ly (by kernel_rfl) rfl
theorem bQ.pk(x0:List UInt16)(x1 x2:Int)(x3:UInt64)(x4:Int)(x5:UInt64)(x6 x7:Int)(x8 x9:List UInt16)(K:∀v1,v1=List.getD x0 x7.toNat 0->∀v2,v2=UInt64.ofInt (v1.toNat:Int)->∀v3,v3=cE ((x3*v2)+x5) (16:UInt64).toNat->∀v4,v4=(IntKind.i64.wrap (x7+x2)).toNat->∀v5,v5=List.getD x8 v4 0->∀v6,v6=IntKind.i64.wrap (v5.toNat:Int)->∀v7,v7=(((x3*v2)+x5)&&&65535)->∀v8,v8=IntKind.i64.wrap (v7.toNat:Int)->∀v9,v9=IntKind.i64.wrap ((IntKind.i64.wrap (v6 -x4)) -v8)->∀v10,v10=Int.fdiv v9 (2^(min (16:UInt64).toNat (IntKind.i64.bits)))->∀v11,v11=db .and .i64 v10 1->∀v12,v12=List.set x8 v4 (UInt16.ofInt v9)->∀kx,kx=IntKind.i64.wrap (x7+1)->∀kg,kg=(IntKind.i64.wrap (x2+x1)).toNat->∀kf,kf=List.getD x8 kg 0->∀oD,oD=IntKind.i64.wrap (kf.toNat:Int)->∀uF,uF=IntKind.i64.wrap (oD -x4)->∀o9,o9=IntKind.i64.wrap (x5.toNat:Int)->∀sI,sI=IntKind.i64.wrap (uF -o9)->∀v20,v20=List.set x8 kg (UInt16.ofInt sI)->cond (decide (x7<x6)) (ck (bF x7 x0.length) (ck (bF (IntKind.i64.wrap (x7+x2)) x8.length) (ck (decide (v4<x8.length)) (ck (bF (IntKind.i64.wrap (x7+x2)) x8.length) (ck (decide (v4<x8.length)) (bQ.l4 x0 x1 x2 x3 v11 v3 x6 kx v12 x9)))))) (ck (bF (IntKind.i64.wrap (x2+x1)) x8.length) (ck (decide (kg<x8.length)) (ck (bF (IntKind.i64.wrap (x2+x1)) x8.length) (ck (decide (kg<x8.length)) (cond (decide (sI<0)) (bQ.l5 x0 x1 x2 (x3 -1) 0 x1 0 v20 x9) (bQ.j6 x0 x1 x2 x3 v20 x9))))))=ρ):bQ.l4 x0 x1 x2 x3 x4 x5 x6 x7 x8 x9=ρ:=je (by kernel_rfl) (gQ (gQ (gQ (gQ K:):):):)
theorem bQ.yd(x0:List UInt16)(x1 x2:Int)(x3:UInt64)(x4:UInt32)(x5 x6:Int)(x7 x8:List UInt16)(K:∀v1,v1=(IntKind.i64.wrap (x6+x2)).toNat->∀v2,v2=List.getD x7 v1 0->∀v3,v3=UInt32.ofInt (v2.toNat:Int)->∀v4,v4=List.getD x0 x6.toNat 0->∀v5,v5=UInt32.ofInt (v4.toNat:Int)->∀v6,v6=UInt16.ofInt ((x4+(v3+v5)).toNat:Int)->∀v7,v7=xn (x4+(v3+v5)) (16:UInt64).toNat->∀v8,v8=IntKind.i64.wrap (x6+1)->∀v9,v9=(IntKind.i64.wrap (x2+x1)).toNat->∀v10,v10=List.getD x7 v9 0->∀v11,v11=UInt16.ofInt (x4.toNat:Int)->∀v12,v12=List.set x7 v9 (v10+v11)->cond (decide (x6<x5)) (ck (bF (IntKind.i64.wrap (x6+x2)) x7.length) (ck (decide (v1<x7.length)) (ck (bF x6 x0.length) (ck (bF (IntKind.i64.wrap (x6+x2)) x7.length) (ck (decide (v1<x7.length)) (bQ.l5 x0 x1 x2 x3 v7 x5 v8 (List.set x7 v1 v6) x8)))))) (ck (bF (IntKind.i64.wrap (x2+x1)) x7.length) (ck (decide (v9<x7.length)) (ck (bF (IntKind.i64.wrap (x2+x1)) x7.length) (ck (decide (v9<x7.length)) (bQ.j6 x0 x1 x2 x3 v12 x8)))))=ρ):bQ.l5 x0 x1 x2 x3 x4 x5 x6 x7 x8=ρ:=je (by kernel_rfl) (gQ (mg (gQ K:):):)
theorem bQ.Kf(x0:List UInt16)(x1 x2:Int)(x3:UInt64)(x4 x5:List UInt16)(K:∀v1,v1=UInt16.ofInt (x3.toNat:Int)->∀v2,v2=List.set x5 x2.toNat v1->∀v3,v3=IntKind.i64.wrap (x2 -1)->ck (bF x2 x5.length) (ck (decide (x2.toNat<x5.length)) (bQ.l1 x0 x1 v3 x4 v2))=ρ):bQ.j6 x0 x1 x2 x3 x4 x5=ρ:=ly (by kernel_rfl) (pn K:)
theorem bQ.bU(u v:List UInt16)(K:∀v1,v1=([0]:List UInt16)->∀v2,v2=IntKind.i64.wrap (((u++v1).length:Int) -(v.length:Int))->∀v3,v3=List.replicate v2.toNat 0->∀v4,v4=IntKind.i64.wrap (v2 -1)->ck (dY (u.length+v1.length) 2) (ck (sP v2 v2 2) (bQ.l1 v (v.length:Int) v4 (u++v1) v3))=ρ):bQ.F u v=ρ:=Eq.trans (by kernel_rfl) (qz K:)
def lI.E:cH:=dc gH zs [(147,iH.c,bC),(177,jc.c,bC),(178,iq.c,pf),(179,dq.c,bC),(212,gW.c,bC),(213,jE.c,pf),(214,gC.c,bR),(215,bQ.c,bQ.sg),(216,fv.c,bC),(217,dW.c,bC)]
def lI.F(a b:List UInt16):OT:=cq PG lI.E 182 gA (.o) [.sl .ws a,.sl .ws b]
theorem lI.bU(a b:List UInt16)(K:∀v1,v1=cond (!(Nt.is a)) true (!(Nt.is b))->∀v2,v2=cond v1 true (decide ((b.length:Int)=0))->∀v3,v3=Nt.cmp (Nt.val a) (Nt.val b)->∀v4,v4=List.getD b (0:Int).toNat 0->∀v5,v5=Nt.of (Nt.val a/v4.toNat)->∀v6,v6=UInt16.ofNat (Nt.val a% v4.toNat)->∀v7,v7=UInt64.ofInt (v6.toNat:Int)->∀v8,v8=IntKind.i64.wrap ((b.length:Int) -1)->∀v9,v9=List.getD b v8.toNat 0->∀v10,v10=IntKind.i64.wrap (16 -(Nt.bits v9.toNat:Int))->∀v11,v11=Nt.of (Nt.val a*2^v10.toNat)->∀v12,v12=Nt.of (Nt.val b*2^v10.toNat)->∀kx,kx=Nt.fix (v11.length+1 -v12.length) (Nt.val v11/Nt.val v12)->∀kg,kg=Nt.fix v12.length (Nt.val v11% Nt.val v12)->∀kf,kf=Nt.of (Nt.val (Nt.of (Nt.val kg))/2^v10.toNat)->ck (decide (a.length<=1099511627776)) (ck (!(!(!(Nt.is a)))||((!(!(Nt.is a)))&&(decide (b.length<=1099511627776)))) (ck (!(!(!(Nt.is a)))||(!(!(Nt.is a)))) (ck ((!(Nt.is a))||(!(!(Nt.is a)))) (ck (!(!v1)||(!v1)) (ck (!(!v1)||(!v1)) (ck (v1||(!v1)) (cond v2 (some [.sl .ws ([]:List UInt16),.sl .ws ([]:List UInt16),.b false]) (ck (decide (a.length<=1099511627776/\b.length<=1099511627776)&&(Nt.norm a&&Nt.norm b)) (cond (decide (v3<0)) (ck (dY a.length 2) (some [.sl .ws ([]:List UInt16),.sl .ws a,.b true])) (cond (decide ((b.length:Int)=1)) (ck (bF 0 b.length) (ck (decide (a.length<=1000000/\v4≠0)) (some [.sl .ws v5,.sl .ws (Nt.of v7.toNat),.b true]))) (ck (bF v8 b.length) (ck (decide (a.length<=1000000/\0<=v10/\v10<16)&&Nt.norm a) (ck (decide (b.length<=1000000/\0<=v10/\v10<16)&&Nt.norm b) (ck (decide (v11.length<=1000000/\2<=v12.length/\v12.length<=v11.length/\32768<=(v12.getLast?.getD 0).toNat)) (ck (decide (kx.length<=1099511627776)) (ck (decide (kg.length<=1099511627776)) (ck (decide ((Nt.of (Nt.val kg)).length<=1000000/\0<=v10/\v10<16)) (some [.sl .ws (Nt.of (Nt.val kx)),.sl .ws kf,.b true]))))))))))))))))))=ρ):lI.F a b=ρ:=Eq.trans (by kernel_rfl) (gQ (gQ (gQ K:):):)
def mK.E:cH:=dc gH zs [(177,jc.c,bC),(178,iq.c,pf)]
def mK.F(a:List UInt16)(n:Int):OT:=cq PG mK.E 148 bC (.o) [.sl .ws a,.i .i64 n]
theorem mK.bU(a:List UInt16)(n:Int)(K:∀v1,v1=cond (!(Nt.is a)) true (decide (n<(0:Int)))->∀v2,v2=cond v1 true (decide ((4096:Int)<n))->∀v3,v3=cond v2 true (decide ((a.length:Int)=(0:Int)))->∀v4,v4=IntKind.i64.wrap (Int.tdiv n (16:Int))->∀v5,v5=List.replicate v4.toNat (0:UInt16)->∀v6,v6=Nt.of (Nt.val a*2^(Int.tmod n (16:Int)).toNat)->ck (decide (a.length<=1099511627776)) (ck (!(!(!(Nt.is a)))||(!(!(Nt.is a)))) (ck ((!(Nt.is a))||(!(!(Nt.is a)))) (ck (!(!v1)||(!v1)) (ck (v1||(!v1)) (ck (!(!v2)||(!v2)) (ck (!(!v2)||(!v2)) (ck (v2||(!v2)) (cond v3 (some [.sl .ws ([]:List UInt16)]) (ck (!decide ((16:Int)=0)) (ck (sP v4 v4 2) (ck (!decide ((16:Int)=0)) (ck (decide (a.length<=1000000/\0<=(Int.tmod n (16:Int))/\(Int.tmod n (16:Int))<16)&&Nt.norm a) (ck (dY (v5.length+v6.length) 2) (some [.sl .ws (v5++v6)]))))))))))))))=ρ):mK.F a n=ρ:=Eq.trans (by kernel_rfl) (gQ (lP K:):)
def eJ.h:Hint:=.s .o (.s .o (.s .o (.s (.s .o (.b (.l [(1,.no),(7,.fo 800000),(800000,.pv),(8,.no),(16,.no),(17,.no),(18,.no)] .o))) (.j [(7,.fo 800000),(800000,.pv)] .o .o))))
def eJ.F(a:List UInt16)(b c:Int):OT:=cq PG dI 233 bC eJ.h [.sl .ws a,.i .i64 b,.i .i64 c]
def eJ.l1(x0:Int)(x1:List UInt16)(x2:Int)(x3:List UInt16)(x4 x5:Int):OT:=cM PG dI 233 bC eJ.h 87 [.i .i64 x0,.pt,.sl .ws x1,.i .i64 x2,.sl .ws x3,.i .i64 x4,.i .i64 x5]
def eJ.j2(x0:List UInt16):OT:=di PG dI 233 bC eJ.h 31 [.pt,.sl .ws x0]
theorem eJ.bM(x0:Int)(x1:List UInt16)(x2:Int)(x3:List UInt16)(x4 x5:Int)(K:∀v1,v1=List.getD x3 x5.toNat 0->∀v2,v2=IntKind.i64.wrap (v1.toNat:Int)->∀v3,v3=IntKind.i64.wrap (x2+(IntKind.i64.wrap (v2*x0)))->∀v4,v4=([UInt16.ofInt v3]:List UInt16)->∀v5,v5=Int.fdiv v3 (2^(min (16:UInt64).toNat (IntKind.i64.bits)))->∀v6,v6=IntKind.i64.wrap (x5+1)->∀v7,v7=([UInt16.ofInt x2]:List UInt16)->cond (decide (x5<x4)) (ck (bF x5 x3.length) (ck (dY (x1.length+v4.length) 2) (eJ.l1 x0 (x1++v4) v5 x3 x4 v6))) (cond (decide (0<x2)) (ck (dY (x1.length+v7.length) 2) (eJ.j2 (x1++v7))) (eJ.j2 x1))=ρ):eJ.l1 x0 x1 x2 x3 x4 x5=ρ:=je (by kernel_rfl) (gQ (mg K:):)
theorem eJ.kn(x0:List UInt16):eJ.j2 x0=some [.sl .ws x0]:=ly (by kernel_rfl) rfl
theorem eJ.bU(a:List UInt16)(b c:Int)(K:∀v1,v1=IntKind.i64.wrap ((a.length:Int)+1)->∀v2,v2=List.replicate (0:Int).toNat 0->ck (sP 0 v1 2) (eJ.l1 b v2 c a (a.length:Int) 0)=ρ):eJ.F a b c=ρ:=Eq.trans (by kernel_rfl) (mg K:)
def dZ.E:cH:=dc gH zs [(147,iH.c,bC),(177,jc.c,bC),(233,eJ.c,bC)]
def dZ.h:Hint:=.s .o (.s .o (.s .o (.s (.b (.l (sc [0,1,6]) .o)) .o)))
def dZ.F(b e:Int):OT:=cq PG dZ.E 210 bR dZ.h [.i .i64 b,.i .i64 e]
def dZ.l1(x0 x1:Int)(x2:List UInt16):OT:=cM PG dZ.E 210 bR dZ.h 39 [.i .i64 x0,.i .i64 x1,.sl .ws x2]
theorem dZ.bM(x0 x1:Int)(x2:List UInt16)(K:∀v1,v1=Nt.of (Nt.val x2*x0.toNat+(0:Int).toNat)->∀v2,v2=IntKind.i64.wrap (x1 -(1:Int))->cond (decide ((0:Int)<x1)) (ck (decide (x2.length<=1000000/\1<=x0/\x0<=65535/\0<=(0:Int)/\(0:Int)<=65535)&&Nt.norm x2) (ck (decide (v1.length<=1099511627776)) (cond (!(Nt.is v1)) (some [.sl .ws ([]:List UInt16),.b false]) (dZ.l1 x0 v2 v1)))) (some [.sl .ws x2,.b true])=ρ):dZ.l1 x0 x1 x2=ρ:=je (by kernel_rfl) (mg K:)
theorem dZ.bU(b e:Int)(K:∀v1,v1=cond (decide (b<0)) true (decide (65535<b))->∀v2,v2=cond v1 true (decide (e<0))->∀v3,v3=cond (decide (e=0)) true (decide (b=1))->∀v4,v4=Nt.of (1:UInt64).toNat->ck (!(!(decide (b<0)))||(!(decide (b<0)))) (ck ((decide (b<0))||(!(decide (b<0)))) (ck (!(!v1)||(!v1)) (ck (v1||(!v1)) (cond v2 (some [.sl .ws ([]:List UInt16),.b false]) (ck (!(!(decide (e=0)))||(!(decide (e=0)))) (ck ((decide (e=0))||(!(decide (e=0)))) (cond v3 (some [.sl .ws v4,.b true]) (cond (decide (b=0)) (some [.sl .ws ([]:List UInt16),.b true]) (dZ.l1 b e v4)))))))))=ρ):dZ.F b e=ρ:=Eq.trans (by kernel_rfl) (qz K:)
def eU.E:cH:=dc gH zs [(177,jc.c,bC),(233,eJ.c,bC)]
def eU.h:Hint:=.s .o (.s .o (.s .o (.s (.s .o (.b (.l (sc [0,4,24,25]) .o))) .o)))
def eU.F(s:bD):OT:=cq PG eU.E 242 bR eU.h [.s s]
def eU.l1(x0:bD)(x1:List UInt16)(x2 x3:Int):OT:=cM PG eU.E 242 bR eU.h 87 [.s x0,.sl .ws x1,.i .i64 x2,.i .i64 x3]
theorem eU.bM(x0:bD)(x1:List UInt16)(x2 x3:Int)(K:∀v1,v1=List.getD x0 x3.toNat (0:UInt8)->∀v2,v2=cond (decide (v1<(48:UInt8))) true (decide ((57:UInt8)<v1))->∀v3,v3=IntKind.i64.wrap ((v1 -(48:UInt8)).toNat:Int)->∀v4,v4=Nt.of (Nt.val x1*(10:Int).toNat+v3.toNat)->∀v5,v5=IntKind.i64.wrap (x3+(1:Int))->cond (decide (x3<x2)) (ck (bF x3 x0.length) (ck (!(!(decide (v1<(48:UInt8))))||(((!(decide (v1<(48:UInt8))))&&(!(decide (v1<(48:UInt8)))))&&(bF x3 x0.length))) (ck (!(!(decide (v1<(48:UInt8))))||(!(decide (v1<(48:UInt8))))) (ck ((decide (v1<(48:UInt8)))||(!(decide (v1<(48:UInt8))))) (cond v2 (some [.sl .ws ([]:List UInt16),.b false]) (ck (bF x3 x0.length) (ck (decide (x1.length<=1000000/\1<=(10:Int)/\(10:Int)<=65535/\0<=v3/\v3<=65535)&&Nt.norm x1) (eU.l1 x0 v4 x2 v5)))))))) (ck (decide (x1.length<=1099511627776)) (cond (!(Nt.is x1)) (some [.sl .ws ([]:List UInt16),.b false]) (some [.sl .ws x1,.b true])))=ρ):eU.l1 x0 x1 x2 x3=ρ:=je (by kernel_rfl) (gQ K:)
theorem eU.bU(s:bD)(K:∀v1,v1=cond (decide (s=[])) true (decide (1240<(s.length:Int)))->∀v2,v2=List.getD s (0:Int).toNat 0->∀v3,v3=((!v1)&&(decide (v2=48)))->∀v4,v4=cond (decide (v2=48)) (decide (1<(s.length:Int))) false->ck (!(!(decide (s=[])))||(!(decide (s=[])))) (ck (!(!(decide (s=[])))||(!(decide (s=[])))) (ck ((decide (s=[]))||(!(decide (s=[])))) (ck (!(!v1)||((!v1)&&(bF 0 s.length))) (ck (!(!v1)||(!v1)) (ck (!(!v1)||(!v1)) (ck (!v3||v3) (ck (!v3||v3) (ck (!(!v1)||((!v1)&&(!(decide (v2=48))||v3))) (ck (v1||(!v1)) (cond (cond v1 true v4) (some [.sl .ws ([]:List UInt16),.b false]) (eU.l1 s ([]:List UInt16) (s.length:Int) 0)))))))))))=ρ):eU.F s=ρ:=Eq.trans (by kernel_rfl) (qz K:)
def fP.E:cH:=dc gH zs [(205,bits_Len64.c,bC),(232,uo.c,bC)]
def fP.h:Hint:=.s .o (.s .o (.j (sc [1,2,8]) .o .o))
def fP.F(n:Bool)(m:UInt64)(e:Int):OT:=cq PG fP.E 257 bR fP.h [.b n,.u64 m,.i .i64 e]
def fP.j1(x0:UInt64)(x1:Int)(x2:UInt64):OT:=di PG fP.E 257 bR fP.h 7 [.u64 x0,.i .i64 x1,.u64 x2]
theorem fP.gM(x0:UInt64)(x1:Int)(x2:UInt64)(K:∀v1,v1=cond (decide (x1<(-2000))) true (decide (2000<x1))->∀v2,v2=(Lib.ctz 64 x0.toNat:Int)->∀v3,v3=(Nt.bits (cE x0 v2.toNat).toNat:Int)->∀v4,v4=cond (decide (53<v3)) true (decide ((IntKind.i64.wrap (x1+v2))<(-1074)))->∀v5,v5=IntKind.i64.wrap ((IntKind.i64.wrap (x1+v2))+v3)->∀v6,v6=cond v4 true (decide (1024<v5))->∀v7,v7=IntKind.i64.wrap (v5 -1)->∀v8,v8=IntKind.i64.wrap ((IntKind.i64.wrap (x1+v2))+1074)->∀v9,v9=iS (cE x0 v2.toNat) v8.toNat->∀v10,v10=IntKind.i64.wrap (53 -v3)->∀v11,v11=iS (cE x0 v2.toNat) v10.toNat->∀v12,v12=IntKind.i64.wrap ((IntKind.i64.wrap (x1+v2)) -v10)->∀kx,kx=IntKind.i64.wrap (v12+1075)->∀kg,kg=iS (UInt64.ofInt kx) (52:UInt64).toNat->∀kf,kf=(v11&&&4503599627370495)->cond (decide (x0=0)) (some [.u64 x2,.b true]) (ck (!(!(decide (x1<(-2000))))||(!(decide (x1<(-2000))))) (ck ((decide (x1<(-2000)))||(!(decide (x1<(-2000))))) (cond v1 (some [.u64 0,.b false]) (ck (decide (0<=v2)) (ck (!(!(decide (53<v3)))||(!(decide (53<v3)))) (ck ((decide (53<v3))||(!(decide (53<v3)))) (ck (!(!v4)||((!v4)&&(!v4))) (ck (!(!v4)||(!v4)) (ck (v4||(!v4)) (cond v6 (some [.u64 0,.b false]) (cond (decide (v7<(-1022))) (ck (decide (0<=v8)) (some [.u64 (x2|||v9),.b true])) (ck (decide (0<=v10)) (some [.u64 ((x2|||kg)|||kf),.b true])))))))))))))=ρ):fP.j1 x0 x1 x2=ρ:=ly (by kernel_rfl) (gQ (gQ (gQ K:):):)
theorem fP.de(n:Bool)(m:UInt64)(e:Int):fP.F n m e=cond n (fP.j1 m e 9223372036854775808) (fP.j1 m e 0):=by kernel_rfl
def dp.E:cH:=dc gH zs [(148,mK.c,bC),(181,kJ.c,bC),(182,lI.c,gA),(266,eT.c,bR)]
def dp.h:Hint:=.s .o (.j (sc [0,1]) .o .o)
def dp.F(a b:List UInt16)(e:Int):OT:=cq PG dp.E 256 bR dp.h [.sl .ws a,.sl .ws b,.i .i64 e]
def dp.j1(x0 x1:List UInt16):OT:=di PG dp.E 256 bR dp.h 3 [.sl .ws x0,.sl .ws x1]
theorem dp.gM(x0 x1:List UInt16)(K:∀v1,v1=Nt.of (Nt.val x0/Nt.val x1)->∀v2,v2=Nt.of (Nt.val x0% Nt.val x1)->∀v3,v3=Nt.of (Nt.val v2*2^(1:Int).toNat)->∀v4,v4=Nt.cmp (Nt.val v3) (Nt.val x1)->∀v5,v5=((!(decide ((0:Int)<v4)))&&(decide (v4=(0:Int))))->∀v6,v6=(UInt64.ofNat (Nt.val v1))%(2:UInt64)->∀v7,v7=cond (decide (v4=(0:Int))) (decide (v6=(1:UInt64))) false->∀v8,v8=cond (decide ((0:Int)<v4)) true v7->∀v9,v9=(UInt64.ofNat (Nt.val v1))+(1:UInt64)->ck (Nt.is x0&&Nt.is x1&&decide (x1≠[])) (ck (decide (Nt.is v1=true/\v1.length<=4)) (ck (decide (0<=(1:Int)/\(1:Int)<=4096)&&Nt.is v2) (ck (Nt.is v3&&Nt.is x1) (ck (!(!(decide ((0:Int)<v4)))||(!(decide ((0:Int)<v4)))) (ck (!(!(decide ((0:Int)<v4)))||(!(decide ((0:Int)<v4)))) (ck (!v5||(v5&&(!decide ((2:UInt64)=0)))) (ck (!v5||v5) (ck (!(!(decide ((0:Int)<v4)))||((!(decide ((0:Int)<v4)))&&(!(decide (v4=(0:Int)))||v5))) (ck ((decide ((0:Int)<v4))||(!(decide ((0:Int)<v4)))) (cond v8 (some [.u64 v9,.b (decide (v9=(9007199254740992:UInt64)))]) (some [.u64 (UInt64.ofNat (Nt.val v1)),.b false])))))))))))=ρ):dp.j1 x0 x1=ρ:=ly (by kernel_rfl) (gQ (qz K:):)
theorem dp.bU(a b:List UInt16)(e:Int)(K:∀v1,v1=Nt.of (Nt.val a*2^(IntKind.i64.wrap (0 -e)).toNat)->∀v2,v2=Nt.of (Nt.val b*2^e.toNat)->cond (decide (e<0)) (ck (decide (0<=(IntKind.i64.wrap (0 -e))/\(IntKind.i64.wrap (0 -e))<=4096)&&Nt.is a) (dp.j1 v1 b)) (ck (decide (0<=e/\e<=4096)&&Nt.is b) (dp.j1 a v2))=ρ):dp.F a b e=ρ:=Eq.trans (by kernel_rfl) (mg K:)
def eO.E:cH:=dc gH zs [(149,jT.c,bC),(256,dp.c,bR),(257,fP.c,bR)]
def eO.h:Hint:=.s .o (.s .o (.s .o (.j (sc [6,7]) .o .o)))
def eO.F(a b:List UInt16):OT:=cq PG eO.E 243 bR eO.h [.sl .ws a,.sl .ws b]
def eO.j1(x0:Int)(x1:UInt64):OT:=di PG eO.E 243 bR eO.h 15 [.i .i64 x0,.u64 x1]
theorem eO.gM(x0:Int)(x1:UInt64)(K:∀v1,v1=Nr.pat (Nr.join false x1.toNat x0)->∀v2,v2=(Nr.join false x1.toNat x0).isSome->ck (decide (-1100<=x0/\x0<=2000)) (some [.u64 v1,.b v2])=ρ):eO.j1 x0 x1=ρ:=ly (by kernel_rfl) (mg K:)
theorem eO.bU(a b:List UInt16)(K:∀v1,v1=IntKind.i64.wrap ((Nt.bits (Nt.val a):Int) -(Nt.bits (Nt.val b):Int))->∀v2,v2=IntKind.i64.wrap (v1 -53)->∀v3,v3=UInt64.ofNat (Nr.yU (Nr.lL (Nt.val a) (qI v2 (-1074))) (Nr.lu (Nt.val b) (qI v2 (-1074))))->∀v4,v4=Nr.pg (Nr.lL (Nt.val a) (qI v2 (-1074))) (Nr.lu (Nt.val b) (qI v2 (-1074)))->∀v5,v5=cond (decide (9007199254740992<=v3)) (!v4) false->∀v6,v6=IntKind.i64.wrap ((qI v2 (-1074))+1)->∀v7,v7=UInt64.ofNat (Nr.yU (Nr.lL (Nt.val a) v6) (Nr.lu (Nt.val b) v6))->∀v8,v8=Nr.pg (Nr.lL (Nt.val a) v6) (Nr.lu (Nt.val b) v6)->ck (Nt.is a) (ck (Nt.is b) (ck (Nt.is a&&Nt.is b&&decide (-4096<=(qI v2 (-1074))/\(qI v2 (-1074))<=4096/\0<Nt.val b/\Nr.lL (Nt.val a) (qI v2 (-1074))<2^4090/\Nr.lu (Nt.val b) (qI v2 (-1074))<2^4090/\Nr.lL (Nt.val a) (qI v2 (-1074))<2^60*Nr.lu (Nt.val b) (qI v2 (-1074)))) (ck (!(decide (9007199254740992<=v3))||(decide (9007199254740992<=v3))) (ck (!(decide (9007199254740992<=v3))||(decide (9007199254740992<=v3))) (cond v5 (ck (Nt.is a&&Nt.is b&&decide (-4096<=v6/\v6<=4096/\0<Nt.val b/\Nr.lL (Nt.val a) v6<2^4090/\Nr.lu (Nt.val b) v6<2^4090/\Nr.lL (Nt.val a) v6<2^60*Nr.lu (Nt.val b) v6)) (eO.j1 v6 v7)) (eO.j1 (qI v2 (-1074)) v3))))))=ρ):eO.F a b=ρ:=Eq.trans (by kernel_rfl) (gQ (pn K:):)
def fO.E:cH:=dc gH zs [(147,iH.c,bC),(157,kX.c,bC),(210,dZ.c,bR),(211,eW.c,bC),(219,kp.c,bC),(241,tj.c,bC),(242,eU.c,bR),(243,eO.c,bR)]
def fO.h:Hint:=.s .o (.s .o (.s .o (.s .o (.s .o (.s .o (.s .o (.s .o (.s .o (.s .o (.j (sc [7,9]) .o .o))))))))))
def fO.F(d:bD)(x:Int):OT:=cq PG fO.E 220 bR fO.h [.s d,.i .i64 x]
def fO.j1(x0 x1:List UInt16):OT:=di PG fO.E 220 bR fO.h 2047 [.sl .ws x0,.sl .ws x1]
theorem fO.gM(x0 x1:List UInt16)(K:∀v1,v1=Nr.pat (Nr.jW (Nt.val x0) (Nt.val x1))->∀v2,v2=(Nr.jW (Nt.val x0) (Nt.val x1)).isSome->ck (Nt.is x0&&Nt.is x1&&decide (0<Nt.val x0/\0<Nt.val x1/\Nt.val x0<2^1100/\Nt.val x1<2^2200)) (some [.u64 v1,.b v2])=ρ):fO.j1 x0 x1=ρ:=ly (by kernel_rfl) (mg K:)
theorem fO.bU(d:bD)(x:Int)(K:∀(v1:Bool)(h1:v1=(cond (decide (((d).length:Int)<(1:Int))) true (decide ((300:Int)<((d).length:Int)))))(v2:bD)(h2:v2=(Lib.trimS d (([48,49,50,51,52,53,54,55,56,57]:bD))))(v3:Bool)(h3:v3=(cond v1 true (!decide (v2=([]:bD)))))(v4:bD)(h4:v4=(Lib.trimLeftS d (([48]:bD))))(v5:Bool)(h5:v5=(cond (decide (v4=([]:bD))) true (decide (x<(-1000:Int)))))(v6:Int)(h6:v6=(IntKind.i64.wrap (((d).length:Int) -((v4).length:Int))))(v7:bD)(h7:v7=(Lib.trimRightS v4 (([48]:bD))))(v8:List UInt16)(h8:v8=(Nt.of (((1:UInt64))).toNat))(v9:Int)(h9:v9=(IntKind.i64.wrap ((IntKind.i64.wrap (x -v6)) -((v7).length:Int))))(v10:List UInt16)(iZ:v10=(Nt.of ((((10:Int))).toNat^(v9).toNat)))(v11:List UInt16)(lJ:v11=(Nt.of (Nt.val ((Nt.of (Nr.num v7)))*Nt.val v10)))(v12:List UInt16)(mh:v12=(Nt.of ((((10:Int))).toNat^(((IntKind.i64.wrap (0 -v9)))).toNat))),ck (!(!(decide (((d).length:Int)<(1:Int))))||(!(decide (((d).length:Int)<(1:Int))))) (ck (!(!(decide (((d).length:Int)<(1:Int))))||(!(decide (((d).length:Int)<(1:Int))))) (ck ((decide (((d).length:Int)<(1:Int)))||(!(decide (((d).length:Int)<(1:Int))))) (ck (!(!v1)||((!v1)&&(decide ((d).length<=1099511627776/\((([48,49,50,51,52,53,54,55,56,57]:bD))).length<=100)&&((([48,49,50,51,52,53,54,55,56,57]:bD))).all (λb=>decide (b.toNat<128))))) (ck (!(!v1)||(!v1)) (ck (v1||(!v1)) (cond v3 (some [(.u64 0),(.b false)]) (ck (decide ((d).length<=1099511627776/\((([48]:bD))).length<=100)&&((([48]:bD))).all (λb=>decide (b.toNat<128))) (ck (!(!(decide (v4=([]:bD))))||(!(decide (v4=([]:bD))))) (ck ((decide (v4=([]:bD)))||(!(decide (v4=([]:bD))))) (cond v5 (some [(.u64 0),(.b true)]) (cond (decide ((1000:Int)<x)) (some [(.u64 0),(.b false)]) (ck (decide ((v4).length<=1099511627776/\((([48]:bD))).length<=100)&&((([48]:bD))).all (λb=>decide (b.toNat<128))) (cond (decide ((IntKind.i64.wrap (x -v6))<(-330:Int))) (some [(.u64 0),(.b true)]) (cond (decide ((310:Int)<(IntKind.i64.wrap (x -v6)))) (some [(.u64 0),(.b false)]) (ck (decide (1<=(v7).length/\(v7).length<=300/\(v7).getD 0 0≠48)&&(v7).all Nr.dA) (cond (decide ((0:Int)<=v9)) (ck (decide (2<=((10:Int))/\((10:Int))<=65535/\0<=v9/\v9<=1000/\(((10:Int))).toNat^(v9).toNat<2^4096)) (ck (Nt.is ((Nt.of (Nr.num v7)))&&Nt.is v10) (fO.j1 v11 v8))) (ck (decide (2<=((10:Int))/\((10:Int))<=65535/\0<=((IntKind.i64.wrap (0 -v9)))/\((IntKind.i64.wrap (0 -v9)))<=1000/\(((10:Int))).toNat^(((IntKind.i64.wrap (0 -v9)))).toNat<2^4096)) (fO.j1 (Nt.of (Nr.num v7)) v12))))))))))))))))))=ρ):fO.F d x=ρ:=Eq.trans (by kernel_rfl) (K _ rfl _ rfl _ rfl _ rfl _ rfl _ rfl _ rfl _ rfl _ rfl _ rfl _ rfl _ rfl)
def qC.F(s:bD)(at_:Int)(c d:UInt8):OT:=cq PG dI 102 bC (.o) [.s s,.i .i64 at_,.u8 c,.u8 d]
theorem qC.bU(s:bD)(at_:Int)(c d:UInt8)(K:∀v1,v1=List.getD s at_.toNat 0->∀v2,v2=((decide (at_<(s.length:Int)))&&(!(decide (v1=c))))->∀v3,v3=cond (decide (v1=c)) true (decide (v1=d))->∀v4,v4=cond (decide (at_<(s.length:Int))) v3 false->ck (!(decide (at_<(s.length:Int)))||(((decide (at_<(s.length:Int)))&&(decide (at_<(s.length:Int))))&&(bF at_ s.length))) (ck (!(decide (at_<(s.length:Int)))||((decide (at_<(s.length:Int)))&&(decide (at_<(s.length:Int))))) (ck (!(decide (at_<(s.length:Int)))||(decide (at_<(s.length:Int)))) (ck (!v2||((v2&&v2)&&(bF at_ s.length))) (ck (!v2||(v2&&v2)) (ck (!(decide (at_<(s.length:Int)))||((decide (at_<(s.length:Int)))&&((decide (v1=c))||v2))) (ck (!(decide (at_<(s.length:Int)))||(decide (at_<(s.length:Int)))) (some [.b v4])))))))=ρ):qC.F s at_ c d=ρ:=Eq.trans (by kernel_rfl) (qz K:)
def eD.h:Hint:=.s .o (.s (.b (.l (sc [0,1]) .o)) .o)
def eD.F(s:bD)(at_:Int):OT:=cq PG dI 103 bC eD.h [.s s,.i .i64 at_]
def eD.l1(x0:bD)(x1:Int):OT:=cM PG dI 103 bC eD.h 9 [.s x0,.i .i64 x1]
theorem eD.bM(x0:bD)(x1:Int)(K:∀v1,v1=List.getD x0 x1.toNat 0->∀v2,v2=cond (decide (x1<(x0.length:Int))) (decide (48<=v1)) false->∀v3,v3=cond v2 (decide (v1<=57)) false->∀v4,v4=IntKind.i64.wrap (x1+1)->ck (!(decide (x1<(x0.length:Int)))||(((decide (x1<(x0.length:Int)))&&(decide (x1<(x0.length:Int))))&&(bF x1 x0.length))) (ck (!(decide (x1<(x0.length:Int)))||(decide (x1<(x0.length:Int)))) (ck (!(decide (x1<(x0.length:Int)))||(decide (x1<(x0.length:Int)))) (ck (!v2||((v2&&v2)&&(bF x1 x0.length))) (ck (!v2||v2) (ck (!v2||v2) (cond v3 (eD.l1 x0 v4) (some [.i .i64 x1])))))))=ρ):eD.l1 x0 x1=ρ:=je (by kernel_rfl) (qz K:)
theorem eD.de(s:bD)(at_:Int):eD.F s at_=eD.l1 s at_:=by kernel_rfl
def bO.E:cH:=dc gH zs [(102,qC.c,bC),(103,eD.c,bC)]
def bO.h:Hint:=.s .o (.s .o (.j (sc [0,3,4]) .o (.s .o (.s .o (.s .o (.j (sc [0,3,4]) .o (.j (sc [0,3,4]) (.s .o (.s (.s .o (.s .o (.j (sc [0,3,4]) .o .o))) .o)) .o)))))))
def bO.F(s:bD):OT:=cq PG bO.E 66 bC bO.h [.s s]
def bO.j1(x0:bD)(x1 x2:Int):OT:=di PG bO.E 66 bC bO.h 7 [.s x0,.i .i64 x1,.i .i64 x2]
def bO.j2(x0:bD)(x1 x2:Int):OT:=di PG bO.E 66 bC bO.h 127 [.s x0,.i .i64 x1,.i .i64 x2]
def bO.j3(x0:bD)(x1 x2:Int):OT:=di PG bO.E 66 bC bO.h 7551 [.s x0,.i .i64 x1,.i .i64 x2]
def bO.j4(x0:bD)(x1 x2:Int):OT:=di PG bO.E 66 bC bO.h 255 [.s x0,.i .i64 x1,.i .i64 x2]
theorem bO.gM(x0:bD)(x1 x2:Int)(K:∀v1,v1=x1+(Nr.run (x0.drop x1.toNat):Int)->∀v2,v2=List.getD x0 x1.toNat 0->∀v3,v3=((!(decide (v1=x1)))&&(decide (v2=48)))->∀v4,v4=IntKind.i64.wrap (x1+1)->∀v5,v5=cond (decide (v2=48)) (decide (v4<v1)) false->∀v6,v6=cond (decide (v1=x1)) true v5->∀v7,v7=(decide (v1<x0.length)&&(decide (x0.getD v1.toNat 0=46)||decide (x0.getD v1.toNat 0=46)))->∀v8,v8=IntKind.i64.wrap (v1+1)->∀v9,v9=v8+(Nr.run (x0.drop v8.toNat):Int)->ck (decide (x0.length<=1099511627776)&&decide (0<=x1/\x1<=1099511627776)) (ck (!(!(decide (v1=x1)))||(((!(decide (v1=x1)))&&(!(decide (v1=x1))))&&(bF x1 x0.length))) (ck (!(!(decide (v1=x1)))||(!(decide (v1=x1)))) (ck (!(!(decide (v1=x1)))||(!(decide (v1=x1)))) (ck (!v3||v3) (ck (!v3||(v3&&v3)) (ck (!(!(decide (v1=x1)))||((!(decide (v1=x1)))&&(!(decide (v2=48))||v3))) (ck ((decide (v1=x1))||(!(decide (v1=x1)))) (cond v6 (some [.i .i64 0]) (ck (decide (x0.length<=1099511627776)&&decide (0<=v1)) (cond v7 (ck (decide (x0.length<=1099511627776)&&decide (0<=v8/\v8<=1099511627776)) (cond (decide (v9=v8)) (some [.i .i64 0]) (bO.j2 x0 v9 2))) (bO.j2 x0 v1 x2)))))))))))=ρ):bO.j1 x0 x1 x2=ρ:=ly (by kernel_rfl) (gQ (qz K:):)
theorem bO.ik(x0:bD)(x1 x2:Int)(K:∀v1,v1=(decide (x1<x0.length)&&(decide (x0.getD x1.toNat 0=101)||decide (x0.getD x1.toNat 0=69)))->∀v2,v2=IntKind.i64.wrap (x1+1)->∀v3,v3=(decide (v2<x0.length)&&(decide (x0.getD v2.toNat 0=43)||decide (x0.getD v2.toNat 0=45)))->∀v4,v4=IntKind.i64.wrap (v2+1)->ck (decide (x0.length<=1099511627776)&&decide (0<=x1)) (cond v1 (ck (decide (x0.length<=1099511627776)&&decide (0<=v2)) (cond v3 (bO.j3 x0 v4 2) (bO.j3 x0 v2 2))) (bO.j4 x0 x1 x2))=ρ):bO.j2 x0 x1 x2=ρ:=ly (by kernel_rfl) (qz K:)
theorem bO.nZ(x0:bD)(x1 x2:Int)(K:∀v1,v1=x1+(Nr.run (x0.drop x1.toNat):Int)->ck (decide (x0.length<=1099511627776)&&decide (0<=x1/\x1<=1099511627776)) (cond (decide (v1=x1)) (some [.i .i64 0]) (bO.j4 x0 v1 x2))=ρ):bO.j3 x0 x1 x2=ρ:=ly (by kernel_rfl) (lP K:)
theorem bO.sD(x0:bD)(x1 x2:Int):bO.j4 x0 x1 x2=cond (!decide (x1=(x0.length:Int))) (some [.i .i64 0]) (some [.i .i64 x2]):=ly (by kernel_rfl) rfl
theorem bO.bU(s:bD)(K:∀v1,v1=(decide ((0:Int)<s.length)&&(decide (s.getD (0:Int).toNat 0=(45:UInt8))||decide (s.getD (0:Int).toNat 0=(45:UInt8))))->∀v2,v2=IntKind.i64.wrap ((0:Int)+(1:Int))->ck (decide (s.length<=1099511627776)&&decide (0<=(0:Int))) (cond v1 (bO.j1 s v2 (1:Int)) (bO.j1 s (0:Int) (1:Int)))=ρ):bO.F s=ρ:=Eq.trans (by kernel_rfl) (mg K:)
def iv.h:Hint:=.s .o (.s .o (.s (.b (.l (sc [0,3]) .o)) .o))
def iv.F(s:bD):OT:=cq PG dI 105 bC iv.h [.s s]
def iv.l1(x0:bD)(x1:Int):OT:=cM PG dI 105 bC iv.h 19 [.s x0,.i .i64 x1]
theorem iv.bM(x0:bD)(x1:Int)(K:∀v1,v1=List.getD x0 x1.toNat 0->∀v2,v2=cond (decide (x1<(x0.length:Int))) (decide (48<=v1)) false->∀v3,v3=cond v2 (decide (v1<=57)) false->∀v4,v4=IntKind.i64.wrap (x1+1)->ck (!(decide (x1<(x0.length:Int)))||(((decide (x1<(x0.length:Int)))&&(decide (x1<(x0.length:Int))))&&(bF x1 x0.length))) (ck (!(decide (x1<(x0.length:Int)))||(decide (x1<(x0.length:Int)))) (ck (!(decide (x1<(x0.length:Int)))||(decide (x1<(x0.length:Int)))) (ck (!v2||((v2&&v2)&&(bF x1 x0.length))) (ck (!v2||v2) (ck (!v2||v2) (cond v3 (iv.l1 x0 v4) (some [.i .i64 x1])))))))=ρ):iv.l1 x0 x1=ρ:=je (by kernel_rfl) (qz K:)
theorem iv.de(s:bD):iv.F s=iv.l1 s 0:=by kernel_rfl
end Go.Eng
namespace Go.Eng
open Go.Proofs
variable{ρ:OT}
def bN.E:cH:=dc gH zs [(105,iv.c,bC)]
def bN.h:Hint:=.s .o (.s .o (.j (sc [0,3]) .o (.s .o (.s .o (.s .o (.j (sc [0,3]) .o (.j (sc [0,3]) (.s .o (.s (.s .o (.j (sc [0]) .o .o)) .o)) .o)))))))
def bN.F(s:bD):OT:=cq PG bN.E 69 bC bN.h [.s s]
def bN.j1(x0:bD)(x1:Int):OT:=di PG bN.E 69 bC bN.h 7 [.s x0,.i .i64 x1]
def bN.j2(x0:bD)(x1:Int):OT:=di PG bN.E 69 bC bN.h 127 [.s x0,.i .i64 x1]
def bN.j3(x0:bD):OT:=di PG bN.E 69 bC bN.h 3455 [.s x0]
def bN.j4(x0:bD)(x1:Int):OT:=di PG bN.E 69 bC bN.h 255 [.s x0,.i .i64 x1]
theorem bN.gM(x0:bD)(x1:Int)(K:∀(v1:UInt8)(h1:v1=(List.getD x0 ((0:Int)).toNat (0:UInt8)))(v2:Bool)(h2:v2=((!(decide (((Nr.run x0:Int))=(0:Int))))&&(decide (v1=(48:UInt8)))))(v3:Bool)(h3:v3=(cond (decide (v1=(48:UInt8))) (decide ((1:Int)<((Nr.run x0:Int)))) false))(v4:Bool)(h4:v4=(cond (decide (((Nr.run x0:Int))=(0:Int))) true v3))(v5:bD)(h5:v5=(List.drop (((Nr.run x0:Int))).toNat x0))(v6:UInt8)(h6:v6=(List.getD v5 ((0:Int)).toNat (0:UInt8)))(v7:Bool)(h7:v7=(cond (decide ((0:Int)<((v5).length:Int))) (decide (v6=(46:UInt8))) false))(v8:bD)(h8:v8=(List.drop ((1:Int)).toNat v5))(v9:Int)(h9:v9=(IntKind.i64.wrap ((1:Int)+((Nr.run v8:Int))))),ck (decide ((x0).length<=1099511627776)) (ck (!(!(decide (((Nr.run x0:Int))=(0:Int))))||((!(decide (((Nr.run x0:Int))=(0:Int))))&&(bF (0:Int) (x0).length))) (ck (!(!(decide (((Nr.run x0:Int))=(0:Int))))||(!(decide (((Nr.run x0:Int))=(0:Int))))) (ck (!(!(decide (((Nr.run x0:Int))=(0:Int))))||(!(decide (((Nr.run x0:Int))=(0:Int))))) (ck (!v2||v2) (ck (!(!(decide (((Nr.run x0:Int))=(0:Int))))||((!(decide (((Nr.run x0:Int))=(0:Int))))&&(!(decide (v1=(48:UInt8)))||v2))) (ck ((decide (((Nr.run x0:Int))=(0:Int)))||(!(decide (((Nr.run x0:Int))=(0:Int))))) (cond v4 (some [(.i .i64 0)]) (ck (eM ((Nr.run x0:Int)) (x0).length (x0).length) (ck (!(decide ((0:Int)<((v5).length:Int)))||((decide ((0:Int)<((v5).length:Int)))&&(bF (0:Int) (v5).length))) (ck (!(decide ((0:Int)<((v5).length:Int)))||(decide ((0:Int)<((v5).length:Int)))) (ck (!(decide ((0:Int)<((v5).length:Int)))||(decide ((0:Int)<((v5).length:Int)))) (cond v7 (ck (eM (1:Int) (v5).length (v5).length) (ck (decide ((v8).length<=1099511627776)) (cond (decide (((Nr.run v8:Int))=(0:Int))) (some [(.i .i64 0)]) (ck (eM v9 (v5).length (v5).length) (bN.j2 (List.drop (v9).toNat v5) (2:Int)))))) (bN.j2 v5 x1)))))))))))))=ρ):bN.j1 x0 x1=ρ:=((nE _ _ _ _ _ _ _).trans (by kernel_rfl)).trans (K _ rfl _ rfl _ rfl _ rfl _ rfl _ rfl _ rfl _ rfl _ rfl)
theorem bN.ik(x0:bD)(x1:Int)(K:∀(v1:UInt8)(h1:v1=(List.getD x0 ((0:Int)).toNat (0:UInt8)))(v2:Bool)(h2:v2=((decide ((0:Int)<((x0).length:Int)))&&(!(decide (v1=(101:UInt8))))))(v3:Bool)(h3:v3=(cond (decide (v1=(101:UInt8))) true (decide (v1=(69:UInt8)))))(v4:Bool)(h4:v4=(cond (decide ((0:Int)<((x0).length:Int))) v3 false))(v5:bD)(h5:v5=(List.drop ((1:Int)).toNat x0))(v6:UInt8)(h6:v6=(List.getD v5 ((0:Int)).toNat (0:UInt8)))(v7:Bool)(h7:v7=((decide ((0:Int)<((v5).length:Int)))&&(!(decide (v6=(43:UInt8))))))(v8:Bool)(h8:v8=(cond (decide (v6=(43:UInt8))) true (decide (v6=(45:UInt8)))))(v9:Bool)(h9:v9=(cond (decide ((0:Int)<((v5).length:Int))) v8 false))(v10:bD)(iZ:v10=(List.drop ((1:Int)).toNat v5)),ck (!(decide ((0:Int)<((x0).length:Int)))||((decide ((0:Int)<((x0).length:Int)))&&(bF (0:Int) (x0).length))) (ck (!(decide ((0:Int)<((x0).length:Int)))||(decide ((0:Int)<((x0).length:Int)))) (ck (!(decide ((0:Int)<((x0).length:Int)))||(decide ((0:Int)<((x0).length:Int)))) (ck (!v2||(v2&&(bF (0:Int) (x0).length))) (ck (!v2||v2) (ck (!(decide ((0:Int)<((x0).length:Int)))||((decide ((0:Int)<((x0).length:Int)))&&((decide (v1=(101:UInt8)))||v2))) (ck (!(decide ((0:Int)<((x0).length:Int)))||(decide ((0:Int)<((x0).length:Int)))) (cond v4 (ck (eM (1:Int) (x0).length (x0).length) (ck (!(decide ((0:Int)<((v5).length:Int)))||((decide ((0:Int)<((v5).length:Int)))&&(bF (0:Int) (v5).length))) (ck (!(decide ((0:Int)<((v5).length:Int)))||(decide ((0:Int)<((v5).length:Int)))) (ck (!(decide ((0:Int)<((v5).length:Int)))||(decide ((0:Int)<((v5).length:Int)))) (ck (!v7||(v7&&(bF (0:Int) (v5).length))) (ck (!v7||v7) (ck (!(decide ((0:Int)<((v5).length:Int)))||((decide ((0:Int)<((v5).length:Int)))&&((decide (v6=(43:UInt8)))||v7))) (ck (!(decide ((0:Int)<((v5).length:Int)))||(decide ((0:Int)<((v5).length:Int)))) (cond v9 (ck (eM (1:Int) (v5).length (v5).length) (bN.j3 v10)) (bN.j3 v5)))))))))) (bN.j4 x0 x1))))))))=ρ):bN.j2 x0 x1=ρ:=((nE _ _ _ _ _ _ _).trans (by kernel_rfl)).trans (K _ rfl _ rfl _ rfl _ rfl _ rfl _ rfl _ rfl _ rfl _ rfl _ rfl)
theorem bN.nZ(x0:bD)(K:∀(v1:bD)(h1:v1=(List.drop (((Nr.run x0:Int))).toNat x0)),ck (decide ((x0).length<=1099511627776)) (cond (decide (((Nr.run x0:Int))=(0:Int))) (some [(.i .i64 0)]) (ck (eM ((Nr.run x0:Int)) (x0).length (x0).length) (bN.j4 v1 (2:Int))))=ρ):bN.j3 x0=ρ:=((nE _ _ _ _ _ _ _).trans (by kernel_rfl)).trans (K _ rfl)
theorem bN.sD(x0:bD)(x1:Int):bN.j4 x0 x1=cond (!decide (x0=[])) (some [.i .i64 0]) (some [.i .i64 x1]):=ly (by kernel_rfl) rfl
theorem bN.bU(s:bD)(K:∀(v1:UInt8)(h1:v1=(List.getD s ((0:Int)).toNat (0:UInt8)))(v2:Bool)(h2:v2=(cond (decide ((0:Int)<((s).length:Int))) (decide (v1=(45:UInt8))) false))(v3:bD)(h3:v3=(List.drop ((1:Int)).toNat s)),ck (!(decide ((0:Int)<((s).length:Int)))||((decide ((0:Int)<((s).length:Int)))&&(bF (0:Int) (s).length))) (ck (!(decide ((0:Int)<((s).length:Int)))||(decide ((0:Int)<((s).length:Int)))) (ck (!(decide ((0:Int)<((s).length:Int)))||(decide ((0:Int)<((s).length:Int)))) (cond v2 (ck (eM (1:Int) (s).length (s).length) (bN.j1 v3 (1:Int))) (bN.j1 s (1:Int)))))=ρ):bN.F s=ρ:=Eq.trans (by kernel_rfl) (K _ rfl _ rfl _ rfl)
def kG.E:cH:=dc gH zs [(64,dr.c,bC)]
def kG.F(v:Int):OT:=cq PG kG.E 95 bC (.o) [.i .i64 v]
theorem kG.bU(v:Int)(K:∀v1,v1=IntKind.i64.wrap (v+1)->∀v2,v2=UInt64.ofInt (IntKind.i64.wrap (0 -v1))->∀v3,v3=Nr.dec (v2+1).toNat->∀v4,v4=Nr.dec (UInt64.ofInt v).toNat->cond (decide (v<0)) (ck (decide (([45]:bD).length+v3.length<=9223372036854775807)) (some [.s (([45]:bD)++v3)])) (some [.s v4])=ρ):kG.F v=ρ:=Eq.trans (by kernel_rfl) (qz K:)
def hO.F(b:UInt64):OT:=cq PG dI 93 lZ (.o) [.u64 b]
theorem hO.bU(b:UInt64)(K:∀v1,v1=cE b (63:UInt64).toNat->∀v2,v2=cE b (52:UInt64).toNat->∀v3,v3=IntKind.i64.wrap ((v2&&&2047).toNat:Int)->∀v4,v4=(b&&&4503599627370495)->∀v5,v5=cond (decide (v3=0)) (decide (v4=0)) false->∀v6,v6=cond (decide (v3=2047)) (decide (v4=0)) false->∀v7,v7=4503599627370496+v4->∀v8,v8=IntKind.i64.wrap (v3 -1075)->ck (!(decide (v3=0))||(decide (v3=0))) (ck (!(decide (v3=0))||(decide (v3=0))) (cond v5 (some [.i .i64 1,.b (decide (v1=1)),.u64 0,.i .i64 0]) (ck (!(decide (v3=2047))||(decide (v3=2047))) (ck (!(decide (v3=2047))||(decide (v3=2047))) (cond v6 (some [.i .i64 3,.b (decide (v1=1)),.u64 0,.i .i64 0]) (cond (decide (v3=2047)) (some [.i .i64 4,.b (decide (v1=1)),.u64 0,.i .i64 0]) (cond (decide (v3=0)) (some [.i .i64 2,.b (decide (v1=1)),.u64 v4,.i .i64 (-1074)]) (some [.i .i64 2,.b (decide (v1=1)),.u64 v7,.i .i64 v8]))))))))=ρ):hO.F b=ρ:=Eq.trans (by kernel_rfl) (gQ (pn K:):)
def dL.h:Hint:=.s .o (.s .o (.s (.s .o (.b (.l [(0,.fo 1000000),(1,.no),(5,.no),(6,.no),(1000000,.pv)] .o))) (.j [(0,.fo 800000),(800000,.pv)] .o .o)))
def dL.F(a:List UInt64)(m:UInt64):OT:=cq PG dI 158 nv dL.h [.sl .us a,.u64 m]
def dL.l1(x0 x1:UInt64)(x2:Int)(x3:List UInt64):OT:=cM PG dI 158 nv dL.h 43 [.pt,.u64 x0,.u64 x1,.i .i64 x2,.sl .us x3]
def dL.j2(x0:List UInt64):OT:=di PG dI 158 nv dL.h 15 [.pt,.sl .us x0]
theorem dL.bM(x0 x1:UInt64)(x2:Int)(x3:List UInt64)(K:∀v1,v1=List.getD x3 x2.toNat (0:UInt64)->∀v2,v2=(x1+(v1*x0))%(100000000:UInt64)->∀v3,v3=List.set x3 x2.toNat v2->∀v4,v4=(x1+(v1*x0))/(100000000:UInt64)->∀v5,v5=IntKind.i64.wrap (x2+(1:Int))->cond (decide (x2<(x3.length:Int))) (ck (bF x2 x3.length) (ck (decide (x2.toNat<x3.length)) (ck (!decide ((100000000:UInt64)=0)) (ck (bF x2 x3.length) (ck (decide (x2.toNat<x3.length)) (ck (!decide ((100000000:UInt64)=0)) (dL.l1 x0 v4 v5 v3))))))) (cond (decide ((0:UInt64)<x1)) (ck (dY (x3.length+([x1]:List UInt64).length) 8) (dL.j2 (x3++([x1]:List UInt64)))) (dL.j2 x3))=ρ):dL.l1 x0 x1 x2 x3=ρ:=je (by kernel_rfl) (gQ K:)
theorem dL.kn(x0:List UInt64):dL.j2 x0=some [.sl .us x0]:=ly (by kernel_rfl) rfl
theorem dL.de(a:List UInt64)(m:UInt64):dL.F a m=dL.l1 m 0 0 a:=by kernel_rfl
def bE.E:cH:=dc gH zs [(158,dL.c,nv)]
def bE.h:Hint:=.s .o (.s .o (.s (.b (.l [(1,.no),(6,.fo 800000),(800000,.pv)] .o)) (.s .o (.s (.b (.l [(1,.no),(6,.fo 800000),(7,.no),(800000,.pv)] .o)) (.s (.b (.l [(1,.no),(6,.fo 800000),(7,.no),(800000,.pv)] .o)) (.s .o (.s (.b (.l [(1,.no),(6,.fo 800000),(7,.no),(800000,.pv)] .o)) (.s (.b (.l [(1,.no),(6,.fo 800000),(7,.no),(800000,.pv)] .o)) (.s .o (.s (.s .o (.b (.l [(1,.no),(6,.fo 800000),(8,.fo 800001),(9,.no),(800000,.pv),(800001,.pv)] (.s .o (.s (.b (.s .o (.s .o (.b (.l [(1,.no),(6,.fo 800000),(8,.fo 800001),(9,.no),(10,.no),(11,.no),(800000,.pv),(800001,.pv)] .o))))) .o))))) (.s (.b (.l [(1,.no),(8,.fo 800001),(800001,.pv)] .o)) (.s .o (.s .o (.s (.s .o (.b (.l [(8,.fo 800001),(12,.no),(13,.fo 800002),(14,.no),(800001,.pv),(800002,.pv)] .o))) (.s (.b (.l [(12,.no),(13,.fo 800002),(800002,.pv)] .o)) .o)))))))))))))))
def bE.F(m:UInt64)(e:Int):OT:=cq PG bE.E 125 bR bE.h [.u64 m,.i .i64 e]
def bE.l1(x0:Int)(x1:List UInt64):OT:=cM PG bE.E 125 bR bE.h 19 [.i .i64 x0,.pt,.sl .us x1]
def bE.l2(x0 x1:Int)(x2:List UInt64):OT:=cM PG bE.E 125 bR bE.h 79 [.i .i64 x0,.pt,.i .i64 x1,.sl .us x2]
def bE.l3(x0 x1:Int)(x2:List UInt64):OT:=cM PG bE.E 125 bR bE.h 159 [.i .i64 x0,.pt,.i .i64 x1,.sl .us x2]
def bE.l4(x0 x1:Int)(x2:List UInt64):OT:=cM PG bE.E 125 bR bE.h 639 [.i .i64 x0,.pt,.i .i64 x1,.sl .us x2]
def bE.l5(x0 x1:Int)(x2:List UInt64):OT:=cM PG bE.E 125 bR bE.h 1279 [.i .i64 x0,.pt,.i .i64 x1,.sl .us x2]
def bE.l6(x0 x1:Int)(x2:List UInt64)(x3:List UInt8):OT:=cM PG bE.E 125 bR bE.h 11263 [.i .i64 x0,.pt,.pt,.i .i64 x1,.sl .us x2,.sl .bs x3]
def bE.l7(x0 x1:Int)(x2:UInt64)(x3:Int)(x4:List UInt64)(x5:List UInt8):OT:=cM PG bE.E 125 bR bE.h 1461247 [.i .i64 x0,.pt,.pt,.i .i64 x1,.u64 x2,.i .i64 x3,.sl .us x4,.sl .bs x5]
def bE.l8(x0:Int)(x1:List UInt8):OT:=cM PG bE.E 125 bR bE.h 10239 [.i .i64 x0,.pt,.sl .bs x1]
def bE.l9(x0 x1:Int)(x2 x3:List UInt8):OT:=cM PG bE.E 125 bR bE.h 180223 [.pt,.i .i64 x0,.pt,.i .i64 x1,.sl .bs x2,.sl .bs x3]
def bE.l10(x0:Int)(x1:List UInt8):OT:=cM PG bE.E 125 bR bE.h 163839 [.i .i64 x0,.pt,.sl .bs x1]
theorem bE.bM(x0:Int)(x1:List UInt64)(K:∀v1,v1=IntKind.i64.wrap ((x1.length:Int) -1)->∀v2,v2=List.getD x1 v1.toNat 0->∀v3,v3=cond (decide (1<(x1.length:Int))) (decide (v2=0)) false->ck (!(decide (1<(x1.length:Int)))||(decide (1<(x1.length:Int)))) (ck (!(decide (1<(x1.length:Int)))||(decide (1<(x1.length:Int)))) (ck (!(decide (1<(x1.length:Int)))||(((decide (1<(x1.length:Int)))&&(decide (1<(x1.length:Int))))&&(bF v1 x1.length))) (ck (!(decide (1<(x1.length:Int)))||((decide (1<(x1.length:Int)))&&(decide (v1.toNat<x1.length)))) (ck (!(decide (1<(x1.length:Int)))||(decide (1<(x1.length:Int)))) (ck (!(decide (1<(x1.length:Int)))||(decide (1<(x1.length:Int)))) (cond v3 (ck (eM 0 v1 x1.length) (bE.l1 x0 (List.take v1.toNat x1))) (bE.l2 x0 0 x1)))))))=ρ):bE.l1 x0 x1=ρ:=je (by kernel_rfl) (pn K:)
theorem bE.gU(x0 x1:Int)(x2:List UInt64)(K:∀v1,v1=IntKind.i64.wrap (x1+20)->∀v2,v2=Nr.times x2 1048576 0->cond (decide (v1<=x0)) (ck (decide (x2.length<=1000/\(1048576:UInt64).toNat<=100000000)&&x2.all (λx=>decide (x.toNat<100000000))) (bE.l2 x0 v1 v2)) (bE.l3 x0 x1 x2)=ρ):bE.l2 x0 x1 x2=ρ:=je (by kernel_rfl) (mg K:)
theorem bE.nX(x0 x1:Int)(x2:List UInt64)(K:∀v1,v1=Nr.times x2 2 0->∀v2,v2=IntKind.i64.wrap (x1+1)->cond (decide (x1<x0)) (ck (decide (x2.length<=1000/\(2:UInt64).toNat<=100000000)&&x2.all (λx=>decide (x.toNat<100000000))) (bE.l3 x0 v2 v1)) (bE.l4 x0 0 x2)=ρ):bE.l3 x0 x1 x2=ρ:=je (by kernel_rfl) (mg K:)
theorem bE.pk(x0 x1:Int)(x2:List UInt64)(K:∀v1,v1=IntKind.i64.wrap (x1 -10)->∀v2,v2=Nr.times x2 9765625 0->cond (decide (x0<=v1)) (ck (decide (x2.length<=1000/\(9765625:UInt64).toNat<=100000000)&&x2.all (λx=>decide (x.toNat<100000000))) (bE.l4 x0 v1 v2)) (bE.l5 x0 x1 x2)=ρ):bE.l4 x0 x1 x2=ρ:=je (by kernel_rfl) (mg K:)
theorem bE.yd(x0 x1:Int)(x2:List UInt64)(K:∀v1,v1=Nr.times x2 5 0->∀v2,v2=IntKind.i64.wrap (x1 -1)->cond (decide (x0<x1)) (ck (decide (x2.length<=1000/\(5:UInt64).toNat<=100000000)&&x2.all (λx=>decide (x.toNat<100000000))) (bE.l5 x0 v2 v1)) (bE.l6 x0 0 x2 ([]:List UInt8))=ρ):bE.l5 x0 x1 x2=ρ:=je (by kernel_rfl) (mg K:)
theorem bE.Oz(x0 x1:Int)(x2:List UInt64)(x3:List UInt8)(K:∀v1,v1=List.getD x2 x1.toNat 0->cond (decide (x1<(x2.length:Int))) (ck (bF x1 x2.length) (ck (decide (x1.toNat<x2.length)) (bE.l7 x0 x1 v1 0 x2 x3))) (bE.l8 x0 x3)=ρ):bE.l6 x0 x1 x2 x3=ρ:=je (by kernel_rfl) (lP K:)
theorem bE.Oy(x0 x1:Int)(x2:UInt64)(x3:Int)(x4:List UInt64)(x5:List UInt8)(K:∀v1,v1=(48:UInt64)+(x2%(10:UInt64))->∀v2,v2=UInt8.ofInt (v1.toNat:Int)->∀v3,v3=IntKind.i64.wrap (x3+(1:Int))->∀v4,v4=IntKind.i64.wrap (x1+(1:Int))->cond (decide (x3<(8:Int))) (ck (!decide ((10:UInt64)=0)) (ck (dY (x5.length+([v2]:List UInt8).length) 1) (ck (!decide ((10:UInt64)=0)) (bE.l7 x0 x1 (x2/(10:UInt64)) v3 x4 (x5++([v2]:List UInt8)))))) (bE.l6 x0 v4 x4 x5)=ρ):bE.l7 x0 x1 x2 x3 x4 x5=ρ:=je (by kernel_rfl) (qz K:)
theorem bE.Ox(x0:Int)(x1:List UInt8)(K:∀v1,v1=IntKind.i64.wrap ((x1.length:Int) -1)->∀v2,v2=List.getD x1 v1.toNat 0->∀v3,v3=cond (decide (0<(x1.length:Int))) (decide (v2=48)) false->∀v4,v4=IntKind.i64.wrap ((x1.length:Int)+(AN x0 0))->ck (!(decide (0<(x1.length:Int)))||(decide (0<(x1.length:Int)))) (ck (!(decide (0<(x1.length:Int)))||(decide (0<(x1.length:Int)))) (ck (!(decide (0<(x1.length:Int)))||(((decide (0<(x1.length:Int)))&&(decide (0<(x1.length:Int))))&&(bF v1 x1.length))) (ck (!(decide (0<(x1.length:Int)))||((decide (0<(x1.length:Int)))&&(decide (v1.toNat<x1.length)))) (ck (!(decide (0<(x1.length:Int)))||(decide (0<(x1.length:Int)))) (ck (!(decide (0<(x1.length:Int)))||(decide (0<(x1.length:Int)))) (cond v3 (ck (eM 0 v1 x1.length) (bE.l8 x0 (List.take v1.toNat x1))) (bE.l9 v4 v1 x1 ([]:List UInt8))))))))=ρ):bE.l8 x0 x1=ρ:=je (by kernel_rfl) (qz K:)
theorem bE.Ow(x0 x1:Int)(x2 x3:List UInt8)(K:∀v1,v1=List.getD x2 x1.toNat 0->∀v2,v2=IntKind.i64.wrap (x1 -1)->cond (decide (0<=x1)) (ck (bF x1 x2.length) (ck (decide (x1.toNat<x2.length)) (ck (dY (x3.length+([v1]:List UInt8).length) 1) (bE.l9 x0 v2 x2 (x3++([v1]:List UInt8)))))) (bE.l10 x0 x3)=ρ):bE.l9 x0 x1 x2 x3=ρ:=je (by kernel_rfl) (mg K:)
theorem bE.J8(x0:Int)(x1:List UInt8)(K:∀v1,v1=IntKind.i64.wrap ((x1.length:Int) -1)->∀v2,v2=List.getD x1 v1.toNat 0->∀v3,v3=cond (decide (0<(x1.length:Int))) (decide (v2=48)) false->ck (!(decide (0<(x1.length:Int)))||(decide (0<(x1.length:Int)))) (ck (!(decide (0<(x1.length:Int)))||(decide (0<(x1.length:Int)))) (ck (!(decide (0<(x1.length:Int)))||(((decide (0<(x1.length:Int)))&&(decide (0<(x1.length:Int))))&&(bF v1 x1.length))) (ck (!(decide (0<(x1.length:Int)))||((decide (0<(x1.length:Int)))&&(decide (v1.toNat<x1.length)))) (ck (!(decide (0<(x1.length:Int)))||(decide (0<(x1.length:Int)))) (ck (!(decide (0<(x1.length:Int)))||(decide (0<(x1.length:Int)))) (cond v3 (ck (eM 0 v1 x1.length) (bE.l10 x0 (List.take v1.toNat x1))) (some [.s x1,.i .i64 x0])))))))=ρ):bE.l10 x0 x1=ρ:=je (by kernel_rfl) (pn K:)
theorem bE.bU(m:UInt64)(e:Int)(K:∀v1,v1=(m/(100000000:UInt64))%(100000000:UInt64)->∀v2,v2=m/(10000000000000000:UInt64)->∀v3,v3=([m%(100000000:UInt64),v1,v2]:List UInt64)->ck (!decide ((100000000:UInt64)=0)) (ck (!decide ((100000000:UInt64)=0)) (ck (!decide ((100000000:UInt64)=0)) (ck (!decide ((10000000000000000:UInt64)=0)) (bE.l1 e v3))))=ρ):bE.F m e=ρ:=Eq.trans (by kernel_rfl) (pn K:)
def jj.F(a:bD)(x:Int)(b:bD)(y:Int):OT:=cq PG dI 128 bC (.o) [.s a,.i .i64 x,.s b,.i .i64 y]
theorem jj.bU(a:bD)(x:Int)(b:bD)(y:Int)(K:∀v1,v1=((!(decide (x<y)))&&(decide (x=y)))->∀v2,v2=cond (decide (x=y)) (Op.bytesLess a b) false->∀v3,v3=cond (decide (x<y)) true v2->∀v4,v4=cond (decide (x=y)) (decide (a=b)) false->ck (!(!(decide (x<y)))||((!(decide (x<y)))&&(!(decide (x<y))))) (ck (!(!(decide (x<y)))||(!(decide (x<y)))) (ck (!v1||(v1&&v1)) (ck (!(!(decide (x<y)))||((!(decide (x<y)))&&(!(decide (x=y))||v1))) (ck ((decide (x<y))||(!(decide (x<y)))) (cond v3 (some [.i .i64 (-1)]) (ck (!(decide (x=y))||((decide (x=y))&&(decide (x=y)))) (ck (!(decide (x=y))||(decide (x=y))) (cond v4 (some [.i .i64 0]) (some [.i .i64 1])))))))))=ρ):jj.F a x b y=ρ:=Eq.trans (by kernel_rfl) (qz K:)
def jD.F(b:UInt64):OT:=cq PG dI 108 lZ (.o) [.u64 b]
theorem jD.bU(b:UInt64)(K:∀v1,v1=cE b (52:UInt64).toNat->∀v2,v2=IntKind.i64.wrap ((v1&&&2047).toNat:Int)->∀v3,v3=(b&&&4503599627370495)->∀v4,v4=cE b (63:UInt64).toNat->∀v5,v5=cond (decide (v2=2047)) (!decide (v3=0)) false->∀v6,v6=cond (decide (v2=0)) (decide (v3=0)) false->∀v7,v7=(4503599627370496|||v3)->∀v8,v8=IntKind.i64.wrap (v2 -1075)->ck (!(decide (v2=2047))||(decide (v2=2047))) (ck (!(decide (v2=2047))||(decide (v2=2047))) (cond v5 (some [.i .i64 4,.b (decide (v4=1)),.u64 0,.i .i64 0]) (cond (decide (v2=2047)) (some [.i .i64 3,.b (decide (v4=1)),.u64 0,.i .i64 0]) (ck (!(decide (v2=0))||(decide (v2=0))) (ck (!(decide (v2=0))||(decide (v2=0))) (cond v6 (some [.i .i64 1,.b (decide (v4=1)),.u64 0,.i .i64 0]) (cond (decide (v2=0)) (some [.i .i64 2,.b (decide (v4=1)),.u64 v3,.i .i64 (-1074)]) (some [.i .i64 2,.b (decide (v4=1)),.u64 v7,.i .i64 v8]))))))))=ρ):jD.F b=ρ:=Eq.trans (by kernel_rfl) (gQ (pn K:):)
def dw.E:cH:=dc gH zs [(177,jc.c,bC),(213,jE.c,pf)]
def dw.h:Hint:=.s .o (.s .o (.j (sc [0,1]) .o (.s .o (.s .o (.s (.s .o (.b (.l [(1,.no),(5,.fo 800000),(6,.no),(26,.no),(27,.no),(800000,.pv)] (.s .o (.s .o (.s (.b (.s .o (.s .o (.j [(1,.no),(5,.fo 800000),(6,.no),(7,.no),(26,.no),(27,.no),(800000,.pv)] .o .o)))) .o)))))) (.j [(5,.fo 800000),(800000,.pv)] .o .o))))))
def dw.F(a b:List UInt16):OT:=cq PG dw.E 184 bC dw.h [.sl .ws a,.sl .ws b]
def dw.j1(x0 x1:List UInt16):OT:=di PG dw.E 184 bC dw.h 7 [.sl .ws x0,.sl .ws x1]
def dw.l2(x0:List UInt16)(x1 x2 x3:Int)(x4:List UInt16):OT:=cM PG dw.E 184 bC dw.h 351 [.sl .ws x0,.pt,.i .i64 x1,.i .i64 x2,.i .i64 x3,.sl .ws x4]
def dw.j3(x0:List UInt16)(x1 x2 x3 x4:Int)(x5:List UInt16):OT:=di PG dw.E 184 bC dw.h 58975 [.sl .ws x0,.pt,.i .i64 x1,.i .i64 x2,.i .i64 x3,.i .i64 x4,.sl .ws x5]
def dw.j4(x0:List UInt16):OT:=di PG dw.E 184 bC dw.h 127 [.pt,.sl .ws x0]
theorem dw.mF(x0 x1:List UInt16):dw.j1 x0 x1=ck (dY x0.length 2) (dw.l2 x1 0 (x0.length:Int) 0 x0):=ly (by kernel_rfl) rfl
theorem dw.gU(x0:List UInt16)(x1 x2 x3:Int)(x4:List UInt16)(K:∀v1,v1=List.getD x4 x3.toNat 0->∀v2,v2=IntKind.i64.wrap (v1.toNat:Int)->∀v3,v3=List.getD x0 x3.toNat 0->∀v4,v4=IntKind.i64.wrap (v3.toNat:Int)->∀v5,v5=IntKind.i64.wrap ((IntKind.i64.wrap (x1+v2))+v4)->∀v6,v6=([UInt16.ofInt x1]:List UInt16)->cond (decide (x3<x2)) (ck (bF x3 x4.length) (ck (decide (x3.toNat<x4.length)) (cond (decide (x3<(x0.length:Int))) (ck (bF x3 x0.length) (dw.j3 x0 v5 x3 x2 x3 x4)) (dw.j3 x0 (IntKind.i64.wrap (x1+v2)) x3 x2 x3 x4)))) (cond (decide (0<x1)) (ck (dY (x4.length+v6.length) 2) (dw.j4 (x4++v6))) (dw.j4 x4))=ρ):dw.l2 x0 x1 x2 x3 x4=ρ:=je (by kernel_rfl) (gQ (lP K:):)
theorem dw.nZ(x0:List UInt16)(x1 x2 x3 x4:Int)(x5:List UInt16)(K:∀v1,v1=List.set x5 x2.toNat (UInt16.ofInt x1)->∀v2,v2=Int.fdiv x1 (2^(min (16:UInt64).toNat (IntKind.i64.bits)))->∀v3,v3=IntKind.i64.wrap (x4+1)->ck (bF x2 x5.length) (ck (decide (x2.toNat<x5.length)) (dw.l2 x0 v2 x3 v3 v1))=ρ):dw.j3 x0 x1 x2 x3 x4 x5=ρ:=ly (by kernel_rfl) (pn K:)
theorem dw.sD(x0:List UInt16):dw.j4 x0=some [.sl .ws x0]:=ly (by kernel_rfl) rfl
theorem dw.bU(a b:List UInt16)(K:∀v1,v1=cond (!(Nt.is a)) true (!(Nt.is b))->ck (decide (a.length<=1099511627776)) (ck (!(!(!(Nt.is a)))||((!(!(Nt.is a)))&&(decide (b.length<=1099511627776)))) (ck (!(!(!(Nt.is a)))||(!(!(Nt.is a)))) (ck ((!(Nt.is a))||(!(!(Nt.is a)))) (cond v1 (some [.sl .ws ([]:List UInt16)]) (cond (decide ((a.length:Int)<(b.length:Int))) (dw.j1 b a) (dw.j1 a b))))))=ρ):dw.F a b=ρ:=Eq.trans (by kernel_rfl) (lP K:)
def dR.E:cH:=dc gH zs [(83,og.c,bC),(152,jU.c,bC),(177,jc.c,bC),(214,gC.c,bR),(236,cW.c,cW.sg),(237,tm.c,bC)]
def dR.h:Hint:=.s .o (.s .o (.s .o (.s (.b (.l [(0,.no),(3,.fo 800000),(800000,.pv)] (.s .o (.b (.s .o (.s .o (.j [(3,.fo 800000),(4,.no),(6,.no),(800000,.pv)] .o .o))))))) .o)))
def dR.F(a:List UInt16):OT:=cq PG dR.E 218 bC dR.h [.sl .ws a]
def dR.l1(x0:List UInt16)(x1:List bD):OT:=cM PG dR.E 218 bC dR.h 39 [.sl .ws x0,.pt,.sl .ss x1]
def dR.j2(x0:List UInt16)(x1:bD)(x2:List bD):OT:=di PG dR.E 218 bC dR.h 1863 [.pt,.sl .ws x0,.s x1,.sl .ss x2]
theorem dR.bM(x0:List UInt16)(x1:List bD)(K:∀v1,v1=Nt.of (Nt.val x0/(10000:UInt16).toNat)->∀v2,v2=UInt16.ofNat (Nt.val x0%(10000:UInt16).toNat)->∀v3,v3=IntKind.i64.wrap (v2.toNat:Int)->∀v4,v4=((Nr.itoa v3).length:Int)->∀v5,v5=IntKind.i64.wrap ((4:Int) -v4)->∀v6,v6=(Sh.eu v5)++(Nr.itoa v3)->cond (decide ((0:Int)<(x0.length:Int))) (ck (decide (x0.length<=1000000/\(10000:UInt16)≠0)) (ck (Nr.i64 v3) (cond (decide ((0:Int)<(v1.length:Int))) (ck (decide (([48]:bD)=[48]/\0<=v5/\v5<=100)) (ck (decide ((Sh.eu v5).length+(Nr.itoa v3).length<=9223372036854775807)) (dR.j2 v1 v6 x1))) (dR.j2 v1 (Nr.itoa v3) x1)))) (ck (decide (x1.length<=100000)) (ck (decide (([]:bD)=[]/\x1.reverse.length<=100000/\x1.reverse.flatten.length<=100000)) (some [.s x1.reverse.flatten])))=ρ):dR.l1 x0 x1=ρ:=je (by kernel_rfl) (gQ (lP K:):)
theorem dR.kn(x0:List UInt16)(x1:bD)(x2:List bD):dR.j2 x0 x1 x2=ck (dY (x2.length+([x1]:List bD).length) 16) (dR.l1 x0 (x2++([x1]:List bD))):=ly (by kernel_rfl) rfl
theorem dR.de(a:List UInt16):dR.F a=ck (decide (a.length<=1099511627776)) (cond (!(Nt.is a)) (some [.s []]) (cond (decide ((a.length:Int)=0)) (some [.s [48]]) (dR.l1 a ([]:List bD)))):=by kernel_rfl
def cW.h:Hint:=.s .o (.b (.l [(0,.fo 1000000),(2,.no),(3,.no),(1000000,.pv)] .o))
def cW.F(l:List bD):OT:=cq PG dI 236 cW.sg cW.h [.sl .ss l]
def cW.l1(x0 x1:Int)(x2:List bD):OT:=cM PG dI 236 cW.sg cW.h 5 [.pt,.i .i64 x0,.i .i64 x1,.sl .ss x2]
theorem cW.bM(x0 x1:Int)(x2:List bD)(K:∀v1,v1=List.getD x2 x1.toNat []->∀v2,v2=List.getD x2 x0.toNat []->∀v3,v3=List.set x2 x0.toNat v1->∀v4,v4=List.set v3 x1.toNat v2->∀v5,v5=IntKind.i64.wrap (x0+1)->∀v6,v6=IntKind.i64.wrap (x1 -1)->cond (decide (x0<x1)) (ck (bF x1 x2.length) (ck (decide (x1.toNat<x2.length)) (ck (bF x0 x2.length) (ck (decide (x0.toNat<x2.length)) (ck (bF x0 x2.length) (ck (decide (x0.toNat<x2.length)) (ck (bF x1 v3.length) (ck (decide (x1.toNat<v3.length)) (cW.l1 v5 v6 v4))))))))) (some [.sl .ss x2])=ρ):cW.l1 x0 x1 x2=ρ:=je (by kernel_rfl) (gQ (lP K:):)
theorem cW.bU(l:List bD)(K:∀v1,v1=IntKind.i64.wrap ((l.length:Int) -1)->cW.l1 0 v1 l=ρ):cW.F l=ρ:=Eq.trans (by kernel_rfl) (lP K:)
def iW.E:cH:=dc gH zs [(111,mu.c,bC)]
def iW.F(v:Int):OT:=cq PG iW.E 77 bC (.o) [.i .i64 v]
theorem iW.de(v:Int):iW.F v=ck (Nr.i64 v&&decide ((10:Int)=10)) (some [.s (Nr.itoa v)]):=by kernel_rfl
def jL.E:cH:=dc gH zs [(210,dZ.c,bR),(211,eW.c,bC)]
def jL.F(a b:List UInt16)(k:Int):OT:=cq PG jL.E 180 bR (.o) [.sl .ws a,.sl .ws b,.i .i64 k]
theorem jL.bU(a b:List UInt16)(k:Int)(K:∀v1,v1=Nt.of ((10:Int).toNat^k.toNat)->∀v2,v2=Nt.of (Nt.val a*Nt.val v1)->∀v3,v3=Nt.of ((10:Int).toNat^(IntKind.i64.wrap (0 -k)).toNat)->∀v4,v4=Nt.of (Nt.val b*Nt.val v3)->cond (decide ((0:Int)<=k)) (ck (decide (2<=(10:Int)/\(10:Int)<=65535/\0<=k/\k<=1000/\(10:Int).toNat^k.toNat<2^4096)) (ck (Nt.is a&&Nt.is v1) (some [.sl .ws v2,.sl .ws b]))) (ck (decide (2<=(10:Int)/\(10:Int)<=65535/\0<=(IntKind.i64.wrap (0 -k))/\(IntKind.i64.wrap (0 -k))<=1000/\(10:Int).toNat^(IntKind.i64.wrap (0 -k)).toNat<2^4096)) (ck (Nt.is b&&Nt.is v3) (some [.sl .ws a,.sl .ws v4])))=ρ):jL.F a b k=ρ:=Eq.trans (by kernel_rfl) (qz K:)
def js.E:cH:=dc gH zs [(180,jL.c,bR),(181,kJ.c,bC)]
def js.F(a b:List UInt16)(x:Int):OT:=cq PG js.E 150 bC (.o) [.sl .ws a,.sl .ws b,.i .i64 x]
theorem js.bU(a b:List UInt16)(x:Int)(K:∀v1,v1=Nt.of (Sh.tA (Nt.val a) (IntKind.i64.wrap (0 -x)))->∀v2,v2=Nt.of (Sh.tB (Nt.val b) (IntKind.i64.wrap (0 -x)))->∀v3,v3=Nt.cmp (Nt.val v1) (Nt.val v2)->ck (Nt.is a&&Nt.is b&&decide (-400<=(IntKind.i64.wrap (0 -x))/\(IntKind.i64.wrap (0 -x))<=400/\Nt.val a<2^1100/\Nt.val b<2^1100)) (ck (Nt.is v1&&Nt.is v2) (some [.b (decide (0<=v3))]))=ρ):js.F a b x=ρ:=Eq.trans (by kernel_rfl) (pn K:)
def jr.E:cH:=dc gH zs [(218,dR.c,bC),(219,kp.c,bC),(220,fO.c,bR)]
def jr.F(b:UInt64)(a:List UInt16)(p:Int):OT:=cq PG jr.E 183 gA (.o) [.u64 b,.sl .ws a,.i .i64 p]
theorem jr.bU(b:UInt64)(a:List UInt16)(p:Int)(K:∀(v1:Int)(h1:v1=(((Sh.uM (Nt.val a))).length:Int))(v2:bD)(h2:v2=(Lib.trimRightS ((Sh.uM (Nt.val a))) (([48]:bD))))(v3:UInt64)(h3:v3=(Nr.pat (Nr.read v2 ((IntKind.i64.wrap (v1+p))))))(v4:Bool)(h4:v4=((Nr.read v2 ((IntKind.i64.wrap (v1+p)))).isSome))(v5:Bool)(h5:v5=(cond (!v4) true (!decide (v3=b)))),ck (Nt.is a) (ck (decide ((((Sh.uM (Nt.val a)))).length<=1099511627776/\((([48]:bD))).length<=100)&&((([48]:bD))).all (λb=>decide (b.toNat<128))) (ck (!(!(!v4))||((!(!v4))&&(!(!v4)))) (ck ((!v4)||(!(!v4))) (cond v5 (some [(.s []),(.i .i64 0),(.b false)]) (some [(.s v2),(.i .i64 (IntKind.i64.wrap (v1+p))),(.b true)])))))=ρ):jr.F b a p=ρ:=Eq.trans (by kernel_rfl) (K _ rfl _ rfl _ rfl _ rfl _ rfl)
def kN.E:cH:=dc gH zs [(147,iH.c,bC),(148,mK.c,bC),(180,jL.c,bR),(181,kJ.c,bC),(182,lI.c,gA),(183,jr.c,gA),(184,dw.c,bC)]
def kN.F(b:UInt64)(p q:List UInt16)(x n:Int):OT:=cq PG kN.E 151 gA (.o) [.u64 b,.sl .ws p,.sl .ws q,.i .i64 x,.i .i64 n]
theorem kN.bU(b:UInt64)(p q:List UInt16)(x n:Int)(K:∀v1,v1=Nt.of (Sh.tA (Nt.val p) (IntKind.i64.wrap (n -x)))->∀v2,v2=Nt.of (Sh.tB (Nt.val q) (IntKind.i64.wrap (n -x)))->∀v3,v3=Nt.of (Nt.val v1/Nt.val v2)->∀v4,v4=Nt.of (Nt.val v1% Nt.val v2)->∀v5,v5=((Sh.mQ b.toNat (Nt.val v3) (IntKind.i64.wrap (x -n))).getD ([],0)).1->∀v6,v6=((Sh.mQ b.toNat (Nt.val v3) (IntKind.i64.wrap (x -n))).getD ([],0)).2->∀v7,v7=(Sh.mQ b.toNat (Nt.val v3) (IntKind.i64.wrap (x -n))).isSome->∀v8,v8=Nt.of (1:UInt64).toNat->∀v9,v9=Nt.of (Nt.val v3+Nt.val v8)->∀v10,v10=((Sh.mQ b.toNat (Nt.val v9) (IntKind.i64.wrap (x -n))).getD ([],0)).1->∀v11,v11=((Sh.mQ b.toNat (Nt.val v9) (IntKind.i64.wrap (x -n))).getD ([],0)).2->∀v12,v12=(Sh.mQ b.toNat (Nt.val v9) (IntKind.i64.wrap (x -n))).isSome->∀kx,kx=Nt.of (Nt.val v4*2^(1:Int).toNat)->∀kg,kg=Nt.cmp (Nt.val kx) (Nt.val v2)->∀kf,kf=cond (!v12) true (decide (kg<(0:Int)))->∀oD,oD=((v7&&(!kf))&&(decide (kg=(0:Int))))->∀uF,uF=List.getD v3 (0:Int).toNat (0:UInt16)->∀o9,o9=cond (decide (kg=(0:Int))) (decide ((uF%(2:UInt16))=(0:UInt16))) false->∀sI,sI=cond v7 (cond kf true o9) false->ck (Nt.is p&&Nt.is q&&decide (-400<=(IntKind.i64.wrap (n -x))/\(IntKind.i64.wrap (n -x))<=400/\Nt.val p<2^1100/\Nt.val q<2^1100)) (ck (Nt.is v1&&Nt.is v2&&decide (v2≠[])) (ck (Nt.is v3&&decide (-1000<=(IntKind.i64.wrap (x -n))/\(IntKind.i64.wrap (x -n))<=1000/\0<Nt.val v3/\Nt.val v3<10^200)) (ck (Nt.is v3&&Nt.is v8) (ck (Nt.is v9&&decide (-1000<=(IntKind.i64.wrap (x -n))/\(IntKind.i64.wrap (x -n))<=1000/\0<Nt.val v9/\Nt.val v9<10^200)) (ck (decide (0<=(1:Int)/\(1:Int)<=4096)&&Nt.is v4) (ck (Nt.is kx&&Nt.is v2) (ck (!v7||v7) (ck (!v7||v7) (ck (!(v7&&(!(!v12)))||(v7&&(!(!v12)))) (ck (!v7||(v7&&((!v12)||(v7&&(!(!v12)))))) (ck (!v7||v7) (ck (!(v7&&(!kf))||(v7&&(!kf))) (ck (!(v7&&(!kf))||(v7&&(!kf))) (ck (!oD||(oD&&(bF (0:Int) v3.length))) (ck (!oD||oD) (ck (!oD||(oD&&(!decide ((2:UInt16)=0)))) (ck (!oD||oD) (ck (!(v7&&(!kf))||((v7&&(!kf))&&(!(decide (kg=(0:Int)))||oD))) (ck (!v7||(v7&&(kf||(v7&&(!kf))))) (ck (!v7||v7) (cond sI (some [.s v5,.i .i64 v6,.b true]) (some [.s v10,.i .i64 v11,.b v12]))))))))))))))))))))))=ρ):kN.F b p q x n=ρ:=Eq.trans (by kernel_rfl) (gQ (qz (gQ (gQ K:):):):)
def cj.E:cH:=dc gH zs [(108,jD.c,lZ),(147,iH.c,bC),(148,mK.c,bC),(149,jT.c,bC),(150,js.c,bC),(151,kN.c,gA)]
def cj.h:Hint:=.s .o (.s .o (.s .o (.s .o (.s .o (.j (sc [0,9,10]) .o (.s .o (.s (.b (.l (sc [0,3,9,10]) .o)) (.s .o (.b (.l (sc [0,3,9,10,11]) .o))))))))))
def cj.F(b:UInt64):OT:=cq PG cj.E 118 gA cj.h [.u64 b]
def cj.j1(x0:UInt64)(x1 x2:List UInt16):OT:=di PG cj.E 118 gA cj.h 63 [.u64 x0,.sl .ws x1,.sl .ws x2]
def cj.l2(x0:UInt64)(x1:Int)(x2 x3:List UInt16):OT:=cM PG cj.E 118 gA cj.h 639 [.u64 x0,.i .i64 x1,.sl .ws x2,.sl .ws x3]
def cj.l3(x0:UInt64)(x1:Int)(x2 x3:List UInt16)(x4:Int):OT:=cM PG cj.E 118 gA cj.h 1535 [.u64 x0,.i .i64 x1,.sl .ws x2,.sl .ws x3,.i .i64 x4]
theorem cj.gM(x0:UInt64)(x1 x2:List UInt16)(K:∀v1,v1=(Nt.bits (Nt.val x1):Int)->∀v2,v2=(Nt.bits (Nt.val x2):Int)->∀v3,v3=IntKind.i64.wrap ((IntKind.i64.wrap (v1 -v2))*(30103:Int))->∀v4,v4=IntKind.i64.wrap (Int.tdiv v3 (100000:Int))->∀v5,v5=IntKind.i64.wrap (v4 -(2:Int))->ck (Nt.is x1) (ck (Nt.is x2) (ck (!decide ((100000:Int)=0)) (cj.l2 x0 v5 x1 x2)))=ρ):cj.j1 x0 x1 x2=ρ:=ly (by kernel_rfl) (gQ K:)
theorem cj.gU(x0:UInt64)(x1:Int)(x2 x3:List UInt16)(K:∀v1,v1=IntKind.i64.wrap (x1+1)->ck (Nt.is x2&&Nt.is x3&&decide (-400<=x1/\x1<=400/\Nt.val x2<2^1100/\Nt.val x3<2^1100)) (cond (decide (Sh.tB (Nt.val x3) (-x1)<=Sh.tA (Nt.val x2) (-x1))) (cj.l2 x0 v1 x2 x3) (cj.l3 x0 x1 x2 x3 1))=ρ):cj.l2 x0 x1 x2 x3=ρ:=je (by kernel_rfl) (lP K:)
theorem cj.nX(x0:UInt64)(x1:Int)(x2 x3:List UInt16)(x4:Int)(K:∀v1,v1=((Sh.sy x0.toNat (Nt.val x2) (Nt.val x3) x1 x4).getD ([],0)).1->∀v2,v2=((Sh.sy x0.toNat (Nt.val x2) (Nt.val x3) x1 x4).getD ([],0)).2->∀v3,v3=(Sh.sy x0.toNat (Nt.val x2) (Nt.val x3) x1 x4).isSome->∀v4,v4=IntKind.i64.wrap (x4+1)->ck (Nt.is x2&&Nt.is x3&&Sh.rQ (Nt.val x2) (Nt.val x3) x1 x4) (cond v3 (some [.s v1,.i .i64 v2,.b true]) (cj.l3 x0 x1 x2 x3 v4))=ρ):cj.l3 x0 x1 x2 x3 x4=ρ:=je (by kernel_rfl) (qz K:)
theorem cj.bU(b:UInt64)(K:∀v1,v1=(b&&&~~~9223372036854775808)->∀v2,v2=Nt.of (Nr.split b).2.2.1.toNat->∀v3,v3=Nt.of (1:UInt64).toNat->∀v4,v4=Nt.of (Nt.val v2*2^(Nr.split b).2.2.2.toNat)->∀v5,v5=IntKind.i64.wrap (0 -(Nr.split b).2.2.2)->∀v6,v6=Nt.of (Nt.val v3*2^v5.toNat)->cond (!decide ((Nr.split b).1=2)) (some [.s [],.i .i64 0,.b false]) (cond (decide (0<=(Nr.split b).2.2.2)) (ck (decide (0<=(Nr.split b).2.2.2/\(Nr.split b).2.2.2<=4096)&&Nt.is v2) (cj.j1 v1 v4 v3)) (ck (decide (0<=v5/\v5<=4096)&&Nt.is v3) (cj.j1 v1 v2 v6)))=ρ):cj.F b=ρ:=Eq.trans (by kernel_rfl) (gQ (lP K:):)
def fN.E:cH:=dc gH zs [(77,iW.c,bC),(152,jU.c,bC)]
def fN.h:Hint:=.s .o (.s .o (.s .o (.s .o (.j (sc [1,6]) .o .o))))
def fN.F(d:bD)(x:Int):OT:=cq PG fN.E 119 bC fN.h [.s d,.i .i64 x]
def fN.j1(x0:Int)(x1:bD):OT:=di PG fN.E 119 bC fN.h 31 [.i .i64 x0,.s x1]
theorem fN.gM(x0:Int)(x1:bD)(K:∀v1,v1=IntKind.i64.wrap (1 -x0)->∀v2,v2=(x1++[101,45])++(Nr.itoa v1)->∀v3,v3=IntKind.i64.wrap (x0 -1)->∀v4,v4=(x1++[101,43])++(Nr.itoa v3)->cond (decide (x0<1)) (ck (decide (x1.length+([101,45]:bD).length<=9223372036854775807)) (ck (Nr.i64 v1) (ck (decide ((x1++[101,45]).length+(Nr.itoa v1).length<=9223372036854775807)) (some [.s v2])))) (ck (decide (x1.length+([101,43]:bD).length<=9223372036854775807)) (ck (Nr.i64 v3) (ck (decide ((x1++[101,43]).length+(Nr.itoa v3).length<=9223372036854775807)) (some [.s v4]))))=ρ):fN.j1 x0 x1=ρ:=ly (by kernel_rfl) (qz K:)
theorem fN.bU(d:bD)(x:Int)(K:∀(v1:Bool)(h1:v1=(cond (decide ((1:Int)<=x)) (decide (x<=(21:Int))) false))(v2:Bool)(h2:v2=(cond v1 (decide (((d).length:Int)<=x)) false))(v3:Int)(h3:v3=(IntKind.i64.wrap (x -((d).length:Int))))(v4:bD)(h4:v4=((List.take (x).toNat d)++([46]:bD)))(v5:bD)(h5:v5=(v4++(List.drop (x).toNat d)))(v6:Bool)(h6:v6=(cond (decide ((-5:Int)<=x)) (decide (x<=(0:Int))) false))(v7:bD)(h7:v7=(Sh.eu ((IntKind.i64.wrap (0 -x)))))(v8:bD)(h8:v8=((([48,46]:bD)++v7)++d))(v9:bD)(h9:v9=(List.take ((1:Int)).toNat d))(v10:bD)(iZ:v10=(List.drop ((1:Int)).toNat d))(v11:bD)(lJ:v11=(v9++(([46]:bD)++v10))),ck (!(decide ((1:Int)<=x))||(decide ((1:Int)<=x))) (ck (!(decide ((1:Int)<=x))||(decide ((1:Int)<=x))) (ck (!v1||(v1&&v1)) (ck (!v1||v1) (cond v2 (ck (decide ((([48]:bD))=[48]/\0<=v3/\v3<=100)) (ck (decide ((d).length+((Sh.eu v3)).length<=9223372036854775807)) (some [(.s (d++(Sh.eu v3)))]))) (ck (!(decide ((1:Int)<=x))||(decide ((1:Int)<=x))) (ck (!(decide ((1:Int)<=x))||(decide ((1:Int)<=x))) (cond v1 (ck (eM 0 x (d).length) (ck (decide (((List.take (x).toNat d)).length+(([46]:bD)).length<=9223372036854775807)) (ck (eM x (d).length (d).length) (ck (decide ((v4).length+((List.drop (x).toNat d)).length<=9223372036854775807)) (some [(.s v5)]))))) (ck (!(decide ((-5:Int)<=x))||(decide ((-5:Int)<=x))) (ck (!(decide ((-5:Int)<=x))||(decide ((-5:Int)<=x))) (cond v6 (ck (decide ((([48]:bD))=[48]/\0<=((IntKind.i64.wrap (0 -x)))/\((IntKind.i64.wrap (0 -x)))<=100)) (ck (decide ((([48,46]:bD)).length+(v7).length<=9223372036854775807)) (ck (decide (((([48,46]:bD)++v7)).length+(d).length<=9223372036854775807)) (some [(.s v8)])))) (ck (eM 0 (1:Int) (d).length) (cond (decide ((1:Int)<((d).length:Int))) (ck (eM (1:Int) (d).length (d).length) (ck (decide ((([46]:bD)).length+(v10).length<=9223372036854775807)) (ck (decide ((v9).length+((([46]:bD)++v10)).length<=9223372036854775807)) (fN.j1 x v11)))) (fN.j1 x v9)))))))))))))=ρ):fN.F d x=ρ:=Eq.trans (by kernel_rfl) (K _ rfl _ rfl _ rfl _ rfl _ rfl _ rfl _ rfl _ rfl _ rfl _ rfl _ rfl)
def fy.E:cH:=dc gH zs [(108,jD.c,lZ),(118,cj.c,gA),(119,fN.c,bC)]
def fy.h:Hint:=.s .o (.s .o (.s .o (.j (sc [4,7]) .o .o)))
def fy.F(b:UInt64):OT:=cq PG fy.E 84 bC fy.h [.u64 b]
def fy.j1(x0:Bool)(x1:bD):OT:=di PG fy.E 84 bC fy.h 15 [.b x0,.s x1]
theorem fy.mF(x0:Bool)(x1:bD):fy.j1 x0 x1=cond x0 (ck (decide (([45]:bD).length+x1.length<=9223372036854775807)) (some [.s (([45]:bD)++x1)])) (some [.s x1]):=ly (by kernel_rfl) rfl
theorem fy.bU(b:UInt64)(K:∀v1,v1=Sh.Ga (Sh.dg b).1 (Sh.dg b).2.1->cond (decide ((Nr.split b).1=4)) (some [.s [78,97,78]]) (cond (decide ((Nr.split b).1=3)) (fy.j1 (Nr.split b).2.1 [73,110,102,105,110,105,116,121]) (cond (decide ((Nr.split b).1=1)) (fy.j1 (Nr.split b).2.1 [48]) (ck (decide (1<=(Sh.dg b).1.length/\(Sh.dg b).1.length<=17/\-900<=(Sh.dg b).2.1/\(Sh.dg b).2.1<=900)) (fy.j1 (Nr.split b).2.1 v1))))=ρ):fy.F b=ρ:=Eq.trans (by kernel_rfl) (lP K:)
def gj.h:Hint:=.s .o (.s .o (.s .o (.s (.b (.l [(1,.no),(6,.fo 800000),(7,.no),(800000,.pv)] .o)) .o)))
def gj.F(d:bD)(x:Int):OT:=cq PG dI 126 bR gj.h [.s d,.i .i64 x]
def gj.l1(x0 x1:Int)(x2:List UInt8):OT:=cM PG dI 126 bR gj.h 39 [.i .i64 x0,.pt,.i .i64 x1,.sl .bs x2]
theorem gj.bM(x0 x1:Int)(x2:List UInt8)(K:∀v1,v1=List.getD x2 x1.toNat 0->∀v2,v2=cond (decide (0<=x1)) (decide (v1=57)) false->∀v3,v3=List.set x2 x1.toNat 48->∀v4,v4=IntKind.i64.wrap (x1 -1)->∀v5,v5=IntKind.i64.wrap (x0+1)->∀v6,v6=List.set x2 x1.toNat (v1+1)->∀v7,v7=IntKind.i64.wrap (x1+1)->ck (!(decide (0<=x1))||(((decide (0<=x1))&&(decide (0<=x1)))&&(bF x1 x2.length))) (ck (!(decide (0<=x1))||((decide (0<=x1))&&(decide (x1.toNat<x2.length)))) (ck (!(decide (0<=x1))||(decide (0<=x1))) (ck (!(decide (0<=x1))||(decide (0<=x1))) (cond v2 (ck (bF x1 x2.length) (ck (decide (x1.toNat<x2.length)) (gj.l1 x0 v4 v3))) (cond (decide (x1<0)) (some [.s [49],.i .i64 v5]) (ck (bF x1 x2.length) (ck (decide (x1.toNat<x2.length)) (ck (bF x1 x2.length) (ck (decide (x1.toNat<x2.length)) (ck (eM 0 v7 v6.length) (some [.s (List.take v7.toNat v6),.i .i64 x0])))))))))))=ρ):gj.l1 x0 x1 x2=ρ:=je (by kernel_rfl) (gQ (mg K:):)
theorem gj.bU(d:bD)(x:Int)(K:∀v1,v1=IntKind.i64.wrap ((d.length:Int) -1)->ck (pU d.length) (gj.l1 x v1 d)=ρ):gj.F d x=ρ:=Eq.trans (by kernel_rfl) (lP K:)
def ji.F(p:UInt64)(lo hi:Int):OT:=cq PG dI 127 bC (.o) [.u64 p,.i .i64 lo,.i .i64 hi]
theorem ji.bU(p:UInt64)(lo hi:Int)(K:∀v1,v1=cond (decide ((0:Int)<=lo)) (decide (hi<=(0:Int))) false->∀v2,v2=cond (decide ((0:Int)<lo)) (decide (hi<(0:Int))) false->ck (!decide ((2:UInt64)=0)) (cond (decide ((p%(2:UInt64))=(0:UInt64))) (ck (!(decide ((0:Int)<=lo))||(decide ((0:Int)<=lo))) (ck (!(decide ((0:Int)<=lo))||(decide ((0:Int)<=lo))) (some [.b v1]))) (ck (!(decide ((0:Int)<lo))||(decide ((0:Int)<lo))) (ck (!(decide ((0:Int)<lo))||(decide ((0:Int)<lo))) (some [.b v2]))))=ρ):ji.F p lo hi=ρ:=Eq.trans (by kernel_rfl) (mg K:)
end Go.Eng
namespace Go.Eng
open Go.Proofs
variable{ρ:OT}
def bW.E:cH:=dc gH zs [(93,hO.c,lZ),(125,bE.c,bR),(126,gj.c,bR),(127,ji.c,bC),(128,jj.c,bC)]
def bW.h:Hint:=.s .o (.s .o (.s .o (.s .o (.s .o (.s .o (.s .o (.j (sc [7,8,9,10,11,12,13]) .o (.s .o (.s (.s .o (.b (.l (sc [9,10,11,12,13,14,15,16]) (.s .o (.s (.b (.s .o (.s (.b (.l (sc [9,10,11,12,13,14,15,16,17,18]) .o)) .o))) .o))))) .o)))))))))
def bW.F(b:UInt64):OT:=cq PG bW.E 94 gA bW.h [.u64 b]
def bW.j1(x0:UInt64)(x1:Int)(x2:UInt64)(x3:bD)(x4:Int)(x5:bD)(x6:Int):OT:=di PG bW.E 94 gA bW.h 255 [.u64 x0,.i .i64 x1,.u64 x2,.s x3,.i .i64 x4,.s x5,.i .i64 x6]
def bW.l2(x0:UInt64)(x1:bD)(x2:Int)(x3:bD)(x4:Int)(x5:bD)(x6 x7:Int):OT:=cM PG bW.E 94 gA bW.h 5631 [.u64 x0,.s x1,.i .i64 x2,.s x3,.i .i64 x4,.s x5,.i .i64 x6,.i .i64 x7]
def bW.l3(x0:UInt64)(x1:bD)(x2:Int)(x3:bD)(x4:Int)(x5:bD)(x6 x7:Int)(x8 x9:bD):OT:=cM PG bW.E 94 gA bW.h 599551 [.u64 x0,.s x1,.i .i64 x2,.s x3,.i .i64 x4,.s x5,.i .i64 x6,.i .i64 x7,.s x8,.s x9]
theorem bW.gM(x0:UInt64)(x1:Int)(x2:UInt64)(x3:bD)(x4:Int)(x5:bD)(x6:Int)(K:∀v1,v1=(2*x0)+1->∀v2,v2=IntKind.i64.wrap (x1 -1)->ck (decide (1<=v1.toNat/\v1.toNat<2^55/\-1075<=v2/\v2<=971)) (bW.l2 x2 x3 x4 x5 x6 (Nr.z6 v1.toNat v2) (Nr.BC v1.toNat v2) 1)=ρ):bW.j1 x0 x1 x2 x3 x4 x5 x6=ρ:=ly (by kernel_rfl) (mg K:)
theorem bW.CM(x0:UInt64)(x1:bD)(x2:Int)(x3:bD)(x4:Int)(x5:bD)(x6 x7:Int):bW.l2 x0 x1 x2 x3 x4 x5 x6 x7=cond (decide (x7<(x1.length:Int))) (ck (eM 0 x7 x1.length) (ck (eM x7 x1.length x1.length) (bW.l3 x0 x1 x2 x3 x4 x5 x6 x7 (List.take x7.toNat x1) (List.drop x7.toNat x1)))) (some [.s x1,.i .i64 x2,.b true]):=je (by kernel_rfl) rfl
theorem bW.nX(x0:UInt64)(x1:bD)(x2:Int)(x3:bD)(x4:Int)(x5:bD)(x6 x7:Int)(x8 x9:bD)(K:∀v1,v1=IntKind.i64.wrap ((x8.length:Int) -(1:Int))->∀v2,v2=List.getD x8 v1.toNat (0:UInt8)->∀v3,v3=cond (decide ((0:Int)<(x8.length:Int))) (decide (v2=(48:UInt8))) false->∀v4,v4=(Sh.more (List.take x7.toNat x1) x2).1->∀v5,v5=(Sh.more (List.take x7.toNat x1) x2).2->∀v6,v6=Sh.wi x0.toNat (Nr.iV x8 x2 x5 x6) (Nr.iV x8 x2 x3 x4)->∀v7,v7=Sh.wi x0.toNat (Nr.iV v4 v5 x5 x6) (Nr.iV v4 v5 x3 x4)->∀v8,v8=Op.bytesLess x9 ([53]:bD)->∀v9,v9=((!v8)&&(decide (x9=([53]:bD))))->∀v10,v10=IntKind.i64.wrap (x7 -(1:Int))->∀v11,v11=List.getD x1 v10.toNat (0:UInt8)->∀v12,v12=(v11 -(48:UInt8))%(2:UInt8)->∀kx,kx=cond (decide (x9=([53]:bD))) (decide (v12=(0:UInt8))) false->∀kg,kg=IntKind.i64.wrap (x7+(1:Int))->ck (!(decide ((0:Int)<(x8.length:Int)))||(decide ((0:Int)<(x8.length:Int)))) (ck (!(decide ((0:Int)<(x8.length:Int)))||(decide ((0:Int)<(x8.length:Int)))) (ck (!(decide ((0:Int)<(x8.length:Int)))||(((decide ((0:Int)<(x8.length:Int)))&&(decide ((0:Int)<(x8.length:Int))))&&(bF v1 x8.length))) (ck (!(decide ((0:Int)<(x8.length:Int)))||(decide ((0:Int)<(x8.length:Int)))) (ck (!(decide ((0:Int)<(x8.length:Int)))||(decide ((0:Int)<(x8.length:Int)))) (cond v3 (ck (eM 0 v1 x8.length) (bW.l3 x0 x1 x2 x3 x4 x5 x6 x7 (List.take v1.toNat x8) x9)) (ck (eM 0 x7 x1.length) (ck (decide (1<=(List.take x7.toNat x1).length/\(List.take x7.toNat x1).length<=100000/\-100000<=x2/\x2<=100000)) (ck (!v6||v6) (cond (cond v6 v7 false) (ck (!(!v8)||(!v8)) (ck (!(!v8)||(!v8)) (ck (!v9||v9) (ck (!v9||((v9&&v9)&&(bF v10 x1.length))) (ck (!v9||v9) (ck (!v9||(v9&&(!decide ((2:UInt8)=0)))) (ck (!v9||v9) (ck (!(!v8)||((!v8)&&(!(decide (x9=([53]:bD)))||v9))) (ck (v8||(!v8)) (cond (cond v8 true kx) (some [.s x8,.i .i64 x2,.b true]) (some [.s v4,.i .i64 v5,.b true]))))))))))) (cond v6 (some [.s x8,.i .i64 x2,.b true]) (cond v7 (some [.s v4,.i .i64 v5,.b true]) (bW.l2 x0 x1 x2 x3 x4 x5 x6 kg))))))))))))=ρ):bW.l3 x0 x1 x2 x3 x4 x5 x6 x7 x8 x9=ρ:=je (by kernel_rfl) (gQ (qz (gQ K:):):)
theorem bW.bU(b:UInt64)(K:∀v1,v1=iS b (1:UInt64).toNat->∀v2,v2=cE v1 (1:UInt64).toNat->∀v3,v3=Nr.z6 (Nr.split b).2.2.1.toNat (Nr.split b).2.2.2->∀v4,v4=Nr.BC (Nr.split b).2.2.1.toNat (Nr.split b).2.2.2->∀v5,v5=2*(Nr.split b).2.2.1->∀v6,v6=IntKind.i64.wrap ((Nr.split b).2.2.2 -1)->∀v7,v7=Nr.z6 (v5+1).toNat v6->∀v8,v8=Nr.BC (v5+1).toNat v6->∀v9,v9=(Nr.split (v2 -1)).1->∀v10,v10=(Nr.split (v2 -1)).2.1->∀v11,v11=(Nr.split (v2 -1)).2.2.1->∀v12,v12=(Nr.split (v2 -1)).2.2.2->cond (!decide ((Nr.split b).1=2)) (some [.s [],.i .i64 0,.b false]) (ck (decide (1<=(Nr.split b).2.2.1.toNat/\(Nr.split b).2.2.1.toNat<2^55/\-1075<=(Nr.split b).2.2.2/\(Nr.split b).2.2.2<=971)) (ck (decide (1<=(v5+1).toNat/\(v5+1).toNat<2^55/\-1075<=v6/\v6<=971)) (cond (decide (v2=1)) (bW.j1 v11 (-1074) v2 v3 v4 v7 v8) (bW.j1 v11 v12 v2 v3 v4 v7 v8))))=ρ):bW.F b=ρ:=Eq.trans (by kernel_rfl) (gQ (mg (gQ K:):):)
def bG.E:cH:=dc gH zs [(93,hO.c,lZ),(94,bW.c,gA),(95,kG.c,bC)]
def bG.h:Hint:=.s .o (.s .o (.s .o (.j (sc [0,3,7]) .o (.s .o (.s .o (.s .o (.s (.b (.s .o (.s (.s (.b (.l (sc [7,8,9]) .o)) .o) (.s .o (.s .o (.s .o (.s (.s (.s .o (.b (.l (sc [7,8,12]) .o))) .o) .o))))))) (.s .o (.j (sc [9,13]) .o .o)))))))))
def bG.F(b:UInt64):OT:=cq PG bG.E 56 bC bG.h [.u64 b]
def bG.j1(x0:UInt64)(x1:Int)(x2:bD):OT:=di PG bG.E 56 bC bG.h 15 [.u64 x0,.i .i64 x1,.s x2]
def bG.l2(x0 x1:bD)(x2:Int):OT:=cM PG bG.E 56 bC bG.h 8831 [.s x0,.s x1,.i .i64 x2]
def bG.l3(x0 x1:bD)(x2:Int):OT:=cM PG bG.E 56 bC bG.h 343679 [.s x0,.s x1,.i .i64 x2]
def bG.j4(x0:Int)(x1:bD):OT:=di PG bG.E 56 bC bG.h 1023 [.i .i64 x0,.s x1]
theorem bG.gM(x0:UInt64)(x1:Int)(x2:bD)(K:∀(v1:bD)(h1:v1=(x2++([73,110,102,105,110,105,116,121]:bD)))(v2:Int)(h2:v2=((((Sh.dg x0).1)).length:Int))(v3:Bool)(h3:v3=(cond (decide ((1:Int)<=((Sh.dg x0).2.1))) (decide (((Sh.dg x0).2.1)<=(21:Int))) false))(v4:Bool)(h4:v4=(cond v3 (decide (v2<=((Sh.dg x0).2.1))) false))(v5:bD)(h5:v5=(List.take (((Sh.dg x0).2.1)).toNat ((Sh.dg x0).1)))(v6:bD)(h6:v6=(List.drop (((Sh.dg x0).2.1)).toNat ((Sh.dg x0).1)))(v7:bD)(h7:v7=(((x2++v5)++([46]:bD))++v6))(v8:Bool)(h8:v8=(cond (decide ((-5:Int)<=((Sh.dg x0).2.1))) (decide (((Sh.dg x0).2.1)<=(0:Int))) false))(v9:bD)(h9:v9=(List.take ((1:Int)).toNat ((Sh.dg x0).1)))(v10:bD)(iZ:v10=(List.drop ((1:Int)).toNat ((Sh.dg x0).1)))(v11:bD)(lJ:v11=(((x2++v9)++([46]:bD))++v10)),cond (decide (x1=(4:Int))) (some [(.s ([78,97,78]:bD))]) (cond (decide (x1=(3:Int))) (ck (decide ((x2).length+(([73,110,102,105,110,105,116,121]:bD)).length<=9223372036854775807)) (some [(.s v1)])) (cond (decide (x1=(1:Int))) (ck (decide ((x2).length+(([48]:bD)).length<=9223372036854775807)) (some [(.s (x2++([48]:bD)))])) (ck (!(decide ((1:Int)<=((Sh.dg x0).2.1)))||(decide ((1:Int)<=((Sh.dg x0).2.1)))) (ck (!(decide ((1:Int)<=((Sh.dg x0).2.1)))||(decide ((1:Int)<=((Sh.dg x0).2.1)))) (ck (!v3||(v3&&v3)) (ck (!v3||v3) (cond v4 (bG.l2 x2 ((Sh.dg x0).1) ((Sh.dg x0).2.1)) (ck (!(decide ((1:Int)<=((Sh.dg x0).2.1)))||(decide ((1:Int)<=((Sh.dg x0).2.1)))) (ck (!(decide ((1:Int)<=((Sh.dg x0).2.1)))||(decide ((1:Int)<=((Sh.dg x0).2.1)))) (cond v3 (ck (eM 0 ((Sh.dg x0).2.1) (((Sh.dg x0).1)).length) (ck (decide ((x2).length+(v5).length<=9223372036854775807)) (ck (decide (((x2++v5)).length+(([46]:bD)).length<=9223372036854775807)) (ck (eM ((Sh.dg x0).2.1) (((Sh.dg x0).1)).length (((Sh.dg x0).1)).length) (ck (decide ((((x2++v5)++([46]:bD))).length+(v6).length<=9223372036854775807)) (some [(.s v7)])))))) (ck (!(decide ((-5:Int)<=((Sh.dg x0).2.1)))||(decide ((-5:Int)<=((Sh.dg x0).2.1)))) (ck (!(decide ((-5:Int)<=((Sh.dg x0).2.1)))||(decide ((-5:Int)<=((Sh.dg x0).2.1)))) (cond v8 (bG.l3 x2 ((Sh.dg x0).1) ((Sh.dg x0).2.1)) (ck (eM 0 (1:Int) (((Sh.dg x0).1)).length) (ck (decide ((x2).length+(v9).length<=9223372036854775807)) (cond (decide ((1:Int)<v2)) (ck (decide (((x2++v9)).length+(([46]:bD)).length<=9223372036854775807)) (ck (eM (1:Int) (((Sh.dg x0).1)).length (((Sh.dg x0).1)).length) (ck (decide ((((x2++v9)++([46]:bD))).length+(v10).length<=9223372036854775807)) (bG.j4 ((Sh.dg x0).2.1) v11)))) (bG.j4 ((Sh.dg x0).2.1) (x2++v9))))))))))))))))))=ρ):bG.j1 x0 x1 x2=ρ:=((nE _ _ _ _ _ _ _).trans (by kernel_rfl)).trans (K _ rfl _ rfl _ rfl _ rfl _ rfl _ rfl _ rfl _ rfl _ rfl _ rfl _ rfl)
theorem bG.CM(x0 x1:bD)(x2:Int):bG.l2 x0 x1 x2=cond (decide ((x1.length:Int)<x2)) (ck (decide (x1.length+([48]:bD).length<=9223372036854775807)) (bG.l2 x0 (x1++[48]) x2)) (ck (decide (x0.length+x1.length<=9223372036854775807)) (some [.s (x0++x1)])):=je (by kernel_rfl) rfl
theorem bG.nX(x0 x1:bD)(x2:Int)(K:∀v1,v1=IntKind.i64.wrap (x2+1)->∀v2,v2=(x0++([48,46]:bD))++x1->cond (decide (x2<0)) (ck (decide (([48]:bD).length+x1.length<=9223372036854775807)) (bG.l3 x0 (([48]:bD)++x1) v1)) (ck (decide (x0.length+([48,46]:bD).length<=9223372036854775807)) (ck (decide ((x0++([48,46]:bD)).length+x1.length<=9223372036854775807)) (some [.s v2])))=ρ):bG.l3 x0 x1 x2=ρ:=je (by kernel_rfl) (mg K:)
theorem bG.CP(x0:Int)(x1:bD)(K:∀v1,v1=IntKind.i64.wrap (1 -x0)->∀v2,v2=(x1++[101,45])++(Nr.itoa v1)->∀v3,v3=IntKind.i64.wrap (x0 -1)->∀v4,v4=(x1++[101,43])++(Nr.itoa v3)->cond (decide (x0<1)) (ck (decide (x1.length+([101,45]:bD).length<=9223372036854775807)) (ck (Nr.i64 v1) (ck (decide ((x1++[101,45]).length+(Nr.itoa v1).length<=9223372036854775807)) (some [.s v2])))) (ck (decide (x1.length+([101,43]:bD).length<=9223372036854775807)) (ck (Nr.i64 v3) (ck (decide ((x1++[101,43]).length+(Nr.itoa v3).length<=9223372036854775807)) (some [.s v4]))))=ρ):bG.j4 x0 x1=ρ:=ly (by kernel_rfl) (qz K:)
theorem bG.de(b:UInt64):bG.F b=cond (Nr.split b).2.1 (bG.j1 b (Nr.split b).1 [45]) (bG.j1 b (Nr.split b).1 []):=by kernel_rfl
def ft.E:cH:=dc gH zs [(192,tw.c,bC)]
def ft.F(v:UInt64)(b:Int):OT:=cq PG ft.E 156 bC (.o) [.u64 v,.i .i64 b]
theorem ft.de(v:UInt64)(b:Int):ft.F v b=ck (decide (b=10)) (some [.s (Nr.dec v.toNat)]):=by kernel_rfl
def gw.F(s t:bD):OT:=cq PG dI 82 bC (.o) [.s s,.s t]
theorem gw.bU(s:bD)(t:bD)(K:∀(v1:bD)(h1:v1=(List.take (((t).length:Int)).toNat s))(v2:Bool)(h2:v2=(cond (decide (((t).length:Int)<=((s).length:Int))) (decide (v1=t)) false)),ck (!(decide (((t).length:Int)<=((s).length:Int)))||(decide (((t).length:Int)<=((s).length:Int)))) (ck (!(decide (((t).length:Int)<=((s).length:Int)))||(((decide (((t).length:Int)<=((s).length:Int)))&&(decide (((t).length:Int)<=((s).length:Int))))&&(eM 0 ((t).length:Int) (s).length))) (ck (!(decide (((t).length:Int)<=((s).length:Int)))||((decide (((t).length:Int)<=((s).length:Int)))&&(decide (((t).length:Int)<=((s).length:Int))))) (ck (!(decide (((t).length:Int)<=((s).length:Int)))||(decide (((t).length:Int)<=((s).length:Int)))) (some [(.b v2)]))))=ρ):gw.F s t=ρ:=Eq.trans (by kernel_rfl) (K _ rfl _ rfl)
def fL.E:cH:=dc gH zs [(82,gw.c,bC)]
def fL.F(s t:bD):OT:=cq PG fL.E 43 bC (.o) [.s s,.s t]
theorem fL.de(s t:bD):fL.F s t=some [.b (List.isPrefixOf t s)]:=by kernel_rfl
def fK.E:cH:=dc gH zs [(163,fM.c,bC)]
def fK.F(s:bD)(c:UInt8):OT:=cq PG fK.E 137 bC (.o) [.s s,.u8 c]
theorem fK.de(s:bD)(c:UInt8):fK.F s c=some [.i .i64 (Lib.indexByte s c)]:=by kernel_rfl
def ky.F(a b:UInt64):OT:=cq PG dI 222 bR (.o) [.u64 a,.u64 b]
theorem ky.bU(a b:UInt64)(K:∀v1,v1=(a&&&4294967295)->∀v2,v2=cE a (32:UInt64).toNat->∀v3,v3=(b&&&4294967295)->∀v4,v4=cE b (32:UInt64).toNat->∀v5,v5=cE (v1*v3) (32:UInt64).toNat->∀v6,v6=(((v2*v3)+v5)&&&4294967295)->∀v7,v7=cE ((v2*v3)+v5) (32:UInt64).toNat->∀v8,v8=cE (v6+(v1*v4)) (32:UInt64).toNat->some [.u64 (((v2*v4)+v7)+v8),.u64 (a*b)]=ρ):ky.F a b=ρ:=Eq.trans (by kernel_rfl) (gQ (pn K:):)
def iD.E:cH:=dc gH zs [(205,bits_Len64.c,bC)]
def iD.F(v:UInt64):OT:=cq PG iD.E 225 bC (.o) [.u64 v]
theorem iD.bU(v:UInt64)(K:∀v1,v1=IntKind.i64.wrap (64 -(Nt.bits v.toNat:Int))->some [.i .i64 v1]=ρ):iD.F v=ρ:=Eq.trans (by kernel_rfl) (lP K:)
def bV.E:cH:=dc gH zs [(225,iD.c,bC)]
def bV.h:Hint:=.s .o (.j (sc [0,1,2]) .o (.j (sc [0,1,2]) .o (.s .o (.s .o (.s .o (.s .o (.s .o (.s .o (.s .o (.s .o (.s .o (.s .o (.s .o (.j (sc [2,8,9,10,11,13,14,15]) (.b (.l (sc [2,8,9,10,11,13,14,15,16]) .o)) (.s .o (.s .o (.s .o (.j (sc [2,8,14,15,17,18]) (.b (.l (sc [2,8,9,10,14,15,16,17,18]) .o)) .o))))))))))))))))))
def bV.F(a b y:UInt64):OT:=cq PG bV.E 191 bR bV.h [.u64 a,.u64 b,.u64 y]
def bV.j1(x0 x1 x2:UInt64):OT:=di PG bV.E 191 bR bV.h 3 [.u64 x0,.u64 x1,.u64 x2]
def bV.j2(x0 x1 x2:UInt64):OT:=di PG bV.E 191 bR bV.h 7 [.u64 x0,.u64 x1,.u64 x2]
def bV.l3(x0 x1 x2 x3 x4 x5 x6 x7 x8:UInt64):OT:=cM PG bV.E 191 bR bV.h 81919 [.u64 x0,.u64 x1,.u64 x2,.u64 x3,.u64 x4,.u64 x5,.u64 x6,.u64 x7,.u64 x8]
def bV.j4(x0 x1 x2 x3 x4 x5 x6 x7:UInt64):OT:=di PG bV.E 191 bR bV.h 32767 [.u64 x0,.u64 x1,.u64 x2,.u64 x3,.u64 x4,.u64 x5,.u64 x6,.u64 x7]
def bV.l5(x0 x1 x2 x3 x4 x5 x6 x7 x8:UInt64):OT:=cM PG bV.E 191 bR bV.h 1310719 [.u64 x0,.u64 x1,.u64 x2,.u64 x3,.u64 x4,.u64 x5,.u64 x6,.u64 x7,.u64 x8]
def bV.j6(x0 x1 x2 x3 x4 x5:UInt64):OT:=di PG bV.E 191 bR bV.h 524287 [.u64 x0,.u64 x1,.u64 x2,.u64 x3,.u64 x4,.u64 x5]
theorem bV.mF(x0 x1 x2:UInt64):bV.j1 x0 x1 x2=cond (decide (x2<=x0)) none (bV.j2 x0 x1 x2):=ly (by kernel_rfl) rfl
theorem bV.ik(x0 x1 x2:UInt64)(K:∀v1,v1=iS x2 (UInt64.ofInt (0)).toNat->∀v2,v2=cE v1 (32:UInt64).toNat->∀v3,v3=(v1&&&4294967295)->∀v4,v4=iS x0 (UInt64.ofInt (0)).toNat->∀v5,v5=64 -(UInt64.ofInt (0))->∀v6,v6=(v4|||(cE x1 v5.toNat))->∀v7,v7=iS x1 (UInt64.ofInt (0)).toNat->∀v8,v8=cE v7 (32:UInt64).toNat->∀v9,v9=(v7&&&4294967295)->cond (decide (x0=0)) (ck (!decide (x2=0)) (ck (!decide (x2=0)) (some [.u64 (x1/x2),.u64 (x1% x2)]))) (ck (decide (9223372036854775808<=x2.toNat)) (ck (!decide (v2=0)) (bV.l3 v1 (UInt64.ofInt (0)) v2 v3 v6 v8 v9 (v6/v2) (v6 -((v6/v2)*v2)))))=ρ):bV.j2 x0 x1 x2=ρ:=ly (by kernel_rfl) (gQ (qz K:):)
theorem bV.nX(x0 x1 x2 x3 x4 x5 x6 x7 x8:UInt64)(K:∀v1,v1=(4294967296*x8)+x5->∀v2,v2=cond (decide (4294967296<=x7)) true (decide (v1<(x7*x3)))->ck (!(!(decide (4294967296<=x7)))||((!(decide (4294967296<=x7)))&&(!(decide (4294967296<=x7))))) (ck (!(!(decide (4294967296<=x7)))||(!(decide (4294967296<=x7)))) (ck (!(!(decide (4294967296<=x7)))||((!(decide (4294967296<=x7)))&&(!(decide (4294967296<=x7))))) (ck (!(!(decide (4294967296<=x7)))||((!(decide (4294967296<=x7)))&&(!(decide (4294967296<=x7))))) (ck ((decide (4294967296<=x7))||(!(decide (4294967296<=x7)))) (cond v2 (cond (decide (4294967296<=(x8+x2))) (bV.j4 x0 x1 x2 x3 x4 x5 x6 (x7 -1)) (bV.l3 x0 x1 x2 x3 x4 x5 x6 (x7 -1) (x8+x2))) (bV.j4 x0 x1 x2 x3 x4 x5 x6 x7))))))=ρ):bV.l3 x0 x1 x2 x3 x4 x5 x6 x7 x8=ρ:=je (by kernel_rfl) (mg K:)
theorem bV.CP(x0 x1 x2 x3 x4 x5 x6 x7:UInt64)(K:∀v1,v1=(x4*4294967296)+x5->∀v2,v2=((v1 -(x7*x0))/x2)*x2->ck (!decide (x2=0)) (bV.l5 x0 x1 x2 x3 x6 x7 ((v1 -(x7*x0)) -v2) (v1 -(x7*x0)) ((v1 -(x7*x0))/x2))=ρ):bV.j4 x0 x1 x2 x3 x4 x5 x6 x7=ρ:=ly (by kernel_rfl) (mg K:)
theorem bV.yd(x0 x1 x2 x3 x4 x5 x6 x7 x8:UInt64)(K:∀v1,v1=(4294967296*x6)+x4->∀v2,v2=cond (decide (4294967296<=x8)) true (decide (v1<(x8*x3)))->ck (!(!(decide (4294967296<=x8)))||((!(decide (4294967296<=x8)))&&(!(decide (4294967296<=x8))))) (ck (!(!(decide (4294967296<=x8)))||(!(decide (4294967296<=x8)))) (ck (!(!(decide (4294967296<=x8)))||((!(decide (4294967296<=x8)))&&(!(decide (4294967296<=x8))))) (ck (!(!(decide (4294967296<=x8)))||((!(decide (4294967296<=x8)))&&(!(decide (4294967296<=x8))))) (ck ((decide (4294967296<=x8))||(!(decide (4294967296<=x8)))) (cond v2 (cond (decide (4294967296<=(x6+x2))) (bV.j6 x0 x1 x4 x5 x7 (x8 -1)) (bV.l5 x0 x1 x2 x3 x4 x5 (x6+x2) x7 (x8 -1))) (bV.j6 x0 x1 x4 x5 x7 x8))))))=ρ):bV.l5 x0 x1 x2 x3 x4 x5 x6 x7 x8=ρ:=je (by kernel_rfl) (mg K:)
theorem bV.Kf(x0 x1 x2 x3 x4 x5:UInt64)(K:∀v1,v1=(x3*4294967296)+x5->∀v2,v2=(x4*4294967296)+x2->∀v3,v3=cE (v2 -(x5*x0)) x1.toNat->some [.u64 v1,.u64 v3]=ρ):bV.j6 x0 x1 x2 x3 x4 x5=ρ:=ly (by kernel_rfl) (pn K:)
theorem bV.de(a b y:UInt64):bV.F a b y=cond (decide (y=0)) none (bV.j1 a b y):=by kernel_rfl
def mq.F(a b:dP):OT:=cq PG dI 153 bC (.o) [.ag a.cells,.ag b.cells]
theorem mq.bU(a b:dP)(K:∀v1,v1=(decide (a.high=b.high)&&decide (a.low=b.low))->∀v2,v2=((!(decide (a.high<b.high)))&&(decide (a.high=b.high)))->∀v3,v3=cond (decide (a.high=b.high)) (decide (a.low<b.low)) false->∀v4,v4=cond (decide (a.high<b.high)) true v3->cond v1 (some [.i .i64 0]) (ck (!(!(decide (a.high<b.high)))||(!(decide (a.high<b.high)))) (ck (!(!(decide (a.high<b.high)))||(!(decide (a.high<b.high)))) (ck (!(!(decide (a.high<b.high)))||((!(decide (a.high<b.high)))&&(!(decide (a.high<b.high))))) (ck (!(!(decide (a.high<b.high)))||(!(decide (a.high<b.high)))) (ck (!v2||v2) (ck (!v2||v2) (ck (!v2||(v2&&v2)) (ck (!(!(decide (a.high<b.high)))||((!(decide (a.high<b.high)))&&(!(decide (a.high=b.high))||v2))) (ck ((decide (a.high<b.high))||(!(decide (a.high<b.high)))) (cond v4 (some [.i .i64 (-1)]) (some [.i .i64 1])))))))))))=ρ):mq.F a b=ρ:=Eq.trans (by kernel_rfl) (qz K:)
def mj.E:cH:=dc gH zs [(222,ky.c,bR)]
def mj.F(a b:UInt64):OT:=cq PG mj.E 190 bC (.o) [.u64 a,.u64 b]
theorem mj.bU(a b:UInt64)(K:∀v1,v1=UInt64.ofNat (a.toNat*b.toNat/18446744073709551616)->∀v2,v2=UInt64.ofNat (a.toNat*b.toNat)->some [.ag [.u64 v1,.u64 v2]]=ρ):mj.F a b=ρ:=Eq.trans (by kernel_rfl) (mg K:)
def mo.E:cH:=dc gH zs [(191,bV.c,bR)]
def mo.F(a:dP)(b:UInt64):OT:=cq PG mo.E 155 gA (.o) [.ag a.cells,.u64 b]
theorem mo.bU(a:dP)(b:UInt64)(K:∀v1,v1=UInt64.ofNat (((0:UInt64).toNat*18446744073709551616+a.high.toNat)/b.toNat)->∀v2,v2=UInt64.ofNat (((0:UInt64).toNat*18446744073709551616+a.high.toNat)% b.toNat)->∀v3,v3=UInt64.ofNat ((v2.toNat*18446744073709551616+a.low.toNat)/b.toNat)->∀v4,v4=UInt64.ofNat ((v2.toNat*18446744073709551616+a.low.toNat)% b.toNat)->cond (decide (b=0)) (some [.ag [.u64 0,.u64 0],.u64 0,.b false]) (ck (decide (9223372036854775808<=b.toNat/\(0:UInt64).toNat<b.toNat)) (ck (decide (9223372036854775808<=b.toNat/\v2.toNat<b.toNat)) (some [.ag [.u64 v1,.u64 v3],.u64 v4,.b true])))=ρ):mo.F a b=ρ:=Eq.trans (by kernel_rfl) (qz K:)
def dK.E:cH:=dc gH zs [(152,jU.c,bC),(155,mo.c,gA),(156,ft.c,bC),(157,kX.c,bC)]
def dK.h:Hint:=.s .o (.s .o (.s (.b (.l [(1,.ptr 53 0),(3,.no),(53,.cl [])] .o)) (.j (sc [3]) .o .o)))
def dK.F(a:dP):OT:=cq PG dK.E 123 bC dK.h [.ag a.cells]
def dK.l1(x0:bD)(x1 x2:UInt64):OT:=cM PG dK.E 123 bC dK.h 19 [.pt,.s x0,.ag [.u64 x1,.u64 x2]]
def dK.j2(x0:bD):OT:=di PG dK.E 123 bC dK.h 15 [.s x0]
theorem dK.bM(x0:bD)(x1 x2:UInt64)(K:∀v1,v1=dP.of ((dP.mk x1 x2).val/(10000000000000000000:UInt64).toNat)->∀v2,v2=UInt64.ofNat ((dP.mk x1 x2).val%(10000000000000000000:UInt64).toNat)->∀v3,v3=((Nr.dec v2.toNat).length:Int)->∀v4,v4=IntKind.i64.wrap ((19:Int) -v3)->∀v5,v5=(Sh.eu v4)++(Nr.dec v2.toNat)->∀v6,v6=cond (decide (x0=([]:bD))) true (!decide (x2=(0:UInt64)))->cond (!decide (x1=(0:UInt64))) (ck (decide (9223372036854775808<=(10000000000000000000:UInt64).toNat)) (ck (decide ((10:Int)=10)) (ck (decide (([48]:bD)=[48]/\0<=v4/\v4<=100)) (ck (decide ((Sh.eu v4).length+(Nr.dec v2.toNat).length<=9223372036854775807)) (ck (decide (v5.length+x0.length<=9223372036854775807)) (dK.l1 (v5++x0) v1.high v1.low)))))) (ck (!(!(decide (x0=([]:bD))))||(!(decide (x0=([]:bD))))) (ck (!(!(decide (x0=([]:bD))))||(!(decide (x0=([]:bD))))) (ck ((decide (x0=([]:bD)))||(!(decide (x0=([]:bD))))) (cond v6 (ck (decide ((10:Int)=10)) (ck (decide ((Nr.dec x2.toNat).length+x0.length<=9223372036854775807)) (dK.j2 ((Nr.dec x2.toNat)++x0)))) (dK.j2 x0)))))=ρ):dK.l1 x0 x1 x2=ρ:=je (by kernel_rfl) (gQ (lP K:):)
theorem dK.ik(x0:bD)(K:∀(v1:Int)(h1:v1=(IntKind.i64.wrap (((x0).length:Int) -(1:Int))))(v2:bD)(h2:v2=(Lib.trimLeftS ((List.take (v1).toNat x0)) (([48]:bD))))(v3:bD)(h3:v3=(v2++(List.drop (v1).toNat x0))),ck (eM 0 v1 (x0).length) (ck (decide ((((List.take (v1).toNat x0))).length<=1099511627776/\((([48]:bD))).length<=100)&&((([48]:bD))).all (λb=>decide (b.toNat<128))) (ck (eM v1 (x0).length (x0).length) (ck (decide ((v2).length+((List.drop (v1).toNat x0)).length<=9223372036854775807)) (some [(.s v3)]))))=ρ):dK.j2 x0=ρ:=((nE _ _ _ _ _ _ _).trans (by kernel_rfl)).trans (K _ rfl _ rfl _ rfl)
theorem dK.de(a:dP):dK.F a=dK.l1 [] a.high a.low:=by kernel_rfl
def jQ.E:cH:=dc gH zs [(190,mj.c,bC)]
def jQ.F:OT:=cq PG jQ.E 154 bC (.o) []
theorem jQ.bU(K:∀v1,v1=dP.of ((100000000000000000:UInt64).toNat*(100000000000000000:UInt64).toNat)->some [.ag v1.cells]=ρ):jQ.F=ρ:=Eq.trans (by kernel_rfl) (lP K:)
def fi.E:cH:=dc gH zs [(153,mq.c,bC),(154,jQ.c,bC)]
def fi.h:Hint:=.s .o (.s .o (.s .o (.s .o (.s .o (.j [(0,.no),(5,.no),(6,.ptr 58 0),(58,.cl [])] .o .o)))))
def fi.F(h l:UInt64):OT:=cq PG fi.E 120 lZ fi.h [.u64 h,.u64 l]
def fi.j1(x0:UInt64)(x1:Bool)(x2 x3:UInt64):OT:=di PG fi.E 120 lZ fi.h 63 [.u64 x0,.b x1,.pt,.ag [.u64 x2,.u64 x3]]
theorem fi.gM(x0:UInt64)(x1:Bool)(x2 x3:UInt64)(K:∀v1,v1=cE x0 (49:UInt64).toNat->∀v2,v2=IntKind.i64.wrap ((v1&&&16383).toNat:Int)->∀v3,v3=IntKind.i64.wrap (v2 -6176)->some [.i .i64 1,.b x1,.ag [.u64 x2,.u64 x3],.i .i64 v3]=ρ):fi.j1 x0 x1 x2 x3=ρ:=ly (by kernel_rfl) (pn K:)
theorem fi.bU(h l:UInt64)(K:∀v1,v1=cE h (63:UInt64).toNat->∀v2,v2=cE h (58:UInt64).toNat->∀v3,v3=decide ((v2&&&31)=31)->∀v4,v4=decide ((v2&&&31)=30)->∀v5,v5=cE (v2&&&31) (3:UInt64).toNat->∀v6,v6=cE h (47:UInt64).toNat->∀v7,v7=IntKind.i64.wrap ((v6&&&16383).toNat:Int)->∀v8,v8=IntKind.i64.wrap (v7 -6176)->∀v9,v9=(h&&&562949953421311)->∀v10,v10=cond (decide ((dP.mk v9 l).val=(Cn.rh).val)) 0 (cond (decide ((dP.mk v9 l).val<(Cn.rh).val)) (-1) 1)->cond v3 (some [.i .i64 3,.b (decide (v1=1)),.ag [.u64 0,.u64 0],.i .i64 0]) (cond v4 (some [.i .i64 2,.b (decide (v1=1)),.ag [.u64 0,.u64 0],.i .i64 0]) (cond (decide (v5=3)) (some [.i .i64 1,.b (decide (v1=1)),.ag [.u64 0,.u64 0],.i .i64 v8]) (cond (decide (0<=v10)) (fi.j1 h (decide (v1=1)) 0 0) (fi.j1 h (decide (v1=1)) v9 l))))=ρ):fi.F h l=ρ:=Eq.trans (by kernel_rfl) (gQ (gQ K:):)
def gp.E:cH:=dc gH zs [(153,mq.c,bC),(154,jQ.c,bC)]
def gp.h:Hint:=.s .o (.s .o (.s .o (.j [(4,.ptr 38 0),(6,.no),(38,.cl [])] .o .o)))
def gp.F(n:Bool)(c:dP)(x:Int):OT:=cq PG gp.E 121 gA gp.h [.b n,.ag c.cells,.i .i64 x]
def gp.j1(x0 x1 x2:UInt64):OT:=di PG gp.E 121 gA gp.h 15 [.pt,.u64 x0,.ag [.u64 x1,.u64 x2]]
theorem gp.mF(x0 x1 x2:UInt64):gp.j1 x0 x1 x2=some [.u64 x0,.u64 x2,.b true]:=ly (by kernel_rfl) rfl
theorem gp.bU(n:Bool)(c:dP)(x:Int)(K:∀v1,v1=cond (decide (c.val=(Cn.rh).val)) 0 (cond (decide (c.val<(Cn.rh).val)) (-1) 1)->∀v2,v2=cond (decide (0<=v1)) true (decide (x<(-6176)))->∀v3,v3=cond v2 true (decide (6111<x))->∀v4,v4=IntKind.i64.wrap (x+6176)->∀v5,v5=iS (UInt64.ofInt v4) (49:UInt64).toNat->∀v6,v6=((v5|||c.high)|||9223372036854775808)->ck (!(!(decide (0<=v1)))||(!(decide (0<=v1)))) (ck ((decide (0<=v1))||(!(decide (0<=v1)))) (ck (!(!v2)||(!v2)) (ck (v2||(!v2)) (cond v3 (some [.u64 0,.u64 0,.b false]) (cond n (gp.j1 v6 c.high c.low) (gp.j1 (v5|||c.high) c.high c.low))))))=ρ):gp.F n c x=ρ:=Eq.trans (by kernel_rfl) (gQ (lP K:):)
def jC.E:cH:=dc gH zs [(120,fi.c,lZ),(121,gp.c,gA)]
def jC.F(h l:UInt64):OT:=cq PG jC.E 86 bC (.o) [.u64 h,.u64 l]
theorem jC.bU(h l:UInt64)(K:∀v1,v1=cond (decide (h=8935141660703064064)) (decide (l=0)) false->∀v2,v2=(h&&&~~~9223372036854775808)->∀v3,v3=cond (decide (v2=8646911284551352320)) (decide (l=0)) false->∀v4,v4=(Cn.join (Cn.split h l).2.1 (Cn.split h l).2.2.1 (Cn.split h l).2.2.2).1->∀v5,v5=(Cn.join (Cn.split h l).2.1 (Cn.split h l).2.2.1 (Cn.split h l).2.2.2).2.1->∀v6,v6=(Cn.join (Cn.split h l).2.1 (Cn.split h l).2.2.1 (Cn.split h l).2.2.2).2.2->∀v7,v7=cond v6 (decide (v4=h)) false->∀v8,v8=cond v7 (decide (v5=l)) false->cond (decide ((Cn.split h l).1=3)) (ck (!(decide (h=8935141660703064064))||(decide (h=8935141660703064064))) (ck (!(decide (h=8935141660703064064))||(decide (h=8935141660703064064))) (some [.b v1]))) (cond (decide ((Cn.split h l).1=2)) (ck (!(decide (v2=8646911284551352320))||(decide (v2=8646911284551352320))) (ck (!(decide (v2=8646911284551352320))||(decide (v2=8646911284551352320))) (some [.b v3]))) (ck (Nr.i64 (Cn.split h l).2.2.2) (ck (!v6||(v6&&v6)) (ck (!v6||v6) (ck (!v7||(v7&&v7)) (ck (!v7||v7) (some [.b v8])))))))=ρ):jC.F h l=ρ:=Eq.trans (by kernel_rfl) (gQ (pn K:):)
def eP.E:cH:=dc gH zs [(83,og.c,bC),(152,jU.c,bC)]
def eP.h:Hint:=.s .o (.s .o (.s .o (.s (.b (.s .o (.s .o (.s .o (.s (.j (sc [0,1,5]) .o .o) .o))))) (.s .o (.j (sc [6,7]) .o .o)))))
def eP.F(d:bD)(x:Int):OT:=cq PG eP.E 122 bC eP.h [.s d,.i .i64 x]
def eP.j1(x0:bD)(x1 x2:Int):OT:=di PG eP.E 122 bC eP.h 743 [.s x0,.i .i64 x1,.i .i64 x2]
def eP.j2(x0:Int)(x1:bD):OT:=di PG eP.E 122 bC eP.h 63 [.i .i64 x0,.s x1]
theorem eP.gM(x0:bD)(x1:Int)(x2:Int)(K:∀(v1:bD)(h1:v1=(List.take ((IntKind.i64.wrap (x2+x1))).toNat x0))(v2:bD)(h2:v2=(List.drop ((IntKind.i64.wrap (x2+x1))).toNat x0)),ck (eM 0 (IntKind.i64.wrap (x2+x1)) (x0).length) (ck (decide ((v1).length+(([46]:bD)).length<=9223372036854775807)) (ck (eM (IntKind.i64.wrap (x2+x1)) (x0).length (x0).length) (ck (decide (((v1++([46]:bD))).length+(v2).length<=9223372036854775807)) (some [(.s ((v1++([46]:bD))++v2))]))))=ρ):eP.j1 x0 x1 x2=ρ:=((nE _ _ _ _ _ _ _).trans (by kernel_rfl)).trans (K _ rfl _ rfl)
theorem eP.ik(x0:Int)(x1:bD)(K:∀v1,v1=Nr.itoa (IntKind.i64.wrap (0 -x0))->∀v2,v2=(x1++[69,45])++v1->∀v3,v3=(x1++[69,43])++(Nr.itoa x0)->cond (decide (x0<0)) (ck (decide (x1.length+([69,45]:bD).length<=9223372036854775807)) (ck (Nr.i64 (IntKind.i64.wrap (0 -x0))) (ck (decide ((x1++[69,45]).length+v1.length<=9223372036854775807)) (some [.s v2])))) (ck (decide (x1.length+([69,43]:bD).length<=9223372036854775807)) (ck (Nr.i64 x0) (ck (decide ((x1++[69,43]).length+(Nr.itoa x0).length<=9223372036854775807)) (some [.s v3]))))=ρ):eP.j2 x0 x1=ρ:=ly (by kernel_rfl) (pn K:)
theorem eP.bU(d:bD)(x:Int)(K:∀(v1:Int)(h1:v1=(IntKind.i64.wrap (x+((d).length:Int))))(v2:Int)(h2:v2=(IntKind.i64.wrap (v1 -(1:Int))))(v3:Bool)(h3:v3=(cond (decide (x<(0:Int))) (decide ((-6:Int)<=v2)) false))(v4:Int)(h4:v4=(IntKind.i64.wrap ((1:Int) -x)))(v5:Int)(h5:v5=(IntKind.i64.wrap (v4 -((d).length:Int))))(v6:Int)(h6:v6=((((Sh.eu v5)++d)).length:Int))(v7:bD)(h7:v7=(List.take ((1:Int)).toNat d))(v8:bD)(h8:v8=(List.drop ((1:Int)).toNat d)),cond (decide (x=(0:Int))) (some [(.s d)]) (ck (!(decide (x<(0:Int)))||(decide (x<(0:Int)))) (ck (!(decide (x<(0:Int)))||(decide (x<(0:Int)))) (cond v3 (cond (decide (((d).length:Int)<=(IntKind.i64.wrap (0 -x)))) (ck (decide ((([48]:bD))=[48]/\0<=v5/\v5<=100)) (ck (decide (((Sh.eu v5)).length+(d).length<=9223372036854775807)) (eP.j1 ((Sh.eu v5)++d) x v6))) (eP.j1 d x ((d).length:Int))) (ck (eM 0 (1:Int) (d).length) (cond (decide ((1:Int)<((d).length:Int))) (ck (eM (1:Int) (d).length (d).length) (ck (decide ((([46]:bD)).length+(v8).length<=9223372036854775807)) (ck (decide ((v7).length+((([46]:bD)++v8)).length<=9223372036854775807)) (eP.j2 v2 (v7++(([46]:bD)++v8)))))) (eP.j2 v2 v7))))))=ρ):eP.F d x=ρ:=Eq.trans (by kernel_rfl) (K _ rfl _ rfl _ rfl _ rfl _ rfl _ rfl _ rfl _ rfl)
def gn.E:cH:=dc gH zs [(120,fi.c,lZ),(122,eP.c,bC),(123,dK.c,bC)]
def gn.h:Hint:=.s .o (.s .o (.s .o (.j (sc [6,9]) .o .o)))
def gn.F(h l:UInt64):OT:=cq PG gn.E 87 bC gn.h [.u64 h,.u64 l]
def gn.j1(x0:Bool)(x1:bD):OT:=di PG gn.E 87 bC gn.h 15 [.b x0,.s x1]
theorem gn.mF(x0:Bool)(x1:bD):gn.j1 x0 x1=cond x0 (ck (decide (([45]:bD).length+x1.length<=9223372036854775807)) (some [.s (([45]:bD)++x1)])) (some [.s x1]):=ly (by kernel_rfl) rfl
theorem gn.bU(h l:UInt64)(K:∀v1,v1=Nr.dec (Cn.split h l).2.2.1.val->∀v2,v2=Cn.laid v1 (Cn.split h l).2.2.2->cond (decide ((Cn.split h l).1=3)) (some [.s [78,97,78]]) (cond (decide ((Cn.split h l).1=2)) (gn.j1 (Cn.split h l).2.1 [73,110,102,105,110,105,116,121]) (ck (decide (1<=v1.length/\v1.length<=40/\-10000<=(Cn.split h l).2.2.2/\(Cn.split h l).2.2.2<=100000)) (gn.j1 (Cn.split h l).2.1 v2)))=ρ):gn.F h l=ρ:=Eq.trans (by kernel_rfl) (mg K:)
def eh.h:Hint:=.s .o (.s .o (.s (.b (.l [(0,.no),(3,.fo 800000),(800000,.pv)] .o)) (.j [(3,.fo 800000),(800000,.pv)] .o .o)))
def eh.F(b:List UInt8):OT:=cq PG dI 88 bC eh.h [.sl .bs b]
def eh.l1(x0 x1:List UInt8):OT:=cM PG dI 88 bC eh.h 19 [.sl .bs x0,.pt,.sl .bs x1]
def eh.j2(x0:List UInt8):OT:=di PG dI 88 bC eh.h 15 [.pt,.sl .bs x0]
theorem eh.bM(x0 x1:List UInt8)(K:∀v1,v1=List.getD x0 (0:Int).toNat 0->∀v2,v2=nP v1 (2:UInt64).toNat->∀v3,v3=List.getD [65,66,67,68,69,70,71,72,73,74,75,76,77,78,79,80,81,82,83,84,85,86,87,88,89,90,97,98,99,100,101,102,103,104,105,106,107,108,109,110,111,112,113,114,115,116,117,118,119,120,121,122,48,49,50,51,52,53,54,55,56,57,43,47] (v2.toNat:Int).toNat 0->∀v4,v4=oe (v1&&&3) (4:UInt64).toNat->∀v5,v5=List.getD x0 (1:Int).toNat 0->∀v6,v6=nP v5 (4:UInt64).toNat->∀v7,v7=List.getD [65,66,67,68,69,70,71,72,73,74,75,76,77,78,79,80,81,82,83,84,85,86,87,88,89,90,97,98,99,100,101,102,103,104,105,106,107,108,109,110,111,112,113,114,115,116,117,118,119,120,121,122,48,49,50,51,52,53,54,55,56,57,43,47] ((v4|||v6).toNat:Int).toNat 0->∀v8,v8=oe (v5&&&15) (2:UInt64).toNat->∀v9,v9=List.getD x0 (2:Int).toNat 0->∀v10,v10=nP v9 (6:UInt64).toNat->∀v11,v11=List.getD [65,66,67,68,69,70,71,72,73,74,75,76,77,78,79,80,81,82,83,84,85,86,87,88,89,90,97,98,99,100,101,102,103,104,105,106,107,108,109,110,111,112,113,114,115,116,117,118,119,120,121,122,48,49,50,51,52,53,54,55,56,57,43,47] ((v8|||v10).toNat:Int).toNat 0->∀v12,v12=List.getD [65,66,67,68,69,70,71,72,73,74,75,76,77,78,79,80,81,82,83,84,85,86,87,88,89,90,97,98,99,100,101,102,103,104,105,106,107,108,109,110,111,112,113,114,115,116,117,118,119,120,121,122,48,49,50,51,52,53,54,55,56,57,43,47] ((v9&&&63).toNat:Int).toNat 0->∀kx,kx=([v3,v7,v11,v12]:List UInt8)->∀kg,kg=List.drop (3:Int).toNat x0->∀kf,kf=List.getD [65,66,67,68,69,70,71,72,73,74,75,76,77,78,79,80,81,82,83,84,85,86,87,88,89,90,97,98,99,100,101,102,103,104,105,106,107,108,109,110,111,112,113,114,115,116,117,118,119,120,121,122,48,49,50,51,52,53,54,55,56,57,43,47] (v4.toNat:Int).toNat 0->∀oD,oD=([v3,kf,61,61]:List UInt8)->∀uF,uF=List.getD [65,66,67,68,69,70,71,72,73,74,75,76,77,78,79,80,81,82,83,84,85,86,87,88,89,90,97,98,99,100,101,102,103,104,105,106,107,108,109,110,111,112,113,114,115,116,117,118,119,120,121,122,48,49,50,51,52,53,54,55,56,57,43,47] (v8.toNat:Int).toNat 0->∀o9,o9=([v3,v7,uF,61]:List UInt8)->cond (decide (3<=(x0.length:Int))) (ck (bF 0 x0.length) (ck (bF (v2.toNat:Int) ([65,66,67,68,69,70,71,72,73,74,75,76,77,78,79,80,81,82,83,84,85,86,87,88,89,90,97,98,99,100,101,102,103,104,105,106,107,108,109,110,111,112,113,114,115,116,117,118,119,120,121,122,48,49,50,51,52,53,54,55,56,57,43,47]:bD).length) (ck (bF 0 x0.length) (ck (bF 1 x0.length) (ck (bF ((v4|||v6).toNat:Int) ([65,66,67,68,69,70,71,72,73,74,75,76,77,78,79,80,81,82,83,84,85,86,87,88,89,90,97,98,99,100,101,102,103,104,105,106,107,108,109,110,111,112,113,114,115,116,117,118,119,120,121,122,48,49,50,51,52,53,54,55,56,57,43,47]:bD).length) (ck (bF 1 x0.length) (ck (bF 2 x0.length) (ck (bF ((v8|||v10).toNat:Int) ([65,66,67,68,69,70,71,72,73,74,75,76,77,78,79,80,81,82,83,84,85,86,87,88,89,90,97,98,99,100,101,102,103,104,105,106,107,108,109,110,111,112,113,114,115,116,117,118,119,120,121,122,48,49,50,51,52,53,54,55,56,57,43,47]:bD).length) (ck (bF 2 x0.length) (ck (bF ((v9&&&63).toNat:Int) ([65,66,67,68,69,70,71,72,73,74,75,76,77,78,79,80,81,82,83,84,85,86,87,88,89,90,97,98,99,100,101,102,103,104,105,106,107,108,109,110,111,112,113,114,115,116,117,118,119,120,121,122,48,49,50,51,52,53,54,55,56,57,43,47]:bD).length) (ck (dY (x1.length+kx.length) 1) (ck (eM 3 x0.length x0.length) (eh.l1 kg (x1++kx)))))))))))))) (cond (decide ((x0.length:Int)=1)) (ck (bF 0 x0.length) (ck (bF (v2.toNat:Int) ([65,66,67,68,69,70,71,72,73,74,75,76,77,78,79,80,81,82,83,84,85,86,87,88,89,90,97,98,99,100,101,102,103,104,105,106,107,108,109,110,111,112,113,114,115,116,117,118,119,120,121,122,48,49,50,51,52,53,54,55,56,57,43,47]:bD).length) (ck (bF 0 x0.length) (ck (bF (v4.toNat:Int) ([65,66,67,68,69,70,71,72,73,74,75,76,77,78,79,80,81,82,83,84,85,86,87,88,89,90,97,98,99,100,101,102,103,104,105,106,107,108,109,110,111,112,113,114,115,116,117,118,119,120,121,122,48,49,50,51,52,53,54,55,56,57,43,47]:bD).length) (ck (dY (x1.length+oD.length) 1) (eh.j2 (x1++oD))))))) (cond (decide ((x0.length:Int)=2)) (ck (bF 0 x0.length) (ck (bF (v2.toNat:Int) ([65,66,67,68,69,70,71,72,73,74,75,76,77,78,79,80,81,82,83,84,85,86,87,88,89,90,97,98,99,100,101,102,103,104,105,106,107,108,109,110,111,112,113,114,115,116,117,118,119,120,121,122,48,49,50,51,52,53,54,55,56,57,43,47]:bD).length) (ck (bF 0 x0.length) (ck (bF 1 x0.length) (ck (bF ((v4|||v6).toNat:Int) ([65,66,67,68,69,70,71,72,73,74,75,76,77,78,79,80,81,82,83,84,85,86,87,88,89,90,97,98,99,100,101,102,103,104,105,106,107,108,109,110,111,112,113,114,115,116,117,118,119,120,121,122,48,49,50,51,52,53,54,55,56,57,43,47]:bD).length) (ck (bF 1 x0.length) (ck (bF (v8.toNat:Int) ([65,66,67,68,69,70,71,72,73,74,75,76,77,78,79,80,81,82,83,84,85,86,87,88,89,90,97,98,99,100,101,102,103,104,105,106,107,108,109,110,111,112,113,114,115,116,117,118,119,120,121,122,48,49,50,51,52,53,54,55,56,57,43,47]:bD).length) (ck (dY (x1.length+o9.length) 1) (eh.j2 (x1++o9)))))))))) (eh.j2 x1)))=ρ):eh.l1 x0 x1=ρ:=je (by kernel_rfl) (gQ (pn (gQ (gQ K:):):):)
theorem eh.kn(x0:List UInt8):eh.j2 x0=some [.s x0]:=ly (by kernel_rfl) rfl
theorem eh.de(b:List UInt8):eh.F b=eh.l1 b ([]:List UInt8):=by kernel_rfl
def lF.F(s:bD):OT:=cq PG dI 47 bC (.o) [.s s]
theorem lF.de(s:bD):lF.F s=some [.ag [.i .i64 5,.s s,.sl .ml ([]:List Mem)]]:=by kernel_rfl
def lH.E:cH:=dc gH zs [(77,iW.c,bC)]
def lH.F(v:Int):OT:=cq PG lH.E 48 bC (.o) [.i .i64 v]
theorem lH.de(v:Int):lH.F v=ck (Nr.i64 v) (some [.ag [.i .i64 4,.s (Nr.itoa v),.sl .ml ([]:List Mem)]]):=by kernel_rfl
def lG.F(s:bD)(j:cQ):OT:=cq PG dI 44 bC (.o) [.s s,.ag j.cells]
theorem lG.bU(s:bD)(j:cQ)(K:∀v1,v1=([Mem.mk s j.kind j.text j.kids]:List Mem)->some [.ag [.i .i64 7,.s [],.sl .ml v1]]=ρ):lG.F s j=ρ:=Eq.trans (by kernel_rfl) (lP K:)
def lE.F(s:bD)(j:cQ)(t:bD)(k:cQ):OT:=cq PG dI 46 bC (.o) [.s s,.ag j.cells,.s t,.ag k.cells]
theorem lE.bU(s:bD)(j:cQ)(t:bD)(k:cQ)(K:∀v1,v1=([Mem.mk s j.kind j.text j.kids,Mem.mk t k.kind k.text k.kids]:List Mem)->some [.ag [.i .i64 7,.s [],.sl .ml v1]]=ρ):lE.F s j t k=ρ:=Eq.trans (by kernel_rfl) (lP K:)
def fE.E:cH:=dc gH zs [(89,dE.c,bC)]
def fE.h:Hint:=.s .o (.s .o (.s (.s .o (.b (.l [(0,.no),(3,.fo 800000),(4,.no),(800000,.pv)] .o))) .o))
def fE.F(v:UInt64):OT:=cq PG fE.E 85 bC fE.h [.u64 v]
def fE.l1(x0:UInt64)(x1:Int)(x2:List UInt8):OT:=cM PG fE.E 85 bC fE.h 43 [.u64 x0,.pt,.i .i64 x1,.sl .bs x2]
theorem fE.bM(x0:UInt64)(x1:Int)(x2:List UInt8)(K:∀v1,v1=UInt8.ofInt ((cE x0 x1.toNat).toNat:Int)->∀v2,v2=IntKind.i64.wrap (x1 -8)->cond (decide (0<=x1)) (ck (decide (0<=x1)) (ck (dY (x2.length+([v1]:List UInt8).length) 1) (fE.l1 x0 v2 (x2++([v1]:List UInt8))))) (ck (decide (x2.length<=1099511627776)) (some [.s (kv.text x2)]))=ρ):fE.l1 x0 x1 x2=ρ:=je (by kernel_rfl) (mg K:)
theorem fE.de(v:UInt64):fE.F v=fE.l1 v 56 ([]:List UInt8):=by kernel_rfl
end Go.Eng
