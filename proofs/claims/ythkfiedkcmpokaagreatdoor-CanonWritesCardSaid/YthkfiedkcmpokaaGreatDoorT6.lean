/- Texts of my own, one behind the other: WcUtfP, WcJd1, WcW1, WcW2, WcOKB, WcT34, WcQ7, WcQ8, WcQ9, WcQ10, WcQ11, WcQ12, WcQ13, WcZ0, WcZ1, WcZ2, WcJd2, WcJd3, WcY1, WcZ4, WcW3, WcW4, WcW5, WcJd4, WcJd5, WcZ5, WcZ3, WcZ6, WcW6, WcQ14, WcHx, WcJp1, WcRp1, WcRp2, WcRp3, WcRp4, WcRp5, WcJp2, WcJp3, WcJp4, WcRp6, WcRp7, WcOKT, WcWhole, WcTreeP1, WcTreeP2, WcTreeP3, WcTreeP4, WcRegP, WcBookP, WcS6, WcOK, WcAlaw25, WcA25, WcOKA25, WcLCanonWrites, WcJd6, WcSame, WcChk, WcQCanonWrites, WcOKCanonWrites. -/
import Derived.Test.YthkfiedkcmpokaaGreatDoorT5
import Derived.IntWalk
import Derived.WalkKit
import Derived.WalkSpells
set_option linter.defProp false
set_option linter.unusedVariables false
set_option linter.unusedSimpArgs false
noncomputable section
set_option maxRecDepth 20000
namespace Go.Eng
open Go.IntWalk
theorem nM.goal(r:Int):nM.F r=some [.b (dy.nR r)]:=by refine nM.bU r ?_;intro v1 h1 v2 h2 v3 h3;subst h1 h2 h3;by_cases a:0<=r<;>by_cases b:r<=1114111<;>by_cases c:r<55296<;>simp[ck,a,b,c,dy.nR]
theorem RQ:∀n,n<256->((n&&&192=128)↔(128<=n/\n<192)):=by decide+kernel
theorem UD:∀n,n<256->(128<=n/\n<192)->n&&&63=n -128:=by decide+kernel
theorem UE:∀n,n<256->(192<=n/\n<224)->n&&&31=n -192:=by decide+kernel
theorem UG:∀n,n<256->(224<=n/\n<240)->n&&&15=n -224:=by decide+kernel
theorem Yx:∀n,n<256->(240<=n/\n<248)->n&&&7=n -240:=by decide+kernel
theorem Eb(c:UInt8):c.toNat<256:=by have:=c.toNat_lt;simpa using this
theorem Ig(c:UInt8):decide ((c&&&(192:UInt8))=(128:UInt8))=decide (128<=c.toNat/\c.toNat<192):=by have h:=RQ c.toNat (Eb c);rw[aN];simp only[aD];rw[<-h,<-UInt8.toNat_inj,UInt8.toNat_and];exact Iff.rfl
theorem Wy(c:UInt8)(h:128<=c.toNat/\c.toNat<192):((c&&&(63:UInt8)).toNat:Int)=((c.toNat -128:Nat):Int):=by rw[UInt8.toNat_and];exact congrArg _ (UD c.toNat (Eb c) h)
def y8(r:Option Nat)(more least:Nat):OT:=match r with|some r=>if r<least\/dy.nR r=false then some [.i .i64 0,.i .i64 0]else some [.i .i64 r,.i .i64 (more+1:Int)]|none=>some [.i .i64 0,.i .i64 0]
theorem F1(c:Nat)(more least:Nat)(l:bD):y8 (dy.cont c more l) more least=some [.i .i64 (dy.pR c more least l).1,.i .i64 (dy.pR c more least l).2]:=by
 unfold y8 dy.pR;cases dy.cont c more l with
 |none=>rfl
 |some r=>simp only;split<;>rfl
theorem bZ.end_(r:Nat)(more least:Nat)(hm:more<8):(ck (!(!(decide ((r:Int)<(least:Int))))||(!(decide ((r:Int)<(least:Int))))) (ck (!(!(decide ((r:Int)<(least:Int))))||(!(decide ((r:Int)<(least:Int))))) (ck ((decide ((r:Int)<(least:Int)))||(!(decide ((r:Int)<(least:Int))))) (cond (cond (decide ((r:Int)<(least:Int))) true (!(dy.nR r))) (bZ.g1) (some [(.i .i64 (r:Int)),(.i .i64 (IntKind.i64.wrap ((more:Int)+(1:Int))))])))))=y8 (some r) more least:=by simp only[aS,bg,bP];rw[iw,bZ.zV];unfold y8;by_cases h:r<least;{simp[h]};{simp only[show¬((r:Int)<(least:Int)) by omega,decide_false,aj,h,false_or];cases dy.nR r<;>simp}
theorem bZ.Uo(b:bD)(at_:Nat)(more least:Nat)(hm:more<8)(hb:b.length<=1099511627776)(gr:at_+more<b.length):∀(k i r:Nat),i+k=more+1->r<2^(10+6*i)->bZ.g3 b at_ r more least i=y8 (dy.cont r k (b.drop (at_+i))) more least:=by
 intro k;induction k with
 |zero=>intro i r hi hr;apply bZ.KG;intro v1 h1 v2 h2 v3 h3 v4 h4 v5 h5 v6 h6 v7 h7;rw[show decide ((i:Int)<=(more:Int))=false by simp;omega,aj];subst h6 h7;rw[dy.cont];exact bZ.end_ r more least hm
 |succ k ih=>intro i r hi hr;apply bZ.KG;intro v1 h1 v2 h2 v3 h3 v4 h4 v5 h5 v6 h6 v7 h7;have hw:IntKind.i64.wrap ((at_:Int)+(i:Int))=((at_+i:Nat):Int):=by{rw[iw];omega};have OX:=drop_cons (l:=b) (i:=at_+i) (by omega) 0;rw[show decide ((i:Int)<=(more:Int))=true by simp;omega,au,hw];rw[hw,ah]at h1;rw[ki,OX,<-h1,dy.cont,h2,Ig];by_cases hc:128<=v1.toNat/\v1.toNat<192;{rw[ar hc,aa hc];simp only[aG,aj];rw[ki];have hp:2^(10+6*i)*64=2^(10+6*(i+1)):=by{rw[show 10+6*(i+1)=(10+6*i)+6 by omega,Nat.pow_add 2 (10+6*i) 6]};have Iv:2^(10+6*(i+1))<=2^58:=Nat.pow_le_pow_right (by omega) (by omega);have W2:r*64+64<=2^(10+6*(i+1)):=by{rw[<-hp];have:=ay 64 (Nat.succ_le_of_lt hr);omega};have e3:v3=((r*64:Nat):Int):=by{rw[h3];have:(min (((6:UInt64)).toNat) (IntKind.i64.bits))=6:=by{decide};rw[this,i64_in _ (by simp at Iv;omega)];simp};have e4:v4=((v1.toNat -128:Nat):Int):=by{rw[h4,Wy v1 hc];exact iw};have e5:v5=((i+1:Nat):Int):=by{rw[h5,iw];omega};have e6:db .or .i64 v3 v4=((r*64+(v1.toNat -128):Nat):Int):=by{rw[e3,e4,PY _ _ (by simp at Iv;omega) (by omega)];have:=pD (a:=r) (b:=v1.toNat -128) (k:=6) (by simp;omega);simp at this;rw[this]};rw[e6,e5,ih (i+1) _ (by omega) (by omega),Nat.add_assoc]};{rw[ao hc,ab hc];simp only[aL,au];rw[bZ.zV];rfl}
theorem bZ.po (b : bD) (at_ : Nat) (r more least : Nat) (hm : 1 ≤ more ∧ more < 8) (hb : b.length ≤ 1099511627776) (gr : at_ < b.length) (hr : r < 1024) :
    bZ.j2 b at_ r more least = y8 (dy.cont r more (b.drop (at_ + 1))) more least := by
  have O1 : ∀ (k r : Nat) (l : bD), l.length < k → dy.cont r k l = none := by
    intro k
    induction k with
    | zero => intro r l h; omega
    | succ k ih =>
      intro r l h
      cases l with
      | nil => rfl
      | cons c l => rw [dy.cont]; split
                    · exact ih _ _ (by simp at h; omega)
                    · rfl
  have key := fun (h : at_ + more < b.length) => bZ.Uo b at_ more least hm.2 hb h more 1 r (by omega) (by simp; omega)
  by_cases hx : at_ + more < b.length
  · rw [← key hx]
    apply bZ.ik
    intro v1 h1 v2 h2 v3 h3 v4 h4 v5 h5 v6 h6 v7 h7 v8 h8 v9 h9 v10 iZ
    symm
    apply bZ.KG
    intro w1 k1 w2 k2 w3 k3 w4 k4 w5 k5 w6 k6 w7 k7
    have e1 : v1 = (b.length : Int) - at_ := by rw [h1]; exact iw
    have e2 : v2 = (b.length : Int) - at_ - 1 := by rw [h2, e1]; exact iw
    rw [show decide (v2 < (more : Int)) = false by simp; omega, aj]
    have a1 : ((1 : Nat) : Int) = 1 := rfl
    simp only [a1] at k1 k2 k3 k4 k5 k6 k7 ⊢
    subst h3; subst h4; subst h5; subst h6; subst h7; subst h8; subst h9; subst iZ; subst k1; subst k2; subst k3; subst k4; subst k5; subst k6; subst k7
    rfl
  · apply bZ.ik
    intro v1 h1 v2 h2 v3 h3 v4 h4 v5 h5 v6 h6 v7 h7 v8 h8 v9 h9 v10 iZ
    have e1 : v1 = (b.length : Int) - at_ := by rw [h1]; exact iw
    have e2 : v2 = (b.length : Int) - at_ - 1 := by rw [h2, e1]; exact iw
    rw [show decide (v2 < (more : Int)) = true by simp; omega, au, bZ.zV, O1 _ _ _ (by simp; omega)]
    rfl
theorem R6(lo hi n:Nat):(cond (decide ((lo:Int)<=(n:Int))) (decide ((n:Int)<(hi:Int))) false)=decide (lo<=n/\n<hi):=by by_cases a:lo<=n;{rw[show decide ((lo:Int)<=(n:Int))=true by simp;omega,au,aN];simp;omega};{rw[show decide ((lo:Int)<=(n:Int))=false by simp;omega,aj,dF]}
theorem bZ.goal(b:bD)(at_:Int)(hp:decide (b.length<=1099511627776)=true):bZ.F b at_=some [.i .i64 (dy.lA b at_).1,.i .i64 (dy.lA b at_).2]:=by have hb:b.length<=1099511627776:=aq hp;refine bZ.bU b at_ ?_;intro v1 h1 v2 h2 v3 h3 v4 h4 v5 h5 v6 h6 v7 h7 v8 h8 v9 h9;unfold dy.lA;by_cases h0:at_<0;{subst h1;simp[h0,ck,bZ.zV]};{have hd0:decide (at_<0)=false:=ab h0;obtain⟨i,rfl⟩:=Int.eq_ofNat_of_zero_le (show 0<=at_ by omega);rw[hd0]at h1⊢;subst h1;simp only[aL,aG,Bool.false_or,Bool.or_true,bP,aj,ah]at h2⊢;by_cases hl:b.length<=i;{rw[show decide ((b.length:Int)<=(i:Int))=true by simp;omega,ar (.inr (by omega)),au,bZ.zV];rfl};{rw[show decide ((b.length:Int)<=(i:Int))=false by simp;omega,nO,aj,ki,drop_cons (l:=b) (i:=i) (by omega) 0,<-h2,dy.rune];have hc:=Eb v2;have e3:v3=(v2.toNat:Int):=by{rw[h3];exact iw};have an:∀(m:Nat),m<256->db .and .i64 v3 m=((v2.toNat&&&m:Nat):Int):=λm h=>by{rw[e3,N5 _ _ (by omega) (by omega)]};have an1:v5=((v2.toNat&&&31:Nat):Int):=h5.trans (an 31 (by omega));have an2:v7=((v2.toNat&&&15:Nat):Int):=h7.trans (an 15 (by omega));have an3:v9=((v2.toNat&&&7:Nat):Int):=h9.trans (an 7 (by omega));have e4:v4=decide (192<=v2.toNat/\v2.toNat<224):=by{rw[h4,e3];exact R6 192 224 _};have e6:v6=decide (224<=v2.toNat/\v2.toNat<240):=by{rw[h6,e3];exact R6 224 240 _};have e8:v8=decide (240<=v2.toNat/\v2.toNat<248):=by{rw[h8,e3];exact R6 240 248 _};have J:∀(r more least:Nat),1<=more/\more<8->r<1024->bZ.j2 b i r more least=some [.i .i64 (dy.pR r more least (b.drop (i+1))).1,.i .i64 (dy.pR r more least (b.drop (i+1))).2]:=λr more least h1 h2=>(bZ.po b i r more least h1 hb (by omega) h2).trans (F1 _ _ _ _);simp only[aS,bP];by_cases c1:v2.toNat<128;{rw[ar c1,e3,show decide ((v2.toNat:Int)<128)=true by simp;omega,au];rfl};{rw[ao c1,show decide (v3<(128:Int))=false by rw[e3];simp;omega,aj,e4];by_cases c2:192<=v2.toNat/\v2.toNat<224;{rw[ar c2,cT c2,an1,UE _ hc c2];exact J _ 1 128 (by omega) (by omega)};{rw[ao c2,cF c2,e6];by_cases c3:224<=v2.toNat/\v2.toNat<240;{rw[ar c3,cT c3,an2,UG _ hc c3];exact J _ 2 2048 (by omega) (by omega)};{rw[ao c3,cF c3,e8];by_cases c4:240<=v2.toNat/\v2.toNat<248;{rw[ar c4,cT c4,an3,Yx _ hc c4];exact J _ 3 65536 (by omega) (by omega)};{rw[ao c4,cF c4,bZ.zV];rfl}}}}}}
theorem dy.rT(l:bD):0<=(dy.rune l).2/\(dy.rune l).2<=l.length:=by
 have C0:∀(k r q:Nat)(l:bD),dy.cont r k l=some q->k<=l.length:=by
  intro k;induction k with
  |zero=>intro r q l _;omega
  |succ k ih=>
   intro r q l h;cases l with
   |nil=>cases h
   |cons c l=>rw[dy.cont]at h;split at h;{have:=ih _ _ _ h;simp;omega};{cases h}
 have Xf:∀(r more least:Nat)(l:bD),0<=(dy.pR r more least l).2/\(dy.pR r more least l).2<=l.length+1:=by
  intro r more least l;unfold dy.pR;cases h:dy.cont r more l with
  |none=>simp;omega
  |some q=>have:=C0 _ _ _ _ h;simp only;split<;>simp<;>omega
 cases l with
 |nil=>exact⟨by decide,by decide⟩
 |cons c l=>unfold dy.rune;simp only[av];split;{simp;omega};{split;{have:=Xf (c.toNat -192) 1 128 l;omega};{split;{have:=Xf (c.toNat -224) 2 2048 l;omega};{split;{have:=Xf (c.toNat -240) 3 65536 l;omega};{simp;omega}}}}
theorem dy.JU(l:bD):∀n,l.length<=n->dy.tR n l=dy.tR l.length l:=by
 have key:∀(m:Nat)(l:bD),l.length<=m->∀n,l.length<=n->dy.tR n l=dy.tR l.length l:=by
  intro m;induction m with
  |zero=>
   intro l hl n hn;have:l=[]:=List.length_eq_zero_iff.1 (by omega);subst this;cases n with
   |zero=>rfl
   |succ n=>rfl
  |succ m ih=>
   intro l hl n hn;cases h:l.length with
   |zero=>have:l=[]:=List.length_eq_zero_iff.1 h;subst this;cases n<;>rfl
   |succ k=>
    cases n with
    |zero=>omega
    |succ n=>unfold dy.tR;have hs:=dy.rT l;by_cases h0:(dy.rune l).2=0;{rw[ar h0,ar h0]};{rw[ao h0,ao h0];have hd:(l.drop (dy.rune l).2.toNat).length<=k:=by{simp;omega};rw[ih _ (by simp;omega) n (by simp;omega),ih _ (by simp;omega) k hd]}
 exact λn hn=>key _ l (Nat.le_refl _) n hn
theorem dy.vg(l:bD)(h:(dy.rune l).2≠0):dy.look l=((dy.look (l.drop (dy.rune l).2.toNat)).1+(dy.rune l).2.toNat,(dy.look (l.drop (dy.rune l).2.toNat)).2+1):=by
 have hs:=dy.rT l;unfold dy.look;cases hl:l.length with
 |zero=>omega
 |succ k=>rw[dy.tR,ao h];simp only;rw[dy.JU _ k (by simp;omega)]
theorem dy.vh(l:bD)(h:(dy.rune l).2=0):dy.look l=(0,0):=by
 unfold dy.look;cases l.length with
 |zero=>rfl
 |succ k=>rw[dy.tR,ar h]
theorem dy.xu(b:bD)(i:Nat)(h:i<b.length):dy.lA b i=dy.rune (b.drop i):=by unfold dy.lA;rw[nO,ah]
theorem cZ.bY(b:bD)(hb:b.length<=1099511627776):∀(m i k:Nat),b.length -i<=m->i<=b.length->k<=i->cZ.l1 b i k=some [.i .i64 ((i+(dy.look (b.drop i)).1:Nat):Int),.i .i64 ((k+(dy.look (b.drop i)).2:Nat):Int)]:=by
 intro m;induction m with
 |zero=>intro i k hm hi hk;apply cZ.bM;intro v1 h1 v2 h2;rw[show decide ((i:Int)<(b.length:Int))=false by simp;omega,aj,cZ.kn,aA (by omega)];rfl
 |succ m ih=>intro i k hm hi hk;by_cases gr:i<b.length;{apply cZ.bM;intro v1 h1 v2 h2;rw[dy.xu b i gr]at h1⊢;have hs:=dy.rT (b.drop i);rw[aR]at hs;rw[show decide ((i:Int)<(b.length:Int))=true by simp;omega,au,bB (aa hb)];by_cases h0:(dy.rune (b.drop i)).2=0;{rw[cT h0,cZ.kn,dy.vh _ h0];rfl};{rw[cF h0,dy.vg _ h0];have e1:v1=((i+(dy.rune (b.drop i)).2.toNat:Nat):Int):=by{rw[h1,iw];omega};have e2:v2=((k+1:Nat):Int):=by{rw[h2,iw];omega};rw[e1,e2,ih _ _ (by omega) (by omega) (by omega),List.drop_drop];simp only[aM,bt,TV.i.injEq,true_and,and_true];exact⟨by omega,by omega⟩}};{apply cZ.bM;intro v1 h1 v2 h2;rw[show decide ((i:Int)<(b.length:Int))=false by simp;omega,aj,cZ.kn,aA (by omega)];rfl}
theorem cZ.goal(b:bD)(hp:decide (b.length<=1099511627776)=true):cZ.F b=some [.i .i64 ((dy.look b).1:Int),.i .i64 ((dy.look b).2:Int)]:=by rw[cZ.de];have:=cZ.bY b (aq hp) b.length 0 0 (by omega) (by omega) (by omega);simpa using this
theorem gP.goal(b:bD)(hp:decide (b.length<=1099511627776)=true):gP.F b=some [.i .i64 ((dy.look b).1:Int),.b (dy.whole b)]:=by have e:decide (((dy.look b).1:Int)=(b.length:Int))=dy.whole b:=by{unfold dy.whole;rw[aN];simp;omega};rw[gP.de,bB hp,e]
theorem cP.end_(r:Nat)(more least:Nat){v7 v9:Bool}(h7:v7=(cond (decide ((r:Int)<(least:Int))) true (decide ((1114111:Int)<(r:Int)))))(h9:v9=(cond (decide ((55296:Int)<=(r:Int))) (decide ((r:Int)<=(57343:Int))) false)):cond (cond v7 true v9) (some [(.i .i64 (0:Int)),(.i .i64 (0:Int))]) (some [(.i .i64 (r:Int)),(.i .i64 ((more+1:Nat):Int))])=y8 (some r) more least:=by have e:cond v7 true v9=decide (r<least\/dy.nR r=false):=by{subst h7 h9;unfold dy.nR;rw[aN];by_cases a:r<least;{simp[a]};{by_cases b:1114111<r;{simp[a,show(1114111:Int)<(r:Int) by omega]<;>omega};{by_cases c:55296<=r;{simp[a,show¬(1114111:Int)<(r:Int) by omega,show(55296:Int)<=(r:Int) by omega]<;>omega};{simp[a,show¬(1114111:Int)<(r:Int) by omega,show¬(55296:Int)<=(r:Int) by omega]<;>omega}}}};rw[e];unfold y8;by_cases h:r<least\/dy.nR r=false;{rw[aa h];simp only[h,if_true,au]};{rw[ab h];simp only[h,if_false,aj];rfl}
theorem ck6(a b c:Bool)(hc:c=(!a&&b)):(!(!a)||((!a)&&(!b||c)))=true:=by subst hc;cases a<;>cases b<;>rfl
theorem cP.jb(b:bD)(at_:Nat)(more least:Nat)(hm:more<8)(hb:b.length<=1099511627776)(gr:at_+more<b.length):∀(k i r:Nat),i+k=more+1->r<2^(10+6*i)->cP.l2 b at_ ((more+1:Nat):Int) r least i=y8 (dy.cont r k (b.drop (at_+i))) more least:=by
 intro k;induction k with
 |zero=>intro i r hi hr;apply cP.gU;intro v1 h1 v2 h2 v3 h3 v4 h4 v5 h5 v6 h6 v7 h7 v8 h8 v9 h9;rw[show decide ((i:Int)<((more+1:Nat):Int))=false by simp;omega,aj];simp only[aS,bg,bP];rw[bB (ck6 _ _ _ h8),dy.cont];exact cP.end_ r more least h7 h9
 |succ k ih=>intro i r hi hr;apply cP.gU;intro v1 h1 v2 h2 v3 h3 v4 h4 v5 h5 v6 h6 v7 h7 v8 h8 v9 h9;have hw:IntKind.i64.wrap ((at_:Int)+(i:Int))=((at_+i:Nat):Int):=by{rw[iw];omega};have OX:=drop_cons (l:=b) (i:=at_+i) (by omega) 0;have hu:=Eb v1;rw[show decide ((i:Int)<((more+1:Nat):Int))=true by simp;omega,au,hw];rw[hw,ah]at h1;have e2:v2=(v1.toNat:Int):=by{rw[h2];exact iw};have e3:v3=!decide (128<=v1.toNat/\v1.toNat<192):=by{rw[h3,e2,aN];by_cases a:v1.toNat<128;{simp[a];omega};{simp[show¬(v1.toNat:Int)<128 by omega];omega}};simp only[aS,bg,bP];rw[ki,OX,<-h1,dy.cont,e3];by_cases hc:128<=v1.toNat/\v1.toNat<192;{rw[ar hc,aa hc];simp only[aG,aj];have hp:2^(10+6*i)*64=2^(10+6*(i+1)):=by{rw[show 10+6*(i+1)=(10+6*i)+6 by omega,Nat.pow_add 2 (10+6*i) 6]};have Iv:2^(10+6*(i+1))<=2^58:=Nat.pow_le_pow_right (by omega) (by omega);have W2:r*64+64<=2^(10+6*(i+1)):=by{rw[<-hp];have:=ay 64 (Nat.succ_le_of_lt hr);omega};simp at Iv;have e4:v4=((r*64:Nat):Int):=by{rw[h4,iw];simp};have e5:v5=((r*64+(v1.toNat -128):Nat):Int):=by{rw[h5,e4,e2,i64_in (((r*64:Nat):Int)+(v1.toNat:Int)) (by omega),iw];omega};have e6:v6=((i+1:Nat):Int):=by{rw[h6,iw];omega};rw[e5,e6,ih (i+1) _ (by omega) (by omega),Nat.add_assoc]};{rw[ao hc,ab hc];simp only[aL,au];rfl}
theorem dy.Fj:∀(k r:Nat)(l:bD),l.length<k->dy.cont r k l=none:=by
 intro k;induction k with
 |zero=>intro r l h;omega
 |succ k ih=>
  intro r l h;cases l with
  |nil=>rfl
  |cons c l=>rw[dy.cont];split;{exact ih _ _ (by simp at h;omega)};{rfl}
theorem cP.gF(b:bD)(at_:Nat)(r more least:Nat)(hm:1<=more/\more<8)(hb:b.length<=1099511627776)(gr:at_<b.length)(hr:r<1024):cP.j1 b at_ ((more+1:Nat):Int) r least=y8 (dy.cont r more (b.drop (at_+1))) more least:=by apply cP.gM;intro v1 h1;have e1:v1=(b.length:Int) -at_:=by{rw[h1];exact iw};by_cases hx:at_+more<b.length;{rw[show decide (v1<((more+1:Nat):Int))=false by rw[e1];simp;omega,aj];exact cP.jb b at_ more least hm.2 hb hx more 1 r (by omega) (by simp;omega)};{rw[show decide (v1<((more+1:Nat):Int))=true by rw[e1];simp;omega,au,dy.Fj _ _ _ (by simp;omega)];rfl}
theorem cP.goal(b:bD)(at_:Int)(hp:decide (b.length<=1099511627776)=true):cP.F b at_=some [.i .i64 (dy.lA b at_).1,.i .i64 (dy.lA b at_).2]:=by have hb:b.length<=1099511627776:=aq hp;refine cP.bU b at_ ?_;intro v1 h1 v2 h2 v3 h3 v4 h4 v5 h5 v6 h6 v7 h7 v8 h8 v9 h9;unfold dy.lA;simp only[aS,bg,aX,bP];by_cases h0:at_<0;{rw[h1,cT h0,au,ar (.inl h0)]};{rw[h1,cF h0];obtain⟨i,rfl⟩:=Int.eq_ofNat_of_zero_le (show 0<=at_ by omega);rw[ah]at h2;by_cases hl:b.length<=i;{rw[show decide ((b.length:Int)<=(i:Int))=true by simp;omega,ar (.inr (by omega)),au]};{rw[show decide ((b.length:Int)<=(i:Int))=false by simp;omega,nO,aj,ki,ah,drop_cons (l:=b) (i:=i) (by omega) 0,<-h2,dy.rune];have hc:=Eb v2;have e3:v3=(v2.toNat:Int):=by{rw[h3];exact iw};have e4:v4=decide (192<=v2.toNat/\v2.toNat<224):=by{rw[h4,e3];exact R6 192 224 _};have e6:v6=decide (224<=v2.toNat/\v2.toNat<240):=by{rw[h6,e3];exact R6 224 240 _};have e8:v8=decide (240<=v2.toNat/\v2.toNat<248):=by{rw[h8,e3];exact R6 240 248 _};have J:∀(r more least:Nat),1<=more/\more<8->r<1024->cP.j1 b i ((more+1:Nat):Int) r least=some [.i .i64 (dy.pR r more least (b.drop (i+1))).1,.i .i64 (dy.pR r more least (b.drop (i+1))).2]:=λr more least h1 h2=>(cP.gF b i r more least h1 hb (by omega) h2).trans (F1 _ _ _ _);by_cases c1:v2.toNat<128;{rw[ar c1,e3,show decide ((v2.toNat:Int)<128)=true by simp;omega,au]};{rw[ao c1,show decide (v3<(128:Int))=false by rw[e3];simp;omega,aj,e4];by_cases c2:192<=v2.toNat/\v2.toNat<224;{rw[ar c2,cT c2,show v5=((v2.toNat -192:Nat):Int) by rw[h5,e3,iw];omega];exact J _ 1 128 (by omega) (by omega)};{rw[ao c2,cF c2,e6];by_cases c3:224<=v2.toNat/\v2.toNat<240;{rw[ar c3,cT c3,show v7=((v2.toNat -224:Nat):Int) by rw[h7,e3,iw];omega];exact J _ 2 2048 (by omega) (by omega)};{rw[ao c3,cF c3,e8];by_cases c4:240<=v2.toNat/\v2.toNat<248;{rw[ar c4,cT c4,show v9=((v2.toNat -240:Nat):Int) by rw[h9,e3,iw];omega];exact J _ 3 65536 (by omega) (by omega)};{rw[ao c4,cF c4]}}}}}}
theorem df.bY(b:bD)(hb:b.length<=1099511627776):∀(m i:Nat),b.length -i<=m->i<=b.length->df.l1 b i=some [.i .i64 ((i+(dy.look (b.drop i)).1:Nat):Int),.b (decide (i+(dy.look (b.drop i)).1=b.length))]:=by
 intro m;induction m with
 |zero=>intro i hm hi;apply df.bM;intro v1 h1;rw[show decide ((i:Int)<(b.length:Int))=false by simp;omega,aj,aA (by omega)];have:(dy.look []).1=0:=by{decide};rw[this,aa (show i+0=b.length by omega),show i+0=b.length by omega]
 |succ m ih=>intro i hm hi;apply df.bM;intro v1 h1;by_cases gr:i<b.length;{rw[dy.xu b i gr]at h1⊢;have hs:=dy.rT (b.drop i);rw[aR]at hs;rw[show decide ((i:Int)<(b.length:Int))=true by simp;omega,au,bB (aa hb)];by_cases h0:(dy.rune (b.drop i)).2=0;{rw[cT h0,dy.vh _ h0,ab (show¬i+(0,0).1=b.length by simp;omega)];rfl};{rw[cF h0,dy.vg _ h0];have e1:v1=((i+(dy.rune (b.drop i)).2.toNat:Nat):Int):=by{rw[h1,iw];omega};rw[e1,ih _ (by omega) (by omega),List.drop_drop];simp only[aM,bt,TV.i.injEq,TV.b.injEq,true_and,and_true];refine⟨by omega,?_⟩;rw[aN];simp;omega}};{rw[show decide ((i:Int)<(b.length:Int))=false by simp;omega,aj,aA (by omega)];have:(dy.look []).1=0:=by{decide};rw[this,aa (show i+0=b.length by omega),show i+0=b.length by omega]}
theorem df.goal(b:bD)(hp:decide (b.length<=1099511627776)=true):df.F b=some [.i .i64 ((dy.look b).1:Int),.b (dy.whole b)]:=by rw[df.de];have:=df.bY b (aq hp) b.length 0 (by omega) (by omega);simpa[dy.whole]using this
theorem fk.goal(s:bD)(hp:decide (s.length<=1099511627776)=true):fk.F s=some [.b (dy.whole s)]:=by rw[fk.de,bB (uq (aq hp)),bB hp]
theorem dQ.bY(s:bD)(hb:s.length<=1099511627776):∀(m i:Nat),s.length -i<=m->i<=s.length->dQ.l1 s i=some [.b ((s.drop i).contains 0)]:=by
 intro m;induction m with
 |zero=>intro i hm hi;apply dQ.bM;intro v1 h1 v2 h2;rw[show decide ((i:Int)<(s.length:Int))=false by simp;omega,aj,aA (by omega)];rfl
 |succ m ih=>intro i hm hi;apply dQ.bM;intro v1 h1 v2 h2;rw[ah]at h1;by_cases gr:i<s.length;{rw[show decide ((i:Int)<(s.length:Int))=true by simp;omega,au,ki,drop_cons (l:=s) gr 0,<-h1];have e2:v2=((i+1:Nat):Int):=by{rw[h2,iw];omega};by_cases h0:v1=0;{rw[h0];rfl};{rw[cF h0,e2,ih _ (by omega) (by omega),List.contains_cons];have:((0:UInt8)==v1)=false:=by{rw[beq_eq_false_iff_ne];exact λe=>h0 e.symm};rw[this,Bool.false_or]}};{rw[show decide ((i:Int)<(s.length:Int))=false by simp;omega,aj,aA (by omega)];rfl}
theorem dQ.goal(s:bD)(hp:decide (s.length<=1099511627776)=true):dQ.F s=some [.b (dy.zero s)]:=by rw[dQ.de];have:=dQ.bY s (aq hp) s.length 0 (by omega) (by omega);simpa[dy.zero]using this
open Nr (Shape)
theorem K7(n:Nat):(Nr.dec n).headD 0≠45/\Nr.dA ((Nr.dec n).headD 0)=true:=by
 obtain⟨d1,_,d3,_⟩:=Nr.lD n;cases e:Nr.dec n with
 |nil=>exact(d3 e).elim
 |cons c r=>rw[e,List.all_cons,af]at d1;refine⟨λw=>?_,d1.1⟩;rw[List.headD_cons]at w;rw[w]at d1;exact absurd d1.1 (by decide)
theorem Xq(x:UInt8):(oe (x&&&3) 4).toNat=x.toNat%4*16:=by have h:(x&&&(3:UInt8)).toNat=x.toNat%4:=by{rw[UInt8.toNat_and,show(3:UInt8).toNat=2^2 -1 from rfl,Nat.and_two_pow_sub_one_eq_mod]};unfold oe;rw[h,UInt8.toNat_ofNat'];omega
theorem QK(x:UInt8):(oe (x&&&15) 2).toNat=x.toNat%16*4:=by have h:(x&&&(15:UInt8)).toNat=x.toNat%16:=by{rw[UInt8.toNat_and,show(15:UInt8).toNat=2^4 -1 from rfl,Nat.and_two_pow_sub_one_eq_mod]};unfold oe;rw[h,UInt8.toNat_ofNat'];omega
theorem Y3(x y:UInt8):(oe (x&&&3) 4|||nP y 4).toNat=x.toNat%4*16+y.toNat/16:=by have hy:=y.toNat_lt;rw[UInt8.toNat_or,Xq,Je];have:=Nat.two_pow_add_eq_or_of_lt (i:=4) (b:=y.toNat/2^4) (by omega) (x.toNat%4);rw[Nat.mul_comm]at this;rw[show(16:Nat)=2^4 from rfl,<-this]
theorem or2(x y:UInt8):(oe (x&&&15) 2|||nP y 6).toNat=x.toNat%16*4+y.toNat/64:=by have hy:=y.toNat_lt;rw[UInt8.toNat_or,QK,Je];have:=Nat.two_pow_add_eq_or_of_lt (i:=2) (b:=y.toNat/2^6) (by omega) (x.toNat%16);rw[Nat.mul_comm]at this;rw[show(4:Nat)=2^2 from rfl,show(64:Nat)=2^6 from rfl,<-this]
theorem Io(x:UInt8):(x&&&(63:UInt8)).toNat=x.toNat%64:=by rw[UInt8.toNat_and,show(63:UInt8).toNat=2^6 -1 from rfl,Nat.and_two_pow_sub_one_eq_mod]
theorem q0(a:UInt8):(nP a 2).toNat=a.toNat/4:=Je a 2
end Go.Eng
namespace Go.Eng
open Go.IntWalk
namespace Wq
def low:Nat->Nat->bD
 |0,_=>[]
 |n+1,v=>UInt8.ofNat (v%256)::low n (v/256)
theorem CB(v:UInt64)(k d:Nat)(hd:2^k=d):UInt8.ofNat (v.toNat/d%256)=UInt8.ofInt ((cE v k).toNat:Int):=by apply UInt8.toNat_inj.1;have hv:=v.toNat_lt;have hle:=Nat.div_le_self v.toNat d;unfold cE;rw[sJ,UInt8.toNat_ofNat',UInt64.toNat_ofNat',hd,Nat.mod_eq_of_lt (show v.toNat/d<2^64 by omega)];exact Nat.mod_mod _ _
theorem Wx(v:UInt64):low 8 v.toNat=(Cn.b8 v).reverse:=by show[UInt8.ofNat (v.toNat%256),UInt8.ofNat (v.toNat/256%256),UInt8.ofNat (v.toNat/256/256%256),UInt8.ofNat (v.toNat/256/256/256%256),UInt8.ofNat (v.toNat/256/256/256/256%256),UInt8.ofNat (v.toNat/256/256/256/256/256%256),UInt8.ofNat (v.toNat/256/256/256/256/256/256%256),UInt8.ofNat (v.toNat/256/256/256/256/256/256/256%256)]=[UInt8.ofInt ((cE v 0).toNat:Int),UInt8.ofInt ((cE v 8).toNat:Int),UInt8.ofInt ((cE v 16).toNat:Int),UInt8.ofInt ((cE v 24).toNat:Int),UInt8.ofInt ((cE v 32).toNat:Int),UInt8.ofInt ((cE v 40).toNat:Int),UInt8.ofInt ((cE v 48).toNat:Int),UInt8.ofInt ((cE v 56).toNat:Int)];rw[<-CB v 0 1 rfl,<-CB v 8 256 rfl,<-CB v 16 65536 rfl,<-CB v 24 16777216 rfl,<-CB v 32 4294967296 rfl,<-CB v 40 1099511627776 rfl,<-CB v 48 281474976710656 rfl,<-CB v 56 72057594037927936 rfl];simp only[Nat.div_div_eq_div_mul,Nat.div_one,Nat.reduceMul]
end Wq
theorem dU.bY(n:Nat)(hn:n<=8):∀(m i:Nat)(x:UInt64)(acc:List UInt8),i+m=n->acc.length=i->dU.l1 x (n:Int) (i:Int) acc=some [.sl .bs (acc++Wq.low m x.toNat)]
 |0,i,x,acc,hi,ha=>by apply dU.bM;intro v1 h1 v2 h2 v3 h3;simp only[aS,bP];have q1:v1=false:=by{rw[h1,dF];rfl};rw[q1,aj];show _=some [TV.sl .bs (acc++[])];rw[aK]
 |m+1,i,x,acc,hi,ha=>by apply dU.bM;intro v1 h1 v2 h2 v3 h3;simp only[aS,bP];have q1:v1=true:=by{rw[h1,cT];exact dT};have q2:v2=UInt8.ofNat (x.toNat%256):=by{apply UInt8.toNat_inj.1;rw[h2,sJ,UInt8.toNat_ofNat'];exact(Nat.mod_mod _ _).symm};have q3:v3=((i+1:Nat):Int):=by{rw[h3,iw];omega};have qx:(x/256).toNat=x.toNat/256:=by{rw[UInt64.toNat_div];rfl};rw[q1,au,bB (dO (by rw[ak];omega) (by rw[ak];omega)),bB (by decide),q3,dU.bY n hn m (i+1) (x/256) (acc++[v2]) (by omega) (by rw[ae,ak];omega),qx,q2,az];rfl
theorem dU.goal(v:UInt64)(n:Int)(hp:decide (n=8)=true):dU.F v n=some [.sl .bs (Cn.b8 v).reverse]:=by have h:=aq hp;subst h;rw[dU.de,<-Wq.Wx];exact dU.bY 8 (by omega) 8 0 v [] (by omega) rfl
theorem cY.bY(L:List UInt8)(hL:L.length=8):∀(i:Nat)(x:Int)(acc:List UInt8),x=(i:Int) -1->i<=8->acc.length<=100 -i->cY.l1 x L acc=some [.sl .bs (acc++(L.take i).reverse)]
 |0,x,acc,hx,hi,ha=>by apply cY.bM;intro v1 h1 v2 h2;rw[cF,List.take_zero,List.reverse_nil,aK]
 |i+1,x,acc,hx,hi,ha=>by apply cY.bM;intro v1 h1 v2 h2;have e:x=(i:Int):=by{omega};subst e;have q2:v2=(i:Int) -1:=by{rw[h2,iw]};rw[cT,ki,iy,bB (dO (by rw[ak];omega) (by rw[ak];omega)),cY.bY L hL i v2 (acc++[v1]) q2 (by omega) (by rw[ae,ak];omega)];have ht:L.take (i+1)=L.take i++[v1]:=by{rw[h1,ah,ai,aw (by omega),List.take_succ_eq_append_getElem (by omega)];rfl};rw[ht,List.reverse_append,az];rfl
theorem cY.goal(v:UInt64)(n:Int)(hp:decide (n=8)=true):cY.F v n=some [.sl .bs (Cn.b8 v)]:=by apply cY.bU;intro v1 h1 v2 h2;have hl:(Cn.b8 v).reverse.length=8:=by{rw[List.length_reverse];rfl};have q2:v2=((8:Nat):Int) -1:=by{rw[h2,h1,hl];rfl};rw[bB hp,cY.bY _ hl 8 v2 [] q2 (by omega) (by show 0<=_;omega),List.take_of_length_le (by omega),List.reverse_reverse];rfl
theorem kO.goal(a b:vF)(hp:decide (a.path.length<=1099511627776)=true):kO.F a b=some [.b (decide (a.err=b.err)&&(decide (a.at_=b.at_)&&decide (a.path=b.path)))]:=by apply kO.bU;intro v1 h1 v2 h2;rw[hp];simp only[aS,aX,Bool.and_true,bP];rw[h2,h1];cases decide (a.err=b.err)<;>cases decide (a.at_=b.at_)<;>rfl
theorem oj{c:UInt8}{n:Nat}(h:c.toNat=n):Cn.vM.getD n 0=Cn.sign c:=by unfold Cn.sign;rw[ah,h]
theorem xj(a b:Nat):Int.tdiv (a:Int) (b:Int)=((a/b:Nat):Int):=rfl
theorem xf(a b:Nat):Int.tmod (a:Int) (b:Int)=((a% b:Nat):Int):=rfl
def s4(v:Nat):bD:=[Cn.vM.getD (v/262144) 0,Cn.vM.getD (v/4096%64) 0,Cn.vM.getD (v/64%64) 0,Cn.vM.getD (v%64) 0]
theorem cm.P8(b acc:List UInt8)(i v n:Nat)(hv:v<16777216)(hi:i<=1000000000)(hn:n<=3):cm.l2 b (i:Int) (v:Int) (n:Int) 3 acc=cm.l4 b (i:Int) ((n+1:Nat):Int) acc (s4 v):=by apply cm.gU;intro v1 h1 v2 h2 v3 h3 v4 h4 v5 h5 v6 h6 v7 h7 v8 h8 v9 h9 v10 iZ v11 lJ v12 mh;have q5:v5=((v/262144:Nat):Int):=by{rw[h5,show(262144:Int)=((262144:Nat):Int) from rfl,xj,iw]};have q7:v7=((v/4096:Nat):Int):=by{rw[h7,show(4096:Int)=((4096:Nat):Int) from rfl,xj,iw]};have q9:v9=((v/64:Nat):Int):=by{rw[h9,show(64:Int)=((64:Nat):Int) from rfl,xj,iw]};have m7:Int.tmod v7 64=((v/4096%64:Nat):Int):=by{rw[q7];exact xf _ 64};have m9:Int.tmod v9 64=((v/64%64:Nat):Int):=by{rw[q9];exact xf _ 64};have mv:Int.tmod (v:Int) 64=((v%64:Nat):Int):=xf _ 64;have q4:v4=((n+1:Nat):Int):=by{rw[h4,iw];omega};have q12:v12=s4 v:=by{rw[mh,h6,h8,iZ,lJ,q5,m7,m9,mv,ah,ah,ah,ah];rfl};rw[cF,bB (by decide),bB (dC (by omega) (by show v5<64;omega)),bB (by decide),bB (by decide),bB (dC (by omega) (by show _<(64:Int);omega)),bB (by decide),bB (by decide),bB (dC (by omega) (by show _<(64:Int);omega)),bB (by decide),bB (dC (by omega) (by show _<(64:Int);omega)),q4,q12]
theorem cm.wI(b acc:List UInt8)(i v n k:Nat)(hk:k<3)(hv:v<65536)(hn:n<=3)(hi:i<=1000000000):cm.l2 b (i:Int) (v:Int) (n:Int) (k:Int) acc=if i+k<b.length then cm.l2 b (i:Int) ((v*256+(b.getD (i+k) 0).toNat:Nat):Int) ((n+1:Nat):Int) ((k+1:Nat):Int) acc else cm.l2 b (i:Int) ((v*256:Nat):Int) (n:Int) ((k+1:Nat):Int) acc:=by apply cm.gU;intro v1 h1 v2 h2 v3 h3 v4 h4 v5 h5 v6 h6 v7 h7 v8 h8 v9 h9 v10 iZ v11 lJ v12 mh;have q1:v1=((v*256:Nat):Int):=by{rw[h1,iw];omega};have ek:IntKind.i64.wrap ((i:Int)+(k:Int))=((i+k:Nat):Int):=by{rw[iw];omega};rw[ek,ah]at h2;have b2:=v2.toNat_lt;have q3:v3=(v2.toNat:Int):=by{rw[h3,iw]};have q4:v4=((n+1:Nat):Int):=by{rw[h4,iw];omega};have kk:∀x:Int,x=IntKind.i64.wrap ((k:Int)+1)->x=((k+1:Nat):Int):=λx hx=>by{rw[hx,iw];omega};rw[cT,ek];by_cases c:i+k<b.length;{rw[ar c,cT,ki,q1,q3,q4];apply cm.nZ;intro w1 g1;rw[kk w1 g1,iw,<-h2];rfl};{rw[ao c,cF,q1];apply cm.nZ;intro w1 g1;rw[kk w1 g1]}
theorem cm.rr(b acc:List UInt8)(i:Nat)(hi:i<=1000000000)(ha:acc.length<=2000000000):∀(m k:Nat)(f:List UInt8),k+m=4->f.length=4->cm.l4 b (i:Int) (k:Int) acc f=cm.l1 b ((i+3:Nat):Int) (acc++(f.take k++List.replicate m 61))
 |0,k,f,hk,hf=>by apply cm.pk;intro v1 h1 v2 h2 v3 h3;have q3:v3=((i+3:Nat):Int):=by{rw[h3,iw];omega};rw[cF,Pe,q3,List.take_of_length_le (by omega)];show _=cm.l1 _ _ (acc++(f++[]));rw[aK]
 |m+1,k,f,hk,hf=>by apply cm.pk;intro v1 h1 v2 h2 v3 h3;have q2:v2=((k+1:Nat):Int):=by{rw[h2,iw];omega};have hv:v1.length=4:=by{rw[h1,List.length_set];exact hf};rw[ah]at h1;rw[cT,ki,iy,q2,cm.rr b acc i hi ha m (k+1) v1 (by omega) hv];have:v1.take (k+1)++List.replicate m 61=f.take k++List.replicate (m+1) 61:=by{rw[h1,List.set_eq_take_append_cons_drop,pO,List.take_append,aF,Nat.min_eq_left (by omega),show k+1 -k=1 by omega,List.take_of_length_le (by rw[aF];omega),az];rfl};rw[this]
theorem cm.bY(b:List UInt8)(hb:b.length<=1000000000):∀(m i:Nat)(acc:List UInt8),b.length<=i+m->i<=b.length+2->acc.length<=2*i->cm.l1 b (i:Int) acc=some [.s (acc++Cn.base (b.drop i))]
 |0,i,acc,hm,hi,ha=>by rw[cm.qD,cF,aA (by omega)];show some [TV.s acc]=some [TV.s (acc++[])];rw[aK]
 |m+1,i,acc,hm,hi,ha=>by
  rw[cm.qD];by_cases c:i<b.length
  ·rw[cT];obtain⟨x,hx⟩:∃x,x=b.getD i 0:=⟨_,rfl⟩;obtain⟨y,hy⟩:∃y,y=b.getD (i+1) 0:=⟨_,rfl⟩;obtain⟨z,hz⟩:∃z,z=b.getD (i+2) 0:=⟨_,rfl⟩;have bx:=x.toNat_lt;have b_y:=y.toNat_lt;have bz:=z.toNat_lt;have e0:=cm.wI b acc i 0 0 0 (by omega) (by omega) (by omega) (by omega);rw[Nat.add_zero,ar c,<-hx]at e0;refine e0.trans ?_;have e1:=cm.wI b acc i (0*256+x.toNat) 1 1 (by omega) (by omega) (by omega) (by omega);refine e1.trans ?_;have d0:b.drop i=x::b.drop (i+1):=by{rw[hx];exact drop_cons c _};have fin:∀(v n k:Nat)(r:bD),v<16777216->n<=3->k+1+n=4->Cn.base (b.drop i)=((s4 v).take (n+1)++List.replicate k 61)++r->cm.l1 b ((i+3:Nat):Int) (acc++((s4 v).take (n+1)++List.replicate k 61))=some [.s ((acc++((s4 v).take (n+1)++List.replicate k 61))++r)]->
     cm.l2 b (i:Int) (v:Int) (n:Int) ((3:Nat):Int) acc=some [.s (acc++Cn.base (b.drop i))]:=λv n k r hv hn hk hr h=>by
    refine(cm.P8 b acc i v n hv (by omega) hn).trans ?_
    rw[cm.rr b acc i (by omega) (by omega) k (n+1) (s4 v) (by omega) rfl,h,hr,az]
   have last:∀w:bD,w.length=4->b.length<=i+3->cm.l1 b ((i+3:Nat):Int) (acc++w)=some [.s ((acc++w)++[])]:=λw hw hl=>by{rw[cm.qD,cF,aK]};by_cases c1:i+1<b.length
   ·rw[ar c1,<-hy];have e2:=cm.wI b acc i ((0*256+x.toNat)*256+y.toNat) 2 2 (by omega) (by omega) (by omega) (by omega);refine e2.trans ?_;have d1:b.drop (i+1)=y::b.drop (i+2):=by{rw[hy];exact drop_cons c1 _};by_cases c2:i+2<b.length
    ·rw[ar c2,<-hz];have d2:b.drop (i+2)=z::b.drop (i+3):=by{rw[hz];exact drop_cons c2 _};refine fin _ 3 0 (Cn.base (b.drop (i+3))) (by omega) (by omega) (by omega) ?_ ?_
     ·rw[d0,d1,d2];show _::_::_::_::_=([_,_,_,_]++[])++_;rw[<-oj (q0 x),<-oj (Y3 x y),<-oj (or2 y z),<-oj (Io z),show((0*256+x.toNat)*256+y.toNat)*256+z.toNat=x.toNat*65536+y.toNat*256+z.toNat by omega,
       show(x.toNat*65536+y.toNat*256+z.toNat)/262144=x.toNat/4 by omega,show(x.toNat*65536+y.toNat*256+z.toNat)/4096%64=x.toNat%4*16+y.toNat/16 by omega,show(x.toNat*65536+y.toNat*256+z.toNat)/64%64=y.toNat%16*4+z.toNat/64 by omega,show(x.toNat*65536+y.toNat*256+z.toNat)%64=z.toNat%64 by omega]
      rfl
     {exact cm.bY b hb m (i+3) _ (by omega) (by omega) (by rw[ae];show _+4<=_;omega)}
    ·rw[ao c2];refine fin _ 2 1 [] (by omega) (by omega) (by omega) ?_ (last _ rfl (by omega));rw[d0,d1,aA (show b.length<=i+2 by omega)];show _::_::_::_=([_,_,_]++_)++_;rw[<-oj (q0 x),<-oj (Y3 x y),<-oj (QK y),show((0*256+x.toNat)*256+y.toNat)*256=x.toNat*65536+y.toNat*256 by omega,
      show(x.toNat*65536+y.toNat*256)/262144=x.toNat/4 by omega,show(x.toNat*65536+y.toNat*256)/4096%64=x.toNat%4*16+y.toNat/16 by omega,show(x.toNat*65536+y.toNat*256)/64%64=y.toNat%16*4 by omega]
     rfl
   {rw[ao c1];have e2:=cm.wI b acc i ((0*256+x.toNat)*256) 1 2 (by omega) (by omega) (by omega) (by omega);refine e2.trans ?_;rw[nO];refine fin _ 1 2 [] (by omega) (by omega) (by omega) ?_ (last _ rfl (by omega));rw[d0,aA (show b.length<=i+1 by omega)];show _::_::_=([_,_]++_)++_;rw[<-oj (q0 x),<-oj (Xq x),show(0*256+x.toNat)*256*256=x.toNat*65536 by omega,show x.toNat*65536/262144=x.toNat/4 by omega,show x.toNat*65536/4096%64=x.toNat%4*16 by omega];rfl}
  {rw[cF,aA (by omega)];show some [TV.s acc]=some [TV.s (acc++[])];rw[aK]}
theorem cm.goal(b:List UInt8)(hp:decide (b.length<=1000000000)=true):cm.F b=some [.s (Cn.base b)]:=by rw[cm.de];exact cm.bY b (aq hp) b.length 0 [] (by omega) (by omega) (by show 0<=_;omega)
theorem mz.goal(a b:dP):mz.F a b=some [.i .i64 (cond (decide (dP.val a=dP.val b)) 0 (cond (decide (dP.val a<dP.val b)) (-1) 1))]:=by apply mz.bU;intro v1 h1 v2 h2 v3 h3 v4 h4;have t1:∀c:Bool,(!(!c)||((!c)&&(!c)))=true:=by{decide};have t2:∀c d:Bool,(!(!c)||((!c)&&(!d||((!c)&&d))))=true:=by{decide};have t3:∀c:Bool,(!c||(c&&c))=true:=by{decide};have t4:∀c:Bool,(!(!c)||(!c))=true:=by{decide};rw[bB (t4 _),bB (t4 _),bB (t1 _),bB (t4 _),ie,ie,bB (t3 _),h1,bB (t2 _ _),BD];have e3:v3=decide (dP.val a<dP.val b):=by{rw[h3,h2];by_cases c1:a.high<b.high;{rw[cT c1];exact(aa (BI.2 (.inl c1))).symm};{rw[cF c1];by_cases c2:a.high=b.high;{rw[cT c2];exact aT.2 ⟨λh=>BI.2 (.inr ⟨c2,h⟩),λh=>(BI.1 h).elim (λh=>(c1 h).elim) (·.2)⟩};{rw[cF c2];exact(ab λh=>(BI.1 h).elim c1 λh=>c2 h.1).symm}}};have e4:v4=decide (dP.val a=dP.val b):=by{rw[h4,<-Bool.decide_and];exact aT.2 Oc.symm};rw[e3,e4];by_cases c:dP.val a<dP.val b;{rw[aa c,ab (show¬dP.val a=dP.val b by omega)];rfl};{rw[ab c];cases decide (dP.val a=dP.val b)<;>rfl}
theorem DN(x:UInt64):(x&&&(1:UInt64)).toNat=x.toNat%2:=by rw[UInt64.toNat_and,show(1:UInt64).toNat=2^1 -1 from rfl,Nat.and_two_pow_sub_one_eq_mod]
theorem sw{k n:Nat}(h:k<=n):2^n=2^k*2^(n -k):=by rw[<-Nat.pow_add,Nat.add_sub_cancel' h]
theorem RC{h l k:Nat}(hk:k<64):(h*2^64+l)/2^k%2=l/2^k%2:=by have e:h*2^64+l=l+2^k*(h*2^(63 -k)*2):=by{rw[sw (show k<=64 by omega),show 64 -k=63 -k+1 by omega,Nat.pow_succ,Nat.add_comm];congr 1;rw[Nat.mul_left_comm,Nat.mul_assoc]};rw[e,Nat.add_mul_div_left _ _ (Nat.two_pow_pos k),Nat.add_mul_mod_self_right]
theorem RD{h l k:Nat}(hk:64<=k)(hl:l<2^64):(h*2^64+l)/2^k=h/2^(k -64):=by rw[sw hk,<-Nat.div_div_eq_div_mul,Nat.mul_comm h,Nat.mul_add_div (Nat.two_pow_pos 64),Nat.div_eq_of_lt hl,Nat.add_zero]
theorem Av{k:Nat}(h:k<18446744073709551616):(UInt64.ofInt (k:Int)).toNat=k:=by rw[qj,Nat.mod_eq_of_lt h]
theorem nQ.goal(a:dP)(k:Int)(hp:decide (0<=k/\k<128)=true):nQ.F a k=some [.u64 (UInt64.ofNat (dP.val a/2^k.toNat%2))]:=by obtain⟨k0,k1⟩:=aq hp;obtain⟨n,rfl⟩:∃n:Nat,k=(n:Int):=⟨k.toNat,by omega⟩;apply nQ.bU;intro v1 h1 v2 h2 v3 h3;have hl:=a.low.toNat_lt;rw[ah,dP.iI,show(18446744073709551616:Nat)=2^64 from rfl];by_cases c:n<64;{rw[cT,RC c];refine congrArg (λx=>some [TV.u64 x]) (fw ?_);rw[DN,h1,Av (by omega),eF,UInt64.toNat_ofNat'];omega};{have q2:v2=((n -64:Nat):Int):=by{rw[h2,iw];omega};rw[cF,RD (by omega) hl];refine congrArg (λx=>some [TV.u64 x]) (fw ?_);rw[DN,h3,q2,Av (by omega),eF,UInt64.toNat_ofNat'];omega}
theorem qM(a:dP):a.val<340282366920938463463374607431768211456:=by have:=a.high.toNat_lt;have:=a.low.toNat_lt;rw[dP.iI];omega
theorem Pt{h l:UInt64}(hv:dP.val ⟨h,l⟩<170141183460469231731687303715884105728):dP.val ⟨h*2+cE l (63:UInt64).toNat,l*2⟩=2*dP.val ⟨h,l⟩/\(l*2).toNat%2=0:=by rw[dP.iI]at hv⊢;rw[dP.iI];have hh:=h.toNat_lt;have hl:=l.toNat_lt;have s:(cE l (63:UInt64).toNat).toNat=l.toNat/9223372036854775808:=eF l 63;have m:∀x:UInt64,(x*2).toNat=x.toNat*2%18446744073709551616:=λx=>UInt64.toNat_mul x 2;have hv:h.toNat*18446744073709551616+l.toNat<170141183460469231731687303715884105728:=hv;show(h*2+cE l (63:UInt64).toNat).toNat*18446744073709551616+(l*2).toNat=2*(h.toNat*18446744073709551616+l.toNat)/\_;have a:(h*2+cE l (63:UInt64).toNat).toNat=(h.toNat*2%18446744073709551616+l.toNat/9223372036854775808)%18446744073709551616:=by{rw[UInt64.toNat_add,m,s]};rw[a,m];omega
theorem HS(A K B:Nat)(hB:0<B):A/2^K=2*(A/2^(K+1))+A/2^K%2/\A/2^K/B=2*(A/2^(K+1)/B)+(if B<=2*(A/2^(K+1)% B)+A/2^K%2 then 1 else 0)/\A/2^K% B=(if B<=2*(A/2^(K+1)% B)+A/2^K%2 then 2*(A/2^(K+1)% B)+A/2^K%2 -B else 2*(A/2^(K+1)% B)+A/2^K%2):=by have e:A/2^(K+1)=A/2^K/2:=by{rw[Nat.pow_succ,Nat.div_div_eq_div_mul]};rw[e];generalize A/2^K=D;have h1:D=2*(D/2)+D%2:=by{omega};refine⟨h1,?_⟩;have h2:=Nat.div_add_mod (D/2) B;have h3:=Nat.mod_lt (D/2) hB;have h4:D%2<2:=by{omega};generalize D%2=t at*;generalize D/2% B=r at*;generalize D/2/B=q at*;rw[<-h2]at h1;have h1:D=B*(2*q)+(2*r+t):=by{rw[h1,Nat.mul_add,Nat.mul_left_comm,Nat.add_assoc]};by_cases c:B<=2*r+t;{rw[ar c,ar c,h1,show B*(2*q)+(2*r+t)=(2*r+t -B)+B*(2*q+1) by rw[Nat.mul_add];omega];exact⟨by rw[Nat.add_mul_div_left _ _ hB,Nat.div_eq_of_lt (by omega)];omega,by rw[Nat.add_mul_mod_self_left,Nat.mod_eq_of_lt (by omega)]⟩};{rw[ao c,ao c,h1,Nat.add_comm];exact⟨by rw[Nat.add_mul_div_left _ _ hB,Nat.div_eq_of_lt (by omega)];omega,by rw[Nat.add_mul_mod_self_left,Nat.mod_eq_of_lt (by omega)]⟩}
theorem fA.bY(a:dP)(b:UInt64)(hb:1<=b.toNat/\b.toNat<=4611686018427387904):∀(K:Nat)(r x5 x6 qh ql:UInt64),K<=128->r.toNat=a.val/2^K% b.toNat->dP.val ⟨qh,ql⟩=a.val/2^K/b.toNat->
  fA.l1 b r ((K:Int) -1) a.high a.low x5 x6 qh ql=some [.ag (dP.cells (dP.of (a.val/b.toNat))),.u64 (UInt64.ofNat (a.val% b.toNat)),.b true]
 |0,r,x5,x6,qh,ql,hK,hr,hq=>by apply fA.bM;intro v1 h1 v2 h2 v3 h3 v4 h4 v5 h5 v6 h6;rw[Nat.pow_zero,Nat.div_one]at hr hq;rw[cF,<-hr,<-hq,Ps,UInt64.ofNat_toNat];rfl
 |K+1,r,x5,x6,qh,ql,hK,hr,hq=>by apply fA.bM;intro v1 h1 v2 h2 v3 h3 v4 h4 v5 h5 v6 h6;obtain⟨s1,s2,s3⟩:=HS a.val K b.toNat (by omega);have ea:(⟨a.high,a.low⟩:dP)=a:=rfl;have ek:((K+1:Nat):Int) -1=(K:Int):=by{omega};rw[ek]at h2⊢;rw[ea,ah]at h2;have t2:a.val/2^K%2<2:=Nat.mod_lt _ (by omega);have q2:v2.toNat=a.val/2^K%2:=by{rw[h2,UInt64.toNat_ofNat',Nat.mod_eq_of_lt (by omega)]};have hrB:=Nat.mod_lt (a.val/2^(K+1)) (show 0<b.toNat by omega);have D1:=b.toNat_lt;have m:(r*2+v2).toNat=2*r.toNat+v2.toNat:=by{rw[UInt64.toNat_add,UInt64.toNat_mul,show(2:UInt64).toNat=2 from rfl];omega};have q1:v1.toNat=0:=by{rw[h1,show((63:UInt64)).toNat=63 from rfl,eF];omega};have n1:¬v1=1:=λe=>by{rw[e]at q1;cases q1};have gr:a.val/2^(K+1)<170141183460469231731687303715884105728:=by{have:=qM a;have e:a.val/2^(K+1)<=a.val/2:=by{rw[Nat.pow_succ,Nat.mul_comm,<-Nat.div_div_eq_div_mul];exact Nat.div_le_self _ _};omega};have ym:dP.val ⟨qh,ql⟩<170141183460469231731687303715884105728:=by{rw[hq];exact Nat.lt_of_le_of_lt (Nat.div_le_self _ _) gr};obtain⟨w1,w2⟩:=Pt ym;have t1:∀c:Bool,(!(!c)||((!c)&&(!c)))=true:=by{decide};have e4:v4=decide (b.toNat<=2*(a.val/2^(K+1)% b.toNat)+a.val/2^K%2):=by{rw[h4,cF n1];refine aT.2 ?_;rw[aJ,m,hr,q2]};have ih:∀(r' Vh Vg:UInt64),r'.toNat=a.val/2^K% b.toNat->dP.val ⟨Vh,Vg⟩=a.val/2^K/b.toNat->fA.j2 b r' (K:Int) a.high a.low x5 x6 Vh Vg=some [.ag (dP.cells (dP.of (a.val/b.toNat))),.u64 (UInt64.ofNat (a.val% b.toNat)),.b true]:=λr' Vh Vg g1 g2=>by{apply fA.ik;intro w h;have:w=(K:Int) -1:=by{rw[h,iw]};rw[this];exact fA.bY a b hb K r' x5 x6 Vh Vg (by omega) g1 g2};rw[cT,bB (aa ⟨by omega,by omega⟩),bB (t1 _),BD,e4];by_cases c:b.toNat<=2*(a.val/2^(K+1)% b.toNat)+a.val/2^K%2;{rw[cT c];rw[ar c]at s2 s3;refine ih _ _ _ ?_ ?_;{rw[h5,UInt64.toNat_sub_of_le _ _ (by rw[aJ,m];omega),m,s3,hr,q2]};{rw[s2,<-hq,<-w1,dP.iI,dP.iI,h6,h3];have hx:=(ql*2).toNat_lt;have:(ql*2+1).toNat=(ql*2).toNat+1:=by{rw[UInt64.toNat_add,show(1:UInt64).toNat=1 from rfl];omega};show(qh*2+cE ql (63:UInt64).toNat).toNat*18446744073709551616+(ql*2+1).toNat=(qh*2+cE ql (63:UInt64).toNat).toNat*18446744073709551616+(ql*2).toNat+1;rw[this];exact(Nat.add_assoc ..).symm}};{rw[cF c];rw[ao c]at s2 s3;refine ih _ _ _ ?_ ?_;{rw[m,s3,hr,q2]};{rw[s2,<-hq,h3,w1,Nat.add_zero]}}
theorem fA.goal(a:dP)(b:UInt64)(hp:decide (1<=b.toNat/\b.toNat<=4611686018427387904)=true):fA.F a b=some [.ag (dP.cells (dP.of (a.val/b.toNat))),.u64 (UInt64.ofNat (a.val% b.toNat)),.b true]:=by have hb:=aq hp;rw[fA.de,ab (λe=>by rw[e]at hb;exact absurd hb.1 (by decide)),aj];have h0:a.val/2^128=0:=Nat.div_eq_of_lt (qM a);refine fA.bY a b hb 128 0 0 0 0 0 (Nat.le_refl _) ?_ ?_;{rw[h0,Nat.zero_mod];rfl};{rw[h0,Nat.zero_div,dP.iI];rfl}
theorem Pa{n:Nat}(h:n<340282366920938463463374607431768211456):(Nr.dec n).length<=45:=by have:=Nr.gY 40 n (by rw[t40];omega) (by omega);omega
theorem dH.bY:∀(n:Nat)(t:bD)(h l:UInt64),dP.val ⟨h,l⟩<=n->t.length+dP.val ⟨h,l⟩<=1000000000000000000000000000000000000000000->t.length<=1000 -20*(Nr.dec (dP.val ⟨h,l⟩)).length->dH.l1 t h l=some [.s (if dP.val ⟨h,l⟩=0/\t≠[]then t else Nr.dec (dP.val ⟨h,l⟩)++t)]:=by
 intro n;induction n using Nat.strongRecOn with
 |_ n ih=>intro t h l hn _ ht;refine dH.bM _ _ _ ?_;intro v1 h1 v2 h2 v3 h3 v4 h4 v5 h5 v6 h6;have c3:∀c:Bool,(!(!c)||(!c))=true:=by{decide};rw[bB (c3 _),bB (c3 _),BD,bB (c3 _),BD];have hv:=dP.iI ⟨h,l⟩;have hv:dP.val ⟨h,l⟩=h.toNat*18446744073709551616+l.toNat:=hv;have hl:=l.toNat_lt;have e1:v1=decide (9<dP.val ⟨h,l⟩):=by{rw[h1];by_cases c:(0:UInt64)<h;{rw[aa c,au];have:0<h.toNat:=aI.1 c;exact(aa (by omega)).symm};{rw[ab c,aj];have:h.toNat=0:=by{have:=mt aI.2 c;have e0:(0:UInt64).toNat=0:=rfl;omega};exact aT.2 (by rw[aI,show(9:UInt64).toNat=9 from rfl];omega)}};generalize hA:dP.val ⟨h,l⟩=A at*;have Qy:=Nr.lD A;by_cases c:9<A\/t=[];{have e2:v2=true:=by{rw[h2,e1];by_cases d:9<A;{rw[aa d];rfl};{rw[ab d,aj];exact aa (c.resolve_left d)}};have gr:A/10<340282366920938463463374607431768211456:=by{have:=qM ⟨h,l⟩;rw[hA]at this;omega};have h45:(Nr.dec A).length<=45:=Pa (by have:=qM ⟨h,l⟩;rw[hA]at this;exact this);have e3:v3.val=A/10:=by{rw[h3];exact Ob gr};have e4:v4.toNat=A%10:=by{rw[h4,UInt64.toNat_ofNat'];show A%10% _=_;omega};have e5:v5=UInt8.ofNat (48+A%10):=by{apply UInt8.toNat_inj.1;rw[h5,sJ,UInt8.toNat_ofNat',UInt64.toNat_add,e4,show(48:UInt64).toNat=48 from rfl];omega};have ev:(⟨v3.high,v3.low⟩:dP)=v3:=rfl;have hlen:1<=(Nr.dec A).length:=List.length_pos_iff.2 Qy.2.2.1;have Xz:10<=A->(Nr.dec A).length=(Nr.dec (A/10)).length+1:=λh=>by{rw[Nr.dec,ao (by omega),ae];rfl};rw[e2,au,bB (by decide),bB (aa (by show 1+_<=_;omega))];show dH.l1 (v5::t) v3.high v3.low=_;by_cases z:A=0;{have ht0:t=[]:=c.resolve_left (by omega);subst ht0;have hv3:dP.val ⟨v3.high,v3.low⟩=0:=by{rw[ev,e3,z]};refine dH.bM _ _ _ ?_;intro w1 g1 w2 g2 w3 g3 w4 g4 w5 g5 w6 g6;rw[bB (c3 _),bB (c3 _),BD,bB (c3 _),BD];rw[dP.iI]at hv3;have hh:v3.high.toNat*18446744073709551616+v3.low.toNat=0:=hv3;have k1:¬(0:UInt64)<v3.high:=λk=>by{have:=aI.1 k;have e0:(0:UInt64).toNat=0:=rfl;omega};have k2:¬(9:UInt64)<v3.low:=λk=>by{have:=aI.1 k;have e0:(9:UInt64).toNat=9:=rfl;omega};have k3:¬(0:UInt64)<v3.low:=λk=>by{have:=aI.1 k;have e0:(0:UInt64).toNat=0:=rfl;omega};have q2:w2=false:=by{rw[g2,g1,ab k1,aj,ab k2,aj];exact ab (by simp)};rw[q2,aj,ab k3,aj,dH.kn,ao (λh=>h.2 rfl),aK,Nr.dec,ar (by omega),e5,z]};{have OY:(Nr.dec (A/10)).length<=(Nr.dec A).length/\(10<=A->(Nr.dec (A/10)).length+1=(Nr.dec A).length):=by{by_cases q:10<=A;{have:=Xz q;exact⟨by omega,λ_=>by omega⟩};{refine⟨?_,λh=>(q h).elim⟩;rw[show A/10=0 by omega,Nr.dec,ar (by omega)];exact hlen}};by_cases q:10<=A;{have:=OY.2 q;rw[ih (A/10) (by omega) (v5::t) v3.high v3.low (by rw[ev,e3];exact Nat.le_refl _) (by rw[ev,e3,av];omega) (by rw[ev,e3,av];omega),ev,e3,ao (by omega),ao (by omega)];rw[show Nr.dec A=Nr.dec (A/10)++[v5] by rw[Nr.dec,ao (by omega),e5],az];rfl};{have ht0:t=[]:=c.resolve_left (by omega);subst ht0;rw[ih (A/10) (by omega) [v5] v3.high v3.low (by rw[ev,e3];exact Nat.le_refl _) (by rw[ev,e3,ak];omega) (by rw[ev,e3,ak];have:=OY.1;rw[show A/10=0 by omega,Nr.dec,ar (by omega)];show 1<=1000 -20*1;omega),ev,e3,ar ⟨by omega,by simp⟩,ao (λh=>h.2 rfl),aK];rw[Nr.dec,ar (by omega),e5,Nat.mod_eq_of_lt (by omega)]}}};{have c1:¬9<A:=λh=>c (.inl h);have c2:t≠[]:=λh=>c (.inr h);have e2:v2=false:=by{rw[h2,e1,ab c1,aj];exact ab c2};have hlA:l.toNat=A:=by{omega};rw[e2,aj];by_cases d:(0:UInt64)<l;{have:0<l.toNat:=aI.1 d;have e6:v6=UInt8.ofNat (48+A):=by{apply UInt8.toNat_inj.1;rw[h6,sJ,UInt8.toNat_ofNat',UInt64.toNat_add,hlA,show(48:UInt64).toNat=48 from rfl];omega};rw[aa d,au,bB (aa (by show 1+_<=_;omega)),dH.kn,ao (by omega),Nr.dec,ar (by omega),e6]};{have:l.toNat=0:=by{have:=mt aI.2 d;have e0:(0:UInt64).toNat=0:=rfl;omega};rw[ab d,aj,dH.kn,ar ⟨by omega,c2⟩]}}
theorem dH.goal(a:dP):dH.F a=some [.s (Nr.dec a.val)]:=by have h1:=qM a;have h2:=Pa h1;rw[dH.de,dH.bY a.val [] a.high a.low (Nat.le_refl _) (by show 0+a.val<=_;omega) (by show 0<=_;omega),ao (λh=>h.2 rfl),aK]
theorem E9(h:UInt64):cE (cE h 58&&&31) 3=cE h 61&&&3:=by apply fw;have e1:(cE h 58&&&31).toNat=h.toNat/288230376151711744%32:=by{rw[UInt64.toNat_and,eF,show(31:UInt64).toNat=2^5 -1 from rfl,Nat.and_two_pow_sub_one_eq_mod]};have e2:(cE h 61&&&3).toNat=h.toNat/2305843009213693952%4:=by{rw[UInt64.toNat_and,eF,show(3:UInt64).toNat=2^2 -1 from rfl,Nat.and_two_pow_sub_one_eq_mod]};rw[eF,e1,e2];show h.toNat/288230376151711744%32/8=_;omega
theorem fh.goal(h l:UInt64):fh.F h l=some [.i .i64 (Cn.split h l).1,.b (Cn.split h l).2.1,.ag (dP.cells (Cn.split h l).2.2.1),.i .i64 (Cn.split h l).2.2.2]:=by apply fh.bU;intro v1 h1 v2 h2 v3 h3 v4 h4 v5 h5 v6 h6 v7 h7 v8 h8 v9 h9 v10 iZ v11 lJ;rw[Cn.tn];unfold Cn.sL;simp only;have e1:v1=cE h 63:=h1;have e2:v2=cE h 58:=h2;have e5:v5=cE h 61:=h5;have e7:v7=cE h 47:=h7;have e9:v9=((cE h 47&&&16383).toNat:Int) -6176:=by{rw[h9,h8,e7];exact zZ _};rw[h3,h4,h6,e1,e2,e5,e9,E9];by_cases c1:cE h 58&&&31=31;{rw[cT c1,ar c1];rfl};rw[cF c1,ao c1];by_cases c2:cE h 58&&&31=30;{rw[cT c2,ar c2];rfl};rw[cF c2,ao c2];by_cases c3:cE h 61&&&3=3;{rw[cT c3,ar c3];rfl};rw[cF c3,ao c3,lJ,uk,iZ];by_cases c4:dP.val ⟨h&&&562949953421311,l⟩<10000000000000000000000000000000000;{rw[cF,ar c4];apply fh.gM;intro w1 g1 w2 g2 w3 g3;rw[g3,g2,zZ,g1];rfl};{rw[cT,ao c4];apply fh.gM;intro w1 g1 w2 g2 w3 g3;rw[g3,g2,zZ,g1];rfl}
theorem JB{a b:UInt64}{x k:Nat}(ha:a.toNat=x*2^k)(hb:b.toNat<2^k)(h:x*2^k+b.toNat<18446744073709551616):a|||b=a+b:=by apply fw;rw[UInt64.toNat_or,UInt64.toNat_add,ha,pD hb];exact(Nat.mod_eq_of_lt h).symm
theorem gk.goal(n:Bool)(c:dP)(x:Int)(hp:Nr.i64 x=true):gk.F n c x=some [.u64 (Cn.join n c x).1,.u64 (Cn.join n c x).2.1,.b (Cn.join n c x).2.2]:=by apply gk.bU;intro v1 h1 v2 h2 v3 h3 v4 h4 v5 h5 v6 h6;have c1:∀b:Bool,(!(!b)||(!b))=true:=by{decide};rw[bB (c1 _),BD,bB (c1 _),BD];rw[Cn.join_eq];unfold Cn.CO;have e3:v3=decide (10000000000000000000000000000000000<=c.val\/x< -6176\/6111<x):=by{rw[h3,h2,h1,uk,Bool.decide_or,Bool.decide_or];cases decide (10000000000000000000000000000000000<=c.val)<;>cases decide (x< -6176)<;>rfl};rw[e3];by_cases k:10000000000000000000000000000000000<=c.val\/x< -6176\/6111<x;{rw[cT k,ar k]};{rw[cF k,ao k];have e4:v4=x+6176:=by{rw[h4,iw]};have e5:v5=iS (UInt64.ofInt (x+6176)) 49:=by{rw[h5,e4];rfl};have hc:c.high.toNat<562949953421312:=by{have:=dP.iI c;omega};obtain⟨m,hm⟩:∃m:Nat,x+6176=(m:Int):=⟨(x+6176).toNat,by omega⟩;have em:(iS (UInt64.ofInt (x+6176)) 49).toNat=m*2^49:=by{rw[nx,hm,Av (by omega)];exact Nat.mod_eq_of_lt (by show m*562949953421312<_;omega)};have s1:iS (UInt64.ofInt (x+6176)) 49|||c.high=iS (UInt64.ofInt (x+6176)) 49+c.high:=JB em hc (by show m*562949953421312+_<_;omega);have ts:(iS (UInt64.ofInt (x+6176)) 49+c.high).toNat=m*562949953421312+c.high.toNat:=by{rw[UInt64.toNat_add,em];show(m*562949953421312+c.high.toNat)% _=_;omega};have s2:∀q:UInt64,q.toNat=m*562949953421312+c.high.toNat->q|||9223372036854775808=q+9223372036854775808:=λq ts=>by{rw[UInt64.or_comm,UInt64.add_comm];have e:(9223372036854775808:UInt64).toNat=9223372036854775808:=rfl;have hq:q.toNat<9223372036854775808:=by{omega};exact JB (x:=1) (k:=63) (by rw[e]) hq (by omega)};rw[gk.mF,gk.mF,h6,e5,s1,s2 _ ts];cases n<;>rfl}
theorem EB(h:UInt64):decide (h&&&~~~9223372036854775808=8646911284551352320)=(decide (h=8646911284551352320)||decide (h=17870283321406128128)):=by rw[<-Bool.decide_or];refine aT.2 ?_;have hl:=h.toNat_lt;have e:(h&&&~~~9223372036854775808).toNat=h.toNat%9223372036854775808:=by{rw[UInt64.toNat_and,show(~~~9223372036854775808:UInt64).toNat=2^63 -1 from rfl,Nat.and_two_pow_sub_one_eq_mod]};rw[<-aU,<-aU,<-aU,e,show(8646911284551352320:UInt64).toNat=8646911284551352320 from rfl,show(17870283321406128128:UInt64).toNat=17870283321406128128 from rfl];omega
theorem jt.goal(h l:UInt64):jt.F h l=some [.b (Cn.mS h l)]:=by apply jt.bU;intro v1 h1 v2 h2 v3 h3 v4 h4 v5 h5 v6 h6 v7 h7 v8 h8;have c6:∀x:Bool,(!x||(x&&x))=true:=by{decide};have c1:∀b:Bool,(!(!b)||(!b))=true:=by{decide};have hx:=pM h l;have WO:Nr.i64 (Cn.split h l).2.2.2=true:=dT;rw[ie,ie,bB (c1 _),BD,ie,ie,bB WO,bB (c6 _),ie,bB (c6 _),ie];unfold Cn.mS;simp only;by_cases c1:(Cn.split h l).1=3;{rw[cT c1,ar c1,h1,qG]};rw[cF c1,ao c1];by_cases c2:(Cn.split h l).1=2;{rw[cT c2,ar c2,h3,h2,qG,EB];cases decide (h=8646911284551352320)<;>rfl};rw[cF c2,ao c2,h8,h7,h6,h5,h4,qG,qG]
theorem dn.bY(n:Nat)(hn:n<=100000):∀(m i:Nat),i+m=n->dn.l1 (n:Int) (List.replicate i 48) (i:Int)=some [.s (List.replicate n 48)]
 |0,i,h=>by apply dn.bM;intro v1 h1;rw[cF,show i=n by omega]
 |m+1,i,h=>by apply dn.bM;intro v1 h1;have q:v1=((i+1:Nat):Int):=by{rw[h1,iw];omega};rw[cT,bB (aa (by rw[List.length_replicate,ak];omega)),q,show List.replicate i (48:UInt8)++[48]=List.replicate (i+1) 48 from List.replicate_succ'.symm];exact dn.bY n hn m (i+1) (by omega)
theorem dn.goal(n:Int)(hp:decide (n<=100000)=true):dn.F n=some [.s (List.replicate n.toNat 48)]:=by have h:=aq hp;rw[dn.de];by_cases c:0<=n;{obtain⟨k,rfl⟩:∃k:Nat,n=(k:Int):=⟨n.toNat,by omega⟩;rw[ah];exact dn.bY k (by omega) k 0 (by omega)};{apply dn.bM;intro v1 h1;rw[cF,show n.toNat=0 by omega];rfl}
end Go.Eng
namespace Go.Eng
open Go.Proofs
theorem nQ.ok:KO 198 nQ.c bC:=meets bH all_nil (.o) (fits λins=>by unfold nQ.c;split;exact nQ.goal (.mk _ _) _;trivial)
theorem fA.ok:KO 162 fA.c gA:=meets bH (all_cons nQ.ok all_nil) fA.h (fits λins=>by unfold fA.c;split;exact fA.goal (.mk _ _) _;trivial)
theorem dH.ok:KO 135 dH.c bC:=meets bH (all_cons fA.ok all_nil) dH.h (fits λins=>by unfold dH.c;split;exact dH.goal (.mk _ _);trivial)
set_option maxRecDepth 100000
theorem GY:Nr.dec (dP.val ⟨542101086242752,4003012203950112768⟩)=xh:=by have e:dP.val ⟨542101086242752,4003012203950112768⟩=10000000000000000000000000000000000:=by{rw[dP.iI];decide+kernel};have n:Nr.num xh=10000000000000000000000000000000000:=by{decide+kernel};rw[e,<-n];exact(Nr.mY 35 xh (by decide) (by decide) (by decide) (by decide)).symm
theorem IP(f:Nat):gf PG cnGl f ((Eh 4).fs f):=runs S2 (by intro p hp;simp at hp) (by kernel_rfl) f
theorem IM{l:List ((UInt64×UInt64)×(UInt64×UInt64))}{h lo:UInt64}{x:TV}{np:List TV}(e:(Vb l h lo x).holds np):∃q,((h,lo),q)∈l/\np=[IJ q,x]:=by unfold Vb at e;split at e;{rename_i p hp;have h1:=List.find?_some hp;simp only[af,beq_iff_eq]at h1;refine⟨p.2,?_,e⟩;rw[<-h1.1,<-h1.2];exact List.mem_of_find?_eq_some hp};{exact e.elim}
theorem Mv:∀p∈Eg,gf PG cnGl p.1 p.2:=by intro p hp;simp only[Eg,aP,List.not_mem_nil,or_false]at hp;rcases hp with rfl|rfl|rfl;{refine jo λti np h=>?_;unfold S3 at h;split at h;{split at h;{split at h;{rename_i h1 h2;subst h1 h2;obtain rfl:np=[.s xh]:=h;exact⟨dH.c,dH.ok,by rw[<-GY];rfl⟩};{exact h.elim}};{exact h.elim}};{exact h.elim}};{refine jo λti np h=>?_;unfold S4 at h;split at h;{split at h;{rename_i b;subst b;obtain⟨q,hq,rfl⟩:=IM h;have h6:gf PG cnGl 229 ((Eh 4).fs 229):=IP 229;rw[Pz]at h6;refine⟨((Eh 4).fs 229).1,h6,?_⟩;have:=Mw hq;simp only[IJ]at this;rw[this];rfl};{exact h.elim}};{exact h.elim}};{have h6:gf PG cnGl 230 ((Eh 4).fs 230):=IP 230;rw[PB]at h6;refine jo λti np h=>?_;unfold S5 at h;split at h;{rename_i x l c d;by_cases c0:c=0;{rw[ar c0]at h;subst c0;by_cases d0:d=0;{rw[ar d0]at h;subst d0;obtain⟨q,hq,rfl⟩:=IM h;refine⟨((Eh 4).fs 230).1,h6,?_⟩;have:=Mx hq;simp only[IJ]at this;rw[this];rfl};{rw[ao d0]at h;by_cases d1:d=1;{rw[ar d1]at h;by_cases x0:x=0;{rw[ar x0]at h;by_cases l0:l=0;{rw[ar l0]at h;obtain rfl:np=[.ag [.u64 0,.u64 1],.b false]:=h;subst d1 x0 l0;refine⟨((Eh 4).fs 230).1,h6,?_⟩;rw[My];rfl};{rw[ao l0]at h;exact h.elim}};{rw[ao x0]at h;exact h.elim}};{rw[ao d1]at h;exact h.elim}}};{rw[ao c0]at h;exact h.elim}};{exact h.elim}}
theorem PA(f:Nat):gf PG cnGl f ((R5 6).fs f):=runs S2 Mv (by kernel_rfl) f
theorem oG.ok:KO 161 oG.c bC:=jo λti np h=>by unfold oG.c at h;split at h;{obtain rfl:np=[.ag (dP.cells Cn.rh)]:=h;have h6:gf PG cnGl 161 ((R5 6).fs 161):=PA 161;rw[SK]at h6;refine⟨((R5 6).fs 161).1,h6,?_⟩;rw[Mu];rfl};{exact h.elim}
end Go.Eng
namespace Go.Eng
open Go.IntWalk
theorem lF.goal(s:bD):lF.F s=some [.ag (cQ.cells (Cn.str s))]:=lF.de s
theorem lH.goal(v:Int)(hp:(Nr.i64 v)=true):lH.F v=some [.ag (cQ.cells (Cn.num v))]:=by rw[lH.de,bB hp];rfl
theorem lG.goal(s:bD)(j:cQ):lG.F s j=some [.ag (cQ.cells (Cn.one s j))]:=by apply lG.bU;intro v1 h1;rw[h1];rfl
theorem lE.goal(s:bD)(j:cQ)(t:bD)(k:cQ):lE.F s j t k=some [.ag (cQ.cells (Cn.two s j t k))]:=by apply lE.bU;intro v1 h1;rw[h1];rfl
theorem fE.bY(v:UInt64):∀(m:Nat)(b:bD),b.length+m<=100->fE.l1 v (8*(m:Int) -8) b=some [.s (kv.text (b++((List.range m).reverse.map λk=>UInt8.ofInt ((cE v (8*k)).toNat:Int))))]
 |0,b,hb=>by refine fE.bM _ _ _ ?_;intro v1 h1 v2 h2;rw[ab (by omega),aj,iy];simp
 |m+1,b,hb=>by refine fE.bM _ _ _ ?_;intro v1 h1 v2 h2;have e2:v2=8*(m:Int) -8:=by{rw[h2,iw];omega};have ek:(8*((m+1:Nat):Int) -8).toNat=8*m:=by{omega};rw[ek]at h1;rw[aa (by omega),au,bP,bB (dO (by simp;omega) (by simp;omega)),e2,fE.bY v m (b++[v1]) (by simp;omega),h1];rw[List.range_succ,List.reverse_append];simp
theorem fE.goal(v:UInt64):fE.F v=some [.s (Cn.high v)]:=by rw[fE.de,show(56:Int)=8*((8:Nat):Int) -8 by omega,fE.bY v 8 [] (by simp)];rfl
theorem lQ:∀l:bD,(kv.text l).length=2*l.length
 |[]=>rfl
 |x::r=>by have:=lQ r;simp only[kv.text,kv.two,ae,av,aE,this];omega
theorem rA(v:UInt64):(Cn.high v).length<=100:=by unfold Cn.high Cn.b8;rw[lQ];simp
theorem iG.goal(v:Val):iG.F v=some [.ag (cQ.cells (Cn.mC v).1),.b (Cn.mC v).2]:=by
 apply iG.bU;intro v1 h1 v2 h2 v3 h3 v4 h4 v5 h5 v6 h6 v7 h7 v8 h8 v9 h9 v10 iZ v11 lJ v12 mh kx sq kg tc kf so oD wO uF D4 o9 C1 sI Kz v20 HT v21 QZ v22 QY;unfold Cn.mC;have i6:Nr.i64 v6=true:=by{rw[h6];exact py _};by_cases k1:v.kind=1
 ·rw[cT k1,ar k1,ie,ie,ie,h1,qG];cases(decide (Sh.text v.bits=([78,97,78]:bD))&&!decide (v.bits=9221120237041090560))with
  |true=>rw[au,ar rfl,h3,h2]
  |false=>rw[aj,ao (by simp),h5,h4]
 rw[cF k1,ao k1];by_cases k2:v.kind=9;{rw[cT k2,ar k2,bB i6,h8,h7,h6];rfl};rw[cF k2,ao k2];by_cases k3:v.kind=16;{rw[cT k3,ar k3,bB (py _),lJ,iZ,h9];rfl};rw[cF k3,ao k3];by_cases k4:v.kind=18;{rw[cT k4,ar k4,bB i6,h7,h6];rfl};rw[cF k4,ao k4];by_cases k5:v.kind=17;{rw[cT k5,ar k5,bB (by rw[sq];exact py _),bB (by rw[so];exact py _),D4,wO,so,tc,sq,mh];rfl};rw[cF k5,ao k5];by_cases k6:v.kind=19
 ·rw[cT k6,ar k6,C1];cases Cn.mS v.high v.low with
  |true=>rw[au,ar rfl,HT,Kz]
  |false=>have:=rA v.high;have:=rA v.low;rw[aj,ao (by simp),iy,QY,QZ]
 {rw[cF k6,ao k6];rfl}
theorem kT.goal(v:Val)(hp:(decide (bJ.bL (bJ.of [] v)<=1099511627776))=true):kT.F v=some [.ag (cQ.cells (Cn.nq v))]:=by have hp:=aq hp;have hb:v.bytes.length<=1099511627776:=by{simp only[bJ.of,bJ.bL]at hp;omega};apply kT.bU;intro v1 h1 v2 h2 v3 h3 v4 h4 v5 h5 v6 h6 v7 h7 v8 h8 v9 h9 v10 iZ v11 lJ v12 mh;unfold Cn.nq;by_cases k1:v.kind=5;{rw[cT k1,ar k1,bB (aa hb),bB (aa (by rw[h2];simp)),h4,h3,h2,h1]};rw[cF k1,ao k1];by_cases k2:v.kind=7;{rw[cT k2,ar k2,bB (aa hb),h6,h5]};rw[cF k2,ao k2];by_cases k3:v.kind=11;{rw[cT k3,ar k3,h8,h7]};rw[cF k3,ao k3];by_cases k4:v.kind=12;{rw[cT k4,ar k4,bB (aa hb),iZ,h9,h6,h5]};rw[cF k4,ao k4];by_cases k5:v.kind=13;{rw[cT k5,ar k5,lJ]};rw[cF k5,ao k5];by_cases k6:v.kind=14;{rw[cT k6,ar k6,mh]};rw[cF k6,ao k6]
theorem NC:∀f:bJ,1<=bJ.bL f
 |.mk _ _ _ _ _ _ _ _ _ _=>by simp only[bJ.bL];omega
theorem p8:∀l:List bJ,l.length<=bJ.cr l
 |[]=>by simp[bJ.cr]
 |f::r=>by have:=p8 r;have:=NC f;simp only[bJ.cr,av];omega
theorem Bb(f:bJ):bJ.bL (bJ.of [] f.val)<=bJ.bL f:=by cases f;simp only[bJ.of,bJ.val,bJ.kind,bJ.bits,bJ.high,bJ.low,bJ.text,bJ.more,bJ.sub,bJ.bytes,bJ.kids,bJ.bL,aE];omega
theorem E8{l:List bJ}{i:Nat}(h:i<l.length)(d:bJ):bJ.bL (l.getD i d)<=bJ.cr l:=by
 induction l generalizing i with
 |nil=>simp at h
 |cons f r ih=>
  cases i with
  |zero=>simp[bJ.cr]
  |succ i=>have:=ih (i:=i) (by simpa using h);simp only[List.getD_cons_succ,bJ.cr];omega
theorem Da(f:bJ):Cn.oX f=Cn.BL f.val:=by cases f;simp only[Cn.BL,bJ.of,bJ.val,bJ.kind,bJ.bits,bJ.high,bJ.low,bJ.text,bJ.more,bJ.sub,bJ.bytes,bJ.kids,Cn.oX]
theorem zI:∀l:List bJ,(Cn.ja l).length=l.length
 |[]=>by simp[Cn.ja]
 |f::r=>by simp[Cn.ja,zI r]
theorem cS.bY(n:Nat)(l:List bJ)(hb:bJ.cr l<=1099511627776)(hn:2*bJ.cr l<n)(x3:Int)(x4:bD)(x7:List Mem):∀(m i:Nat)(acc:List Mem),i+m=l.length->acc.length=i->
  cS.l1 n l (l.length:Int) (i:Int) x3 x4 7 [] x7 acc=some [.ag [.i .i64 7,.s [],.sl .ml (acc++Cn.ja (l.drop i))]]
 |0,i,acc,hi,ha=>by apply cS.bM;intro v1 h1 v2 h2 v3 h3 v4 h4 v5 h5 v6 h6;rw[cF,aA (by omega)];simp[Cn.ja]
 |m+1,i,acc,hi,ha=>by
  have hlen:=p8 l;apply cS.bM;intro v1 h1 v2 h2 v3 h3 v4 h4 v5 h5 v6 h6;rw[ah]at h1;have hf:=E8 (l:=l) (i:=i) (by omega) (fF.fS .fl);rw[<-h1]at hf;have hv:=Bb v1;have e6:v6=((i+1:Nat):Int):=by{rw[h6,iw];omega};have cB:((decide (bJ.bL (bJ.of [] (bJ.val v1))<=1099511627776))&&decide ((2*bJ.bL (bJ.of [] (bJ.val v1)))<n))=true:=by{rw[af];exact⟨dT,dT⟩};rw[cT,ki,bB cB,bB (dO (by rw[h5];simp;omega) (by rw[h5];simp;omega)),e6,
   cS.bY n l hb hn x3 x4 x7 m (i+1) (acc++v5) (by omega) (by rw[h5];simp;omega),drop_cons (l:=l) (i:=i) (by omega) (fF.fS .fl),<-h1]
  have e5:v5=[Mem.of v1.name (Cn.oX v1)]:=by{rw[h5,h2,h3,h4,Da];rfl};rw[e5,az];simp[Cn.ja]
theorem cS.goal(n:Nat)(l:List bJ)(hp:((decide (bJ.cr l<=1099511627776))&&decide ((2*bJ.cr l+1)<n+1))=true):cS.F n l=some [.ag (cQ.cells (Cn.ug l))]:=by rw[af]at hp;have h1:=aq hp.1;have h2:=aq hp.2;rw[cS.de];exact cS.bY n l h1 (by omega) 0 [] [] l.length 0 [] (by omega) rfl
theorem eS.bY(n:Nat)(x2:Int)(x3:bD)(x5:bD)(x6:List Mem)(l:List Mem)(hl:l.length<=1099511627776):∀(m i:Nat)(acc:List Mem),i+m=l.length->acc=(l.take i).map Cn.pE++l.drop i->
  eS.l1 n (l.length:Int) (i:Int) x2 x3 6 x5 x6 acc=some [.ag [.i .i64 6,.s x5,.sl .ml (l.map Cn.pE)]]
 |0,i,acc,hi,ha=>by apply eS.bM;intro v1 h1 v2 h2;rw[cF,ha,aA (by omega),List.take_of_length_le (by omega),aK]
 |m+1,i,acc,hi,ha=>by have Nx:acc.length=l.length:=by{rw[ha];simp;omega};have wN:i<l.length:=by{omega};apply eS.bM;intro v1 h1 v2 h2;rw[ah]at h1⊢;have e2:v2=((i+1:Nat):Int):=by{rw[h2,iw];omega};rw[cT,ki,iy,e2];refine eS.bY n x2 x3 x5 x6 l hl m (i+1) v1 (by omega) ?_;have eg:acc.getD i (fF.fS .ml)=l[i]:=by{rw[ha,ai,aY (by simp;omega)];simp only[bm,aF,Nat.min_eq_left (Nat.le_of_lt wN),Nat.sub_self,List.getElem?_drop,Nat.add_zero];rw[aw wN];rfl};rw[h1,eg,ha,List.set_append_right _ _ (by simp;omega)];simp only[bm,aF,Nat.min_eq_left (Nat.le_of_lt wN),Nat.sub_self];rw[List.drop_eq_getElem_cons wN,List.set_cons_zero,List.take_succ_eq_append_getElem wN,List.map_append,az];rfl
theorem eS.goal(n:Nat)(v:Val)(hp:((decide (bJ.bL (bJ.of [] v)<=1099511627776))&&decide ((2*bJ.bL (bJ.of [] v))<n+1))=true):eS.F n v=some [.ag (cQ.cells (Cn.BL v))]:=by
 rw[af]at hp;have hb:=aq hp.1;have hn:=aq hp.2;have hk:bJ.cr v.kids+1<=bJ.bL (bJ.of [] v):=by{simp only[bJ.of,bJ.bL];omega};have hlen:=p8 v.kids;apply eS.bU;intro v1 h1 v2 h2 v3 h3 v4 h4 v5 h5 v6 h6 v7 h7 v8 h8 v9 h9 v10 iZ v11 lJ v12 mh kx sq kg tc kf so oD wO;have cA:((decide (bJ.cr v.kids<=1099511627776))&&decide ((2*bJ.cr v.kids+1)<n))=true:=by{rw[af];exact⟨dT,dT⟩};have hd:(⟨v6,v7,v5⟩:cQ)=Cn.ug v.kids:=by{rw[h5,h6,h7]};have e5:v5=Cn.ja v.kids:=h5;have e6:v6=7:=h6;have e7:v7=[]:=h7;unfold Cn.BL;simp only[bJ.of,Cn.oX];by_cases k1:v.kind=3
 ·have e4:v4=Cn.mW v.kids:=by
   rw[h4,h3,h2,h1];unfold Cn.mW;cases v.kids with
   |nil=>rfl
   |cons f r=>
    rw[aa (by simp),au];show List.isPrefixOf [36] f.name=decide (f.name.take 1=[36]);generalize f.name=s;cases s with
    |nil=>rfl
    |cons c t=>by_cases e:c=36;{subst e;simp[List.isPrefixOf]};{have e':¬(36:UInt8)=c:=λh=>e h.symm;simp[List.isPrefixOf,e,e']}
  have ci:(!(decide ((0:Int)<v1))||((decide ((0:Int)<v1))&&(bF (0:Int) v.kids.length)))=true:=by{by_cases c:(0:Int)<v1;{rw[dC (by omega) (by omega)];cases decide ((0:Int)<v1)<;>rfl};{rw[ab c];rfl}};rw[cT k1,ar k1,ie,bB ci,ie,ie,ie,ie,bB cA,bB cA,e4,h8,hd,e5,e6,e7];cases Cn.mW v.kids<;>rfl
 rw[cF k1,ao k1];by_cases k2:v.kind=4
 ·rw[cT k2,ar k2,bB cA,iy,h9,iZ,hd,e5,e7];cases Tree.regular v.kids with
  |false=>rfl
  |true=>rw[aG,aj,au];have:=eS.bY n 0 [] [] [] (Cn.ja v.kids) (by rw[zI];omega) (Cn.ja v.kids).length 0 (Cn.ja v.kids) (by omega) (by simp);exact this
 rw[cF k2,ao k2];by_cases k3:v.kind=15;{rw[cT k3,ar k3,bB cA,lJ,hd];rfl};rw[cF k3,ao k3];have i1:Nr.i64 1=true:=aa (by decide);unfold Cn.lx;by_cases k4:v.kind=6;{rw[cT k4,ar k4,mh]};rw[cF k4,ao k4];by_cases k5:v.kind=8;{rw[cT k5,ar k5,tc,sq];rfl};rw[cF k5,ao k5];by_cases k6:v.kind=10;{rw[cT k6,ar k6];rfl};rw[cF k6,ao k6];by_cases k7:v.kind=255;{rw[cT k7,ar k7,bB i1,so]};rw[cF k7,ao k7];by_cases k8:v.kind=127;{rw[cT k8,ar k8,bB i1,wO]};rw[cF k8,ao k8];show cond (Cn.mC v).2 _ _=some [TV.ag (cQ.cells (if(Cn.mC v).2=true then(Cn.mC v).1 else Cn.nq v))];cases(Cn.mC v).2 with
 |true=>rw[au,ar rfl]
 |false=>rw[aj,ao (by simp)];exact bB hp.1
theorem jS.goal(v:Val)(hp:(decide (bJ.bL (bJ.of [] v)<=1099511627776))=true):jS.F v=some [.ag (cQ.cells (Cn.lN v)),.ag [.i .i64 (Cn.fY v).2,.i .i64 0,.sl .is (Cn.fY v).1]]:=by have hb:=aq hp;have hk:bJ.cr v.kids+1<=bJ.bL (bJ.of [] v):=by{simp only[bJ.of,bJ.bL];omega};apply jS.bU;intro v1 h1 v2 h2 v3 h3 v4 h4 v5 h5;rw[bB hp];unfold Cn.lN;by_cases c:(Tree.fW (bJ.of [] v) []).2=0;{rw[h2,aa c,aG,aj];by_cases k:v.kind=3;{have e:Cn.fY v=([],0):=by{unfold Cn.fY;rw[ao (by simp[c]),ar k]};rw[aa k,aG,aj,iy,e,ar rfl,h3,h4,h5];rfl};{have e:Cn.fY v=([],5):=by{unfold Cn.fY;rw[ao (by simp[c]),ao k]};rw[ab k,aL,au,e,ao (by decide)];rfl}};{have e:Cn.fY v=Tree.fW (bJ.of [] v) []:=by{unfold Cn.fY;rw[ar c]};rw[h2,ab c,aL,au,e,ao c,h1];rfl}
theorem nY.goal(s:bD)(hp:(decide (s.length<=1099511627776))=true):nY.F s=some [.b (dy.whole s)]:=by rw[nY.de,bB (uq (aq hp)),bB hp]
theorem OD:∀(l:bD)(c:UInt8),(l=[]\/Lib.indexByte l c<(l.length:Int))/\-1<=Lib.indexByte l c
 |[],c=>⟨.inl rfl,by show(-1:Int)<=-1;omega⟩
 |d::r,c=>by obtain⟨h1,h2⟩:=OD r c;rw[yg];refine⟨.inr ?_,?_⟩;{split;{simp only[av];omega};{split;{simp only[av];omega};{rename_i h;rcases h1 with rfl|h1;{exact(h (by rfl)).elim};{simp only[av];omega}}}};{split;{omega};{split<;>omega}}
theorem Bf(c:UInt8):(Cn.we c).length<=6:=by unfold Cn.we;split;{simp};split;{rw[ae,lQ];simp};{simp}
theorem Dj:∀s:bD,(s.flatMap Cn.we).length<=6*s.length
 |[]=>by simp
 |c::r=>by have:=Dj r;have:=Bf c;simp only[List.flatMap_cons,ae,av];omega
theorem mR(s:bD):(Cn.iT s).length<=6*s.length+2:=by
 unfold Cn.iT;cases dy.whole s with
 |false=>simp
 |true=>have:=Dj s;simp only[au,Cn.quote,av,ae,aE];omega
theorem da.bY(s:bD)(hs:s.length<=1000000000000):∀(m i:Nat)(b:bD),i+m=s.length->b.length+6*m<=7000000000000->
  da.l1 s (s.length:Int) (i:Int) b=some [.s (b++((s.drop i).flatMap Cn.we++[34])),.b true]
 |0,i,b,hi,hb=>by apply da.bM;intro v1 h1 v2 h2 v3 h3 v4 h4 v5 h5 v6 h6 v7 h7;rw[cF,bB (dO (by rw[h7];simp;omega) (by rw[h7];simp;omega)),h7,aA (by omega)];rfl
 |m+1,i,b,hi,hb=>by
  apply da.bM;intro v1 h1 v2 h2 v3 h3 v4 h4 v5 h5 v6 h6 v7 h7;rw[ah]at h1;have Se:=OD [34,92,8,12,10,13,9] v1;rw[<-h2]at Se;have Se:=Se.1.resolve_left (by simp);have next:∀e:bD,e=Cn.we v1->da.j2 s (s.length:Int) (i:Int) (b++e)=some [.s (b++((s.drop i).flatMap Cn.we++[34])),.b true]:=λe he=>by apply da.ik;intro w1 g1;have e1:w1=((i+1:Nat):Int):=by{rw[g1,iw];omega};have hl:=Bf v1;rw[e1,da.bY s hs m (i+1) (b++e) (by omega) (by rw[he,ae];omega),drop_cons (l:=s) (i:=i) (by omega) (0:UInt8),<-h1,he,List.flatMap_cons];simp only[az]
  rw[cT,ki];by_cases c:(0:Int)<=v2
  ·rw[cT c,bB (dC c (by simp at Se⊢;omega)),bB (dO (by rw[h4];simp;omega) (by rw[h4];simp;omega))];refine next _ ?_
   unfold Cn.we;rw[<-h2,ar c,h4,h3];rfl
  ·rw[cF c];by_cases c2:v1<32
   ·rw[cT c2,bB (dO (by simp;omega) (by simp;omega)),bB (aa (by simp)),bB (dO (by rw[h5,h6,lQ];simp;omega) (by rw[h5,h6,lQ];simp;omega)),h5,az];refine next _ ?_
    unfold Cn.we;rw[<-h2,ao c,ar c2,h6]
   ·rw[cF c2,bB (dO (by simp;omega) (by simp;omega))];refine next _ ?_
    unfold Cn.we;rw[<-h2,ao c,ao c2]
theorem da.goal(s:bD)(hp:(decide (s.length<=1000000000000))=true):da.F s=some [.s (Cn.iT s),.b (dy.whole s)]:=by
 have hs:=aq hp;apply da.bU;intro v1 h1;rw[iy];unfold Cn.iT;cases dy.whole s with
 |false=>rfl
 |true=>rw[aG,aj,au,h1];exact da.bY s hs s.length 0 [34] (by omega) (by simp;omega)
theorem iE.goal(b s:bD)(hp:(decide (b.length+6*s.length<=5000000000000))=true):iE.F b s=some [.sl .bs (b++Cn.iT s)]:=by have h:=aq hp;have:=mR s;rw[iE.de,iy,Pe]
theorem jz.goal(j:cQ)(hp:(decide (12*cQ.bL j<=1000000000000))=true):jz.F j=some [.s (Cn.oH j),.i .i64 (Cn.iA j)]:=by have h:=aq hp;apply jz.bU;intro v1 h1;rw[iy,bB (aa (by simp;omega)),h1,bh];unfold Cn.oH;by_cases c:Cn.iA j=0;{rw[aa c,aG,aj,au,c]};{rw[ab c,aL,au,aj]}
theorem wH(f:Mem):cQ.bL f.val<=Mem.bL f:=by cases f;simp only[cQ.bL,Mem.of,Mem.val,Mem.kind,Mem.text,Mem.kids,Mem.bL,aE];omega
theorem xP{l:List Mem}{i:Nat}(h:i<l.length)(d:Mem):Mem.bL (l.getD i d)<=Mem.cr l:=by
 induction l generalizing i with
 |nil=>simp at h
 |cons f r ih=>
  cases i with
  |zero=>simp[Mem.cr]
  |succ i=>have:=ih (i:=i) (by simpa using h);simp only[List.getD_cons_succ,Mem.cr];omega
theorem M7:∀f:Mem,1<=Mem.bL f
 |.mk _ _ _ _=>by simp only[Mem.bL];omega
theorem nD:∀l:List Mem,l.length<=Mem.cr l
 |[]=>by simp[Mem.cr]
 |f::r=>by have:=nD r;have:=M7 f;simp only[Mem.cr,av];omega
theorem mE(j:cQ):cQ.bL j=1+j.text.length+Mem.cr j.kids:=by simp only[cQ.bL,Mem.of,Mem.bL,aE]
theorem tO(f:Mem):f.name.length+cQ.bL f.val=Mem.bL f:=by cases f;simp only[cQ.bL,Mem.of,Mem.val,Mem.name,Mem.kind,Mem.text,Mem.kids,Mem.bL,aE];omega
theorem G7(f g:Mem):Cn.vP f g=Cn.qR f.val g.val:=by cases f;cases g;simp only[Cn.qR,Mem.of,Mem.val,Mem.kind,Mem.text,Mem.kids,Cn.vP]
theorem Jk(a b:cQ):Cn.qR a b=(decide (a.kind=b.kind)&&decide (a.text=b.text)&&Cn.mw a.kids b.kids):=by simp only[Cn.qR,Mem.of,Cn.vP]
theorem xr:∀a b:List Mem,Cn.mw a b=true->a.length=b.length
 |[],[],_=>rfl
 |[],_::_,h=>by simp[Cn.mw]at h
 |_::_,[],h=>by simp[Cn.mw]at h
 |x::a,y::b,h=>by simp only[Cn.mw,af]at h;simp[xr a b h.2]
theorem dv.bY(n:Nat)(a b:cQ)(hb:cQ.bL a<=1099511627776)(hn:cQ.bL a<n+1)(hl:a.kids.length=b.kids.length):∀(m i:Nat),i+m=a.kids.length->dv.l1 n (i:Int) a b=some [.b (Cn.mw (a.kids.drop i) (b.kids.drop i))]
 |0,i,hi=>by apply dv.bM;intro v1 h1 v2 h2 v3 h3 v4 h4 v5 h5 v6 h6 v7 h7;rw[cF,aA (by omega),aA (by omega)];rfl
 |m+1,i,hi=>by
  have hk:=mE a;have hlen:=nD a.kids;apply dv.bM;intro v1 h1 v2 h2 v3 h3 v4 h4 v5 h5 v6 h6 v7 h7;rw[ah]at h2 h3;have hf:=xP (l:=a.kids) (i:=i) (by omega) (fF.fS .ml);rw[<-h2]at hf;have hv:=wH v2;have e7:v7=((i+1:Nat):Int):=by{rw[h7,iw];omega};have ca:bF (i:Int) a.kids.length=true:=dC (by omega) (by omega);have cb:bF (i:Int) b.kids.length=true:=dC (by omega) (by omega);have cc:((decide (cQ.bL (Mem.val v2)<=1099511627776))&&decide ((cQ.bL (Mem.val v2))<n))=true:=by{rw[af];exact⟨dT,dT⟩};have c5:(!v4||((v4&&v4)&&true))=true:=by{cases v4<;>rfl};have c6:((!decide (v2.name=v3.name))||v4)=true:=by{rw[h4];cases decide (v2.name=v3.name)<;>rfl};rw[cT,ca,cb,cc,bP,bP,ie,bB c5,ie,ie,ie,bB c5,ie,ie,bB c5,ie,bB c6,e7,dv.bY n a b hb hn hl m (i+1) (by omega),
   drop_cons (l:=a.kids) (i:=i) (by omega) (fF.fS .ml),drop_cons (l:=b.kids) (i:=i) (by omega) (fF.fS .ml),<-h2,<-h3,h6,h5]
  simp only[Cn.mw];rw[G7];cases decide (v2.name=v3.name)<;>cases Cn.qR v2.val v3.val<;>rfl
theorem dv.goal(n:Nat)(a b:cQ)(hp:((decide (cQ.bL a<=1099511627776))&&decide ((cQ.bL a)<n+1))=true):dv.F n a b=some [.b (Cn.qR a b)]:=by
 rw[af]at hp;have hb:=aq hp.1;have hn:=aq hp.2;apply dv.bU;intro v1 h1 v2 h2 v3 h3 v4 h4 v5 h5;have c3:∀x:Bool,(!x||(x&&x))=true:=by{decide};have c4:((!decide (a.kind=b.kind))||v1)=true:=by{rw[h1];cases decide (a.kind=b.kind)<;>rfl};rw[ie,ie,bB (c3 _),bB c4,ie,ie,ie,ie,bB (c3 _),BD,Jk,h5,h2,h4,h3];by_cases k1:a.kind=b.kind
 ·by_cases k2:a.text=b.text
  ·rw[aa k1,aa k2];by_cases k3:a.kids.length=b.kids.length;{rw[dT];show dv.l1 n ((0:Nat):Int) a b=_;rw[dv.bY n a b hb hn k3 _ 0 (by rw[Nat.zero_add])];rfl}
   ·rw[dF];have:Cn.mw a.kids b.kids=false:=by
     cases h:Cn.mw a.kids b.kids with
     |false=>rfl
     |true=>exact(k3 (xr _ _ h)).elim
    rw[this];rfl
  {rw[aa k1,ab k2];rfl}
 {rw[ab k1];rfl}
theorem Dx(f:Mem):Cn.rI f=Cn.iA f.val:=by cases f;simp only[Cn.iA,Mem.of,Mem.val,Mem.kind,Mem.text,Mem.kids,Cn.rI]
theorem cJ.jb(n:Nat)(l:List Mem)(hb:Mem.cr l<=1099511627776)(hn:Mem.cr l<n):∀(m i:Nat),i+m=l.length->cJ.l2 n l (l.length:Int) (i:Int)=some [.i .i64 (Cn.ko (l.drop i))]
 |0,i,hi=>by apply cJ.gU;intro v1 h1 v2 h2 v3 h3;rw[cF,aA (by omega)];simp[Cn.ko]
 |m+1,i,hi=>by
  have hlen:=nD l;apply cJ.gU;intro v1 h1 v2 h2 v3 h3;rw[ah]at h1;have hf:=xP (l:=l) (i:=i) (by omega) (fF.fS .ml);rw[<-h1]at hf;have hv:=wH v1;have Vz:=tO v1;have e3:v3=((i+1:Nat):Int):=by{rw[h3,iw];omega};have cc:((decide (cQ.bL (Mem.val v1)<=1099511627776))&&decide ((cQ.bL (Mem.val v1))<n))=true:=by{rw[af];exact⟨dT,dT⟩};rw[cT,ki,iy,bB cc,e3,cJ.jb n l hb hn m (i+1) (by omega),drop_cons (l:=l) (i:=i) (by omega) (fF.fS .ml),<-h1,h2];simp only[Cn.ko];rw[Dx];cases hw:dy.whole v1.name with
  |false=>rw[ar rfl];rfl
  |true=>rw[ao (by simp),aG,aj];by_cases c:Cn.iA v1.val=0;{rw[aa c,aG,aj,ao (by simp[c])]};{rw[ab c,aL,au,ar c]}
theorem cJ.bY(n:Nat)(j:cQ)(hb:cQ.bL j<=1099511627776)(hn:cQ.bL j<n+1):∀(m i:Nat),i+m=j.kids.length->
  cJ.l1 n j.kids (j.kids.length:Int) (i:Int) j=some [.i .i64 (if j.kind=6/\((j.kids.drop i).any λm=>!decide (m.name=[]))=true then 1 else if j.kind=4/\(Nr.fC j.text=0\/300<j.text.length)then 10 else if j.kind=5/\dy.whole j.text=false then 4 else Cn.ko j.kids)]
 |0,i,hi=>by
  have hk:=mE j;apply cJ.bM;intro v1 h1 v2 h2 v3 h3 v4 h4 v5 h5 v6 h6 v7 h7 v8 h8 v9 h9 v10 iZ;have ct:decide (j.text.length<=1099511627776)=true:=dT;have ca:∀a:Bool,(!a||(a&&true))=true:=by{decide};have c8:(!(decide (j.kind=4))||((decide (j.kind=4))&&((decide (Nr.fC j.text=0))||v4)))=true:=by{rw[h4];cases decide (j.kind=4)<;>cases decide (Nr.fC j.text=0)<;>rfl};have e7:v7=decide (j.kind=4/\(Nr.fC j.text=0\/300<j.text.length)):=by{have e5:decide ((300:Int)<v5)=decide (300<j.text.length):=aT.2 (by omega);rw[h7,h6,e5,Bool.decide_and,Bool.decide_or];cases decide (j.kind=4)<;>cases decide (Nr.fC j.text=0)<;>rfl};have e9:v9=decide (j.kind=5/\dy.whole j.text=false):=by{rw[h9,h8,Bool.decide_and];cases decide (j.kind=5)<;>cases dy.whole j.text<;>rfl};rw[ab (show¬((i:Int)<j.kids.length) by omega),aj,ct,ie,bB (ca _),ie,ie,ie,ie,ie,bB c8,ie,e7,
   ao (by rw[aA (by omega)];simp)]
  by_cases k1:j.kind=4/\(Nr.fC j.text=0\/300<j.text.length);{rw[cT k1,ar k1]};rw[cF k1,ao k1,ie,bB (ca _),ie,ie,e9];by_cases k2:j.kind=5/\dy.whole j.text=false;{rw[cT k2,ar k2]};rw[cF k2,ao k2,iZ];exact cJ.jb n j.kids (by omega) (by omega) j.kids.length 0 (by omega)
 |m+1,i,hi=>by have hk:=mE j;have hlen:=nD j.kids;have ih:=cJ.bY n j hb hn m (i+1) (by omega);apply cJ.bM;intro v1 h1 v2 h2 v3 h3 v4 h4 v5 h5 v6 h6 v7 h7 v8 h8 v9 h9 v10 iZ;rw[ah]at h1;have e3:v3=((i+1:Nat):Int):=by{rw[h3,iw];omega};rw[aa (show(i:Int)<j.kids.length by omega),au,ki,ie,ie,ie,e3,ih,drop_cons (l:=j.kids) (i:=i) (by omega) (fF.fS .ml),<-h1,List.any_cons,h2];by_cases k:j.kind=6;{rw[cT k];by_cases k2:v1.name=[];{rw[aa k2,aG,aj,Bool.false_or]};{rw[ab k2,aL,au,Bool.true_or,ar ⟨k,rfl⟩]}};{rw[cF k,aj];simp only[k,false_and,if_false]}
theorem cJ.goal(n:Nat)(j:cQ)(hp:((decide (cQ.bL j<=1099511627776))&&decide ((cQ.bL j)<n+1))=true):cJ.F n j=some [.i .i64 (Cn.iA j)]:=by rw[af]at hp;have hb:=aq hp.1;have hn:=aq hp.2;apply cJ.bU;intro v1 h1 v2 h2 v3 h3 v4 h4 v5 h5 v6 h6;have e1:v1=decide (j.kind<1\/7<j.kind):=by{rw[h1,Bool.decide_or];cases decide (j.kind<1)<;>rfl};have e4:v4=decide (j.kids≠[]/\j.kind≠6/\j.kind≠7):=by{have:decide ((0:Int)<v2)=decide (j.kids≠[]):=aT.2 (by rw[h2];exact⟨λh e=>by rw[e]at h;exact absurd h (by simp),λh=>by have:=List.length_pos_iff.2 h;omega⟩);rw[h4,h3,this,Bool.decide_and,Bool.decide_and];simp only[ne_eq,decide_not];cases decide (j.kids=[])<;>cases decide (j.kind=6)<;>rfl};have e6:v6=decide (j.text≠[]/\j.kind≠4/\j.kind≠5):=by{rw[h6,h5,Bool.decide_and,Bool.decide_and];simp only[ne_eq,decide_not];cases decide (j.text=[])<;>cases decide (j.kind=4)<;>rfl};have key:=cJ.bY n j hb hn j.kids.length 0 (by omega);simp only[Cn.iA,Mem.of,Cn.rI];rw[ie,ie,BD,e1];by_cases k1:j.kind<1\/7<j.kind;{rw[cT k1,ar k1]};rw[cF k1,ao k1,ie,ie,ie,ie,ie,ie,e4];by_cases k2:j.kids≠[]/\j.kind≠6/\j.kind≠7;{rw[cT k2,ar k2]};rw[cF k2,ao k2,ie,ie,ie,ie,ie,ie,e6];by_cases k3:j.text≠[]/\j.kind≠4/\j.kind≠5;{rw[cT k3,ar k3]};rw[cF k3,ao k3,h2];exact key
mutual
theorem yb:∀m:Mem,(Cn.wo m).length+4+12*m.name.length<=12*Mem.bL m
 |.mk n k t ks=>by
  have h:=zN ks (decide (k=7)) true
  have hq:=mR t
  simp only[Cn.wo,Mem.bL,Mem.name]
  split
  ·simp;omega
  split
  ·simp;omega
  split
  ·simp;omega
  split
  ·omega
  split
  ·omega
  ·simp only[av,ae,aE];omega
theorem zN:∀(l:List Mem)(o f:Bool),(Cn.nW o f l).length<=12*Mem.cr l
 |[],o,f=>by simp[Cn.nW]
 |m::r,o,f=>by
  have h1:=yb m
  have h2:=zN r o false
  have hq:=mR m.name
  simp only[Cn.nW,Mem.cr,ae]
  cases f<;>cases o<;>simp<;>omega
end
theorem CJ(f:Mem):Cn.wo f=Cn.rq f.val:=by cases f;simp only[Cn.rq,Mem.of,Mem.val,Mem.kind,Mem.text,Mem.kids,Cn.wo]
theorem cX.jb(n:Nat)(c:UInt8)(j:cQ)(hn:cQ.bL j<n+1):∀(m i:Nat)(b:bD),i+m=j.kids.length->b.length+12*Mem.cr (j.kids.drop i)+8<=4000000000000->Mem.cr j.kids<=1000000000000->
  cX.l2 n c j.kids (j.kids.length:Int) (i:Int) j b=some [.sl .bs (b++(Cn.nW (decide (j.kind=7)) (decide (i=0)) (j.kids.drop i)++[c]))]
 |0,i,b,hi,hb,hq=>by apply cX.gU;intro v1 h1 v2 h2;rw[ab (show¬((i:Int)<j.kids.length) by omega),aj,bB (dO (by simp;omega) (by simp;omega)),aA (by omega)];simp[Cn.nW]
 |m+1,i,b,hi,hb,hq=>by have hk:=mE j;have hlen:=nD j.kids;apply cX.gU;intro v1 h1 v2 h2;rw[ah]at h1;have hf:=xP (l:=j.kids) (i:=i) (by omega) (fF.fS .ml);rw[<-h1]at hf;have hd:=drop_cons (l:=j.kids) (i:=i) (by omega) (fF.fS .ml);rw[<-h1]at hd;have hv:=tO v1;have hl:=yb v1;have Zk:=mR v1.name;rw[hd]at hb⊢;simp only[Mem.cr]at hb;have last:∀x:bD,x.length<=b.length+6*v1.name.length+4->cX.j4 n c j.kids (j.kids.length:Int) (i:Int) j v1 x=some [.sl .bs (x++(Cn.wo v1++(Cn.nW (decide (j.kind=7)) false (j.kids.drop (i+1))++[c])))]:=λx hx=>by{apply cX.CP;intro w1 g1 w2 g2;have e2:w2=((i+1:Nat):Int):=by{rw[g2,iw];omega};have cc:((decide (x.length+12*cQ.bL (Mem.val v1)<=4000000000000))&&decide ((cQ.bL (Mem.val v1))<n))=true:=by{rw[af];exact⟨dT,dT⟩};rw[bB cc,e2,g1,<-CJ,cX.jb n c j hn m (i+1) _ (by omega) (by rw[ae];omega) hq,show decide (i+1=0)=false from dF,az]};have pS:∀x:bD,x.length<=b.length+1->cX.j3 n c j.kids (j.kids.length:Int) (i:Int) j v1 x=some [.sl .bs (x++(cond (decide (j.kind=7)) (Cn.iT v1.name++[58]) []++(Cn.wo v1++(Cn.nW (decide (j.kind=7)) false (j.kids.drop (i+1))++[c]))))]:=λx hx=>by{apply cX.nZ;intro w1 g1 w2 g2;by_cases k:j.kind=7;{rw[aa k,au,au,iy,bB (dO (by rw[g1,g2];simp;omega) (by rw[g1,g2];simp;omega)),last _ (by rw[g1,g2];simp;omega),g1,g2,aa k];simp only[az]};{rw[ab k,aj,aj,last x (by omega),ab k];rfl}};rw[aa (show(i:Int)<j.kids.length by omega),au,ki];simp only[Cn.nW];by_cases h0:i=0;{rw[cF,pS b (by omega),aa h0,au,bh];simp only[az]};{rw[cT,bB (dO (by rw[h2];simp;omega) (by rw[h2];simp;omega)),pS _ (by rw[h2];simp),ab h0,aj,h2];simp only[az]}
theorem cX.goal(n:Nat)(b:bD)(j:cQ)(hp:((decide (b.length+12*cQ.bL j<=4000000000000))&&decide ((cQ.bL j)<n+1))=true):cX.F n b j=some [.sl .bs (b++Cn.rq j)]:=by rw[af]at hp;have hb:=aq hp.1;have hn:=aq hp.2;have hk:=mE j;apply cX.bU;intro v1 h1 v2 h2 v3 h3 v4 h4;simp only[Cn.rq,Mem.of,Cn.wo];by_cases k1:j.kind=1;{rw[aa k1,au,ar k1,bB (dO (by simp;omega) (by simp;omega)),h1]};rw[ab k1,aj,ao k1];by_cases k2:j.kind=2;{rw[aa k2,au,ar k2,bB (dO (by simp;omega) (by simp;omega)),h2]};rw[ab k2,aj,ao k2];by_cases k3:j.kind=3;{rw[aa k3,au,ar k3,bB (dO (by simp;omega) (by simp;omega)),h3]};rw[ab k3,aj,ao k3];by_cases k4:j.kind=4;{rw[aa k4,au,ar k4,Pe]};rw[ab k4,aj,ao k4];by_cases k5:j.kind=5;{rw[aa k5,au,ar k5,iy,h4]};rw[ab k5,aj,ao k5];have go:∀x y:UInt8,cX.j1 n x y j b=some [.sl .bs (b++x::(Cn.nW (decide (j.kind=7)) true j.kids++[y]))]:=λx y=>by{apply cX.gM;intro w1 g1;rw[bB (dO (by simp;omega) (by simp;omega)),g1];have:=cX.jb n y j hn j.kids.length 0 (b++[x]) (by omega) (by rw[bf];simp;omega) (by omega);rw[bf,aa (rfl:0=0),az]at this;exact this};by_cases k6:j.kind=7;{rw[aa k6,au,au,au,go,aa k6]};{rw[ab k6,aj,aj,aj,go,ab k6]}
theorem gD(n:bD)(j:cQ):cQ.bL (Cn.one n j)=1+n.length+cQ.bL j:=by simp only[cQ.bL,Cn.one,Mem.of,Mem.bL,Mem.cr,aE];omega
theorem mr(n m:bD)(j k:cQ):cQ.bL (Cn.two n j m k)=1+n.length+m.length+cQ.bL j+cQ.bL k:=by simp only[cQ.bL,Cn.two,Mem.of,Mem.bL,Mem.cr,aE];omega
theorem iR(s:bD):cQ.bL (Cn.str s)=1+s.length:=by simp only[cQ.bL,Cn.str,Mem.of,Mem.bL,Mem.cr,aE];omega
theorem pW(v:Int)(h:Nr.i64 v=true):(Nr.itoa v).length<=21:=by have h:=aq h;rw[Nr.kt];have:=Nr.gY 20 v.natAbs (by rw[t20];omega) (by omega);split;{simp only[av];omega};{omega}
theorem Ct(v:Int)(h:Nr.i64 v=true):cQ.bL (Cn.num v)<=22:=by have:=pW v h;simp only[cQ.bL,Cn.num,Mem.of,Mem.bL,Mem.cr,aE];omega
theorem H8(h l:UInt64):(Cn.qa h l).length<=20001:=by
 have hx:=pM h l;have hc:=sK h l;have hd:=Nr.gY 34 _ (by rw[t34];exact hc) (by omega);have hl:=Ac (d:=Nr.dec (Cn.split h l).2.2.1.val) (x:=(Cn.split h l).2.2.2) (by omega) (by omega) (by omega);unfold Cn.qa;simp only;split;{simp}
 ·cases(Cn.split h l).2.1 with
  |true=>rw[au,av];split<;>simp<;>omega
  |false=>rw[aj];split<;>simp<;>omega
theorem Hn(v:Val):cQ.bL (Cn.mC v).1<=30000:=by have h1:=rA v.bits;have h2:=rA v.high;have h3:=rA v.low;have h4:=Sh.tg v.bits;have h5:=H8 v.high v.low;have i64:∀b,(Nr.itoa (Cn.i64 b)).length<=21:=λb=>pW _ (py _);have i32:∀b,(Nr.itoa (Cn.i32 b)).length<=21:=λb=>pW _ (py _);have n64:∀b,cQ.bL (Cn.num (Cn.i64 b))<=22:=λb=>Ct _ (py _);have a1:=i64 v.bits;have a2:=i32 v.bits;have a3:=n64 (cE v.bits 32);have a4:=n64 (v.bits&&&4294967295);unfold Cn.mC;split;{split<;>simp only[gD,iR,av,aE]<;>omega};split;{simp only[gD,iR,av,aE];omega};split;{simp only[gD,iR,av,aE];omega};split;{simp only[gD,iR,av,aE];omega};split;{simp only[gD,mr,av,aE];omega};split;{split<;>simp only[gD,iR,av,aE,ae]<;>omega};{decide}
theorem Ej(v:Val):cQ.bL (Cn.nq v)<=100+v.text.length+v.more.length+2*v.bytes.length:=by have h1:=DE v.bytes;unfold Cn.nq;split;{simp only[gD,mr,iR,lQ,av,aE];omega};split;{simp only[gD,mr,iR,lQ,av,aE];omega};split;{simp only[gD,mr,iR,lQ,av,aE];omega};split;{simp only[gD,mr,iR,lQ,av,aE];omega};split;{simp only[gD,mr,iR,lQ,av,aE];omega};split;{simp only[gD,mr,iR,lQ,av,aE];omega};{rw[iR];omega}
theorem ya(v:Val):cQ.bL (Cn.lx v)<=30000+v.text.length+v.more.length+2*v.bytes.length:=by have h1:=Hn v;have h2:=Ej v;have h3:=Ct 1 (aa (by decide));have k:∀x:Int,cQ.bL ⟨x,[],[]⟩=1:=λx=>by{simp only[cQ.bL,Mem.of,Mem.bL,Mem.cr,aE]};unfold Cn.lx;split;{rw[gD,k];simp only[av,aE];omega};split;{rw[k];omega};split;{rw[k];omega};split;{rw[gD];simp only[av,aE];omega};split;{rw[gD];simp only[av,aE];omega};split;{omega};{omega}
theorem rb:∀l:List Mem,Mem.cr (l.map Cn.pE)<=Mem.cr l
 |[]=>by simp
 |m::r=>by have:=rb r;have h:=wH m;have e:Mem.bL (Cn.pE m)=cQ.bL m.val:=rfl;simp only[bc,Mem.cr,e];omega
mutual
theorem H2:∀f:bJ,cQ.bL (Cn.oX f)+10*f.name.length<=40000*bJ.bL f
 |.mk n k b h l t m s y ks=>by
  have hk:=sR ks
  have hn:=rb (Cn.ja ks)
  have hl:=ya ⟨k,b,h,l,t,m,s,y,ks⟩
  have row:∀(x:Int)(ms:List Mem),cQ.bL ⟨x,[],ms⟩=1+Mem.cr ms:=fun x ms=>by simp only[cQ.bL,Mem.of,Mem.bL,aE]
  simp only[Cn.oX,bJ.bL,bJ.name]
  split
  ·cases Cn.mW ks<;>simp only[au,aj,gD,row,av,aE]<;>omega
  split
  ·cases Tree.regular ks<;>simp only[au,aj,gD,row,av,aE]<;>omega
  split
  ·simp only[mr,row,iR,av,aE];omega
  ·simp only at hl;omega
theorem sR:∀l:List bJ,Mem.cr (Cn.ja l)<=40000*bJ.cr l
 |[]=>by simp[Cn.ja,Mem.cr]
 |f::r=>by
  have h1:=H2 f
  have h2:=sR r
  have e:Mem.bL (Mem.of f.name (Cn.oX f))=f.name.length+cQ.bL (Cn.oX f):=by
   simp only[cQ.bL,Mem.of,Mem.bL,aE];omega
  simp only[Cn.ja,Mem.cr,bJ.cr,e];omega
end
theorem sU(v:Val):cQ.bL (Cn.lN v)<=1+40000*bJ.bL (bJ.of [] v):=by have h:=sR v.kids;have hk:bJ.cr v.kids+1<=bJ.bL (bJ.of [] v):=by{simp only[bJ.of,bJ.bL];omega};have row:∀(x:Int)(ms:List Mem),cQ.bL ⟨x,[],ms⟩=1+Mem.cr ms:=λx ms=>by{simp only[cQ.bL,Mem.of,Mem.bL,aE]};unfold Cn.lN Cn.ug;split;{rw[row];omega};{rw[row];simp only[Mem.cr];omega}
open Nr (Shape)
theorem Dl(c:Nat)(x:Int):∃a b fr ex e,Shape (Cn.laid (Nr.dec c) x) a b fr ex e/\Nr.num (a++b)=c/\Nr.sr e -(b.length:Int)=x:=by
 obtain⟨d1,d2,d3,_⟩:=Nr.lD c;generalize Nr.dec c=d at d1 d2 d3;have hl:=List.length_pos_iff.2 d3;unfold Cn.laid;simp only;by_cases c1:x=0;{rw[ar c1];exact⟨d,[],[],[],[],⟨by simp,d3,d1,.inl ⟨rfl,rfl⟩,rfl,.inl ⟨rfl,rfl⟩,rfl⟩,by rw[aK];exact d2,by rw[c1];rfl⟩};rw[ao c1];by_cases c2:x<0/\-6<=x+(d.length:Int) -1;{rw[ar c2];obtain⟨z,hz,z1,z2,z3⟩:∃z:bD,(if(d.length:Int)<=-x then List.replicate (1 -x -(d.length:Int)).toNat 48++d else d)=z/\z.all Nr.dA=true/\Nr.num z=c/\0<(z.length:Int)+x:=by{refine⟨_,rfl,?_⟩;by_cases k:(d.length:Int)<=-x;{rw[ar k];refine⟨?_,?_,?_⟩;{rw[List.all_append,d1,Bool.and_true,aC];intro y hy;rw[List.eq_of_mem_replicate hy];rfl};{rw[Nr.fJ,Nr.jV,d2];omega};{rw[ae,List.length_replicate];omega}};{rw[ao k];exact⟨d1,d2,by omega⟩}};rw[hz];obtain⟨k1,k2⟩:=Sh.qe z1 ((z.length:Int)+x).toNat;have l1:(z.take ((z.length:Int)+x).toNat).length=((z.length:Int)+x).toNat:=by{rw[aF];omega};have l2:(z.drop ((z.length:Int)+x).toNat).length=(-x).toNat:=by{rw[aR];omega};refine⟨z.take ((z.length:Int)+x).toNat,z.drop ((z.length:Int)+x).toNat,46::z.drop ((z.length:Int)+x).toNat,[],[],⟨by simp,?_,k2,.inr ⟨rfl,?_⟩,k1,.inl ⟨rfl,rfl⟩,rfl⟩,?_,?_⟩;{intro e;rw[e,aE]at l1;omega};{intro e;rw[e,aE]at l2;omega};{rw[List.take_append_drop];exact z2};{rw[l2,show Nr.sr []=0 from rfl];omega}}
 ·rw[ao c2];have t1:(d.take 1).all Nr.dA=true:=(Sh.qe d1 1).2;have t2:(d.drop 1).all Nr.dA=true:=(Sh.qe d1 1).1;have t3:d.take 1≠[]:=by{intro e;have:=congrArg List.length e;rw[aF,aE]at this;omega};have tl:(d.drop 1).length=d.length -1:=aR;obtain⟨ch,e,ee,e1,e2,e3,e5,e6,e7⟩:∃(ch:UInt8)(e s:bD),s=ch::e/\Nr.Kj ch=true/\Nr.signed e≠[]/\(Nr.signed e).all Nr.dA=true/\Nr.sr e=x+d.length -1/\
    (∀t:bD,(if x+(d.length:Int) -1<0 then t++[69,45]++Nr.itoa (-(x+(d.length:Int) -1))else t++[69,43]++Nr.itoa (x+(d.length:Int) -1))=t++s):=by
   by_cases k:x+(d.length:Int) -1<0
   {obtain⟨f1,f2⟩:=Sh.Dh (v:=-(x+(d.length:Int) -1)) (by omega);obtain⟨_,g1,_,g2⟩:=Sh.pq (v:=-(x+(d.length:Int) -1)) (by omega);exact⟨69,45::Nr.itoa (-(x+(d.length:Int) -1)),_,rfl,rfl,by rw[f2];exact g2,by rw[f2];exact g1,by rw[f1];omega,λt=>by rw[ar k,az];rfl⟩}
   {obtain⟨f1,f2⟩:=Sh.Dg (v:=x+(d.length:Int) -1) (by omega);obtain⟨_,g1,_,g2⟩:=Sh.pq (v:=x+(d.length:Int) -1) (by omega);exact⟨69,43::Nr.itoa (x+(d.length:Int) -1),_,rfl,rfl,by rw[f2];exact g2,by rw[f2];exact g1,by rw[f1],λt=>by rw[ao k,az];rfl⟩}
  rw[e7];by_cases k:1<(d.length:Int);{rw[ar k];refine⟨d.take 1,d.drop 1,46::d.drop 1,ee,e,⟨rfl,t3,t1,.inr ⟨rfl,?_⟩,t2,.inr ⟨ch,e2,e1,e3⟩,e5⟩,?_,?_⟩;{intro w;rw[w,aE]at tl;omega};{rw[List.take_append_drop];exact d2};{rw[e6,tl];omega}};{rw[ao k];refine⟨d.take 1,[],[],ee,e,⟨by rw[aK],t3,t1,.inl ⟨rfl,rfl⟩,rfl,.inr ⟨ch,e2,e1,e3⟩,e5⟩,?_,?_⟩;{rw[aK,List.take_of_length_le (by omega)];exact d2};{rw[e6,aE];omega}}
end Go.Eng
namespace Go.Eng
open Go.IntWalk
theorem YX(n:Int):IntKind.wrap .i32 n=(if n%4294967296>=2147483648 then n%4294967296 -4294967296 else n%4294967296):=by simp[IntKind.wrap,IntKind.bits,IntKind.signed]
theorem zA{v:Val}(h:Tree.own v=0):Tree.name v.kind≠[]/\Tree.ia v=true:=by
 unfold Tree.own at h;by_cases c:Tree.name v.kind=[];{rw[ar c]at h;exact absurd h (by decide)}
 ·rw[ao c]at h;refine⟨c,?_⟩;cases d:Tree.ia v with
  |true=>rfl
  |false=>rw[ar d]at h;exact absurd h (by decide)
theorem H3{v:Val}(h:Tree.ia v=true):(Tree.kI 0 v.kind=true\/v.bits=0)/\(Tree.kI 1 v.kind=true\/(v.high=0/\v.low=0))/\(Tree.kI 2 v.kind=true\/v.text=[])/\(Tree.kI 3 v.kind=true\/v.more=[])/\(Tree.kI 4 v.kind=true\/v.sub=0)/\(Tree.kI 5 v.kind=true\/v.bytes=[])/\(Tree.kI 6 v.kind=true\/v.kids=[])/\(v.kind=16->v.bits<4294967296)/\(v.kind=8->v.bits<2)/\0<=v.sub/\v.sub<=255:=by unfold Tree.ia at h;simp only[af,Bool.or_eq_true,aD,Bool.not_eq_true',decide_eq_false_iff_not]at h;obtain⟨⟨⟨⟨⟨⟨⟨⟨⟨⟨h0,h1⟩,h2⟩,h3⟩,h4⟩,h5⟩,h6⟩,h7⟩,h8⟩,h9⟩,_⟩:=h;exact⟨h0,h1,h2,h3,h4,h5,h6,λe=>h7.resolve_left (λw=>w e),λe=>h8.resolve_left (λw=>w e),h9.1,h9.2⟩
theorem jk.goal(b:UInt64):jk.F b=some [.i .i64 (Cn.i32 b)]:=by apply jk.bU;intro v1 h1 v2 h2;have e:IntKind.i32.wrap ((UInt32.ofInt ((b.toNat:Nat):Int)).toNat:Int)=IntKind.i32.wrap (b.toNat:Int):=by{have e1:=uK (b.toNat:Int);rw[wrap_u32']at e1;rw[e1,YX,YX];split<;>split<;>omega};rw[h2,h1,e];rfl
namespace Rl
theorem FX(n l:Int)(hn:Nr.i64 n=true)(hl:l<=10):(pad n l).length<=31:=by have:=pW n hn;unfold pad;rw[ae,List.length_replicate];omega
theorem zG(y m:Int):28<=month y m/\month y m<=31:=by unfold month;split;{omega};{split;{split<;>omega};{omega}}
theorem yN(y:Int):ahead (y+1)<=ahead y+366:=by unfold ahead;omega
theorem wh(d:Int)(h:0<=d):ahead (1970+d/366)<=d:=by unfold ahead;have h1:366*(d/366)<=d:=by{omega};generalize d/366=k at h1;by_cases c:k<=4;{by_cases c0:0<=k;{have:k=0\/k=1\/k=2\/k=3\/k=4:=by{omega};rcases this with rfl|rfl|rfl|rfl|rfl<;>omega};{omega}};{omega}
theorem wZ (d : Int) (hd : d ≤ 2932896) : ∀ (n : Nat) (y : Int), ahead y ≤ d → y ≤ 9999 → 9999 - y ≤ n → ahead (mJ d n y) ≤ d ∧ y ≤ mJ d n y ∧ mJ d n y ≤ 9999 ∧ d < ahead (mJ d n y + 1)
  | 0, y, h, h1, h2 => by
    have : y = 9999 := by omega
    subst this
    exact ⟨h, by simp [mJ], by simp [mJ], by simp only [mJ]; have : ahead (9999 + 1) = 2932897 := by decide
                                             omega⟩
  | n + 1, y, h, h1, h2 => by
    simp only [mJ]
    by_cases c : ahead (y + 1) ≤ d
    · rw [ar c]
      have : y ≠ 9999 := fun e => by
        subst e
        have : ahead (9999 + 1) = 2932897 := by decide
        omega
      obtain ⟨a1, a2, a3, a4⟩ := wZ d hd n (y + 1) c (by omega) (by omega)
      exact ⟨a1, by omega, a3, a4⟩
    · rw [ao c]; exact ⟨h, by omega, h1, by omega⟩
theorem Gw(y:Int):∀(n:Nat)(d m:Int),0<=d->d<28*n->0<=(uj y n d m).1/\(uj y n d m).1<=31/\m<=(uj y n d m).2/\(uj y n d m).2<=m+n
 |0,d,m,h,h1=>by omega
 |n+1,d,m,h,h1=>by have hm:=zG y m;simp only[uj];by_cases c:month y m<=d;{rw[ar c];obtain⟨a1,a2,a3,a4⟩:=Gw y n (d -month y m) (m+1) (by omega) (by omega);exact⟨a1,a2,by omega,by omega⟩};{rw[ao c];exact⟨h,by show d<=31;omega,by show m<=m;omega,by show m<=m+_;omega⟩}
def written(rest y:Int)(q:Int×Int):bD:=
 let s:=rest/1000
 let x:=pad y 4++[45]++pad q.2 2++[45]++pad (q.1+1) 2++[84]++pad (s/3600) 2++[58]++pad (s/60%60) 2++[58]++pad (s%60) 2
 cond (decide (rest%1000=0)) x (x++([46]++pad (rest%1000) 3))++[90]
end Rl
theorem jw.goal(y:Int)(hp:decide (0<=y/\y<=100000)=true):jw.F y=some [.b (Rl.tS y)]:=by obtain⟨h0,_⟩:=aq hp;apply jw.bU;intro v1 h1 v2 h2 v3 h3;rw[Int.tmod_eq_emod_of_nonneg h0]at h1 h2 h3⊢;rw[Int.tmod_eq_emod_of_nonneg h0]at h1 h2⊢;rw[h3,h2,h1];unfold Rl.tS;cases decide (y%4=0)<;>cases decide (y%100=0)<;>cases decide (y%400=0)<;>rfl
theorem jx.goal(y m:Int)(hp:decide (0<=y/\y<=100000)=true):jx.F y m=some [.i .i64 (Rl.month y m)]:=by apply jx.bU;intro v1 h1 v2 h2 v3 h3 v4 h4;rw[hp];have c1:∀b:Bool,(!(!b)||(!b))=true:=by{decide};have c2:∀b:Bool,(b||(!b))=true:=by{decide};have c3:∀b:Bool,(!b||(b&&true))=true:=by{decide};have c4:∀b:Bool,(!b||b)=true:=by{decide};rw[bB (c3 _),bB (c4 _),bB (c1 _),bB (c2 _),bB (c1 _),bB (c2 _),bB (c1 _),bB (c2 _)];have e4:v4=decide (m=4\/m=6\/m=9\/m=11):=by{rw[h4,h3,h2,Bool.decide_or,Bool.decide_or,Bool.decide_or];cases decide (m=4)<;>cases decide (m=6)<;>cases decide (m=9)<;>rfl};unfold Rl.month;rw[e4,h1];by_cases d:m=2;{subst d;rw[aa rfl,au,au,ao (by decide),ar rfl];cases Rl.tS y<;>rfl};{rw[ab d,aj,aj,aj,ao d];by_cases c:m=4\/m=6\/m=9\/m=11;{rw[aa c,ar c];rfl};{rw[ab c,ao c];rfl}}
theorem fB.bY(n:Nat)(hn:n<=10):∀(k:Nat)(s:bD),s.length<=100->n -s.length=k->fB.l1 (n:Int) s=some [.s (List.replicate k 48++s)]
 |0,s,hs,h=>by rw[fB.qD,cF];rfl
 |k+1,s,hs,h=>by rw[fB.qD,cT,bB (aa (by rw[ak];omega))];show fB.l1 (n:Int) (48::s)=_;rw[fB.bY n hn k (48::s) (by rw[av];omega) (by rw[av];omega),List.replicate_succ',az];rfl
theorem fB.goal(v n:Int)(hp:decide (0<=v/\v<=1000000/\0<=n/\n<=10)=true):fB.F v n=some [.s (Rl.pad v n)]:=by obtain⟨h1,h2,h3,h4⟩:=aq hp;obtain⟨a,rfl⟩:∃a:Nat,v=(a:Int):=⟨v.toNat,by omega⟩;obtain⟨k,rfl⟩:∃k:Nat,n=(k:Int):=⟨n.toNat,by omega⟩;apply fB.bU;intro v1 e1;have e:v1=Nr.itoa (a:Int):=by{rw[e1,qj,Nat.mod_eq_of_lt (by omega),Nr.kt,nO,Int.natAbs_natCast]};have hl:=Nr.gY 7 a (by show a<10000000;omega) (by omega);have hl:v1.length<=7:=by{rw[e,Nr.kt,nO,Int.natAbs_natCast];exact hl};rw[fB.bY k (by omega) (k -v1.length) v1 (by omega) rfl,e];unfold Rl.pad;rw[ah]
theorem bT.Rb(r y d m:Int)(hr:0<=r/\r<86400000)(hy:0<=y/\y<=100000)(hd:0<=d/\d<=400)(hm:0<=m/\m<=100)(c:¬Rl.month y m<=d):bT.l4 d r y m=some [.s (Rl.written r y (d,m)),.b true]:=by apply bT.pk;intro v1 h1 v2 h2 v3 h3 v4 h4 v5 h5 v6 h6 v7 h7 v8 h8 v9 h9 v10 iZ v11 lJ v12 mh kx sq kg tc kf so oD wO;rw[Int.tdiv_eq_ediv_of_nonneg hr.1,iw]at h7 h9 mh;rw[iw]at h5;have e7:v7=r/1000/3600:=by{omega};have e9:v9=r/1000/60:=by{omega};have t1:Int.tmod v9 60=r/1000/60%60:=by{rw[Int.tmod_eq_emod_of_nonneg (by omega),e9]};have t2:Int.tmod v12 60=r/1000%60:=by{rw[Int.tmod_eq_emod_of_nonneg (by omega),mh]};have t3:Int.tmod r 1000=r%1000:=Int.tmod_eq_emod_of_nonneg (by omega);rw[t1]at iZ⊢;rw[t2]at sq⊢;rw[t3]at so⊢;have p:∀n l:Int,0<=n/\n<=1000000/\l<=10->(Rl.pad n l).length<=31:=λn l h=>Rl.FX n l dT h.2.2;have p1:=p y 4 (by omega);have p2:=p m 2 (by omega);have p3:=p v5 2 (by omega);have p4:=p v7 2 (by omega);have p5:=p (r/1000/60%60) 2 (by omega);have p6:=p (r/1000%60) 2 (by omega);have p7:=p (r%1000) 3 (by omega);rw[<-iZ]at p5;rw[<-sq]at p6;rw[<-so]at p7;have l3:v3.length<=32:=by{rw[h3,ae];simp only[ak];omega};have l4:v4.length<=63:=by{rw[h4,ae];omega};have l6:v6.length<=95:=by{rw[h6];simp only[ae,ak];omega};have l8:v8.length<=127:=by{rw[h8];simp only[ae,ak];omega};have l11:v11.length<=159:=by{rw[lJ];simp only[ae,ak];omega};have Y7:kg.length<=191:=by{rw[tc];simp only[ae,ak];omega};have l16:oD.length<=223:=by{rw[wO];simp only[ae,ak];omega};have z:∀k:Int,k≠0->(!decide (k=0))=true:=λk h=>by{rw[ab h];rfl};rw[bB (aa hy),cF c,z 1000 (by decide),z 3600000 (by decide),z 60000 (by decide),z 60 (by decide)];simp only[bP,ae,ak];have Mj:kg=Rl.pad y 4++[45]++Rl.pad m 2++[45]++Rl.pad (d+1) 2++[84]++Rl.pad (r/1000/3600) 2++[58]++Rl.pad (r/1000/60%60) 2++[58]++Rl.pad (r/1000%60) 2:=by{rw[tc,sq,lJ,iZ,h8,h6,h4,h3,h5,e7]};rw[iy,iy,iy,iy,iy,iy,iy,iy,iy,iy,iy,iy,iy,iy,iy,iy];unfold Rl.written;by_cases k:r%1000=0;{rw[aa k,aG,aj,bT.OC,bB (aa (by simp only[ak];omega)),Mj];rfl};{rw[ab k,aL,au,bT.OC,iy,iy,iy,bB (aa (by simp only[ak];omega)),wO,az kg,so,Mj];rfl}
theorem bT.rr(r y:Int)(hr:0<=r/\r<86400000)(hy:0<=y/\y<=100000):∀(n:Nat)(d m:Int),0<=d->d<28*n->d<=400->0<=m->m+n<=50->bT.l4 d r y m=some [.s (Rl.written r y (Rl.uj y n d m)),.b true]
 |0,d,m,h,h1,_,_,_=>by omega
 |n+1,d,m,h,h1,h2,h3,h4=>by have hm:=Rl.zG y m;simp only[Rl.uj];by_cases c:Rl.month y m<=d;{rw[ar c];apply bT.pk;intro v1 h1' v2 Ky v3 _ v4 _ v5 _ v6 _ v7 _ v8 _ v9 _ v10 _ v11 _ v12 _ kx _ kg _ kf _ oD _;rw[bB (aa hy),cT c,bB (aa hy),h1',Ky,iw,iw];exact bT.rr r y hr hy n _ _ (by omega) (by omega) (by omega) (by omega) (by omega)};{rw[ao c];exact bT.Rb r y d m hr hy ⟨h,by omega⟩ ⟨h3,by omega⟩ c}
namespace Rl
theorem Fv{a b:Int}(h:a<=b):ahead a<=ahead b:=by unfold ahead;omega
theorem yO(y:Int):ahead (y+1)=ahead y+(if tS y=true then 366 else 365):=by have d4:(y -1)/4=y/4 -(if y%4=0 then 1 else 0):=by{split<;>omega};have d1:(y -1)/100=y/100 -(if y%100=0 then 1 else 0):=by{split<;>omega};have d2:(y -1)/400=y/400 -(if y%400=0 then 1 else 0):=by{split<;>omega};have i1:y%100=0->y%4=0:=by{omega};have i2:y%400=0->y%100=0:=by{omega};have e:tS y=true↔y%4=0/\(¬y%100=0\/y%400=0):=by{unfold tS;rw[af,Bool.or_eq_true,Bool.not_eq_true',decide_eq_true_iff,decide_eq_true_iff,decide_eq_false_iff_not]};unfold ahead;rw[show y+1 -1=y by omega,d4,d1,d2];generalize y/4=q4,y/100=q1,y/400=q2 at*;clear d4 d1 d2;by_cases c4:y%4=0;{rw[ar c4];by_cases c1:y%100=0;{rw[ar c1];by_cases c2:y%400=0;{rw[ar c2,ar (e.2 ⟨c4,.inr c2⟩)];omega};{rw[ao c2,ao (λw=>(e.1 w).2.elim (λh=>h c1) c2)];omega}};{rw[ao c1,ao (λw=>c1 (i2 w)),ar (e.2 ⟨c4,.inl c1⟩)];omega}};{rw[ao c4,ao (λw=>c4 (i1 w)),ao (λw=>c4 (i1 (i2 w))),ao (λw=>c4 (e.1 w).1)];omega}
end Rl
theorem bT.bY(D r Y:Int)(hr:0<=r/\r<86400000)(hY:Rl.ahead Y<=D/\D<Rl.ahead (Y+1)/\Y<=9999/\1970<=Y)(hD:0<=D/\D<=2932896):∀(n:Nat)(y d:Int),Y -y=n->1970<=y->Rl.ahead y+d=D->
  bT.l1 d r y 1=some [.s (Rl.written r Y (Rl.uj Y 20 (D -Rl.ahead Y) 1)),.b true]
 |0,y,d,h,hy,he=>by
  have:y=Y:=by{omega};subst this;have hn:=Rl.yO y;have hs:=Rl.yN y;have hd:d=D -Rl.ahead y:=by{omega};have fin:bT.j3 d r y 1=some [.s (Rl.written r y (Rl.uj y 20 (D -Rl.ahead y) 1)),.b true]:=by{rw[bT.CQ,<-hd];exact bT.rr r y hr (by omega) 20 d 1 (by omega) (by omega) (by omega) (by omega) (by omega)};rw[bT.qD];by_cases c:365<=d
  ·rw[cT c,iy];have hl:Rl.tS y=true:=by
    cases hl:Rl.tS y with
    |true=>rfl
    |false=>rw[hl,ao (by decide)]at hn;omega
   rw[hl,ar rfl]at hn;rw[hl,au];apply bT.ik;intro v1 _;rw[cT];exact fin
  {rw[cF c];exact fin}
 |n+1,y,d,h,hy,he=>by
  have hn:=Rl.yO y;have hm:=Rl.Fv (show y+1<=Y by omega);have ha:-719162<=Rl.ahead y:=by{unfold Rl.ahead;omega};rw[bT.qD];have step:∀k:Int,Rl.ahead (y+1)=Rl.ahead y+k->0<=k->k<=366->bT.j2 d r y 1 k=some [.s (Rl.written r Y (Rl.uj Y 20 (D -Rl.ahead Y) 1)),.b true]:=λk hk h1 h2=>by{apply bT.ik;intro v1 h1;rw[cF,h1,iw,iw];exact bT.bY D r Y hr hY hD n (y+1) (d -k) (by omega) (by omega) (by omega)};have c:365<=d:=by{by_cases q:Rl.tS y=true;{rw[ar q]at hn;omega};{rw[ao q]at hn;omega}};rw[cT c,iy];cases hl:Rl.tS y with
  |true=>rw[hl,ar rfl]at hn;rw[au];exact step 366 hn (by decide) (by decide)
  |false=>rw[hl,ao (by decide)]at hn;rw[aj];exact step 365 hn (by decide) (by decide)
theorem bT.goal(t:Int)(hp:Nr.i64 t=true):bT.F t=some [.s (Rl.date t).1,.b (Rl.date t).2]:=by have hi:=aq hp;apply bT.bU;intro v1 h1 v2 h2 v3 h3;have c1:∀b:Bool,(!(!b)||(!b))=true:=by{decide};have c2:∀b:Bool,(b||(!b))=true:=by{decide};rw[bB (c1 _),bB (c2 _),Rl.Gx];unfold Rl.Dt;have e1:v1=decide (t<0\/253402300799999<t):=by{rw[h1,Bool.decide_or];cases decide (t<0)<;>rfl};by_cases c:t<0\/253402300799999<t;{rw[e1,aa c,ar c];rfl};{rw[e1,cF c,ao c,bB (by decide),bB (by decide)];have e2:v2=t/86400000:=by{rw[h2,Int.tdiv_eq_ediv_of_nonneg (by omega),iw]};have e3:v3=t%86400000:=by{rw[h3,Int.tmod_eq_emod_of_nonneg (by omega)]};obtain⟨y1,y2,y3,y4⟩:=Rl.wZ (t/86400000) (by omega) 100000 (1970+t/86400000/366) (Rl.wh _ (by omega)) (by omega) (by omega);rw[e2,e3];have h0:Rl.ahead 1970=0:=by{decide};exact bT.bY (t/86400000) (t%86400000) _ (by omega) ⟨y1,y4,y3,by omega⟩ (by omega) _ 1970 (t/86400000) (Int.toNat_of_nonneg (by omega)).symm (by omega) (by omega)}
namespace Wq
def we(c:UInt8):bD:=if c=34\/c=92 then[92,c]else if c=8 then[92,98]else if c=12 then[92,102]else if c=10 then[92,110]else if c=13 then[92,114]else if c=9 then[92,116]else if c<32 then[92,117,48,48]++kv.text [c]else[c]
theorem NG:∀m,m<256->Cn.we (UInt8.ofNat m)=we (UInt8.ofNat m):=by decide+kernel
theorem KW(c:UInt8):Cn.we c=we c:=by have:=NG c.toNat c.toNat_lt;rwa[UInt8.ofNat_toNat]at this
end Wq
theorem cD.bY(s:bD)(hs:s.length<=1000000000000):∀(m i:Nat)(b:bD),i+m=s.length->b.length+6*m<=7000000000000->
  cD.l1 s (i:Int) b=some [.s (b++((s.drop i).flatMap Cn.we++[34])),.b true]
 |0,i,b,hi,hb=>by apply cD.bM;intro v1 h1 v2 h2 v3 h3 v4 h4 v5 h5 v6 h6 v7 h7 v8 h8 v9 h9 v10 iZ v11 lJ;rw[cF,bB (dO (by rw[lJ];simp;omega) (by rw[lJ];simp;omega)),lJ,aA (by omega)];rfl
 |m+1,i,b,hi,hb=>by
  apply cD.bM;intro v1 h1 v2 h2 v3 h3 v4 h4 v5 h5 v6 h6 v7 h7 v8 h8 v9 h9 v10 iZ v11 lJ;rw[ah]at h1;have next:∀e:bD,e=Wq.we v1->cD.j2 s (i:Int) (b++e)=some [.s (b++((s.drop i).flatMap Cn.we++[34])),.b true]:=λe he=>by apply cD.ik;intro w1 g1;have e1:w1=((i+1:Nat):Int):=by{rw[g1,iw];omega};have hl:=Bf v1;rw[Wq.KW,<-he]at hl;rw[e1,cD.bY s hs m (i+1) _ (by omega) (by rw[ae];omega),show s.drop i=v1::s.drop (i+1) by rw[h1];exact drop_cons (by omega) _,List.flatMap_cons,Wq.KW,<-he];simp only[az]
  have c3:∀c:Bool,(!(!c)||(!c))=true:=by{decide};have e2:v2=decide (v1=34\/v1=92):=by{rw[h2,Bool.decide_or];cases decide (v1=34)<;>rfl};have ap:∀x:bD,x.length<=6->dY (b.length+x.length) 1=true:=λx hx=>dO (by omega) (by omega);rw[cT,ki,bB (c3 _),BD,e2];by_cases k1:v1=34\/v1=92;{rw[cT k1,bB (ap _ (by rw[h3];simp))];exact next _ (by rw[h3];unfold Wq.we;rw[ar k1])};rw[cF k1];by_cases k2:v1=8;{rw[cT k2,bB (ap _ (by rw[h4];simp))];exact next _ (by rw[h4];unfold Wq.we;rw[ao k1,ar k2])};rw[cF k2];by_cases k3:v1=12;{rw[cT k3,bB (ap _ (by rw[h5];simp))];exact next _ (by rw[h5];unfold Wq.we;rw[ao k1,ao k2,ar k3])};rw[cF k3];by_cases k4:v1=10;{rw[cT k4,bB (ap _ (by rw[h6];simp))];exact next _ (by rw[h6];unfold Wq.we;rw[ao k1,ao k2,ao k3,ar k4])};rw[cF k4];by_cases k5:v1=13;{rw[cT k5,bB (ap _ (by rw[h7];simp))];exact next _ (by rw[h7];unfold Wq.we;rw[ao k1,ao k2,ao k3,ao k4,ar k5])};rw[cF k5];by_cases k6:v1=9;{rw[cT k6,bB (ap _ (by rw[h8];simp))];exact next _ (by rw[h8];unfold Wq.we;rw[ao k1,ao k2,ao k3,ao k4,ao k5,ar k6])};rw[cF k6];have hn:Wq.we v1=if v1<32 then[92,117,48,48]++kv.text [v1]else[v1]:=by{unfold Wq.we;rw[ao k1,ao k2,ao k3,ao k4,ao k5,ao k6]};by_cases k7:v1<32;{have l9:v9.length=b.length+4:=by{rw[h9,ae];rfl};have l10:v10.length=2:=by{rw[iZ,lQ];rfl};rw[cT k7,bB (ap _ (by decide)),bB (aa (by rw[ak];omega)),Pe,h9,az];exact next _ (by rw[hn,ar k7,iZ])};{rw[cF k7,bB (ap _ (by rw[ak];omega))];exact next _ (by rw[hn,ao k7])}
theorem cD.goal(s:bD)(hp:decide (s.length<=1000000000000)=true):cD.F s=some [.s (Cn.iT s),.b (dy.whole s)]:=by
 have h:=aq hp;apply cD.bU;intro v1 h1;rw[iy];unfold Cn.iT;cases hw:dy.whole s with
 |false=>rfl
 |true=>have:=cD.bY s h s.length 0 v1 (by omega) (by rw[h1,ak];omega);rw[bf,h1]at this;rw[aG,aj,au,h1];exact this
theorem b9.bY(n:Nat)(j:cQ)(hn:cQ.bL j<n+1):∀(m i:Nat)(b:bD),i+m=j.kids.length->b.length+12*Mem.cr (j.kids.drop i)+8<=2000000000000->Mem.cr j.kids<=83333333333->
  b9.l1 n (i:Int) j b=some [.sl .bs (cond (decide (j.kind=7)) 123 91::((b++Cn.nW (decide (j.kind=7)) (decide (i=0)) (j.kids.drop i))++[cond (decide (j.kind=7)) 125 93]))]
 |0,i,b,hi,hb,hq=>by apply b9.bM;intro v1 h1 v2 h2 v3 h3 v4 h4 v5 h5 v6 h6;rw[h1,ab (show¬((i:Int)<j.kids.length) by omega),aj,aA (by omega),h3,h4,h5,h6];have a1:∀c:UInt8,dY ([c].length+b.length) 1=true:=λc=>dO (by rw[ak];omega) (by rw[ak];omega);have a2:∀c d:UInt8,dY (([c]++b).length+[d].length) 1=true:=λc d=>dO (by rw[ae,ak,ak];omega) (by rw[ae,ak,ak];omega);rw[bB (a1 _),bB (a2 _ _),bB (a1 _),bB (a2 _ _)];cases decide (j.kind=7)<;>simp[Cn.nW]
 |m+1,i,b,hi,hb,hq=>by have hk:=mE j;have hlen:=nD j.kids;apply b9.bM;intro v1 h1 v2 h2 v3 h3 v4 h4 v5 h5 v6 h6;obtain⟨f,VH⟩:∃f,f=List.getD j.kids i (fF.fS .ml):=⟨_,rfl⟩;have hf:=xP (l:=j.kids) (i:=i) (by omega) (fF.fS .ml);rw[<-VH]at hf;have hd:=drop_cons (l:=j.kids) (i:=i) (by omega) (fF.fS .ml);rw[<-VH]at hd;have hv:=tO f;have hl:=yb f;have Zk:=mR f.name;rw[hd]at hb⊢;simp only[Mem.cr]at hb;have ix:bF (i:Int) j.kids.length=true:=dC (by omega) (by omega);have last:∀x:bD,x.length<=b.length+6*f.name.length+4->b9.j3 n (i:Int) j x=some [.sl .bs (cond (decide (j.kind=7)) 123 91::((x++(Cn.wo f++Cn.nW (decide (j.kind=7)) false (j.kids.drop (i+1))))++[cond (decide (j.kind=7)) 125 93]))]:=λx hx=>by{apply b9.nZ;intro w1 g1 w2 g2 w3 g3;rw[ah,<-VH]at g1;subst g1;have e3:w3=((i+1:Nat):Int):=by{rw[g3,iw];omega};have cc:((decide (12*cQ.bL (Mem.val w1)<=1000000000000))&&decide ((cQ.bL (Mem.val w1))<n))=true:=by{rw[af];exact⟨dT,dT⟩};rw[<-CJ]at g2⊢;rw[bB ix,bB cc,Pe,e3,g2,b9.bY n j hn m (i+1) _ (by omega) (by rw[ae];omega) hq,show decide (i+1=0)=false from dF,az x]};have pS:∀x:bD,x.length<=b.length+1->b9.j2 n (i:Int) j x=some [.sl .bs (cond (decide (j.kind=7)) 123 91::((x++(cond (decide (j.kind=7)) (Cn.iT f.name++[58]) []++(Cn.wo f++Cn.nW (decide (j.kind=7)) false (j.kids.drop (i+1)))))++[cond (decide (j.kind=7)) 125 93]))]:=λx hx=>by{apply b9.ik;intro w1 g1 w2 g2 w3 g3;rw[ah,<-VH]at g1;subst g1;by_cases k:j.kind=7;{have l2:w2.length=x.length+(Cn.iT w1.name).length:=by{rw[g2,ae]};rw[aa k,au,au,au,au,bB ix,iy,Pe,bB (dO (by rw[g3,ak];omega) (by rw[g3,ak];omega)),last _ (by rw[g3,ae,ak];omega),g2,g3,aa k];simp only[az,au]};{rw[ab k,aj,aj,aj,aj,last x (by omega),ab k];rfl}};rw[h1,aa (show(i:Int)<j.kids.length by omega),au];simp only[Cn.nW];by_cases h0:i=0;{rw[cF,pS b (by omega),aa h0,au,bh]};{rw[cT,bB (dO (by rw[h2];simp;omega) (by rw[h2];simp;omega)),pS _ (by rw[h2];simp),ab h0,aj,h2];simp only[az]}
theorem b9.goal(n:Nat)(j:cQ)(hp:(decide (12*cQ.bL j<=1000000000000)&&decide (cQ.bL j<n+1))=true):b9.F n j=some [.sl .bs (Cn.rq j)]:=by rw[af]at hp;have hb:=aq hp.1;have hn:=aq hp.2;have hk:=mE j;apply b9.bU;intro v1 h1 v2 h2 v3 h3;simp only[Cn.rq,Mem.of,Cn.wo];by_cases k1:j.kind=1;{rw[cT k1,ar k1,h1];rfl};rw[cF k1,ao k1];by_cases k2:j.kind=2;{rw[cT k2,ar k2,h2];rfl};rw[cF k2,ao k2];by_cases k3:j.kind=3;{rw[cT k3,ar k3,h3];rfl};rw[cF k3,ao k3];by_cases k4:j.kind=4;{rw[cT k4,ar k4,bB (uq (by omega))]};rw[cF k4,ao k4];have Zk:=mR j.text;by_cases k5:j.kind=5;{rw[cT k5,ar k5,iy,bB (uq (by omega))]};rw[cF k5,ao k5];have:=b9.bY n j hn j.kids.length 0 [] (by omega) (by rw[bf];show 0+_+8<=_;omega) (by omega);rw[bf,aa (rfl:0=0),bh]at this;exact this
theorem iC.goal(j:cQ)(hp:decide (12*cQ.bL j<=1000000000000)=true):iC.F j=some [.s (Cn.oH j),.i .i64 (Cn.iA j)]:=by have h:=aq hp;rw[iC.de,iy,bB hp];unfold Cn.oH;by_cases c:Cn.iA j=0;{rw[aa c,c];rfl};{rw[ab c];rfl}
theorem K5(x:Int)(s:bD)(hs:s.length<=200)(h1:-1000000<=x)(h2:x<=1000000):cN.j2 x s=some [.s (if x<0 then s++[69,45]++Nr.itoa (-x)else s++[69,43]++Nr.itoa x)]:=by apply cN.ik;intro w1 g1 w2 g2 w3 g3;have hi:∀v:Int,-1000000<=v->v<=1000000->Nr.i64 v=true/\(Nr.itoa v).length<=30:=λv a b=>by{refine⟨dT,?_⟩;rw[Nr.kt];have:=Nr.gY 20 v.natAbs (by rw[t20];omega) (by omega);split;{simp only[av];omega};{omega}};have ew:IntKind.i64.wrap (0 -x)=-x:=by{rw[iw];omega};rw[ew]at g1⊢;rw[g2,g3,g1];have a1:=hi (-x) (by omega) (by omega);have a2:=hi x (by omega) (by omega);by_cases c:x<0;{rw[cT c,ar c,bB (aa (by simp;omega)),bB a1.1,bB (aa (by simp;omega))]};{rw[cF c,ao c,bB (aa (by simp;omega)),bB a2.1,bB (aa (by simp;omega))]}
theorem cN.goal(h l:UInt64):cN.F h l=some [.s (Cn.qa h l)]:=by
 have hx:=pM h l;have hc:=sK h l;have hd:=Nr.gY 34 _ (by rw[t34];exact hc) (by omega);have hd1:=Nr.mZ (Cn.split h l).2.2.1.val;rw[cN.de];unfold Cn.qa;simp only;have key:∀t:bD,t.length<=1->cN.j1 (Cn.split h l).1 (Cn.split h l).2.2.2 t (Cn.split h l).2.2.1.high (Cn.split h l).2.2.1.low=some [.s (if(Cn.split h l).1=3 then[78,97,78]else t++(if(Cn.split h l).1=2 then[73,110,102,105,110,105,116,121]else Cn.laid (Nr.dec (Cn.split h l).2.2.1.val) (Cn.split h l).2.2.2))]:=by{intro t ht;apply cN.gM;intro v1 h1 v2 h2 v3 h3 v4 h4 v5 h5 v6 h6 v7 h7 v8 h8 v9 h9 v10 iZ v11 lJ v12 mh kx sq kg tc kf so;have e2:v2=Nr.dec (Cn.split h l).2.2.1.val:=h2;rw[<-e2]at hd hd1⊢;generalize(Cn.split h l).2.2.2=x at*;generalize(Cn.split h l).1=k at*;clear h2 e2;by_cases c1:k=3;{rw[cT c1,ar c1]};rw[cF c1,ao c1];by_cases c2:k=2;{rw[cT c2,ar c2,bB (aa (by simp;omega)),h1]};rw[cF c2,ao c2,ie,ie];have e3:v3=x+v2.length:=by{rw[h3,iw]};have e4:v4=x+v2.length -1:=by{rw[h4,e3,iw]};have e5:v5=decide (x<=0/\-6<=x+v2.length -1):=by{rw[h5,e4,Bool.decide_and,qG]};have e7:v7=1 -x -v2.length:=by{rw[h7,h6,i64_in (1 -x) (by omega),iw]};rw[e5];unfold Cn.laid;simp only;by_cases c0:x=0;{rw[cT,cT c0,ar c0,iy]};rw[ab c0,ao c0];by_cases c3:x<0/\-6<=x+v2.length -1;{have e8:v8++v2=if(v2.length:Int)<=-x then List.replicate (1 -x -v2.length).toNat 48++v2 else v2:=by{rw[h8,e7];split;{rfl};{rw[show(1 -x -(v2.length:Int)).toNat=0 by omega];rfl}};have l8:(v8++v2).length<=200/\-x<=(v8++v2).length:=by{rw[e8];split;{rw[ae,List.length_replicate];omega};{omega}};have m8:v8.length<=200:=by{have:=l8.1;rw[ae]at this;omega};have e9:v9=(v8++v2).length+x:=by{rw[h9,iw]};have g10:v10.length<=200:=by{rw[iZ,aF];omega};have g12:v12.length<=200:=by{rw[mh,aR];omega};have g11:v11.length<=300:=by{rw[lJ];simp;omega};rw[cT,aj,ar c3,iy,iy,yG,iy,bB (aa (by simp;omega)),yG,iy,lJ,iZ,mh,e9,e8];simp};{have g13:kx=v2.take 1:=sq;have g15:kf=v2.drop 1:=so;have l13:kx.length<=1:=by{rw[g13,aF];omega};have l15:kf.length<=100:=by{rw[g15,aR];omega};have Y7:kg.length<=3:=by{rw[tc];simp;omega};rw[cF,ao c3,yG,iy,e4];by_cases c4:(1:Int)<v2.length;{rw[cT c4,ar c4,bB (aa (by simp;omega)),yG,iy,K5 _ _ (by simp;omega) (by omega) (by omega),tc,g13,g15];split<;>simp};{rw[cF c4,ao c4,K5 _ _ (by simp;omega) (by omega) (by omega),g13];split<;>simp}}};cases(Cn.split h l).2.1 with
 |true=>rw[au,key [45] (by decide)];rfl
 |false=>rw[aj,key [] (by decide)];rfl
theorem jM.goal(s:bD):jM.F s=some [.ag (cQ.cells (Cn.str s))]:=jM.de s
theorem kR.goal(s:bD):kR.F s=some [.ag (cQ.cells (cQ.mk 4 s []))]:=kR.de s
theorem kQ.goal(l:List Mem):kQ.F l=some [.ag (cQ.cells (cQ.mk 7 [] l))]:=kQ.de l
theorem iX.goal(s:bD)(j:cQ):iX.F s j=some [.ag (cQ.cells (Cn.one s j))]:=by apply iX.bU;intro v1 h1;rw[h1];rfl
theorem kP.goal(s:bD)(j:cQ)(t:bD)(k:cQ):kP.F s j t k=some [.ag (cQ.cells (Cn.two s j t k))]:=by apply kP.bU;intro v1 h1;rw[h1];rfl
theorem jN.goal(v:UInt64):jN.F v=some [.s (Cn.high v)]:=by rw[jN.de,bB (by decide),bB (aa (by show 8<=_;decide))];rfl
theorem LM{b:UInt64}(h:(Nr.split b).1=2):((Nr.split b).2.2.2<=0)=(Sh.jP b<4845873199050653696):=by have hb:=b.toNat_lt;unfold Sh.jP;unfold Nr.split at h⊢;simp only at h⊢;by_cases c1:b.toNat/4503599627370496%2048=2047;{rw[ar c1]at h;split at h;{exact absurd (show(3:Int)=2 from h) (by decide)};{exact absurd (show(4:Int)=2 from h) (by decide)}};rw[ao c1];by_cases c2:b.toNat/4503599627370496%2048=0;{rw[ar c2]at h⊢;by_cases c3:b.toNat%4503599627370496=0;{rw[ao c1,ar c3]at h;exact absurd (show(1:Int)=2 from h) (by decide)};{rw[ao c3];exact propext ⟨λ_=>by omega,λ_=>(show(-1074:Int)<=0 by decide)⟩}};{rw[ao c2];exact propext ⟨λw=>by simp only at w;omega,λw=>by simp only;omega⟩}
theorem jv.goal(b:UInt64):jv.F b=some [.b (Rl.number b).2]:=by apply jv.bU;intro v1 h1;rw[Rl.rU];unfold Rl.qq;by_cases c2:(Nr.split b).1=2;{rw[aa c2,aG,aj,bB (aa (Nat.le_trans (Sh.tg b) (by decide))),nO,nO];show cond (decide (Nr.fC (Sh.text b)=2)) (some [TV.b true]) (some [TV.b (decide ((Nr.split b).2.2.2<=0))])=some [TV.b (decide (Sh.jP b<4845873199050653696)||decide (Nr.fC (Sh.text b)=2))];have e:decide ((Nr.split b).2.2.2<=0)=decide (Sh.jP b<4845873199050653696):=aT.2 (by rw[LM c2]);rw[e];cases decide (Sh.jP b<4845873199050653696)<;>cases decide (Nr.fC (Sh.text b)=2)<;>rfl};{rw[ab c2,aL,au,ie,ie,h1];by_cases c1:(Nr.split b).1=1;{rw[cT c1,ar c1]};{rw[cF c1,ao c1,ar c2]}}
theorem IZ(b:UInt64):decide ((Nr.split b).1=4)=decide (Sh.text b=[78,97,78]):=by refine aT.2 ⟨Sh.xg,λh=>?_⟩;have hk:=oE b;by_cases c12:(Nr.split b).1=1\/(Nr.split b).1=2;{have:=(Sh.back c12).2;rw[h]at this;exact absurd (by decide) this};{by_cases c4:(Nr.split b).1=4;{exact c4};{have c3:(Nr.split b).1=3:=by{omega};rw[Sh.rO]at h;unfold Sh.th Sh.sign at h;rw[ao c4,ar c3]at h;cases e:(Nr.split b).2.1<;>rw[e]at h<;>exact absurd h (by decide)}}
theorem gL.goal(b:UInt64):gL.F b=some [.ag (cQ.cells (Wq.Ss b))]:=by apply gL.bU;intro v1 h1 v2 h2 v3 h3;rw[ie,ie,h1,h2,h3,IZ,qG];unfold Wq.Ss Cn.mC;rw[ar rfl];cases(decide (Sh.text b=[78,97,78])&&!decide (b=9221120237041090560))<;>rfl
theorem EF{v:Val}{n:bD}(h:Tree.si v n=0):Tree.own v=0:=by unfold Tree.si at h;by_cases c:Tree.own v=0;{exact c};{rw[ar c]at h;exact(c h).elim}
theorem lV{n:bD}{k:Int}{b h l:UInt64}{t m:bD}{s:Int}{y:bD}{ks:List bJ}{p:List Int}(c:(Tree.fW (.mk n k b h l t m s y ks) p).2=0):Tree.own ⟨k,b,h,l,t,m,s,y,ks⟩=0/\(Tree.lj ks 0 p).2=0:=by rw[Tree.fW]at c;by_cases d:Tree.si ⟨k,b,h,l,t,m,s,y,ks⟩ n=0;{rw[ao (by simp[d])]at c;exact⟨EF d,c⟩};{rw[ar d]at c;exact(d c).elim}
theorem sY{f:bJ}{r:List bJ}{i:Nat}{p:List Int}(c:(Tree.lj (f::r) i p).2=0):(Tree.fW f (p++[(i:Int)])).2=0/\(Tree.lj r (i+1) p).2=0:=by rw[Tree.lj]at c;by_cases d:(Tree.fW f (p++[(i:Int)])).2=0;{rw[ao (by simp[d])]at c;exact⟨d,c⟩};{rw[ar d]at c;exact(d c).elim}
theorem D8:Tree.fj [] true=true:=by decide
mutual
theorem Ij:∀(f:bJ)(p q:List Int),(Tree.fW f p).2=0->(Tree.fW f q).2=0
 |.mk n k b h l t m s y ks,p,q,c=>by
  rw[Tree.fW]at c⊢
  by_cases d:Tree.si ⟨k,b,h,l,t,m,s,y,ks⟩ n=0
  ·rw[ao (by simp[d])]at c⊢
   exact vy ks 0 p q c
  ·rw[ar d]at c;exact(d c).elim
theorem vy:∀(l:List bJ)(i:Nat)(p q:List Int),(Tree.lj l i p).2=0->(Tree.lj l i q).2=0
 |[],_,_,_,_=>by simp[Tree.lj]
 |f::r,i,p,q,c=>by
  obtain⟨c1,c2⟩:=sY c
  have h1:=Ij f _ (q++[(i:Int)]) c1
  have h2:=vy r _ p q c2
  rw[Tree.lj,ao (by simp[h1])]
  exact h2
end
theorem Lu(f:bJ)(p q:List Int)(c:(Tree.fW f p).2=0):(Tree.fW (bJ.of [] f.val) q).2=0:=by cases f;obtain⟨o,c2⟩:=lV c;simp only[bJ.of,bJ.val,bJ.kind,bJ.bits,bJ.high,bJ.low,bJ.text,bJ.more,bJ.sub,bJ.bytes,bJ.kids];rw[Tree.fW];have:∀v:Val,Tree.own v=0->Tree.si v []=0:=λv h=>by{unfold Tree.si;rw[ao (by simp[h]),ao (by rw[D8];simp)]};rw[ao (by rw[this _ o];simp)];exact vy _ _ _ _ c2
theorem yC : ∀ {l : List bJ} {i j : Nat} {p : List Int} {f : bJ}, (Tree.lj l i p).2 = 0 → f = l.getD j (fF.fS .fl) → j < l.length → (Tree.fW (bJ.of [] f.val) []).2 = 0
  | [], _, _, _, _, _, _, h => by simp at h
  | g :: r, i, j, p, f, c, e, h => by
    obtain ⟨c1, c2⟩ := sY c
    cases j with
    | zero => obtain rfl : f = g := by simpa using e
              exact Lu _ _ _ c1
    | succ j => exact yC (l := r) (i := i + 1) (j := j) c2 (by simpa using e) (by simpa using h)
theorem KK(date:Int->bD×Bool)(f:bJ):Rl.qJ date (bJ.of [] f.val)=Rl.qJ date f:=by cases f;simp only[bJ.of,bJ.val,bJ.kind,bJ.bits,bJ.high,bJ.low,bJ.text,bJ.more,bJ.sub,bJ.bytes,bJ.kids,Rl.qJ]
theorem xL(b:UInt64):(Rl.number b).1.length<=281474976710656:=by rw[Rl.rU];unfold Rl.qq;have:=Sh.tg b;split;{simp};split;{simp};{exact Nat.le_trans this (by decide)}
namespace Rl
theorem BG(r y d m:Int)(hr:0<=r/\r<86400000)(hy:0<=y/\y<=100000)(hd:0<=d/\d<=400)(hm:0<=m/\m<=100):(written r y (d,m)).length<=300:=by have p:∀n l:Int,0<=n/\n<=1000000/\l<=10->(Rl.pad n l).length<=31:=λn l h=>Rl.FX n l dT h.2.2;have p1:=p y 4 (by omega);have p2:=p m 2 (by omega);have p3:=p (d+1) 2 (by omega);have p4:=p (r/1000/3600) 2 (by omega);have p5:=p (r/1000/60%60) 2 (by omega);have p6:=p (r/1000%60) 2 (by omega);have p7:=p (r%1000) 3 (by omega);unfold written;cases decide (r%1000=0)<;>simp only[au,aj,ae,ak]<;>omega
theorem K9(t:Int):(date t).1.length<=300:=by rw[Gx];unfold Dt;by_cases c:t<0\/253402300799999<t;{rw[ar c];simp};{rw[ao c];obtain⟨a1,a2,a3,a4⟩:=wZ (t/86400000) (by omega) 100000 (1970+t/86400000/366) (wh _ (by omega)) (by omega) (by omega);have hs:=yN (mJ (t/86400000) 100000 (1970+t/86400000/366));obtain⟨b1,b2,b3,b4⟩:=Gw (mJ (t/86400000) 100000 (1970+t/86400000/366)) 20 (t/86400000 -ahead (mJ (t/86400000) 100000 (1970+t/86400000/366))) 1 (by omega) (by omega);show(written (t%86400000) (mJ (t/86400000) 100000 (1970+t/86400000/366)) (uj (mJ (t/86400000) 100000 (1970+t/86400000/366)) 20 (t/86400000 -ahead (mJ (t/86400000) 100000 (1970+t/86400000/366))) 1)).length<=300;generalize uj (mJ (t/86400000) 100000 (1970+t/86400000/366)) 20 (t/86400000 -ahead (mJ (t/86400000) 100000 (1970+t/86400000/366))) 1=q at b1 b2 b3 b4⊢;obtain⟨q1,q2⟩:=q;simp only at b1 b2 b3 b4;exact BG (t%86400000) _ _ _ (by omega) (by omega) ⟨b1,by omega⟩ ⟨by omega,by omega⟩}
theorem xL(b:UInt64):(number b).1.length<=10000:=by rw[rU];unfold qq;have:=Sh.tg b;split;{simp};split;{simp};{exact Nat.le_trans this (by decide)}
end Rl
mutual
theorem H0:∀f:bJ,cQ.bL (Rl.qJ Rl.date f)+10*f.name.length<=40000*bJ.bL f
 |.mk n k b h l t m s y ks=>by
  have hk:=sQ ks
  have hn:=rb (Rl.nU Rl.date ks)
  have hl:=ya ⟨k,b,h,l,t,m,s,y,ks⟩
  have i64:=pW (Cn.i64 b) (py _)
  have i32:=pW (Cn.i32 b) (py _)
  have hd:=Rl.K9 (Cn.i64 b)
  have Vz:=Rl.xL b
  have num:∀s:bD,cQ.bL ⟨4,s,[]⟩=1+s.length:=fun s=>by simp only[cQ.bL,Mem.of,Mem.bL,Mem.cr,aE];omega
  have row:∀(x:Int)(ms:List Mem),cQ.bL ⟨x,[],ms⟩=1+Mem.cr ms:=fun x ms=>by simp only[cQ.bL,Mem.of,Mem.bL,aE]
  simp only[Rl.qJ,bJ.bL,bJ.name]
  split
  ·rw[num];omega
  split
  ·rw[num];omega
  split
  ·rw[num];omega
  split
  ·rw[gD,iR];simp only[av,aE];omega
  split
  ·cases Cn.mW ks<;>simp only[au,aj,gD,row,av,aE]<;>omega
  split
  ·cases Tree.regular ks<;>simp only[au,aj,gD,row,av,aE]<;>omega
  split
  ·simp only[mr,row,iR,av,aE];omega
  ·simp only at hl;omega
theorem sQ:∀l:List bJ,Mem.cr (Rl.nU Rl.date l)<=40000*bJ.cr l
 |[]=>by simp[Rl.nU,Mem.cr]
 |f::r=>by
  have h1:=H0 f
  have h2:=sQ r
  have e:Mem.bL (Mem.of f.name (Rl.qJ Rl.date f))=f.name.length+cQ.bL (Rl.qJ Rl.date f):=by
   simp only[cQ.bL,Mem.of,Mem.bL,aE];omega
  simp only[Rl.nU,Mem.cr,bJ.cr,e];omega
end
theorem EV(v:Val):cQ.bL (Rl.Kc Rl.date v)<=1+40000*bJ.bL (bJ.of [] v):=by have h:=sQ v.kids;have hk:bJ.cr v.kids+1<=bJ.bL (bJ.of [] v):=by{simp only[bJ.of,bJ.bL];omega};have row:∀(x:Int)(ms:List Mem),cQ.bL ⟨x,[],ms⟩=1+Mem.cr ms:=λx ms=>by{simp only[cQ.bL,Mem.of,Mem.bL,aE]};unfold Rl.Kc Rl.Rr;split;{rw[row];omega};{rw[row];simp only[Mem.cr];omega}
namespace Wq
def tN(e:Bool)(l:List bJ):List Mem:=cond e (Rl.nU Rl.date l) (Cn.ja l)
theorem Bi(e:Bool)(l:List bJ):doc e l=⟨7,[],tN e l⟩:=by cases e<;>rfl
theorem Cz(e:Bool):tN e []=[]:=by cases e<;>simp[tN,Rl.nU,Cn.ja]
theorem zH(e:Bool)(f:bJ)(r:List bJ):tN e (f::r)=Mem.of f.name (val e f.val)::tN e r:=by cases e;{show Cn.ja (f::r)=Mem.of f.name (Cn.oX (bJ.of [] f.val))::Cn.ja r;rw[Cn.ja,Da f];rfl};{show Rl.nU Rl.date (f::r)=Mem.of f.name (Rl.qJ Rl.date (bJ.of [] f.val))::Rl.nU Rl.date r;rw[Rl.nU,KK]}
theorem HG(e:Bool)(v:Val):cQ.bL (json e v)<=1+40000*bJ.bL (bJ.of [] v):=by cases e;{exact sU v};{exact EV v}
end Wq
theorem JD{l:List Mem}{m:Mem}{k:Nat}(h:l.length<=1000000000)(hk:k<=64):dY (l.length+[m].length) k=true:=by have:(l.length+1)*k<=1000000001*64:=Nat.mul_le_mul (by omega) hk;exact dO (Nat.le_trans this (by decide)) (by rw[ak];omega)
theorem cV.bY(n:Nat)(l:List bJ)(e:Bool)(hb:bJ.cr l<=1000000000)(hn:2*bJ.cr l<n)(hc:(Tree.lj l 0 []).2=0)(x3:Int)(x4:bD)(x7:List Mem):∀(m i:Nat)(acc:List Mem),i+m=l.length->acc.length=i->
  cV.l1 n l e (i:Int) x3 x4 7 [] x7 acc=some [.ag [.i .i64 7,.s [],.sl .ml (acc++Wq.tN e (l.drop i))]]
 |0,i,acc,hi,ha=>by apply cV.bM;intro v1 h1 v2 h2 v3 h3 v4 h4 v5 h5 v6 h6;rw[cF,aA (by omega),Wq.Cz,aK]
 |m+1,i,acc,hi,ha=>by
  have hlen:=p8 l;apply cV.bM;intro v1 h1 v2 h2 v3 h3 v4 h4 v5 h5 v6 h6;rw[ah]at h1;have hf:=E8 (l:=l) (i:=i) (by omega) (fF.fS .fl);rw[<-h1]at hf;have hv:=Bb v1;have e6:v6=((i+1:Nat):Int):=by{rw[h6,iw];omega};have cB:((decide (bJ.bL (bJ.of [] (bJ.val v1))<=1000000000)&&decide ((Tree.fW (bJ.of [] (bJ.val v1)) []).2=0))&&decide ((2*bJ.bL (bJ.of [] (bJ.val v1)))<n))=true:=by{rw[af,af];exact⟨⟨dT,aa (yC hc h1 (by omega))⟩,dT⟩};have e5:v5=[Mem.of v1.name (Wq.val e v1.val)]:=by{rw[h5,h2,h3,h4];rfl};rw[cT,ki,ki,bB cB,e5,bB (JD (by omega) (by decide)),e6,
   cV.bY n l e hb hn hc x3 x4 x7 m (i+1) _ (by omega) (by simp;omega),drop_cons (l:=l) (i:=i) (by omega) (fF.fS .fl),<-h1,Wq.zH,az]
  rfl
theorem cV.goal(n:Nat)(l:List bJ)(e:Bool)(hp:((decide (bJ.cr l<=1000000000)&&decide ((Tree.lj l 0 []).2=0))&&decide ((2*bJ.cr l+1)<n+1))=true):cV.F n l e=some [.ag (cQ.cells (Wq.doc e l))]:=by rw[af,af]at hp;have h1:=aq hp.1.1;have h2:=aq hp.1.2;have h3:=aq hp.2;rw[cV.de];have:=cV.bY n l e h1 (by omega) h2 0 [] [] l.length 0 [] (by omega) rfl;rw[bf,bh]at this;rw[Wq.Bi];exact this
theorem dz.bY(n:Nat)(e:Bool)(v:Val)(hb:bJ.cr v.kids<=1000000000)(hn:2*bJ.cr v.kids<n)(hc:(Tree.lj v.kids 0 []).2=0)(x3:Int)(x4:bD)(x7:List Mem):∀(m i:Nat)(acc:List Mem),i+m=v.kids.length->acc.length=i->
  dz.l1 n e (i:Int) v x3 x4 6 [] x7 acc=some [.ag [.i .i64 6,.s [],.sl .ml (acc++(Wq.tN e (v.kids.drop i)).map Cn.pE)]]
 |0,i,acc,hi,ha=>by apply dz.bM;intro v1 h1 v2 h2 v3 h3 v4 h4 v5 h5 v6 h6 v7 h7;rw[h1,cF,aA (by omega),Wq.Cz,bw,aK]
 |m+1,i,acc,hi,ha=>by
  have hlen:=p8 v.kids;apply dz.bM;intro v1 h1 v2 h2 v3 h3 v4 h4 v5 h5 v6 h6 v7 h7;rw[ah]at h2;have hf:=E8 (l:=v.kids) (i:=i) (by omega) (fF.fS .fl);rw[<-h2]at hf;have hv:=Bb v2;have e7:v7=((i+1:Nat):Int):=by{rw[h7,iw];omega};have cB:((decide (bJ.bL (bJ.of [] (bJ.val v2))<=1000000000)&&decide ((Tree.fW (bJ.of [] (bJ.val v2)) []).2=0))&&decide ((2*bJ.bL (bJ.of [] (bJ.val v2)))<n))=true:=by{rw[af,af];exact⟨⟨dT,aa (yC hc h2 (by omega))⟩,dT⟩};have e6:v6=[Mem.of [] (Wq.val e v2.val)]:=by{rw[h6,h3,h4,h5];rfl};rw[h1,cT,ki,bB cB,e6,bB (JD (by omega) (by decide)),e7,
   dz.bY n e v hb hn hc x3 x4 x7 m (i+1) _ (by omega) (by simp;omega),drop_cons (l:=v.kids) (i:=i) (by omega) (fF.fS .fl),<-h2,Wq.zH,az]
  rfl
theorem kV(e:Bool){v:Val}(h1:v.kind≠1)(h3:v.kind≠3)(h4:v.kind≠4)(h9:v.kind≠9)(so:v.kind≠15)(wO:v.kind≠16)(C1:v.kind≠18):Wq.val e v=Cn.lx v:=by cases e;{simp only[Wq.val,aj,bJ.of,Cn.oX,ao h3,ao h4,ao so]};{simp only[Wq.val,au,bJ.of,Rl.qJ,ao h3,ao h4,ao so,ao wO,ao C1];rw[ao (λw=>h1 w.1),ao (λw=>h9 w.1)]}
theorem pV{v:Val}{j:cQ}(h:Cn.mC v=(j,true))(k:v.kind≠6/\v.kind≠8/\v.kind≠10/\v.kind≠255/\v.kind≠127):Cn.lx v=j:=by unfold Cn.lx;rw[ao k.1,ao k.2.1,ao k.2.2.1,ao k.2.2.2.1,ao k.2.2.2.2,h];rfl
theorem wrap32(x:UInt64)(h:x.toNat<4294967296):Cn.num (Cn.i64 x)=⟨4,Nr.dec x.toNat,[]⟩:=by have e:Cn.i64 x=(x.toNat:Int):=iw;unfold Cn.num;rw[e,Nr.kt,nO,Int.natAbs_natCast]
theorem HD{v:Val}(h:Tree.own v=0)(k:v.kind=8):v.bits=0\/v.bits=1:=by unfold Tree.own at h;rw[k,ao (by decide)]at h;by_cases c:Tree.ia v=false;{rw[ar c]at h;exact absurd h (by decide)};{have c:Tree.ia v=true:=by{revert c;cases Tree.ia v<;>simp};unfold Tree.ia at c;simp only[af,k,decide_true,aG,Bool.false_or,aD]at c;have hb:v.bits<2:=by{have:=c;simp_all};have hb:v.bits.toNat<2:=aI.1 hb;rcases(show v.bits.toNat=0\/v.bits.toNat=1 by omega)with w|w;{exact .inl (aU.1 w)};{exact .inr (aU.1 w)}}
theorem dm.po(e:Bool)(s:bD)(x:Int)(j:cQ)(h:Nr.i64 x=true):dm.j2 e s x j=some [.ag (cQ.cells (cond e ⟨4,Nr.itoa x,[]⟩ (Cn.one s (Cn.str (Nr.itoa x)))))]:=by apply dm.ik;intro v1 h1 v2 h2;cases e;{rw[aj,aj,bB h,h2]};{rw[au,au,bB h,h1]}
theorem dm.goal(v:Val)(e:Bool)(hp:(decide (bJ.bL (bJ.of [] v)<=1000000000)&&decide ((Tree.fW (bJ.of [] v) []).2=0)&&Wq.Jo v)=true):dm.F v e=some [.ag (cQ.cells (Wq.val e v))]:=by
 rw[af,af]at hp;have hc:=aq hp.1.2;have hr:v.kind=6\/v.kind=8\/v.kind=9\/v.kind=10\/v.kind=16\/v.kind=18\/v.kind=19\/v.kind=127\/v.kind=255:=aq hp.2;apply dm.bU;intro v1 h1 v2 h2 v3 h3 v4 h4 v5 h5 v6 h6;have i2:Nr.i64 v2=true:=by{rw[h2];exact py _};by_cases k6:v.kind=6;{rw[cT k6,h1,kV e (by omega) (by omega) (by omega) (by omega) (by omega) (by omega) (by omega)];unfold Cn.lx;rw[ar k6]};rw[cF k6];by_cases k8:v.kind=8;{rw[cT k8,kV e (by omega) (by omega) (by omega) (by omega) (by omega) (by omega) (by omega)];unfold Cn.lx;rw[ao k6,ar k8];have:Tree.own v=0:=(lV hc).1;rcases HD this k8 with w|w<;>rw[w]<;>rfl};rw[cF k8];have e2:v2=Cn.i64 v.bits:=h2;by_cases k9:v.kind=9;{have hl:Cn.lx v=v6:=by{refine pV ?_ (by omega);unfold Cn.mC;rw[nO,ar k9,h6,h5,e2]};rw[cT k9,bB i2,ie,h3,e2];rw[e2]at i2;cases e;{simp only[aj,bB i2,Wq.val,bJ.of,Cn.oX];rw[nO,nO,nO];rw[show Cn.lx (Val.mk v.kind v.bits v.high v.low v.text v.more v.sub v.bytes v.kids)=v6 from hl]};{simp only[au,Wq.val,bJ.of,Rl.qJ];rw[nO,nO,ao (λw=>absurd w.1 (by omega))];by_cases d:(Rl.date (Cn.i64 v.bits)).2=true;{rw[d,au,ar ⟨k9,rfl⟩,h4,e2]};{have d':(Rl.date (Cn.i64 v.bits)).2=false:=by{revert d;cases(Rl.date (Cn.i64 v.bits)).2<;>simp};rw[d',aj,ao (by simp),nO,nO,nO,bB i2];rw[show Cn.lx (Val.mk v.kind v.bits v.high v.low v.text v.more v.sub v.bytes v.kids)=v6 from hl]}}};rw[cF k9];have j1:∀b:Bool,b=(decide (v.kind=16)||decide (v.kind=18))->∀j,dm.j1 e v.kind b v j=some [.ag (cQ.cells (Wq.val e v))]:=by
  intro b hb j;apply dm.gM;intro w1 g1 w2 g2 w3 g3 w4 g4 w5 g5 w6 g6 w7 g7 w8 g8 w9 g9;by_cases Gc:v.kind=16;{have:Wq.val e v=cond e ⟨4,Nr.itoa (Cn.i32 v.bits),[]⟩ (Cn.one [36,110,117,109,98,101,114,73,110,116] (Cn.str (Nr.itoa (Cn.i32 v.bits)))):=by{cases e;{simp only[Wq.val,aj,bJ.of,Cn.oX];rw[nO,nO,nO];refine pV (v:=v) ?_ (by omega);unfold Cn.mC;rw[nO,ao k9,ar Gc]};{simp only[Wq.val,au,bJ.of,Rl.qJ];rw[ar Gc]}};rw[hb,aa Gc,Bool.true_or,au,au,this];exact dm.po _ _ _ _ (py _)};by_cases R7:v.kind=18;{have:Wq.val e v=cond e ⟨4,Nr.itoa (Cn.i64 v.bits),[]⟩ (Cn.one [36,110,117,109,98,101,114,76,111,110,103] (Cn.str (Nr.itoa (Cn.i64 v.bits)))):=by{cases e;{simp only[Wq.val,aj,bJ.of,Cn.oX];rw[nO,nO,nO];refine pV (v:=v) ?_ (by omega);unfold Cn.mC;rw[nO,ao k9,ao Gc,ar R7]};{simp only[Wq.val,au,bJ.of,Rl.qJ];rw[ao Gc,ar R7]}};rw[hb,ab Gc,aa R7,Bool.false_or,au,aj,this,g1];exact dm.po _ _ _ _ (py _)};rw[hb,ab Gc,ab R7,Bool.false_or,aj,kV e (by omega) (by omega) (by omega) k9 (by omega) Gc R7];by_cases WC:v.kind=19
  ·have hl:Cn.lx v=if Cn.mS v.high v.low=true then w4 else w6:=by{refine pV ?_ (by omega);unfold Cn.mC;rw[nO,ao k9,ao Gc,ao R7,nO,ar WC,g4,g3,g6,g5];cases Cn.mS v.high v.low<;>rfl};rw[cT WC,hl,g2];cases Cn.mS v.high v.low with
   |true=>rw[au,ar rfl]
   |false=>rw[aj,ao (by decide),bB (aa (by show 16+16<=_;decide))]
  rw[cF WC];unfold Cn.lx;rw[ao k6,ao k8];have n1:Cn.num 1=⟨4,[49],[]⟩:=by{unfold Cn.num;rw[Nr.kt,ao (by decide),show Int.natAbs 1=1 from rfl,Nr.dec,ar (by decide)];rfl};by_cases Nj:v.kind=255;{rw[cT Nj,nO,ar Nj,g8,g7,n1]};rw[cF Nj];by_cases Qb:v.kind=127;{rw[cT Qb,nO,ao Nj,ar Qb,g9,g7,n1]};rw[cF Qb,pO];rfl
 by_cases Gc:v.kind=16;{rw[cT Gc];exact j1 _ (by rw[aa Gc];rfl) _};{rw[cF Gc];exact j1 _ (by rw[ab Gc,Bool.false_or]) _}
theorem JG{b:UInt64}(h:(Rl.number b).2=true):(Rl.number b).1=Sh.text b:=by rw[Rl.rU]at h⊢;unfold Rl.qq at h⊢;by_cases c1:(Nr.split b).1=1;{rw[ar c1]at h⊢;rw[Sh.rO];unfold Sh.th Sh.sign;have hs:(Nr.split b).2.1=false:=by{revert h;cases(Nr.split b).2.1<;>simp};rw[nO,nO,ar c1,hs];rfl};{rw[ao c1]at h⊢;by_cases c2:(Nr.split b).1=2;{rw[nO]};{rw[ar c2]at h;exact absurd h (by decide)}}
theorem JY{v:Val}(k:v.kind=1):Cn.lx v=Wq.Ss v.bits:=by refine pV ?_ (by omega);unfold Wq.Ss Cn.mC;rw[ar k,ar rfl];cases(decide (Sh.text v.bits=[78,97,78])&&!decide (v.bits=9221120237041090560))<;>rfl
theorem NI(l:List bJ):cond (cond (decide ((0:Int)<(l.length:Int))) (!decide ((l.getD 0 (fF.fS .fl)).name=[])) false) (decide (List.getD (l.getD 0 (fF.fS .fl)).name 0 0=36)) false=Cn.mW l:=by
 unfold Cn.mW;cases l with
 |nil=>rfl
 |cons f r=>
  rw[aa (by simp),au];show cond (!decide (f.name=[])) (decide (List.getD f.name 0 0=36)) false=decide (f.name.take 1=[36]);generalize f.name=s;cases s with
  |nil=>rfl
  |cons c t=>simp
theorem EJ{k:Int}(h:Tree.name k≠[]):k=127\/k=255\/(1<=k/\k<=19):=by unfold Tree.name at h;by_cases c1:k=127;{exact .inl c1};rw[ao c1]at h;by_cases c2:k=255;{exact .inr (.inl c2)};rw[ao c2]at h;by_cases c3:k<0\/20<=k;{rw[ar c3]at h;exact(h rfl).elim};by_cases c4:k=0;{subst c4;exact absurd (by decide) h};{exact .inr (.inr (by omega))}
theorem Wg(e:Bool){v:Val}(k:v.kind=3):Wq.val e v=cond (Cn.mW v.kids) (Cn.one [36,100,111,99,117,109,101,110,116] (Wq.doc e v.kids)) (Wq.doc e v.kids):=by rw[Wq.Bi];cases e;{simp only[Wq.val,aj,bJ.of,Cn.oX,Wq.tN];rw[ar k]};{simp only[Wq.val,au,bJ.of,Rl.qJ,Wq.tN];rw[nO,nO,ao (λw=>absurd w.1 (by omega)),ao (λw=>absurd w.1 (by omega)),ar k]}
theorem Wf(e:Bool){v:Val}(k:v.kind=4):Wq.val e v=cond (Tree.regular v.kids) ⟨6,[],(Wq.tN e v.kids).map Cn.pE⟩ (Cn.one [36,97,114,114,97,121] (Wq.doc e v.kids)):=by rw[Wq.Bi];cases e;{simp only[Wq.val,aj,bJ.of,Cn.oX,Wq.tN];rw[nO,ar k]};{simp only[Wq.val,au,bJ.of,Rl.qJ,Wq.tN];rw[nO,nO,ao (λw=>absurd w.1 (by omega)),ao (λw=>absurd w.1 (by omega)),nO,ar k]}
theorem SH(e:Bool){v:Val}(k:v.kind=15):Wq.val e v=Cn.two [36,99,111,100,101] (Cn.str v.text) [36,115,99,111,112,101] (Wq.doc e v.kids):=by rw[Wq.Bi];cases e;{simp only[Wq.val,aj,bJ.of,Cn.oX,Wq.tN];rw[nO,nO,ar k]};{simp only[Wq.val,au,bJ.of,Rl.qJ,Wq.tN];rw[nO,nO,ao (λw=>absurd w.1 (by omega)),ao (λw=>absurd w.1 (by omega)),nO,nO,ar k]}
theorem mT{v:Val}(k:v.kind=2\/v.kind=5\/v.kind=7\/v.kind=11\/v.kind=12\/v.kind=13\/v.kind=14):Cn.lx v=Cn.nq v:=by have h:Cn.mC v=(⟨0,[],[]⟩,false):=by{unfold Cn.mC;rw[nO,nO,nO,nO,nO,nO]};unfold Cn.lx;rw[nO,nO,nO,nO,nO,h];rfl
theorem HC{v:Val}(k:v.kind=17):Cn.lx v=Cn.one [36,116,105,109,101,115,116,97,109,112] (Cn.two [116] ⟨4,Nr.dec (cE v.bits 32).toNat,[]⟩ [105] ⟨4,Nr.dec (v.bits%4294967296).toNat,[]⟩):=by have hb:=v.bits.toNat_lt;have s:(cE v.bits 32).toNat=v.bits.toNat/4294967296:=eF ..;have m:v.bits&&&4294967295=v.bits%4294967296:=by{apply aU.1;rw[UInt64.toNat_and,UInt64.toNat_mod,show(4294967295:UInt64).toNat=2^32 -1 from rfl,Nat.and_two_pow_sub_one_eq_mod];rfl};have m2:(v.bits%4294967296).toNat<4294967296:=by{rw[UInt64.toNat_mod];exact Nat.mod_lt _ (by decide)};refine pV ?_ (by omega);unfold Cn.mC;rw[nO,nO,nO,nO,ar k,m,wrap32 _ m2,wrap32 _ (by rw[s];omega)]
theorem dz.goal(n:Nat)(v:Val)(e:Bool)(hp:((decide (bJ.bL (bJ.of [] v)<=1000000000)&&decide ((Tree.fW (bJ.of [] v) []).2=0))&&decide ((2*bJ.bL (bJ.of [] v))<n+1))=true):dz.F n v e=some [.ag (cQ.cells (Wq.val e v))]:=by
 have Ks:=(af _ _▸hp).1;rw[af,af]at hp;have hb:=aq hp.1.1;have hc:=aq hp.1.2;have hn:=aq hp.2;have hk:bJ.cr v.kids+v.bytes.length+1<=bJ.bL (bJ.of [] v):=by{simp only[bJ.of,bJ.bL];omega};have hlen:=p8 v.kids;have C0:(Tree.lj v.kids 0 []).2=0:=(lV hc).2;have ho:Tree.own v=0:=(lV hc).1;apply dz.bU;intro v1 h1 v2 h2 v3 h3 v4 h4 v5 h5 v6 h6 v7 h7 v8 h8 v9 h9 v10 iZ v11 lJ v12 mh kx sq kg tc kf so oD wO uF D4 o9 C1 sI Kz v20 HT v21 QZ v22 QY IF Yi v24 QX v25 VQ sv VP v27 Yh v28 VO L9 Uk;have cA:((decide (bJ.cr v.kids<=1000000000)&&decide ((Tree.lj v.kids 0 []).2=0))&&decide ((2*bJ.cr v.kids+1)<n))=true:=by{rw[af,af];exact⟨⟨dT,aa C0⟩,dT⟩};have cL:decide (v.bytes.length<=1099511627776)=true:=dT;by_cases k1:v.kind=1;{rw[cT k1,ie,ie,ie,h1,h2];have hl:=JY k1;cases e;{rw[aj,aj,<-hl];simp only[Wq.val,aj,bJ.of,Cn.oX];rw[nO,nO,nO]};{rw[au];simp only[Wq.val,au,bJ.of,Rl.qJ];rw[nO,nO];by_cases d:(Rl.number v.bits).2=true;{rw[d,au,ar ⟨k1,rfl⟩,JG d]};{have d':(Rl.number v.bits).2=false:=by{revert d;cases(Rl.number v.bits).2<;>simp};rw[d',aj,ao (by simp),ao (λw=>absurd w.1 (by omega)),nO,nO,nO,<-hl]}}};rw[cF k1];by_cases k2:v.kind=2;{rw[cT k2,kV e (by omega) (by omega) (by omega) (by omega) (by omega) (by omega) (by omega),mT (by omega)];unfold Cn.nq;rw[nO,nO,nO,nO,nO,nO]};rw[cF k2];by_cases k3:v.kind=3;{have ci:(!(decide ((0:Int)<v3))||((decide ((0:Int)<v3))&&(bF (0:Int) v.kids.length)))=true:=by{by_cases c:(0:Int)<v3;{rw[dC (by omega) (by omega)];cases decide ((0:Int)<v3)<;>rfl};{rw[ab c];rfl}};have c5:(!v5||(v5&&bF (0:Int) v.kids.length))=true:=by{by_cases c:(0:Int)<v3;{rw[dC (by omega) (by omega)];cases v5<;>rfl};{rw[h5,ab c];rfl}};have c6:(!v5||(v5&&bF (0:Int) (bJ.name v4).length))=true:=by{by_cases c:bJ.name v4=[];{rw[h5,aa c];cases decide ((0:Int)<v3)<;>rfl};{have:=List.length_pos_iff.2 c;rw[dC (by omega) (by omega)];cases v5<;>rfl}};have e7:v7=Cn.mW v.kids:=by{rw[h7,h6,h5,h4,h3];exact NI v.kids};rw[cT k3,ie,bB ci,ie,ie,ie,ie,ie,bB c5,ie,ie,bB c6,ie,ie,bB cA,bB cA,e7,Wg e k3,h8];cases Cn.mW v.kids<;>rfl};rw[cF k3];by_cases k4:v.kind=4
 ·rw[cT k4,iy,bB cA,h9,iZ,Wf e k4];cases Tree.regular v.kids with
  |false=>rfl
  |true=>rw[aG,aj,au];have:=dz.bY n e v (by omega) (by omega) C0 0 [] [] v.kids.length 0 [] (by omega) rfl;rw[bf,bh]at this;exact this
 rw[cF k4];by_cases k5:v.kind=5;{rw[cT k5,iy,bB (by rw[mh];rfl),kV e (by omega) (by omega) (by omega) (by omega) (by omega) (by omega) (by omega),mT (by omega),tc,sq,mh,lJ];unfold Cn.nq;rw[ar k5]};rw[cF k5];by_cases k7:v.kind=7;{rw[cT k7,bB cL,kV e (by omega) (by omega) (by omega) (by omega) (by omega) (by omega) (by omega),mT (by omega),wO,so];unfold Cn.nq;rw[ao k5,ar k7]};rw[cF k7];by_cases R8:v.kind=11;{rw[cT R8,kV e (by omega) (by omega) (by omega) (by omega) (by omega) (by omega) (by omega),mT (by omega),C1,D4];unfold Cn.nq;rw[ao k5,ao k7,ar R8]};rw[cF R8];by_cases TF:v.kind=12;{rw[cT TF,bB cL,kV e (by omega) (by omega) (by omega) (by omega) (by omega) (by omega) (by omega),mT (by omega),HT,Kz,wO,so];unfold Cn.nq;rw[ao k5,ao k7,ao R8,ar TF]};rw[cF TF];by_cases Vq:v.kind=13;{rw[cT Vq,kV e (by omega) (by omega) (by omega) (by omega) (by omega) (by omega) (by omega),mT (by omega),QZ];unfold Cn.nq;rw[ao k5,ao k7,ao R8,ao TF,ar Vq]};rw[cF Vq];by_cases WH:v.kind=14;{rw[cT WH,kV e (by omega) (by omega) (by omega) (by omega) (by omega) (by omega) (by omega),mT (by omega),QY];unfold Cn.nq;rw[ao k5,ao k7,ao R8,ao TF,ao Vq,ar WH]};rw[cF WH];by_cases WG:v.kind=15;{rw[cT WG,bB cA,SH e WG,Yi]};rw[cF WG];by_cases WE:v.kind=17;{rw[cT WE,bB (by decide),kV e (by omega) (by omega) (by omega) (by omega) (by omega) (by omega) (by omega),HC WE,Uk,VO,Yh,VP,VQ,QX];rfl};rw[cF WE,bB];rw[af];refine⟨Ks,?_⟩;have hn:Tree.name v.kind≠[]:=λw=>by{unfold Tree.own at ho;rw[ar w]at ho;exact absurd ho (by decide)};have:=EJ hn;exact dT
theorem iM.goal(v:Val)(e:Bool)(hp:(decide (bJ.bL (bJ.of [] v)<=1000000000))=true):iM.F v e=some [.ag (cQ.cells (Wq.json e v)),.ag [.i .i64 (Cn.fY v).2,.i .i64 0,.sl .is (Cn.fY v).1]]:=by have hb:=aq hp;have hk:bJ.cr v.kids+1<=bJ.bL (bJ.of [] v):=by{simp only[bJ.of,bJ.bL];omega};apply iM.bU;intro v1 h1 v2 h2;rw[iy];have hj:Wq.json e v=if(Cn.fY v).2=0 then Wq.doc e v.kids else⟨0,[],[]⟩:=by{cases e<;>rfl};rw[hj];by_cases c:(Tree.fW (bJ.of [] v) []).2=0;{rw[h2,aa c,aG,aj];by_cases k:v.kind=3;{have e:Cn.fY v=([],0):=by{unfold Cn.fY;rw[ao (by simp[c]),ar k]};have C0:(Tree.lj v.kids 0 []).2=0:=(lV c).2;rw[aa k,aG,aj,bB (by rw[af];exact⟨dT,aa C0⟩),e,ar rfl]};{have e:Cn.fY v=([],5):=by{unfold Cn.fY;rw[ao (by simp[c]),ao k]};rw[ab k,aL,au,e,ao (by decide)];rfl}};{have e:Cn.fY v=Tree.fW (bJ.of [] v) []:=by{unfold Cn.fY;rw[ar c]};rw[h2,ab c,aL,au,e,ao c,h1];rfl}
theorem z8{v:Val}(h:(Cn.fY v).2=0):Cn.fY v=([],0):=by unfold Cn.fY at h⊢;by_cases c:(Tree.fW (bJ.of [] v) []).2=0;{rw[ao (by simp[c])]at h⊢;by_cases k:v.kind=3;{rw[ar k]};{rw[ao k]at h;exact absurd h (by decide)}};{rw[ar c]at h;exact(c h).elim}
theorem ju.goal(v:Val)(e:Bool)(hp:(decide (bJ.bL (bJ.of [] v)<=100000))=true):ju.F v e=some [.s (Wq.text e v),.ag [.i .i64 (Cn.fY v).2,.i .i64 0,.sl .is (Cn.fY v).1]]:=by have hb:=aq hp;have hj:=Wq.HG e v;rw[ju.de,iy];unfold Wq.text;by_cases c:(Cn.fY v).2=0;{rw[aa c,aG,aj,ao (by simp[c]),iy,z8 c]};{rw[ab c,aL,au,ar c]}
theorem jR.goal(v:Val)(hp:(decide (bJ.bL (bJ.of [] v)<=100000))=true):jR.F v=some [.s (Cn.vK v),.ag [.i .i64 (Cn.lK v).2,.i .i64 0,.sl .is (Cn.lK v).1]]:=by have hb:=aq hp;have hj:=sU v;rw[jR.de,iy];unfold Cn.vK Cn.lK;by_cases c:(Cn.fY v).2=0;{rw[aa c,aG,aj,ao (by simp[c]),ao (by simp[c]),iy]};{rw[ab c,aL,au,ar c,ar c]}
theorem Nn(x:UInt8):((nP x ((4:UInt64)).toNat).toNat:Int).toNat=x.toNat/16:=by have:=x.toNat_lt;simp[nP,UInt8.toNat_ofNat'];omega
theorem Kl(x:UInt8):(((x&&&(15:UInt8))).toNat:Int).toNat=x.toNat%16:=by have:x.toNat&&&15=x.toNat%16:=Nat.and_two_pow_sub_one_eq_mod x.toNat 4;simp[UInt8.toNat_and,this];omega
theorem AZ(n:Nat)(h:n<16):bF (n:Int) (([48,49,50,51,52,53,54,55,56,57,97,98,99,100,101,102]:bD)).length=true:=by simp[bF];omega
theorem dE.bY(b:bD)(hb:b.length<=1099511627776):∀(m i:Nat)(acc:bD),i+m=b.length->acc.length=2*i->dE.l1 b (b.length:Int) i acc=some [.s (acc++kv.text (b.drop i))]:=by
 intro m;induction m with
 |zero=>intro i acc hi hl;apply dE.bM;intro v1 h1 v2 h2 v3 h3 v4 h4 v5 h5 v6 h6;rw[cF,aA (by omega)];simp[kv.text]
 |succ m ih=>intro i acc hi hl;apply dE.bM;intro v1 h1 v2 h2 v3 h3 v4 h4 v5 h5 v6 h6;rw[ah]at h1;have hx:=v1.toNat_lt;have e1:((v2.toNat:Nat):Int)=((v1.toNat/16:Nat):Int):=by{rw[h2];have:=Nn v1;omega};have e2:(((v1&&&(15:UInt8))).toNat:Int)=((v1.toNat%16:Nat):Int):=by{have:=Kl v1;omega};rw[e1,ah]at h3;rw[e2,ah]at h4;have e5:v5=acc++kv.two v1:=by{rw[h5,h3,h4];rfl};rw[cT,ki,e1,e2,bB (AZ _ (by omega)),bB (AZ _ (by omega)),bB (dO (by simp;omega) (by simp;omega)),e5,show v6=((i+1:Nat):Int) by rw[h6,iw];omega,ih _ _ (by omega) (by simp[kv.two,hl];omega),drop_cons (l:=b) (i:=i) (by omega) 0,<-h1,kv.text,az]
theorem dE.goal(b:bD)(hp:decide (b.length<=1099511627776)=true):dE.F b=some [.s (kv.text b)]:=by have hp:=aq hp;apply dE.bU;intro v1 h1 v2 h2;have e:sP (0:Int) v1 1=true:=by{rw[h1,iw,nC];unfold maxLen;omega};rw[e,bP,h2];exact dE.bY b hp b.length 0 [] (by omega) rfl
theorem eH.bY(b:bD)(hb:b.length<=1099511627776):∀(m i:Nat)(acc:bD),i+m=b.length->acc.length=2*i->eH.l1 b i acc=some [.s (acc++kv.text (b.drop i))]:=by
 intro m;induction m with
 |zero=>intro i acc hi hl;apply eH.bM;intro v1 h1 v2 h2 v3 h3 v4 h4 v5 h5;rw[cF,aA (by omega)];simp[kv.text]
 |succ m ih=>intro i acc hi hl;apply eH.bM;intro v1 h1 v2 h2 v3 h3 v4 h4 v5 h5;rw[ah]at h1;have hx:=v1.toNat_lt;have e1:(((v1/(16:UInt8))).toNat:Int)=((v1.toNat/16:Nat):Int):=by{simp[UInt8.toNat_div]};have e2:(((v1%(16:UInt8))).toNat:Int)=((v1.toNat%16:Nat):Int):=by{simp[UInt8.toNat_mod]};have e3:(!decide ((16:UInt8)=0))=true:=by{decide};rw[e1,ah]at h2;rw[e2,ah]at h3;have e5:v4=acc++kv.two v1:=by{rw[h4,h2,h3];rfl};rw[cT,ki,e3,bP,bP,e1,e2,bB (AZ _ (by omega)),bB (AZ _ (by omega)),bB (dO (by simp;omega) (by simp;omega)),ki,e5,show v5=((i+1:Nat):Int) by rw[h5,iw];omega,ih _ _ (by omega) (by simp[kv.two,hl];omega),drop_cons (l:=b) (i:=i) (by omega) 0,<-h1,kv.text,az]
theorem eH.goal(b:bD)(hp:decide (b.length<=1099511627776)=true):eH.F b=some [.s (kv.text b)]:=by have hp:=aq hp;rw[eH.de];exact eH.bY b hp b.length 0 [] (by omega) rfl
namespace Jp
theorem Lp{m:Mem}{r:List Mem}(h:Cn.ko (m::r)=0):dy.whole m.name=true/\Cn.rI m=0/\Cn.ko r=0:=by
 rw[Cn.ko]at h;cases e:dy.whole m.name with
 |false=>rw[ar e]at h;simp at h
 |true=>rw[ao (by simp[e])]at h;by_cases c:Cn.rI m≠0;{rw[ar c]at h;exact(c h).elim};{rw[ao c]at h;exact⟨rfl,Decidable.not_not.1 c,h⟩}
theorem Hw(m:Mem):Mem.of m.name m.val=m:=by cases m;rfl
end Jp
theorem cw.jb(n:Nat)(j:cQ)(hb:cQ.bL j<=1099511627776)(hn:cQ.bL j<n+1):∀(m i:Nat),i+m=j.kids.length->cw.l2 n (i:Int) j=some [.i .i64 (Cn.ko (j.kids.drop i))]
 |0,i,hi=>by apply cw.gU;intro v1 h1 v2 h2 v3 h3 v4 h4;rw[cF,aA (by omega)];simp[Cn.ko]
 |m+1,i,hi=>by
  have hk:=mE j;have hlen:=nD j.kids;apply cw.gU;intro v1 h1 v2 h2 v3 h3 v4 h4;rw[ah]at h2;have hf:=xP (l:=j.kids) (i:=i) (by omega) (fF.fS .ml);rw[<-h2]at hf;have hv:=wH v2;have Vz:=tO v2;have e4:v4=((i+1:Nat):Int):=by{rw[h4,iw];omega};have cc:((decide (cQ.bL (Mem.val v2)<=1099511627776))&&decide ((cQ.bL (Mem.val v2))<n))=true:=by{rw[af];exact⟨dT,dT⟩};have wN:bF (i:Int) j.kids.length=true:=dC (by omega) (by omega);rw[cT,wN,bP,iy,bP,cc,bP,e4,cw.jb n j hb hn m (i+1) (by omega),drop_cons (l:=j.kids) (i:=i) (by omega) (fF.fS .ml),<-h2,h3];simp only[Cn.ko];rw[Dx];cases hw:dy.whole v2.name with
  |false=>rw[ar rfl];rfl
  |true=>rw[ao (by simp),aG,aj];by_cases c:Cn.iA v2.val=0;{rw[aa c,aG,aj,ao (by simp[c])]};{rw[ab c,aL,au,ar c]}
theorem cw.bY(n:Nat)(j:cQ)(hb:cQ.bL j<=1099511627776)(hn:cQ.bL j<n+1):∀(m i:Nat),i+m=j.kids.length->cw.l1 n (i:Int) j=some [.i .i64 (if j.kind=6/\((j.kids.drop i).any λm=>!decide (m.name=[]))=true then 1 else if j.kind=4/\(Nr.fC j.text=0\/300<j.text.length)then 10 else if j.kind=5/\dy.whole j.text=false then 4 else Cn.ko j.kids)]:=by
 have hk:=mE j;have hlen:=nD j.kids;have fin:∀(i:Nat),(j.kind=6->j.kids.length<=i)->cw.l1 n (i:Int) j=some [.i .i64 (if j.kind=4/\(Nr.fC j.text=0\/300<j.text.length)then 10
   else if j.kind=5/\dy.whole j.text=false then 4
   else Cn.ko j.kids)]:=by
  intro i hi
  apply cw.bM
  intro v1 h1 v2 h2 v3 h3 v4 h4 v5 h5 v6 h6 v7 h7 v8 h8 v9 h9 v10 iZ
  have e2:v2=false:=by rw[h2];by_cases k:j.kind=6;{rw[ab (by have:=hi k;omega)];rfl};{rw[ab k];cases decide ((i:Int)<v1)<;>rfl}
  have ct:decide (j.text.length<=1099511627776)=true:=dT
  have ca:∀a:Bool,(!a||(a&&true))=true:=by decide
  have c8:(!(decide (j.kind=4))||((decide (j.kind=4))&&((decide (Nr.fC j.text=0))||v5)))=true:=by rw[h5];cases decide (j.kind=4)<;>cases decide (Nr.fC j.text=0)<;>rfl
  have e8:v8=decide (j.kind=4/\(Nr.fC j.text=0\/300<j.text.length)):=by have e6:decide ((300:Int)<v6)=decide (300<j.text.length):=aT.2 (by omega);rw[h8,h7,e6,Bool.decide_and,Bool.decide_or];cases decide (j.kind=4)<;>cases decide (Nr.fC j.text=0)<;>rfl
  have Bg:v10=decide (j.kind=5/\dy.whole j.text=false):=by rw[iZ,h9,Bool.decide_and];cases decide (j.kind=5)<;>cases dy.whole j.text<;>rfl
  rw[ct,e2,ie,ie,ie,aj,ie,bB (ca _),ie,ie,ie,ie,ie,bB c8,ie,e8]
  by_cases k1:j.kind=4/\(Nr.fC j.text=0\/300<j.text.length)
  {rw[cT k1,ar k1]}
  rw[cF k1,ao k1,ie,bB (ca _),ie,ie,Bg]
  by_cases k2:j.kind=5/\dy.whole j.text=false
  {rw[cT k2,ar k2]}
  rw[cF k2,ao k2]
  exact cw.jb n j hb hn j.kids.length 0 (by omega)
 intro m;induction m with
 |zero=>intro i hi;refine(fin i (λ_=>by omega)).trans ?_;rw[ao (show¬(j.kind=6/\((j.kids.drop i).any λm=>!decide (m.name=[]))=true) by rw[aA (by omega)];simp)]
 |succ m ih=>intro i hi;by_cases k:j.kind=6;{have ih:=ih (i+1) (by omega);apply cw.bM;intro v1 h1 v2 h2 v3 h3 v4 h4 v5 h5 v6 h6 v7 h7 v8 h8 v9 h9 v10 iZ;rw[ah]at h3;have e4:v4=((i+1:Nat):Int):=by{rw[h4,iw];omega};have e2:v2=true:=by{rw[h2,dT,aa k];rfl};rw[ie,ie,ie,e2,au,ki,e4,ih,drop_cons (l:=j.kids) (i:=i) (by omega) (fF.fS .ml),<-h3,List.any_cons];by_cases k2:v3.name=[];{rw[aa k2,aG,aj,Bool.false_or]};{rw[ab k2,aL,au,Bool.true_or,ar ⟨k,rfl⟩]}};{refine(fin i (λe=>(k e).elim)).trans ?_;rw[ao (show¬(j.kind=6/\((j.kids.drop i).any λm=>!decide (m.name=[]))=true) by rintro⟨e,_⟩;exact k e)]}
theorem cw.goal(n:Nat)(j:cQ)(hp:((decide (cQ.bL j<=1099511627776))&&decide ((cQ.bL j)<n+1))=true):cw.F n j=some [.i .i64 (Cn.iA j)]:=by rw[af]at hp;have hb:=aq hp.1;have hn:=aq hp.2;apply cw.bU;intro v1 h1 v2 h2 v3 h3 v4 h4 v5 h5 v6 h6 v7 h7 v8 h8;have e3:v3=decide (j.kind<1\/7<j.kind):=by{rw[h3,Bool.decide_or];cases decide (j.kind<1)<;>rfl};have e5:v5=decide (j.kids≠[]/\j.kind≠6/\j.kind≠7):=by{have:decide ((0:Int)<v4)=decide (j.kids≠[]):=aT.2 (by rw[h4];exact⟨λh e=>by rw[e]at h;exact absurd h (by simp),λh=>by have:=List.length_pos_iff.2 h;omega⟩);rw[h5,h2,this,Bool.decide_and,Bool.decide_and];simp only[ne_eq,decide_not];cases decide (j.kids=[])<;>cases decide (j.kind=6)<;>cases decide (j.kind=7)<;>rfl};have e7:v7=decide (j.text≠[]/\j.kind≠4/\j.kind≠5):=by{rw[h7,h1,Bool.decide_and,Bool.decide_and];simp only[ne_eq,decide_not];cases decide (j.text=[])<;>cases decide (j.kind=4)<;>cases decide (j.kind=5)<;>rfl};have key:=cw.bY n j hb hn j.kids.length 0 (by omega);have d1':(!(!v3)||(!v3&&(!(!v2)||(!v3&&!v2))))=true:=by{cases v3<;>cases v2<;>rfl};have d2:∀a:Bool,(!(!a)||!a)=true:=by{decide};have d3:(!(!(cond v3 true v5))||(!(cond v3 true v5)&&(!(!v1)||v6)))=true:=by{rw[h6];cases(cond v3 true v5)<;>cases v1<;>rfl};simp only[aS,bg,aX,bP,d1',d3,cc1,cc2,d2];have e8:v8=(decide (j.kind<1\/7<j.kind)||(decide (j.kids≠[]/\j.kind≠6/\j.kind≠7)||decide (j.text≠[]/\j.kind≠4/\j.kind≠5))):=by{rw[h8,e3,e5,e7];cases decide (j.kind<1\/7<j.kind)<;>cases decide (j.kids≠[]/\j.kind≠6/\j.kind≠7)<;>rfl};simp only[Cn.iA,Mem.of,Cn.rI];rw[e8];by_cases k1:j.kind<1\/7<j.kind;{rw[aa k1,Bool.true_or,au,ar k1]};rw[ab k1,Bool.false_or,ao k1];by_cases k2:j.kids≠[]/\j.kind≠6/\j.kind≠7;{rw[aa k2,Bool.true_or,au,ar k2]};rw[ab k2,Bool.false_or,ao k2];by_cases k3:j.text≠[]/\j.kind≠4/\j.kind≠5;{rw[cT k3,ar k3]};rw[cF k3,ao k3];exact key
end Go.Eng
namespace Go.Eng
open Go.Proofs
theorem ic.ok:KO 268 ic.c bC:=meets bH all_nil (.o) (fits λins=>by unfold ic.c;split;exact ic.goal _;trivial)
end Go.Eng
set_option maxRecDepth 100000
set_option maxHeartbeats 1000000
namespace Go.Eng
open Go.RowKit Go.Proofs
theorem Fl.Jq(a:Nat):Ieee.double.read (Fl.neg a)=(Ieee.double.read a).opposite:=by have e1:Fl.neg a%2^63=a%2^63:=by{unfold Fl.neg;rw[show 9223372036854775808=2^63 by decide,Nat.xor_mod_two_pow,Nat.mod_self,Nat.xor_zero]};have e2:(Fl.neg a/2^63%2==1)=!(a/2^63%2==1):=by{unfold Fl.neg;rw[show 9223372036854775808=2^63 by decide,Nat.xor_div_two_pow,Nat.div_self (by decide)];have:=Nat.xor_mod_two_pow (a:=a/2^63) (b:=1) (n:=1);rw[Nat.pow_one]at this;rw[this];rcases Nat.mod_two_eq_zero_or_one (a/2^63)with e|e<;>rw[e]<;>rfl};have h:Ieee.double.signWeight=2^63:=rfl;unfold Ieee.Format.read;rw[h];simp only[e1,e2];split;{rfl};{split;{rfl};{split<;>rfl}}
theorem Fl.W.neg{a:Nat}{x:Int}(h:Fl.W a x):Fl.W (Fl.neg a) (-x):=by show Fl.WD (Ieee.double.read (Fl.neg a)) (-x);rw[Fl.Jq];exact Fl.WD.opposite h
theorem ID{R:Reach}{w:World}{x:Nat}(hx:Fl.num x=true)(hR:∀b o,R b o->b<w.heap.size)(hG:GlOK cnGl R w):Calls Tryz.prog 268 #[.float .f64 x] w λe w'=>e=.returned (.float .f64 (Fl.nn x))/\Below w.heap.size w w':=by
 refine((ic.ok [.c (.float .f64 x)] [.c (.float .f64 (Fl.nn x))] ⟨hx,rfl⟩).2 w R [.float .f64 x] hR hG ⟨rfl,λi y v hy hv=>?_⟩ λi j v v' b hi=>(hi (by simp[bC])).elim).mono ?_
 ·cases i with
  |zero=>cases hy;cases hv;exact .sc rfl
  |succ i=>simp at hy
 ·rintro e w' ⟨y,R',pd,ys,rfl,hx,hr,ho⟩;refine⟨?_,hx.os,hx.tape,hx.output,hx.size,λk hk=>hx.heap k hk (by rintro⟨i,v,hm,_⟩;exact hm (by simp[bC]))⟩;congr 1;have hl:pd.length=1:=ho.len;have lU:=ho.rep;rw[ho.val];match pd,hl with
  |[y],_=>
   have lU:jf R' w' [.c (.float .f64 (Fl.nn x))] [y]:=lU;cases lU with
   |cons a _=>exact a.dN rfl
theorem YV{R:Reach}(b:Nat)(x m:Nat)(X M:Int)(w:World)(hc:w.cell? ⟨b,0,none⟩=some (.float .f64 m))(hX:Fl.W x X)(hM:Fl.W m M)(hXM:(X.natAbs:Int)<=M)(hB:M<=9007199254740992)(hR:∀b o,R b o->b<w.heap.size)(hG:GlOK cnGl R w):Calls Tryz.prog 270 #[.float .f64 x,.pointer (some ⟨b,0,none⟩)] w λe w'=>e=.returned (.bool true)/\Below w.heap.size w w':=by
 have hn:∀w:World,(Op.unary .neg (.float .f64 m)).run Tryz.prog w=.ok (.float .f64 (Fl.neg m)) w:=λw=>rfl;have h1:FloatKind.f64.format.order x (Fl.neg m)=some .gt\/FloatKind.f64.format.order x (Fl.neg m)=some .eq:=by{have e:FloatKind.f64.format.order x (Fl.neg m)=some (compare X (-M)):=Fl.me hX hM.neg;rw[e];rcases Int.lt_or_eq_of_le (show -M<=X by omega)with c|c;{rw[Int.compare_eq_gt.2 c];exact .inl rfl};{rw[<-c,Int.compare_eq_eq.2 rfl];exact .inr rfl}};have h2:FloatKind.f64.format.order x m=some .lt\/FloatKind.f64.format.order x m=some .eq:=by{have e:FloatKind.f64.format.order x m=some (compare X M):=Fl.me hX hM;rw[e];rcases Int.lt_or_eq_of_le (show X<=M by omega)with c|c;{rw[Int.compare_eq_lt.2 c];exact .inl rfl};{rw[<-c,Int.compare_eq_eq.2 rfl];exact .inr rfl}};have h3:FloatKind.f64.format.order x (Fl.nn x)=some .eq:=by{have e:FloatKind.f64.format.order x (Fl.nn x)=some (compare X X):=Fl.me hX (hX.nn (by omega));rw[e,Int.compare_eq_eq.2 rfl]};go_enter Tryz.func270,Tryz.ntmps270;rcases h1 with h1|h1<;>rcases h2 with h2|h2;all_goals
  go_wp2_with (go_at_call 268;refine(ID hX.num hR hG).mono ?_;rintro e w' ⟨rfl,hb⟩)
  go_ret
  exact⟨rfl,hb⟩
theorem C4{R:Reach}{w w':World}(hR:∀b o,R b o->b<w.heap.size)(h:Below w.heap.size w w')(hG:GlOK cnGl R w):GlOK cnGl R w':=hG.dX (Am (io:=λ_=>False) hR h).dX
theorem wh2{R:Reach}(z:Cx)(m:Nat)(X Y M:Int)(w:World)(hZ:Gz.Is z X Y)(hM:Fl.W m M)(hX:(X.natAbs:Int)<=M)(hY:(Y.natAbs:Int)<=M)(hB:M<=9007199254740992)(hR:∀b o,R b o->b<w.heap.size)(hG:GlOK cnGl R w):Calls Tryz.prog 264 #[.complex .f64 z.1 z.2,.float .f64 m] w λe w'=>e=.returned (.bool true)/\Below w.heap.size w w':=by have hmf:∀(fn:Fn)(first cap:Array Value)(w:World),(Instr.makeFunc fn first cap).run Tryz.prog w=.ok (.func fn first cap) w:=λ_ _ _ _=>rfl;have Nw:Below w.heap.size w (w.alloc (.cells #[.float .f64 m] 283)):=(Below.refl _ _).alloc (Nat.le_refl _) _;have Mh:(w.alloc (.cells #[.float .f64 m] 283)).cell? ⟨w.heap.size,0,none⟩=some (.float .f64 m):=by{rw[World.cell?_alloc_at _ _ _ _ rfl];rfl};have Ko:(w.alloc (.cells #[.float .f64 m] 283)).heap.size=w.heap.size+1:=Array.size_push ..;have hre:∀(a:Array TypeId)(b:TypeId)(p q:Nat)(w:World),(Builtin.real_ a b #[.complex .f64 p q]).run Tryz.prog w=.ok (.float .f64 p) w:=λ_ _ _ _ _=>rfl;have him:∀(a:Array TypeId)(b:TypeId)(p q:Nat)(w:World),(Builtin.imag_ a b #[.complex .f64 p q]).run Tryz.prog w=.ok (.float .f64 q) w:=λ_ _ _ _ _=>rfl;have X7:∀b o,R b o->b<(w.alloc (.cells #[.float .f64 m] 283)).heap.size:=λb o h=>by{have:=hR b o h;omega};go_enter Tryz.func264,Tryz.ntmps264;have ZV:=C4 hR Nw hG;go_wp2_with (go_at_call 270;refine(YV (R:=R) w.heap.size z.1 m X M (w.alloc (.cells #[.float .f64 m] 283)) Mh hZ.1 hM hX hB X7 ZV).mono ?Xm;rintro e w2 ⟨rfl,D2⟩);have E1:w2.cell? ⟨w.heap.size,0,none⟩=some (.float .f64 m):=by{simp only[World.cell?,D2.block w.heap.size (by omega)];exact Mh};have hR2:∀b o,R b o->b<w2.heap.size:=λb o h=>Nat.lt_of_lt_of_le (X7 b o h) D2.size;refine(YV (R:=R) w.heap.size z.2 m Y M w2 E1 hZ.2 hM hY hB hR2 (C4 X7 D2 ZV)).mono ?_;rintro e w3 ⟨rfl,Sk⟩;go_wp2;go_ret;refine⟨rfl,?_⟩;exact⟨Sk.os.trans (D2.os.trans Nw.os),Sk.tape.trans (D2.tape.trans Nw.tape),Sk.output.trans (D2.output.trans Nw.output),by have:=Sk.size;have:=D2.size;omega,λk hk=>(Sk.block k (by have:=D2.size;omega)).trans ((D2.block k (by omega)).trans (Nw.block k hk))⟩
theorem mG.ok:KO 264 mG.c bC:=jG (by kernel_rfl) λti np w R xs hc ha hR hG=>by unfold mG.c at hc;split at hc;{rename_i p q m;obtain⟨hp,rfl⟩:=hc;obtain rfl:=lM ha rfl;unfold Gz.Qi at hp;classical obtain⟨X,Y,M,h1,h2,h3,h4,h5⟩:=aq hp;refine(wh2 (p,q) m X Y M w h1 h2 h3 h4 h5 hR hG).mono ?_;rintro e w' ⟨rfl,hb⟩;exact⟨_,rfl,hb,λR w'=>qU (.sc rfl)⟩};{exact hc.elim}
end Go.Eng
namespace Go.Eng
open Go.IntWalk
theorem fM.goal(s:bD)(c:UInt8):fM.F s c=some [.i .i64 (Lib.indexByte s c)]:=fM.de s c
theorem jq.goal(s t:bD)(hp:decide (t.length=1)=true):jq.F s t=some [.i .i64 (Lib.indexByte s (t.getD 0 0))]:=by
 have hl:t.length=1:=aq hp;refine jq.bU s t ?_;intro v1 h1 v2 h2;have e0:decide ((t.length:Int)=0)=false:=dF;have e1:decide ((t.length:Int)=1)=true:=dT;rw[e0]at h1⊢;simp only[aL,aG,Bool.false_or,aX,bP,aj]at h1⊢;by_cases hs:t=s
 ·subst hs;rw[h1,cT rfl];obtain⟨c,rfl⟩:∃c,t=[c]:=by
   match t,hl with
   |[c],_=>exact⟨c,rfl⟩
  simp[Lib.indexByte]
 {rw[h1,cF hs,e1,au,ki,h2];rfl}
theorem jm.goal(s t:bD)(hp:decide (t.length=1)=true):jm.F s t=some [.i .i64 (Lib.indexByte s (t.getD 0 0))]:=by refine jm.bU s t ?_;intro v1 h1;rw[bB hp,h1]
theorem gg.goal(s t:bD)(hp:decide (t.length=1)=true):gg.F s t=some [.b (decide (0<=Lib.indexByte s (t.getD 0 0)))]:=by refine gg.bU s t ?_;intro v1 h1;rw[bB hp,h1]
theorem jg.goal(k:Int):jg.F k=some [.s (Tree.name k)]:=by refine jg.bU k ?_;intro v1 h1 v2 h2;unfold Tree.name;by_cases a:k=127;{rw[ar a,aa a];rfl};{rw[ao a,cF a];by_cases b:k=255;{rw[ar b,aa b];rfl};{rw[ao b,cF b];simp only[aS,bg,bP];by_cases c:k<0\/20<=k;{rw[ar c,show v1=true by rw[h1];by_cases d:k<0<;>simp[d];omega];rfl};{rw[ao c,show v1=false by rw[h1];by_cases d:k<0<;>simp[d]<;>omega,aj,ki,bB (by simp;omega),h2];rfl}}}
theorem gT.goal:gT.F=some [.sl .is Tree.kinds]:=by refine gT.bU ?_;intro v1 h1;rw[h1];rfl
def zw(k:Int):List Int->List bD->bD
 |a::ks,s::ss=>if a=k then s else zw k ks ss
 |_,_=>[]
theorem dh.bY(k:Int)(ss:List bD)(ks:List Int)(hl:ss.length=ks.length)(hb:ks.length<=1000):∀(m i:Nat),i+m=ks.length->dh.l1 k ss ks i=some [.s (zw k (ks.drop i) (ss.drop i))]:=by
 intro m;induction m with
 |zero=>intro i hi;apply dh.bM;intro v1 h1 v2 h2 v3 h3;rw[cF,aA (by omega)];rfl
 |succ m ih=>intro i hi;apply dh.bM;intro v1 h1 v2 h2 v3 h3;rw[ah]at h1 h2;rw[cT,ki,drop_cons (l:=ks) (i:=i) (by omega) 0,drop_cons (l:=ss) (i:=i) (by omega) [],zw,<-h1,<-h2];by_cases h:v1=k;{rw[ar h,cT h,ki,iy]};{rw[ao h,cF h,show v3=((i+1:Nat):Int) by rw[h3,iw];omega,ih _ (by omega)]}
theorem Tree.Hs(k:Int)(h:k∉Tree.kinds):Tree.name k=[]:=by simp only[Tree.kinds,aP,List.not_mem_nil,not_or]at h;unfold Tree.name;rw[nO,nO];by_cases c:k<0\/20<=k;{rw[ar c]};{have:k=0:=by{omega};subst this;rfl}
theorem xI(k:Int):∀(ks:List Int)(ss:List bD),k∉ks->zw k ks ss=[]
 |[],_,_=>rfl
 |_::_,[],_=>rfl
 |a::ks,s::ss,h=>by rw[zw,ao (λe=>h (by rw[e];exact List.mem_cons_self ..))];exact xI k ks ss λhm=>h (List.mem_cons_of_mem _ hm)
theorem dh.goal(k:Int):dh.F k=some [.s (Tree.name k)]:=by refine dh.bU k ?_;intro v1 h1;rw[show(0:Int)=((0:Nat):Int) from rfl,dh.bY k v1 Tree.kinds (by rw[h1];rfl) (by decide) 21 0 (by decide)];by_cases h:k∈Tree.kinds;{have key:∀k∈Tree.kinds,zw k (Tree.kinds.drop 0) (v1.drop 0)=Tree.name k:=by{rw[h1];decide+kernel};rw[key k h]};{rw[Tree.Hs k h,xI _ _ _ (by simpa using h)]}
theorem bS.goal(k:Int):bS.F k=some [.b (Tree.kI 0 k),.b (Tree.kI 1 k),.b (Tree.kI 2 k),.b (Tree.kI 3 k),.b (Tree.kI 4 k),.b (Tree.kI 5 k),.b (Tree.kI 6 k)]:=by have key:∀k,k∈Tree.kinds\/k∉Tree.kinds:=λk=>Decidable.em _;simp only[bS.de,bS.mF,bS.kn,bS.CQ,bS.sD,Tree.kI];by_cases a1:k=1;{subst a1;rfl};by_cases a2:k=2;{subst a2;rfl};by_cases a3:k=3;{subst a3;rfl};by_cases a4:k=4;{subst a4;rfl};by_cases a5:k=5;{subst a5;rfl};by_cases a7:k=7;{subst a7;rfl};by_cases a8:k=8;{subst a8;rfl};by_cases a9:k=9;{subst a9;rfl};by_cases UQ:k=11;{subst UQ;rfl};by_cases a12:k=12;{subst a12;rfl};by_cases UO:k=13;{subst UO;rfl};by_cases UN:k=14;{subst UN;rfl};by_cases UM:k=15;{subst UM;rfl};by_cases UL:k=16;{subst UL;rfl};by_cases UK:k=17;{subst UK;rfl};by_cases UJ:k=18;{subst UJ;rfl};by_cases UI:k=19;{subst UI;rfl};simp[a1,a2,a3,a4,a5,a7,a8,a9,UQ,a12,UO,UN,UM,UL,UK,UJ,UI]
theorem oS(c:UInt8):∀s:bD,decide (0<=Lib.indexByte s c)=s.contains c
 |[]=>by simp[Lib.indexByte]
 |b::l=>by have ih:=oS c l;have Ku:=Lib.indexByte_ge l c;rw[List.contains_cons,<-ih];rw[Lib.indexByte];by_cases h:b=c;{subst h;simp};{rw[ao (by simpa using h),show(c==b)=false by rw[beq_eq_false_iff_ne];exact λe=>h e.symm,Bool.false_or];by_cases h1:Lib.indexByte l c=-1;{rw[h1];rfl};{rw[ao (by simpa using h1),dT,dT]}}
theorem gI.goal(s:bD)(plain:Bool)(hp:decide (s.length<=1099511627776)=true):gI.F s plain=some [.b (Tree.fj s plain)]:=by have e:decide (0<=Lib.indexByte s (([0]:bD).getD 0 0))=dy.zero s:=oS 0 s;refine gI.bU s plain ?_;intro v1 h1 v2 h2;rw[bB (uq (aq hp)),bB hp];rw[e]at h1;subst h1 h2;unfold Tree.fj;cases dy.whole s<;>cases plain<;>cases dy.zero s<;>rfl
theorem bI.goal(v:Val):bI.F v=some [.b (Tree.ia v)]:=by
 have J2:∀(x:Bool)(v:Val),bI.j2 x v=some [.b (x&&decide (v.bits=0)&&decide (v.high=0)&&decide (v.low=0)&&decide (v.text=[])&&decide (v.more=[])&&decide (v.sub=0)&&decide (v.bytes=[])&&decide (v.kids=[]))]:=by
  intro x v
  refine bI.ik x v ?_
  intro v1 h1 v2 h2 v3 h3 v4 h4 v5 h5 v6 h6 v7 h7 v8 h8 v9 h9 v10 iZ
  simp only[aS,bP]
  have e1:decide (v7=0)=decide (v.bytes=[]):=by rw[h7,aN];simp
  have e2:decide (v9=0)=decide (v.kids=[]):=by rw[h9,aN];simp
  rw[e1]at h8
  rw[e2]at iZ
  subst h1 h2 h3 h4 h5 h6 h8 iZ
  simp only[Bool.cond_false_right]
 have J3:∀(x0:Bool)(x1:Int)(x2:Bool)(x3:Val),bI.j3 x0 x1 x2 x3=cond x2
  (bI.j2 x0 (Val.mk (Val.kind x3) (Val.bits x3) (Val.high x3) (Val.low x3) ([]:bD) (Val.more x3) (Val.sub x3) (Val.bytes x3) (Val.kids x3)))
  (cond (decide (x1=(11:Int)))
  (bI.j2 x0 (Val.mk (Val.kind x3) (Val.bits x3) (Val.high x3) (Val.low x3) ([]:bD) ([]:bD) (Val.sub x3) (Val.bytes x3) (Val.kids x3)))
  (cond (decide (x1=(5:Int)))
  (bI.j2 (decide (0<=x3.sub)&&decide (x3.sub<=255)) (Val.mk (Val.kind x3) (Val.bits x3) (Val.high x3) (Val.low x3) (Val.text x3) (Val.more x3) (0:Int) ([]:List UInt8) (Val.kids x3)))
  (cond (decide (x1=(7:Int)))
  (bI.j2 (decide (x3.bytes.length=12)) (Val.mk (Val.kind x3) (Val.bits x3) (Val.high x3) (Val.low x3) (Val.text x3) (Val.more x3) (Val.sub x3) ([]:List UInt8) (Val.kids x3)))
  (cond (decide (x1=(12:Int)))
  (bI.j2 (decide (x3.bytes.length=12)) (Val.mk (Val.kind x3) (Val.bits x3) (Val.high x3) (Val.low x3) ([]:bD) (Val.more x3) (Val.sub x3) ([]:List UInt8) (Val.kids x3)))
  (cond (decide (x1=(3:Int)))
  (bI.j4 x0 x1 (decide (x1=(3:Int))) x3)
  (bI.j4 x0 x1 (decide (x1=(4:Int))) x3)))))):=by
  intro x0 x1 x2 x3
  refine bI.nZ x0 x1 x2 x3 ?_
  intro v1 h1 v2 h2
  have e:decide (v2=12)=decide (x3.bytes.length=12):=by rw[h2,aN];simp;omega
  simp only[aS,bP,e,h1,Bool.cond_false_right]
 obtain⟨k,b,hi,lo,t,m,s,y,ks⟩:=v
 simp only[bI.de,bI.mF,J3,bI.sD,J2,Tree.ia,Tree.kI]
 by_cases a1:k=1
 ·subst a1;simp;grind
 by_cases a2:k=2
 ·subst a2;simp;grind
 by_cases a3:k=3
 ·subst a3;simp;grind
 by_cases a4:k=4
 ·subst a4;simp;grind
 by_cases a5:k=5
 ·subst a5;simp;grind
 by_cases a7:k=7
 ·subst a7;simp;grind
 by_cases a8:k=8
 ·subst a8;simp;grind
 by_cases a9:k=9
 ·subst a9;simp;grind
 by_cases UQ:k=11
 ·subst UQ;simp;grind
 by_cases a12:k=12
 ·subst a12;simp;grind
 by_cases UO:k=13
 ·subst UO;simp;grind
 by_cases UN:k=14
 ·subst UN;simp;grind
 by_cases UM:k=15
 ·subst UM;simp;grind
 by_cases UL:k=16
 ·subst UL;simp;grind
 by_cases UK:k=17
 ·subst UK;simp;grind
 by_cases UJ:k=18
 ·subst UJ;simp;grind
 by_cases UI:k=19
 ·subst UI;simp;grind
 simp[a1,a2,a3,a4,a5,a7,a8,a9,UQ,a12,UO,UN,UM,UL,UK,UJ,UI];grind
theorem gh.goal(s:bD)(hp:decide (s.length<=1099511627776)=true):gh.F s=some [.b (Tree.fj s true)]:=by refine gh.bU s ?_;intro v1 h1;rw[bB hp,hp];subst h1;unfold Tree.fj;cases dy.whole s<;>cases dy.zero s<;>rfl
theorem gz.goal(p:List Int)(k:Int)(hp:decide (p.length<=1099511627776)=true):gz.F p k=some [.sl .is (p++[k])]:=by have hp:=aq hp;refine gz.bU p k ?_;intro v1 h1;rw[bB (dO (by simp;omega) (by simp;omega)),bB (dO (by simp;omega) (by simp;omega)),h1];rfl
theorem iB.goal(v:Val)(hp:decide (bJ.bL (bJ.of [] v)<=1099511627776)=true):iB.F v=some [.i .i64 (Tree.own v)]:=by have hp:=aq hp;have Nw:v.text.length<=1099511627776:=by{simp only[bJ.of,bJ.bL]at hp;omega};have D2:v.more.length<=1099511627776:=by{simp only[bJ.of,bJ.bL]at hp;omega};refine iB.bU v ?_;intro v1 h1 v2 h2 v3 h3 v4 h4 v5 h5 v6 h6 v7 h7 v8 h8 v9 h9 v10 iZ v11 lJ v12 mh kx sq kg tc kf so oD wO uF D4 o9 C1 sI Kz v20 HT v21 QZ v22 QY IF Yi v24 QX v25 VQ sv VP v27 Yh v28 VO L9 Uk v30 Z8 v31 Z7 Ir h32 v33 h33 Wh Z6 v35 Z5 v36 Z4;unfold Tree.own;by_cases hn:Tree.name v.kind=[];{rw[ar hn,aa hn];rfl};{rw[ao hn,cF hn];subst h4 so Yi Yh h32 h33;simp only[aS,bg,aX,bP,ck4,ck5,aa Nw,aa D2,Bool.and_true];have u1:decide ((4294967296:UInt64)<=v.bits)=!decide (v.bits<4294967296):=by{rw[aN];simp[aJ,aI]};have u2:decide ((1:UInt64)<v.bits)=!decide (v.bits<2):=by{rw[aN];simp[aJ,aI];omega};have l1:decide ((0:Int)<oD)=!decide (v.bytes=[]):=by{rw[wO,aN];simp[List.length_pos_iff]};have l2:decide ((0:Int)<v20)=!decide (v.kids=[]):=by{rw[HT,aN];simp[List.length_pos_iff]};have l3:decide (oD=(12:Int))=decide (v.bytes.length=12):=by{rw[wO,aN];simp;omega};rw[u1]at QY;rw[u2]at QX;rw[l1]at D4;rw[l2]at QZ;rw[l3]at Uk;have e1:Tree.ia v=!(cond (cond (cond o9 true v21) true sv) true L9):=by{subst h1 h2 h3 h5 h6 h7 h8 h9 iZ lJ mh sq tc D4 C1 Kz QZ QY QX VQ VP VO Uk;unfold Tree.ia;have s1:decide (v.sub<0)=!decide (0<=v.sub):=by{rw[aN];simp};have s2:decide (255<v.sub)=!decide (v.sub<=255):=by{rw[aN];simp};rw[s1,s2];simp only[Bool.cond_true_left,Bool.cond_false_right,Bool.not_or,Bool.not_and,Bool.not_not,Bool.and_assoc]};have e2:v36=decide (Tree.fj v.text (decide (v.kind=11))=false\/Tree.fj v.more (decide (v.kind=11))=false):=by{subst Z8 Z7 Z6 Z5 Z4;unfold Tree.fj;cases dy.whole v.text<;>cases dy.whole v.more<;>cases dy.zero v.text<;>cases dy.zero v.more<;>by_cases k:v.kind=11<;>simp[k]};rw[e1,e2];clear h1 h2 h3 h5 h6 h7 h8 h9 iZ lJ mh sq tc D4 C1 Kz QZ QY QX VQ VP VO Uk Z8 Z7 Z6 Z5 Z4 e1 e2;by_cases c:Tree.fj v.text (decide (v.kind=11))=false\/Tree.fj v.more (decide (v.kind=11))=false;{rw[aa c,ar c];cases o9<;>cases v21<;>cases sv<;>cases L9<;>rfl};{rw[ab c,ao c];cases o9<;>cases v21<;>cases sv<;>cases L9<;>rfl}}
theorem L4.lens(v:Val)(n:bD)(m:Nat)(h:bJ.bL (bJ.of n v)<=m):v.text.length<=m/\v.more.length<=m/\n.length<=m/\v.bytes.length<=m/\bJ.cr v.kids+1<=m:=by simp only[bJ.of,bJ.bL]at h;omega
theorem bJ.Ly(f:bJ):1<=f.bL:=by cases f;simp only[bJ.bL];omega
theorem bJ.sb:∀(l:List bJ)(i:Nat)(d:bJ),i<l.length->(l.getD i d).bL<=bJ.cr l
 |f::l,0,d,_=>by simp[bJ.cr]
 |f::l,i+1,d,h=>by have:=bJ.sb l i d (by simpa using h);simp only[List.getD_cons_succ,bJ.cr];omega
theorem bJ.vA:∀(l:List bJ),l.length<=bJ.cr l
 |[]=>by simp
 |f::l=>by have:=bJ.vA l;have:=bJ.Ly f;simp only[av,bJ.cr];omega
theorem bJ.JF(f:bJ):bJ.of f.name f.val=f:=by cases f;rfl
theorem bJ.Lx(f:bJ):bJ.bL (bJ.of [] f.val)<=f.bL:=by cases f;simp only[bJ.of,bJ.val,bJ.bL,bJ.kind,bJ.bits,bJ.high,bJ.low,bJ.text,bJ.more,bJ.sub,bJ.bytes,bJ.kids];simp
theorem IX(v:Val)(n:bD):Tree.si v n=(if Tree.name v.kind=[]then 5 else if Tree.ia v=false then 1 else if Tree.fj v.text (decide (v.kind=11))=false\/Tree.fj v.more (decide (v.kind=11))=false\/Tree.fj n true=false then 4 else 0):=by unfold Tree.si Tree.own;grind
theorem Tree.GF(n:bD)(v:Val)(p:List Int):Tree.fW (bJ.of n v) p=if Tree.si v n≠0 then(p,Tree.si v n)else Tree.lj v.kids 0 p:=by cases v;simp only[bJ.of,Tree.fW]
theorem cz.bY(n:Nat)(ks:List bJ)(p:List Int)(hb:bJ.cr ks+p.length<1099511627776)(hn:bJ.cr ks<n):∀(m i:Nat),i+m=ks.length->cz.l1 n ks (ks.length:Int) i p=some [.sl .is (Tree.lj (ks.drop i) i p).1,.i .i64 (Tree.lj (ks.drop i) i p).2,.sl .is p]:=by
 have hlen:=bJ.vA ks;intro m;induction m with
 |zero=>intro i hi;apply cz.bM;intro v1 h1 v2 h2 v3 h3 v4 h4;rw[cF,aA (by omega)];rfl
 |succ m ih=>intro i hi;apply cz.bM;intro v1 h1 v2 h2 v3 h3 v4 h4;rw[ah]at h1;have hg:=bJ.sb ks i (fF.fS .fl) (by omega);rw[<-h1]at hg;rw[bJ.JF]at h2 h3⊢;rw[cT,ki,bB (dO (by simp;omega) (by simp;omega)),aa (by simp;omega),dT,aX,bP,drop_cons (l:=ks) (i:=i) (by omega) (fF.fS .fl),<-h1,Tree.lj];by_cases h:v3=0;{rw[aa h,ao (by rw[h3]at h;simpa using h)];simp only[aG,aj];rw[show v4=((i+1:Nat):Int) by rw[h4,iw];omega,ih _ (by omega)]};{rw[ab h,ar (by rw[h3]at h;simpa using h)];simp only[aL,au];rw[h2,h3]}
theorem cz.goal(n:Nat)(v:Val)(name:bD)(path:List Int)(hp:((decide (bJ.bL (bJ.of name v)+path.length<=1099511627776))&&decide ((bJ.bL (bJ.of name v))<n+1))=true):cz.F n v name path=some [.sl .is (Tree.fW (bJ.of name v) path).1,.i .i64 (Tree.fW (bJ.of name v) path).2,.sl .is path]:=by simp only[af,aD]at hp;obtain⟨hp,hn⟩:=hp;obtain⟨b1,b2,b3,_,_⟩:=L4.lens v name 1099511627776 (by omega);have VD:bJ.cr v.kids<bJ.bL (bJ.of name v):=by{simp only[bJ.of,bJ.bL];omega};refine cz.bU n v name path ?_;intro v1 h1 v2 h2 v3 h3 v4 h4;rw[Tree.GF,IX];simp only[aS,bg,aX,bP,aa b1,aa b2,aa b3,Bool.and_true];have hap:dY path.length 8=true:=dO (by omega) (by omega);simp only[hap,bP];by_cases a:Tree.name v.kind=[];{rw[aa a];simp[a]};{rw[cF a];by_cases b:Tree.ia v=false;{rw[b];simp[a]};{have b':Tree.ia v=true:=by{simpa using b};rw[b'];have e3:v3=decide (Tree.fj v.text (decide (v.kind=11))=false\/Tree.fj v.more (decide (v.kind=11))=false\/Tree.fj name true=false):=by{subst h1 h2 h3;cases Tree.fj v.text (decide (v.kind=11))<;>cases Tree.fj v.more (decide (v.kind=11))<;>cases Tree.fj name true<;>rfl};rw[e3,h4];by_cases c:Tree.fj v.text (decide (v.kind=11))=false\/Tree.fj v.more (decide (v.kind=11))=false\/Tree.fj name true=false;{rw[aa c];simp[a,c]};{rw[ab c];simp only[aG,aj,ao a,ao c];have:=cz.bY n v.kids path (by omega) (by omega) v.kids.length 0 (by omega);rw[bf]at this;simpa using this}}}
theorem gJ.goal(v:Val)(hp:decide (bJ.bL (bJ.of [] v)<=1099511627776)=true):gJ.F v=some [.sl .is (Tree.fW (bJ.of [] v) []).1,.i .i64 (Tree.fW (bJ.of [] v) []).2]:=by refine gJ.bU v ?_;intro v1 h1 v2 h2;rw[bB (by simpa using hp),h1,h2]
theorem bX.jb(n:Nat)(v:Val)(p:List Int)(hb:bJ.cr v.kids+p.length<1099511627776)(hn:bJ.cr v.kids<n):∀(m i:Nat),i+m=v.kids.length->bX.l2 n p i v=some [.sl .is (Tree.lj (v.kids.drop i) i p).1,.i .i64 (Tree.lj (v.kids.drop i) i p).2]:=by
 have hlen:=bJ.vA v.kids;intro m;induction m with
 |zero=>intro i hi;apply bX.gU;intro v1 h1 v2 h2 v3 h3 v4 h4 v5 h5;rw[cF,aA (by omega)];rfl
 |succ m ih=>intro i hi;apply bX.gU;intro v1 h1 v2 h2 v3 h3 v4 h4 v5 h5;rw[ah]at h2;have hg:=bJ.sb v.kids i (fF.fS .fl) (by omega);rw[<-h2]at hg;rw[bJ.JF]at h3 h4⊢;rw[cT,ki,ki,iy,aa (by simp;omega),dT,aX,bP,drop_cons (l:=v.kids) (i:=i) (by omega) (fF.fS .fl),<-h2,Tree.lj];by_cases h:v4=0;{rw[aa h,ao (by rw[h4]at h;simpa using h)];simp only[aG,aj];rw[show v5=((i+1:Nat):Int) by rw[h5,iw];omega,ih _ (by omega)]};{rw[ab h,ar (by rw[h4]at h;simpa using h)];simp only[aL,au];rw[h3,h4]}
theorem bX.goal(n:Nat)(v:Val)(name:bD)(p:List Int)(hp:((decide (bJ.bL (bJ.of name v)+p.length<=1099511627776))&&decide ((bJ.bL (bJ.of name v))<n+1))=true):bX.F n v name p=some [.sl .is (Tree.fW (bJ.of name v) p).1,.i .i64 (Tree.fW (bJ.of name v) p).2]:=by simp only[af,aD]at hp;obtain⟨hp,hn⟩:=hp;obtain⟨b1,b2,b3,_,_⟩:=L4.lens v name 1099511627776 (by omega);have VD:bJ.cr v.kids<bJ.bL (bJ.of name v):=by{simp only[bJ.of,bJ.bL];omega};have hbv:bJ.bL (bJ.of [] v)<=bJ.bL (bJ.of name v):=by{simp only[bJ.of,bJ.bL,aE];omega};refine bX.bU n v name p ?_;intro v1 h1;rw[iy,aa b3];simp only[Bool.and_true,aS,bP,bX.mF];rw[Tree.GF];unfold Tree.si;have key:=bX.jb n v p (by omega) (by omega) v.kids.length 0 (by omega);rw[bf]at key;have key:bX.l2 n p 0 v=_:=key;rw[key];by_cases a:Tree.own v=0;{rw[aa a]at h1;cases b:Tree.fj name true;{rw[b]at h1;rw[h1];simp[a]};{rw[b]at h1;rw[h1];simp[a]}};{rw[ab a]at h1;rw[h1];simp[a]}
theorem gi.goal(v:Val)(hp:decide (bJ.bL (bJ.of [] v)<=1099511627776)=true):gi.F v=some [.sl .is (Tree.fW (bJ.of [] v) []).1,.i .i64 (Tree.fW (bJ.of [] v) []).2]:=by refine gi.bU v ?_;intro v1 h1 v2 h2;rw[bB (by simpa using hp),h1,h2]
theorem cK.bY(a b:List Int)(hl:a.length=b.length)(hb:a.length<9223372036854775807):∀(m i:Nat),i+m=a.length->cK.l1 a b i=some [.b (decide (a.drop i=b.drop i))]:=by
 intro m;induction m with
 |zero=>intro i hi;apply cK.bM;intro v1 h1 v2 h2 v3 h3;rw[cF,aA (by omega),aA (by omega)];rfl
 |succ m ih=>intro i hi;apply cK.bM;intro v1 h1 v2 h2 v3 h3;rw[ah]at h1 h2;rw[cT,ki,ki,drop_cons (l:=a) (i:=i) (by omega) 0,drop_cons (l:=b) (i:=i) (by omega) 0,<-h1,<-h2];by_cases h:v1=v2;{rw[aa h];simp only[aG,aj];rw[show v3=((i+1:Nat):Int) by rw[h3,iw];omega,ih _ (by omega)];simp[h]};{rw[ab h];simp[h]}
theorem cK.goal(a b:List Int)(hp:decide (a.length<=1099511627776)=true):cK.F a b=some [.b (decide (a=b))]:=by have hp:=aq hp;rw[cK.de];by_cases hl:a.length=b.length;{rw[dT];have:=cK.bY a b hl (by omega) a.length 0 (by omega);simpa using this};{rw[dF,ab (λe=>hl (by rw[e]))];rfl}
theorem cI.bY(l:List bJ)(hb:l.length<=1099511627776):∀(m i:Nat),i+m=l.length->cI.l1 l (l.length:Int) i=some [.b (Tree.ma i (l.drop i))]:=by
 intro m;induction m with
 |zero=>intro i hi;apply cI.bM;intro v1 h1 v2 h2;rw[cF,aA (by omega)];rfl
 |succ m ih=>intro i hi;apply cI.bM;intro v1 h1 v2 h2;rw[ah]at h1;rw[cT,ki,bB (show Nr.i64 (i:Int)=true from dT),<-AQ,show v2=((i+1:Nat):Int) by rw[h2,iw];omega,ih _ (by omega),drop_cons (l:=l) (i:=i) (by omega) (fF.fS .fl),<-h1,Tree.ma,Kg];by_cases a:v1.name=jI i;{rw[aa a];rfl};{rw[ab a];rfl}
theorem cI.goal(l:List bJ)(hp:decide (l.length<=1099511627776)=true):cI.F l=some [.b (Tree.regular l)]:=by rw[cI.de];exact cI.bY l (aq hp) l.length 0 (by omega)
theorem cC.bY(l:List bJ)(hb:l.length<=1099511627776):∀(m i:Nat),i+m=l.length->cC.l1 l i=some [.b (Tree.ma i (l.drop i))]:=by
 intro m;induction m with
 |zero=>intro i hi;apply cC.bM;intro v1 h1 v2 h2 v3 h3;rw[cF,aA (by omega)];rfl
 |succ m ih=>intro i hi;apply cC.bM;intro v1 h1 v2 h2 v3 h3;rw[ah]at h1;rw[qj,Nat.mod_eq_of_lt (by omega),Ds]at h2;rw[cT,ki,show v3=((i+1:Nat):Int) by rw[h3,iw];omega,ih _ (by omega),drop_cons (l:=l) (i:=i) (by omega) (fF.fS .fl),<-h1,Tree.ma,h2];by_cases a:v1.name=jI i;{rw[aa a];rfl};{rw[ab a];rfl}
theorem cC.goal(l:List bJ)(hp:decide (l.length<=1099511627776)=true):cC.F l=some [.b (Tree.regular l)]:=by rw[cC.de];exact cC.bY l (aq hp) l.length 0 (by omega)
theorem eG.bY(kM:List Int)(hl:kM.length<=10)(hs:∀s∈kM,0<=s):∀(m i:Nat)(left:Int),i+m=kM.length->left<=1200->eG.l1 left kM i=some [.i .i64 (fZ.room left (kM.drop i))]:=by
 intro m;induction m with
 |zero=>intro i left hi hle;apply eG.bM;intro v1 h1 v2 h2 v3 h3;rw[cF,aA (by omega)];rfl
 |succ m ih=>intro i left hi hle;apply eG.bM;intro v1 h1 v2 h2 v3 h3;rw[ah]at h1;have h0:0<=v1:=hs v1 (by rw[h1,ai,aw (show i<kM.length by omega)];simp);rw[cT,show bF (i:Int) kM.length=true from dC (by omega) (by omega),drop_cons (l:=kM) (i:=i) (by omega) 0,<-h1,fZ.room];simp only[aX,Bool.and_true,aS,bg,bP];by_cases a:left<0\/left<v1;{rw[ar a,show v2=true by rw[h2];by_cases b:left<0<;>simp[b];omega];rfl};{rw[ao a,show v2=false by rw[h2];by_cases b:left<0<;>simp[b]<;>omega,aj,show v3=((i+1:Nat):Int) by rw[h3,iw];omega,iw,ih _ _ (by omega) (by omega)]}
theorem eG.goal(left:Int)(kM:List Int)(hp:(decide (left<=1200/\kM.length<=10)&&kM.all (λs=>decide (0<=s)))=true):eG.F left kM=some [.i .i64 (fZ.room left kM)]:=by simp only[af,aD,aC]at hp;rw[eG.de];exact eG.bY kM hp.1.2 hp.2 kM.length 0 left (by omega) hp.1.1
theorem fZ.Ol(left a:Int)(ha:0<=a)(hl:left<=1200):fZ.room left [a]<=1200/\(fZ.room left [a]=-1\/(fZ.room left [a]=left -a/\0<=left -a)):=by simp only[fZ.room];split<;>omega
theorem fZ.Ok(left a b c d:Int)(ha:0<=a)(hb:0<=b)(hc:0<=c)(hd:0<=d)(hl:left<=1200):fZ.room left [a,b,c,d]<=1200/\(fZ.room left [a,b,c,d]=-1\/(fZ.room left [a,b,c,d]=left -a -b -c -d/\0<=left -a -b -c -d)):=by simp only[fZ.room];split;{omega};{split;{omega};{split;{omega};{split<;>omega}}}
mutual
theorem fZ.xa:∀(f:bJ)(left:Int),left<=1200->fZ.value left f<=1200/\(0<=fZ.value left f->(bJ.bL f:Int) -f.name.length<=left -fZ.value left f)
 |.mk n k b h l t m s y ks,left,hl=>by
  have h1:=fZ.Ok left 2 t.length m.length y.length (by omega) (by omega) (by omega) (by omega) hl
  have h2:=fZ.zf ks (fZ.room left [2,(t.length:Int),(m.length:Int),(y.length:Int)]) h1.1
  simp only[fZ.value,bJ.bL,bJ.name]
  refine⟨h2.1,fun h0=>?_⟩
  rcases h1.2 with e|⟨e,e0⟩
  ·have:=h2.2.2 (by omega);omega
  ·have:=h2.2.1 h0;omega
theorem fZ.zf:∀(ks:List bJ)(left:Int),left<=1200->fZ.values left ks<=1200/\(0<=fZ.values left ks->(bJ.cr ks:Int)<=left -fZ.values left ks)/\(left<0->fZ.values left ks<0)
 |[],left,hl=>by simp only[fZ.values,bJ.cr];omega
 |f::r,left,hl=>by
  simp only[fZ.values,bJ.cr]
  by_cases h:left<0
  ·rw[ar h];omega
  ·rw[ao h]
   have h1:=fZ.Ol left f.name.length (by omega) hl
   have h2:=fZ.xa f (fZ.room left [(f.name.length:Int)]) h1.1
   have h3:=fZ.zf r (fZ.value (fZ.room left [(f.name.length:Int)]) f) h2.1
   refine⟨h3.1,fun h0=>?_,fun h0=>by omega⟩
   have h4:=h3.2.1 h0
   have h5:0<=fZ.value (fZ.room left [(f.name.length:Int)]) f:=by
    by_cases h6:fZ.value (fZ.room left [(f.name.length:Int)]) f<0
    ·have:=h3.2.2 h6;omega
    ·omega
   have h7:=h2.2 h5
   have hb:(f.name.length:Int)<=bJ.bL f:=by cases f;simp only[bJ.name,bJ.bL];omega
   rcases h1.2 with e|⟨e,e0⟩
   ·omega
   ·omega
end
theorem fZ.En(v:Val)(h:0<=fZ.value 1200 (bJ.of [] v)):bJ.bL (bJ.of [] v)<=1200:=by have:=(fZ.xa (bJ.of [] v) 1200 (by omega)).2 h;have hn:(bJ.of [] v).name=[]:=rfl;rw[hn]at this;simp at this;omega
theorem fZ.GU(left:Int)(f:bJ):fZ.value left (bJ.of [] f.val)=fZ.value left f:=by cases f;rfl
theorem fZ.IE(f:bJ)(left:Int)(hl:left<=1200)(h0:0<=fZ.value left f):fZ.value left f+1<=left:=by have:=(fZ.xa f left hl).2 h0;have hb:(f.name.length:Int)+1<=bJ.bL f:=by{cases f;simp only[bJ.name,bJ.bL];omega};omega
theorem cO.bY(n:Nat)(v:Val)(hn:bJ.cr v.kids<n):∀(m i:Nat)(left:Int),i+m=v.kids.length->(i:Int)+left<=1200->cO.l1 n left i v=some [.i .i64 (fZ.values left (v.kids.drop i))]:=by
 intro m;induction m with
 |zero=>intro i left hi hle;apply cO.bM;intro v1 h1 v2 h2 v3 h3 v4 h4 v5 h5 v6 h6 v7 h7;simp only[aS,bP];rw[show v2=false by rw[h2,dF];rfl,aj,aA (by omega)];rfl
 |succ m ih=>
  intro i left hi hle;apply cO.bM;intro v1 h1 v2 h2 v3 h3 v4 h4 v5 h5 v6 h6 v7 h7;rw[ah]at h3;have hg:=bJ.sb v.kids i (fF.fS .fl) (by omega);rw[<-h3]at hg;have hv:=bJ.Lx v3;have r1:=fZ.Ol left v4 (by omega) (by omega);rw[<-h5]at r1;have r2:=fZ.IE v3 v5 r1.1;rw[fZ.GU]at h6;simp only[aS,bP];rw[drop_cons (l:=v.kids) (i:=i) (by omega) (fF.fS .fl),<-h3,fZ.values];by_cases h:left<0;{rw[ar h,show v2=false by rw[h2,ab (show¬0<=left by omega)];simp];rfl}
  ·have r3:(i:Int)+1+v6<=1200:=by{rw[h6];by_cases hx:0<=fZ.value v5 v3;{have:=r2 hx;omega};{omega}};rw[ao h,show v2=true by rw[h2,dT,dT];rfl,au,ki,bB (by simp;omega),ki,aa r1.1,dT,aX,bP,
    show v7=((i+1:Nat):Int) by rw[h7,iw];omega,ih _ _ (by omega) (by omega),h6,h5,h4]
theorem cO.goal(n:Nat)(left:Int)(v:Val)(hp:((decide (left<=1200))&&decide ((bJ.bL (bJ.of [] v))<n+1))=true):cO.F n left v=some [.i .i64 (fZ.value left (bJ.of [] v))]:=by simp only[af,aD]at hp;obtain⟨hl,hn⟩:=hp;have VD:bJ.cr v.kids<bJ.bL (bJ.of [] v):=by{simp only[bJ.of,bJ.bL];omega};refine cO.bU n left v ?_;intro v1 h1 v2 h2 v3 h3 v4 h4;have r:=fZ.Ok left 2 v1 v2 v3 (by omega) (by omega) (by omega) (by omega) hl;rw[<-h4]at r;rw[bB (by rw[h4];simp;omega)];have key:=cO.bY n v (by omega) v.kids.length 0 (fZ.room left v4) (by omega) (by omega);rw[bf]at key;refine key.trans ?_;rw[h4,h1,h2,h3];rfl
theorem gO.goal(v:Val):gO.F v=some [.b (decide (0<=fZ.value 1200 (bJ.of [] v)))]:=by refine gO.bU v ?_;intro v1 h1;rw[bB (by decide),h1]
open Nr (ll sh top)
theorem Mq(c:UInt8):decide ((c -48)%2=0)=decide (c.toNat%2=0):=by have h:=c.toNat_lt;have:((c -48)%2=0)↔c.toNat%2=0:=by{rw[<-UInt8.toNat_inj,UInt8.toNat_mod,UInt8.toNat_sub];show(256 -48+c.toNat)%256%2=0↔_;omega};exact aT.2 this
theorem mX{a b:Int}{l:Nat}(h1:0<=a)(h2:a<=b)(h3:b<=l):eM a b l=true:=by unfold eM;rw[aa h1,aa h2,aa h3];rfl
theorem Ln(b:Bool){α:Type}(x:Option α):ck (!b||b) x=x:=by cases b<;>rfl
def rL(p:Nat):bD:=Nr.z6 (2*ll (p -1)+1) (Sh.ri p)
def PU(p:Nat):Int:=Nr.BC (2*ll (p -1)+1) (Sh.ri p)
def rH(p:Nat):bD:=Nr.z6 (2*ll p+1) ((sh p:Int) -1075)
def MQ(p:Nat):Int:=Nr.BC (2*ll p+1) ((sh p:Int) -1075)
theorem bW.sB(u:UInt64)(p:Nat)(hu:u.toNat=p)(hp:0<p)(ht:p<=top)(n:Nat)(h1:1<=n)(h2:n<(Sh.gq p).length)(h3:n<=17):
  ∀(m:Nat)(s:bD),s.length=m->m<=n->Nr.cU s=Nr.cU ((Sh.gq p).take n)->
  bW.l3 u (Sh.gq p) (Sh.dx p) (rH p) (MQ p) (rL p) (PU p) (n:Int) s ((Sh.gq p).drop n)=
   match Sh.Cc p n with
   |some r=>some [.s r.1,.i .i64 r.2,.b true]
   |none=>bW.l2 u (Sh.gq p) (Sh.dx p) (rH p) (MQ p) (rL p) (PU p) ((n:Int)+1):=by
 obtain⟨d1,d2⟩:=yw hp ht
 have hl:((Sh.gq p).take n).length=n:=by rw[aF];omega
 have hg:(Sh.gq p).getD (n -1) 0=((Sh.gq p).take n).getD (n -1) 0:=by rw[ai,ai,List.getElem?_take_of_lt (by omega)]
 have fin:∀s:bD,s.length<=n->(s=[]\/∃a c,s=a++[c]/\c≠48)->Nr.cU s=s->Nr.cU s=Nr.cU ((Sh.gq p).take n)->
   bW.l3 u (Sh.gq p) (Sh.dx p) (rH p) (MQ p) (rL p) (PU p) (n:Int) s ((Sh.gq p).drop n)=
   match Sh.Cc p n with
   |some r=>some [.s r.1,.i .i64 r.2,.b true]
   |none=>bW.l2 u (Sh.gq p) (Sh.dx p) (rH p) (MQ p) (rL p) (PU p) ((n:Int)+1):=by
  intro s hs hc hr Sd
  rw[hr]at Sd
  apply bW.nX
  intro v1 g1 v2 g2 v3 g3 v4 g4 v5 g5 v6 g6 v7 g7 v8 g8 v9 g9 v10 g10 v11 g11 v12 g12 kx g13 kg g14
  have e1:v1=(s.length:Int) -1:=by rw[g1,iw]
  have e3:v3=false:=by rcases hc with rfl|⟨a,c,rfl,hc⟩;{exact g3};{have e2:v2=c:=by{rw[g2,e1,ae,ak,show(((a.length+1:Nat):Int) -1).toNat=a.length by omega];exact kD a c 0};rw[g3,e2,ab hc,Bool.cond_self]}
  have Bg:v10=(n:Int) -1:=by rw[g10,iw]
  have Mj:kg=(n:Int)+1:=by rw[g14,iw]
  have Us:v11=((Sh.gq p).take n).getD (n -1) 0:=by rw[g11,Bg,show((n:Int) -1).toNat=n -1 by omega];exact hg
  have Rm:kx=(decide ((Sh.gq p).drop n=[53])&&decide ((((Sh.gq p).take n).getD (n -1) 0).toNat%2=0)):=by rw[g13,g12,Mq,Us];cases decide ((Sh.gq p).drop n=[53])<;>rfl
  have WK:(!(decide ((0:Int)<(s.length:Int)))||(((decide ((0:Int)<(s.length:Int)))&&(decide ((0:Int)<(s.length:Int))))&&(bF v1 s.length)))=true:=by by_cases c:(0:Int)<(s.length:Int);{rw[aa c,rY.2 (by omega)];rfl};{rw[ab c];rfl}
  have ix2:bF v10 (Sh.gq p).length=true:=rY.2 (by omega)
  have Zc:(!v9||((v9&&v9)&&(bF v10 (Sh.gq p).length)))=true:=by rw[ix2];cases v9<;>rfl
  have Zb:(!v9||(v9&&(!decide ((2:UInt8)=0))))=true:=by cases v9<;>rfl
  have Za:(!(!v8)||((!v8)&&(!(decide ((Sh.gq p).drop n=[53]))||v9)))=true:=by rw[g9];cases v8<;>cases decide ((Sh.gq p).drop n=[53])<;>rfl
  have Y9:(v8||(!v8))=true:=by cases v8<;>rfl
  have pre:decide (1<=(((Sh.gq p).take ((n:Int)).toNat)).length/\(((Sh.gq p).take ((n:Int)).toNat)).length<=100000/\-100000<=Sh.dx p/\Sh.dx p<=100000)=true:=by rw[ah,hl];exact dT
  rw[WK,Zc,Zb,Za,Y9,pre,mX (Int.le_refl 0) (show(0:Int)<=(n:Int) by omega) (show(n:Int)<=((Sh.gq p).length:Int) by omega)]
  simp only[Ln,bP]
  rw[e3,aj,Mj,Rm]
  rw[ah]at g4 g5
  have e6:v6=Sh.wi p (Nr.iV (Nr.cU ((Sh.gq p).take n)) (Sh.dx p) (rL p) (PU p)) (Nr.iV (Nr.cU ((Sh.gq p).take n)) (Sh.dx p) (rH p) (MQ p)):=by rw[g6,hu,Sd]
  have e7:v7=Sh.wi p (Nr.iV (Sh.more ((Sh.gq p).take n) (Sh.dx p)).1 (Sh.more ((Sh.gq p).take n) (Sh.dx p)).2 (rL p) (PU p)) (Nr.iV (Sh.more ((Sh.gq p).take n) (Sh.dx p)).1 (Sh.more ((Sh.gq p).take n) (Sh.dx p)).2 (rH p) (MQ p)):=by rw[g7,hu,g4,g5]
  have er:Sh.Cc p n=if v6&&v7 then(if v8||(decide ((Sh.gq p).drop n=[53])&&decide ((((Sh.gq p).take n).getD (n -1) 0).toNat%2=0))then some (Nr.cU ((Sh.gq p).take n),Sh.dx p)else some (Sh.more ((Sh.gq p).take n) (Sh.dx p)))else if v6 then some (Nr.cU ((Sh.gq p).take n),Sh.dx p)else if v7 then some (Sh.more ((Sh.gq p).take n) (Sh.dx p))else none:=by rw[e6,e7,g8];rfl
  rw[er,<-Sd,g4,g5]
  generalize(decide ((Sh.gq p).drop n=[53])&&decide ((((Sh.gq p).take n).getD (n -1) 0).toNat%2=0))=q
  clear e6 e7 g6 g7 g8 g9 er Zc Zb Za Y9
  cases v6<;>cases v7<;>cases v8<;>cases q<;>rfl
 intro m
 induction m with
 |zero=>intro s hs hm hr;obtain rfl:=List.length_eq_zero_iff.1 hs;exact fin [] (by simp) (.inl rfl) rfl hr
 |succ m ih=>intro s hs hm hr;rcases Nr.jH s with h|⟨a,c,rfl⟩;{rw[h]at hs;simp at hs};{by_cases hc:c=48;{subst hc;rw[ae,ak]at hs;have hlen:((a++[(48:UInt8)]).length:Int)=(a.length:Int)+1:=by{rw[ae,ak];omega};apply bW.nX;intro v1 g1 v2 g2 v3 g3 v4 g4 v5 g5 v6 g6 v7 g7 v8 g8 v9 g9 v10 g10 v11 g11 v12 g12 kx g13 kg g14;have e1:v1=(a.length:Int):=by{rw[g1,hlen,iw];omega};have e2:v2=48:=by{rw[g2,e1,ah];exact kD a 48 0};have e3:v3=true:=by{rw[g3,e2,dT];rfl};have WK:(!(decide ((0:Int)<((a++[(48:UInt8)]).length:Int)))||(((decide ((0:Int)<((a++[(48:UInt8)]).length:Int)))&&(decide ((0:Int)<((a++[(48:UInt8)]).length:Int))))&&(bF v1 (a++[(48:UInt8)]).length)))=true:=by{rw[dT,rY.2 (by omega)];rfl};rw[WK,e3];simp only[Ln,bP,au];rw[bB (mX (Int.le_refl 0) (by omega) (by omega)),e1,ah,List.take_left];refine ih a (by omega) (by omega) ?_;rw[<-hr,Nr.kY,ar rfl]};{refine fin _ (by omega) (.inr ⟨a,c,rfl,hc⟩) ?_ hr;rw[Nr.kY,ao hc]}}
theorem bW.jb(u:UInt64)(p:Nat)(hu:u.toNat=p)(hp:0<p)(ht:p<=top)(N:Nat)(hN:N<=17)(h0:∀j:Nat,1<=j->j<N->Sh.some_ p (Sh.kE p) (Sh.iK p) (Sh.dx p) j=none)(h1:Sh.some_ p (Sh.kE p) (Sh.iK p) (Sh.dx p) N=some (Sh.digits p)):∀(m n:Nat),n+m=N->1<=n->bW.l2 u (Sh.gq p) (Sh.dx p) (rH p) (MQ p) (rL p) (PU p) (n:Int)=some [.s (Sh.digits p).1,.i .i64 (Sh.digits p).2,.b true]:=by
 have E2:=Sh.I4 hp ht;have hle:(Sh.gq p).length>=N:=by{refine Nat.le_of_not_lt λc=>?_;have:=h0 (Sh.gq p).length (List.length_pos_iff.2 (Sh.Fb hp).1.n) c;rw[E2]at this;cases this};intro m;induction m with
 |zero=>intro n hn So;obtain rfl:n=N:=by{omega};rw[bW.CM];by_cases c:n<(Sh.gq p).length;{rw[cT,bB (mX (by omega) (by omega) (by omega)),bB (mX (by omega) (by omega) (by omega)),ah,bW.sB u p hu hp ht n So c hN _ _ rfl (by rw[aF];omega) rfl,<-Sh.step_eq hp ht So c,h1]};{obtain rfl:n=(Sh.gq p).length:=by{omega};rw[E2]at h1;have e:(Sh.gq p,Sh.dx p)=Sh.digits p:=Option.some.inj h1;rw[cF,<-e]}
 |succ m ih=>intro n hn So;rw[bW.CM,cT,bB (mX (by omega) (by omega) (by omega)),bB (mX (by omega) (by omega) (by omega)),ah,bW.sB u p hu hp ht n So (by omega) (by omega) _ _ rfl (by rw[aF];omega) rfl,<-Sh.step_eq hp ht So (by omega),h0 n So (by omega)];exact ih (n+1) (by omega) (by omega)
theorem bW.gF(u w:UInt64)(p:Nat)(hu:u.toNat=p)(hp:0<p)(ht:p<=top)(hw:w.toNat=ll (p -1))(e:Int)(he:e=(sh (p -1):Int) -1074):bW.j1 w e u (Sh.gq p) (Sh.dx p) (rH p) (MQ p)=some [.s (Sh.digits p).1,.i .i64 (Sh.digits p).2,.b true]:=by have EZ:=Nr.sS (p -1);have OO:=Nr.xo (p:=p -1) (by omega);apply bW.gM;intro v1 g1 v2 g2;have e1:v1.toNat=2*ll (p -1)+1:=by{rw[g1,UInt64.toNat_add,UInt64.toNat_mul,hw];show(2*ll (p -1)%18446744073709551616+1)%18446744073709551616=_;omega};have e2:v2=Sh.ri p:=by{rw[g2,he,iw];unfold Sh.ri;omega};have e3:-1075<=Sh.ri p/\Sh.ri p<=971:=by{unfold Sh.ri;omega};have e4:2*ll (p -1)+1<2^55:=by{show _<36028797018963968;omega};rw[e1,e2,bB (aa ⟨by omega,e4,e3.1,e3.2⟩)];obtain⟨N,n1,n2,n3,n4⟩:=Sh.first hp ht;exact bW.jb u p hu hp ht N n2 n3 n4 (N -1) 1 (by omega) (Nat.le_refl 1)
theorem Hz(b:UInt64):(cE (iS b 1) 1).toNat=Sh.jP b:=by rw[eF,nx,Nat.pow_one];unfold Sh.jP;omega
theorem M9{b v:UInt64}(hv:v.toNat=Sh.jP b)(h0:0<Sh.jP b):Sh.jP (v -1)=Sh.jP b -1:=by have hm:Sh.jP b<9223372036854775808:=Nat.mod_lt _ (by omega);have e:(v -1).toNat=Sh.jP b -1:=by{rw[UInt64.toNat_sub,hv];show(18446744073709551616 -1+Sh.jP b)%18446744073709551616=_;omega};show(v -1).toNat%9223372036854775808=_;rw[e,Nat.mod_eq_of_lt (by omega)]
theorem BX{b:UInt64}(h:0<Sh.jP b)(ht:Sh.jP b<=top):(Nr.split b).1=2:=by have hb:=b.toNat_lt;have hx:b.toNat/4503599627370496%2048=Sh.jP b/4503599627370496:=by{unfold Sh.jP;omega};have hf:b.toNat%4503599627370496=Sh.jP b%4503599627370496:=by{unfold Sh.jP;omega};unfold Nr.split;simp only[hx,hf];generalize Sh.jP b=p at*;unfold top at ht;rw[nO];by_cases c2:p/4503599627370496=0;{rw[ar c2,nO]};{rw[ao c2]}
theorem Em{b:UInt64}(h:Sh.jP b=0):(Nr.split b).2.2.1.toNat=0:=by have hx:b.toNat/4503599627370496%2048=Sh.jP b/4503599627370496:=by{unfold Sh.jP;omega};have hf:b.toNat%4503599627370496=Sh.jP b%4503599627370496:=by{unfold Sh.jP;omega};unfold Nr.split;simp only[hx,hf,h];rfl
theorem bW.goal(b:UInt64):bW.F b=some [.s (Sh.dg b).1,.i .i64 (Sh.dg b).2.1,.b (Sh.dg b).2.2]:=by apply bW.bU;intro v1 h1 v2 h2 v3 h3 v4 h4 v5 h5 v6 h6 v7 h7 v8 h8 v9 h9 v10 iZ v11 lJ v12 mh;by_cases c:(Nr.split b).1=2;{obtain⟨z1,z2,z3⟩:=Fi c;rw[z1,z2,z3,aa c,aG,aj];clear z1 z2 z3;obtain⟨hp,ht,hm,he⟩:=rP c;have hu:v2.toNat=Sh.jP b:=by{rw[h2,h1];exact Hz b};have EZ:=Nr.sS (Sh.jP b);have hmp:=Sh.rW hp;have OO:=Nr.xo ht;have hd:=M9 hu hp;rw[hm,he]at h3 h4;have e3:v3=Sh.gq (Sh.jP b):=h3;have e4:v4=Sh.dx (Sh.jP b):=h4;have e5:(v5+1).toNat=2*ll (Sh.jP b)+1:=by{rw[h5,UInt64.toNat_add,UInt64.toNat_mul,hm];show(2*ll (Sh.jP b)%18446744073709551616+1)%18446744073709551616=_;omega};have e6:v6=(sh (Sh.jP b):Int) -1075:=by{rw[h6,he,iw];omega};rw[e5,e6]at h7 h8;have e7:v7=rH (Sh.jP b):=h7;have e8:v8=MQ (Sh.jP b):=h8;have l1:ll (Sh.jP b)<2^55:=by{show _<36028797018963968;omega};have l2:2*ll (Sh.jP b)+1<2^55:=by{show _<36028797018963968;omega};rw[hm,he,e5,e6,bB (aa ⟨by omega,l1,by omega,by omega⟩),bB (aa ⟨by omega,l2,by omega,by omega⟩),e3,e4,e7,e8];by_cases c1:v2=1;{have q:Sh.jP b=1:=by{rw[<-hu,c1];rfl};rw[cT c1];refine bW.gF v2 v11 _ hu hp ht ?_ _ ?_;{rw[lJ,Em (by rw[hd,q]),q];rfl};{rw[q];rfl}};{have q:Sh.jP b≠1:=λq=>c1 (aU.1 (by rw[hu,q];rfl));rw[cF c1];have kk:(Nr.split (v2 -1)).1=2:=BX (by rw[hd];omega) (by rw[hd];omega);obtain⟨_,_,f3,f4⟩:=rP kk;rw[hd]at f3 f4;exact bW.gF v2 v11 _ hu hp ht (by rw[lJ];exact f3) _ (by rw[mh];exact f4)}};{obtain⟨z1,z2,z3⟩:=K6 c;rw[z1,z2,z3,ab c];rfl}
end Go.Eng
namespace Go.Eng
open Go.Proofs
theorem dE.ok:KO 89 dE.c bC:=meets bH all_nil dE.h (fits λins=>by unfold dE.c;split;exact dE.goal _;trivial)
theorem eH.ok:KO 63 eH.c bC:=meets bH all_nil eH.h (fits λins=>by unfold eH.c;split;exact eH.goal _;trivial)
theorem nM.ok:KO 173 nM.c bC:=meets bH all_nil (.o) (fits λins=>by unfold nM.c;split;exact nM.goal _;trivial)
theorem bZ.ok:KO 145 bZ.c bR:=meets bH (all_cons nM.ok all_nil) bZ.h (fits λins=>by unfold bZ.c;split;exact bZ.goal _ _;trivial)
theorem cZ.ok:KO 115 cZ.c bR:=meets bH (all_cons bZ.ok all_nil) cZ.h (fits λins=>by unfold cZ.c;split;exact cZ.goal _;trivial)
theorem gP.ok:KO 80 gP.c bR:=meets bH (all_cons cZ.ok all_nil) (.o) (fits λins=>by unfold gP.c;split;exact gP.goal _;trivial)
theorem cP.ok:KO 138 cP.c bR:=meets bH all_nil cP.h (fits λins=>by unfold cP.c;split;exact cP.goal _ _;trivial)
theorem df.ok:KO 106 df.c bR:=meets bH (all_cons cP.ok all_nil) df.h (fits λins=>by unfold df.c;split;exact df.goal _;trivial)
theorem fk.ok:KO 70 fk.c bC:=meets bH (all_cons df.ok all_nil) (.o) (fits λins=>by unfold fk.c;split;exact fk.goal _;trivial)
theorem dQ.ok:KO 92 dQ.c bC:=meets bH all_nil dQ.h (fits λins=>by unfold dQ.c;split;exact dQ.goal _;trivial)
theorem fM.ok:KO 163 fM.c bC:=meets bH all_nil (.o) (fits λins=>by unfold fM.c;split;exact fM.goal _ _;trivial)
theorem jq.ok:KO 146 jq.c bC:=meets bH (all_cons fM.ok all_nil) (.o) (fits λins=>by unfold jq.c;split;exact jq.goal _ _;trivial)
theorem jm.ok:KO 116 jm.c bC:=meets bH (all_cons jq.ok all_nil) (.o) (fits λins=>by unfold jm.c;split;exact jm.goal _ _;trivial)
theorem gg.ok:KO 81 gg.c bC:=meets bH (all_cons jm.ok all_nil) (.o) (fits λins=>by unfold gg.c;split;exact gg.goal _ _;trivial)
theorem iO.ok:KO 40 iO.c iO.sg:=meets bH all_nil (.o) (fits λins=>by unfold iO.c;split;exact iO.goal _;trivial)
theorem jg.ok:KO 39 jg.c bC:=meets bH all_nil (.o) (fits λins=>by unfold jg.c;split;exact jg.goal _;trivial)
theorem bI.ok:KO 41 bI.c bC:=meets bH all_nil bI.h (fits λins=>by unfold bI.c;split;exact bI.goal (.mk _ _ _ _ _ _ _ _ _);trivial)
theorem gI.ok:KO 42 gI.c bC:=meets bH (all_cons gP.ok (all_cons gg.ok all_nil)) (.o) (fits λins=>by unfold gI.c;split;exact gI.goal _ _;trivial)
theorem PJ.Bv:∀n:Nat,(KO 28 (cz.cn n) cz.sg):=by
 intro n;induction n with
 |zero=>exact jh (by intro ti np h;unfold cz.cn at h;split at h;exact absurd (aQ.1 h.1).2 (by simp);exact h.elim)
 |succ n ih=>have CT:=ih;exact meets bH (all_cons CT (all_cons jg.ok (all_cons iO.ok (all_cons bI.ok (all_cons gI.ok all_nil))))) cz.h (fits λins=>by unfold cz.cn;split;exact cz.goal _ (.mk _ _ _ _ _ _ _ _ _) _ _;trivial)
theorem cz.ok:KO 28 cz.c cz.sg:=jo λti np h=>by unfold cz.c at h;split at h;{obtain⟨hp,rfl⟩:=h;exact⟨cz.cn (_+1),(PJ.Bv _),aQ.2 ⟨hp,aa (Nat.lt_succ_self _)⟩,rfl⟩};{exact h.elim}
theorem gJ.ok:KO 17 gJ.c bR:=meets bH (all_cons cz.ok all_nil) (.o) (fits λins=>by unfold gJ.c;split;exact gJ.goal (.mk _ _ _ _ _ _ _ _ _);trivial)
theorem gT.ok:KO 124 gT.c bC:=meets bH all_nil (.o) (fits λins=>by unfold gT.c;split;exact gT.goal;trivial)
theorem dh.ok:KO 90 dh.c bC:=meets bH (all_cons gT.ok all_nil) dh.h (fits λins=>by unfold dh.c;split;exact dh.goal _;trivial)
theorem bS.ok:KO 91 bS.c bS.sg:=meets bH all_nil bS.h (fits λins=>by unfold bS.c;split;exact bS.goal _;trivial)
theorem iB.ok:KO 51 iB.c bC:=meets bH (all_cons fk.ok (all_cons dh.ok (all_cons bS.ok (all_cons dQ.ok all_nil)))) (.o) (fits λins=>by unfold iB.c;split;exact iB.goal (.mk _ _ _ _ _ _ _ _ _);trivial)
theorem gh.ok:KO 52 gh.c bC:=meets bH (all_cons fk.ok (all_cons dQ.ok all_nil)) (.o) (fits λins=>by unfold gh.c;split;exact gh.goal _;trivial)
theorem gz.ok:KO 53 gz.c bC:=meets bH all_nil (.o) (fits λins=>by unfold gz.c;split;exact gz.goal _ _;trivial)
theorem iv.ok:KO 105 iv.c bC:=meets bH all_nil iv.h (fits λins=>by unfold iv.c;split;exact iv.goal _;trivial)
theorem bN.ok:KO 69 bN.c bC:=meets bH (all_cons iv.ok all_nil) bN.h (fits λins=>by unfold bN.c;split;exact bN.goal _;trivial)
theorem Ju.Bv:∀n:Nat,(KO 30 (bX.cn n) bR)/\(KO 34 (cw.cn n) bC):=by
 intro n;induction n with
 |zero=>exact⟨jh (by intro ti np h;unfold bX.cn at h;split at h;exact absurd (aQ.1 h.1).2 (by simp);exact h.elim),jh (by intro ti np h;unfold cw.cn at h;split at h;exact absurd (aQ.1 h.1).2 (by simp);exact h.elim)⟩
 |succ n ih=>obtain⟨CT,R9⟩:=ih;exact⟨meets bH (all_cons CT (all_cons iB.ok (all_cons gh.ok (all_cons gz.ok all_nil)))) bX.h (fits λins=>by unfold bX.cn;split;exact bX.goal _ (.mk _ _ _ _ _ _ _ _ _) _ _;trivial),meets bH (all_cons R9 (all_cons bN.ok (all_cons fk.ok all_nil))) cw.h (fits λins=>by unfold cw.cn;split;exact cw.goal _ (.mk _ _ _);trivial)⟩
theorem bX.ok:KO 30 bX.c bR:=jo λti np h=>by unfold bX.c at h;split at h;{obtain⟨hp,rfl⟩:=h;exact⟨bX.cn (_+1),(Ju.Bv _).1,aQ.2 ⟨hp,aa (Nat.lt_succ_self _)⟩,rfl⟩};{exact h.elim}
theorem cw.ok:KO 34 cw.c bC:=jo λti np h=>by unfold cw.c at h;split at h;{obtain⟨hp,rfl⟩:=h;exact⟨cw.cn (_+1),(Ju.Bv _).2,aQ.2 ⟨hp,aa (Nat.lt_succ_self _)⟩,rfl⟩};{exact h.elim}
theorem gi.ok:KO 19 gi.c bR:=meets bH (all_cons bX.ok all_nil) (.o) (fits λins=>by unfold gi.c;split;exact gi.goal (.mk _ _ _ _ _ _ _ _ _);trivial)
theorem cK.ok:KO 23 cK.c bC:=meets bH all_nil cK.h (fits λins=>by unfold cK.c;split;exact cK.goal _ _;trivial)
theorem eG.ok:KO 27 eG.c bC:=meets bH all_nil eG.h (fits λins=>by unfold eG.c;split;exact eG.goal _ _;trivial)
theorem RA.Bv:∀n:Nat,(KO 16 (cO.cn n) bC):=by
 intro n;induction n with
 |zero=>exact jh (by intro ti np h;unfold cO.cn at h;split at h;exact absurd (aQ.1 h.1).2 (by simp);exact h.elim)
 |succ n ih=>have CT:=ih;exact meets bH (all_cons CT (all_cons eG.ok all_nil)) cO.h (fits λins=>by unfold cO.cn;split;exact cO.goal _ _ (.mk _ _ _ _ _ _ _ _ _);trivial)
theorem cO.ok:KO 16 cO.c bC:=jo λti np h=>by unfold cO.c at h;split at h;{obtain⟨hp,rfl⟩:=h;exact⟨cO.cn (_+1),(RA.Bv _),aQ.2 ⟨hp,aa (Nat.lt_succ_self _)⟩,rfl⟩};{exact h.elim}
theorem gO.ok:KO 6 gO.c bC:=meets bH (all_cons cO.ok all_nil) (.o) (fits λins=>by unfold gO.c;split;exact gO.goal (.mk _ _ _ _ _ _ _ _ _);trivial)
theorem dr.ok:KO 64 dr.c bC:=meets bH all_nil dr.h (fits λins=>by unfold dr.c;split;exact dr.goal _;trivial)
theorem cI.ok:KO 45 cI.c bC:=meets bH (all_cons og.ok all_nil) cI.h (fits λins=>by unfold cI.c;split;exact cI.goal _;trivial)
theorem cC.ok:KO 60 cC.c bC:=meets bH (all_cons dr.ok all_nil) cC.h (fits λins=>by unfold cC.c;split;exact cC.goal _;trivial)
theorem dq.ok:KO 179 dq.c bC:=meets bH all_nil dq.h (fits λins=>by unfold dq.c;split;exact dq.goal _;trivial)
theorem bits_Len64.ok:KO 205 bits_Len64.c bC:=meets bH all_nil bits_Len64.h (fits λins=>by unfold bits_Len64.c;split;exact bits_Len64.goal _;trivial)
theorem jE.ok:KO 213 jE.c pf:=meets bH all_nil (.o) (fits λins=>by unfold jE.c;split;exact jE.goal _;trivial)
theorem jA.ok:KO 261 jA.c bC:=meets bH (all_cons mG.ok all_nil) (.o) (fits λins=>by unfold jA.c;split;exact jA.goal (_,_);trivial)
theorem qE.ok:KO 259 qE.c bC:=meets bH all_nil (.o) (fits λins=>by unfold qE.c;split;exact qE.goal _ _;trivial)
theorem iN.ok:KO 254 iN.c gA:=meets bH (all_cons mG.ok all_nil) (.o) (fits λins=>by unfold iN.c;split;exact iN.goal (_,_);trivial)
theorem kS.ok:KO 269 kS.c bC:=meets bH (all_cons mG.ok all_nil) (.o) (fits λins=>by unfold kS.c;split;exact kS.goal (_,_) _;trivial)
theorem jB.ok:KO 252 jB.c bC:=meets bH (all_cons jA.ok all_nil) (.o) (fits λins=>by unfold jB.c;split;exact jB.goal (_,_) (_,_);trivial)
theorem kK.ok:KO 267 kK.c bC:=meets bH (all_cons ic.ok all_nil) (.o) (fits λins=>by unfold kK.c;split;exact kK.goal _;trivial)
theorem gB.ok:KO 262 gB.c bC:=meets bH (all_cons kK.ok all_nil) gB.h (fits λins=>by unfold gB.c;split;exact gB.goal (.mk (_,_) (_,_) (_,_) (_,_));trivial)
theorem dB.ok:KO 263 dB.c bC:=meets bH (all_cons kS.ok all_nil) dB.h (fits λins=>by unfold dB.c;split;exact dB.goal (.mk (_,_) (_,_) (_,_) (_,_)) _;trivial)
theorem kL.ok:KO 260 kL.c bC:=meets bH (all_cons gB.ok (all_cons dB.ok all_nil)) (.o) (fits λins=>by unfold kL.c;split;exact kL.goal (.mk (_,_) (_,_) (_,_) (_,_));trivial)
theorem fT.ok:KO 253 fT.c bR:=meets bH (all_cons iN.ok (all_cons gB.ok (all_cons dB.ok all_nil))) fT.h (fits λins=>by unfold fT.c;split;exact fT.goal (.mk (_,_) (_,_) (_,_) (_,_));trivial)
theorem eC.ok:KO 250 eC.c bC:=meets bH all_nil eC.h (fits λins=>by unfold eC.c;split;exact eC.goal _;trivial)
theorem dj.ok:KO 251 dj.c bC:=meets bH (all_cons qE.ok (all_cons kL.ok all_nil)) dj.h (fits λins=>by unfold dj.c;split;exact dj.goal _;trivial)
theorem cp.ok:KO 234 cp.c bR:=meets bH (all_cons eC.ok (all_cons dj.ok (all_cons jB.ok (all_cons fT.ok (all_cons iN.ok all_nil))))) cp.h (fits λins=>by unfold cp.c;split;exact cp.goal _ _;trivial)
theorem fv.ok:KO 216 fv.c bC:=meets bH all_nil fv.h (fits λins=>by unfold fv.c;split;exact fv.goal _;trivial)
theorem jc.ok:KO 177 jc.c bC:=meets bH all_nil (.o) (fits λins=>by unfold jc.c;split;exact jc.goal _;trivial)
theorem iH.ok:KO 147 iH.c bC:=meets bH all_nil iH.h (fits λins=>by unfold iH.c;split;exact iH.goal _;trivial)
theorem eT.ok:KO 266 eT.c bR:=meets bH (all_cons jc.ok all_nil) eT.h (fits λins=>by unfold eT.c;split;exact eT.goal _;trivial)
theorem jT.ok:KO 149 jT.c bC:=meets bH (all_cons jc.ok (all_cons dq.ok all_nil)) (.o) (fits λins=>by unfold jT.c;split;exact jT.goal _;trivial)
theorem gW.ok:KO 212 gW.c bC:=meets bH all_nil gW.h (fits λins=>by unfold gW.c;split;exact gW.goal _ _;trivial)
theorem kJ.ok:KO 181 kJ.c bC:=meets bH (all_cons jc.ok (all_cons gW.ok all_nil)) (.o) (fits λins=>by unfold kJ.c;split;exact kJ.goal _ _;trivial)
theorem dG.ok:KO 235 dG.c bC:=meets bH all_nil dG.h (fits λins=>by unfold dG.c;split;exact dG.goal _;trivial)
theorem eW.ok:KO 211 eW.c bC:=meets bH (all_cons jc.ok (all_cons fv.ok (all_cons cp.ok (all_cons dG.ok all_nil)))) eW.h (fits λins=>by unfold eW.c;split;exact eW.goal _ _;trivial)
theorem gC.ok:KO 214 gC.c bR:=meets bH (all_cons fv.ok all_nil) gC.h (fits λins=>by unfold gC.c;split;exact gC.goal _ _;trivial)
theorem iq.ok:KO 178 iq.c pf:=meets bH all_nil iq.h (fits λins=>by unfold iq.c;split;exact iq.goal _ _;trivial)
theorem dW.ok:KO 217 dW.c bC:=meets bH (all_cons fv.ok all_nil) dW.h (fits λins=>by unfold dW.c;split;exact dW.goal _ _;trivial)
theorem bQ.ok:KO 215 bQ.c bQ.sg:=meets bH all_nil bQ.h (fits λins=>by unfold bQ.c;split;exact bQ.goal _ _;trivial)
theorem lI.ok:KO 182 lI.c gA:=meets bH (all_cons iH.ok (all_cons jc.ok (all_cons iq.ok (all_cons dq.ok (all_cons gW.ok (all_cons jE.ok (all_cons gC.ok (all_cons bQ.ok (all_cons fv.ok (all_cons dW.ok all_nil)))))))))) (.o) (fits λins=>by unfold lI.c;split;exact lI.goal _ _;trivial)
theorem mK.ok:KO 148 mK.c bC:=meets bH (all_cons jc.ok (all_cons iq.ok all_nil)) (.o) (fits λins=>by unfold mK.c;split;exact mK.goal _ _;trivial)
theorem eJ.ok:KO 233 eJ.c bC:=meets bH all_nil eJ.h (fits λins=>by unfold eJ.c;split;exact eJ.goal _ _ _;trivial)
theorem dZ.ok:KO 210 dZ.c bR:=meets bH (all_cons iH.ok (all_cons jc.ok (all_cons eJ.ok all_nil))) dZ.h (fits λins=>by unfold dZ.c;split;exact dZ.goal _ _;trivial)
theorem eU.ok:KO 242 eU.c bR:=meets bH (all_cons jc.ok (all_cons eJ.ok all_nil)) eU.h (fits λins=>by unfold eU.c;split;exact eU.goal _;trivial)
theorem fP.ok:KO 257 fP.c bR:=meets bH (all_cons bits_Len64.ok (all_cons uo.ok all_nil)) fP.h (fits λins=>by unfold fP.c;split;exact fP.goal _ _ _;trivial)
theorem dp.ok:KO 256 dp.c bR:=meets bH (all_cons mK.ok (all_cons kJ.ok (all_cons lI.ok (all_cons eT.ok all_nil)))) dp.h (fits λins=>by unfold dp.c;split;exact dp.goal _ _ _;trivial)
theorem eO.ok:KO 243 eO.c bR:=meets bH (all_cons jT.ok (all_cons dp.ok (all_cons fP.ok all_nil))) eO.h (fits λins=>by unfold eO.c;split;exact eO.goal _ _;trivial)
theorem fO.ok:KO 220 fO.c bR:=meets bH (all_cons iH.ok (all_cons kX.ok (all_cons dZ.ok (all_cons eW.ok (all_cons kp.ok (all_cons tj.ok (all_cons eU.ok (all_cons eO.ok all_nil)))))))) fO.h (fits λins=>by unfold fO.c;split;exact fO.goal _ _;trivial)
theorem qC.ok:KO 102 qC.c bC:=meets bH all_nil (.o) (fits λins=>by unfold qC.c;split;exact qC.goal _ _ _ _;trivial)
theorem eD.ok:KO 103 eD.c bC:=meets bH all_nil eD.h (fits λins=>by unfold eD.c;split;exact eD.goal _ _;trivial)
theorem bO.ok:KO 66 bO.c bC:=meets bH (all_cons qC.ok (all_cons eD.ok all_nil)) bO.h (fits λins=>by unfold bO.c;split;exact bO.goal _;trivial)
theorem kG.ok:KO 95 kG.c bC:=meets bH (all_cons dr.ok all_nil) (.o) (fits λins=>by unfold kG.c;split;exact kG.goal _;trivial)
theorem hO.ok:KO 93 hO.c lZ:=meets bH all_nil (.o) (fits λins=>by unfold hO.c;split;exact hO.goal _;trivial)
theorem dL.ok:KO 158 dL.c nv:=meets bH all_nil dL.h (fits λins=>by unfold dL.c;split;exact dL.goal _ _;trivial)
theorem bE.ok:KO 125 bE.c bR:=meets bH (all_cons dL.ok all_nil) bE.h (fits λins=>by unfold bE.c;split;exact bE.goal _ _;trivial)
theorem jj.ok:KO 128 jj.c bC:=meets bH all_nil (.o) (fits λins=>by unfold jj.c;split;exact jj.goal _ _ _ _;trivial)
theorem jD.ok:KO 108 jD.c lZ:=meets bH all_nil (.o) (fits λins=>by unfold jD.c;split;exact jD.goal _;trivial)
theorem dw.ok:KO 184 dw.c bC:=meets bH (all_cons jc.ok (all_cons jE.ok all_nil)) dw.h (fits λins=>by unfold dw.c;split;exact dw.goal _ _;trivial)
theorem cW.ok:KO 236 cW.c cW.sg:=meets bH all_nil cW.h (fits λins=>by unfold cW.c;split;exact cW.goal _;trivial)
theorem dR.ok:KO 218 dR.c bC:=meets bH (all_cons og.ok (all_cons jU.ok (all_cons jc.ok (all_cons gC.ok (all_cons cW.ok (all_cons tm.ok all_nil)))))) dR.h (fits λins=>by unfold dR.c;split;exact dR.goal _;trivial)
theorem iW.ok:KO 77 iW.c bC:=meets bH (all_cons mu.ok all_nil) (.o) (fits λins=>by unfold iW.c;split;exact iW.goal _;trivial)
theorem jL.ok:KO 180 jL.c bR:=meets bH (all_cons dZ.ok (all_cons eW.ok all_nil)) (.o) (fits λins=>by unfold jL.c;split;exact jL.goal _ _ _;trivial)
theorem js.ok:KO 150 js.c bC:=meets bH (all_cons jL.ok (all_cons kJ.ok all_nil)) (.o) (fits λins=>by unfold js.c;split;exact js.goal _ _ _;trivial)
theorem jr.ok:KO 183 jr.c gA:=meets bH (all_cons dR.ok (all_cons kp.ok (all_cons fO.ok all_nil))) (.o) (fits λins=>by unfold jr.c;split;exact jr.goal _ _ _;trivial)
theorem kN.ok:KO 151 kN.c gA:=meets bH (all_cons iH.ok (all_cons mK.ok (all_cons jL.ok (all_cons kJ.ok (all_cons lI.ok (all_cons jr.ok (all_cons dw.ok all_nil))))))) (.o) (fits λins=>by unfold kN.c;split;exact kN.goal _ _ _ _ _;trivial)
theorem cj.ok:KO 118 cj.c gA:=meets bH (all_cons jD.ok (all_cons iH.ok (all_cons mK.ok (all_cons jT.ok (all_cons js.ok (all_cons kN.ok all_nil)))))) cj.h (fits λins=>by unfold cj.c;split;exact cj.goal _;trivial)
theorem fN.ok:KO 119 fN.c bC:=meets bH (all_cons iW.ok (all_cons jU.ok all_nil)) fN.h (fits λins=>by unfold fN.c;split;exact fN.goal _ _;trivial)
theorem fy.ok:KO 84 fy.c bC:=meets bH (all_cons jD.ok (all_cons cj.ok (all_cons fN.ok all_nil))) fy.h (fits λins=>by unfold fy.c;split;exact fy.goal _;trivial)
theorem gj.ok:KO 126 gj.c bR:=meets bH all_nil gj.h (fits λins=>by unfold gj.c;split;exact gj.goal _ _;trivial)
theorem ji.ok:KO 127 ji.c bC:=meets bH all_nil (.o) (fits λins=>by unfold ji.c;split;exact ji.goal _ _ _;trivial)
theorem bW.ok:KO 94 bW.c gA:=meets bH (all_cons hO.ok (all_cons bE.ok (all_cons gj.ok (all_cons ji.ok (all_cons jj.ok all_nil))))) bW.h (fits λins=>by unfold bW.c;split;exact bW.goal _;trivial)
theorem bG.ok:KO 56 bG.c bC:=meets bH (all_cons hO.ok (all_cons bW.ok (all_cons kG.ok all_nil))) bG.h (fits λins=>by unfold bG.c;split;exact bG.goal _;trivial)
theorem ft.ok:KO 156 ft.c bC:=meets bH (all_cons tw.ok all_nil) (.o) (fits λins=>by unfold ft.c;split;exact ft.goal _ _;trivial)
theorem gw.ok:KO 82 gw.c bC:=meets bH all_nil (.o) (fits λins=>by unfold gw.c;split;exact gw.goal _ _;trivial)
theorem fL.ok:KO 43 fL.c bC:=meets bH (all_cons gw.ok all_nil) (.o) (fits λins=>by unfold fL.c;split;exact fL.goal _ _;trivial)
theorem fK.ok:KO 137 fK.c bC:=meets bH (all_cons fM.ok all_nil) (.o) (fits λins=>by unfold fK.c;split;exact fK.goal _ _;trivial)
theorem ky.ok:KO 222 ky.c bR:=meets bH all_nil (.o) (fits λins=>by unfold ky.c;split;exact ky.goal _ _;trivial)
theorem iD.ok:KO 225 iD.c bC:=meets bH (all_cons bits_Len64.ok all_nil) (.o) (fits λins=>by unfold iD.c;split;exact iD.goal _;trivial)
theorem bV.ok:KO 191 bV.c bR:=meets bH (all_cons iD.ok all_nil) bV.h (fits λins=>by unfold bV.c;split;exact bV.goal _ _ _;trivial)
theorem mq.ok:KO 153 mq.c bC:=meets bH all_nil (.o) (fits λins=>by unfold mq.c;split;exact mq.goal (.mk _ _) (.mk _ _);trivial)
theorem mj.ok:KO 190 mj.c bC:=meets bH (all_cons ky.ok all_nil) (.o) (fits λins=>by unfold mj.c;split;exact mj.goal _ _;trivial)
theorem mo.ok:KO 155 mo.c gA:=meets bH (all_cons bV.ok all_nil) (.o) (fits λins=>by unfold mo.c;split;exact mo.goal (.mk _ _) _;trivial)
theorem dK.ok:KO 123 dK.c bC:=meets bH (all_cons jU.ok (all_cons mo.ok (all_cons ft.ok (all_cons kX.ok all_nil)))) dK.h (fits λins=>by unfold dK.c;split;exact dK.goal (.mk _ _);trivial)
theorem jQ.ok:KO 154 jQ.c bC:=meets bH (all_cons mj.ok all_nil) (.o) (fits λins=>by unfold jQ.c;split;exact jQ.goal;trivial)
theorem fi.ok:KO 120 fi.c lZ:=meets bH (all_cons mq.ok (all_cons jQ.ok all_nil)) fi.h (fits λins=>by unfold fi.c;split;exact fi.goal _ _;trivial)
theorem gp.ok:KO 121 gp.c gA:=meets bH (all_cons mq.ok (all_cons jQ.ok all_nil)) gp.h (fits λins=>by unfold gp.c;split;exact gp.goal _ (.mk _ _) _;trivial)
theorem jC.ok:KO 86 jC.c bC:=meets bH (all_cons fi.ok (all_cons gp.ok all_nil)) (.o) (fits λins=>by unfold jC.c;split;exact jC.goal _ _;trivial)
theorem eP.ok:KO 122 eP.c bC:=meets bH (all_cons og.ok (all_cons jU.ok all_nil)) eP.h (fits λins=>by unfold eP.c;split;exact eP.goal _ _;trivial)
theorem gn.ok:KO 87 gn.c bC:=meets bH (all_cons fi.ok (all_cons eP.ok (all_cons dK.ok all_nil))) gn.h (fits λins=>by unfold gn.c;split;exact gn.goal _ _;trivial)
theorem eh.ok:KO 88 eh.c bC:=meets bH all_nil eh.h (fits λins=>by unfold eh.c;split;exact eh.goal _;trivial)
theorem lF.ok:KO 47 lF.c bC:=meets bH all_nil (.o) (fits λins=>by unfold lF.c;split;exact lF.goal _;trivial)
theorem lH.ok:KO 48 lH.c bC:=meets bH (all_cons iW.ok all_nil) (.o) (fits λins=>by unfold lH.c;split;exact lH.goal _;trivial)
theorem lG.ok:KO 44 lG.c bC:=meets bH all_nil (.o) (fits λins=>by unfold lG.c;split;exact lG.goal _ (.mk _ _ _);trivial)
theorem lE.ok:KO 46 lE.c bC:=meets bH all_nil (.o) (fits λins=>by unfold lE.c;split;exact lE.goal _ (.mk _ _ _) _ (.mk _ _ _);trivial)
theorem fE.ok:KO 85 fE.c bC:=meets bH (all_cons dE.ok all_nil) fE.h (fits λins=>by unfold fE.c;split;exact fE.goal _;trivial)
theorem iG.ok:KO 49 iG.c bR:=meets bH (all_cons lG.ok (all_cons lE.ok (all_cons lF.ok (all_cons lH.ok (all_cons iW.ok (all_cons fy.ok (all_cons fE.ok (all_cons jC.ok (all_cons gn.ok all_nil))))))))) (.o) (fits λins=>by unfold iG.c;split;exact iG.goal (.mk _ _ _ _ _ _ _ _ _);trivial)
theorem kT.ok:KO 50 kT.c bC:=meets bH (all_cons lG.ok (all_cons lE.ok (all_cons lF.ok (all_cons eh.ok (all_cons dE.ok all_nil))))) (.o) (fits λins=>by unfold kT.c;split;exact kT.goal (.mk _ _ _ _ _ _ _ _ _);trivial)
theorem Yr.Bv:∀n:Nat,(KO 18 (cS.cn n) cS.sg)/\(KO 29 (eS.cn n) bC):=by
 intro n;induction n with
 |zero=>exact⟨jh (by intro ti np h;unfold cS.cn at h;split at h;exact absurd (aQ.1 h.1).2 (by simp);exact h.elim),jh (by intro ti np h;unfold eS.cn at h;split at h;exact absurd (aQ.1 h.1).2 (by simp);exact h.elim)⟩
 |succ n ih=>obtain⟨CT,R9⟩:=ih;exact⟨meets bH (all_cons R9 all_nil) cS.h (fits λins=>by unfold cS.cn;split;exact cS.goal _ _;trivial),meets bH (all_cons CT (all_cons fL.ok (all_cons lG.ok (all_cons cI.ok (all_cons lE.ok (all_cons lF.ok (all_cons lH.ok (all_cons iG.ok (all_cons kT.ok all_nil))))))))) eS.h (fits λins=>by unfold eS.cn;split;exact eS.goal _ (.mk _ _ _ _ _ _ _ _ _);trivial)⟩
theorem cS.ok:KO 18 cS.c cS.sg:=jo λti np h=>by unfold cS.c at h;split at h;{obtain⟨hp,rfl⟩:=h;exact⟨cS.cn (_+1),(Yr.Bv _).1,aQ.2 ⟨hp,aa (Nat.lt_succ_self _)⟩,rfl⟩};{exact h.elim}
theorem jS.ok:KO 7 jS.c bR:=meets bH (all_cons gJ.ok (all_cons cS.ok all_nil)) (.o) (fits λins=>by unfold jS.c;split;exact jS.goal (.mk _ _ _ _ _ _ _ _ _);trivial)
theorem nY.ok:KO 67 nY.c bC:=meets bH (all_cons gP.ok all_nil) (.o) (fits λins=>by unfold nY.c;split;exact nY.goal _;trivial)
theorem Qe.Bv:∀n:Nat,(KO 32 (cJ.cn n) bC):=by
 intro n;induction n with
 |zero=>exact jh (by intro ti np h;unfold cJ.cn at h;split at h;exact absurd (aQ.1 h.1).2 (by simp);exact h.elim)
 |succ n ih=>have CT:=ih;exact meets bH (all_cons CT (all_cons bO.ok (all_cons nY.ok all_nil))) cJ.h (fits λins=>by unfold cJ.cn;split;exact cJ.goal _ (.mk _ _ _);trivial)
theorem cJ.ok:KO 32 cJ.c bC:=jo λti np h=>by unfold cJ.c at h;split at h;{obtain⟨hp,rfl⟩:=h;exact⟨cJ.cn (_+1),(Qe.Bv _),aQ.2 ⟨hp,aa (Nat.lt_succ_self _)⟩,rfl⟩};{exact h.elim}
theorem da.ok:KO 104 da.c bR:=meets bH (all_cons nY.ok (all_cons dE.ok (all_cons fK.ok all_nil))) da.h (fits λins=>by unfold da.c;split;exact da.goal _;trivial)
theorem iE.ok:KO 68 iE.c nv:=meets bH (all_cons da.ok all_nil) (.o) (fits λins=>by unfold iE.c;split;exact iE.goal _ _;trivial)
theorem WI.Bv:∀n:Nat,(KO 33 (cX.cn n) nv):=by
 intro n;induction n with
 |zero=>exact jh (by intro ti np h;unfold cX.cn at h;split at h;exact absurd (aQ.1 h.1).2 (by simp);exact h.elim)
 |succ n ih=>have CT:=ih;exact meets bH (all_cons CT (all_cons iE.ok all_nil)) cX.h (fits λins=>by unfold cX.cn;split;exact cX.goal _ _ (.mk _ _ _);trivial)
theorem cX.ok:KO 33 cX.c nv:=jo λti np h=>by unfold cX.c at h;split at h;{obtain⟨hp,rfl⟩:=h;exact⟨cX.cn (_+1),(WI.Bv _),aQ.2 ⟨hp,aa (Nat.lt_succ_self _)⟩,rfl⟩};{exact h.elim}
theorem jz.ok:KO 21 jz.c bR:=meets bH (all_cons cJ.ok (all_cons cX.ok all_nil)) (.o) (fits λins=>by unfold jz.c;split;exact jz.goal (.mk _ _ _);trivial)
theorem jR.ok:KO 9 jR.c bR:=meets bH (all_cons jS.ok (all_cons jz.ok all_nil)) (.o) (fits λins=>by unfold jR.c;split;exact jR.goal (.mk _ _ _ _ _ _ _ _ _);trivial)
theorem TG.Bv:∀n:Nat,(KO 12 (dv.cn n) bC):=by
 intro n;induction n with
 |zero=>exact jh (by intro ti np h;unfold dv.cn at h;split at h;exact absurd (aQ.1 h.1).2 (by simp);exact h.elim)
 |succ n ih=>have CT:=ih;exact meets bH (all_cons CT all_nil) dv.h (fits λins=>by unfold dv.cn;split;exact dv.goal _ (.mk _ _ _) (.mk _ _ _);trivial)
theorem dv.ok:KO 12 dv.c bC:=jo λti np h=>by unfold dv.c at h;split at h;{obtain⟨hp,rfl⟩:=h;exact⟨dv.cn (_+1),(TG.Bv _),aQ.2 ⟨hp,aa (Nat.lt_succ_self _)⟩,rfl⟩};{exact h.elim}
theorem jk.ok:KO 99 jk.c bC:=meets bH all_nil (.o) (fits λins=>by unfold jk.c;split;exact jk.goal _;trivial)
theorem dU.ok:KO 159 dU.c pf:=meets bH all_nil dU.h (fits λins=>by unfold dU.c;split;exact dU.goal _ _;trivial)
theorem cY.ok:KO 129 cY.c bC:=meets bH (all_cons dU.ok all_nil) cY.h (fits λins=>by unfold cY.c;split;exact cY.goal _ _;trivial)
theorem cm.ok:KO 62 cm.c bC:=meets bH all_nil cm.h (fits λins=>by unfold cm.c;split;exact cm.goal _;trivial)
theorem kO.ok:KO 11 kO.c bC:=meets bH (all_cons cK.ok all_nil) (.o) (fits λins=>by unfold kO.c;split;exact kO.goal (.mk _ _ _) (.mk _ _ _);trivial)
theorem mz.ok:KO 160 mz.c bC:=meets bH all_nil (.o) (fits λins=>by unfold mz.c;split;exact mz.goal (.mk _ _) (.mk _ _);trivial)
theorem fh.ok:KO 133 fh.c lZ:=meets bH (all_cons mz.ok (all_cons oG.ok all_nil)) fh.h (fits λins=>by unfold fh.c;split;exact fh.goal _ _;trivial)
theorem gk.ok:KO 134 gk.c gA:=meets bH (all_cons mz.ok (all_cons oG.ok all_nil)) gk.h (fits λins=>by unfold gk.c;split;exact gk.goal _ (.mk _ _) _;trivial)
theorem jt.ok:KO 100 jt.c bC:=meets bH (all_cons fh.ok (all_cons gk.ok all_nil)) (.o) (fits λins=>by unfold jt.c;split;exact jt.goal _ _;trivial)
theorem dn.ok:KO 136 dn.c bC:=meets bH all_nil dn.h (fits λins=>by unfold dn.c;split;exact dn.goal _;trivial)
theorem cN.ok:KO 101 cN.c bC:=meets bH (all_cons kG.ok (all_cons fh.ok (all_cons dH.ok (all_cons dn.ok all_nil)))) cN.h (fits λins=>by unfold cN.c;split;exact cN.goal _ _;trivial)
theorem jw.ok:KO 130 jw.c bC:=meets bH all_nil (.o) (fits λins=>by unfold jw.c;split;exact jw.goal _;trivial)
theorem jx.ok:KO 131 jx.c bC:=meets bH (all_cons jw.ok all_nil) (.o) (fits λins=>by unfold jx.c;split;exact jx.goal _ _;trivial)
theorem fB.ok:KO 132 fB.c bC:=meets bH (all_cons dr.ok all_nil) fB.h (fits λins=>by unfold fB.c;split;exact fB.goal _ _;trivial)
theorem bT.ok:KO 98 bT.c bR:=meets bH (all_cons jw.ok (all_cons jx.ok (all_cons fB.ok all_nil))) bT.h (fits λins=>by unfold bT.c;split;exact bT.goal _;trivial)
theorem cD.ok:KO 71 cD.c bR:=meets bH (all_cons eH.ok (all_cons fk.ok all_nil)) cD.h (fits λins=>by unfold cD.c;split;exact cD.goal _;trivial)
theorem Jv.Bv:∀n:Nat,(KO 35 (b9.cn n) bC):=by
 intro n;induction n with
 |zero=>exact jh (by intro ti np h;unfold b9.cn at h;split at h;exact absurd (aQ.1 h.1).2 (by simp);exact h.elim)
 |succ n ih=>have CT:=ih;exact meets bH (all_cons CT (all_cons cD.ok all_nil)) b9.h (fits λins=>by unfold b9.cn;split;exact b9.goal _ (.mk _ _ _);trivial)
theorem b9.ok:KO 35 b9.c bC:=jo λti np h=>by unfold b9.c at h;split at h;{obtain⟨hp,rfl⟩:=h;exact⟨b9.cn (_+1),(Jv.Bv _),aQ.2 ⟨hp,aa (Nat.lt_succ_self _)⟩,rfl⟩};{exact h.elim}
theorem iC.ok:KO 22 iC.c bR:=meets bH (all_cons cw.ok (all_cons b9.ok all_nil)) (.o) (fits λins=>by unfold iC.c;split;exact iC.goal (.mk _ _ _);trivial)
theorem jM.ok:KO 58 jM.c bC:=meets bH all_nil (.o) (fits λins=>by unfold jM.c;split;exact jM.goal _;trivial)
theorem kR.ok:KO 55 kR.c bC:=meets bH all_nil (.o) (fits λins=>by unfold kR.c;split;exact kR.goal _;trivial)
theorem kQ.ok:KO 97 kQ.c bC:=meets bH all_nil (.o) (fits λins=>by unfold kQ.c;split;exact kQ.goal _;trivial)
theorem iX.ok:KO 59 iX.c bC:=meets bH (all_cons kQ.ok all_nil) (.o) (fits λins=>by unfold iX.c;split;exact iX.goal _ (.mk _ _ _);trivial)
theorem kP.ok:KO 61 kP.c bC:=meets bH (all_cons kQ.ok all_nil) (.o) (fits λins=>by unfold kP.c;split;exact kP.goal _ (.mk _ _ _) _ (.mk _ _ _);trivial)
theorem jN.ok:KO 96 jN.c bC:=meets bH (all_cons eH.ok (all_cons cY.ok all_nil)) (.o) (fits λins=>by unfold jN.c;split;exact jN.goal _;trivial)
theorem jv.ok:KO 54 jv.c bC:=meets bH (all_cons bG.ok (all_cons bN.ok (all_cons hO.ok all_nil))) (.o) (fits λins=>by unfold jv.c;split;exact jv.goal _;trivial)
theorem gL.ok:KO 57 gL.c bC:=meets bH (all_cons bG.ok (all_cons jM.ok (all_cons iX.ok (all_cons hO.ok (all_cons jN.ok all_nil))))) (.o) (fits λins=>by unfold gL.c;split;exact gL.goal _;trivial)
theorem dm.ok:KO 65 dm.c bC:=meets bH (all_cons kR.ok (all_cons jM.ok (all_cons iX.ok (all_cons kG.ok (all_cons jN.ok (all_cons bT.ok (all_cons jk.ok (all_cons jt.ok (all_cons cN.ok all_nil))))))))) dm.h (fits λins=>by unfold dm.c;split;exact dm.goal (.mk _ _ _ _ _ _ _ _ _) _;trivial)
theorem r25.Bv:∀n:Nat,(KO 20 (cV.cn n) bC)/\(KO 31 (dz.cn n) bC):=by
 intro n;induction n with
 |zero=>exact⟨jh (by intro ti np h;unfold cV.cn at h;split at h;exact absurd (aQ.1 h.1).2 (by simp);exact h.elim),jh (by intro ti np h;unfold dz.cn at h;split at h;exact absurd (aQ.1 h.1).2 (by simp);exact h.elim)⟩
 |succ n ih=>obtain⟨CT,R9⟩:=ih;exact⟨meets bH (all_cons R9 all_nil) cV.h (fits λins=>by unfold cV.cn;split;exact cV.goal _ _ _;trivial),meets bH (all_cons CT (all_cons R9 (all_cons jv.ok (all_cons kR.ok (all_cons bG.ok (all_cons gL.ok (all_cons jM.ok (all_cons iX.ok (all_cons cC.ok (all_cons kP.ok (all_cons cm.ok (all_cons eH.ok (all_cons dr.ok (all_cons dm.ok all_nil)))))))))))))) dz.h (fits λins=>by unfold dz.cn;split;exact dz.goal _ (.mk _ _ _ _ _ _ _ _ _) _;trivial)⟩
theorem cV.ok:KO 20 cV.c bC:=jo λti np h=>by unfold cV.c at h;split at h;{obtain⟨hp,rfl⟩:=h;exact⟨cV.cn (_+1),(r25.Bv _).1,aQ.2 ⟨hp,aa (Nat.lt_succ_self _)⟩,rfl⟩};{exact h.elim}
theorem iM.ok:KO 8 iM.c bR:=meets bH (all_cons gi.ok (all_cons cV.ok all_nil)) (.o) (fits λins=>by unfold iM.c;split;exact iM.goal (.mk _ _ _ _ _ _ _ _ _) _;trivial)
theorem ju.ok:KO 10 ju.c bR:=meets bH (all_cons iM.ok (all_cons iC.ok all_nil)) (.o) (fits λins=>by unfold ju.c;split;exact ju.goal (.mk _ _ _ _ _ _ _ _ _) _;trivial)
def gm.c:dD:=λl=>match l with|[]=>.ok [(.b (true))]|_=>.err
def gm.E:cH:=dc gH zs [(9,(jR.c,bR))]
def gm.F:OT:=cq PG gm.E 5 bC (.o) []
theorem gm.bU{ρ:OT}(K:∀(v1:List bJ)(h1:v1=([(bJ.mk ([97]:bD) 16 1 0 0 [] [] 0 [] [])]:List bJ))(v2:bD)(h2:v2=(Cn.vK (Val.mk 3 0 0 0 [] [] 0 [] v1)))(v3:Int)(h3:v3=((Cn.lK (Val.mk 3 0 0 0 [] [] 0 [] v1)).2))(v4:List Int)(h4:v4=((Cn.lK (Val.mk 3 0 0 0 [] [] 0 [] v1)).1))(v5:Bool)(h5:v5=(decide (v2=([123,34,97,34,58,123,34,36,110,117,109,98,101,114,73,110,116,34,58,34,49,34,125,125]:bD))))(v6:Bool)(h6:v6=(cond (decide (v3=(0:Int))) v5 false)),ck (decide (bJ.bL (bJ.of [] (Val.mk 3 0 0 0 [] [] 0 [] v1))<=100000)) (ck (!(decide (v3=(0:Int)))||(decide (v3=(0:Int)))) (ck (!(decide (v3=(0:Int)))||(decide (v3=(0:Int)))) (some [(.b v6)])))=ρ):gm.F=ρ:=Eq.trans (by kernel_rfl) (K _ rfl _ rfl _ rfl _ rfl _ rfl _ rfl)
end Go.Eng
namespace Go.Eng
open Go.IntWalk
theorem NW:Nr.itoa (Cn.i32 1)=[49]:=by have e:Cn.i32 1=1:=by{decide+kernel};rw[e,Nr.kt,ao (by decide),show(1:Int).natAbs=1 from rfl,Nr.lr (by omega)];rfl
def Pj:Val:=⟨3,0,0,0,[],[],0,[],[.mk [97] 16 1 0 0 [] [] 0 [] []]⟩
theorem Fs:Cn.fY Pj=([],0):=by decide+kernel
theorem GK:Cn.lN Pj=⟨7,[],[.mk [97] 7 [] [.mk [36,110,117,109,98,101,114,73,110,116] 5 [49] []]]⟩:=by unfold Cn.lN;rw[Fs,ar rfl];unfold Cn.ug Pj;simp only[Cn.ja,Cn.oX,Cn.lx,Cn.mC];simp[Cn.one,Cn.str,Mem.of,NW,bJ.name]
theorem LP:Cn.iA (Cn.lN Pj)=0:=by rw[GK];simp only[Cn.iA,Mem.of,Cn.rI,Cn.ko,Mem.name];have h1:dy.whole [97]=true:=by{decide+kernel};have h2:dy.whole [36,110,117,109,98,101,114,73,110,116]=true:=by{decide+kernel};have h3:dy.whole [49]=true:=by{decide+kernel};simp[h1,h2,h3]
theorem RL:Cn.rq (Cn.lN Pj)=[123,34,97,34,58,123,34,36,110,117,109,98,101,114,73,110,116,34,58,34,49,34,125,125]:=by rw[GK];decide+kernel
theorem gm.goal:gm.F=some [.b true]:=by refine gm.bU ?_;intro v1 h1 v2 h2 v3 h3 v4 h4 v5 h5 v6 h6;have e0:(⟨3,0,0,0,[],[],0,[],v1⟩:Val)=Pj:=by{rw[h1];rfl};rw[e0]at h2 h3 h4⊢;have eE:Cn.lK Pj=([],0):=by{unfold Cn.lK;rw[Fs,ao (by simp),LP]};have eV:Cn.vK Pj=[123,34,97,34,58,123,34,36,110,117,109,98,101,114,73,110,116,34,58,34,49,34,125,125]:=by{unfold Cn.vK Cn.oH;rw[Fs,ao (by simp),LP,RL];rfl};have e6:v6=true:=by{rw[h6,h5,h3,h2,eE,eV];rfl};rw[bB (by decide+kernel),ie,ie,e6]
end Go.Eng
namespace Go.Eng
open Go.Proofs
theorem gm.ok:KO 5 gm.c bC:=meets bH (all_cons jR.ok all_nil) (.o) (fits λins=>by unfold gm.c;split;exact gm.goal;trivial)
def CanonWrites.c:dD:=λl=>match l with|[.ag [.i .i64 j8,.u64 kb,.u64 j9,.u64 j7,.s jY,.s j0,.i .i64 jZ,.sl .bs jX,.sl .fl ka]]=>.ok [(.b (true))]|_=>.err
def CanonWrites.E:cH:=dc gH zs [(5,(gm.c,bC)),(6,(gO.c,bC)),(7,(jS.c,bR)),(8,(iM.c,bR)),(9,(jR.c,bR)),(10,(ju.c,bR)),(11,(kO.c,bC)),(12,(dv.c,bC))]
def CanonWrites.F(v:Val):OT:=cq PG CanonWrites.E 3 bC (.o) [(.ag (Val.cells v))]
theorem CanonWrites.bU(v:Val){ρ:OT}(K:∀(v1:Bool)(h1:v1=((decide (((vF.mk (Cn.fY v).2 0 (Cn.fY v).1)).err=((vF.mk (Cn.fY v).2 0 (Cn.fY v).1)).err)&&(decide (((vF.mk (Cn.fY v).2 0 (Cn.fY v).1)).at_=((vF.mk (Cn.fY v).2 0 (Cn.fY v).1)).at_)&&decide (((vF.mk (Cn.fY v).2 0 (Cn.fY v).1)).path=((vF.mk (Cn.fY v).2 0 (Cn.fY v).1)).path)))))(v2:Bool)(h2:v2=(Cn.qR (Cn.lN v) ((Wq.json false v))))(v3:Bool)(h3:v3=(cond (cond v1 v2 false) (decide ((Cn.vK v)=((Wq.text false v)))) false))(v4:Bool)(h4:v4=((decide (((vF.mk (Cn.lK v).2 0 (Cn.lK v).1)).err=((vF.mk (Cn.fY v).2 0 (Cn.fY v).1)).err)&&(decide (((vF.mk (Cn.lK v).2 0 (Cn.lK v).1)).at_=((vF.mk (Cn.fY v).2 0 (Cn.fY v).1)).at_)&&decide (((vF.mk (Cn.lK v).2 0 (Cn.lK v).1)).path=((vF.mk (Cn.fY v).2 0 (Cn.fY v).1)).path))))),cond (!(true)) (some [(.b false)]) (cond (!(decide (0<=fZ.value 1200 (bJ.of [] v)))) (some [(.b true)]) (ck (decide (bJ.bL (bJ.of [] v)<=1099511627776)) (ck (decide (bJ.bL (bJ.of [] v)<=1000000000)) (ck (decide (bJ.bL (bJ.of [] v)<=100000)) (ck (decide (bJ.bL (bJ.of [] v)<=100000)) (ck (decide (((vF.mk (Cn.fY v).2 0 (Cn.fY v).1)).path.length<=1099511627776)) (ck (!v1||((v1&&v1)&&(decide (cQ.bL (Cn.lN v)<=1099511627776)))) (ck (!v1||v1) (ck (!(cond v1 v2 false)||((cond v1 v2 false)&&(cond v1 v2 false))) (ck (!(cond v1 v2 false)||(cond v1 v2 false)) (ck (!v3||((v3&&v3)&&(decide (((vF.mk (Cn.lK v).2 0 (Cn.lK v).1)).path.length<=1099511627776)))) (ck (!v3||v3) (some [(.b (cond v3 v4 false))])))))))))))))=ρ):CanonWrites.F v=ρ:=Eq.trans (by kernel_rfl) (K _ rfl _ rfl _ rfl _ rfl)
end Go.Eng
namespace Go.Eng
open Go.IntWalk
theorem vG:∀(m:Nat)(l:bD),l.length<=m->(∀x∈l,x.toNat<128)->dy.look l=(l.length,l.length)
 |m,[],_,_=>by have:=dy.vh [] (by decide);rw[this];rfl
 |0,_::_,h,_=>by simp at h
 |m+1,c::r,h,ha=>by have hc:=ha c (List.mem_cons_self ..);have e:(dy.rune (c::r)).2=1:=by{simp[dy.rune,hc]};rw[dy.vg _ (by rw[e];decide),e];have ih:=vG m r (by simpa using h) λx hx=>ha x (List.mem_cons_of_mem _ hx);show((dy.look r).1+1,(dy.look r).2+1)=_;rw[ih,av]
theorem vS{l:bD}(h:∀x∈l,x.toNat<128):dy.whole l=true:=by unfold dy.whole;rw[vG l.length l (Nat.le_refl _) h];exact aa rfl
theorem Ae(n:Nat):∀x∈Nr.dec n,x.toNat<128:=λx hx=>(Nr.ui (aC.1 (Nr.lD n).1 x hx)).2.2.1
theorem sV(v:Int):∀x∈Nr.itoa v,x.toNat<128:=by rw[Nr.kt];split;{intro x hx;rcases aP.1 hx with rfl|hx;{decide};{exact Ae _ x hx}};{exact Ae _}
theorem B3:∀n,n<16->(kv.sign n).toNat<128:=by decide
theorem ox:∀l:bD,∀x∈kv.text l,x.toNat<128
 |[],x,hx=>by simp[kv.text]at hx
 |c::r,x,hx=>by have hc:=Eb c;rw[kv.text,List.mem_append]at hx;rcases hx with hx|hx;{simp only[kv.two,aP,List.not_mem_nil,or_false]at hx;rcases hx with rfl|rfl;{exact B3 _ (by omega)};{exact B3 _ (by omega)}};{exact ox r x hx}
theorem Rw:∀n,n<256->(Cn.sign (UInt8.ofNat n)).toNat<128:=by decide+kernel
theorem mI(c:UInt8):(Cn.sign c).toNat<128:=by have:=Rw c.toNat (Eb c);rwa[UInt8.ofNat_toNat]at this
theorem yL:∀l:bD,∀x∈Cn.base l,x.toNat<128
 |[],x,hx=>by simp[Cn.base]at hx
 |[a],x,hx=>by simp only[Cn.base,aP,List.not_mem_nil,or_false]at hx;rcases hx with rfl|rfl|rfl|rfl;{exact mI _};{exact mI _};{decide};{decide}
 |[a,b],x,hx=>by simp only[Cn.base,aP,List.not_mem_nil,or_false]at hx;rcases hx with rfl|rfl|rfl|rfl;{exact mI _};{exact mI _};{exact mI _};{decide}
 |a::b::c::r,x,hx=>by simp only[Cn.base,aP]at hx;rcases hx with rfl|rfl|rfl|rfl|hx;{exact mI _};{exact mI _};{exact mI _};{exact mI _};{exact yL r x hx}
theorem vN{t a b fr ex e:bD}(h:Nr.Shape t a b fr ex e):∀x∈t,x.toNat<128:=by have hb:Nr.body t=t:=by{have:=Sh.zm h;unfold Nr.body;split;{rw[List.getD_cons_zero]at this;exact absurd this (by decide)};{rfl}};have:=Nr.Shape.UC (s:=t) (by rw[hb];exact h);rw[hb]at this;exact λx hx=>aq (aC.1 this x hx)
theorem Dk(h l:UInt64):∀x∈Cn.qa h l,x.toNat<128:=by
 unfold Cn.qa;simp only;split;{decide}
 ·have ht:∀x∈(if(Cn.split h l).1=2 then([73,110,102,105,110,105,116,121]:bD)else Cn.laid (Nr.dec (Cn.split h l).2.2.1.val) (Cn.split h l).2.2.2),x.toNat<128:=by{split;{decide};{obtain⟨a,b,fr,ex,e,s,_⟩:=Dl (Cn.split h l).2.2.1.val (Cn.split h l).2.2.2;exact vN s}};cases(Cn.split h l).2.1 with
  |false=>exact ht
  |true=>intro x hx;rcases aP.1 hx with rfl|hx;{decide};{exact ht x hx}
theorem Ei(b:UInt64):∀x∈Sh.text b,x.toNat<128:=by by_cases c:(Nr.split b).1=4;{rw[Sh.xg c];decide};{rw[Sh.Az c];have hs:∀x∈Sh.sign b,x.toNat<128:=by{unfold Sh.sign;split<;>decide};have ht:∀x∈Sh.tb b,x.toNat<128:=by{unfold Sh.tb;split;{decide};split;{decide};{rename_i c3 c1;have sk:=oE b;obtain⟨⟨_,r2,r3,r4⟩,hL,hr⟩:=yy (b:=b) (by omega);obtain⟨a,b,fr,ex,e,s,_⟩:=Sh.sT hL r2 ⟨by omega,by omega⟩;exact vN s}};intro x hx;rcases List.mem_append.1 hx with hx|hx;{exact hs x hx};{exact ht x hx}}
theorem iY{s:bD}(h:dy.whole s=true):Cn.iA (Cn.str s)=0:=by simp[Cn.iA,Cn.str,Mem.of,Cn.rI,Cn.ko,h]
theorem Kh(v:Int):Nr.fC (Nr.itoa v)≠0:=by obtain⟨d1,d2,d3,d4⟩:=Nr.lD v.natAbs;have hb:Nr.body (Nr.itoa v)=Nr.dec v.natAbs:=by{rw[Nr.kt];split;{rfl};{have:=(K7 v.natAbs).1;unfold Nr.body;split;{rename_i e;rw[e]at this;exact(this rfl).elim};{rfl}}};have s:Nr.Shape (Nr.body (Nr.itoa v)) (Nr.dec v.natAbs) [] [] [] []:=⟨by rw[hb];simp,d3,d1,.inl ⟨rfl,rfl⟩,rfl,.inl ⟨rfl,rfl⟩,rfl⟩;refine Sh.rR s ?_;by_cases c:v.natAbs=0;{rw[c,Nr.lr (by omega)];exact .inl rfl};{exact .inr (d4 (by omega))}
theorem wT(v:Int)(h:Nr.i64 v=true):Cn.iA (Cn.num v)=0:=by have h1:=Kh v;have h2:(Nr.itoa v).length<=21:=by{have h:=aq h;rw[Nr.kt];have:=Nr.gY 20 v.natAbs (by rw[t20];omega) (by omega);split;{simp only[av];omega};{omega}};have h3:¬300<(Nr.itoa v).length:=by{omega};simp[Cn.iA,Cn.num,Mem.of,Cn.rI,Cn.ko,h1,h3]
theorem GD(n:bD)(j:cQ):Cn.rI (Mem.of n j)=Cn.iA j:=by cases j;simp only[Cn.iA,Mem.of,Cn.rI]
theorem o0{l:List Mem}(h:Cn.ko l=0):Cn.iA ⟨7,[],l⟩=0:=by simp[Cn.iA,Mem.of,Cn.rI,h]
theorem rG{n:bD}{j:cQ}{r:List Mem}(hn:dy.whole n=true)(hj:Cn.iA j=0)(hr:Cn.ko r=0):Cn.ko (Mem.of n j::r)=0:=by rw[Cn.ko,GD,ao (by rw[show(Mem.of n j).name=n from rfl,hn];simp),ao (by simp[hj]),hr]
theorem ir{n:bD}{j:cQ}(hn:dy.whole n=true)(hj:Cn.iA j=0):Cn.iA (Cn.one n j)=0:=o0 (rG hn hj rfl)
theorem um{n m:bD}{j k:cQ}(hn:dy.whole n=true)(hj:Cn.iA j=0)(hm:dy.whole m=true)(hk:Cn.iA k=0):Cn.iA (Cn.two n j m k)=0:=o0 (rG hn hj (rG hm hk rfl))
theorem yB{k:Int}(h:k=1\/k=2\/k=3):Cn.iA ⟨k,[],[]⟩=0:=by rcases h with rfl|rfl|rfl<;>simp[Cn.iA,Mem.of,Cn.rI,Cn.ko]
theorem Co{v:Val}(h:Tree.own v=0):dy.whole v.text=true/\dy.whole v.more=true:=by
 obtain⟨n,f⟩:=zA h;unfold Tree.own at h;rw[ao n,ao (by simp[f])]at h;by_cases c:Tree.fj v.text (decide (v.kind=11))=false\/Tree.fj v.more (decide (v.kind=11))=false;{rw[ar c]at h;exact absurd h (by decide)}
 ·have c1:Tree.fj v.text (decide (v.kind=11))=true:=by
   cases e:Tree.fj v.text (decide (v.kind=11))with
   |true=>rfl
   |false=>exact(c (.inl e)).elim
  have c2:Tree.fj v.more (decide (v.kind=11))=true:=by
   cases e:Tree.fj v.more (decide (v.kind=11))with
   |true=>rfl
   |false=>exact(c (.inr e)).elim
  unfold Tree.fj at c1 c2;rw[af]at c1 c2;exact⟨c1.1,c2.1⟩
theorem Lr{v:Val}(o:Tree.own v=0):Cn.iA (Cn.lx v)=0:=by obtain⟨n1,f1⟩:=zA o;obtain⟨t1,t2⟩:=Co o;obtain⟨_,_,_,_,_,_,_,_,b8,_⟩:=H3 f1;have w:∀{l:bD},(∀x∈l,x.toNat<128)->dy.whole l=true:=λh=>vS h;unfold Cn.lx;split;{exact ir (w (by decide)) (yB (.inr (.inr rfl)))};split;{rename_i c8;have q:=b8 c8;rw[aI]at q;have q:v.bits.toNat<2:=q;apply yB;unfold Cn.i64;rcases(show v.bits.toNat=0\/v.bits.toNat=1 by omega)with e|e<;>rw[e];{exact .inr (.inl (by decide))};{exact .inr (.inr (by decide))}};split;{exact yB (.inl rfl)};split;{exact ir (w (by decide)) (wT 1 (aa (by decide)))};split;{exact ir (w (by decide)) (wT 1 (aa (by decide)))};split;{unfold Cn.mC;split;{split;{exact ir (w (by decide)) (iY (w (ox _)))};{exact ir (w (by decide)) (iY (w (Ei _)))}};split;{exact ir (w (by decide)) (ir (w (by decide)) (iY (w (sV _))))};split;{exact ir (w (by decide)) (iY (w (sV _)))};split;{exact ir (w (by decide)) (iY (w (sV _)))};split;{exact ir (w (by decide)) (um (w (by decide)) (wT _ (py _)) (w (by decide)) (wT _ (py _)))};split;{split;{exact ir (w (by decide)) (iY (w (Dk _ _)))};{refine ir (w (by decide)) (iY (w λx hx=>?_));rcases List.mem_append.1 hx with hx|hx<;>exact ox _ x hx}};{rename_i c1 c9 c16 c18 c17 c19 _ _;rename_i hn _;unfold Cn.mC at*;simp_all}};{unfold Cn.nq;split;{exact ir (w (by decide)) (um (w (by decide)) (iY (w (yL _))) (w (by decide)) (iY (w (ox _))))};split;{exact ir (w (by decide)) (iY (w (ox _)))};split;{exact ir (w (by decide)) (um (w (by decide)) (iY t1) (w (by decide)) (iY t2))};split;{exact ir (w (by decide)) (um (w (by decide)) (iY t1) (w (by decide)) (ir (w (by decide)) (iY (w (ox _)))))};split;{exact ir (w (by decide)) (iY t1)};split;{exact ir (w (by decide)) (iY t1)};{exact iY t1}}
end Go.Eng
namespace Go.Eng
theorem xt:(m:Mem)->Cn.vP m m=true
 |.mk n k t ks=>by
  have:∀l:List Mem,(∀x∈l,Cn.vP x x=true)->Cn.mw l l=true:=by
   intro l;induction l with
   |nil=>intro _;simp[Cn.mw]
   |cons x r ih=>intro h;simp[Cn.mw,h x (List.mem_cons_self ..),ih λy hy=>h y (List.mem_cons_of_mem _ hy)]
  have h:=this ks λx _=>xt x;simp[Cn.vP,h]
theorem Es(j:cQ):Cn.qR j j=true:=xt _
open Go.IntWalk
theorem Hk{v:Val}{n:bD}(h:Tree.si v n=0):dy.whole n=true:=by
 unfold Tree.si at h;by_cases c:Tree.own v=0
 ·rw[ao (by simp[c])]at h;cases e:Tree.fj n true with
  |false=>rw[ar e]at h;exact absurd h (by decide)
  |true=>unfold Tree.fj at e;rw[af]at e;exact e.1
 {rw[ar c]at h;exact(c h).elim}
theorem Ii{f:bJ}{p:List Int}(c:(Tree.fW f p).2=0):dy.whole f.name=true:=by
 cases f with
 |mk n k b h l t m s y ks=>rw[Tree.fW]at c;by_cases d:Tree.si ⟨k,b,h,l,t,m,s,y,ks⟩ n=0;{exact Hk d};{rw[ar d]at c;exact(d c).elim}
theorem yz:∀l:List Mem,Cn.ko l=0->Cn.ko (l.map Cn.pE)=0/\((l.map Cn.pE).any λm=>!decide (m.name=[]))=false
 |[],_=>⟨rfl,rfl⟩
 |m::r,h=>by obtain⟨_,h2,h3⟩:=Jp.Lp h;obtain⟨i1,i2⟩:=yz r h3;have hj:Cn.iA m.val=0:=by{rw[<-GD m.name m.val,Jp.Hw];exact h2};refine⟨rG (by decide) hj i1,?_⟩;rw[bc,List.any_cons,i2];rfl
mutual
theorem NN:∀(f:bJ)(p:List Int),(Tree.fW f p).2=0->Cn.iA (Cn.oX f)=0
 |.mk n k b h l t m s y ks,p,c=>by
  obtain⟨o,cl⟩:=lV c
  obtain⟨t1,t2⟩:=Co o
  have hm:=yA ks 0 p cl
  have w:∀{l:bD},(∀x∈l,x.toNat<128)->dy.whole l=true:=fun h=>vS h
  rw[Cn.oX]
  split
  ·cases Cn.mW ks with
   |true=>exact ir (w (by decide)) (o0 hm)
   |false=>exact o0 hm
  split
  ·cases Tree.regular ks with
   |true=>
    obtain⟨i1,i2⟩:=yz _ hm
    rw[au]
    simp only[Cn.iA,Mem.of,Cn.rI]
    rw[ao (by decide),ao (by simp),ao (by simp),ao (by simp[i2]),ao (by simp),ao (by simp),i1]
   |false=>exact ir (w (by decide)) (o0 hm)
  split
  ·exact um (w (by decide)) (iY t1) (w (by decide)) (o0 hm)
  ·exact Lr o
theorem yA:∀(l:List bJ)(i:Nat)(p:List Int),(Tree.lj l i p).2=0->Cn.ko (Cn.ja l)=0
 |[],_,_,_=>by simp[Cn.ja,Cn.ko]
 |f::r,i,p,c=>by
  obtain⟨c1,c2⟩:=sY c
  rw[Cn.ja]
  exact rG (Ii c1) (NN f _ c1) (yA r _ p c2)
end
theorem Fc{v:Val}(h:(Cn.fY v).2=0):v.kind=3/\(Tree.fW (bJ.of [] v) []).2=0:=by unfold Cn.fY at h;by_cases c:(Tree.fW (bJ.of [] v) []).2=0;{rw[ao (by simp[c])]at h;by_cases d:v.kind=3;{exact⟨d,c⟩};{rw[ao d]at h;exact absurd h (by decide)}};{rw[ar c]at h;exact(c h).elim}
theorem Ls{v:Val}(h:(Cn.fY v).2=0):Cn.iA (Cn.lN v)=0:=by obtain⟨_,c⟩:=Fc h;unfold Cn.lN;rw[ar h];simp only[bJ.of]at c;exact o0 (yA _ _ _ (lV c).2)
mutual
theorem Dz:∀(f:bJ)(p:List Int),(Tree.fW f p).1.length<=p.length+bJ.bL f
 |.mk n k b h l t m s y ks,p=>by
  have:=Dy ks 0 p
  rw[Tree.fW]
  simp only[bJ.bL]
  split
  ·show p.length<=_;omega
  ·omega
theorem Dy:∀(l:List bJ)(i:Nat)(p:List Int),(Tree.lj l i p).1.length<=p.length+1+bJ.cr l
 |[],_,p=>by simp[Tree.lj]
 |f::r,i,p=>by
  have h1:=Dz f (p++[(i:Int)])
  have h2:=Dy r (i+1) p
  rw[ae,ak]at h1
  rw[Tree.lj]
  simp only[bJ.cr]
  split<;>omega
end
theorem KX{v:Val}(h:bJ.bL (bJ.of [] v)<=1200):(Cn.fY v).1.length<=1099511627776:=by have:=Dz (bJ.of [] v) [];rw[aE]at this;unfold Cn.fY;split;{omega};split<;>simp
theorem zi(v:Val):Cn.lK v=Cn.fY v:=by unfold Cn.lK;by_cases c:(Cn.fY v).2=0;{rw[ao (by simp[c]),Ls c,z8 c]};{rw[ar c]}
theorem CanonWrites.goal(v:Val):CanonWrites.F v=some [.b true]:=by refine CanonWrites.bU v ?_;intro v1 h1 v2 h2 v3 h3 v4 h4;rw[aG,aj];by_cases a:0<=fZ.value 1200 (bJ.of [] v);{have hb:=fZ.En v a;have hj:=sU v;have hl:=KX hb;have ej:Wq.json false v=Cn.lN v:=rfl;have et:Wq.text false v=Cn.vK v:=rfl;have e1:v1=true:=by{rw[h1];simp};have e2:v2=true:=by{rw[h2,ej];exact Es _};have e3:v3=true:=by{rw[h3,e1,e2,et];simp};have e4:v4=true:=by{rw[h4,zi];simp};rw[aa a,aG,aj,iy,iy,iy,iy,bB (aa hl),e1,e2,e3,e4,aa (show cQ.bL (Cn.lN v)<=1099511627776 by omega),show decide (List.length (vF.mk (Cn.lK v).2 0 (Cn.lK v).1).path<=1099511627776)=true from aa (by rw[zi];exact hl)];rfl};{rw[ab a];rfl}
end Go.Eng
namespace Go.Eng
open Go.Proofs
theorem CanonWrites.ok:KO 3 CanonWrites.c bC:=meets bH (all_cons gm.ok (all_cons gO.ok (all_cons jS.ok (all_cons iM.ok (all_cons jR.ok (all_cons ju.ok (all_cons kO.ok (all_cons dv.ok all_nil)))))))) (.o) (fits λins=>by unfold CanonWrites.c;split;exact CanonWrites.goal (.mk _ _ _ _ _ _ _ _ _);trivial)
end Go.Eng
