/- Texts of my own, one behind the other: WrS6, WrOK, WrAlaw26, WrJd6, WrZ8, WrA26, WrOKA26, WrLRelaxWrites, WrSame, WrChk, WrQRelaxWrites, WrOKRelaxWrites, RxGl. -/
import Derived.Test.YthkfiedkcmpokaaGreatDoorT6
set_option linter.defProp false
set_option linter.unusedVariables false
set_option linter.unusedSimpArgs false
open Decidable renaming decide→oG
open Option renaming some→BQ
open Option renaming none→Ku
open Bool renaming true→NS
open Bool renaming false→NT
noncomputable section
set_option maxRecDepth 20000
namespace Go.Eng
open Nr (lX sh top)
open Go.IntWalk
theorem Ou(c:UInt8):oG ((c -48)%2=0)=oG (c.toNat%2=0):=by have h:=c.toNat_lt;have:((c -48)%2=0)↔c.toNat%2=0:=by{rw[<-UInt8.toNat_inj,UInt8.toNat_mod,UInt8.toNat_sub];show(256 -48+c.toNat)%256%2=0↔_;omega};exact aT.2 this
def nY{a b:Int}{l:Nat}(h1:0<=a)(h2:a<=b)(h3:b<=l):fe a b l=NS:=by unfold fe;rw[aa h1,aa h2,aa h3];rfl
def Nf(b:Bool){α:Type}(x:Option α):ck (!b||b) x=x:=by cases b<;>rfl
def rL(p:Nat):bD:=Nr.Bt (2*lX (p -1)+1) (Sh.sI p)
def RU(p:Nat):Int:=Nr.C9 (2*lX (p -1)+1) (Sh.sI p)
def rH(p:Nat):bD:=Nr.Bt (2*lX p+1) ((sh p:Int) -1075)
def OY(p:Nat):Int:=Nr.C9 (2*lX p+1) ((sh p:Int) -1075)
def ame(u:UInt64)(p:Nat)(hu:u.toNat=p)(hp:0<p)(ht:p<=top)(n:Nat)(h1:1<=n)(h2:n<(Sh.gG p).length)(h3:n<=17):
  ∀(m:Nat)(s:bD),s.length=m->m<=n->Nr.cZ s=Nr.cZ ((Sh.gG p).take n)->
  abe u (Sh.gG p) (Sh.dx p) (rH p) (OY p) (rL p) (RU p) (n:Int) s ((Sh.gG p).drop n)=
   match Sh.DM p n with
   |some r=>BQ [.s r.1,.i .i64 r.2,.b NS]
   |none=>aaA u (Sh.gG p) (Sh.dx p) (rH p) (OY p) (rL p) (RU p) ((n:Int)+1):=by
 obtain⟨d1,d2⟩:=zV hp ht
 have hl:((Sh.gG p).take n).length=n:=by rw[aF];omega
 have hg:(Sh.gG p).getD (n -1) 0=((Sh.gG p).take n).getD (n -1) 0:=by rw[aj,aj,List.getElem?_take_of_lt (by omega)]
 have fin:∀s:bD,s.length<=n->(s=[]\/∃a c,s=a++[c]/\c≠48)->Nr.cZ s=s->Nr.cZ s=Nr.cZ ((Sh.gG p).take n)->
   abe u (Sh.gG p) (Sh.dx p) (rH p) (OY p) (rL p) (RU p) (n:Int) s ((Sh.gG p).drop n)=
   match Sh.DM p n with
   |some r=>BQ [.s r.1,.i .i64 r.2,.b NS]
   |none=>aaA u (Sh.gG p) (Sh.dx p) (rH p) (OY p) (rL p) (RU p) ((n:Int)+1):=by
  intro s hs hc hr T9
  rw[hr]at T9
  apply amf
  intro v1 g1 v2 g2 v3 g3 v4 g4 v5 g5 v6 g6 v7 g7 v8 g8 v9 g9 v10 g10 v11 g11 v12 g12 jw g13 iI g14
  have e1:v1=(s.length:Int) -1:=by rw[g1,iw]
  have e3:v3=NT:=by rcases hc with rfl|⟨a,c,rfl,hc⟩;{exact g3};{have e2:v2=c:=by{rw[g2,e1,ae,ao,show(((a.length+1:Nat):Int) -1).toNat=a.length by omega];exact lh a c 0};rw[g3,e2,ab hc,Bool.cond_self]}
  have CM:v10=(n:Int) -1:=by rw[g10,iw]
  have FH:iI=(n:Int)+1:=by rw[g14,iw]
  have PS:v11=((Sh.gG p).take n).getD (n -1) 0:=by rw[g11,CM,show((n:Int) -1).toNat=n -1 by omega];exact hg
  have PQ:jw=(oG ((Sh.gG p).drop n=[53])&&oG ((((Sh.gG p).take n).getD (n -1) 0).toNat%2=0)):=by rw[g13,g12,Ou,PS];cases oG ((Sh.gG p).drop n=[53])<;>rfl
  have Ze:(!(oG ((0:Int)<(s.length:Int)))||(((oG ((0:Int)<(s.length:Int)))&&(oG ((0:Int)<(s.length:Int))))&&(bG v1 s.length)))=NS:=by by_cases c:(0:Int)<(s.length:Int);{rw[aa c,tq.2 (by omega)];rfl};{rw[ab c];rfl}
  have ix2:bG v10 (Sh.gG p).length=NS:=tq.2 (by omega)
  have ix3:(!v9||((v9&&v9)&&(bG v10 (Sh.gG p).length)))=NS:=by rw[ix2];cases v9<;>rfl
  have ix4:(!v9||(v9&&(!decide ((2:UInt8)=0))))=NS:=by cases v9<;>rfl
  have ix5:(!(!v8)||((!v8)&&(!(oG ((Sh.gG p).drop n=[53]))||v9)))=NS:=by rw[g9];cases v8<;>cases oG ((Sh.gG p).drop n=[53])<;>rfl
  have ix6:(v8||(!v8))=NS:=by cases v8<;>rfl
  have pre:oG (1<=(((Sh.gG p).take ((n:Int)).toNat)).length/\(((Sh.gG p).take ((n:Int)).toNat)).length<=100000/\-100000<=Sh.dx p/\Sh.dx p<=100000)=NS:=by rw[ah,hl];exact dT
  rw[Ze,ix3,ix4,ix5,ix6,pre,nY (Int.le_refl 0) (show(0:Int)<=(n:Int) by omega) (show(n:Int)<=((Sh.gG p).length:Int) by omega)]
  simp only[Nf,bO]
  rw[e3,ai,FH,PQ]
  rw[ah]at g4 g5
  have e6:v6=Sh.wi p (Nr.jF (Nr.cZ ((Sh.gG p).take n)) (Sh.dx p) (rL p) (RU p)) (Nr.jF (Nr.cZ ((Sh.gG p).take n)) (Sh.dx p) (rH p) (OY p)):=by rw[g6,hu,T9]
  have e7:v7=Sh.wi p (Nr.jF (Sh.more ((Sh.gG p).take n) (Sh.dx p)).1 (Sh.more ((Sh.gG p).take n) (Sh.dx p)).2 (rL p) (RU p)) (Nr.jF (Sh.more ((Sh.gG p).take n) (Sh.dx p)).1 (Sh.more ((Sh.gG p).take n) (Sh.dx p)).2 (rH p) (OY p)):=by rw[g7,hu,g4,g5]
  have er:Sh.DM p n=if v6&&v7 then(if v8||(oG ((Sh.gG p).drop n=[53])&&oG ((((Sh.gG p).take n).getD (n -1) 0).toNat%2=0))then BQ (Nr.cZ ((Sh.gG p).take n),Sh.dx p)else BQ (Sh.more ((Sh.gG p).take n) (Sh.dx p)))else if v6 then BQ (Nr.cZ ((Sh.gG p).take n),Sh.dx p)else if v7 then BQ (Sh.more ((Sh.gG p).take n) (Sh.dx p))else Ku:=by rw[e6,e7,g8];rfl
  rw[er,<-T9,g4,g5]
  generalize(oG ((Sh.gG p).drop n=[53])&&oG ((((Sh.gG p).take n).getD (n -1) 0).toNat%2=0))=q
  clear e6 e7 g6 g7 g8 g9 er ix3 ix4 ix5 ix6
  cases v6<;>cases v7<;>cases v8<;>cases q<;>rfl
 intro m
 induction m with
 |zero=>intro s hs hm hr;obtain rfl:=List.length_eq_zero_iff.1 hs;exact fin [] (by simp) (.inl rfl) rfl hr
 |succ m ih=>intro s hs hm hr;rcases Nr.kj s with h|⟨a,c,rfl⟩;{rw[h]at hs;simp at hs};{by_cases hc:c=48;{subst hc;rw[ae,ao]at hs;have hlen:((a++[(48:UInt8)]).length:Int)=(a.length:Int)+1:=by{rw[ae,ao];omega};apply amf;intro v1 g1 v2 g2 v3 g3 v4 g4 v5 g5 v6 g6 v7 g7 v8 g8 v9 g9 v10 g10 v11 g11 v12 g12 jw g13 iI g14;have e1:v1=(a.length:Int):=by{rw[g1,hlen,iw];omega};have e2:v2=48:=by{rw[g2,e1,ah];exact lh a 48 0};have e3:v3=NS:=by{rw[g3,e2,dT];rfl};have Ze:(!(oG ((0:Int)<((a++[(48:UInt8)]).length:Int)))||(((oG ((0:Int)<((a++[(48:UInt8)]).length:Int)))&&(oG ((0:Int)<((a++[(48:UInt8)]).length:Int))))&&(bG v1 (a++[(48:UInt8)]).length)))=NS:=by{rw[dT,tq.2 (by omega)];rfl};rw[Ze,e3];simp only[Nf,bO,au];rw[bC (nY (Int.le_refl 0) (by omega) (by omega)),e1,ah,List.take_left];refine ih a (by omega) (by omega) ?_;rw[<-hr,Nr.lQ,ar rfl]};{refine fin _ (by omega) (.inr ⟨a,c,rfl,hc⟩) ?_ hr;rw[Nr.lQ,ak hc]}}
def aAn(u:UInt64)(p:Nat)(hu:u.toNat=p)(hp:0<p)(ht:p<=top)(N:Nat)(hN:N<=17)(h0:∀j:Nat,1<=j->j<N->Sh.some_ p (Sh.kP p) (Sh.iR p) (Sh.dx p) j=Ku)(h1:Sh.some_ p (Sh.kP p) (Sh.iR p) (Sh.dx p) N=BQ (Sh.digits p)):∀(m n:Nat),n+m=N->1<=n->aaA u (Sh.gG p) (Sh.dx p) (rH p) (OY p) (rL p) (RU p) (n:Int)=BQ [.s (Sh.digits p).1,.i .i64 (Sh.digits p).2,.b NS]:=by
 have GQ:=Sh.KU hp ht;have hle:(Sh.gG p).length>=N:=by{refine Nat.le_of_not_lt λc=>?_;have:=h0 (Sh.gG p).length (List.length_pos_iff.2 (Sh.G3 hp).1.n) c;rw[GQ]at this;cases this};intro m;induction m with
 |zero=>intro n hn Ul;obtain rfl:n=N:=by{omega};rw[amh];by_cases c:n<(Sh.gG p).length;{rw[cT,bC (nY (by omega) (by omega) (by omega)),bC (nY (by omega) (by omega) (by omega)),ah,ame u p hu hp ht n Ul c hN _ _ rfl (by rw[aF];omega) rfl,<-Sh.step_eq hp ht Ul c,h1]};{obtain rfl:n=(Sh.gG p).length:=by{omega};rw[GQ]at h1;have e:(Sh.gG p,Sh.dx p)=Sh.digits p:=Option.some.inj h1;rw[cF,<-e]}
 |succ m ih=>intro n hn Ul;rw[amh,cT,bC (nY (by omega) (by omega) (by omega)),bC (nY (by omega) (by omega) (by omega)),ah,ame u p hu hp ht n Ul (by omega) (by omega) _ _ rfl (by rw[aF];omega) rfl,<-Sh.step_eq hp ht Ul (by omega),h0 n Ul (by omega)];exact ih (n+1) (by omega) (by omega)
def amg(u w:UInt64)(p:Nat)(hu:u.toNat=p)(hp:0<p)(ht:p<=top)(hw:w.toNat=lX (p -1))(e:Int)(he:e=(sh (p -1):Int) -1074):adh w e u (Sh.gG p) (Sh.dx p) (rH p) (OY p)=BQ [.s (Sh.digits p).1,.i .i64 (Sh.digits p).2,.b NS]:=by have GM:=Nr.ux (p -1);have QR:=Nr.yM (p:=p -1) (by omega);apply aAo;intro v1 g1 v2 g2;have e1:v1.toNat=2*lX (p -1)+1:=by{rw[g1,UInt64.toNat_add,UInt64.toNat_mul,hw];show(2*lX (p -1)%18446744073709551616+1)%18446744073709551616=_;omega};have e2:v2=Sh.sI p:=by{rw[g2,he,iw];unfold Sh.sI;omega};have e3:-1075<=Sh.sI p/\Sh.sI p<=971:=by{unfold Sh.sI;omega};have e4:2*lX (p -1)+1<2^55:=by{show _<36028797018963968;omega};rw[e1,e2,bC (aa ⟨by omega,e4,e3.1,e3.2⟩)];obtain⟨N,n1,n2,n3,n4⟩:=Sh.first hp ht;exact aAn u p hu hp ht N n2 n3 n4 (N -1) 1 (by omega) (Nat.le_refl 1)
def Js(b:UInt64):(cK (jB b 1) 1).toNat=Sh.ju b:=by rw[eu,ov,Nat.pow_one];unfold Sh.ju;omega
def Pf{b v:UInt64}(hv:v.toNat=Sh.ju b)(h0:0<Sh.ju b):Sh.ju (v -1)=Sh.ju b -1:=by have hm:Sh.ju b<9223372036854775808:=Nat.mod_lt _ (by omega);have e:(v -1).toNat=Sh.ju b -1:=by{rw[UInt64.toNat_sub,hv];show(18446744073709551616 -1+Sh.ju b)%18446744073709551616=_;omega};show(v -1).toNat%9223372036854775808=_;rw[e,Nat.mod_eq_of_lt (by omega)]
def Dx{b:UInt64}(h:0<Sh.ju b)(ht:Sh.ju b<=top):(Nr.split b).1=2:=by have hb:=b.toNat_lt;have hx:b.toNat/4503599627370496%2048=Sh.ju b/4503599627370496:=by{unfold Sh.ju;omega};have hf:b.toNat%4503599627370496=Sh.ju b%4503599627370496:=by{unfold Sh.ju;omega};unfold Nr.split;simp only[hx,hf];generalize Sh.ju b=p at*;unfold top at ht;rw[nO];by_cases c2:p/4503599627370496=0;{rw[ar c2,nO]};{rw[ak c2]}
def F5{b:UInt64}(h:Sh.ju b=0):(Nr.split b).2.2.1.toNat=0:=by have hx:b.toNat/4503599627370496%2048=Sh.ju b/4503599627370496:=by{unfold Sh.ju;omega};have hf:b.toNat%4503599627370496=Sh.ju b%4503599627370496:=by{unfold Sh.ju;omega};unfold Nr.split;simp only[hx,hf,h];rfl
def aji(b:UInt64):aAq b=BQ [.s (Sh.dg b).1,.i .i64 (Sh.dg b).2.1,.b (Sh.dg b).2.2]:=by apply aAp;intro v1 h1 v2 h2 v3 h3 v4 h4 v5 h5 v6 h6 v7 h7 v8 h8 v9 h9 v10 jo v11 lg v12 lZ;by_cases c:(Nr.split b).1=2;{obtain⟨z1,z2,z3⟩:=CR c;rw[z1,z2,z3,aa c,aG,ai];clear z1 z2 z3;obtain⟨hp,ht,hm,he⟩:=s9 c;have hu:v2.toNat=Sh.ju b:=by{rw[h2,h1];exact Js b};have GM:=Nr.ux (Sh.ju b);have hmp:=Sh.tn hp;have QR:=Nr.yM ht;have hd:=Pf hu hp;rw[hm,he]at h3 h4;have e3:v3=Sh.gG (Sh.ju b):=h3;have e4:v4=Sh.dx (Sh.ju b):=h4;have e5:(v5+1).toNat=2*lX (Sh.ju b)+1:=by{rw[h5,UInt64.toNat_add,UInt64.toNat_mul,hm];show(2*lX (Sh.ju b)%18446744073709551616+1)%18446744073709551616=_;omega};have e6:v6=(sh (Sh.ju b):Int) -1075:=by{rw[h6,he,iw];omega};rw[e5,e6]at h7 h8;have e7:v7=rH (Sh.ju b):=h7;have e8:v8=OY (Sh.ju b):=h8;have l1:lX (Sh.ju b)<2^55:=by{show _<36028797018963968;omega};have l2:2*lX (Sh.ju b)+1<2^55:=by{show _<36028797018963968;omega};rw[hm,he,e5,e6,bC (aa ⟨by omega,l1,by omega,by omega⟩),bC (aa ⟨by omega,l2,by omega,by omega⟩),e3,e4,e7,e8];by_cases c1:v2=1;{have q:Sh.ju b=1:=by{rw[<-hu,c1];rfl};rw[cT c1];refine amg v2 v11 _ hu hp ht ?_ _ ?_;{rw[lg,F5 (by rw[hd,q]),q];rfl};{rw[q];rfl}};{have q:Sh.ju b≠1:=λq=>c1 (aW.1 (by rw[hu,q];rfl));rw[cF c1];have kk:(Nr.split (v2 -1)).1=2:=Dx (by rw[hd];omega) (by rw[hd];omega);obtain⟨_,_,f3,f4⟩:=s9 kk;rw[hd]at f3 f4;exact amg v2 v11 _ hu hp ht (by rw[lg];exact f3) _ (by rw[lZ];exact f4)}};{obtain⟨z1,z2,z3⟩:=MY c;rw[z1,z2,z3,ab c];rfl}
end Go.Eng
namespace Go.Eng
open Go.Proofs
variable{ee:Errs}
theorem aeD:KO ee 89 aeE bB:=TR bH all_nil apv (TY λins=>by unfold aeE;split;exact aiy _;trivial)
theorem aes:KO ee 63 aet bB:=TR bH all_nil aoI (TY λins=>by unfold aet;split;exact ahQ _;trivial)
theorem aqA:KO ee 173 amX bB:=TR bH all_nil (.o) (TY λins=>by unfold amX;split;exact aff _;trivial)
theorem azl:KO ee 145 apN bN:=TR bH (all_cons aqA all_nil) aeM (TY λins=>by unfold apN;split;exact aiR _ _;trivial)
theorem axG:KO ee 115 apd bN:=TR bH (all_cons azl all_nil) aif (TY λins=>by unfold apd;split;exact aih _;trivial)
theorem ajR:KO ee 80 agE bN:=TR bH (all_cons axG all_nil) (.o) (TY λins=>by unfold agE;split;exact agD _;trivial)
theorem azv:KO ee 138 apP bN:=TR bH all_nil aiW (TY λins=>by unfold apP;split;exact aiX _ _;trivial)
theorem axx:KO ee 106 apa bN:=TR bH (all_cons azv all_nil) ao9 (TY λins=>by unfold apa;split;exact aic _;trivial)
theorem ab3:KO ee 70 adP bB:=TR bH (all_cons axx all_nil) (.o) (TY λins=>by unfold adP;split;exact ahG _;trivial)
theorem ak9:KO ee 92 aip bB:=TR bH all_nil apn (TY λins=>by unfold aip;split;exact aio _;trivial)
theorem akq:KO ee 163 ahy bB:=TR bH all_nil (.o) (TY λins=>by unfold ahy;split;exact ahx _ _;trivial)
theorem asS:KO ee 146 anu bB:=TR bH (all_cons akq all_nil) (.o) (TY λins=>by unfold anu;split;exact agp _ _;trivial)
theorem asV:KO ee 116 anv bB:=TR bH (all_cons asS all_nil) (.o) (TY λins=>by unfold anv;split;exact agq _ _;trivial)
theorem auc:KO ee 81 anQ bB:=TR bH (all_cons asV all_nil) (.o) (TY λins=>by unfold anQ;split;exact agY _ _;trivial)
theorem ajS:KO ee 40 agH abA:=TR bH all_nil (.o) (TY λins=>by unfold agH;split;exact agG _;trivial)
theorem as7:KO ee 39 anA bB:=TR bH all_nil (.o) (TY λins=>by unfold anA;split;exact agu _;trivial)
theorem aBa:KO ee 41 aqe bB:=TR bH all_nil adZ (TY λins=>by unfold aqe;split;exact ajs (.mk _ _ _ _ _ _ _ _ _);trivial)
theorem auo:KO ee 42 anU bB:=TR bH (all_cons ajR (all_cons auc all_nil)) (.o) (TY λins=>by unfold anU;split;exact ag3 _ _;trivial)
theorem aBH:∀n:Nat,(KO ee 28 (aa9 n) aaz):=by
 intro n;induction n with
 |zero=>exact ig (by intro ti lx h;unfold aa9 at h;split at h;exact absurd (aK.1 h.1).2 (by simp);exact h.elim)
 |succ n ih=>have zK:=ih;exact TR bH (all_cons zK (all_cons as7 (all_cons ajS (all_cons aBa (all_cons auo all_nil))))) ap3 (TY λins=>by unfold aa9;split;exact ajd _ (.mk _ _ _ _ _ _ _ _ _) _ _;trivial)
theorem az8:KO ee 28 ap4 aaz:=iP λti lx h=>by unfold ap4 at h;split at h;{obtain⟨hp,rfl⟩:=h;exact⟨aa9 (_+1),(aBH _),aK.2 ⟨hp,aa (Nat.lt_succ_self _)⟩,rfl⟩};{exact h.elim}
theorem aj0:KO ee 17 ag0 bN:=TR bH (all_cons az8 all_nil) (.o) (TY λins=>by unfold ag0;split;exact agZ (.mk _ _ _ _ _ _ _ _ _);trivial)
theorem ar7:KO ee 139 ani bB:=TR bH all_nil (.o) (TY λins=>by unfold ani;split;exact af1 _ _;trivial)
theorem atn:KO ee 124 anE bB:=TR bH all_nil (.o) (TY λins=>by unfold anE;split;exact agA;trivial)
theorem axs:KO ee 90 ao8 bB:=TR bH (all_cons atn all_nil) ao7 (TY λins=>by unfold ao8;split;exact aib _;trivial)
theorem aAJ:KO ee 91 aqc aaf:=TR bH all_nil adW (TY λins=>by unfold aqc;split;exact ajm _;trivial)
theorem atL:KO ee 51 anK bB:=TR bH (all_cons ab3 (all_cons axs (all_cons aAJ (all_cons ak9 all_nil)))) (.o) (TY λins=>by unfold anK;split;exact agM (.mk _ _ _ _ _ _ _ _ _);trivial)
theorem at7:KO ee 52 anP bB:=TR bH (all_cons ab3 (all_cons ak9 all_nil)) (.o) (TY λins=>by unfold anP;split;exact agX _;trivial)
theorem auE:KO ee 53 anZ bB:=TR bH all_nil (.o) (TY λins=>by unfold anZ;split;exact ag9 _ _;trivial)
theorem atQ:KO ee 105 anM bB:=TR bH all_nil anL (TY λins=>by unfold anM;split;exact agO _;trivial)
theorem amx:KO ee 69 ajr bB:=TR bH (all_cons atQ all_nil) adY (TY λins=>by unfold ajr;split;exact ajq _;trivial)
theorem amM:∀n:Nat,(KO ee 30 (abd n) bN)/\(KO ee 34 (abb n) bB):=by
 intro n;induction n with
 |zero=>exact⟨ig (by intro ti lx h;unfold abd at h;split at h;exact absurd (aK.1 h.1).2 (by simp);exact h.elim),ig (by intro ti lx h;unfold abb at h;split at h;exact absurd (aK.1 h.1).2 (by simp);exact h.elim)⟩
 |succ n ih=>obtain⟨zK,QL⟩:=ih;exact⟨TR bH (all_cons zK (all_cons atL (all_cons at7 (all_cons auE all_nil)))) ajg (TY λins=>by unfold abd;split;exact ajh _ (.mk _ _ _ _ _ _ _ _ _) _ _;trivial),TR bH (all_cons QL (all_cons amx (all_cons ab3 all_nil))) aje (TY λins=>by unfold abb;split;exact ajf _ (.mk _ _ _);trivial)⟩
theorem aAh:KO ee 30 ap7 bN:=iP λti lx h=>by unfold ap7 at h;split at h;{obtain⟨hp,rfl⟩:=h;exact⟨abd (_+1),(amM _).1,aK.2 ⟨hp,aa (Nat.lt_succ_self _)⟩,rfl⟩};{exact h.elim}
theorem aAd:KO ee 34 ap5 bB:=iP λti lx h=>by unfold ap5 at h;split at h;{obtain⟨hp,rfl⟩:=h;exact⟨abb (_+1),(amM _).2,aK.2 ⟨hp,aa (Nat.lt_succ_self _)⟩,rfl⟩};{exact h.elim}
theorem au4:KO ee 19 aod bN:=TR bH (all_cons aAh all_nil) (.o) (TY λins=>by unfold aod;split;exact ahg (.mk _ _ _ _ _ _ _ _ _);trivial)
theorem al1:KO ee 23 ai7 bB:=TR bH all_nil apX (TY λins=>by unfold ai7;split;exact ai6 _ _;trivial)
theorem awC:KO ee 27 aoM bB:=TR bH all_nil aoL (TY λins=>by unfold aoM;split;exact ahS _ _;trivial)
theorem aBF:∀n:Nat,(KO ee 16 (aa5 n) bB):=by
 intro n;induction n with
 |zero=>exact ig (by intro ti lx h;unfold aa5 at h;split at h;exact absurd (aK.1 h.1).2 (by simp);exact h.elim)
 |succ n ih=>have zK:=ih;exact TR bH (all_cons zK (all_cons awC all_nil)) apQ (TY λins=>by unfold aa5;split;exact aiZ _ _ (.mk _ _ _ _ _ _ _ _ _);trivial)
theorem azB:KO ee 16 apR bB:=iP λti lx h=>by unfold apR at h;split at h;{obtain⟨hp,rfl⟩:=h;exact⟨aa5 (_+1),(aBF _),aK.2 ⟨hp,aa (Nat.lt_succ_self _)⟩,rfl⟩};{exact h.elim}
theorem atu:KO ee 6 anF bB:=TR bH (all_cons azB all_nil) (.o) (TY λins=>by unfold anF;split;exact agF (.mk _ _ _ _ _ _ _ _ _);trivial)
theorem ach:KO ee 64 adQ bB:=TR bH all_nil aoX (TY λins=>by unfold adQ;split;exact ah2 _;trivial)
theorem al3:KO ee 45 ai9 bB:=TR bH (all_cons abx all_nil) apY (TY λins=>by unfold ai9;split;exact ai8 _;trivial)
theorem az3:KO ee 60 ap2 bB:=TR bH (all_cons ach all_nil) ap1 (TY λins=>by unfold ap2;split;exact ajc _;trivial)
theorem akR:KO ee 179 ah4 bB:=TR bH all_nil aoY (TY λins=>by unfold ah4;split;exact ah3 _;trivial)
theorem Yi:KO ee 205 WN bB:=TR bH all_nil WI (TY λins=>by unfold WN;split;exact aaa _;trivial)
theorem ajI:KO ee 213 afY qe:=TR bH all_nil (.o) (TY λins=>by unfold afY;split;exact afX _;trivial)
theorem ate:KO ee 261 anB bB:=TR bH (all_cons ad2 all_nil) (.o) (TY λins=>by unfold anB;split;exact agx (_,_);trivial)
theorem aqm:KO ee 259 amS bB:=TR bH all_nil (.o) (TY λins=>by unfold amS;split;exact ae8 _ _;trivial)
theorem ajM:KO ee 254 agc gN:=TR bH (all_cons ad2 all_nil) (.o) (TY λins=>by unfold agc;split;exact agb (_,_);trivial)
theorem art:KO ee 269 am8 bB:=TR bH (all_cons ad2 all_nil) (.o) (TY λins=>by unfold am8;split;exact afE (_,_) _;trivial)
theorem ar4:KO ee 252 anh bB:=TR bH (all_cons ate all_nil) (.o) (TY λins=>by unfold anh;split;exact af0 (_,_) (_,_);trivial)
theorem arc:KO ee 267 am5 bB:=TR bH (all_cons ajX all_nil) (.o) (TY λins=>by unfold am5;split;exact afy _;trivial)
theorem aj6:KO ee 262 ag8 bB:=TR bH (all_cons arc all_nil) anY (TY λins=>by unfold ag8;split;exact ag7 (.mk (_,_) (_,_) (_,_) (_,_));trivial)
theorem alj:KO ee 263 aiB bB:=TR bH (all_cons art all_nil) aiz (TY λins=>by unfold aiB;split;exact aiA (.mk (_,_) (_,_) (_,_) (_,_)) _;trivial)
theorem aq9:KO ee 260 am4 bB:=TR bH (all_cons aj6 (all_cons alj all_nil)) (.o) (TY λins=>by unfold am4;split;exact afx (.mk (_,_) (_,_) (_,_) (_,_));trivial)
theorem auh:KO ee 253 anS bN:=TR bH (all_cons ajM (all_cons aj6 (all_cons alj all_nil))) anR (TY λins=>by unfold anS;split;exact ag1 (.mk (_,_) (_,_) (_,_) (_,_));trivial)
theorem awK:KO ee 250 aoQ bB:=TR bH all_nil aoP (TY λins=>by unfold aoQ;split;exact ahU _;trivial)
theorem axn:KO ee 251 ao5 bB:=TR bH (all_cons aqm (all_cons aq9 all_nil)) ah9 (TY λins=>by unfold ao5;split;exact aia _;trivial)
theorem ayS:KO ee 234 apF bN:=TR bH (all_cons awK (all_cons axn (all_cons ar4 (all_cons auh (all_cons ajM all_nil))))) adT (TY λins=>by unfold apF;split;exact aiH _ _;trivial)
theorem ab1:KO ee 216 adO bB:=TR bH all_nil aoD (TY λins=>by unfold adO;split;exact ahE _;trivial)
theorem WW:KO ee 177 Yv bB:=TR bH all_nil (.o) (TY λins=>by unfold Yv;split;exact agv _;trivial)
theorem aaF:KO ee 147 abr bB:=TR bH all_nil ann (TY λins=>by unfold abr;split;exact agf _;trivial)
theorem avm:KO ee 266 aok bN:=TR bH (all_cons WW all_nil) aoj (TY λins=>by unfold aok;split;exact ahp _;trivial)
theorem ajK:KO ee 149 af8 bB:=TR bH (all_cons WW (all_cons akR all_nil)) (.o) (TY λins=>by unfold af8;split;exact af7 _;trivial)
theorem ajY:KO ee 212 agW bB:=TR bH all_nil anO (TY λins=>by unfold agW;split;exact agV _ _;trivial)
theorem aec:KO ee 181 aed bB:=TR bH (all_cons WW (all_cons ajY all_nil)) (.o) (TY λins=>by unfold aed;split;exact afz _ _;trivial)
theorem ayl:KO ee 235 apu bB:=TR bH all_nil apt (TY λins=>by unfold apu;split;exact aix _;trivial)
theorem akf:KO ee 211 ahn bB:=TR bH (all_cons WW (all_cons ab1 (all_cons ayS (all_cons ayl all_nil)))) ahl (TY λins=>by unfold ahn;split;exact ahm _ _;trivial)
theorem aj4:KO ee 214 ag6 bN:=TR bH (all_cons ab1 all_nil) anX (TY λins=>by unfold ag6;split;exact ag5 _ _;trivial)
theorem ajU:KO ee 178 agR qe:=TR bH all_nil agP (TY λins=>by unfold agR;split;exact agQ _ _;trivial)
theorem awW:KO ee 217 aoT bB:=TR bH (all_cons ab1 all_nil) ahZ (TY λins=>by unfold aoT;split;exact ah0 _ _;trivial)
theorem aAQ:KO ee 215 aqd Yp:=TR bH all_nil abj (TY λins=>by unfold aqd;split;exact ajn _ _;trivial)
theorem ajz:KO ee 182 aft gN:=TR bH (all_cons aaF (all_cons WW (all_cons ajU (all_cons akR (all_cons ajY (all_cons ajI (all_cons aj4 (all_cons aAQ (all_cons ab1 (all_cons awW all_nil)))))))))) (.o) (TY λins=>by unfold aft;split;exact afs _ _;trivial)
theorem ad4:KO ee 148 ad5 bB:=TR bH (all_cons WW (all_cons ajU all_nil)) (.o) (TY λins=>by unfold ad5;split;exact afj _ _;trivial)
theorem akC:KO ee 233 ahP bB:=TR bH all_nil ahN (TY λins=>by unfold ahP;split;exact ahO _ _ _;trivial)
theorem akK:KO ee 210 ahY bN:=TR bH (all_cons aaF (all_cons WW (all_cons akC all_nil))) aoS (TY λins=>by unfold ahY;split;exact ahX _ _;trivial)
theorem avh:KO ee 242 aoi bN:=TR bH (all_cons WW (all_cons akC all_nil)) aoh (TY λins=>by unfold aoi;split;exact aho _;trivial)
theorem avE:KO ee 257 aor bN:=TR bH (all_cons Yi (all_cons aqg all_nil)) aoq (TY λins=>by unfold aor;split;exact ahu _ _ _;trivial)
theorem aw9:KO ee 256 ao0 bN:=TR bH (all_cons ad4 (all_cons aec (all_cons ajz (all_cons avm all_nil)))) aoZ (TY λins=>by unfold ao0;split;exact ah5 _ _ _;trivial)
theorem avz:KO ee 243 aop bN:=TR bH (all_cons ajK (all_cons aw9 (all_cons avE all_nil))) aoo (TY λins=>by unfold aop;split;exact aht _ _;trivial)
theorem avJ:KO ee 220 aot bN:=TR bH (all_cons aaF (all_cons ajB (all_cons akK (all_cons akf (all_cons ajJ (all_cons aqj (all_cons avh (all_cons avz all_nil)))))))) aos (TY λins=>by unfold aot;split;exact ahv _ _;trivial)
theorem aqp:KO ee 102 amT bB:=TR bH all_nil (.o) (TY λins=>by unfold amT;split;exact ae9 _ _ _ _;trivial)
theorem awG:KO ee 103 aoO bB:=TR bH all_nil aoN (TY λins=>by unfold aoO;split;exact ahT _ _;trivial)
theorem amu:KO ee 66 ajp bB:=TR bH (all_cons aqp (all_cons awG all_nil)) adX (TY λins=>by unfold ajp;split;exact ajo _;trivial)
theorem aee:KO ee 95 aef bB:=TR bH (all_cons ach all_nil) (.o) (TY λins=>by unfold aef;split;exact afA _;trivial)
theorem abF:KO ee 93 adN mh:=TR bH all_nil (.o) (TY λins=>by unfold adN;split;exact agU _;trivial)
theorem ax9:KO ee 158 apo ot:=TR bH all_nil aiq (TY λins=>by unfold apo;split;exact air _ _;trivial)
theorem aBo:KO ee 125 aqf bN:=TR bH (all_cons ax9 all_nil) aab (TY λins=>by unfold aqf;split;exact aju _ _;trivial)
theorem as1:KO ee 128 anx bB:=TR bH all_nil (.o) (TY λins=>by unfold anx;split;exact ags _ _ _ _;trivial)
theorem abE:KO ee 108 adM mh:=TR bH all_nil (.o) (TY λins=>by unfold adM;split;exact agT _;trivial)
theorem ayG:KO ee 184 apC bB:=TR bH (all_cons WW (all_cons ajI all_nil)) adS (TY λins=>by unfold apC;split;exact aiF _ _;trivial)
theorem axU:KO ee 236 apj acB:=TR bH all_nil api (TY λins=>by unfold apj;split;exact aik _;trivial)
theorem awo:KO ee 218 aoG bB:=TR bH (all_cons abx (all_cons aby (all_cons WW (all_cons aj4 (all_cons axU (all_cons aqi all_nil)))))) ahL (TY λins=>by unfold aoG;split;exact ahM _;trivial)
theorem abB:KO ee 77 adL bB:=TR bH (all_cons aqI all_nil) (.o) (TY λins=>by unfold adL;split;exact agN _;trivial)
theorem ajH:KO ee 180 afW bN:=TR bH (all_cons akK (all_cons akf all_nil)) (.o) (TY λins=>by unfold afW;split;exact afV _ _ _;trivial)
theorem asM:KO ee 150 ans bB:=TR bH (all_cons ajH (all_cons aec all_nil)) (.o) (TY λins=>by unfold ans;split;exact agn _ _ _;trivial)
theorem asP:KO ee 183 ant gN:=TR bH (all_cons awo (all_cons ajJ (all_cons avJ all_nil))) (.o) (TY λins=>by unfold ant;split;exact ago _ _ _;trivial)
theorem arM:KO ee 151 anf gN:=TR bH (all_cons aaF (all_cons ad4 (all_cons ajH (all_cons aec (all_cons ajz (all_cons asP (all_cons ayG all_nil))))))) (.o) (TY λins=>by unfold anf;split;exact afN _ _ _ _ _;trivial)
theorem ay6:KO ee 118 apJ gN:=TR bH (all_cons abE (all_cons aaF (all_cons ad4 (all_cons ajK (all_cons asM (all_cons arM all_nil)))))) aeK (TY λins=>by unfold apJ;split;exact aiL _;trivial)
theorem avO:KO ee 119 aov bB:=TR bH (all_cons abB (all_cons aby all_nil)) aou (TY λins=>by unfold aov;split;exact ahw _ _;trivial)
theorem aky:KO ee 84 ahI bB:=TR bH (all_cons abE (all_cons ay6 (all_cons avO all_nil))) aoF (TY λins=>by unfold ahI;split;exact ahH _;trivial)
theorem au0:KO ee 126 aoc bN:=TR bH all_nil aob (TY λins=>by unfold aoc;split;exact ahf _ _;trivial)
theorem as4:KO ee 127 anz bB:=TR bH all_nil (.o) (TY λins=>by unfold anz;split;exact agt _ _ _;trivial)
theorem aAm:KO ee 94 ap9 gN:=TR bH (all_cons abF (all_cons aBo (all_cons au0 (all_cons as4 (all_cons as1 all_nil))))) aeT (TY λins=>by unfold ap9;split;exact aji _;trivial)
theorem ae4:KO ee 56 ae5 bB:=TR bH (all_cons abF (all_cons aAm (all_cons aee all_nil))) ad0 (TY λins=>by unfold ae5;split;exact ajt _;trivial)
theorem awd:KO ee 156 aoE bB:=TR bH (all_cons aqh all_nil) (.o) (TY λins=>by unfold aoE;split;exact ahF _ _;trivial)
theorem auH:KO ee 82 an0 bB:=TR bH all_nil (.o) (TY λins=>by unfold an0;split;exact aha _ _;trivial)
theorem akz:KO ee 43 ahK bB:=TR bH (all_cons auH all_nil) (.o) (TY λins=>by unfold ahK;split;exact ahJ _ _;trivial)
theorem avV:KO ee 137 aow bB:=TR bH (all_cons akq all_nil) (.o) (TY λins=>by unfold aow;split;exact ahz _ _;trivial)
theorem asg:KO ee 222 anl bN:=TR bH all_nil (.o) (TY λins=>by unfold anl;split;exact af4 _ _;trivial)
theorem atF:KO ee 225 anI bB:=TR bH (all_cons Yi all_nil) (.o) (TY λins=>by unfold anI;split;exact agK _;trivial)
theorem aAs:KO ee 191 aqa bN:=TR bH (all_cons atF all_nil) abf (TY λins=>by unfold aqa;split;exact ajk _ _ _;trivial)
theorem ajy:KO ee 153 afo bB:=TR bH all_nil (.o) (TY λins=>by unfold afo;split;exact afn (.mk _ _) (.mk _ _);trivial)
theorem aqX:KO ee 190 am2 bB:=TR bH (all_cons asg all_nil) (.o) (TY λins=>by unfold am2;split;exact afq _ _;trivial)
theorem aqU:KO ee 155 am1 gN:=TR bH (all_cons aAs all_nil) (.o) (TY λins=>by unfold am1;split;exact afp (.mk _ _) _;trivial)
theorem ayd:KO ee 123 apq bB:=TR bH (all_cons aby (all_cons aqU (all_cons awd (all_cons ajB all_nil)))) ais (TY λins=>by unfold apq;split;exact ait (.mk _ _);trivial)
theorem ajL:KO ee 154 aga bB:=TR bH (all_cons aqX all_nil) (.o) (TY λins=>by unfold aga;split;exact af9;trivial)
theorem akb:KO ee 120 ahi mh:=TR bH (all_cons ajy (all_cons ajL all_nil)) aoe (TY λins=>by unfold ahi;split;exact ahh _ _;trivial)
theorem auK:KO ee 121 an5 gN:=TR bH (all_cons ajy (all_cons ajL all_nil)) an4 (TY λins=>by unfold an5;split;exact ahb _ (.mk _ _) _;trivial)
theorem ar1:KO ee 86 ang bB:=TR bH (all_cons akb (all_cons auK all_nil)) (.o) (TY λins=>by unfold ang;split;exact afZ _ _;trivial)
theorem avu:KO ee 122 aom bB:=TR bH (all_cons abx (all_cons aby all_nil)) ahr (TY λins=>by unfold aom;split;exact ahs _ _;trivial)
theorem auO:KO ee 87 an7 bB:=TR bH (all_cons akb (all_cons avu (all_cons ayd all_nil))) an6 (TY λins=>by unfold an7;split;exact ahc _ _;trivial)
theorem awO:KO ee 88 aoR bB:=TR bH all_nil ahV (TY λins=>by unfold aoR;split;exact ahW _;trivial)
theorem ad6:KO ee 47 ad7 bB:=TR bH all_nil (.o) (TY λins=>by unfold ad7;split;exact afl _;trivial)
theorem ajA:KO ee 48 afv bB:=TR bH (all_cons abB all_nil) (.o) (TY λins=>by unfold afv;split;exact afu _;trivial)
theorem aea:KO ee 44 aeb bB:=TR bH all_nil (.o) (TY λins=>by unfold aeb;split;exact afw _ (.mk _ _ _);trivial)
theorem ad8:KO ee 46 ad9 bB:=TR bH all_nil (.o) (TY λins=>by unfold ad9;split;exact afm _ (.mk _ _ _) _ (.mk _ _ _);trivial)
theorem avY:KO ee 85 aoy bB:=TR bH (all_cons aeD all_nil) aox (TY λins=>by unfold aoy;split;exact ahA _;trivial)
theorem atz:KO ee 49 anG bN:=TR bH (all_cons aea (all_cons ad8 (all_cons ad6 (all_cons ajA (all_cons abB (all_cons aky (all_cons avY (all_cons ar1 (all_cons auO all_nil))))))))) (.o) (TY λins=>by unfold anG;split;exact agI (.mk _ _ _ _ _ _ _ _ _);trivial)
theorem arp:KO ee 50 am7 bB:=TR bH (all_cons aea (all_cons ad8 (all_cons ad6 (all_cons awO (all_cons aeD all_nil))))) (.o) (TY λins=>by unfold am7;split;exact afD (.mk _ _ _ _ _ _ _ _ _);trivial)
theorem aiJ:∀n:Nat,(KO ee 18 (aaR n) pE)/\(KO ee 29 (abR n) bB):=by
 intro n;induction n with
 |zero=>exact⟨ig (by intro ti lx h;unfold aaR at h;split at h;exact absurd (aK.1 h.1).2 (by simp);exact h.elim),ig (by intro ti lx h;unfold abR at h;split at h;exact absurd (aK.1 h.1).2 (by simp);exact h.elim)⟩
 |succ n ih=>obtain⟨zK,QL⟩:=ih;exact⟨TR bH (all_cons QL all_nil) apx (TY λins=>by unfold aaR;split;exact aiC _ _;trivial),TR bH (all_cons zK (all_cons akz (all_cons aea (all_cons al3 (all_cons ad8 (all_cons ad6 (all_cons ajA (all_cons atz (all_cons arp all_nil))))))))) aol (TY λins=>by unfold abR;split;exact ahq _ (.mk _ _ _ _ _ _ _ _ _);trivial)⟩
theorem ayv:KO ee 18 apy pE:=iP λti lx h=>by unfold apy at h;split at h;{obtain⟨hp,rfl⟩:=h;exact⟨aaR (_+1),(aiJ _).1,aK.2 ⟨hp,aa (Nat.lt_succ_self _)⟩,rfl⟩};{exact h.elim}
theorem arl:KO ee 7 am6 bN:=TR bH (all_cons aj0 (all_cons ayv all_nil)) (.o) (TY λins=>by unfold am6;split;exact afC (.mk _ _ _ _ _ _ _ _ _);trivial)
theorem ajw:KO ee 67 afc bB:=TR bH (all_cons ajR all_nil) (.o) (TY λins=>by unfold afc;split;exact afb _;trivial)
theorem aBG:∀n:Nat,(KO ee 32 (aa6 n) bB):=by
 intro n;induction n with
 |zero=>exact ig (by intro ti lx h;unfold aa6 at h;split at h;exact absurd (aK.1 h.1).2 (by simp);exact h.elim)
 |succ n ih=>have zK:=ih;exact TR bH (all_cons zK (all_cons amu (all_cons ajw all_nil))) ai2 (TY λins=>by unfold aa6;split;exact ai3 _ (.mk _ _ _);trivial)
theorem azL:KO ee 32 apU bB:=iP λti lx h=>by unfold apU at h;split at h;{obtain⟨hp,rfl⟩:=h;exact⟨aa6 (_+1),(aBG _),aK.2 ⟨hp,aa (Nat.lt_succ_self _)⟩,rfl⟩};{exact h.elim}
theorem axC:KO ee 104 apb bN:=TR bH (all_cons ajw (all_cons aeD (all_cons avV all_nil))) aid (TY λins=>by unfold apb;split;exact aie _;trivial)
theorem atC:KO ee 68 anH ot:=TR bH (all_cons axC all_nil) (.o) (TY λins=>by unfold anH;split;exact agJ _ _;trivial)
theorem aBA:∀n:Nat,(KO ee 33 (aaN n) ot):=by
 intro n;induction n with
 |zero=>exact ig (by intro ti lx h;unfold aaN at h;split at h;exact absurd (aK.1 h.1).2 (by simp);exact h.elim)
 |succ n ih=>have zK:=ih;exact TR bH (all_cons zK (all_cons atC all_nil)) adR (TY λins=>by unfold aaN;split;exact aij _ _ (.mk _ _ _);trivial)
theorem axO:KO ee 33 aph ot:=iP λti lx h=>by unfold aph at h;split at h;{obtain⟨hp,rfl⟩:=h;exact⟨aaN (_+1),(aBA _),aK.2 ⟨hp,aa (Nat.lt_succ_self _)⟩,rfl⟩};{exact h.elim}
theorem ath:KO ee 21 anC bN:=TR bH (all_cons azL (all_cons axO all_nil)) (.o) (TY λins=>by unfold anC;split;exact agy (.mk _ _ _);trivial)
theorem aBC:∀n:Nat,(KO ee 12 (aaV n) bB):=by
 intro n;induction n with
 |zero=>exact ig (by intro ti lx h;unfold aaV at h;split at h;exact absurd (aK.1 h.1).2 (by simp);exact h.elim)
 |succ n ih=>have zK:=ih;exact TR bH (all_cons zK all_nil) apD (TY λins=>by unfold aaV;split;exact aiG _ (.mk _ _ _) (.mk _ _ _);trivial)
theorem ayM:KO ee 12 apE bB:=iP λti lx h=>by unfold apE at h;split at h;{obtain⟨hp,rfl⟩:=h;exact⟨aaV (_+1),(aBC _),aK.2 ⟨hp,aa (Nat.lt_succ_self _)⟩,rfl⟩};{exact h.elim}
theorem asa:KO ee 73 anj bB:=TR bH all_nil (.o) (TY λins=>by unfold anj;split;exact af2 _;trivial)
theorem asd:KO ee 140 ank bB:=TR bH all_nil (.o) (TY λins=>by unfold ank;split;exact af3 _;trivial)
theorem aqL:KO ee 109 am0 bN:=TR bH (all_cons abE (all_cons asd all_nil)) (.o) (TY λins=>by unfold am0;split;exact afk _ _;trivial)
theorem aqx:KO ee 76 amW bB:=TR bH all_nil (.o) (TY λins=>by unfold amW;split;exact afe _;trivial)
theorem ajQ:KO ee 74 agC bN:=TR bH (all_cons amu (all_cons aky (all_cons abE (all_cons aqL all_nil)))) (.o) (TY λins=>by unfold agC;split;exact agB _;trivial)
theorem aqF:KO ee 79 amY pE:=TR bH all_nil (.o) (TY λins=>by unfold amY;split;exact afi _ (.mk _ _ _);trivial)
theorem aBE:∀n:Nat,(KO ee 37 (aa8 n) bB):=by
 intro n;induction n with
 |zero=>exact ig (by intro ti lx h;unfold aa8 at h;split at h;exact absurd (aK.1 h.1).2 (by simp);exact h.elim)
 |succ n ih=>have zK:=ih;exact TR bH (all_cons zK (all_cons asa (all_cons ajQ (all_cons aqk all_nil)))) aeR (TY λins=>by unfold aa8;split;exact ai4 _ (.mk _ _ _ _ _ _ _ _ _);trivial)
theorem azO:KO ee 37 apW bB:=iP λti lx h=>by unfold apW at h;split at h;{obtain⟨hp,rfl⟩:=h;exact⟨aa8 (_+1),(aBE _),aK.2 ⟨hp,aa (Nat.lt_succ_self _)⟩,rfl⟩};{exact h.elim}
theorem atk:KO ee 107 anD bB:=TR bH (all_cons ar7 all_nil) (.o) (TY λins=>by unfold anD;split;exact agz (.mk _ _ _ _ _ _ _ _ _) (.mk _ _ _ _ _ _ _ _ _);trivial)
theorem aBD:∀n:Nat,(KO ee 72 (aa1 n) aae):=by
 intro n;induction n with
 |zero=>exact ig (by intro ti lx h;unfold aa1 at h;split at h;exact absurd (aK.1 h.1).2 (by simp);exact h.elim)
 |succ n ih=>have zK:=ih;exact TR bH (all_cons ajS (all_cons zK (all_cons atk all_nil))) aiN (TY λins=>by unfold aa1;split;exact aiO _ _ (.mk _ _ _ _ _ _ _ _ _) (.mk _ _ _ _ _ _ _ _ _) _;trivial)
theorem azc:KO ee 72 apK aae:=iP λti lx h=>by unfold apK at h;split at h;{obtain⟨hp,rfl⟩:=h;exact⟨aa1 (_+1),(aBD _),aK.2 ⟨hp,aa (Nat.lt_succ_self _)⟩,rfl⟩};{exact h.elim}
theorem arw:KO ee 36 am9 bN:=TR bH (all_cons azc all_nil) (.o) (TY λins=>by unfold am9;split;exact afF (.mk _ _ _ _ _ _ _ _ _) (.mk _ _ _ _ _ _ _ _ _);trivial)
theorem arJ:KO ee 25 anc bB:=TR bH (all_cons arw (all_cons azO all_nil)) (.o) (TY λins=>by unfold anc;split;exact afM (.mk _ _ _ _ _ _ _ _ _);trivial)
theorem aq0:KO ee 144 am3 bB:=TR bH all_nil (.o) (TY λins=>by unfold am3;split;exact afr _;trivial)
theorem awy:KO ee 113 aoK bB:=TR bH (all_cons aq0 all_nil) aoJ (TY λins=>by unfold aoK;split;exact ahR _ _;trivial)
theorem asj:KO ee 112 anm bB:=TR bH all_nil (.o) (TY λins=>by unfold anm;split;exact af5 _;trivial)
theorem aur:KO ee 114 anW bB:=TR bH (all_cons abx all_nil) anV (TY λins=>by unfold anW;split;exact ag4 _ _;trivial)
theorem azq:KO ee 78 apO bN:=TR bH (all_cons asj (all_cons awy (all_cons aur all_nil))) aeP (TY λins=>by unfold apO;split;exact aiU _;trivial)
theorem aBB:∀n:Nat,(KO ee 26 (aaS n) pE)/\(KO ee 38 (acE n) bB):=by
 intro n;induction n with
 |zero=>exact⟨ig (by intro ti lx h;unfold aaS at h;split at h;exact absurd (aK.1 h.1).2 (by simp);exact h.elim),ig (by intro ti lx h;unfold acE at h;split at h;exact absurd (aK.1 h.1).2 (by simp);exact h.elim)⟩
 |succ n ih=>obtain⟨zK,QL⟩:=ih;exact⟨TR bH (all_cons QL all_nil) apz (TY λins=>by unfold aaS;split;exact aiD _ _;trivial),TR bH (all_cons arl (all_cons zK (all_cons akz (all_cons al3 (all_cons ajQ (all_cons aqx (all_cons abB (all_cons azq (all_cons aqF all_nil))))))))) ail (TY λins=>by unfold acE;split;exact aim _ (.mk _ _ _ _ _ _ _ _ _);trivial)⟩
theorem ayz:KO ee 26 apA pE:=iP λti lx h=>by unfold apA at h;split at h;{obtain⟨hp,rfl⟩:=h;exact⟨aaS (_+1),(aBB _).1,aK.2 ⟨hp,aa (Nat.lt_succ_self _)⟩,rfl⟩};{exact h.elim}
theorem ajF:KO ee 14 afS bN:=TR bH (all_cons aj0 (all_cons ayz all_nil)) (.o) (TY λins=>by unfold afS;split;exact afR (.mk _ _ _ _ _ _ _ _ _);trivial)
theorem ajG:KO ee 15 afU bN:=TR bH (all_cons ajF (all_cons ath all_nil)) (.o) (TY λins=>by unfold afU;split;exact afT (.mk _ _ _ _ _ _ _ _ _);trivial)
theorem ay1:KO ee 24 apI bB:=TR bH (all_cons al1 all_nil) apH (TY λins=>by unfold apI;split;exact aiK _ _;trivial)
theorem asY:KO ee 99 anw bB:=TR bH all_nil (.o) (TY λins=>by unfold anw;split;exact agr _;trivial)
theorem aw0:KO ee 159 aoW qe:=TR bH all_nil aoV (TY λins=>by unfold aoW;split;exact ah1 _ _;trivial)
theorem axK:KO ee 129 apg bB:=TR bH (all_cons aw0 all_nil) apf (TY λins=>by unfold apg;split;exact aii _ _;trivial)
theorem ayX:KO ee 62 apG bB:=TR bH all_nil adU (TY λins=>by unfold apG;split;exact aiI _;trivial)
theorem arG:KO ee 11 anb bB:=TR bH (all_cons al1 all_nil) (.o) (TY λins=>by unfold anb;split;exact afL (.mk _ _ _) (.mk _ _ _);trivial)
theorem ajx:KO ee 160 afh bB:=TR bH all_nil (.o) (TY λins=>by unfold afh;split;exact afg (.mk _ _) (.mk _ _);trivial)
theorem akd:KO ee 133 ahk mh:=TR bH (all_cons ajx (all_cons ajv all_nil)) aof (TY λins=>by unfold ahk;split;exact ahj _ _;trivial)
theorem auW:KO ee 134 aoa gN:=TR bH (all_cons ajx (all_cons ajv all_nil)) an9 (TY λins=>by unfold aoa;split;exact ahe _ (.mk _ _) _;trivial)
theorem asJ:KO ee 100 anr bB:=TR bH (all_cons akd (all_cons auW all_nil)) (.o) (TY λins=>by unfold anr;split;exact agm _ _;trivial)
theorem axf:KO ee 136 ao2 bB:=TR bH all_nil ao1 (TY λins=>by unfold ao2;split;exact ah6 _;trivial)
theorem azG:KO ee 101 apS bB:=TR bH (all_cons aee (all_cons akd (all_cons ale (all_cons axf all_nil)))) ai0 (TY λins=>by unfold apS;split;exact ai1 _ _;trivial)
theorem ajP:KO ee 130 agj bB:=TR bH all_nil (.o) (TY λins=>by unfold agj;split;exact agi _;trivial)
theorem asy:KO ee 131 ano bB:=TR bH (all_cons ajP all_nil) (.o) (TY λins=>by unfold ano;split;exact agh _ _;trivial)
theorem av2:KO ee 132 aoA bB:=TR bH (all_cons ach all_nil) aoz (TY λins=>by unfold aoA;split;exact ahB _ _;trivial)
theorem aAD:KO ee 98 aqb bN:=TR bH (all_cons ajP (all_cons asy (all_cons av2 all_nil))) abv (TY λins=>by unfold aqb;split;exact ajl _;trivial)
theorem azZ:KO ee 71 apZ bN:=TR bH (all_cons aes (all_cons ab3 all_nil)) aja (TY λins=>by unfold apZ;split;exact ajb _;trivial)
theorem aBI:∀n:Nat,(KO ee 35 (aa2 n) bB):=by
 intro n;induction n with
 |zero=>exact ig (by intro ti lx h;unfold aa2 at h;split at h;exact absurd (aK.1 h.1).2 (by simp);exact h.elim)
 |succ n ih=>have zK:=ih;exact TR bH (all_cons zK (all_cons azZ all_nil)) aeL (TY λins=>by unfold aa2;split;exact aiP _ (.mk _ _ _);trivial)
theorem azg:KO ee 35 apM bB:=iP λti lx h=>by unfold apM at h;split at h;{obtain⟨hp,rfl⟩:=h;exact⟨aa2 (_+1),(aBI _),aK.2 ⟨hp,aa (Nat.lt_succ_self _)⟩,rfl⟩};{exact h.elim}
theorem atI:KO ee 22 anJ bN:=TR bH (all_cons aAd (all_cons azg all_nil)) (.o) (TY λins=>by unfold anJ;split;exact agL (.mk _ _ _);trivial)
theorem aeg:KO ee 58 aeh bB:=TR bH all_nil (.o) (TY λins=>by unfold aeh;split;exact afQ _;trivial)
theorem ajC:KO ee 55 afH bB:=TR bH all_nil (.o) (TY λins=>by unfold afH;split;exact afG _;trivial)
theorem ajD:KO ee 97 afJ bB:=TR bH all_nil (.o) (TY λins=>by unfold afJ;split;exact afI _;trivial)
theorem aei:KO ee 59 aej bB:=TR bH (all_cons ajD all_nil) (.o) (TY λins=>by unfold aej;split;exact agw _ (.mk _ _ _);trivial)
theorem arD:KO ee 61 ana bB:=TR bH (all_cons ajD all_nil) (.o) (TY λins=>by unfold ana;split;exact afK _ (.mk _ _ _) _ (.mk _ _ _);trivial)
theorem ajE:KO ee 96 afP bB:=TR bH (all_cons aes (all_cons axK all_nil)) (.o) (TY λins=>by unfold afP;split;exact afO _;trivial)
theorem asD:KO ee 54 anp bB:=TR bH (all_cons ae4 (all_cons amx (all_cons abF all_nil))) (.o) (TY λins=>by unfold anp;split;exact agk _;trivial)
theorem aul:KO ee 57 anT bB:=TR bH (all_cons ae4 (all_cons aeg (all_cons aei (all_cons abF (all_cons ajE all_nil))))) (.o) (TY λins=>by unfold anT;split;exact ag2 _;trivial)
theorem axi:KO ee 65 ao3 bB:=TR bH (all_cons ajC (all_cons aeg (all_cons aei (all_cons aee (all_cons ajE (all_cons aAD (all_cons asY (all_cons asJ (all_cons azG all_nil))))))))) ah7 (TY λins=>by unfold ao3;split;exact ah8 (.mk _ _ _ _ _ _ _ _ _) _;trivial)
theorem amU:∀n:Nat,(KO ee 20 (aaO n) bB)/\(KO ee 31 (aaT n) bB):=by
 intro n;induction n with
 |zero=>exact⟨ig (by intro ti lx h;unfold aaO at h;split at h;exact absurd (aK.1 h.1).2 (by simp);exact h.elim),ig (by intro ti lx h;unfold aaT at h;split at h;exact absurd (aK.1 h.1).2 (by simp);exact h.elim)⟩
 |succ n ih=>obtain⟨zK,QL⟩:=ih;exact⟨TR bH (all_cons QL all_nil) apl (TY λins=>by unfold aaO;split;exact ain _ _ _;trivial),TR bH (all_cons zK (all_cons QL (all_cons asD (all_cons ajC (all_cons ae4 (all_cons aul (all_cons aeg (all_cons aei (all_cons az3 (all_cons arD (all_cons ayX (all_cons aes (all_cons ach (all_cons axi all_nil)))))))))))))) apB (TY λins=>by unfold aaT;split;exact aiE _ (.mk _ _ _ _ _ _ _ _ _) _;trivial)⟩
theorem ax2:KO ee 20 apm bB:=iP λti lx h=>by unfold apm at h;split at h;{obtain⟨hp,rfl⟩:=h;exact⟨aaO (_+1),(amU _).1,aK.2 ⟨hp,aa (Nat.lt_succ_self _)⟩,rfl⟩};{exact h.elim}
theorem ajN:KO ee 8 age bN:=TR bH (all_cons au4 (all_cons ax2 all_nil)) (.o) (TY λins=>by unfold age;split;exact agd (.mk _ _ _ _ _ _ _ _ _) _;trivial)
theorem asG:KO ee 10 anq bN:=TR bH (all_cons ajN (all_cons atI all_nil)) (.o) (TY λins=>by unfold anq;split;exact agl (.mk _ _ _ _ _ _ _ _ _) _;trivial)
end Go.Eng
set_option maxRecDepth 100000
namespace Go.Eng
open Go.Proofs
def an8:dn:=λl=>match l with|[]=>.ok [(.b (NS))]|_=>.err
def aCD:cE:=cW gr zs [(15,(afU,bN)),(24,(apI,bB)),(25,(anc,bB))] [77,78,79]
def auV:OT:=b9 PG aCD 13 bB (.o) []
def auU{ρ:OT}(K:∀(v1:List bF)(h1:v1=([(bF.mk ([97]:bD) 1 4607182418800017408 0 0 [] [] 0 [] [])]:List bF))(v2:bD)(h2:v2=(Rl.xn Rl.date (Val.mk 3 0 0 0 [] [] 0 [] v1)))(v3:Int)(h3:v3=((Rl.mD Rl.date (Val.mk 3 0 0 0 [] [] 0 [] v1)).2))(v4:List Int)(h4:v4=((Rl.mD Rl.date (Val.mk 3 0 0 0 [] [] 0 [] v1)).1))(v5:Bool)(h5:v5=(cond (oG (v3=(0:Int))) (oG (v2=([123,34,97,34,58,49,125]:bD))) NT))(v6:List (List Int))(h6:v6=((Rl.diff (Val.mk 3 0 0 0 [] [] 0 [] v1) (Rl.kD (Val.mk 3 0 0 0 [] [] 0 [] v1))).getD []))(v7:List (List Int))(h7:v7=([([(0:Int)]:List Int)]:List (List Int)))(v8:Bool)(h8:v8=(cond v5 (oG (v6=v7)) NT)),ck (oG (bF.bJ (bF.of [] (Val.mk 3 0 0 0 [] [] 0 [] v1))<=100000)) (ck (!(oG (v3=(0:Int)))||(oG (v3=(0:Int)))) (ck (!(oG (v3=(0:Int)))||(oG (v3=(0:Int)))) (ck (!v5||(v5&&(oG (bF.bJ (bF.of [] (Val.mk 3 0 0 0 [] [] 0 [] v1))<=10000000)))) (ck v5 (ck v5 (ck (v5&&(v5&&(oG ((v6).length<=1000000000)&&(v6).all (λl=>oG (l.length<=1099511627776))))) (BQ [(.b v8)])))))))=ρ):auV=ρ:=Eq.trans (by kernel_rfl) (K _ rfl _ rfl _ rfl _ rfl _ rfl _ rfl _ rfl _ rfl)
end Go.Eng
namespace Go.Eng
open Go.IntWalk
theorem xj:∀(m:Nat)(l:bD),l.length<=m->(∀x∈l,x.toNat<128)->dE.look l=(l.length,l.length)
 |m,[],_,_=>by have:=dE.wH [] (by decide);rw[this];rfl
 |0,_::_,h,_=>by simp at h
 |m+1,c::r,h,ha=>by have hc:=ha c (List.mem_cons_self ..);have e:(dE.rune (c::r)).2=1:=by{simp[dE.rune,hc]};rw[dE.wG _ (by rw[e];decide),e];have ih:=xj m r (by simpa using h) λx hx=>ha x (List.mem_cons_of_mem _ hx);show((dE.look r).1+1,(dE.look r).2+1)=_;rw[ih,av]
def sz{l:bD}(h:∀x∈l,x.toNat<128):dE.whole l=NS:=by unfold dE.whole;rw[xj l.length l (Nat.le_refl _) h];exact aa rfl
def BC(n:Nat):∀x∈Nr.dec n,x.toNat<128:=λx hx=>(Nr.vA (aC.1 (Nr.kH n).1 x hx)).2.2.1
def rK(v:Int):∀x∈Nr.itoa v,x.toNat<128:=by rw[Nr.jH];split;{intro x hx;rcases aQ.1 hx with rfl|hx;{decide};{exact BC _ x hx}};{exact BC _}
def DD:∀n,n<16->(kQ.sign n).toNat<128:=by decide
theorem pq:∀l:bD,∀x∈kQ.text l,x.toNat<128
 |[],x,hx=>by simp[kQ.text]at hx
 |c::r,x,hx=>by have hc:=FV c;rw[kQ.text,List.mem_append]at hx;rcases hx with hx|hx;{simp only[kQ.two,aQ,List.not_mem_nil,or_false]at hx;rcases hx with rfl|rfl;{exact DD _ (by omega)};{exact DD _ (by omega)}};{exact pq r x hx}
def Tw:∀n,n<256->(Cn.sign (UInt8.ofNat n)).toNat<128:=by decide+kernel
def nD(c:UInt8):(Cn.sign c).toNat<128:=by have:=Tw c.toNat (FV c);rwa[UInt8.ofNat_toNat]at this
theorem Ae:∀l:bD,∀x∈Cn.base l,x.toNat<128
 |[],x,hx=>by simp[Cn.base]at hx
 |[a],x,hx=>by simp only[Cn.base,aQ,List.not_mem_nil,or_false]at hx;rcases hx with rfl|rfl|rfl|rfl;{exact nD _};{exact nD _};{decide};{decide}
 |[a,b],x,hx=>by simp only[Cn.base,aQ,List.not_mem_nil,or_false]at hx;rcases hx with rfl|rfl|rfl|rfl;{exact nD _};{exact nD _};{exact nD _};{decide}
 |a::b::c::r,x,hx=>by simp only[Cn.base,aQ]at hx;rcases hx with rfl|rfl|rfl|rfl|hx;{exact nD _};{exact nD _};{exact nD _};{exact nD _};{exact Ae r x hx}
def xq{t a b fr ex e:bD}(h:Nr.Shape t a b fr ex e):∀x∈t,x.toNat<128:=by have hb:Nr.body t=t:=by{have:=Sh.AQ h;unfold Nr.body;split;{rw[List.getD_cons_zero]at this;exact absurd this (by decide)};{rfl}};have:=Nr.Shape.Ws (s:=t) (by rw[hb];exact h);rw[hb]at this;exact λx hx=>aq (aC.1 this x hx)
def EV(h l:UInt64):∀x∈Cn.qX h l,x.toNat<128:=by
 unfold Cn.qX;simp only;split;{decide}
 ·have ht:∀x∈(if(Cn.split h l).1=2 then([73,110,102,105,110,105,116,121]:bD)else Cn.laid (Nr.dec (Cn.split h l).2.2.1.val) (Cn.split h l).2.2.2),x.toNat<128:=by{split;{decide};{obtain⟨a,b,fr,ex,e,s,_⟩:=EW (Cn.split h l).2.2.1.val (Cn.split h l).2.2.2;exact xq s}};cases(Cn.split h l).2.1 with
  |false=>exact ht
  |true=>intro x hx;rcases aQ.1 hx with rfl|hx;{decide};{exact ht x hx}
def F2(b:UInt64):∀x∈Sh.text b,x.toNat<128:=by by_cases c:(Nr.split b).1=4;{rw[Sh.yF c];decide};{rw[Sh.B1 c];have hs:∀x∈Sh.sign b,x.toNat<128:=by{unfold Sh.sign;split<;>decide};have ht:∀x∈Sh.tb b,x.toNat<128:=by{unfold Sh.tb;split;{decide};split;{decide};{rename_i c3 c1;have sk:=pC b;obtain⟨⟨_,r2,r3,r4⟩,hL,hr⟩:=zX (b:=b) (by omega);obtain⟨a,b,fr,ex,e,s,_⟩:=Sh.uy hL r2 ⟨by omega,by omega⟩;exact xq s}};intro x hx;rcases List.mem_append.1 hx with hx|hx;{exact hs x hx};{exact ht x hx}}
def iZ{s:bD}(h:dE.whole s=NS):Cn.iz (Cn.str s)=0:=by simp[Cn.iz,Cn.str,Mem.of,Cn.rN,Cn.kg,h]
def L9(v:Int):Nr.fy (Nr.itoa v)≠0:=by obtain⟨d1,d2,d3,d4⟩:=Nr.kH v.natAbs;have hb:Nr.body (Nr.itoa v)=Nr.dec v.natAbs:=by{rw[Nr.jH];split;{rfl};{have:=(vB v.natAbs).1;unfold Nr.body;split;{rename_i e;rw[e]at this;exact(this rfl).elim};{rfl}}};have s:Nr.Shape (Nr.body (Nr.itoa v)) (Nr.dec v.natAbs) [] [] [] []:=⟨by rw[hb];simp,d3,d1,.inl ⟨rfl,rfl⟩,rfl,.inl ⟨rfl,rfl⟩,rfl⟩;refine Sh.tc s ?_;by_cases c:v.natAbs=0;{rw[c,Nr.mV (by omega)];exact .inl rfl};{exact .inr (d4 (by omega))}
def tD(v:Int)(h:Nr.i64 v=NS):Cn.iz (Cn.num v)=0:=by have h1:=L9 v;have h2:(Nr.itoa v).length<=21:=by{have h:=aq h;rw[Nr.jH];have:=Nr.iD 20 v.natAbs (by rw[t20];omega) (by omega);split;{simp only[av];omega};{omega}};have h3:¬300<(Nr.itoa v).length:=by{omega};simp[Cn.iz,Cn.num,Mem.of,Cn.rN,Cn.kg,h1,h3]
theorem Io(n:bD)(j:cQ):Cn.rN (Mem.of n j)=Cn.iz j:=by cases j;simp only[Cn.iz,Mem.of,Cn.rN]
def ma{l:List Mem}(h:Cn.kg l=0):Cn.iz ⟨7,[],l⟩=0:=by simp[Cn.iz,Mem.of,Cn.rN,h]
def rb{n:bD}{j:cQ}{r:List Mem}(hn:dE.whole n=NS)(hj:Cn.iz j=0)(hr:Cn.kg r=0):Cn.kg (Mem.of n j::r)=0:=by rw[Cn.kg,Io,ak (by rw[show(Mem.of n j).name=n from rfl,hn];simp),ak (by simp[hj]),hr]
def gS{n:bD}{j:cQ}(hn:dE.whole n=NS)(hj:Cn.iz j=0):Cn.iz (Cn.one n j)=0:=ma (rb hn hj rfl)
def tC{n m:bD}{j k:cQ}(hn:dE.whole n=NS)(hj:Cn.iz j=0)(hm:dE.whole m=NS)(hk:Cn.iz k=0):Cn.iz (Cn.two n j m k)=0:=ma (rb hn hj (rb hm hk rfl))
def zZ{k:Int}(h:k=1\/k=2\/k=3):Cn.iz ⟨k,[],[]⟩=0:=by rcases h with rfl|rfl|rfl<;>simp[Cn.iz,Mem.of,Cn.rN,Cn.kg]
def ze{v:Val}(h:Tree.own v=0):dE.whole v.text=NS/\dE.whole v.more=NS:=by
 obtain⟨n,f⟩:=A2 h;unfold Tree.own at h;rw[ak n,ak (by simp[f])]at h;by_cases c:Tree.ft v.text (oG (v.kind=11))=NT\/Tree.ft v.more (oG (v.kind=11))=NT;{rw[ar c]at h;exact absurd h (by decide)}
 ·have c1:Tree.ft v.text (oG (v.kind=11))=NS:=by
   cases e:Tree.ft v.text (oG (v.kind=11))with
   |true=>rfl
   |false=>exact(c (.inl e)).elim
  have c2:Tree.ft v.more (oG (v.kind=11))=NS:=by
   cases e:Tree.ft v.more (oG (v.kind=11))with
   |true=>rfl
   |false=>exact(c (.inr e)).elim
  unfold Tree.ft at c1 c2;rw[af]at c1 c2;exact⟨c1.1,c2.1⟩
def E8{v:Val}(o:Tree.own v=0):Cn.iz (Cn.mj v)=0:=by obtain⟨n1,f1⟩:=A2 o;obtain⟨t1,t2⟩:=ze o;obtain⟨_,_,_,_,_,_,_,_,b8,_⟩:=JW f1;have w:∀{l:bD},(∀x∈l,x.toNat<128)->dE.whole l=NS:=λh=>sz h;unfold Cn.mj;split;{exact gS (w (by decide)) (zZ (.inr (.inr rfl)))};split;{rename_i c8;have q:=b8 c8;rw[aI]at q;have q:v.bits.toNat<2:=q;apply zZ;unfold Cn.i64;rcases(show v.bits.toNat=0\/v.bits.toNat=1 by omega)with e|e<;>rw[e];{exact .inr (.inl (by decide))};{exact .inr (.inr (by decide))}};split;{exact zZ (.inl rfl)};split;{exact gS (w (by decide)) (tD 1 (aa (by decide)))};split;{exact gS (w (by decide)) (tD 1 (aa (by decide)))};split;{unfold Cn.nF;split;{split;{exact gS (w (by decide)) (iZ (w (pq _)))};{exact gS (w (by decide)) (iZ (w (F2 _)))}};split;{exact gS (w (by decide)) (gS (w (by decide)) (iZ (w (rK _))))};split;{exact gS (w (by decide)) (iZ (w (rK _)))};split;{exact gS (w (by decide)) (iZ (w (rK _)))};split;{exact gS (w (by decide)) (tC (w (by decide)) (tD _ (nv _)) (w (by decide)) (tD _ (nv _)))};split;{split;{exact gS (w (by decide)) (iZ (w (EV _ _)))};{refine gS (w (by decide)) (iZ (w λx hx=>?_));rcases List.mem_append.1 hx with hx|hx<;>exact pq _ x hx}};{rename_i c1 c9 c16 c18 c17 c19 _ _;rename_i hn _;unfold Cn.nF at*;simp_all}};{unfold Cn.oo;split;{exact gS (w (by decide)) (tC (w (by decide)) (iZ (w (Ae _))) (w (by decide)) (iZ (w (pq _))))};split;{exact gS (w (by decide)) (iZ (w (pq _)))};split;{exact gS (w (by decide)) (tC (w (by decide)) (iZ t1) (w (by decide)) (iZ t2))};split;{exact gS (w (by decide)) (tC (w (by decide)) (iZ t1) (w (by decide)) (gS (w (by decide)) (iZ (w (pq _)))))};split;{exact gS (w (by decide)) (iZ t1)};split;{exact gS (w (by decide)) (iZ t1)};{exact iZ t1}}
namespace Rl
def Dg{s:bD}{n:Int}(h:kL s=BQ n):Nr.i64 n=NS/\Nr.itoa n=s:=by unfold kL at h;split at h;{rename_i hx;cases h;exact hx.choose_spec};{cases h}
def IH{k:Int}{b:UInt64}{n:Int}(h:pB k b=BQ n):Nr.i64 n=NS:=by unfold pB at h;split at h;{cases h;exact nv _};{split at h;{exact(Dg h).1};{cases h}}
def Dp(k:Int)(b:UInt64):(pB k b=Ku/\rT k b=(k,b))\/(∃n,pB k b=BQ n/\-2147483648<=n/\n<2147483648/\rT k b=(16,UInt64.ofInt (UInt32.ofInt n).toNat))\/(∃n,pB k b=BQ n/\¬(-2147483648<=n/\n<2147483648)/\rT k b=(18,UInt64.ofInt n)):=by
 rw[yB];unfold yC;cases e:pB k b with
 |none=>exact .inl ⟨rfl,rfl⟩
 |some n=>right;have hn:=aq (IH e);simp only;have key:IntKind.wrap .i64 (IntKind.wrap .i32 n)=n↔(-2147483648<=n/\n<2147483648):=by{rw[w64,Yy];constructor;{intro h;split at h<;>split at h<;>omega};{intro h;split<;>split<;>omega}};by_cases c:IntKind.wrap .i64 (IntKind.wrap .i32 n)=n;{rw[ar c];exact .inl ⟨n,rfl,(key.1 c).1,(key.1 c).2,rfl⟩};{rw[ak c];exact .inr ⟨n,rfl,λw=>c (key.2 w),rfl⟩}
def KJ{k:Int}{b:UInt64}(h1:k≠1)(As:k≠18):rT k b=(k,b):=by rcases Dp k b with h|⟨n,h,_⟩|⟨n,h,_⟩;{exact h.2};{unfold pB at h;rw[ak As,ak (by rintro⟨w,_⟩;exact h1 w)]at h;cases h};{unfold pB at h;rw[ak As,ak (by rintro⟨w,_⟩;exact h1 w)]at h;cases h}
end Rl
namespace Sh
def A5:Nr.lX 4607182418800017408=4503599627370496/\Nr.sh 4607182418800017408=1022:=by decide+kernel
def Cd:kP 4607182418800017408=4503599627370496/\iR 4607182418800017408=4503599627370496:=by unfold kP iR;rw[A5.1,A5.2];decide+kernel
theorem R4:dx 4607182418800017408=1:=by have h1:=tJ (p:=4607182418800017408) (by decide) 0;have h2:=tJ (p:=4607182418800017408) (by decide) 1;rw[Cd.1,Cd.2]at h1 h2;have g1:=h1.1 (by decide+kernel);have g2:¬(1:Int)<dx 4607182418800017408:=λc=>absurd (h2.2 c) (by decide+kernel);omega
def R3:Nr.rd 1 0=BQ 4607182418800017408:=by unfold Nr.rd;refine Nr.nU (by decide) (by decide) ?_ (.inr ?_);{unfold Nr.iH;decide+kernel};{unfold Nr.iH;decide+kernel}
theorem Ii:Nr.dec 1=[49]:=(Nr.mN 1 [49] (by decide) (by decide) (by decide) (by decide)).symm
def Lw:some_ 4607182418800017408 (kP 4607182418800017408) (iR 4607182418800017408) (dx 4607182418800017408) 1=BQ ([49],1):=by rw[Cd.1,Cd.2,R4];have hP:tA 4503599627370496 (1 -1)/tB 4503599627370496 (1 -1)=1:=by{decide+kernel};have hR:2*(tA 4503599627370496 (1 -1)% tB 4503599627370496 (1 -1))<tB 4503599627370496 (1 -1):=by{decide+kernel};have hr:reads 4607182418800017408 1 (1 -1)=BQ ([49],1):=by{rw[show((1:Int) -1)=0 by decide,lU R3,Ii];rfl};unfold some_;simp only;rw[hP,hr,ar ⟨rfl,.inr (.inl hR)⟩]
theorem Gp:digits 4607182418800017408=([49],1):=go_hit Lw
def nS:(Nr.split 4607182418800017408).1=2/\(Nr.split 4607182418800017408).2.1=NT:=by decide+kernel
theorem HJ:ju 4607182418800017408=4607182418800017408:=by decide+kernel
theorem Lv:text 4607182418800017408=[49]:=by obtain⟨z1,z2,z3⟩:=CR nS.1;rw[HJ,Gp]at z1 z2;rw[rz];unfold tR;rw[ak (by rw[nS.1];decide),ak (by rw[nS.1];decide),ak (by rw[nS.1];decide),z1,z2];unfold sign;rw[ak (by rw[nS.2];decide)];rfl
end Sh
theorem zf:Rl.number 4607182418800017408=([49],NS):=by rw[Rl.nT];unfold Rl.oc;rw[ak (by rw[Sh.nS.1];decide),ak (by rw[Sh.nS.1];decide),Sh.Lv,Sh.HJ];rfl
theorem Je:Rl.kL [49]=BQ 1:=by have h:Nr.itoa 1=[49]:=by{rw[Nr.jH,ak (by decide)];exact Sh.Ii};unfold Rl.kL;have he:∃n,Nr.i64 n=NS/\Nr.itoa n=[49]:=⟨1,by decide,h⟩;rw[dif_pos he];congr 1;exact Er (he.choose_spec.2.trans h.symm)
def Kf:Val:=⟨3,0,0,0,[],[],0,[],[.mk [97] 1 4607182418800017408 0 0 [] [] 0 [] []]⟩
theorem Hg:Cn.fC Kf=([],0):=by decide+kernel
theorem Iy:Rl.mF Rl.date Kf=⟨7,[],[.mk [97] 4 [49] []]⟩:=by unfold Rl.mF;rw[Hg,ar rfl];unfold Rl.uD Kf;simp only[Rl.jI,Rl.oD];simp[Mem.of,zf,bF.name]
theorem NI:Cn.iz (Rl.mF Rl.date Kf)=0:=by rw[Iy];simp only[Cn.iz,Mem.of,Cn.rN,Cn.kg,Mem.name];have h1:dE.whole [97]=NS:=by{decide+kernel};have h2:dE.whole [49]=NS:=by{decide+kernel};have h3:Nr.fy [49]≠0:=by{decide+kernel};simp[h1,h2,h3]
theorem TK:Cn.sO (Rl.mF Rl.date Kf)=[123,34,97,34,58,49,125]:=by rw[Iy];decide+kernel
def P7:Rl.rT 1 4607182418800017408=(16,1):=by rw[Rl.yB];unfold Rl.yC Rl.pB;rw[ak (by decide),zf,ar ⟨rfl,rfl⟩,Je];decide+kernel
theorem P8:Rl.diff Kf (Rl.kD Kf)=BQ [[0]]:=by have e:Rl.kD Kf=⟨3,0,0,0,[],[],0,[],[.mk [97] 16 1 0 0 [] [] 0 [] []]⟩:=by{unfold Rl.kD Kf;simp only[Rl.oj,Rl.Hp,P7];rw[Rl.KJ (by decide) (by decide)]};rw[e];decide+kernel
def ahd:auV=BQ [.b NS]:=by refine auU ?_;intro v1 h1 v2 h2 v3 h3 v4 h4 v5 h5 v6 h6 v7 h7 v8 h8;have e0:(⟨3,0,0,0,[],[],0,[],v1⟩:Val)=Kf:=by{rw[h1];rfl};rw[e0]at h2 h3 h4 h6⊢;have eE:Rl.mD Rl.date Kf=([],0):=by{unfold Rl.mD;rw[Hg,ak (by simp),NI]};have eV:Rl.xn Rl.date Kf=[123,34,97,34,58,49,125]:=by{unfold Rl.xn Cn.pG;rw[Hg,ak (by simp),NI,TK];rfl};have e5:v5=NS:=by{rw[h5,h3,h2,eE,eV];rfl};have e6:v6=[[0]]:=by{rw[h6,P8];rfl};have e8:v8=NS:=by{rw[h8,e5,h7,e6];rfl};rw[bC (by decide+kernel),bC (Wn _),bC (Wn _),e5,e6,e8];rw[show oG (bF.bJ (bF.of [] Kf)<=10000000)=NS by decide+kernel];rfl
end Go.Eng
namespace Go.Eng
open Go.Proofs
variable{ee:Errs}
theorem auT:KO ee 13 an8 bB:=TR bH (all_cons ajG (all_cons ay1 (all_cons arJ all_nil))) (.o) (TY λins=>by unfold an8;split;exact ahd;trivial)
end Go.Eng
namespace Go.Eng
open Go.Proofs
def Yl:dn:=λl=>match l with|[.ag [.i .i64 ji,.u64 jl,.u64 jj,.u64 jh,.s je,.s jg,.i .i64 jf,.sl .bs jd,.sl .fl jk]]=>.ok [(.b (NS))]|_=>.err
def aao:cE:=cW gr zs [(6,(anF,bB)),(8,(age,bN)),(10,(anq,bN)),(11,(anb,bB)),(12,(apE,bB)),(13,(an8,bB)),(14,(afS,bN)),(15,(afU,bN))]
def Ym(v:Val):OT:=b9 PG aao 4 bB (.o) [(.ag (Val.cells v))]
def aaj(v:Val){ρ:OT}(K:∀(v1:Bool)(h1:v1=((oG (((xg.mk (Cn.fC v).2 0 (Cn.fC v).1)).err=((xg.mk (Cn.fC v).2 0 (Cn.fC v).1)).err)&&(oG (((xg.mk (Cn.fC v).2 0 (Cn.fC v).1)).at_=((xg.mk (Cn.fC v).2 0 (Cn.fC v).1)).at_)&&oG (((xg.mk (Cn.fC v).2 0 (Cn.fC v).1)).path=((xg.mk (Cn.fC v).2 0 (Cn.fC v).1)).path)))))(v2:Bool)(h2:v2=(Cn.sq (Rl.mF Rl.date v) ((Wq.json NS v))))(v3:Bool)(h3:v3=(cond (cond v1 v2 NT) (oG ((Rl.xn Rl.date v)=((Wq.text NS v)))) NT))(v4:Bool)(h4:v4=((oG (((xg.mk (Rl.mD Rl.date v).2 0 (Rl.mD Rl.date v).1)).err=((xg.mk (Cn.fC v).2 0 (Cn.fC v).1)).err)&&(oG (((xg.mk (Rl.mD Rl.date v).2 0 (Rl.mD Rl.date v).1)).at_=((xg.mk (Cn.fC v).2 0 (Cn.fC v).1)).at_)&&oG (((xg.mk (Rl.mD Rl.date v).2 0 (Rl.mD Rl.date v).1)).path=((xg.mk (Cn.fC v).2 0 (Cn.fC v).1)).path))))),cond (!(NS)) (BQ [(.b NT)]) (cond (!(oG (0<=gn.value 1200 (bF.of [] v)))) (BQ [(.b NS)]) (ck (oG (bF.bJ (bF.of [] v)<=1000000000000)) (ck (oG (bF.bJ (bF.of [] v)<=1000000000)) (ck (oG (bF.bJ (bF.of [] v)<=100000)) (ck (oG (bF.bJ (bF.of [] v)<=100000)) (ck (oG (((xg.mk (Cn.fC v).2 0 (Cn.fC v).1)).path.length<=1099511627776)) (ck (!v1||((v1&&v1)&&(oG (cQ.bJ (Rl.mF Rl.date v)<=1099511627776)))) (ck (!v1||v1) (ck (!(cond v1 v2 NT)||((cond v1 v2 NT)&&(cond v1 v2 NT))) (ck (!(cond v1 v2 NT)||(cond v1 v2 NT)) (ck (!v3||((v3&&v3)&&(oG (((xg.mk (Rl.mD Rl.date v).2 0 (Rl.mD Rl.date v).1)).path.length<=1099511627776)))) (ck (!v3||v3) (BQ [(.b (cond v3 v4 NT))])))))))))))))=ρ):Ym v=ρ:=Eq.trans (by kernel_rfl) (K _ rfl _ rfl _ rfl _ rfl)
end Go.Eng
namespace Go.Eng
theorem yQ:(m:Mem)->Cn.xt m m=NS
 |.mk n k t ks=>by
  have:∀l:List Mem,(∀x∈l,Cn.xt x x=NS)->Cn.nh l l=NS:=by
   intro l;induction l with
   |nil=>intro _;simp[Cn.nh]
   |cons x r ih=>intro h;simp[Cn.nh,h x (List.mem_cons_self ..),ih λy hy=>h y (List.mem_cons_of_mem _ hy)]
  have h:=this ks λx _=>yQ x;simp[Cn.xt,h]
def Ga(j:cQ):Cn.sq j j=NS:=yQ _
open Go.IntWalk
def Jb{v:Val}{n:bD}(h:Tree.sC v n=0):dE.whole n=NS:=by
 unfold Tree.sC at h;by_cases c:Tree.own v=0
 ·rw[ak (by simp[c])]at h;cases e:Tree.ft n NS with
  |false=>rw[ar e]at h;exact absurd h (by decide)
  |true=>unfold Tree.ft at e;rw[af]at e;exact e.1
 {rw[ar c]at h;exact(c h).elim}
def BJ{f:bF}{p:List Int}(c:(Tree.fD f p).2=0):dE.whole f.name=NS:=by
 cases f with
 |mk n k b h l t m s y ks=>rw[Tree.fD]at c;by_cases d:Tree.sC ⟨k,b,h,l,t,m,s,y,ks⟩ n=0;{exact Jb d};{rw[ar d]at c;exact(d c).elim}
theorem uF:∀l:List Mem,Cn.kg l=0->Cn.kg (l.map Cn.oN)=0/\((l.map Cn.oN).any λm=>!decide (m.name=[]))=NT
 |[],_=>⟨rfl,rfl⟩
 |m::r,h=>by obtain⟨_,h2,h3⟩:=Jp.Ng h;obtain⟨i1,i2⟩:=uF r h3;have hj:Cn.iz m.val=0:=by{rw[<-Io m.name m.val,Jp.Jo];exact h2};refine⟨rb (by decide) hj i1,?_⟩;rw[bf,List.any_cons,i2];rfl
mutual
theorem PZ:∀(f:bF)(p:List Int),(Tree.fD f p).2=0->Cn.iz (Cn.oP f)=0
 |.mk n k b h l t m s y ks,p,c=>by
  obtain⟨o,cl⟩:=ko c
  obtain⟨t1,t2⟩:=ze o
  have hm:=E7 ks 0 p cl
  have w:∀{l:bD},(∀x∈l,x.toNat<128)->dE.whole l=NS:=fun h=>sz h
  rw[Cn.oP]
  split
  ·cases Cn.ln ks with
   |true=>exact gS (w (by decide)) (ma hm)
   |false=>exact ma hm
  split
  ·cases Tree.regular ks with
   |true=>
    obtain⟨i1,i2⟩:=uF _ hm
    rw[au]
    simp only[Cn.iz,Mem.of,Cn.rN]
    rw[ak (by decide),ak (by simp),ak (by simp),ak (by simp[i2]),ak (by simp),ak (by simp),i1]
   |false=>exact gS (w (by decide)) (ma hm)
  split
  ·exact tC (w (by decide)) (iZ t1) (w (by decide)) (ma hm)
  ·exact E8 o
theorem E7:∀(l:List bF)(i:Nat)(p:List Int),(Tree.jv l i p).2=0->Cn.kg (Cn.jJ l)=0
 |[],_,_,_=>by simp[Cn.jJ,Cn.kg]
 |f::r,i,p,c=>by
  obtain⟨c1,c2⟩:=rO c
  rw[Cn.jJ]
  exact rb (BJ c1) (PZ f _ c1) (E7 r _ p c2)
end
def G4{v:Val}(h:(Cn.fC v).2=0):v.kind=3/\(Tree.fD (bF.of [] v) []).2=0:=by unfold Cn.fC at h;by_cases c:(Tree.fD (bF.of [] v) []).2=0;{rw[ak (by simp[c])]at h;by_cases d:v.kind=3;{exact⟨d,c⟩};{rw[ak d]at h;exact absurd h (by decide)}};{rw[ar c]at h;exact(c h).elim}
mutual
theorem Fb:∀(f:bF)(p:List Int),(Tree.fD f p).1.length<=p.length+bF.bJ f
 |.mk n k b h l t m s y ks,p=>by
  have:=Fa ks 0 p
  rw[Tree.fD]
  simp only[bF.bJ]
  split
  ·show p.length<=_;omega
  ·omega
theorem Fa:∀(l:List bF)(i:Nat)(p:List Int),(Tree.jv l i p).1.length<=p.length+1+bF.bV l
 |[],_,p=>by simp[Tree.jv]
 |f::r,i,p=>by
  have h1:=Fb f (p++[(i:Int)])
  have h2:=Fa r (i+1) p
  rw[ae,ao]at h1
  rw[Tree.jv]
  simp only[bF.bV]
  split<;>omega
end
def MO{v:Val}(h:bF.bJ (bF.of [] v)<=1200):(Cn.fC v).1.length<=1099511627776:=by have:=Fb (bF.of [] v) [];rw[aE]at this;unfold Cn.fC;split;{omega};split<;>simp
def jb{a b:bD}(ha:∀x∈a,x.toNat<128)(hb:∀x∈b,x.toNat<128):∀x∈a++b,x.toNat<128:=λx hx=>(List.mem_append.1 hx).elim (ha x) (hb x)
def nR(n l:Int):∀x∈Rl.pad n l,x.toNat<128:=by unfold Rl.pad;refine jb (λx hx=>?_) (rK n);rw[List.eq_of_mem_replicate hx];decide
def G9(t:Int):∀x∈(Rl.date t).1,x.toNat<128:=by
 rw[Rl.ym];unfold Rl.zY;by_cases c:t<0\/253402300799999<t;{rw[ar c];intro x hx;simp at hx}
 ·rw[ak c];simp only;refine jb ?_ (by decide);have hx:=jb (jb (jb (jb (jb (jb (jb (jb (jb (jb (nR (Rl.kC (t/86400000) 100000 (1970+t/86400000/366)) 4) (show∀x∈([45]:bD),x.toNat<128 by decide)) (nR (Rl.q8 (Rl.kC (t/86400000) 100000 (1970+t/86400000/366)) 20 (t/86400000 -Rl.ahead (Rl.kC (t/86400000) 100000 (1970+t/86400000/366))) 1).2 2)) (show∀x∈([45]:bD),x.toNat<128 by decide)) (nR ((Rl.q8 (Rl.kC (t/86400000) 100000 (1970+t/86400000/366)) 20 (t/86400000 -Rl.ahead (Rl.kC (t/86400000) 100000 (1970+t/86400000/366))) 1).1+1) 2)) (show∀x∈([84]:bD),x.toNat<128 by decide)) (nR (t%86400000/1000/3600) 2)) (show∀x∈([58]:bD),x.toNat<128 by decide)) (nR (t%86400000/1000/60%60) 2)) (show∀x∈([58]:bD),x.toNat<128 by decide)) (nR (t%86400000/1000%60) 2);cases oG (t%86400000%1000=0)with
  |true=>exact hx
  |false=>exact jb hx (jb (by decide) (nR _ _))
def PY{t:bD}(h:Nr.fy t≠0)(hl:t.length<=300):Cn.iz ⟨4,t,[]⟩=0:=by simp only[Cn.iz,Mem.of,Cn.rN];rw[ak (by decide),ak (by simp),ak (by simp),ak (by simp),ak (by simp[h];omega),ak (by simp),Cn.kg]
def Ni{b:UInt64}(h:(Rl.number b).2=NS):Cn.iz ⟨4,(Rl.number b).1,[]⟩=0:=by rw[D1 h];rw[Rl.nT]at h;unfold Rl.oc at h;have hk:(Nr.split b).1=1\/(Nr.split b).1=2:=by{by_cases c1:(Nr.split b).1=1;{exact .inl c1};{rw[ak c1]at h;by_cases c2:(Nr.split b).1=2;{exact .inr c2};{rw[ar c2]at h;exact absurd h (by decide)}}};have:=Sh.qH b;exact PY (Sh.back hk).2 (by omega)
mutual
theorem Nh:∀(f:bF)(p:List Int),(Tree.fD f p).2=0->Cn.iz (Rl.oD Rl.date f)=0
 |.mk n k b h l t m s y ks,p,c=>by
  obtain⟨o,cl⟩:=ko c
  obtain⟨t1,t2⟩:=ze o
  have hm:=wY ks 0 p cl
  have w:∀{l:bD},(∀x∈l,x.toNat<128)->dE.whole l=NS:=fun h=>sz h
  rw[Rl.oD]
  split
  ·exact tD _ (nv _)
  split
  ·exact tD _ (nv _)
  split
  ·rename_i c1;exact Ni c1.2
  split
  ·exact gS (w (by decide)) (iZ (w (G9 _)))
  split
  ·cases Cn.ln ks with
   |true=>exact gS (w (by decide)) (ma hm)
   |false=>exact ma hm
  split
  ·cases Tree.regular ks with
   |true=>
    obtain⟨i1,i2⟩:=uF _ hm
    rw[au]
    simp only[Cn.iz,Mem.of,Cn.rN]
    rw[ak (by decide),ak (by simp),ak (by simp),ak (by simp[i2]),ak (by simp),ak (by simp),i1]
   |false=>exact gS (w (by decide)) (ma hm)
  split
  ·exact tC (w (by decide)) (iZ t1) (w (by decide)) (ma hm)
  ·exact E8 o
theorem wY:∀(l:List bF)(i:Nat)(p:List Int),(Tree.jv l i p).2=0->Cn.kg (Rl.jI Rl.date l)=0
 |[],_,_,_=>by simp[Rl.jI,Cn.kg]
 |f::r,i,p,c=>by
  obtain⟨c1,c2⟩:=rO c
  rw[Rl.jI]
  exact rb (BJ c1) (Nh f _ c1) (wY r _ p c2)
end
def Kd{v:Val}(h:(Cn.fC v).2=0):Cn.iz (Rl.mF Rl.date v)=0:=by obtain⟨_,c⟩:=G4 h;unfold Rl.mF;rw[ar h];simp only[bF.of]at c;exact ma (wY _ _ _ (ko c).2)
theorem AM(v:Val):Rl.mD Rl.date v=Cn.fC v:=by unfold Rl.mD;by_cases c:(Cn.fC v).2=0;{rw[ak (by simp[c]),Kd c,Bv c]};{rw[ar c]}
def Yq(v:Val):Ym v=BQ [.b NS]:=by
 refine aaj v ?_;intro v1 h1 v2 h2 v3 h3 v4 h4;rw[aG,ai];by_cases a:0<=gn.value 1200 (bF.of [] v)
 ·have hb:=gn.F6 v a;have hj:=uz v;have hl:=MO hb;have ej:Wq.json NS v=Rl.mF Rl.date v:=rfl;have et:Wq.text NS v=Rl.xn Rl.date v:=rfl;have e1:v1=NS:=by{rw[h1];simp};have e2:v2=NS:=by{rw[h2,ej];exact Ga _};have e3:v3=NS:=by{rw[h3,e1,e2,et];simp};have e4:v4=NS:=by{rw[h4,AM];simp};rw[aa a,aG,ai,bC (aa (by omega)),bC (aa (by omega)),bC (aa (by omega)),bC (aa (by omega)),bC (aa hl),e1,e2,e3,e4,
   aa (show cQ.bJ (Rl.mF Rl.date v)<=1099511627776 by omega),show oG (List.length (xg.mk (Rl.mD Rl.date v).2 0 (Rl.mD Rl.date v).1).path<=1099511627776)=NS from aa (by rw[AM];exact hl)]
  rfl
 {rw[ab a];rfl}
end Go.Eng
namespace Go.Eng
open Go.Proofs
variable{ee:Errs}
theorem RelaxWrites.ok:KO ee 4 Yl bB:=TR bH (all_cons atu (all_cons ajN (all_cons asG (all_cons arG (all_cons ayM (all_cons auT (all_cons ajF (all_cons ajG all_nil)))))))) (.o) (TY λins=>by unfold Yl;split;exact Yq (.mk _ _ _ _ _ _ _ _ _);trivial)
end Go.Eng
namespace Go.Eng
def gl_var{P:Program}{w:World}{name:String}{g:Nat}{vs:List Value}{r:List (Nat×List Value)}(h:w.var? P name=BQ vs.toArray)(hg:P.globalNamed name=BQ g)(t:GlOK (PD r) (Old w) w):GlOK (PD ((g,vs)::r)) (Old w) w:=λn us hn o=>by
 unfold PD at hn;cases hb:Nat.beq n g with
 |true=>
  rw[hb]at hn;cases hn;rw[aB hb];refine⟨?_,by have:=World.var?_cell hg h o;simpa using this⟩;unfold World.var? at h;rw[hg]at h;simp only[Option.bind_some]at h;cases hh:w.heap[g]? with
  |none=>rw[hh]at h;cases h
  |some x=>exact(Array.getElem?_eq_some_iff.1 hh).1
 |false=>rw[hb]at hn;exact t n us hn o
end Go.Eng
