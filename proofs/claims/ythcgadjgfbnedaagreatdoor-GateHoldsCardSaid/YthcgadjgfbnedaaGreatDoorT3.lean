/- Texts of my own, one behind the other: TpTreePure, TpBinPure, TpGatePure, TpSpPure, VC, TpC, TpG0, TpG1, TpG2, TpG3, TpG, TpUtfP, TpTreeP1, TpTreeP2, TpCur, TpTreeP3, TpTreeP4, TpSize, TpBout, TpBin1, TpBin2, TpRegPure, TpRegP, TpIff1, TpIff2. -/
import Derived.Test.YthcgadjgfbnedaaGreatDoorT2
import Derived.Lib.TrailingZeros
import Derived.Lib.ItoaNum
import Derived.Test.YthcgadjgfbnedaaGreatDoorProg
import Derived.Lib.IndexLaws
set_option linter.unusedVariables false
set_option linter.unusedSimpArgs false
set_option maxRecDepth 20000
namespace Go.Eng
mutual
def bx.dk:bx→Nat
 | .mk n _ _ _ _ t m _ y ks=>1+n.length+t.length+m.length+y.length+bx.cw ks
def bx.cw:List bx→Nat
 | []=>0
 | f :: r=>bx.dk f+bx.cw r
end
namespace Tree
def uo:List Str:=[[],[100,111,117,98,108,101],[115,116,114,105,110,103],[100,111,99,117,109,101,110,116],[97,114,114,97,121],[98,105,110,97,114,121],[117,110,100,101,102,105,110,101,100],[111,98,106,101,99,116,105,100],[98,111,111,108],[100,97,116,101],[110,117,108,108],[114,101,103,101,120],[112,111,105,110,116,101,114],[99,111,100,101],[115,121,109,98,111,108],[115,99,111,112,101,100],[105,110,116,51,50],[116,105,109,101,115,116,97,109,112],[105,110,116,54,52],[100,101,99,105,109,97,108]]
def name (k:Int):Str :=
 if k=127 then [109,97,120,107,101,121]
 else if k=255 then [109,105,110,107,101,121]
 else if k<0∨20≤k then []
 else uo.getD k.toNat []
def kinds:List Int:=[1,2,3,4,5,6,7,8,9,10,11,12,13,14,15,16,17,18,19,127,255]
def fu (i:Nat) (k:Int):Bool :=
 match i with
 | 0=>decide (k∈[1,9,17,18,16,8])
 | 1=>decide (k=19)
 | 2=>decide (k∈[2,13,14,11,12,15])
 | 3=>decide (k=11)
 | 4=>decide (k=5)
 | 5=>decide (k∈[5,7,12])
 | _=>decide (k∈[3,4,15])
def cv (v:bu):Bool :=
 (fu 0 v.kind || decide (v.bits=0))&&(fu 1 v.kind || (decide (v.high=0)&&decide (v.low=0)))&&(fu 2 v.kind || decide (v.text=[]))&&(fu 3 v.kind || decide (v.more=[])) &&
 (fu 4 v.kind || decide (v.sub=0))&&(fu 5 v.kind || decide (v.bytes=[]))&&(fu 6 v.kind || decide (v.kids=[])) &&
 (!decide (v.kind=16) || decide (v.bits<4294967296))&&(!decide (v.kind=8) || decide (v.bits<2))&&(decide (0≤v.sub)&&decide (v.sub≤255))&&(!(decide (v.kind=7) || decide (v.kind=12)) || decide (v.bytes.length=12))
def dr (s:Str) (plain:Bool):Bool:=dp.whole s&&!(plain&&dp.zero s)
def own (v:bu):Int :=
 if name v.kind=[] then 5
 else if cv v=false then 1
 else if dr v.text (decide (v.kind=11))=false∨dr v.more (decide (v.kind=11))=false then 4
 else 0
def oY (v:bu) (n:Str):Int:=if own v≠0 then own v else if dr n true=false then 4 else 0
mutual
def hU:bx→List Int→List Int × Int
 | .mk n k b h l t m s y ks,p=>if oY ⟨k,b,h,l,t,m,s,y,ks⟩ n≠0 then (p,oY ⟨k,b,h,l,t,m,s,y,ks⟩ n) else uX ks 0 p
def uX:List bx→Nat→List Int→List Int × Int
 | [],_,_=>([],0)
 | f :: r,i,p=>if (hU f (p++[(i:Int)])).2≠0 then hU f (p++[(i:Int)]) else uX r (i+1) p
end
mutual
def depth:bx→Nat
 | .mk _ k _ _ _ _ _ _ _ ks=>if k=3∨k=4∨k=15 then jJ ks+1 else 0
def jJ:List bx→Nat
 | []=>0
 | f :: r=>max (depth f) (jJ r)
end
end Tree
namespace DB
def room (left:Int):List Int→Int
 | []=>left
 | s :: r=>if left<0∨left<s then -1 else room (left - s) r
mutual
def value (left:Int):bx→Int
 | .mk _ _ _ _ _ t m _ y ks=>values (room left [2,t.length,m.length,y.length]) ks
def values (left:Int):List bx→Int
 | []=>left
 | f :: r=>if left<0 then left else values (value (room left [(f.name.length:Int)]) f) r
end
end DB
end Go.Eng
set_option maxRecDepth 20000
namespace Go.Eng
namespace Bs
def ff:Nat→Nat→Str
 | 0,_=>[]
 | n+1,v=>UInt8.ofNat (v % 256) :: ff n (v / 256)
def gD:Str→Nat
 | []=>0
 | c :: r=>c.toNat+256 * gD r
def vd (b:Str) (p:Nat):Nat:=gD ((b.drop p).take 4)
def cU (b:Str) (p:Nat):Int:=if vd b p<2147483648 then (vd b p:Int) else (vd b p:Int) - 4294967296
def gM (k:Int):Bool:=decide (k=1∨k=9∨k=17∨k=18)
def gF (k:Int):Bool:=decide (k=2∨k=13∨k=14)
mutual
def size:bx→Nat
 | .mk _ k _ _ _ t m s y ks =>
  if gM k then 8 else if k=16 then 4 else if k=8 then 1 else if k=19 then 16 else if gF k then t.length+5 else if k=11 then t.length+m.length+2
  else if k=5 then (if s=2 then y.length+9 else y.length+5) else if k=7 then 12 else if k=12 then t.length+17 else if k=3∨k=4 then dC ks+5 else if k=15 then t.length+9+(dC ks+5) else 0
def dC:List bx→Nat
 | []=>0
 | f :: r=>f.name.length+2+size f+dC r
end
def fC (t:Str):Str:=ff 4 (t.length+1)++(t++[0])
def ib (s:Str):Str:=ff 4 (s.length+5)++(s++[0])
def nL (s:Int) (y:Str):Str:=if s=2 then ff 4 (y.length+4)++(UInt8.ofInt s :: (ff 4 y.length++y)) else ff 4 y.length++(UInt8.ofInt s :: y)
def nM (s:Str):Str:=ff 4 (s.length+4)++s
mutual
def enc:bx→Str
 | .mk _ k b h l t m s y ks =>
  if gM k then ff 8 b.toNat else if k=16 then ff 4 b.toNat else if k=8 then ff 1 b.toNat else if k=19 then ff 8 l.toNat++ff 8 h.toNat else if gF k then fC t else if k=11 then (t++[0])++(m++[0])
  else if k=5 then nL s y else if k=7 then y else if k=12 then fC t++y else if k=3∨k=4 then ib (dS ks) else if k=15 then nM (fC t++ib (dS ks)) else []
def dS:List bx→Str
 | []=>[]
 | f :: r=>UInt8.ofInt f.kind :: ((f.name++[0])++enc f++dS r)
end
def iR (l:List bx):Str:=ib (dS l)
def encode (v:bu):Str × Int × List Int :=
 if (Tree.hU (bx.of [] v) []).2≠0 then ([],(Tree.hU (bx.of [] v) []).2,(Tree.hU (bx.of [] v) []).1)
 else if v.kind≠3 then ([],5,[]) else if 16777216<size (bx.of [] v) then ([],9,[]) else (iR v.kids,0,[])
def may (l:eK):Bool:=decide (1≤l.depth∧l.depth≤200∧5≤l.size∧l.size≤16777216∧0≤l.out∧l.out≤67108864)
abbrev E:=Int × Nat
def can (r:bA) (n:Int):Bool:=decide (1≤n∧n≤8∧n≤(r.b.length:Int) - r.at_)
def fH (r:bA) (n:Int):Str:=if can r n=true then (r.b.drop r.at_.toNat).take n.toNat else []
def jA (r:bA) (n:Int):bA:=if can r n=true then ⟨r.b,r.at_+n⟩ else r
def qY (r:bA) (n:Int):Bool:=decide (0≤n∧n≤(r.b.length:Int) - r.at_)
def pW (r:bA) (n:Int):Str:=if qY r n=true then (r.b.drop r.at_.toNat).take n.toNat else []
def o0 (r:bA) (n:Int):bA:=if qY r n=true then ⟨r.b,r.at_+n⟩ else r
def jr (b:Str) (at_:Nat) (x:Str):Str:=b.take at_++(x++b.drop (at_+x.length))
def ctext (b:Str) (a:Int):Str × Int × Int :=
 if a<0∨(b.length:Int)<a then ([],0,1) else if Lib.indexByte (b.drop a.toNat) 0<0 then ([],0,2)
 else if dp.whole ((b.drop a.toNat).take (Lib.indexByte (b.drop a.toNat) 0).toNat)=false then ([],0,4) else ((b.drop a.toNat).take (Lib.indexByte (b.drop a.toNat) 0).toNat,a+Lib.indexByte (b.drop a.toNat) 0+1,0)
def fixed (k:Int):Nat:=if gM k then 8 else if k=16∨gF k∨k=12∨k=15 then 4 else if k=8 then 1 else if k=19 then 16 else if k=7 then 12 else if k=5 then 5 else 0
def ended (b:Str) (q z:Nat):Except E (Str × Nat) :=
 let r:=ctext (b.take z) q
 if r.2.2≠0 then .error (r.2.2,q) else .ok (r.1,r.2.1.toNat)
def pU (n:Int) (b:Str) (q z:Nat):Except E (Str × Nat) :=
 if n<1∨(z:Int) - q - 4<n then .error (6,q) else
 if b.getD (q+4+n.toNat - 1) 0≠0 then .error (3,q+4+n.toNat - 1) else
 if dp.whole ((b.drop (q+4)).take (n.toNat - 1))=false then .error (4,q+4) else .ok ((b.drop (q+4)).take (n.toNat - 1),q+4+n.toNat)
def text (b:Str) (q z:Nat):Except E (Str × Nat):=if z - q<4 then .error (2,q) else pU (cU b q) b q z
def yV (n:Int) (b:Str) (q z:Nat):Except E (Int × Str × Nat) :=
 if n<0∨(z:Int) - q - 5<n then .error (6,q) else
 if ((b.getD (q+4) 0).toNat:Int)=2 then (if n<4∨cU b (q+5)≠n - 4 then .error (6,q+5) else .ok (((b.getD (q+4) 0).toNat:Int),(b.drop (q+9)).take (n.toNat - 4),q+5+n.toNat))
 else .ok (((b.getD (q+4) 0).toNat:Int),(b.drop (q+5)).take n.toNat,q+5+n.toNat)
def binary (b:Str) (q z:Nat):Except E (Int × Str × Nat):=yV (cU b q) b q z
def mH (dc:Str→Nat→Nat→Int→Except E (List bx × Nat)) (n:Int) (b:Str) (q z:Nat):Str × Except E (List bx × Nat) :=
 if n<14∨(z:Int) - q<n then ([],.error (6,q)) else
 match text b (q+4) (q+n.toNat) with
 | .error e=>([],.error e)
 | .ok (s,x)=>(s,dc b x (q+n.toNat) 2)
def ew (dc:Str→Nat→Nat→Int→Except E (List bx × Nat)) (b:Str) (q z:Nat):Str × Except E (List bx × Nat):=mH dc (cU b q) b q z
def sub (b:Str) (q n:Nat):Str:=(b.drop q).take n
def cS (k:Int):bu:=⟨k,0,0,0,[],[],0,[],[]⟩
def xQ (dc:Str→Nat→Nat→Int→Except E (List bx × Nat)) (b:Str) (k:Int) (q z:Nat):Except E (bu × Nat) :=
 if k=3∨k=4 then (match dc b q z 0 with
  | .error e => .error e
  | .ok (l,x) => .ok ({ cS k with kids:=l },x))
 else if k=15 then (match (ew dc b q z).2 with
  | .error e => .error e
  | .ok (l,x) => .ok ({ cS k with text:=(ew dc b q z).1,kids:=l },x))
 else .ok (cS k,q)
def xO (dc:Str→Nat→Nat→Int→Except E (List bx × Nat)) (b:Str) (k:Int) (q z:Nat):Except E (bu × Nat) :=
 if gF k then (match text b q z with
  | .error e => .error e
  | .ok (s,x) => .ok ({ cS k with text:=s },x))
 else if k=12 then (match text b q z with
  | .error e => .error e
  | .ok (s,x)=>if z - x<12 then .error (2,x) else .ok ({ cS k with text:=s,bytes:=sub b x 12 },x+12))
 else if k=11 then (match ended b q z with
  | .error e => .error e
  | .ok (s,x)=>match ended b x z with
   | .error e => .error e
   | .ok (m,y) => .ok ({ cS k with text:=s,more:=m },y))
 else if k=5 then (match binary b q z with
  | .error e => .error e
  | .ok (s,y,x) => .ok ({ cS k with sub:=s,bytes:=y },x))
 else xQ dc b k q z
def eM (dc:Str→Nat→Nat→Int→Except E (List bx × Nat)) (b:Str) (k:Int) (q z:Nat):Except E (bu × Nat) :=
 if z - q<fixed k then .error (2,q)
 else if gM k∨k=16∨k=8 then (if k=8∧1<gD (sub b q 1) then .error (3,q) else .ok ({ cS k with bits:=UInt64.ofNat (gD (sub b q (fixed k))) },q+fixed k))
 else if k=19 then .ok ({ cS k with low:=UInt64.ofNat (gD (sub b q 8)),high:=UInt64.ofNat (gD (sub b (q+8) 8)) },q+16)
 else if k=7 then .ok ({ cS k with bytes:=sub b q 12 },q+12)
 else xO dc b k q z
def rH (vl:Int→Nat→Nat→Except E (bu × Nat)) (b:Str) (z:Nat):Nat→Nat→List bx→Except E (List bx × Nat)
 | 0,at_,_ => .error (3,at_)
 | n+1,at_,acc =>
  if at_=z then (if b.getD z 0≠0 then .error (3,z) else .ok (acc,z+1)) else
  if b.getD at_ 0=0 then .error (3,at_) else
  if Tree.name ((b.getD at_ 0).toNat:Int)=[] then .error (5,at_) else
  let r:=ctext (b.take z) ((at_:Int)+1)
  if r.2.2≠0 then .error (r.2.2,at_+1) else
  match vl ((b.getD at_ 0).toNat:Int) r.2.1.toNat z with
  | .error e => .error e
  | .ok (v,x)=>rH vl b z n x (acc++[bx.of r.1 v])
def wS (vl:Int→Nat→Nat→Except E (bu × Nat)) (n:Int) (b:Str) (p z:Nat) (fZ:Int):Except E (List bx × Nat) :=
 if n<5∨(z:Int) - p<n∨(fZ=2∧(p:Int)+n≠z) then .error (6,p) else
 if fZ=1∧(p:Int)+n<z then .error (7,p+n.toNat) else
 rH vl b (p+n.toNat - 1) n.toNat (p+4) []
def doc:Nat→Str→Nat→Nat→Int→Except E (List bx × Nat)
 | 0,_,p,_,_ => .error (8,p)
 | d+1,b,p,z,fZ=>if z - p<4 then .error (2,p) else wS (eM (doc d) b) (cU b p) b p z fZ
def decode (b:Str) (l:eK):Except E (List bx) :=
 if may l=false then .error (1,0) else if l.size<(b.length:Int) then .error (9,0) else
 match doc l.depth.toNat b 0 b.length 1 with
 | .error e => .error e
 | .ok (ks,_) => .ok ks
def iI {A:Type}:Except E A→cq
 | .ok _=>⟨0,0,[]⟩
 | .error (e,a)=>⟨e,a,[]⟩
def gh {A:Type} (z:A):Except E A→A
 | .ok x=>x
 | .error _=>z
def nN:Except E (List bx)→bu
 | .ok ks=>⟨3,0,0,0,[],[],0,[],ks⟩
 | .error _=>cS 0
end Bs
end Go.Eng
set_option maxRecDepth 20000
namespace Go.Eng
structure bS where
 fk:Int
 depth:Int
 size:Int
 out:Int
 at_:Int
 bT:Bool
 deriving Inhabited
namespace Gt
def iP (b:Str) (a:Int):Int × Bool:=if 0≤a∧a+4≤(b.length:Int) then (Bs.cU b a.toNat,true) else (0,false)
def yr (g:bS):eK:=⟨g.depth,g.size,g.out⟩
def write (l:eK) (v:bu):Str × cq :=
 if Bs.may l=false then ([],⟨1,0,[]⟩)
 else if (Bs.encode v).2.1≠0 then ([],⟨(Bs.encode v).2.1,0,(Bs.encode v).2.2⟩)
 else if l.out<((Bs.encode v).1.length:Int) then ([],⟨9,0,[]⟩) else ((Bs.encode v).1,⟨0,0,[]⟩)
def trans (l:eK) (b:Str):Str × cq :=
 if (Bs.iI (Bs.decode b l)).err≠0 then ([],Bs.iI (Bs.decode b l)) else write l (Bs.nN (Bs.decode b l))
def vS (a:Int) (r:Str × cq):Out:=⟨a,r.1,[],r.2.err,if r.2.err=0 then r.2.at_ else r.2.at_+a,r.2.path⟩
def j0 (e a:Int):Out:=⟨a,[],[],e,a,[]⟩
def fA (l:eK):Nat→Int→Str→List Out→List Out × Int × Str × Bool
 | 0,a,h,acc=>(acc,a,h,false)
 | n+1,a,h,acc =>
  if h.length<4 then (acc,a,h,false)
  else if Bs.cU h 0<5 then (acc++[j0 6 a],a,[],true)
  else if l.size<Bs.cU h 0 then (acc++[j0 9 a],a,[],true)
  else if (h.length:Int)<Bs.cU h 0 then (acc,a,h,false)
  else fA l n (a+Bs.cU h 0) (h.drop (Bs.cU h 0).toNat) (acc++[vS a (trans l (h.take (Bs.cU h 0).toNat))])
def feed (g:bS) (piece h:Str):List Out × bS × Str :=
 if g.bT then ([],g,h)
 else ((fA (yr g) (h.length+piece.length+1) g.at_ (h++piece) []).1,
  ⟨g.fk,g.depth,g.size,g.out,(fA (yr g) (h.length+piece.length+1) g.at_ (h++piece) []).2.1,(fA (yr g) (h.length+piece.length+1) g.at_ (h++piece) []).2.2.2⟩,
  (fA (yr g) (h.length+piece.length+1) g.at_ (h++piece) []).2.2.1)
def dT (g:bS):bS:=⟨g.fk,g.depth,g.size,g.out,g.at_,true⟩
def end_ (g:bS) (h:Str):List Out × bS × Str :=
 if g.bT=true∨h=[] then ([],dT g,h) else ([j0 2 g.at_],dT g,[])
end Gt
end Go.Eng
namespace Go.Eng
section
variable (P:Program) (E:cz) (nt n:Nat) {R:Type}
noncomputable abbrev Ax (o:Ev R):nP R:=di fun h S K=>match h with
 | .l G a=>match eY nt G S with
  | some xs=>gZ (Bw (o a) G) (Ab nt G) n xs K
  | none=>none
 | _=>none
noncomputable abbrev oO (f:Nat→Option (Ev R)) (ls:List (Nat × GL)) (a:Hint) (K:dh R):dh R:=fun e S =>
 match tP nt ls e S with
 | none=>K e S
 | some none=>none
 | some (some j)=>gZ (u9 f ls a) (tP nt ls) n j K
noncomputable abbrev yb (f:nP R):nP R:=di fun h S K=>match h with
 | .sc ls a=>f.1 a S (oO nt n f.2 ls a K)
 | _=>none
noncomputable abbrev Bk (x:Operand) (fa fb:nP R):nP R:=di fun h S K=>match dQ E nt S 0 x with
 | some (.b t,.no)=>cond t (fa.1 h.s1 S K) (fb.1 h.s2 S K)
 | some (.ub e,.no)=>cond e none (fb.1 h.s2 S K)
 | _=>none
noncomputable def rG (c:Code):nP R :=
 Code.rec (motive:=fun _=>nP R)
  (di fun _ S K=>K .normal S)
  (fun _ ops draw=>di fun _ S K=>oP P E nt ops draw S (K .normal))
  (fun _ _ fa fb=>vK nt fa fb fb.1)
  (fun x _ _ fa fb=>Bk E nt x fa fb)
  (fun id _ f=>di fun h S K=>f.1 h.s1 S (gH id K))
  (fun _ f=>Ax nt n f.1)
  (fun _ _ _ _ _ _=>di fun _ _ _=>none)
  (fun id=>di fun _ S K=>K (.exit id) S)
  (fun _ f=>yb nt n f)
  rW
  (fun l=>di fun _ S K=>K (.goto l) S)
  (di fun _ S K=>K .ret S)
  (fun _=>di fun _ _ _=>none) c
end
section
variable {R:Type}
def FI (K K':dh R):Prop:=∀e S r,K e S=some r→K' e S=some r
def Le (g g':Ev R):Prop:=∀h S K K' r,FI K K'→g h S K=some r→g' h S K'=some r
def D8:Option (Ev R)→Option (Ev R)→Prop
 | none,none=>True
 | some g,some g'=>Le g g'
 | _,_=>False
theorem po {ι:Type} {f f':ι→dh R→Option R} {tr:MX→St→Option (Option ι)} (hf:∀i K K' r,FI K K'→f i K=some r→f' i K'=some r):∀(m:Nat) (i:ι) (K K':dh R) (r:R),FI K K'→gZ f tr m i K=some r→gZ f' tr m i K'=some r
 | 0,_,_,_,_,_,h=>by cases h
 | m+1,i,K,K',r,hk,h=>by
  rw [gZ] at h ⊢
  refine hf i _ _ r (fun e S r he=>?_) h
  cases ht:tr e S with
  | none=>simp only [ht] at he ⊢;exact hk _ _ _ he
  | some j=>cases j with
   | none=>simp only [ht] at he;cases he
   | some j=>simp only [ht] at he ⊢;exact po hf m _ K K' r hk he
theorem Le.seq {nt:Nat} {g g' b b':Ev R} (h1:Le g g') (h2:Le b b'):Le (vL nt g b b) (vL nt g' b' b'):=by
 intro h S K K' r hk he
 have plain:∀{a c:Hint},g a S (tU (b c) K)=some r→g' a S (tU (b' c) K')=some r:=fun {a c} he=>by
  refine h1 _ _ _ _ _ (fun e S' r' hr=>?_) he
  cases e <;> first | exact h2 _ _ _ _ _ hk hr | exact hk _ _ _ hr
 cases h <;> first | exact plain he | skip
 rename_i G a c
 refine h1 _ _ _ _ _ (fun e S' r' hr=>?_) he
 cases e <;> first | exact hk _ _ _ hr | skip
 simp only [lN] at hr ⊢
 split at hr
 ·rename_i xs e;exact h2 _ _ _ _ _ hk hr
 ·cases hr
theorem Ba (P:Program) (E:cz) (nt n:Nat) (c:Code):Le (R:=R) (rG P E nt n c).1 (hZ P E nt c)∧∀l,D8 ((rG (R:=R) P E nt n c).2 l) (lZ P E nt c l):=by
  have mg:∀{f g:Ev R} (l:Nat),D8 ((di f).2 l) ((di g).2 l):=fun l=>trivial
  induction c with
  | skip=>exact ⟨fun h S K K' r hk he=>hk _ _ _ he,fun _=>trivial⟩
  | label l =>
    refine ⟨fun h S K K' r hk he=>hk _ _ _ he,fun l'=>?_⟩
    show D8 (iF (R:=R) l l') (iF l l')
    unfold iF
    cases Nat.beq l l' with
    | true=>exact fun h S K K' r hk he=>hk _ _ _ he
    | false=>trivial
  | exit id=>exact ⟨fun h S K K' r hk he=>hk _ _ _ he,fun _=>trivial⟩
  | goto l=>exact ⟨fun h S K K' r hk he=>hk _ _ _ he,fun _=>trivial⟩
  | ret=>exact ⟨fun h S K K' r hk he=>hk _ _ _ he,fun _=>trivial⟩
  | region id ops draw =>
    refine ⟨fun h S K K' r hk he=>?_,fun _=>trivial⟩
    obtain ⟨p,hp⟩:=qf (R:=R) P E (nt:=nt) ops draw S
    have he:oP P E nt ops draw S (K .normal)=some r:=he
    show oP P E nt ops draw S (K' .normal)=some r
    rw [hp] at he ⊢
    cases p with
    | none=>cases he
    | some S'=>exact hk _ _ _ he
  | seq a b rX pM =>
    refine ⟨rX.1.seq pM.1,fun l=>?_⟩
    have e1:=rX.2 l
    have e2:=pM.2 l
    show D8 (nF nt (rG P E nt n a).2 (rG P E nt n b).2 (rG P E nt n b).1 (rG P E nt n b).1 l) (nF nt (lZ P E nt a) (lZ P E nt b) (hZ P E nt b) (hZ P E nt b) l)
    unfold nF
    cases h1:(rG (R:=R) P E nt n a).2 l <;> cases h2:lZ (R:=R) P E nt a l <;> rw [h1,h2] at e1 <;> first | exact e1.elim | skip
    · simp only
      cases h1:(rG (R:=R) P E nt n b).2 l <;> cases h2:lZ (R:=R) P E nt b l <;> rw [h1,h2] at e2 <;> first | exact e2.elim | skip
      · trivial
      · exact fun h S K K' r hk he=>e2 _ _ _ _ _ hk he
    · exact Le.seq e1 pM.1
  | cond x a b rX pM =>
    refine ⟨fun h S K K' r hk he=>?_,fun _=>trivial⟩
    have he:(match dQ E nt S 0 x with | some (.b t,.no)=>cond t ((rG P E nt n a).1 h.s1 S K) ((rG P E nt n b).1 h.s2 S K) | some (.ub e,.no)=>cond e none ((rG P E nt n b).1 h.s2 S K) | _=>none)=some r:=he
    show (match dQ E nt S 0 x with | some (.b t,.no)=>cond t (hZ P E nt a h.s1 S K') (hZ P E nt b h.s2 S K') | some (.ub e,.no)=>cond e (both (hZ P E nt a h.s1 S K') (hZ P E nt b h.s2 S K')) (hZ P E nt b h.s2 S K') | _=>none)=some r
    split at he
    · rename_i t ho
      try simp only [ho]
      cases t with
      | true=>exact rX.1 _ _ _ _ _ hk he
      | false=>exact pM.1 _ _ _ _ _ hk he
    · rename_i e ho
      try simp only [ho]
      cases e with
      | true=>cases he
      | false=>exact pM.1 _ _ _ _ _ hk he
    · cases he
  | block id a ih =>
    refine ⟨fun h S K K' r hk he=>ih.1 _ _ _ _ _ (fun e S' r' hr=>?_) he,fun _=>trivial⟩
    cases e <;> first | exact hk _ _ _ hr | skip
    rename_i j
    cases hb:Nat.beq j id <;> simp only [gH,hb] at hr ⊢ <;> exact hk _ _ _ hr
  | loop a ih =>
    refine ⟨fun h S K K' r hk he=>?_,fun _=>trivial⟩
    cases h <;> first | (cases he;done) | skip
    rename_i G a'
    have he:(match eY nt G S with | some xs=>gZ (Bw ((rG P E nt n a).1 a') G) (Ab nt G) n xs K | none=>none)=some r:=he
    show mP nt (hZ P E nt a a') G S K'=some r
    unfold mP
    split at he
    · rename_i xs hx
      try simp only [hx]
      exact (gU (mA ((jR P E a).1 a') G) xs K' r).2 ⟨n,po (f:=Bw ((rG P E nt n a).1 a') G) (fun i K K' r hk hf=>ih.1 a' (dn G i) K K' r hk hf) n xs K K' r hk he⟩
    · cases he
  | rangeFunc _ _ _ _ _ _=>exact ⟨fun h S K K' r hk he=>(by cases he),fun _=>trivial⟩
  | scope a ih =>
    refine ⟨fun h S K K' r hk he=>?_,fun _=>trivial⟩
    cases h <;> first | (cases he;done) | skip
    rename_i ls a'
    refine ih.1 _ _ _ _ _ (fun e S' r' hr=>?_) he
    show fY nt (lZ P E nt a) ls a' K' e S'=some r'
    have hr:oO nt n (rG P E nt n a).2 ls a' K e S'=some r':=hr
    unfold oO at hr
    unfold fY nh
    cases ht:tP nt ls e S' with
    | none=>simp only [ht] at hr ⊢;exact hk _ _ _ hr
    | some j =>
     cases j with
     | none=>simp only [ht] at hr;cases hr
     | some j =>
      simp only [ht] at hr ⊢
      refine (gU (mz (jR P E a).2 ls a') j K' r').2 ⟨n,po (fun i K K' r hk hf=>?_) n j K K' r' hk hr⟩
      unfold u9 at hf ⊢
      have e1:=ih.2 i.1
      cases h1:(rG (R:=R) P E nt n a).2 i.1 <;> cases h2:lZ (R:=R) P E nt a i.1 <;> rw [h1,h2] at e1 <;> first | exact e1.elim | skip
      · rw [h1] at hf;cases hf
      · rw [h1] at hf
        cases hG:mQ i.1 ls with
        | none=>simp only [hG] at hf;cases hf
        | some G=>simp only [hG] at hf ⊢;exact e1 _ _ _ _ _ hk hf
  | refuse _=>exact ⟨fun h S K K' r hk he=>(by cases he),fun _=>trivial⟩
end
noncomputable def runN (P:Program) (E:cz) (n f:Nat) (sg:cg) (h:Hint) (ins:List TV):OT :=
 match P.funcs[f]? with
 | some fn=>match fn.body with
  | some c=>cX (px fn sg&&uK fn sg ins) ((rG P E fn.ntmps n c).1 h (BO fn.params.size sg ins) (si P fn.ntmps fn sg))
  | none=>none
 | none=>none
theorem yc {P:Program} {E:cz} {n f:Nat} {sg:cg} {h:Hint} {ins outs:List TV} (he:runN P E n f sg h ins=some outs):dD P E f sg h ins=some outs:=by
 unfold runN at he
 unfold dD
 cases hf:P.funcs[f]? with
 | none=>rw [hf] at he;cases he
 | some fn =>
 cases hb:fn.body with
 | none=>simp only [hf,hb] at he;cases he
 | some c =>
 simp only [hf,hb] at he ⊢
 obtain ⟨h1,h2⟩:=br.1 he
 refine br.2 ⟨h1,?_⟩
 rw [←tw]
 exact (Ba P E _ n _).1 _ _ _ _ _ (fun _ _ _ h=>h) h2
abbrev Iw:=cg × (Hint × List Nat)
abbrev zh:=List (Nat × Iw)
def ki:List TV→List TV→Bool
 | [],[]=>true
 | .sl .is a :: r,.sl .is b :: t=>decide (a=b)&&ki r t
 | .sl .bs a :: r,.sl .bs b :: t=>decide (a=b)&&ki r t
 | _,_=>false
theorem lb:∀{a b:List TV},ki a b=true→a=b
 | [],[],_=>rfl
 | [],_ :: _,h=>by cases h
 | x :: r,[],h=>by cases x <;> first | cases h | (rename_i t l;cases t <;> cases h)
 | x :: r,y :: t,h=>by
  unfold ki at h
  split at h
  ·rename_i e;cases e
  ·rename_i e1 e2
   injection e1 with a1 a2;injection e2 with b1 b2
   subst a1 a2 b1 b2
   rw [ae] at h
   rw [au h.1,lb h.2]
  ·rename_i e1 e2
   injection e1 with a1 a2;injection e2 with b1 b2
   subst a1 a2 b1 b2
   rw [ae] at h
   rw [au h.1,lb h.2]
  ·cases h
noncomputable def told (l:List TV):OT→iV
 | some o=>cond (ki (o.drop (o.length - l.length)) l) (.ok (o.take (o.length - l.length))) .err
 | none => .err
theorem tQ {l:List TV} {r:OT} {outs:List TV} (h:(told l r).holds outs):r=some (outs++l):=by
 cases r with
 | none=>exact h.elim
 | some o =>
  have h:(cond (ki (o.drop (o.length - l.length)) l) (iV.ok (o.take (o.length - l.length))) iV.err).holds outs:=h
  cases hs:ki (o.drop (o.length - l.length)) l with
  | false=>rw [hs] at h;exact h.elim
  | true =>
   rw [hs] at h
   have h:outs=o.take (o.length - l.length):=h
   have hd:=lb hs
   have e:o=o.take (o.length - l.length)++o.drop (o.length - l.length):=(List.take_append_drop _ _).symm
   rw [hd,←h] at e
   exact congrArg some e
noncomputable def tX (P:Program) (n:Nat) (ty:ze) (z:Zs) (base:List (Nat × (eE × cg))) (rs:zh):Nat→cz
 | 0=>dH ty z base []
 | d+1=>⟨fun f=>match kJ rs f with
  | some p=>(fun ins=>told (fN p.1.md ins) (runN P { tX P n ty z base rs d with ld:=p.2.2 } n f p.1 p.2.1 ins),p.1)
  | none=>look sV base f,kJ ty,kJ z,[]⟩
theorem sO {P:Program} {gl:Nat→Option (List Value)} {n:Nat} {ty:ze} {z:Zs} {base:List (Nat × (eE × cg))} {rs:zh} (hm:P.follows .mixedOrders=true∧nT P ty=true∧tL P z=true) (hE:∀p∈base,bE P gl p.1 p.2):∀d,(∀ld,fj P { tX P n ty z base rs d with ld:=ld })∧∀f,bE P gl f ((tX P n ty z base rs d).fs f)
 | 0=>⟨fun ld=>sf (ld:=ld) hm.1 hm.2.1 hm.2.2,sh hE⟩
 | d+1=>by
  obtain ⟨h1,h2⟩:=sO (n:=n) (rs:=rs) hm hE d
  refine ⟨fun ld=>?_,fun f=>?_⟩
  ·have h0:=sf (l:=base) (ld:=ld) hm.1 hm.2.1 hm.2.2
   exact ⟨h0.mixed,h0.ty,h0.z⟩
  show bE P gl f (match kJ rs f with | some p=>_ | none=>_)
  split
  ·rename_i p hp
   refine sK (h1 p.2.2) h2 p.2.1 fun ins outs hc=>?_
   refine yc (n:=n) ?_
   have hc:(told (fN p.1.md ins) (runN P { tX P n ty z base rs d with ld:=p.2.2 } n f p.1 p.2.1 ins)).holds outs:=hc
   exact tQ hc
  ·exact sh hE f
theorem runs {P:Program} {gl:Nat→Option (List Value)} {n d:Nat} {ty:ze} {z:Zs} {base:List (Nat × (eE × cg))} {rs:zh} (hm:P.follows .mixedOrders=true∧nT P ty=true∧tL P z=true) (hE:∀p∈base,bE P gl p.1 p.2) (f:Nat):bE P gl f ((tX P n ty z base rs d).fs f):=(sO hm hE d).2 f
end Go.Eng
set_option maxRecDepth 100000
namespace Go.Eng
noncomputable abbrev PG:=Go.Proofs.Tryz.prog
open Go.Proofs
def sc (l:List Nat):GL:=l.map fun k=>(k,.no)
@[reducible] def fJ:ze:=[(22,.bs,1),(26,.fl,136),(32,.is,8),(44,.bss,24),(49,.ou,96),(53,.vl,120),(57,.mh,24),(190,.ss,16)]
@[reducible] def zs:Zs:=[(24,[(.i .i64 (0:Int)),(.i .i64 (0:Int)),(.i .i64 (0:Int))]),(28,[(.i .i64 (0:Int)),(.u64 (0:UInt64)),(.u64 (0:UInt64)),(.u64 (0:UInt64)),(.s ([]:Str)),(.s ([]:Str)),(.i .i64 (0:Int)),(.nl .bs),(.nl .fl)]),(34,[(.i .i64 (0:Int)),(.i .i64 (0:Int)),(.nl .is)]),(59,[(.i .i64 (0:Int)),(.nl .bs),(.nl .mh),(.i .i64 (0:Int)),(.i .i64 (0:Int)),(.nl .is)]),(67,[(.nl .bs),(.i .i64 (0:Int))]),(76,[(.s ([]:Str)),(.i .i64 (0:Int)),(.u64 (0:UInt64)),(.u64 (0:UInt64)),(.u64 (0:UInt64)),(.s ([]:Str)),(.s ([]:Str)),(.i .i64 (0:Int)),(.nl .bs),(.nl .fl)]),(79,[(.i .i64 (0:Int)),(.i .i64 (0:Int)),(.i .i64 (0:Int)),(.i .i64 (0:Int)),(.i .i64 (0:Int)),(.nl .bs),(.b false)]),(99,[(.nl .bs)]),(118,[(.s ([]:Str)),(.s ([]:Str)),(.s ([]:Str)),(.s ([]:Str)),(.s ([]:Str)),(.s ([]:Str)),(.s ([]:Str)),(.s ([]:Str)),(.s ([]:Str)),(.s ([]:Str)),(.s ([]:Str)),(.s ([]:Str)),(.s ([]:Str)),(.s ([]:Str)),(.s ([]:Str)),(.s ([]:Str)),(.s ([]:Str)),(.s ([]:Str)),(.s ([]:Str)),(.s ([]:Str))]),(156,[(.nl .bs),(.i .i64 (0:Int))])]
theorem bP:PG.follows .mixedOrders=true∧nT PG fJ=true∧tL PG zs=true:=⟨by kernel_rfl,by kernel_rfl,by kernel_rfl⟩
def Errs:Type:={p:Value × Value // (p.1 = .nilIface∨∃te pe,p.1 = .iface te pe)∧(p.2 = .nilIface∨∃te pe,p.2 = .iface te pe)}
noncomputable def cnGl (ee:Errs):Nat→Option (List Value):=yJ [(5,pX .u8 (Lib.deBruijn64tab.map Int.ofNat)),(3,pX .u64 Lib.pow10Tab),(1,[ee.1.1]),(2,[ee.1.2])]
noncomputable section
def bX.sg:cg:={}
def bX.c:eE:=fun l=>match l with
 | [.s s,.u8 c] => .ok [(.i .i64 (Lib.indexByte s c))]
 | _ => .err
def dB.sg:cg:={}
def dB.c:eE:=fun l=>match l with
 | [.s s,.s t] => .eC (decide (t.length=1)) [(.i .i64 (Lib.indexByte s (t.getD 0 0)))]
 | _ => .err
def eR.sg:cg:={}
def eR.c:eE:=fun l=>match l with
 | [.i .i64 r] => .ok [(.b (dp.jg r))]
 | _ => .err
def bB.sg:cg:={ bC:=2 }
def bB.c:eE:=fun l=>match l with
 | [.sl .bs b,.i .i64 at_] => .eC (decide (b.length≤1099511627776)) [(.i .i64 ((dp.iY b at_).1)),(.i .i64 ((dp.iY b at_).2))]
 | _ => .err
def bK.sg:cg:={ bC:=2 }
def bK.c:eE:=fun l=>match l with
 | [.sl .bs b] => .eC (decide (b.length≤1099511627776)) [(.i .i64 (((dp.look b).1:Int))),(.i .i64 (((dp.look b).2:Int)))]
 | _ => .err
def ct.sg:cg:={ bC:=2 }
def ct.c:eE:=fun l=>match l with
 | [.sl .bs b] => .eC (decide (b.length≤1099511627776)) [(.i .i64 (((dp.look b).1:Int))),(.b (dp.whole b))]
 | _ => .err
def cH.sg:cg:={}
def cH.c:eE:=fun l=>match l with
 | [.i .i64 k] => .ok [(.s (Tree.name k))]
 | _ => .err
def bq.sg:cg:={}
def bq.c:eE:=fun l=>match l with
 | [.ag [.i .i64 iq,.u64 iv,.u64 ir,.u64 ik,.s ie,.s ij,.i .i64 ig,.sl .bs ic,.sl .fl iu]] => .ok [(.b (Tree.cv (bu.mk iq iv ir ik ie ij ig ic iu)))]
 | _ => .err
def dA.sg:cg:={}
def dA.c:eE:=fun l=>match l with
 | [.s s,.s t] => .eC (decide (t.length=1)) [(.i .i64 (Lib.indexByte s (t.getD 0 0)))]
 | _ => .err
def cr.sg:cg:={}
def cr.c:eE:=fun l=>match l with
 | [.s s,.s t] => .eC (decide (t.length=1)) [(.b (decide (0≤Lib.indexByte s (t.getD 0 0))))]
 | _ => .err
def df.sg:cg:={ md:=[.sm] }
def df.c:eE:=fun l=>match l with
 | [.sl .is l] => .eC (eO (l).length 8) [(.sl .is (l))]
 | _ => .err
def cE.sg:cg:={}
def cE.c:eE:=fun l=>match l with
 | [.s s,.b plain] => .eC (decide (s.length≤1099511627776)) [(.b (Tree.dr s plain))]
 | _ => .err
def bH.sg:cg:={ md:=[.pl,.pl,.sm],bC:=2 }
def bH.c:eE:=fun l=>match l with
 | [.ag [.i .i64 iq,.u64 iv,.u64 ir,.u64 ik,.s ie,.s ij,.i .i64 ig,.sl .bs ic,.sl .fl iu],.s name,.sl .is path] => .eC (decide (bx.dk (bx.of name (bu.mk iq iv ir ik ie ij ig ic iu))+path.length≤1099511627776)) [(.sl .is ((Tree.hU (bx.of name (bu.mk iq iv ir ik ie ij ig ic iu)) path).1)),(.i .i64 ((Tree.hU (bx.of name (bu.mk iq iv ir ik ie ij ig ic iu)) path).2))]
 | _ => .err
def bH.cn (n:Nat):eE:=fun l=>match l with
 | [.ag [.i .i64 iq,.u64 iv,.u64 ir,.u64 ik,.s ie,.s ij,.i .i64 ig,.sl .bs ic,.sl .fl iu],.s name,.sl .is path] => .eC ((decide (bx.dk (bx.of name (bu.mk iq iv ir ik ie ij ig ic iu))+path.length≤1099511627776))&&decide ((bx.dk (bx.of name (bu.mk iq iv ir ik ie ij ig ic iu)))<n)) [(.sl .is ((Tree.hU (bx.of name (bu.mk iq iv ir ik ie ij ig ic iu)) path).1)),(.i .i64 ((Tree.hU (bx.of name (bu.mk iq iv ir ik ie ij ig ic iu)) path).2))]
 | _ => .err
def cF.sg:cg:={ bC:=2 }
def cF.c:eE:=fun l=>match l with
 | [.ag [.i .i64 iq,.u64 iv,.u64 ir,.u64 ik,.s ie,.s ij,.i .i64 ig,.sl .bs ic,.sl .fl iu]] => .eC (decide (bx.dk (bx.of [] (bu.mk iq iv ir ik ie ij ig ic iu))≤1099511627776)) [(.sl .is ((Tree.hU (bx.of [] (bu.mk iq iv ir ik ie ij ig ic iu)) []).1)),(.i .i64 ((Tree.hU (bx.of [] (bu.mk iq iv ir ik ie ij ig ic iu)) []).2))]
 | _ => .err
def Bo.c:eE:=fun l=>match l with
 | [.i .i64 left,.ag [.i .i64 iq,.u64 iv,.u64 ir,.u64 ik,.s ie,.s ij,.i .i64 ig,.sl .bs ic,.sl .fl iu]] => .eC (decide (left≤1200)) [(.i .i64 (DB.value left (bx.of [] (bu.mk iq iv ir ik ie ij ig ic iu))))]
 | _ => .err
def Bp.c:eE:=fun l=>match l with
 | [.i .i64 k,.i .i64 n] => .eC (decide (1≤n∧n≤1099511627776)) [(.i .i64 (k % n))]
 | _ => .err
def zp.c:eE:=fun l=>match l with
 | [] => .ok [(.sl .is (Tree.kinds))]
 | _ => .err
def cI.sg:cg:={}
def cI.c:eE:=fun l=>match l with
 | [.i .i64 n] => .ok [(.b (decide (1≤n∧n≤8)))]
 | _ => .err
def bQ.sg:cg:={ own:=[0] }
def bQ.c:eE:=fun l=>match l with
 | [.sl .bs a] => .eC (eO (a).length 1) [(.sl .bs (a))]
 | _ => .err
def eH.sg:cg:={ kd := .nw none }
def eH.c:eE:=fun l=>match l with
 | [.sl .bs b] => .eC (decide ((b).length≤1099511627776)) [(.ag (bA.cells ((bA.mk b 0))))]
 | _ => .err
def dJ.sg:cg:={ md:=[.rf] }
def dJ.c:eE:=fun l=>match l with
 | [.ag [.sl .bs dw,.i .i64 bM]] => .eC (decide (0≤((bA.mk dw bM)).at_∧((bA.mk dw bM)).at_≤(((bA.mk dw bM)).b).length∧(((bA.mk dw bM)).b).length≤1099511627776)) [(.i .i64 (((((bA.mk dw bM)).b).length:Int) - ((bA.mk dw bM)).at_)),(.ag (bA.cells ((bA.mk dw bM))))]
 | _ => .err
def er.sg:cg:={ md:=[.rf],bC:=2 }
def er.c:eE:=fun l=>match l with
 | [.ag [.sl .bs dw,.i .i64 bM],.i .i64 n] => .eC (decide (1≤n∧n≤8∧0≤((bA.mk dw bM)).at_∧((bA.mk dw bM)).at_≤(((bA.mk dw bM)).b).length∧(((bA.mk dw bM)).b).length≤1099511627776)) [(.sl .bs ((Bs.fH (bA.mk dw bM) n))),(.b ((Bs.can (bA.mk dw bM) n))),(.ag (bA.cells ((Bs.jA (bA.mk dw bM) n))))]
 | _ => .err
def cT.sg:cg:={ md:=[.rf],bC:=2 }
def cT.c:eE:=fun l=>match l with
 | [.ag [.sl .bs dw,.i .i64 bM],.i .i64 n] => .eC (decide (1≤n∧n≤8∧0≤((bA.mk dw bM)).at_∧((bA.mk dw bM)).at_≤(((bA.mk dw bM)).b).length∧(((bA.mk dw bM)).b).length≤1099511627776)) [(.u64 ((UInt64.ofNat (Bs.gD (Bs.fH (bA.mk dw bM) n))))),(.b ((Bs.can (bA.mk dw bM) n))),(.ag (bA.cells ((Bs.jA (bA.mk dw bM) n))))]
 | _ => .err
def et.sg:cg:={ md:=[.rf],bC:=2 }
def et.c:eE:=fun l=>match l with
 | [.ag [.sl .bs dw,.i .i64 bM],.i .i64 n] => .eC (decide (0≤n∧0≤((bA.mk dw bM)).at_∧((bA.mk dw bM)).at_≤(((bA.mk dw bM)).b).length∧(((bA.mk dw bM)).b).length≤1099511627776)) [(.sl .bs ((Bs.pW (bA.mk dw bM) n))),(.b ((Bs.qY (bA.mk dw bM) n))),(.ag (bA.cells ((Bs.o0 (bA.mk dw bM) n))))]
 | _ => .err
def eW.sg:cg:={ kd := .nw (some 0) }
def eW.c:eE:=fun l=>match l with
 | [] => .ok [(.ag [.pt]),(.sl .bs (([]:List UInt8)))]
 | _ => .err
def dt.sg:cg:={ bC:=0,kd := .wr 0 0 true }
def dt.c:eE:=fun l=>match l with
 | [.ag [.pt],.i .i64 v,.sl .bs b] => .eC (decide ((b).length≤1099511627776)) [(.ag [.pt]),(.sl .bs ((b++[UInt8.ofInt v])))]
 | _ => .err
def eF.sg:cg:={ bC:=0,kd := .wr 0 0 true }
def eF.c:eE:=fun l=>match l with
 | [.ag [.pt],.sl .bs x,.sl .bs b] => .eC (decide ((b).length+(x).length≤2199023255552)) [(.ag [.pt]),(.sl .bs ((b++x)))]
 | _ => .err
def cK.sg:cg:={ bC:=0,kd := .wr 0 0 true }
def cK.c:eE:=fun l=>match l with
 | [.ag [.pt],.u64 v,.i .i64 n,.sl .bs b] => .eC (decide (1≤n∧n≤8∧(b).length≤1099511627776)) [(.ag [.pt]),(.sl .bs ((b++Bs.ff (n).toNat (v).toNat)))]
 | _ => .err
def cQ.sg:cg:={ kd := .wr 0 0 true }
def cQ.c:eE:=fun l=>match l with
 | [.ag [.pt],.i .i64 at_,.u64 v,.i .i64 n,.sl .bs b] => .eC (decide (1≤n∧n≤8∧0≤at_∧at_+n≤((b).length:Int)∧(b).length≤2199023255552)) [(.b (true)),(.ag [.pt]),(.sl .bs ((Bs.jr b (at_).toNat (Bs.ff (n).toNat (v).toNat))))]
 | _ => .err
def eG.sg:cg:={ kd := .wr 0 0 true }
def eG.c:eE:=fun l=>match l with
 | [.ag [.pt],.sl .bs b] => .ok [(.i .i64 (((b).length:Int))),(.ag [.pt]),(.sl .bs (b))]
 | _ => .err
def dF.sg:cg:={ md:=[.rf] }
def dF.c:eE:=fun l=>match l with
 | [.ag [.sl .bs Ec]] => .eC (decide ((((rI.mk Ec)).b).length≤2199023255552)) [(.sl .bs ((((rI.mk Ec)).b))),(.ag (rI.cells ((rI.mk Ec))))]
 | _ => .err
def bZ.sg:cg:={}
def bZ.c:eE:=fun l=>match l with
 | [.sl .bs b,.u8 c] => .ok [(.i .i64 (Lib.indexByte b c))]
 | _ => .err
def cG.sg:cg:={ bC:=3 }
def cG.c:eE:=fun l=>match l with
 | [.sl .bs b,.i .i64 at_] => .eC (decide ((b).length≤1099511627776)) [(.s ((Bs.ctext b at_).1)),(.i .i64 ((Bs.ctext b at_).2.1)),(.i .i64 ((Bs.ctext b at_).2.2))]
 | _ => .err
def cB.sg:cg:={}
def cB.c:eE:=fun l=>match l with
 | [.sl .fl l] => .eC (decide (bx.cw l≤1000000000000)) [(.i .i64 (((Bs.dC l+5:Nat):Int)))]
 | _ => .err
def cB.cn (n:Nat):eE:=fun l=>match l with
 | [.sl .fl l] => .eC ((decide (bx.cw l≤1000000000000))&&decide ((2 * bx.cw l+1)<n)) [(.i .i64 (((Bs.dC l+5:Nat):Int)))]
 | _ => .err
def cu.sg:cg:={}
def cu.c:eE:=fun l=>match l with
 | [.ag [.i .i64 iq,.u64 iv,.u64 ir,.u64 ik,.s ie,.s ij,.i .i64 ig,.sl .bs ic,.sl .fl iu]] => .eC (decide (bx.dk (bx.of [] (bu.mk iq iv ir ik ie ij ig ic iu))≤1000000000000)) [(.i .i64 (((Bs.size (bx.of [] (bu.mk iq iv ir ik ie ij ig ic iu)):Nat):Int)))]
 | _ => .err
def cu.cn (n:Nat):eE:=fun l=>match l with
 | [.ag [.i .i64 iq,.u64 iv,.u64 ir,.u64 ik,.s ie,.s ij,.i .i64 ig,.sl .bs ic,.sl .fl iu]] => .eC ((decide (bx.dk (bx.of [] (bu.mk iq iv ir ik ie ij ig ic iu))≤1000000000000))&&decide ((2 * bx.dk (bx.of [] (bu.mk iq iv ir ik ie ij ig ic iu)))<n)) [(.i .i64 (((Bs.size (bx.of [] (bu.mk iq iv ir ik ie ij ig ic iu)):Nat):Int)))]
 | _ => .err
def dY.sg:cg:={}
def dY.c:eE:=fun l=>match l with
 | [.ag [.i .i64 eB,.i .i64 eZ,.i .i64 fI]] => .ok [(.b (Bs.may (eK.mk eB eZ fI)))]
 | _ => .err
def cO.sg:cg:={ bC:=0,kd := .wr 0 0 true }
def cO.c:eE:=fun l=>match l with
 | [.ag [.pt],.s s,.sl .bs b] => .eC (decide ((b).length+(s).length≤1099511627776)) [(.ag [.pt]),(.sl .bs ((b++(s++[0]))))]
 | _ => .err
def eu.sg:cg:={ bC:=0,kd := .wr 0 0 true }
def eu.c:eE:=fun l=>match l with
 | [.ag [.pt],.s s,.sl .bs b] => .eC (decide ((b).length+(s).length+10≤1099511627776)) [(.ag [.pt]),(.sl .bs ((b++Bs.fC s)))]
 | _ => .err
def bF.sg:cg:={ bC:=0,kd := .wr 0 0 true }
def bF.c:eE:=fun l=>match l with
 | [.ag [.pt],.sl .fl l,.sl .bs b] => .eC (decide ((b).length+30 * bx.cw l+50≤1000000000000)) [(.ag [.pt]),(.sl .bs ((b++Bs.iR l)))]
 | _ => .err
def bF.cn (n:Nat):eE:=fun l=>match l with
 | [.ag [.pt],.sl .fl l,.sl .bs b] => .eC ((decide ((b).length+30 * bx.cw l+50≤1000000000000))&&decide ((2 * bx.cw l+1)<n)) [(.ag [.pt]),(.sl .bs ((b++Bs.iR l)))]
 | _ => .err
def bD.sg:cg:={ bC:=0,kd := .wr 0 0 true }
def bD.c:eE:=fun l=>match l with
 | [.ag [.pt],.ag [.i .i64 iq,.u64 iv,.u64 ir,.u64 ik,.s ie,.s ij,.i .i64 ig,.sl .bs ic,.sl .fl iu],.sl .bs b] => .eC (decide ((b).length+30 * bx.dk (bx.of [] (bu.mk iq iv ir ik ie ij ig ic iu))+30≤1000000000000)) [(.ag [.pt]),(.sl .bs ((b++Bs.enc (bx.of [] (bu.mk iq iv ir ik ie ij ig ic iu)))))]
 | _ => .err
def bD.cn (n:Nat):eE:=fun l=>match l with
 | [.ag [.pt],.ag [.i .i64 iq,.u64 iv,.u64 ir,.u64 ik,.s ie,.s ij,.i .i64 ig,.sl .bs ic,.sl .fl iu],.sl .bs b] => .eC ((decide ((b).length+30 * bx.dk (bx.of [] (bu.mk iq iv ir ik ie ij ig ic iu))+30≤1000000000000))&&decide ((2 * bx.dk (bx.of [] (bu.mk iq iv ir ik ie ij ig ic iu)))<n)) [(.ag [.pt]),(.sl .bs ((b++Bs.enc (bx.of [] (bu.mk iq iv ir ik ie ij ig ic iu)))))]
 | _ => .err
def cZ.sg:cg:={ bC:=2 }
def cZ.c:eE:=fun l=>match l with
 | [.ag [.i .i64 iq,.u64 iv,.u64 ir,.u64 ik,.s ie,.s ij,.i .i64 ig,.sl .bs ic,.sl .fl iu]] => .eC (decide (bx.dk (bx.of [] (bu.mk iq iv ir ik ie ij ig ic iu))≤10000000000)) [(.sl .bs ((Bs.encode (bu.mk iq iv ir ik ie ij ig ic iu)).1)),(.ag (cq.cells ((cq.mk (Bs.encode (bu.mk iq iv ir ik ie ij ig ic iu)).2.1 0 (Bs.encode (bu.mk iq iv ir ik ie ij ig ic iu)).2.2))))]
 | _ => .err
def bW.sg:cg:={}
def bW.c:eE:=fun l=>match l with
 | [.i .i64 e,.i .i64 at_] => .ok [(.ag (cq.cells ((cq.mk e at_ []))))]
 | _ => .err
def cd.sg:cg:={ md:=[.rf] }
def cd.c:eE:=fun l=>match l with
 | [.ag [.sl .bs dw,.i .i64 bM],.i .i64 at_] => .eC (decide (0≤at_∧at_+4≤((((bA.mk dw bM)).b).length:Int)∧(((bA.mk dw bM)).b).length≤1000000000)) [(.i .i64 ((Bs.cU (((bA.mk dw bM)).b) (at_).toNat))),(.ag (bA.cells ((bA.mk dw bM))))]
 | _ => .err
def bJ.sg:cg:={}
def bJ.c:eE:=fun l=>match l with
 | [.i .i64 k] => .ok [(.i .i64 (((Bs.fixed k:Nat):Int)))]
 | _ => .err
def dG.sg:cg:={ md:=[.rf],bC:=3 }
def dG.c:eE:=fun l=>match l with
 | [.ag [.sl .bs dw,.i .i64 bM],.i .i64 q,.i .i64 z] => .eC (decide (0≤q∧q≤z∧z≤((((bA.mk dw bM)).b).length:Int)∧(((bA.mk dw bM)).b).length≤1000000000)) [(.s ((Bs.gh ([],0) (Bs.ended (((bA.mk dw bM)).b) (q).toNat (z).toNat)).1)),(.i .i64 (((Bs.gh ([],0) (Bs.ended (((bA.mk dw bM)).b) (q).toNat (z).toNat)).2:Int))),(.ag (cq.cells ((Bs.iI (Bs.ended (((bA.mk dw bM)).b) (q).toNat (z).toNat))))),(.ag (bA.cells ((bA.mk dw bM))))]
 | _ => .err
def dK.sg:cg:={ md:=[.rf],bC:=3 }
def dK.c:eE:=fun l=>match l with
 | [.ag [.sl .bs dw,.i .i64 bM],.i .i64 q,.i .i64 z] => .eC (decide (0≤q∧q≤z∧z≤((((bA.mk dw bM)).b).length:Int)∧(((bA.mk dw bM)).b).length≤1000000000)) [(.s ((Bs.gh ([],0) (Bs.text (((bA.mk dw bM)).b) (q).toNat (z).toNat)).1)),(.i .i64 (((Bs.gh ([],0) (Bs.text (((bA.mk dw bM)).b) (q).toNat (z).toNat)).2:Int))),(.ag (cq.cells ((Bs.iI (Bs.text (((bA.mk dw bM)).b) (q).toNat (z).toNat))))),(.ag (bA.cells ((bA.mk dw bM))))]
 | _ => .err
def bR.sg:cg:={ md:=[.rf],bC:=4 }
def bR.c:eE:=fun l=>match l with
 | [.ag [.sl .bs dw,.i .i64 bM],.i .i64 q,.i .i64 z] => .eC (decide (0≤q∧q+5≤z∧z≤((((bA.mk dw bM)).b).length:Int)∧(((bA.mk dw bM)).b).length≤1000000000)) [(.i .i64 ((Bs.gh (0,[],0) (Bs.binary (((bA.mk dw bM)).b) (q).toNat (z).toNat)).1)),(.sl .bs ((Bs.gh (0,[],0) (Bs.binary (((bA.mk dw bM)).b) (q).toNat (z).toNat)).2.1)),(.i .i64 (((Bs.gh (0,[],0) (Bs.binary (((bA.mk dw bM)).b) (q).toNat (z).toNat)).2.2:Int))),(.ag (cq.cells ((Bs.iI (Bs.binary (((bA.mk dw bM)).b) (q).toNat (z).toNat))))),(.ag (bA.cells ((bA.mk dw bM))))]
 | _ => .err
def da.sg:cg:={ md:=[.rf],bC:=4 }
def da.c:eE:=fun l=>match l with
 | [.ag [.sl .bs dw,.i .i64 bM],.i .i64 q,.i .i64 z,.i .i64 d] => .eC (decide (0≤q∧q+4≤z∧z≤((((bA.mk dw bM)).b).length:Int)∧(((bA.mk dw bM)).b).length≤1000000000∧0≤d∧d≤1000∧((bA.mk dw bM)).at_≤1000∧d<((bA.mk dw bM)).at_)) [(.s ((Bs.ew (Bs.doc (((bA.mk dw bM)).at_ - (d+1)).toNat) (((bA.mk dw bM)).b) (q).toNat (z).toNat).1)),(.sl .fl ((Bs.gh ([],0) (Bs.ew (Bs.doc (((bA.mk dw bM)).at_ - (d+1)).toNat) (((bA.mk dw bM)).b) (q).toNat (z).toNat).2).1)),(.i .i64 (((Bs.gh ([],0) (Bs.ew (Bs.doc (((bA.mk dw bM)).at_ - (d+1)).toNat) (((bA.mk dw bM)).b) (q).toNat (z).toNat).2).2:Int))),(.ag (cq.cells ((Bs.iI (Bs.ew (Bs.doc (((bA.mk dw bM)).at_ - (d+1)).toNat) (((bA.mk dw bM)).b) (q).toNat (z).toNat).2)))),(.ag (bA.cells ((bA.mk dw bM))))]
 | _ => .err
def da.cn (n:Nat):eE:=fun l=>match l with
 | [.ag [.sl .bs dw,.i .i64 bM],.i .i64 q,.i .i64 z,.i .i64 d] => .eC ((decide (0≤q∧q+4≤z∧z≤((((bA.mk dw bM)).b).length:Int)∧(((bA.mk dw bM)).b).length≤1000000000∧0≤d∧d≤1000∧((bA.mk dw bM)).at_≤1000∧d<((bA.mk dw bM)).at_))&&decide ((3 * (((bA.mk dw bM)).at_ - d).toNat)<n)) [(.s ((Bs.ew (Bs.doc (((bA.mk dw bM)).at_ - (d+1)).toNat) (((bA.mk dw bM)).b) (q).toNat (z).toNat).1)),(.sl .fl ((Bs.gh ([],0) (Bs.ew (Bs.doc (((bA.mk dw bM)).at_ - (d+1)).toNat) (((bA.mk dw bM)).b) (q).toNat (z).toNat).2).1)),(.i .i64 (((Bs.gh ([],0) (Bs.ew (Bs.doc (((bA.mk dw bM)).at_ - (d+1)).toNat) (((bA.mk dw bM)).b) (q).toNat (z).toNat).2).2:Int))),(.ag (cq.cells ((Bs.iI (Bs.ew (Bs.doc (((bA.mk dw bM)).at_ - (d+1)).toNat) (((bA.mk dw bM)).b) (q).toNat (z).toNat).2)))),(.ag (bA.cells ((bA.mk dw bM))))]
 | _ => .err
def bt.sg:cg:={ md:=[.rf],bC:=3 }
def bt.c:eE:=fun l=>match l with
 | [.ag [.sl .bs dw,.i .i64 bM],.i .i64 k,.i .i64 q,.i .i64 z,.i .i64 d] => .eC (decide (0≤q∧q≤z∧z≤((((bA.mk dw bM)).b).length:Int)∧(((bA.mk dw bM)).b).length≤1000000000∧0≤d∧d≤1000∧((bA.mk dw bM)).at_≤1000∧d<((bA.mk dw bM)).at_)) [(.ag (bu.cells ((Bs.gh (Bs.cS 0,0) (Bs.eM (Bs.doc (((bA.mk dw bM)).at_ - (d+1)).toNat) (((bA.mk dw bM)).b) k (q).toNat (z).toNat)).1))),(.i .i64 (((Bs.gh (Bs.cS 0,0) (Bs.eM (Bs.doc (((bA.mk dw bM)).at_ - (d+1)).toNat) (((bA.mk dw bM)).b) k (q).toNat (z).toNat)).2:Int))),(.ag (cq.cells ((Bs.iI (Bs.eM (Bs.doc (((bA.mk dw bM)).at_ - (d+1)).toNat) (((bA.mk dw bM)).b) k (q).toNat (z).toNat))))),(.ag (bA.cells ((bA.mk dw bM))))]
 | _ => .err
def bt.cn (n:Nat):eE:=fun l=>match l with
 | [.ag [.sl .bs dw,.i .i64 bM],.i .i64 k,.i .i64 q,.i .i64 z,.i .i64 d] => .eC ((decide (0≤q∧q≤z∧z≤((((bA.mk dw bM)).b).length:Int)∧(((bA.mk dw bM)).b).length≤1000000000∧0≤d∧d≤1000∧((bA.mk dw bM)).at_≤1000∧d<((bA.mk dw bM)).at_))&&decide ((3 * (((bA.mk dw bM)).at_ - d).toNat+1)<n)) [(.ag (bu.cells ((Bs.gh (Bs.cS 0,0) (Bs.eM (Bs.doc (((bA.mk dw bM)).at_ - (d+1)).toNat) (((bA.mk dw bM)).b) k (q).toNat (z).toNat)).1))),(.i .i64 (((Bs.gh (Bs.cS 0,0) (Bs.eM (Bs.doc (((bA.mk dw bM)).at_ - (d+1)).toNat) (((bA.mk dw bM)).b) k (q).toNat (z).toNat)).2:Int))),(.ag (cq.cells ((Bs.iI (Bs.eM (Bs.doc (((bA.mk dw bM)).at_ - (d+1)).toNat) (((bA.mk dw bM)).b) k (q).toNat (z).toNat))))),(.ag (bA.cells ((bA.mk dw bM))))]
 | _ => .err
def bz.sg:cg:={ md:=[.rf],bC:=3 }
def bz.c:eE:=fun l=>match l with
 | [.ag [.sl .bs dw,.i .i64 bM],.i .i64 p,.i .i64 z,.i .i64 d,.i .i64 fZ] => .eC (decide (0≤p∧p≤z∧z≤((((bA.mk dw bM)).b).length:Int)∧(((bA.mk dw bM)).b).length≤1000000000∧0≤d∧d≤1000∧((bA.mk dw bM)).at_≤1000)) [(.sl .fl ((Bs.gh ([],0) (Bs.doc (((bA.mk dw bM)).at_ - d).toNat (((bA.mk dw bM)).b) (p).toNat (z).toNat fZ)).1)),(.i .i64 (((Bs.gh ([],0) (Bs.doc (((bA.mk dw bM)).at_ - d).toNat (((bA.mk dw bM)).b) (p).toNat (z).toNat fZ)).2:Int))),(.ag (cq.cells ((Bs.iI (Bs.doc (((bA.mk dw bM)).at_ - d).toNat (((bA.mk dw bM)).b) (p).toNat (z).toNat fZ))))),(.ag (bA.cells ((bA.mk dw bM))))]
 | _ => .err
def bz.cn (n:Nat):eE:=fun l=>match l with
 | [.ag [.sl .bs dw,.i .i64 bM],.i .i64 p,.i .i64 z,.i .i64 d,.i .i64 fZ] => .eC ((decide (0≤p∧p≤z∧z≤((((bA.mk dw bM)).b).length:Int)∧(((bA.mk dw bM)).b).length≤1000000000∧0≤d∧d≤1000∧((bA.mk dw bM)).at_≤1000))&&decide ((3 * (((bA.mk dw bM)).at_ - d).toNat+2)<n)) [(.sl .fl ((Bs.gh ([],0) (Bs.doc (((bA.mk dw bM)).at_ - d).toNat (((bA.mk dw bM)).b) (p).toNat (z).toNat fZ)).1)),(.i .i64 (((Bs.gh ([],0) (Bs.doc (((bA.mk dw bM)).at_ - d).toNat (((bA.mk dw bM)).b) (p).toNat (z).toNat fZ)).2:Int))),(.ag (cq.cells ((Bs.iI (Bs.doc (((bA.mk dw bM)).at_ - d).toNat (((bA.mk dw bM)).b) (p).toNat (z).toNat fZ))))),(.ag (bA.cells ((bA.mk dw bM))))]
 | _ => .err
def db.sg:cg:={ bC:=2 }
def db.c:eE:=fun l=>match l with
 | [.sl .bs b,.ag [.i .i64 eB,.i .i64 eZ,.i .i64 fI]] => .eC (decide ((b).length≤1000000000)) [(.ag (bu.cells ((Bs.nN (Bs.decode b (eK.mk eB eZ fI)))))),(.ag (cq.cells ((Bs.iI (Bs.decode b (eK.mk eB eZ fI))))))]
 | _ => .err
def cY.sg:cg:={ bC:=2 }
def cY.c:eE:=fun l=>match l with
 | [.sl .bs b,.i .i64 at_] => .eC (decide ((b).length≤1000000000)) [(.i .i64 ((Gt.iP b at_).1)),(.b ((Gt.iP b at_).2))]
 | _ => .err
def dZ.sg:cg:={}
def dZ.c:eE:=fun l=>match l with
 | [.i .i64 f,.ag [.i .i64 eB,.i .i64 eZ,.i .i64 fI]] => .ok [(.b (decide (1≤f∧f≤5)&&Bs.may (eK.mk eB eZ fI)))]
 | _ => .err
def ei.sg:cg:={ bC:=2 }
def ei.c:eE:=fun l=>match l with
 | [.i .i64 f,.ag [.i .i64 eB,.i .i64 eZ,.i .i64 fI],.sl .bs b] => .eC (decide (f=1∧(b).length≤1000000000)) [(.ag (bu.cells ((Bs.nN (Bs.decode b (eK.mk eB eZ fI)))))),(.ag (cq.cells ((Bs.iI (Bs.decode b (eK.mk eB eZ fI))))))]
 | _ => .err
def eh.sg:cg:={ bC:=2 }
def eh.c:eE:=fun l=>match l with
 | [.i .i64 f,.ag [.i .i64 iq,.u64 iv,.u64 ir,.u64 ik,.s ie,.s ij,.i .i64 ig,.sl .bs ic,.sl .fl iu]] => .eC (decide (f=1∧bx.dk (bx.of [] (bu.mk iq iv ir ik ie ij ig ic iu))≤10000000000)) [(.sl .bs ((Bs.encode (bu.mk iq iv ir ik ie ij ig ic iu)).1)),(.ag (cq.cells ((cq.mk (Bs.encode (bu.mk iq iv ir ik ie ij ig ic iu)).2.1 0 (Bs.encode (bu.mk iq iv ir ik ie ij ig ic iu)).2.2))))]
 | _ => .err
def dE.sg:cg:={ bC:=3 }
def dE.c:eE:=fun l=>match l with
 | [.i .i64 f,.ag [.i .i64 eB,.i .i64 eZ,.i .i64 fI],.ag [.i .i64 iq,.u64 iv,.u64 ir,.u64 ik,.s ie,.s ij,.i .i64 ig,.sl .bs ic,.sl .fl iu]] => .eC (decide (f=1∧bx.dk (bx.of [] (bu.mk iq iv ir ik ie ij ig ic iu))≤10000000000)) [(.sl .bs ((Gt.write (eK.mk eB eZ fI) (bu.mk iq iv ir ik ie ij ig ic iu)).1)),(.sl .mh (([]:List (List Int)))),(.ag (cq.cells ((Gt.write (eK.mk eB eZ fI) (bu.mk iq iv ir ik ie ij ig ic iu)).2)))]
 | _ => .err
def bY.sg:cg:={ bC:=3 }
def bY.c:eE:=fun l=>match l with
 | [.i .i64 f,.i .i64 t,.ag [.i .i64 eB,.i .i64 eZ,.i .i64 fI],.sl .bs b] => .eC (decide (f=1∧t=1∧(b).length≤1000000000)) [(.sl .bs ((Gt.trans (eK.mk eB eZ fI) b).1)),(.sl .mh (([]:List (List Int)))),(.ag (cq.cells ((Gt.trans (eK.mk eB eZ fI) b).2)))]
 | _ => .err
def eU.sg:cg:={ bC:=2,kd := .nw (some 5) }
def eU.c:eE:=fun l=>match l with
 | [.i .i64 t,.ag [.i .i64 eB,.i .i64 eZ,.i .i64 fI]] => .eC (decide (1≤t∧t≤5)&&Bs.may (eK.mk eB eZ fI)) [(.ag [(.i .i64 t),(.i .i64 (eK.depth (eK.mk eB eZ fI))),(.i .i64 (eK.size (eK.mk eB eZ fI))),(.i .i64 (eK.out (eK.mk eB eZ fI))),(.i .i64 0),.pt,(.b false)]),(.i .i64 (0)),(.sl .bs (([]:List UInt8)))]
 | _ => .err
def en.sg:cg:={ kd := .wr 0 5 true }
def en.c:eE:=fun l=>match l with
 | [.ag [.i .i64 fK,.i .i64 cV,.i .i64 dL,.i .i64 eN,.i .i64 fL,.pt,.b ca],.sl .bs b] => .ok [(.i .i64 (((b).length:Int))),(.ag [(.i .i64 fK),(.i .i64 cV),(.i .i64 dL),(.i .i64 eN),(.i .i64 fL),.pt,(.b ca)]),(.sl .bs (b))]
 | _ => .err
def dI.sg:cg:={ kd := .wr 0 5 false }
def dI.c:eE:=fun l=>match l with
 | [.ag [.i .i64 fK,.i .i64 cV,.i .i64 dL,.i .i64 eN,.i .i64 fL,.pt,.b ca],.i .i64 e,.dead] => .ok [(.ag (Out.cells ((Gt.j0 e (bS.at_ (bS.mk fK cV dL eN fL ca)))))),(.ag [(.i .i64 (bS.fk ((Gt.dT (bS.mk fK cV dL eN fL ca))))),(.i .i64 (bS.depth ((Gt.dT (bS.mk fK cV dL eN fL ca))))),(.i .i64 (bS.size ((Gt.dT (bS.mk fK cV dL eN fL ca))))),(.i .i64 (bS.out ((Gt.dT (bS.mk fK cV dL eN fL ca))))),(.i .i64 (bS.at_ ((Gt.dT (bS.mk fK cV dL eN fL ca))))),.pt,(.b (bS.bT ((Gt.dT (bS.mk fK cV dL eN fL ca)))))]),(.sl .bs (([]:List UInt8)))]
 | _ => .err
def bI.sg:cg:={ kd := .wr 0 5 true }
def bI.c:eE:=fun l=>match l with
 | [.ag [.i .i64 fK,.i .i64 cV,.i .i64 dL,.i .i64 eN,.i .i64 fL,.pt,.b ca],.sl .bs x,.sl .bs b] => .eC (decide (bS.fk (bS.mk fK cV dL eN fL ca)=1∧0≤bS.at_ (bS.mk fK cV dL eN fL ca)∧bS.at_ (bS.mk fK cV dL eN fL ca)≤1000000000000∧(x).length+(b).length≤1000000)) [(.sl .ou ((Gt.feed (bS.mk fK cV dL eN fL ca) x b).1)),(.ag [(.i .i64 (bS.fk ((Gt.feed (bS.mk fK cV dL eN fL ca) x b).2.1))),(.i .i64 (bS.depth ((Gt.feed (bS.mk fK cV dL eN fL ca) x b).2.1))),(.i .i64 (bS.size ((Gt.feed (bS.mk fK cV dL eN fL ca) x b).2.1))),(.i .i64 (bS.out ((Gt.feed (bS.mk fK cV dL eN fL ca) x b).2.1))),(.i .i64 (bS.at_ ((Gt.feed (bS.mk fK cV dL eN fL ca) x b).2.1))),.pt,(.b (bS.bT ((Gt.feed (bS.mk fK cV dL eN fL ca) x b).2.1)))]),(.sl .bs ((Gt.feed (bS.mk fK cV dL eN fL ca) x b).2.2))]
 | _ => .err
def eV.sg:cg:={ kd := .wr 0 5 true }
def eV.c:eE:=fun l=>match l with
 | [.ag [.i .i64 fK,.i .i64 cV,.i .i64 dL,.i .i64 eN,.i .i64 fL,.pt,.b ca],.sl .bs b] => .ok [(.sl .ou ((Gt.end_ (bS.mk fK cV dL eN fL ca) b).1)),(.ag [(.i .i64 (bS.fk ((Gt.end_ (bS.mk fK cV dL eN fL ca) b).2.1))),(.i .i64 (bS.depth ((Gt.end_ (bS.mk fK cV dL eN fL ca) b).2.1))),(.i .i64 (bS.size ((Gt.end_ (bS.mk fK cV dL eN fL ca) b).2.1))),(.i .i64 (bS.out ((Gt.end_ (bS.mk fK cV dL eN fL ca) b).2.1))),(.i .i64 (bS.at_ ((Gt.end_ (bS.mk fK cV dL eN fL ca) b).2.1))),.pt,(.b (bS.bT ((Gt.end_ (bS.mk fK cV dL eN fL ca) b).2.1)))]),(.sl .bs ((Gt.end_ (bS.mk fK cV dL eN fL ca) b).2.2))]
 | _ => .err
end
end Go.Eng
set_option maxRecDepth 100000
namespace Go.Eng
open Go.Proofs
noncomputable section
def bX.E:cz:=dH fJ zs []
def bX.h:Hint := .o
def bX.F (s:Str) (c:UInt8):OT:=dD PG bX.E 177 bX.sg bX.h [(.s s),(.u8 c)]
theorem bX.fh (s:Str) (c:UInt8):bX.F s c=some [(.i .i64 (Lib.indexByte s c))]:=by kernel_rfl
def dB.E:cz:=dH fJ zs [(177,(bX.c,bX.sg))]
def dB.h:Hint := .o
def dB.F (s:Str) (t:Str):OT:=dD PG dB.E 133 dB.sg dB.h [(.s s),(.s t)]
theorem dB.cR (s:Str) (t:Str) {ρ:OT} (K:∀(v1:Bool) (h1:v1=(cond (decide (((t).length:Int)=(0:Int))) true (decide (t=s)))) (v2:UInt8) (h2:v2=(List.getD t ((0:Int)).toNat (0:UInt8))),ck (!(!(decide (((t).length:Int)=(0:Int)))) || ((!(decide (((t).length:Int)=(0:Int))))&&(!(decide (((t).length:Int)=(0:Int)))))) (ck ((decide (((t).length:Int)=(0:Int))) || (!(decide (((t).length:Int)=(0:Int))))) (cond v1
  (some [(.i .i64 0)])
  (cond (decide (((t).length:Int)=(1:Int)))
  (ck (dj (0:Int) (t).length) (some [(.i .i64 (Lib.indexByte s v2))]))
  (cond (decide (((s).length:Int)≤((t).length:Int)))
  (some [(.i .i64 (-1))])
  (none)))))=ρ):dB.F s t=ρ:=Eq.trans (by kernel_rfl) (K _ rfl _ rfl)
def eR.E:cz:=dH fJ zs []
def eR.h:Hint := .o
def eR.F (r:Int):OT:=dD PG eR.E 176 eR.sg eR.h [(.i .i64 r)]
theorem eR.cR (r:Int) {ρ:OT} (K:∀(v1:Bool) (h1:v1=(cond (decide ((0:Int)≤r)) (decide (r≤(1114111:Int))) false)) (v2:Bool) (h2:v2=(v1&&(!(decide (r<(55296:Int)))))) (v3:Bool) (h3:v3=(cond (decide (r<(55296:Int))) true (decide ((57343:Int)<r)))),ck (!(decide ((0:Int)≤r)) || (decide ((0:Int)≤r))) (ck (!(decide ((0:Int)≤r)) || (decide ((0:Int)≤r))) (ck (!v1 || v1) (ck (!v1 || v1) (ck (!v2 || v2) (ck (!v1 || (v1&&((decide (r<(55296:Int))) || v2))) (ck (!v1 || v1) (some [(.b (cond v1 v3 false))])))))))=ρ):eR.F r=ρ:=Eq.trans (by kernel_rfl) (K _ rfl _ rfl _ rfl)
def bB.E:cz:=dH fJ zs [(176,(eR.c,eR.sg))]
def bB.h:Hint := .s .o (.sc [(0,(sc [])),(1,(sc [0,1,4,7,8,9]))] (.s .o (.s .o (.s .o (.j (sc [0,1,4,7,8]) .o .o)))))
def bB.F (b:List UInt8) (at_:Int):OT:=dD PG bB.E 132 bB.sg bB.h [(.sl .bs b),(.i .i64 at_)]
def bB.g1:OT:=jD PG bB.E 132 bB.sg bB.h 3 0 []
def bB.j2 (x0:List UInt8) (x1:Int) (x2:Int) (x3:Int) (x4:Int):OT:=fp PG bB.E 132 bB.sg bB.h 61 [(.sl .bs x0),(.i .i64 x1),(.i .i64 x2),(.i .i64 x3),(.i .i64 x4)]
def bB.g3 (x0:List UInt8) (x1:Int) (x2:Int) (x3:Int) (x4:Int) (x5:Int):OT:=jD PG bB.E 132 bB.sg bB.h 3 1 [(.sl .bs x0),(.i .i64 x1),(.i .i64 x2),(.i .i64 x3),(.i .i64 x4),(.i .i64 x5)]
theorem bB.lP:bB.g1=some [(.i .i64 (0:Int)),(.i .i64 (0:Int))]:=((gS _ _ _ _ _ _ _ _).trans (by kernel_rfl))
theorem bB.lO (x0:List UInt8) (x1:Int) (x2:Int) (x3:Int) (x4:Int) {ρ:OT} (K:∀(v1:Int) (h1:v1=(IntKind.i64.wrap (((x0).length:Int) - x1))) (v2:Int) (h2:v2=(IntKind.i64.wrap (v1 - (1:Int)))) (v3:Int) (h3:v3=(IntKind.i64.wrap (x1+(1:Int)))) (v4:UInt8) (h4:v4=(List.getD x0 (v3).toNat (0:UInt8))) (v5:Bool) (h5:v5=(!decide ((v4 &&& (192:UInt8))=(128:UInt8)))) (v6:Int) (h6:v6=(IntKind.i64.wrap (x2 * 2 ^ (min (((6:UInt64)).toNat) (IntKind.i64.bits))))) (v7:Int) (h7:v7=(IntKind.i64.wrap (((v4 &&& (63:UInt8))).toNat:Int))) (v8:Int) (h8:v8=(IntKind.i64.wrap ((1:Int)+(1:Int)))) (v9:Bool) (h9:v9=(cond (decide (x2<x4)) true (!(dp.jg x2)))) (v10:Int) (iU:v10=(IntKind.i64.wrap (x3+(1:Int)))),cond (decide (v2<x3))
  (bB.g1)
  (cond (decide ((1:Int)≤x3))
  (ck (dj v3 (x0).length) (cond v5
  (bB.g1)
  (ck (dj v3 (x0).length) (bB.g3 x0 x1 (cf .or .i64 v6 v7) x3 x4 v8))))
  (ck (!(!(decide (x2<x4))) || (!(decide (x2<x4)))) (ck (!(!(decide (x2<x4))) || (!(decide (x2<x4)))) (ck ((decide (x2<x4)) || (!(decide (x2<x4)))) (cond v9
  (bB.g1)
  (some [(.i .i64 x2),(.i .i64 v10)]))))))=ρ):bB.j2 x0 x1 x2 x3 x4=ρ:=((dv _ _ _ _ _ _ _).trans (by kernel_rfl)).trans (K _ rfl _ rfl _ rfl _ rfl _ rfl _ rfl _ rfl _ rfl _ rfl _ rfl)
theorem bB.ot (x0:List UInt8) (x1:Int) (x2:Int) (x3:Int) (x4:Int) (x5:Int) {ρ:OT} (K:∀(v1:UInt8) (h1:v1=(List.getD x0 ((IntKind.i64.wrap (x1+x5))).toNat (0:UInt8))) (v2:Bool) (h2:v2=(!decide ((v1 &&& (192:UInt8))=(128:UInt8)))) (v3:Int) (h3:v3=(IntKind.i64.wrap (x2 * 2 ^ (min (((6:UInt64)).toNat) (IntKind.i64.bits))))) (v4:Int) (h4:v4=(IntKind.i64.wrap (((v1 &&& (63:UInt8))).toNat:Int))) (v5:Int) (h5:v5=(IntKind.i64.wrap (x5+(1:Int)))) (v6:Bool) (h6:v6=(cond (decide (x2<x4)) true (!(dp.jg x2)))) (v7:Int) (h7:v7=(IntKind.i64.wrap (x3+(1:Int)))),cond (decide (x5≤x3))
  (ck (dj (IntKind.i64.wrap (x1+x5)) (x0).length) (cond v2
  (bB.g1)
  (ck (dj (IntKind.i64.wrap (x1+x5)) (x0).length) (bB.g3 x0 x1 (cf .or .i64 v3 v4) x3 x4 v5))))
  (ck (!(!(decide (x2<x4))) || (!(decide (x2<x4)))) (ck (!(!(decide (x2<x4))) || (!(decide (x2<x4)))) (ck ((decide (x2<x4)) || (!(decide (x2<x4)))) (cond v6
  (bB.g1)
  (some [(.i .i64 x2),(.i .i64 v7)])))))=ρ):bB.g3 x0 x1 x2 x3 x4 x5=ρ:=((gS _ _ _ _ _ _ _ _).trans (by kernel_rfl)).trans (K _ rfl _ rfl _ rfl _ rfl _ rfl _ rfl _ rfl)
theorem bB.cR (b:List UInt8) (at_:Int) {ρ:OT} (K:∀(v1:Bool) (h1:v1=(cond (decide (at_<(0:Int))) true (decide (((b).length:Int)≤at_)))) (v2:UInt8) (h2:v2=(List.getD b (at_).toNat (0:UInt8))) (v3:Int) (h3:v3=(IntKind.i64.wrap ((v2).toNat:Int))) (v4:Bool) (h4:v4=(cond (decide ((192:Int)≤v3)) (decide (v3<(224:Int))) false)) (v5:Int) (h5:v5=(cf .and .i64 v3 (31:Int))) (v6:Bool) (h6:v6=(cond (decide ((224:Int)≤v3)) (decide (v3<(240:Int))) false)) (v7:Int) (h7:v7=(cf .and .i64 v3 (15:Int))) (v8:Bool) (h8:v8=(cond (decide ((240:Int)≤v3)) (decide (v3<(248:Int))) false)) (v9:Int) (h9:v9=(cf .and .i64 v3 (7:Int))),ck (!(!(decide (at_<(0:Int)))) || (!(decide (at_<(0:Int))))) (ck (!(!(decide (at_<(0:Int)))) || ((!(decide (at_<(0:Int))))&&(!(decide (at_<(0:Int)))))) (ck ((decide (at_<(0:Int))) || (!(decide (at_<(0:Int))))) (cond v1
  (bB.g1)
  (ck (dj at_ (b).length) (cond (decide (v3<(128:Int)))
  (some [(.i .i64 v3),(.i .i64 1)])
  (ck (!(decide ((192:Int)≤v3)) || (decide ((192:Int)≤v3))) (ck (!(decide ((192:Int)≤v3)) || (decide ((192:Int)≤v3))) (cond v4
  (bB.j2 b at_ v5 (1:Int) (128:Int))
  (ck (!(decide ((224:Int)≤v3)) || (decide ((224:Int)≤v3))) (ck (!(decide ((224:Int)≤v3)) || (decide ((224:Int)≤v3))) (cond v6
  (bB.j2 b at_ v7 (2:Int) (2048:Int))
  (ck (!(decide ((240:Int)≤v3)) || (decide ((240:Int)≤v3))) (ck (!(decide ((240:Int)≤v3)) || (decide ((240:Int)≤v3))) (cond v8
  (bB.j2 b at_ v9 (3:Int) (65536:Int))
  (bB.g1)))))))))))))))=ρ):bB.F b at_=ρ:=Eq.trans (by kernel_rfl) (K _ rfl _ rfl _ rfl _ rfl _ rfl _ rfl _ rfl _ rfl _ rfl)
def bK.E:cz:=dH fJ zs [(132,(bB.c,bB.sg))]
def bK.h:Hint := .s .o (.j (sc [2,3]) (.b (.l (sc [0,2,3]) .o)) .o)
def bK.F (b:List UInt8):OT:=dD PG bK.E 100 bK.sg bK.h [(.sl .bs b)]
def bK.l1 (x0:List UInt8) (x1:Int) (x2:Int):OT:=j9 PG bK.E 100 bK.sg bK.h 9 [(.sl .bs x0),(.i .i64 x1),(.i .i64 x2)]
def bK.j2 (x0:Int) (x1:Int):OT:=fp PG bK.E 100 bK.sg bK.h 3 [(.i .i64 x0),(.i .i64 x1)]
theorem bK.fo (x0:List UInt8) (x1:Int) (x2:Int) {ρ:OT} (K:∀(v1:Int) (h1:v1=(IntKind.i64.wrap (x1+((dp.iY x0 x1).2)))) (v2:Int) (h2:v2=(IntKind.i64.wrap (x2+(1:Int)))),cond (decide (x1<((x0).length:Int)))
  (ck (decide (x0.length≤1099511627776)) (cond (decide (((dp.iY x0 x1).2)=(0:Int)))
  (bK.j2 x1 x2)
  (bK.l1 x0 v1 v2)))
  (bK.j2 x1 x2)=ρ):bK.l1 x0 x1 x2=ρ:=((gn _ _ _ _ _ _ _).trans (by kernel_rfl)).trans (K _ rfl _ rfl)
theorem bK.jE (x0:Int) (x1:Int):bK.j2 x0 x1=some [(.i .i64 x0),(.i .i64 x1)]:=((dv _ _ _ _ _ _ _).trans (by kernel_rfl))
theorem bK.fh (b:List UInt8):bK.F b=bK.l1 b (0:Int) (0:Int):=by kernel_rfl
def ct.E:cz:=dH fJ zs [(100,(bK.c,bK.sg))]
def ct.h:Hint := .o
def ct.F (b:List UInt8):OT:=dD PG ct.E 69 ct.sg ct.h [(.sl .bs b)]
theorem ct.fh (b:List UInt8):ct.F b=ck (decide (b.length≤1099511627776)) (some [(.i .i64 (((dp.look b).1:Int))),(.b (decide ((((dp.look b).1:Int))=((b).length:Int))))]):=by kernel_rfl
def cH.E:cz:=dH fJ zs []
def cH.h:Hint := .o
def cH.F (k:Int):OT:=dD PG cH.E 46 cH.sg cH.h [(.i .i64 k)]
theorem cH.cR (k:Int) {ρ:OT} (K:∀(v1:Bool) (h1:v1=(cond (decide (k<(0:Int))) true (decide ((20:Int)≤k)))) (v2:Str) (h2:v2=(List.getD [([]:Str),([100,111,117,98,108,101]:Str),([115,116,114,105,110,103]:Str),([100,111,99,117,109,101,110,116]:Str),([97,114,114,97,121]:Str),([98,105,110,97,114,121]:Str),([117,110,100,101,102,105,110,101,100]:Str),([111,98,106,101,99,116,105,100]:Str),([98,111,111,108]:Str),([100,97,116,101]:Str),([110,117,108,108]:Str),([114,101,103,101,120]:Str),([112,111,105,110,116,101,114]:Str),([99,111,100,101]:Str),([115,121,109,98,111,108]:Str),([115,99,111,112,101,100]:Str),([105,110,116,51,50]:Str),([116,105,109,101,115,116,97,109,112]:Str),([105,110,116,54,52]:Str),([100,101,99,105,109,97,108]:Str)] ((k).toNat) ([]:Str))),cond (decide (k=(127:Int)))
  (some [(.s ([109,97,120,107,101,121]:Str))])
  (cond (decide (k=(255:Int)))
  (some [(.s ([109,105,110,107,101,121]:Str))])
  (ck (!(!(decide (k<(0:Int)))) || (!(decide (k<(0:Int))))) (ck ((decide (k<(0:Int))) || (!(decide (k<(0:Int))))) (cond v1
  (some [(.s [])])
  (ck (dj k 20) (ck (decide ((k).toNat<20)) (some [(.s v2)])))))))=ρ):cH.F k=ρ:=Eq.trans (by kernel_rfl) (K _ rfl _ rfl)
def bq.E:cz:=dH fJ zs []
def bq.h:Hint := .s .o (.s .o (.j [(1,.ptr 116 0),(3,.no),(116,.cl [])] (.s .o (.b (.j [(1,.ptr 116 0),(3,.no),(5,.no),(6,.no),(116,.cl [])] .o (.s .o (.s .o (.s .o (.s .o (.s .o (.s .o (.s .o (.j [(1,.ptr 116 0),(3,.no),(5,.no),(28,.no),(116,.cl [])] .o (.s .o (.s .o (.s .o (.s .o (.s .o (.s .o (.s .o (.s .o (.s .o (.j [(1,.ptr 116 0),(3,.no),(5,.no),(64,.no),(116,.cl [])] .o .o))))))))))))))))))))) .o))
def bq.F (v:bu):OT:=dD PG bq.E 57 bq.sg bq.h [(.ag (bu.cells v))]
def bq.j1 (x0:Bool) (x1:Int) (x2:Bool) (x3:bu):OT:=fp PG bq.E 57 bq.sg bq.h 43 [.pt,(.b x0),(.i .i64 x1),(.b x2),(.ag (bu.cells x3))]
def bq.j2 (x0:Bool) (x1:bu):OT:=fp PG bq.E 57 bq.sg bq.h 7 [.pt,(.b x0),(.ag (bu.cells x1))]
def bq.j3 (x0:Bool) (x1:Int) (x2:Bool) (x3:bu):OT:=fp PG bq.E 57 bq.sg bq.h 16363 [.pt,(.b x0),(.i .i64 x1),(.b x2),(.ag (bu.cells x3))]
def bq.j4 (x0:Bool) (x1:Int) (x2:Bool) (x3:bu):OT:=fp PG bq.E 57 bq.sg bq.h 16777195 [.pt,(.b x0),(.i .i64 x1),(.b x2),(.ag (bu.cells x3))]
theorem bq.qz (x0:Bool) (x1:Int) (x2:Bool) (x3:bu):bq.j1 x0 x1 x2 x3=cond x2
  (bq.j2 x0 (bu.mk (bu.kind x3) 0 (bu.high x3) (bu.low x3) (bu.text x3) (bu.more x3) (bu.sub x3) (bu.bytes x3) (bu.kids x3)))
  (cond (decide (x1=(16:Int)))
  (bq.j2 (decide ((bu.bits x3)<(4294967296:UInt64))) (bu.mk (bu.kind x3) 0 (bu.high x3) (bu.low x3) (bu.text x3) (bu.more x3) (bu.sub x3) (bu.bytes x3) (bu.kids x3)))
  (cond (decide (x1=(8:Int)))
  (bq.j2 (decide ((bu.bits x3)<(2:UInt64))) (bu.mk (bu.kind x3) 0 (bu.high x3) (bu.low x3) (bu.text x3) (bu.more x3) (bu.sub x3) (bu.bytes x3) (bu.kids x3)))
  (cond (decide (x1=(19:Int)))
  (bq.j2 x0 (bu.mk (bu.kind x3) (bu.bits x3) 0 0 (bu.text x3) (bu.more x3) (bu.sub x3) (bu.bytes x3) (bu.kids x3)))
  (cond (decide (x1=(2:Int)))
  (bq.j3 x0 x1 (decide (x1=(2:Int))) x3)
  (cond (decide (x1=(13:Int)))
  (bq.j3 x0 x1 (decide (x1=(13:Int))) x3)
  (bq.j3 x0 x1 (decide (x1=(14:Int))) x3)))))):=((dv _ _ _ _ _ _ _).trans (by kernel_rfl))
theorem bq.lO (x0:Bool) (x1:bu) {ρ:OT} (K:∀(v1:Bool) (h1:v1=(cond x0 (decide ((bu.bits x1)=(0:UInt64))) false)) (v2:Bool) (h2:v2=(cond v1 (decide ((bu.high x1)=(0:UInt64))) false)) (v3:Bool) (h3:v3=(cond v2 (decide ((bu.low x1)=(0:UInt64))) false)) (v4:Bool) (h4:v4=(cond v3 (decide ((bu.text x1)=([]:Str))) false)) (v5:Bool) (h5:v5=(cond v4 (decide ((bu.more x1)=([]:Str))) false)) (v6:Bool) (h6:v6=(cond v5 (decide ((bu.sub x1)=(0:Int))) false)) (v7:Int) (h7:v7=(((bu.bytes x1)).length:Int)) (v8:Bool) (h8:v8=(cond v6 (decide (v7=(0:Int))) false)) (v9:Int) (h9:v9=(((bu.kids x1)).length:Int)) (v10:Bool) (iU:v10=(cond v8 (decide (v9=(0:Int))) false)),ck (!x0 || x0) (ck (!x0 || x0) (ck (!x0 || x0) (ck (!v1 || v1) (ck (!v1 || v1) (ck (!v1 || v1) (ck (!v2 || v2) (ck (!v2 || v2) (ck (!v2 || v2) (ck (!v3 || v3) (ck (!v3 || v3) (ck (!v3 || v3) (ck (!v4 || v4) (ck (!v4 || v4) (ck (!v4 || v4) (ck (!v5 || v5) (ck (!v5 || v5) (ck (!v5 || v5) (ck (!v6 || v6) (ck (!v6 || v6) (ck (!v6 || v6) (ck (!v6 || v6) (ck (!v8 || v8) (ck (!v8 || v8) (ck (!v8 || v8) (ck (!v8 || v8) (some [(.b v10)]))))))))))))))))))))))))))=ρ):bq.j2 x0 x1=ρ:=((dv _ _ _ _ _ _ _).trans (by kernel_rfl)).trans (K _ rfl _ rfl _ rfl _ rfl _ rfl _ rfl _ rfl _ rfl _ rfl _ rfl)
theorem bq.qx (x0:Bool) (x1:Int) (x2:Bool) (x3:bu) {ρ:OT} (K:∀(v1:Bool) (h1:v1=(cond (decide ((0:Int)≤(bu.sub x3))) (decide ((bu.sub x3)≤(255:Int))) false)) (v2:Int) (h2:v2=(((bu.bytes x3)).length:Int)),cond x2
  (bq.j2 x0 (bu.mk (bu.kind x3) (bu.bits x3) (bu.high x3) (bu.low x3) [] (bu.more x3) (bu.sub x3) (bu.bytes x3) (bu.kids x3)))
  (cond (decide (x1=(11:Int)))
  (bq.j2 x0 (bu.mk (bu.kind x3) (bu.bits x3) (bu.high x3) (bu.low x3) [] [] (bu.sub x3) (bu.bytes x3) (bu.kids x3)))
  (cond (decide (x1=(5:Int)))
  (ck (!(decide ((0:Int)≤(bu.sub x3))) || (decide ((0:Int)≤(bu.sub x3)))) (ck (!(decide ((0:Int)≤(bu.sub x3))) || (decide ((0:Int)≤(bu.sub x3)))) (ck (!(decide ((0:Int)≤(bu.sub x3))) || (decide ((0:Int)≤(bu.sub x3)))) (bq.j2 v1 (bu.mk (bu.kind x3) (bu.bits x3) (bu.high x3) (bu.low x3) (bu.text x3) (bu.more x3) 0 [] (bu.kids x3))))))
  (cond (decide (x1=(7:Int)))
  (bq.j2 (decide (v2=(12:Int))) (bu.mk (bu.kind x3) (bu.bits x3) (bu.high x3) (bu.low x3) (bu.text x3) (bu.more x3) (bu.sub x3) [] (bu.kids x3)))
  (cond (decide (x1=(12:Int)))
  (bq.j2 (decide (v2=(12:Int))) (bu.mk (bu.kind x3) (bu.bits x3) (bu.high x3) (bu.low x3) [] (bu.more x3) (bu.sub x3) [] (bu.kids x3)))
  (cond (decide (x1=(3:Int)))
  (bq.j4 x0 x1 (decide (x1=(3:Int))) x3)
  (bq.j4 x0 x1 (decide (x1=(4:Int))) x3))))))=ρ):bq.j3 x0 x1 x2 x3=ρ:=((dv _ _ _ _ _ _ _).trans (by kernel_rfl)).trans (K _ rfl _ rfl)
theorem bq.Cw (x0:Bool) (x1:Int) (x2:Bool) (x3:bu):bq.j4 x0 x1 x2 x3=cond x2
  (bq.j2 x0 (bu.mk (bu.kind x3) (bu.bits x3) (bu.high x3) (bu.low x3) (bu.text x3) (bu.more x3) (bu.sub x3) (bu.bytes x3) []))
  (cond (decide (x1=(15:Int)))
  (bq.j2 x0 (bu.mk (bu.kind x3) (bu.bits x3) (bu.high x3) (bu.low x3) [] (bu.more x3) (bu.sub x3) (bu.bytes x3) []))
  (bq.j2 x0 x3)):=((dv _ _ _ _ _ _ _).trans (by kernel_rfl))
theorem bq.fh (v:bu):bq.F v=cond (decide ((bu.kind v)=(1:Int)))
  (bq.j1 true (bu.kind v) (decide ((bu.kind v)=(1:Int))) v)
  (cond (decide ((bu.kind v)=(9:Int)))
  (bq.j1 true (bu.kind v) (decide ((bu.kind v)=(9:Int))) v)
  (cond (decide ((bu.kind v)=(17:Int)))
  (bq.j1 true (bu.kind v) (decide ((bu.kind v)=(17:Int))) v)
  (bq.j1 true (bu.kind v) (decide ((bu.kind v)=(18:Int))) v))):=by kernel_rfl
def dA.E:cz:=dH fJ zs [(133,(dB.c,dB.sg))]
def dA.h:Hint := .o
def dA.F (s:Str) (t:Str):OT:=dD PG dA.E 102 dA.sg dA.h [(.s s),(.s t)]
theorem dA.cR (s:Str) (t:Str) {ρ:OT} (K:∀(v1:Int) (h1:v1=(Lib.indexByte s (t.getD 0 0))),ck (decide (t.length=1)) (some [(.i .i64 v1)])=ρ):dA.F s t=ρ:=Eq.trans (by kernel_rfl) (K _ rfl)
def cr.E:cz:=dH fJ zs [(102,(dA.c,dA.sg))]
def cr.h:Hint := .o
def cr.F (s:Str) (t:Str):OT:=dD PG cr.E 79 cr.sg cr.h [(.s s),(.s t)]
theorem cr.cR (s:Str) (t:Str) {ρ:OT} (K:∀(v1:Int) (h1:v1=(Lib.indexByte s (t.getD 0 0))),ck (decide (t.length=1)) (some [(.b (decide ((0:Int)≤v1)))])=ρ):cr.F s t=ρ:=Eq.trans (by kernel_rfl) (K _ rfl)
def df.E:cz:=dH fJ zs []
def df.h:Hint := .o
def df.F (l:List Int):OT:=dD PG df.E 56 df.sg df.h [(.sl .is l)]
theorem df.fh (l:List Int):df.F l=cond (List.isEmpty l)
  (both (some [(.sl .is ([]:List Int)),(.sl .is l)]) (ck (eO ((([]:List Int)).length+(l).length) 8) (some [(.sl .is (([]:List Int)++l)),(.sl .is l)])))
  (ck (eO ((([]:List Int)).length+(l).length) 8) (some [(.sl .is (([]:List Int)++l)),(.sl .is l)])):=by kernel_rfl
def cE.E:cz:=dH fJ zs [(69,(ct.c,ct.sg)),(79,(cr.c,cr.sg))]
def cE.h:Hint := .o
def cE.F (s:Str) (plain:Bool):OT:=dD PG cE.E 58 cE.sg cE.h [(.s s),(.b plain)]
theorem cE.cR (s:Str) (plain:Bool) {ρ:OT} (K:∀(v1:Bool) (h1:v1=(cond plain (decide (0≤Lib.indexByte s ((([0]:Str)).getD 0 0))) false)) (v2:Bool) (h2:v2=(cond (dp.whole s) (!v1) false)),ck (lM (s).length) (ck (decide (s.length≤1099511627776)) (ck (!(dp.whole s) || (dp.whole s)) (ck (!((dp.whole s)&&plain) || (((dp.whole s)&&plain)&&(decide ((([0]:Str)).length=1)))) (ck (!(dp.whole s) || ((dp.whole s)&&(!plain || ((dp.whole s)&&plain)))) (ck (!(dp.whole s) || (dp.whole s)) (ck (!(dp.whole s) || (dp.whole s)) (some [(.b v2)])))))))=ρ):cE.F s plain=ρ:=Eq.trans (by kernel_rfl) (K _ rfl _ rfl)
def bH.E (n:Nat):cz:=dH fJ zs [(32,(bH.cn n,bH.sg)),(46,(cH.c,cH.sg)),(56,(df.c,df.sg)),(57,(bq.c,bq.sg)),(58,(cE.c,cE.sg))] [139]
def bH.h:Hint := .s .o (.s .o (.s .o (.s (.s .o (.b (.l [(2,.cM 1000002),(50,.no),(51,.no),(52,.no),(1000002,.pv)] .o))) .o)))
def bH.F (n:Nat) (v:bu) (name:Str) (path:List Int):OT:=dD PG (bH.E n) 32 bH.sg bH.h [(.ag (bu.cells v)),(.s name),(.sl .is path)]
def bH.l1 (n:Nat) (x0:List bx) (x1:Int) (x2:Int) (x3:List Int):OT:=j9 PG (bH.E n) 32 bH.sg bH.h 87 [.pt,(.sl .fl x0),(.i .i64 x1),(.i .i64 x2),(.sl .is x3)]
theorem bH.fo (n:Nat) (x0:List bx) (x1:Int) (x2:Int) (x3:List Int) {ρ:OT} (K:∀(v1:bx) (h1:v1=(List.getD x0 (x2).toNat (ez.iH .fl))) (v2:List Int) (h2:v2=((Tree.hU (bx.of ((bx.name v1)) (bx.val v1)) ((x3++([x2]:List Int)))).1)) (v3:Int) (h3:v3=((Tree.hU (bx.of ((bx.name v1)) (bx.val v1)) ((x3++([x2]:List Int)))).2)) (v4:Int) (h4:v4=(IntKind.i64.wrap (x2+(1:Int)))),cond (decide (x2<x1))
  (ck (dj x2 (x0).length) (ck (eO ((x3).length+(([x2]:List Int)).length) 8) (ck ((decide (bx.dk (bx.of ((bx.name v1)) (bx.val v1))+((x3++([x2]:List Int))).length≤1099511627776))&&decide ((bx.dk (bx.of ((bx.name v1)) (bx.val v1)))<n)) (cond (!decide (v3=(0:Int)))
  (some [(.sl .is v2),(.i .i64 v3),(.sl .is x3)])
  (bH.l1 n x0 x1 v4 x3)))))
  (some [(.sl .is ([]:List Int)),(.i .i64 0),(.sl .is x3)])=ρ):bH.l1 n x0 x1 x2 x3=ρ:=((gn _ _ _ _ _ _ _).trans (by kernel_rfl)).trans (K _ rfl _ rfl _ rfl _ rfl)
theorem bH.cR (n:Nat) (v:bu) (name:Str) (path:List Int) {ρ:OT} (K:∀(v1:Bool) (h1:v1=(Tree.dr ((bu.text v)) ((decide ((bu.kind v)=(11:Int)))))) (v2:Bool) (h2:v2=(Tree.dr ((bu.more v)) ((decide ((bu.kind v)=(11:Int)))))) (v3:Bool) (h3:v3=(cond (cond (!v1) true (!v2)) true (!(Tree.dr name true)))) (v4:Int) (h4:v4=(((bu.kids v)).length:Int)),cond (decide ((Tree.name ((bu.kind v)))=([]:Str)))
  (ck (eO (path).length 8) (some [(.sl .is (path)),(.i .i64 5),(.sl .is path)]))
  (cond (!(Tree.cv v))
  (ck (eO (path).length 8) (some [(.sl .is (path)),(.i .i64 1),(.sl .is path)]))
  (ck (decide (((bu.text v)).length≤1099511627776)) (ck (!(!(!v1)) || (!(!v1))) (ck (!(!(!v1)) || (((!(!v1))&&(!(!v1)))&&(decide (((bu.more v)).length≤1099511627776)))) (ck (!(!(!v1)) || (!(!v1))) (ck ((!v1) || (!(!v1))) (ck (!(!(cond (!v1) true (!v2))) || ((!(cond (!v1) true (!v2)))&&(decide (name.length≤1099511627776)))) (ck (!(!(cond (!v1) true (!v2))) || (!(cond (!v1) true (!v2)))) (ck ((cond (!v1) true (!v2)) || (!(cond (!v1) true (!v2)))) (cond v3
  (ck (eO (path).length 8) (some [(.sl .is (path)),(.i .i64 4),(.sl .is path)]))
  (bH.l1 n (bu.kids v) v4 (0:Int) path)))))))))))=ρ):bH.F n v name path=ρ:=Eq.trans (by kernel_rfl) (K _ rfl _ rfl _ rfl _ rfl)
def cF.E:cz:=dH fJ zs [(32,(bH.c,bH.sg))]
def cF.h:Hint := .o
def cF.F (v:bu):OT:=dD PG cF.E 12 cF.sg cF.h [(.ag (bu.cells v))]
theorem cF.cR (v:bu) {ρ:OT} (K:∀(v1:List Int) (h1:v1=((Tree.hU (bx.of (([]:Str)) v) (([]:List Int))).1)) (v2:Int) (h2:v2=((Tree.hU (bx.of (([]:Str)) v) (([]:List Int))).2)),ck (decide (bx.dk (bx.of (([]:Str)) v)+(([]:List Int)).length≤1099511627776)) (some [(.sl .is v1),(.i .i64 v2)])=ρ):cF.F v=ρ:=Eq.trans (by kernel_rfl) (K _ rfl _ rfl)
end
end Go.Eng
set_option maxRecDepth 100000
namespace Go.Eng
open Go.Proofs
noncomputable section
def cI.E:cz:=dH fJ zs []
def cI.h:Hint := .o
def cI.F (n:Int):OT:=dD PG cI.E 76 cI.sg cI.h [(.i .i64 n)]
theorem cI.cR (n:Int) {ρ:OT} (K:∀(v1:Bool) (h1:v1=(cond (decide ((1:Int)≤n)) (decide (n≤(8:Int))) false)),ck (!(decide ((1:Int)≤n)) || (decide ((1:Int)≤n))) (ck (!(decide ((1:Int)≤n)) || (decide ((1:Int)≤n))) (some [(.b v1)]))=ρ):cI.F n=ρ:=Eq.trans (by kernel_rfl) (K _ rfl)
def bQ.E:cz:=dH fJ zs []
def bQ.h:Hint := .o
def bQ.F (a:List UInt8):OT:=dD PG bQ.E 35 bQ.sg bQ.h [(.sl .bs a)]
theorem bQ.fh (a:List UInt8):bQ.F a=cond (List.isEmpty a)
  (both (some [(.sl .bs ([]:List UInt8))]) (ck (eO ((([]:List UInt8)).length+(a).length) 1) (some [(.sl .bs (([]:List UInt8)++a))])))
  (ck (eO ((([]:List UInt8)).length+(a).length) 1) (some [(.sl .bs (([]:List UInt8)++a))])):=by kernel_rfl
def eH.E:cz:=dH fJ zs [(35,(bQ.c,bQ.sg))]
def eH.h:Hint := .o
def eH.F (b:List UInt8):OT:=dD PG eH.E 66 eH.sg eH.h [(.sl .bs b)]
theorem eH.fh (b:List UInt8):eH.F b=ck (eO (b).length 1) (some [(.ag [(.sl .bs (b)),(.i .i64 0)])]):=by kernel_rfl
def dJ.E:cz:=dH fJ zs []
def dJ.h:Hint := .o
def dJ.F (r:bA):OT:=dD PG dJ.E 101 dJ.sg dJ.h [(.ag (bA.cells r))]
theorem dJ.cR (r:bA) {ρ:OT} (K:∀(v1:Int) (h1:v1=(IntKind.i64.wrap ((((bA.b r)).length:Int) - (bA.at_ r)))),some [(.i .i64 v1),(.ag (bA.cells r))]=ρ):dJ.F r=ρ:=Eq.trans (by kernel_rfl) (K _ rfl)
def er.E:cz:=dH fJ zs [(101,(dJ.c,dJ.sg))] [97]
def er.h:Hint := .o
def er.F (r:bA) (n:Int):OT:=dD PG er.E 98 er.sg er.h [(.ag (bA.cells r)),(.i .i64 n)]
theorem er.cR (r:bA) (n:Int) {ρ:OT} (K:∀(v1:Bool) (h1:v1=(cond (decide (n<(1:Int))) true (decide ((8:Int)<n)))) (v2:Int) (h2:v2=((((r).b).length:Int) - (r).at_)) (v3:Bool) (h3:v3=(cond v1 true (decide (v2<n)))) (v4:Int) (h4:v4=(IntKind.i64.wrap ((bA.at_ (r))+n))) (v5:List UInt8) (h5:v5=(List.drop ((IntKind.i64.wrap (v4 - n))).toNat (List.take (v4).toNat (bA.b (r))))),ck (!(!(decide (n<(1:Int)))) || (!(decide (n<(1:Int))))) (ck ((decide (n<(1:Int))) || (!(decide (n<(1:Int))))) (ck ((!v1)&&((!v1)&&(decide (0≤(r).at_∧(r).at_≤((r).b).length∧((r).b).length≤1099511627776)))) (ck (!(!v1) || (!v1)) (ck (v1 || (!v1)) (cond v3
  (some [(.sl .bs ([]:List UInt8)),(.b false),(.ag (bA.cells (r)))])
  (ck (dV (IntKind.i64.wrap (v4 - n)) v4 ((bA.b (r))).length) (some [(.sl .bs v5),(.b true),(.ag [(.sl .bs (bA.b (r))),(.i .i64 v4)])])))))))=ρ):er.F r n=ρ:=Eq.trans (by kernel_rfl) (K _ rfl _ rfl _ rfl _ rfl _ rfl)
def cT.E:cz:=dH fJ zs [(98,(er.c,er.sg))]
def cT.h:Hint := .s .o (.s .o (.s .o (.s (.s .o (.b (.l [(7,.no),(8,.no),(17,.no),(18,.no),(19,.no),(1000000,.cl [])] .o))) .o)))
def cT.F (r:bA) (n:Int):OT:=dD PG cT.E 67 cT.sg cT.h [(.ag (bA.cells r)),(.i .i64 n)]
def cT.l1 (x0:Bool) (x1:UInt64) (x2:List UInt8) (x3:Int) (x4:Int) (x5:List UInt8) (x6:Int):OT:=j9 PG cT.E 67 cT.sg cT.h 87 [(.b x0),(.u64 x1),(.sl .bs x2),(.i .i64 x3),(.i .i64 x4),(.ag [(.sl .bs x5),(.i .i64 x6)])]
theorem cT.fo (x0:Bool) (x1:UInt64) (x2:List UInt8) (x3:Int) (x4:Int) (x5:List UInt8) (x6:Int) {ρ:OT} (K:∀(v1:UInt8) (h1:v1=(List.getD x2 (x4).toNat (0:UInt8))) (v2:UInt64) (h2:v2=(UInt64.ofInt ((v1).toNat:Int))) (v3:Int) (h3:v3=(IntKind.i64.wrap ((8:Int) * x4))) (v4:UInt64) (h4:v4=(x1 ||| (nW v2 ((v3).toNat)))) (v5:Int) (h5:v5=(IntKind.i64.wrap (x4+(1:Int)))),cond (decide (x4<x3))
  (ck (dj x4 (x2).length) (ck (decide (0≤v3)) (cT.l1 x0 v4 x2 x3 v5 x5 x6)))
  (some [(.u64 x1),(.b x0),(.ag [(.sl .bs x5),(.i .i64 x6)])])=ρ):cT.l1 x0 x1 x2 x3 x4 x5 x6=ρ:=((gn _ _ _ _ _ _ _).trans (by kernel_rfl)).trans (K _ rfl _ rfl _ rfl _ rfl _ rfl)
theorem cT.cR (r:bA) (n:Int) {ρ:OT} (K:∀(v1:Int) (h1:v1=((((Bs.fH r n))).length:Int)),ck (decide (1≤n∧n≤8∧0≤(r).at_∧(r).at_≤((r).b).length∧((r).b).length≤1099511627776)) (cT.l1 ((Bs.can r n)) (0:UInt64) ((Bs.fH r n)) v1 (0:Int) (bA.b ((Bs.jA r n))) (bA.at_ ((Bs.jA r n))))=ρ):cT.F r n=ρ:=Eq.trans (by kernel_rfl) (K _ rfl)
def et.E:cz:=dH fJ zs [(35,(bQ.c,bQ.sg)),(101,(dJ.c,dJ.sg))] [87]
def et.h:Hint := .o
def et.F (r:bA) (n:Int):OT:=dD PG et.E 71 et.sg et.h [(.ag (bA.cells r)),(.i .i64 n)]
theorem et.cR (r:bA) (n:Int) {ρ:OT} (K:∀(v1:Int) (h1:v1=((((r).b).length:Int) - (r).at_)) (v2:Bool) (h2:v2=(cond (decide (n<(0:Int))) true (decide (v1<n)))) (v3:Int) (h3:v3=(IntKind.i64.wrap ((bA.at_ (r))+n))) (v4:List UInt8) (h4:v4=(List.drop ((IntKind.i64.wrap (v3 - n))).toNat (List.take (v3).toNat (bA.b (r))))),ck ((!(decide (n<(0:Int))))&&((!(decide (n<(0:Int))))&&(decide (0≤(r).at_∧(r).at_≤((r).b).length∧((r).b).length≤1099511627776)))) (ck (!(!(decide (n<(0:Int)))) || (!(decide (n<(0:Int))))) (ck ((decide (n<(0:Int))) || (!(decide (n<(0:Int))))) (cond v2
  (some [(.sl .bs ([]:List UInt8)),(.b false),(.ag (bA.cells (r)))])
  (ck (dV (IntKind.i64.wrap (v3 - n)) v3 ((bA.b (r))).length) (ck (eO (v4).length 1) (some [(.sl .bs (v4)),(.b true),(.ag [(.sl .bs (bA.b (r))),(.i .i64 v3)])]))))))=ρ):et.F r n=ρ:=Eq.trans (by kernel_rfl) (K _ rfl _ rfl _ rfl _ rfl)
def eW.E:cz:=dH fJ zs []
def eW.h:Hint := .o
def eW.F  : OT:=dD PG eW.E 27 eW.sg eW.h []
theorem eW.fh  : eW.F  = some [(.ag [.pt]),(.sl .bs ([]:List UInt8))]:=by kernel_rfl
def dt.E:cz:=dH fJ zs []
def dt.h:Hint := .o
def dt.F (v:Int) (b:List UInt8):OT:=dD PG dt.E 52 dt.sg dt.h [(.ag [.pt]),(.i .i64 v),(.sl .bs b)]
theorem dt.cR (v:Int) (b:List UInt8) {ρ:OT} (K:∀(v1:List UInt8) (h1:v1=([(UInt8.ofInt v)]:List UInt8)),ck (eO ((b).length+(v1).length) 1) (some [(.ag [.pt]),(.sl .bs (b++v1))])=ρ):dt.F v b=ρ:=Eq.trans (by kernel_rfl) (K _ rfl)
def eF.E:cz:=dH fJ zs []
def eF.h:Hint := .o
def eF.F (x:List UInt8) (b:List UInt8):OT:=dD PG eF.E 77 eF.sg eF.h [(.ag [.pt]),(.sl .bs x),(.sl .bs b)]
theorem eF.fh (x:List UInt8) (b:List UInt8):eF.F x b=ck (eO ((b).length+(x).length) 1) (some [(.ag [.pt]),(.sl .bs (b++x))]):=by kernel_rfl
def cK.E:cz:=dH fJ zs [(76,(cI.c,cI.sg))]
def cK.h:Hint := .s .o (.b (.l [(0,.ptr 1000000 0),(1,.no),(2,.no),(6,.no),(1000000,.cl [(0,800000)]),(800000,.pv)] .o))
def cK.F (v:UInt64) (n:Int) (b:List UInt8):OT:=dD PG cK.E 51 cK.sg cK.h [(.ag [.pt]),(.u64 v),(.i .i64 n),(.sl .bs b)]
def cK.l1 (x0:UInt64) (x1:Int) (x2:Int) (x3:List UInt8):OT:=j9 PG cK.E 51 cK.sg cK.h 5 [.pt,(.u64 x0),(.i .i64 x1),(.i .i64 x2),(.ag [.pt]),(.sl .bs x3)]
theorem cK.fo (x0:UInt64) (x1:Int) (x2:Int) (x3:List UInt8) {ρ:OT} (K:∀(v1:Bool) (h1:v1=(cond (decide (1≤x1∧x1≤8)) (decide (x2<x1)) false)) (v2:Int) (h2:v2=(IntKind.i64.wrap ((8:Int) * x2))) (v3:UInt8) (h3:v3=(UInt8.ofInt (((lK x0 ((v2).toNat))).toNat:Int))) (v4:Int) (h4:v4=(IntKind.i64.wrap (x2+(1:Int)))),ck (!(decide (1≤x1∧x1≤8)) || ((decide (1≤x1∧x1≤8))&&(decide (1≤x1∧x1≤8)))) (ck (!(decide (1≤x1∧x1≤8)) || (decide (1≤x1∧x1≤8))) (cond v1
  (ck (decide (0≤v2)) (ck (eO ((x3).length+(([v3]:List UInt8)).length) 1) (cK.l1 x0 x1 v4 (x3++([v3]:List UInt8)))))
  (some [(.ag [.pt]),(.sl .bs x3)])))=ρ):cK.l1 x0 x1 x2 x3=ρ:=((gn _ _ _ _ _ _ _).trans (by kernel_rfl)).trans (K _ rfl _ rfl _ rfl _ rfl)
theorem cK.fh (v:UInt64) (n:Int) (b:List UInt8):cK.F v n b=cK.l1 v n (0:Int) b:=by kernel_rfl
def cQ.E:cz:=dH fJ zs [(76,(cI.c,cI.sg))]
def cQ.h:Hint := .s .o (.s .o (.s (.s .o (.b (.l [(0,.ptr 1000000 0),(1,.no),(2,.no),(28,.no),(29,.no),(1000000,.cl [(0,800000)]),(800000,.pv)] .o))) .o))
def cQ.F (at_:Int) (v:UInt64) (n:Int) (b:List UInt8):OT:=dD PG cQ.E 55 cQ.sg cQ.h [(.ag [.pt]),(.i .i64 at_),(.u64 v),(.i .i64 n),(.sl .bs b)]
def cQ.l1 (x0:Int) (x1:UInt64) (x2:Int) (x3:Int) (x4:List UInt8):OT:=j9 PG cQ.E 55 cQ.sg cQ.h 43 [.pt,(.i .i64 x0),(.u64 x1),(.i .i64 x2),(.i .i64 x3),(.ag [.pt]),(.sl .bs x4)]
theorem cQ.fo (x0:Int) (x1:UInt64) (x2:Int) (x3:Int) (x4:List UInt8) {ρ:OT} (K:∀(v1:Int) (h1:v1=(IntKind.i64.wrap ((8:Int) * x3))) (v2:UInt8) (h2:v2=(UInt8.ofInt (((lK x1 ((v1).toNat))).toNat:Int))) (v3:Nat) (h3:v3=(((IntKind.i64.wrap (x0+x3))).toNat)) (v4:Int) (h4:v4=(IntKind.i64.wrap (x3+(1:Int)))),cond (decide (x3<x2))
  (ck (decide (0≤v1)) (ck (dj (IntKind.i64.wrap (x0+x3)) (x4).length) (ck (decide (v3<(x4).length)) (cQ.l1 x0 x1 x2 v4 (List.set x4 (v3) v2)))))
  (some [(.b true),(.ag [.pt]),(.sl .bs x4)])=ρ):cQ.l1 x0 x1 x2 x3 x4=ρ:=((gn _ _ _ _ _ _ _).trans (by kernel_rfl)).trans (K _ rfl _ rfl _ rfl _ rfl)
theorem cQ.cR (at_:Int) (v:UInt64) (n:Int) (b:List UInt8) {ρ:OT} (K:∀(v1:Bool) (h1:v1=(!(!(decide (1≤n∧n≤8))))) (v2:Bool) (h2:v2=(cond (!(decide (1≤n∧n≤8))) true (decide (at_<(0:Int))))) (v3:Int) (h3:v3=(IntKind.i64.wrap (((b).length:Int) - n))) (v4:Bool) (h4:v4=(cond v2 true (decide (v3<at_)))),ck (!v1 || v1) (ck ((!(decide (1≤n∧n≤8))) || v1) (ck (!(!v2) || (!v2)) (ck (!(!v2) || (!v2)) (ck (!(!v2) || (!v2)) (ck (!(!v2) || (!v2)) (ck (!(!v2) || ((!v2)&&(!v2))) (ck (!(!v2) || ((!v2)&&(!v2))) (ck (v2 || (!v2)) (cond v4
  (some [(.b false),(.ag [.pt]),(.sl .bs b)])
  (cQ.l1 at_ v n (0:Int) b))))))))))=ρ):cQ.F at_ v n b=ρ:=Eq.trans (by kernel_rfl) (K _ rfl _ rfl _ rfl _ rfl)
def eG.E:cz:=dH fJ zs []
def eG.h:Hint := .o
def eG.F (b:List UInt8):OT:=dD PG eG.E 50 eG.sg eG.h [(.ag [.pt]),(.sl .bs b)]
theorem eG.fh (b:List UInt8):eG.F b=some [(.i .i64 ((b).length:Int)),(.ag [.pt]),(.sl .bs b)]:=by kernel_rfl
def dF.E:cz:=dH fJ zs [(35,(bQ.c,bQ.sg))]
def dF.h:Hint := .o
def dF.F (w:rI):OT:=dD PG dF.E 29 dF.sg dF.h [(.ag (rI.cells w))]
theorem dF.fh (w:rI):dF.F w=ck (eO (((rI.b w))).length 1) (some [(.sl .bs (((rI.b w)))),(.ag (rI.cells w))]):=by kernel_rfl
def bZ.E:cz:=dH fJ zs []
def bZ.h:Hint := .o
def bZ.F (b:List UInt8) (c:UInt8):OT:=dD PG bZ.E 68 bZ.sg bZ.h [(.sl .bs b),(.u8 c)]
theorem bZ.fh (b:List UInt8) (c:UInt8):bZ.F b c=some [(.i .i64 (Lib.indexByte b c))]:=by kernel_rfl
def cG.E:cz:=dH fJ zs [(68,(bZ.c,bZ.sg)),(69,(ct.c,ct.sg))]
def cG.h:Hint := .o
def cG.F (b:List UInt8) (at_:Int):OT:=dD PG cG.E 47 cG.sg cG.h [(.sl .bs b),(.i .i64 at_)]
theorem cG.cR (b:List UInt8) (at_:Int) {ρ:OT} (K:∀(v1:Bool) (h1:v1=(cond (decide (at_<(0:Int))) true (decide (((b).length:Int)<at_)))) (v2:Int) (h2:v2=(Lib.indexByte ((List.drop (at_).toNat b)) ((0:UInt8)))) (v3:Int) (h3:v3=(IntKind.i64.wrap (at_+v2))) (v4:List UInt8) (h4:v4=(List.drop (at_).toNat (List.take (v3).toNat b))) (v5:Int) (h5:v5=(IntKind.i64.wrap (v3+(1:Int)))),ck (!(!(decide (at_<(0:Int)))) || (!(decide (at_<(0:Int))))) (ck (!(!(decide (at_<(0:Int)))) || ((!(decide (at_<(0:Int))))&&(!(decide (at_<(0:Int)))))) (ck ((decide (at_<(0:Int))) || (!(decide (at_<(0:Int))))) (cond v1
  (some [(.s []),(.i .i64 0),(.i .i64 1)])
  (ck (dV at_ (b).length (b).length) (cond (decide (v2<(0:Int)))
  (some [(.s []),(.i .i64 0),(.i .i64 2)])
  (ck (dV at_ v3 (b).length) (ck (decide (v4.length≤1099511627776)) (cond (!(dp.whole v4))
  (some [(.s []),(.i .i64 0),(.i .i64 4)])
  (ck (dV at_ v3 (b).length) (some [(.s v4),(.i .i64 v5),(.i .i64 0)]))))))))))=ρ):cG.F b at_=ρ:=Eq.trans (by kernel_rfl) (K _ rfl _ rfl _ rfl _ rfl _ rfl)
def cB.E (n:Nat):cz:=dH fJ zs [(26,(cu.cn n,cu.sg))]
def cB.h:Hint := .s .o (.s .o (.s (.s .o (.b (.l (sc [3,6,7,8]) .o))) .o))
def cB.F (n:Nat) (l:List bx):OT:=dD PG (cB.E n) 49 cB.sg cB.h [(.sl .fl l)]
def cB.l1 (n:Nat) (x0:Int) (x1:List bx) (x2:Int) (x3:Int):OT:=j9 PG (cB.E n) 49 cB.sg cB.h 43 [(.i .i64 x0),(.sl .fl x1),(.i .i64 x2),(.i .i64 x3)]
theorem cB.fo (n:Nat) (x0:Int) (x1:List bx) (x2:Int) (x3:Int) {ρ:OT} (K:∀(v1:bx) (h1:v1=(List.getD x1 (x3).toNat (ez.iH .fl))) (v2:Int) (h2:v2=(((bx.name v1)).length:Int)) (v3:Int) (h3:v3=(IntKind.i64.wrap (v2+(2:Int)))) (v4:Int) (h4:v4=(((Bs.size (bx.of [] (bx.val v1)):Nat):Int))) (v5:Int) (h5:v5=(IntKind.i64.wrap (x0+(IntKind.i64.wrap (v3+v4))))) (v6:Int) (h6:v6=(IntKind.i64.wrap (x3+(1:Int)))),cond (decide (x3<x2))
  (ck (dj x3 (x1).length) (ck ((decide (bx.dk (bx.of [] (bx.val v1))≤1000000000000))&&decide ((2 * bx.dk (bx.of [] (bx.val v1)))<n)) (cB.l1 n v5 x1 x2 v6)))
  (some [(.i .i64 x0)])=ρ):cB.l1 n x0 x1 x2 x3=ρ:=((gn _ _ _ _ _ _ _).trans (by kernel_rfl)).trans (K _ rfl _ rfl _ rfl _ rfl _ rfl _ rfl)
theorem cB.fh (n:Nat) (l:List bx):cB.F n l=cB.l1 n (5:Int) l ((l).length:Int) (0:Int):=by kernel_rfl
def cu.E (n:Nat):cz:=dH fJ zs [(49,(cB.cn n,cB.sg))]
def cu.h:Hint := .s .o (.s (.s .o (.b (.j [(1,.ptr 72 0),(4,.no),(5,.no),(72,.cl [])] .o (.s .o (.s .o (.s .o (.s .o (.s .o (.s .o (.s .o (.j [(1,.ptr 72 0),(4,.no),(16,.no),(72,.cl [])] .o (.s .o (.s .o (.s .o (.s .o (.s .o (.s .o (.s .o (.s .o (.s .o (.j [(1,.ptr 72 0),(4,.no),(55,.no),(72,.cl [])] .o .o))))))))))))))))))))) .o)
def cu.F (n:Nat) (v:bu):OT:=dD PG (cu.E n) 26 cu.sg cu.h [(.ag (bu.cells v))]
def cu.j1 (n:Nat) (x0:Int) (x1:Bool) (x2:bu):OT:=fp PG (cu.E n) 26 cu.sg cu.h 21 [.pt,(.i .i64 x0),(.b x1),(.ag (bu.cells x2))]
def cu.j2 (n:Nat) (x0:Int) (x1:Bool) (x2:bu):OT:=fp PG (cu.E n) 26 cu.sg cu.h 8181 [.pt,(.i .i64 x0),(.b x1),(.ag (bu.cells x2))]
def cu.j3 (n:Nat) (x0:Int) (x1:Bool) (x2:bu):OT:=fp PG (cu.E n) 26 cu.sg cu.h 8388597 [.pt,(.i .i64 x0),(.b x1),(.ag (bu.cells x2))]
theorem cu.qz (n:Nat) (x0:Int) (x1:Bool) (x2:bu):cu.j1 n x0 x1 x2=cond x1
  (some [(.i .i64 8)])
  (cond (decide (x0=(16:Int)))
  (some [(.i .i64 4)])
  (cond (decide (x0=(8:Int)))
  (some [(.i .i64 1)])
  (cond (decide (x0=(19:Int)))
  (some [(.i .i64 16)])
  (cond (decide (x0=(2:Int)))
  (cu.j2 n x0 (decide (x0=(2:Int))) x2)
  (cond (decide (x0=(13:Int)))
  (cu.j2 n x0 (decide (x0=(13:Int))) x2)
  (cu.j2 n x0 (decide (x0=(14:Int))) x2)))))):=((dv _ _ _ _ _ _ _).trans (by kernel_rfl))
theorem cu.lO (n:Nat) (x0:Int) (x1:Bool) (x2:bu) {ρ:OT} (K:∀(v1:Int) (h1:v1=(((bu.text x2)).length:Int)) (v2:Int) (h2:v2=(IntKind.i64.wrap (v1+(5:Int)))) (v3:Int) (h3:v3=(((bu.more x2)).length:Int)) (v4:Int) (h4:v4=(IntKind.i64.wrap ((IntKind.i64.wrap (v1+v3))+(2:Int)))) (v5:Int) (h5:v5=(((bu.bytes x2)).length:Int)) (v6:Int) (h6:v6=(IntKind.i64.wrap (v5+(9:Int)))) (v7:Int) (h7:v7=(IntKind.i64.wrap (v5+(5:Int)))) (v8:Int) (h8:v8=(IntKind.i64.wrap (v1+(17:Int)))),cond x1
  (some [(.i .i64 v2)])
  (cond (decide (x0=(11:Int)))
  (some [(.i .i64 v4)])
  (cond (decide (x0=(5:Int)))
  (cond (decide ((bu.sub x2)=(2:Int)))
  (some [(.i .i64 v6)])
  (some [(.i .i64 v7)]))
  (cond (decide (x0=(7:Int)))
  (some [(.i .i64 12)])
  (cond (decide (x0=(12:Int)))
  (some [(.i .i64 v8)])
  (cond (decide (x0=(3:Int)))
  (cu.j3 n x0 (decide (x0=(3:Int))) x2)
  (cu.j3 n x0 (decide (x0=(4:Int))) x2))))))=ρ):cu.j2 n x0 x1 x2=ρ:=((dv _ _ _ _ _ _ _).trans (by kernel_rfl)).trans (K _ rfl _ rfl _ rfl _ rfl _ rfl _ rfl _ rfl _ rfl)
theorem cu.qx (n:Nat) (x0:Int) (x1:Bool) (x2:bu) {ρ:OT} (K:∀(v1:Int) (h1:v1=(((Bs.dC ((bu.kids x2))+5:Nat):Int))) (v2:Int) (h2:v2=(((bu.text x2)).length:Int)) (v3:Int) (h3:v3=(IntKind.i64.wrap (v2+(9:Int)))),cond x1
  (ck ((decide (bx.cw ((bu.kids x2))≤1000000000000))&&decide ((2 * bx.cw ((bu.kids x2))+1)<n)) (some [(.i .i64 v1)]))
  (cond (decide (x0=(15:Int)))
  (ck ((decide (bx.cw ((bu.kids x2))≤1000000000000))&&decide ((2 * bx.cw ((bu.kids x2))+1)<n)) (some [(.i .i64 (IntKind.i64.wrap (v3+v1)))]))
  (some [(.i .i64 0)]))=ρ):cu.j3 n x0 x1 x2=ρ:=((dv _ _ _ _ _ _ _).trans (by kernel_rfl)).trans (K _ rfl _ rfl _ rfl)
theorem cu.fh (n:Nat) (v:bu):cu.F n v=cond (decide ((bu.kind v)=(1:Int)))
  (cu.j1 n (bu.kind v) (decide ((bu.kind v)=(1:Int))) v)
  (cond (decide ((bu.kind v)=(9:Int)))
  (cu.j1 n (bu.kind v) (decide ((bu.kind v)=(9:Int))) v)
  (cond (decide ((bu.kind v)=(17:Int)))
  (cu.j1 n (bu.kind v) (decide ((bu.kind v)=(17:Int))) v)
  (cu.j1 n (bu.kind v) (decide ((bu.kind v)=(18:Int))) v))):=by kernel_rfl
def dY.E:cz:=dH fJ zs []
def dY.h:Hint := .o
def dY.F (l:eK):OT:=dD PG dY.E 24 dY.sg dY.h [(.ag (eK.cells l))]
theorem dY.cR (l:eK) {ρ:OT} (K:∀(v1:Bool) (h1:v1=(cond (decide ((1:Int)≤(eK.depth l))) (decide ((eK.depth l)≤(200:Int))) false)) (v2:Bool) (h2:v2=(cond v1 (decide ((5:Int)≤(eK.size l))) false)) (v3:Bool) (h3:v3=(cond v2 (decide ((eK.size l)≤(16777216:Int))) false)) (v4:Bool) (h4:v4=(cond v3 (decide ((0:Int)≤(eK.out l))) false)) (v5:Bool) (h5:v5=(cond v4 (decide ((eK.out l)≤(67108864:Int))) false)),ck (!(decide ((1:Int)≤(eK.depth l))) || (decide ((1:Int)≤(eK.depth l)))) (ck (!(decide ((1:Int)≤(eK.depth l))) || (decide ((1:Int)≤(eK.depth l)))) (ck (!(decide ((1:Int)≤(eK.depth l))) || (decide ((1:Int)≤(eK.depth l)))) (ck (!v1 || v1) (ck (!v1 || v1) (ck (!v1 || v1) (ck (!v2 || v2) (ck (!v2 || v2) (ck (!v2 || v2) (ck (!v3 || v3) (ck (!v3 || v3) (ck (!v3 || v3) (ck (!v4 || v4) (ck (!v4 || v4) (ck (!v4 || v4) (some [(.b v5)])))))))))))))))=ρ):dY.F l=ρ:=Eq.trans (by kernel_rfl) (K _ rfl _ rfl _ rfl _ rfl _ rfl)
def cO.E:cz:=dH fJ zs [(52,(dt.c,dt.sg)),(77,(eF.c,eF.sg))]
def cO.h:Hint := .o
def cO.F (s:Str) (b:List UInt8):OT:=dD PG cO.E 53 cO.sg cO.h [(.ag [.pt]),(.s s),(.sl .bs b)]
theorem cO.cR (s:Str) (b:List UInt8) {ρ:OT} (K:∀(v1:List UInt8) (h1:v1=(((((b++s)))++[UInt8.ofInt ((0:Int))]))),ck (lM (s).length) (ck (decide ((b).length+(s).length≤2199023255552)) (ck (decide (((((b++s)))).length≤1099511627776)) (some [(.ag [.pt]),(.sl .bs v1)])))=ρ):cO.F s b=ρ:=Eq.trans (by kernel_rfl) (K _ rfl)
def eu.E:cz:=dH fJ zs [(51,(cK.c,cK.sg)),(53,(cO.c,cO.sg))]
def eu.h:Hint := .o
def eu.F (s:Str) (b:List UInt8):OT:=dD PG eu.E 78 eu.sg eu.h [(.ag [.pt]),(.s s),(.sl .bs b)]
theorem eu.cR (s:Str) (b:List UInt8) {ρ:OT} (K:∀(v1:Int) (h1:v1=(IntKind.i64.wrap (((s).length:Int)+(1:Int)))) (v2:List UInt8) (h2:v2=((b++Bs.ff (((4:Int))).toNat (((UInt64.ofInt v1))).toNat))),ck (decide (1≤((4:Int))∧((4:Int))≤8∧(b).length≤1099511627776)) (ck (decide ((v2).length+(s).length≤1099511627776)) (some [(.ag [.pt]),(.sl .bs ((v2++(s++[0]))))]))=ρ):eu.F s b=ρ:=Eq.trans (by kernel_rfl) (K _ rfl _ rfl)
def bF.E (n:Nat):cz:=dH fJ zs [(50,(eG.c,eG.sg)),(51,(cK.c,cK.sg)),(52,(dt.c,dt.sg)),(53,(cO.c,cO.sg)),(54,(bD.cn n,bD.sg)),(55,(cQ.c,cQ.sg))]
def bF.h:Hint := .s .o (.s .o (.s (.s .o (.b (.l [(0,.ptr 1000000 0),(4,.no),(11,.no),(12,.no),(13,.no),(1000000,.cl [(0,800000)]),(800000,.pv)] .o))) .o))
def bF.F (n:Nat) (l:List bx) (b:List UInt8):OT:=dD PG (bF.E n) 28 bF.sg bF.h [(.ag [.pt]),(.sl .fl l),(.sl .bs b)]
def bF.l1 (n:Nat) (x0:Int) (x1:List bx) (x2:Int) (x3:Int) (x4:List UInt8):OT:=j9 PG (bF.E n) 28 bF.sg bF.h 43 [.pt,(.i .i64 x0),(.sl .fl x1),(.i .i64 x2),(.i .i64 x3),(.ag [.pt]),(.sl .bs x4)]
theorem bF.fo (n:Nat) (x0:Int) (x1:List bx) (x2:Int) (x3:Int) (x4:List UInt8) {ρ:OT} (K:∀(v1:bx) (h1:v1=(List.getD x1 (x3).toNat (ez.iH .fl))) (v2:List UInt8) (h2:v2=((x4++[UInt8.ofInt ((bx.kind v1))]))) (v3:List UInt8) (h3:v3=((v2++(((bx.name v1))++[0])))) (v4:List UInt8) (h4:v4=((v3++Bs.enc (bx.of [] (bx.val v1))))) (v5:Int) (h5:v5=(IntKind.i64.wrap (x3+(1:Int)))) (v6:List UInt8) (h6:v6=((x4++[UInt8.ofInt ((0:Int))]))) (v7:Int) (h7:v7=(IntKind.i64.wrap ((((v6).length:Int)) - x0))) (v8:List UInt8) (h8:v8=((Bs.jr ((v6)) (x0).toNat (Bs.ff (((4:Int))).toNat (((UInt64.ofInt v7))).toNat)))),cond (decide (x3<x2))
  (ck (dj x3 (x1).length) (ck (decide ((x4).length≤1099511627776)) (ck (decide ((v2).length+(((bx.name v1))).length≤1099511627776)) (ck ((decide ((v3).length+30 * bx.dk (bx.of [] (bx.val v1))+30≤1000000000000))&&decide ((2 * bx.dk (bx.of [] (bx.val v1)))<n)) (bF.l1 n x0 x1 x2 v5 v4)))))
  (ck (decide ((x4).length≤1099511627776)) (ck (decide (1≤((4:Int))∧((4:Int))≤8∧0≤x0∧x0+((4:Int))≤((((v6))).length:Int)∧(((v6))).length≤2199023255552)) (some [(.ag [.pt]),(.sl .bs v8)])))=ρ):bF.l1 n x0 x1 x2 x3 x4=ρ:=((gn _ _ _ _ _ _ _).trans (by kernel_rfl)).trans (K _ rfl _ rfl _ rfl _ rfl _ rfl _ rfl _ rfl _ rfl)
theorem bF.cR (n:Nat) (l:List bx) (b:List UInt8) {ρ:OT} (K:∀(v1:List UInt8) (h1:v1=((((b))++Bs.ff (((4:Int))).toNat (((0:UInt64))).toNat))),ck (decide (1≤((4:Int))∧((4:Int))≤8∧(((b))).length≤1099511627776)) (bF.l1 n (((b).length:Int)) l ((l).length:Int) (0:Int) v1)=ρ):bF.F n l b=ρ:=Eq.trans (by kernel_rfl) (K _ rfl)
def bD.E (n:Nat):cz:=dH fJ zs [(28,(bF.cn n,bF.sg)),(50,(eG.c,eG.sg)),(51,(cK.c,cK.sg)),(52,(dt.c,dt.sg)),(53,(cO.c,cO.sg)),(55,(cQ.c,cQ.sg)),(77,(eF.c,eF.sg)),(78,(eu.c,eu.sg))]
def bD.h:Hint := .s .o (.s .o (.b (.j [(0,.ptr 1000000 0),(3,.ptr 136 0),(7,.no),(8,.no),(136,.cl []),(1000000,.cl [(0,800000)]),(800000,.pv)] .o (.s .o (.s .o (.s .o (.s .o (.s .o (.s .o (.s .o (.j [(0,.ptr 1000000 0),(3,.ptr 136 0),(7,.no),(39,.no),(136,.cl []),(1000000,.cl [(0,800000)]),(800000,.pv)] .o (.s .o (.s .o (.s .o (.s .o (.s (.s .o (.j [(0,.ptr 1000000 0),(3,.ptr 136 0),(136,.cl []),(1000000,.cl [(0,800000)]),(800000,.pv)] .o .o)) (.s .o (.s .o (.s .o (.s .o (.j [(0,.ptr 1000000 0),(3,.ptr 136 0),(7,.no),(104,.no),(136,.cl []),(1000000,.cl [(0,800000)]),(800000,.pv)] .o .o)))))))))))))))))))))
def bD.F (n:Nat) (v:bu) (b:List UInt8):OT:=dD PG (bD.E n) 54 bD.sg bD.h [(.ag [.pt]),(.ag (bu.cells v)),(.sl .bs b)]
def bD.j1 (n:Nat) (x0:Int) (x1:Bool) (x2:bu) (x3:List UInt8):OT:=fp PG (bD.E n) 54 bD.sg bD.h 11 [.pt,.pt,(.i .i64 x0),(.b x1),(.ag (bu.cells x2)),(.ag [.pt]),(.sl .bs x3)]
def bD.j2 (n:Nat) (x0:Int) (x1:Bool) (x2:bu) (x3:List UInt8):OT:=fp PG (bD.E n) 54 bD.sg bD.h 4091 [.pt,.pt,(.i .i64 x0),(.b x1),(.ag (bu.cells x2)),(.ag [.pt]),(.sl .bs x3)]
def bD.j3 (n:Nat) (x0:bu) (x1:List UInt8):OT:=fp PG (bD.E n) 54 bD.sg bD.h 458747 [.pt,.pt,(.ag (bu.cells x0)),(.ag [.pt]),(.sl .bs x1)]
def bD.j4 (n:Nat) (x0:Int) (x1:Bool) (x2:bu) (x3:List UInt8):OT:=fp PG (bD.E n) 54 bD.sg bD.h 4194299 [.pt,.pt,(.i .i64 x0),(.b x1),(.ag (bu.cells x2)),(.ag [.pt]),(.sl .bs x3)]
theorem bD.qy (n:Nat) (x0:Int) (x1:Bool) (x2:bu) (x3:List UInt8) {ρ:OT} (K:∀(v1:List UInt8) (h1:v1=((x3++Bs.ff (((8:Int))).toNat (((bu.bits x2))).toNat))) (v2:List UInt8) (h2:v2=((x3++Bs.ff (((4:Int))).toNat (((bu.bits x2))).toNat))) (v3:List UInt8) (h3:v3=((x3++Bs.ff (((1:Int))).toNat (((bu.bits x2))).toNat))) (v4:List UInt8) (h4:v4=((x3++Bs.ff (((8:Int))).toNat (((bu.low x2))).toNat))) (v5:List UInt8) (h5:v5=((v4++Bs.ff (((8:Int))).toNat (((bu.high x2))).toNat))),cond x1
  (ck (decide (1≤((8:Int))∧((8:Int))≤8∧(x3).length≤1099511627776)) (some [(.ag [.pt]),(.sl .bs v1)]))
  (cond (decide (x0=(16:Int)))
  (ck (decide (1≤((4:Int))∧((4:Int))≤8∧(x3).length≤1099511627776)) (some [(.ag [.pt]),(.sl .bs v2)]))
  (cond (decide (x0=(8:Int)))
  (ck (decide (1≤((1:Int))∧((1:Int))≤8∧(x3).length≤1099511627776)) (some [(.ag [.pt]),(.sl .bs v3)]))
  (cond (decide (x0=(19:Int)))
  (ck (decide (1≤((8:Int))∧((8:Int))≤8∧(x3).length≤1099511627776)) (ck (decide (1≤((8:Int))∧((8:Int))≤8∧(v4).length≤1099511627776)) (some [(.ag [.pt]),(.sl .bs v5)])))
  (cond (decide (x0=(2:Int)))
  (bD.j2 n x0 (decide (x0=(2:Int))) x2 x3)
  (cond (decide (x0=(13:Int)))
  (bD.j2 n x0 (decide (x0=(13:Int))) x2 x3)
  (bD.j2 n x0 (decide (x0=(14:Int))) x2 x3))))))=ρ):bD.j1 n x0 x1 x2 x3=ρ:=((dv _ _ _ _ _ _ _).trans (by kernel_rfl)).trans (K _ rfl _ rfl _ rfl _ rfl _ rfl)
theorem bD.lO (n:Nat) (x0:Int) (x1:Bool) (x2:bu) (x3:List UInt8) {ρ:OT} (K:∀(v1:List UInt8) (h1:v1=((x3++Bs.fC ((bu.text x2))))) (v2:List UInt8) (h2:v2=((x3++(((bu.text x2))++[0])))) (v3:List UInt8) (h3:v3=((v2++(((bu.more x2))++[0])))) (v4:Int) (h4:v4=(((bu.bytes x2)).length:Int)) (v5:UInt64) (h5:v5=((UInt64.ofInt v4)+(4:UInt64))) (v6:List UInt8) (h6:v6=((x3++Bs.ff (((4:Int))).toNat (v5).toNat))) (v7:List UInt8) (h7:v7=((v6++[UInt8.ofInt ((bu.sub x2))]))) (v8:List UInt8) (h8:v8=((v7++Bs.ff (((4:Int))).toNat (((UInt64.ofInt v4))).toNat))) (v9:List UInt8) (h9:v9=((x3++Bs.ff (((4:Int))).toNat (((UInt64.ofInt v4))).toNat))) (v10:List UInt8) (iU:v10=((v9++[UInt8.ofInt ((bu.sub x2))]))),cond x1
  (ck (decide ((x3).length+(((bu.text x2))).length+10≤1099511627776)) (some [(.ag [.pt]),(.sl .bs v1)]))
  (cond (decide (x0=(11:Int)))
  (ck (decide ((x3).length+(((bu.text x2))).length≤1099511627776)) (ck (decide ((v2).length+(((bu.more x2))).length≤1099511627776)) (some [(.ag [.pt]),(.sl .bs v3)])))
  (cond (decide (x0=(5:Int)))
  (cond (decide ((bu.sub x2)=(2:Int)))
  (ck (decide (1≤((4:Int))∧((4:Int))≤8∧(x3).length≤1099511627776)) (ck (decide ((v6).length≤1099511627776)) (ck (decide (1≤((4:Int))∧((4:Int))≤8∧(v7).length≤1099511627776)) (bD.j3 n x2 v8))))
  (ck (decide (1≤((4:Int))∧((4:Int))≤8∧(x3).length≤1099511627776)) (ck (decide ((v9).length≤1099511627776)) (bD.j3 n x2 v10))))
  (cond (decide (x0=(7:Int)))
  (ck (decide ((x3).length+(((bu.bytes x2))).length≤2199023255552)) (some [(.ag [.pt]),(.sl .bs ((x3++((bu.bytes x2)))))]))
  (cond (decide (x0=(12:Int)))
  (ck (decide ((x3).length+(((bu.text x2))).length+10≤1099511627776)) (ck (decide ((v1).length+(((bu.bytes x2))).length≤2199023255552)) (some [(.ag [.pt]),(.sl .bs ((v1++((bu.bytes x2)))))])))
  (cond (decide (x0=(3:Int)))
  (bD.j4 n x0 (decide (x0=(3:Int))) x2 x3)
  (bD.j4 n x0 (decide (x0=(4:Int))) x2 x3))))))=ρ):bD.j2 n x0 x1 x2 x3=ρ:=((dv _ _ _ _ _ _ _).trans (by kernel_rfl)).trans (K _ rfl _ rfl _ rfl _ rfl _ rfl _ rfl _ rfl _ rfl _ rfl _ rfl)
theorem bD.zx (n:Nat) (x0:bu) (x1:List UInt8):bD.j3 n x0 x1=ck (decide ((x1).length+(((bu.bytes x0))).length≤2199023255552)) (some [(.ag [.pt]),(.sl .bs ((x1++((bu.bytes x0)))))]):=((dv _ _ _ _ _ _ _).trans (by kernel_rfl))
theorem bD.s7 (n:Nat) (x0:Int) (x1:Bool) (x2:bu) (x3:List UInt8) {ρ:OT} (K:∀(v1:List UInt8) (h1:v1=((x3++Bs.iR ((bu.kids x2))))) (v2:List UInt8) (h2:v2=((((x3))++Bs.ff (((4:Int))).toNat (((0:UInt64))).toNat))) (v3:List UInt8) (h3:v3=((v2++Bs.fC ((bu.text x2))))) (v4:List UInt8) (h4:v4=((v3++Bs.iR ((bu.kids x2))))) (v5:Int) (h5:v5=(IntKind.i64.wrap ((((v4).length:Int)) - (((x3).length:Int))))) (v6:List UInt8) (h6:v6=((Bs.jr ((v4)) (((((x3).length:Int)))).toNat (Bs.ff (((4:Int))).toNat (((UInt64.ofInt v5))).toNat)))),cond x1
  (ck ((decide ((x3).length+30 * bx.cw ((bu.kids x2))+50≤1000000000000))&&decide ((2 * bx.cw ((bu.kids x2))+1)<n)) (some [(.ag [.pt]),(.sl .bs v1)]))
  (cond (decide (x0=(15:Int)))
  (ck (decide (1≤((4:Int))∧((4:Int))≤8∧(((x3))).length≤1099511627776)) (ck (decide ((v2).length+(((bu.text x2))).length+10≤1099511627776)) (ck ((decide ((v3).length+30 * bx.cw ((bu.kids x2))+50≤1000000000000))&&decide ((2 * bx.cw ((bu.kids x2))+1)<n)) (ck (decide (1≤((4:Int))∧((4:Int))≤8∧0≤((((x3).length:Int)))∧((((x3).length:Int)))+((4:Int))≤((((v4))).length:Int)∧(((v4))).length≤2199023255552)) (some [(.ag [.pt]),(.sl .bs v6)])))))
  (some [(.ag [.pt]),(.sl .bs x3)]))=ρ):bD.j4 n x0 x1 x2 x3=ρ:=((dv _ _ _ _ _ _ _).trans (by kernel_rfl)).trans (K _ rfl _ rfl _ rfl _ rfl _ rfl _ rfl)
theorem bD.fh (n:Nat) (v:bu) (b:List UInt8):bD.F n v b=cond (decide ((bu.kind v)=(1:Int)))
  (bD.j1 n (bu.kind v) (decide ((bu.kind v)=(1:Int))) v b)
  (cond (decide ((bu.kind v)=(9:Int)))
  (bD.j1 n (bu.kind v) (decide ((bu.kind v)=(9:Int))) v b)
  (cond (decide ((bu.kind v)=(17:Int)))
  (bD.j1 n (bu.kind v) (decide ((bu.kind v)=(17:Int))) v b)
  (bD.j1 n (bu.kind v) (decide ((bu.kind v)=(18:Int))) v b))):=by kernel_rfl
def cZ.E:cz:=dH fJ zs [(12,(cF.c,cF.sg)),(26,(cu.c,cu.sg)),(27,(eW.c,eW.sg)),(28,(bF.c,bF.sg)),(29,(dF.c,dF.sg))]
def cZ.h:Hint := .o
def cZ.F (v:bu):OT:=dD PG cZ.E 9 cZ.sg cZ.h [(.ag (bu.cells v))]
theorem cZ.cR (v:bu) {ρ:OT} (K:∀(v1:List Int) (h1:v1=((Tree.hU (bx.of [] v) []).1)) (v2:Int) (h2:v2=((Tree.hU (bx.of [] v) []).2)) (v3:Int) (h3:v3=(((Bs.size (bx.of [] v):Nat):Int))) (v4:List UInt8) (h4:v4=((((([]:List UInt8)))++Bs.iR ((bu.kids v))))),ck (decide (bx.dk (bx.of [] v)≤1099511627776)) (cond (!decide (v2=(0:Int)))
  (some [(.sl .bs ([]:List UInt8)),(.ag [(.i .i64 v2),(.i .i64 0),(.sl .is v1)])])
  (cond (!decide ((bu.kind v)=(3:Int)))
  (some [(.sl .bs ([]:List UInt8)),(.ag [(.i .i64 5),(.i .i64 0),(.sl .is ([]:List Int))])])
  (ck (decide (bx.dk (bx.of [] v)≤1000000000000)) (cond (decide ((16777216:Int)<v3))
  (some [(.sl .bs ([]:List UInt8)),(.ag [(.i .i64 9),(.i .i64 0),(.sl .is ([]:List Int))])])
  (ck (decide ((((([]:List UInt8)))).length+30 * bx.cw ((bu.kids v))+50≤1000000000000)) (ck (decide ((((rI.mk v4)).b).length≤2199023255552)) (some [(.sl .bs ((((rI.mk v4)).b))),(.ag [(.i .i64 0),(.i .i64 0),(.sl .is ([]:List Int))])])))))))=ρ):cZ.F v=ρ:=Eq.trans (by kernel_rfl) (K _ rfl _ rfl _ rfl _ rfl)
def bW.E:cz:=dH fJ zs []
def bW.h:Hint := .o
def bW.F (e:Int) (at_:Int):OT:=dD PG bW.E 44 bW.sg bW.h [(.i .i64 e),(.i .i64 at_)]
theorem bW.fh (e:Int) (at_:Int):bW.F e at_=some [(.ag [(.i .i64 e),(.i .i64 at_),(.sl .is ([]:List Int))])]:=by kernel_rfl
def cd.E:cz:=dH fJ zs [(66,(eH.c,eH.sg)),(67,(cT.c,cT.sg))]
def cd.h:Hint := .o
def cd.F (r:bA) (at_:Int):OT:=dD PG cd.E 45 cd.sg cd.h [(.ag (bA.cells r)),(.i .i64 at_)]
theorem cd.cR (r:bA) (at_:Int) {ρ:OT} (K:∀(v1:Int) (h1:v1=(IntKind.i64.wrap (at_+(4:Int)))) (v2:List UInt8) (h2:v2=(List.drop (at_).toNat (List.take (v1).toNat (bA.b r)))) (v3:bA) (h3:v3=((Bs.jA ((bA.mk v2 0)) ((4:Int))))) (v4:UInt64) (h4:v4=((UInt64.ofNat (Bs.gD (Bs.fH ((bA.mk v2 0)) ((4:Int))))))) (v5:Bool) (h5:v5=((Bs.can ((bA.mk v2 0)) ((4:Int))))) (v6:Int) (h6:v6=(IntKind.i32.wrap ((v4).toNat:Int))),ck (dV at_ v1 ((bA.b r)).length) (ck (decide ((v2).length≤1099511627776)) (ck (decide (1≤((4:Int))∧((4:Int))≤8∧0≤(((bA.mk v2 0))).at_∧(((bA.mk v2 0))).at_≤((((bA.mk v2 0))).b).length∧((((bA.mk v2 0))).b).length≤1099511627776)) (some [(.i .i64 (IntKind.i64.wrap v6)),(.ag (bA.cells r))])))=ρ):cd.F r at_=ρ:=Eq.trans (by kernel_rfl) (K _ rfl _ rfl _ rfl _ rfl _ rfl _ rfl)
def bJ.E:cz:=dH fJ zs []
def bJ.h:Hint := .s .o (.s (.s .o (.b (.j (sc [3,4]) .o (.s .o (.j (sc [3,9]) .o .o))))) .o)
def bJ.F (k:Int):OT:=dD PG bJ.E 70 bJ.sg bJ.h [(.i .i64 k)]
def bJ.j1 (x0:Int) (x1:Bool):OT:=fp PG bJ.E 70 bJ.sg bJ.h 21 [(.i .i64 x0),(.b x1)]
def bJ.j2 (x0:Int) (x1:Bool):OT:=fp PG bJ.E 70 bJ.sg bJ.h 117 [(.i .i64 x0),(.b x1)]
theorem bJ.qz (x0:Int) (x1:Bool):bJ.j1 x0 x1=cond x1
  (some [(.i .i64 8)])
  (cond (decide (x0=(16:Int)))
  (bJ.j2 x0 (decide (x0=(16:Int))))
  (cond (decide (x0=(2:Int)))
  (bJ.j2 x0 (decide (x0=(2:Int))))
  (cond (decide (x0=(13:Int)))
  (bJ.j2 x0 (decide (x0=(13:Int))))
  (cond (decide (x0=(14:Int)))
  (bJ.j2 x0 (decide (x0=(14:Int))))
  (cond (decide (x0=(12:Int)))
  (bJ.j2 x0 (decide (x0=(12:Int))))
  (bJ.j2 x0 (decide (x0=(15:Int))))))))):=((dv _ _ _ _ _ _ _).trans (by kernel_rfl))
theorem bJ.jE (x0:Int) (x1:Bool):bJ.j2 x0 x1=cond x1
  (some [(.i .i64 4)])
  (cond (decide (x0=(8:Int)))
  (some [(.i .i64 1)])
  (cond (decide (x0=(19:Int)))
  (some [(.i .i64 16)])
  (cond (decide (x0=(7:Int)))
  (some [(.i .i64 12)])
  (cond (decide (x0=(5:Int)))
  (some [(.i .i64 5)])
  (some [(.i .i64 0)]))))):=((dv _ _ _ _ _ _ _).trans (by kernel_rfl))
theorem bJ.fh (k:Int):bJ.F k=cond (decide (k=(1:Int)))
  (bJ.j1 k (decide (k=(1:Int))))
  (cond (decide (k=(9:Int)))
  (bJ.j1 k (decide (k=(9:Int))))
  (cond (decide (k=(17:Int)))
  (bJ.j1 k (decide (k=(17:Int))))
  (bJ.j1 k (decide (k=(18:Int)))))):=by kernel_rfl
def dG.E:cz:=dH fJ zs [(44,(bW.c,bW.sg)),(47,(cG.c,cG.sg))]
def dG.h:Hint := .o
def dG.F (r:bA) (q:Int) (z:Int):OT:=dD PG dG.E 73 dG.sg dG.h [(.ag (bA.cells r)),(.i .i64 q),(.i .i64 z)]
theorem dG.cR (r:bA) (q:Int) (z:Int) {ρ:OT} (K:∀(v1:List UInt8) (h1:v1=(List.take (z).toNat (bA.b r))) (v2:cq) (h2:v2=((cq.mk (((Bs.ctext v1 q).2.2)) q []))),ck (dV 0 z ((bA.b r)).length) (ck (decide ((v1).length≤1099511627776)) (cond (!decide (((Bs.ctext v1 q).2.2)=(0:Int)))
  (some [(.s []),(.i .i64 0),(.ag (cq.cells v2)),(.ag (bA.cells r))])
  (some [(.s ((Bs.ctext v1 q).1)),(.i .i64 ((Bs.ctext v1 q).2.1)),(.ag [(.i .i64 0),(.i .i64 0),(.sl .is ([]:List Int))]),(.ag (bA.cells r))])))=ρ):dG.F r q z=ρ:=Eq.trans (by kernel_rfl) (K _ rfl _ rfl)
def dK.E:cz:=dH fJ zs [(44,(bW.c,bW.sg)),(45,(cd.c,cd.sg)),(69,(ct.c,ct.sg))]
def dK.h:Hint := .o
def dK.F (r:bA) (q:Int) (z:Int):OT:=dD PG dK.E 72 dK.sg dK.h [(.ag (bA.cells r)),(.i .i64 q),(.i .i64 z)]
theorem dK.cR (r:bA) (q:Int) (z:Int) {ρ:OT} (K:∀(v1:Int) (h1:v1=(IntKind.i64.wrap ((IntKind.i64.wrap (z - q)) - (4:Int)))) (v2:Bool) (h2:v2=(cond (decide (((Bs.cU ((r).b) (q).toNat))<(1:Int))) true (decide (v1<((Bs.cU ((r).b) (q).toNat)))))) (v3:Int) (h3:v3=(IntKind.i64.wrap (q+(4:Int)))) (v4:Int) (h4:v4=(IntKind.i64.wrap (v3+((Bs.cU ((r).b) (q).toNat))))) (v5:Int) (h5:v5=(IntKind.i64.wrap (v4 - (1:Int)))) (v6:UInt8) (h6:v6=(List.getD (bA.b (r)) (v5).toNat (0:UInt8))) (v7:List UInt8) (h7:v7=(List.drop (v3).toNat (List.take (v5).toNat (bA.b (r))))),cond (decide ((IntKind.i64.wrap (z - q))<(4:Int)))
  (some [(.s []),(.i .i64 0),(.ag (cq.cells ((cq.mk ((2:Int)) q [])))),(.ag (bA.cells r))])
  (ck (decide (0≤q∧q+4≤(((r).b).length:Int)∧((r).b).length≤1000000000)) (ck (!(!(decide (((Bs.cU ((r).b) (q).toNat))<(1:Int)))) || ((!(decide (((Bs.cU ((r).b) (q).toNat))<(1:Int))))&&(!(decide (((Bs.cU ((r).b) (q).toNat))<(1:Int)))))) (ck (!(!(decide (((Bs.cU ((r).b) (q).toNat))<(1:Int)))) || (!(decide (((Bs.cU ((r).b) (q).toNat))<(1:Int))))) (ck (!(!(decide (((Bs.cU ((r).b) (q).toNat))<(1:Int)))) || ((!(decide (((Bs.cU ((r).b) (q).toNat))<(1:Int))))&&(!(decide (((Bs.cU ((r).b) (q).toNat))<(1:Int)))))) (ck ((decide (((Bs.cU ((r).b) (q).toNat))<(1:Int))) || (!(decide (((Bs.cU ((r).b) (q).toNat))<(1:Int))))) (cond v2
  (some [(.s []),(.i .i64 0),(.ag (cq.cells ((cq.mk ((6:Int)) q [])))),(.ag (bA.cells (r)))])
  (ck (dj v5 ((bA.b (r))).length) (cond (!decide (v6=(0:UInt8)))
  (some [(.s []),(.i .i64 0),(.ag (cq.cells ((cq.mk ((3:Int)) v5 [])))),(.ag (bA.cells (r)))])
  (ck (dV v3 v5 ((bA.b (r))).length) (ck (decide (v7.length≤1099511627776)) (cond (!(dp.whole v7))
  (some [(.s []),(.i .i64 0),(.ag (cq.cells ((cq.mk ((4:Int)) v3 [])))),(.ag (bA.cells (r)))])
  (ck (dV v3 v5 ((bA.b (r))).length) (some [(.s v7),(.i .i64 v4),(.ag [(.i .i64 0),(.i .i64 0),(.sl .is ([]:List Int))]),(.ag (bA.cells (r)))])))))))))))))=ρ):dK.F r q z=ρ:=Eq.trans (by kernel_rfl) (K _ rfl _ rfl _ rfl _ rfl _ rfl _ rfl _ rfl)
def bR.E:cz:=dH fJ zs [(35,(bQ.c,bQ.sg)),(44,(bW.c,bW.sg)),(45,(cd.c,cd.sg))] [193,264]
def bR.h:Hint := .s .o (.s .o (.s .o (.s .o (.j [(0,.ptr 1000000 0),(9,.ptr 80 0),(11,.no),(12,.no),(13,.no),(80,.cl []),(1000000,.cl [])] .o .o))))
def bR.F (r:bA) (q:Int) (z:Int):OT:=dD PG bR.E 74 bR.sg bR.h [(.ag (bA.cells r)),(.i .i64 q),(.i .i64 z)]
def bR.j1 (x0:Int) (x1:Int) (x2:Int) (x3:cq) (x4:List UInt8) (x5:Int):OT:=fp PG bR.E 74 bR.sg bR.h 31 [.pt,.pt,(.i .i64 x0),(.i .i64 x1),(.i .i64 x2),(.ag (cq.cells x3)),(.ag [(.sl .bs x4),(.i .i64 x5)])]
theorem bR.qy (x0:Int) (x1:Int) (x2:Int) (x3:cq) (x4:List UInt8) (x5:Int) {ρ:OT} (K:∀(v1:List UInt8) (h1:v1=(List.drop (x1).toNat (List.take (x2).toNat x4))),ck (dV x1 x2 (x4).length) (ck (eO (v1).length 1) (some [(.i .i64 x0),(.sl .bs (v1)),(.i .i64 x2),(.ag [(.i .i64 0),(.i .i64 0),(.sl .is ([]:List Int))]),(.ag [(.sl .bs x4),(.i .i64 x5)])]))=ρ):bR.j1 x0 x1 x2 x3 x4 x5=ρ:=((dv _ _ _ _ _ _ _).trans (by kernel_rfl)).trans (K _ rfl)
theorem bR.cR (r:bA) (q:Int) (z:Int) {ρ:OT} (K:∀(v1:Int) (h1:v1=(IntKind.i64.wrap ((IntKind.i64.wrap (z - q)) - (5:Int)))) (v2:Bool) (h2:v2=(cond (decide (((Bs.cU ((r).b) (q).toNat))<(0:Int))) true (decide (v1<((Bs.cU ((r).b) (q).toNat)))))) (v3:Int) (h3:v3=(IntKind.i64.wrap (q+(4:Int)))) (v4:UInt8) (h4:v4=(List.getD (bA.b (r)) (v3).toNat (0:UInt8))) (v5:Int) (h5:v5=(IntKind.i64.wrap ((v4).toNat:Int))) (v6:Int) (h6:v6=(IntKind.i64.wrap (q+(5:Int)))) (v7:Int) (h7:v7=(IntKind.i64.wrap (v6+((Bs.cU ((r).b) (q).toNat))))) (v8:Int) (h8:v8=((Bs.cU (((r)).b) (v6).toNat))) (v9:Int) (h9:v9=(IntKind.i64.wrap (((Bs.cU ((r).b) (q).toNat)) - (4:Int)))) (v10:Bool) (iU:v10=(cond (decide (((Bs.cU ((r).b) (q).toNat))<(4:Int))) true (!decide (v8=v9)))) (v11:Int) (tk:v11=(IntKind.i64.wrap (v6+(4:Int)))),ck (decide (0≤q∧q+4≤(((r).b).length:Int)∧((r).b).length≤1000000000)) (ck (!(!(decide (((Bs.cU ((r).b) (q).toNat))<(0:Int)))) || ((!(decide (((Bs.cU ((r).b) (q).toNat))<(0:Int))))&&(!(decide (((Bs.cU ((r).b) (q).toNat))<(0:Int)))))) (ck (!(!(decide (((Bs.cU ((r).b) (q).toNat))<(0:Int)))) || (!(decide (((Bs.cU ((r).b) (q).toNat))<(0:Int))))) (ck (!(!(decide (((Bs.cU ((r).b) (q).toNat))<(0:Int)))) || ((!(decide (((Bs.cU ((r).b) (q).toNat))<(0:Int))))&&(!(decide (((Bs.cU ((r).b) (q).toNat))<(0:Int)))))) (ck ((decide (((Bs.cU ((r).b) (q).toNat))<(0:Int))) || (!(decide (((Bs.cU ((r).b) (q).toNat))<(0:Int))))) (cond v2
  (some [(.i .i64 0),(.sl .bs ([]:List UInt8)),(.i .i64 0),(.ag (cq.cells ((cq.mk ((6:Int)) q [])))),(.ag (bA.cells (r)))])
  (ck (dj v3 ((bA.b (r))).length) (cond (decide (v5=(2:Int)))
  (cond (!(decide (((Bs.cU ((r).b) (q).toNat))<(4:Int))))
  (ck ((!(decide (((Bs.cU ((r).b) (q).toNat))<(4:Int))))&&(((!(decide (((Bs.cU ((r).b) (q).toNat))<(4:Int))))&&(!(decide (((Bs.cU ((r).b) (q).toNat))<(4:Int)))))&&(decide (0≤v6∧v6+4≤((((r)).b).length:Int)∧(((r)).b).length≤1000000000)))) (ck (!(!(decide (((Bs.cU ((r).b) (q).toNat))<(4:Int)))) || (!(decide (((Bs.cU ((r).b) (q).toNat))<(4:Int))))) (ck (!(!(decide (((Bs.cU ((r).b) (q).toNat))<(4:Int)))) || (!(decide (((Bs.cU ((r).b) (q).toNat))<(4:Int))))) (ck ((decide (((Bs.cU ((r).b) (q).toNat))<(4:Int))) || (!(decide (((Bs.cU ((r).b) (q).toNat))<(4:Int))))) (cond v10
  (some [(.i .i64 0),(.sl .bs ([]:List UInt8)),(.i .i64 0),(.ag (cq.cells ((cq.mk ((6:Int)) v6 [])))),(.ag (bA.cells ((r))))])
  (bR.j1 v5 v11 v7 (cq.mk 0 0 []) (bA.b ((r))) (bA.at_ ((r)))))))))
  (ck (!(!(decide (((Bs.cU ((r).b) (q).toNat))<(4:Int)))) || (!(decide (((Bs.cU ((r).b) (q).toNat))<(4:Int))))) (ck (!(!(decide (((Bs.cU ((r).b) (q).toNat))<(4:Int)))) || (false&&(!(decide (((Bs.cU ((r).b) (q).toNat))<(4:Int)))))) (ck ((decide (((Bs.cU ((r).b) (q).toNat))<(4:Int))) || (!(decide (((Bs.cU ((r).b) (q).toNat))<(4:Int))))) (cond v10
  (some [(.i .i64 0),(.sl .bs ([]:List UInt8)),(.i .i64 0),(.ag (cq.cells ((cq.mk ((6:Int)) v6 [])))),(.ag (bA.cells (r)))])
  (bR.j1 v5 v11 v7 (cq.mk 0 0 []) (bA.b (r)) (bA.at_ (r))))))))
  (bR.j1 v5 v6 v7 (cq.mk 0 0 []) (bA.b (r)) (bA.at_ (r))))))))))=ρ):bR.F r q z=ρ:=Eq.trans (by kernel_rfl) (K _ rfl _ rfl _ rfl _ rfl _ rfl _ rfl _ rfl _ rfl _ rfl _ rfl _ rfl)
end
end Go.Eng
set_option maxRecDepth 100000
namespace Go.Eng
open Go.Proofs
noncomputable section
def da.E (n:Nat):cz:=dH fJ zs [(25,(bz.cn n,bz.sg)),(44,(bW.c,bW.sg)),(45,(cd.c,cd.sg)),(72,(dK.c,dK.sg))]
def da.h:Hint := .o
def da.F (n:Nat) (r:bA) (q:Int) (z:Int) (d:Int):OT:=dD PG (da.E n) 75 da.sg da.h [(.ag (bA.cells r)),(.i .i64 q),(.i .i64 z),(.i .i64 d)]
theorem da.cR (n:Nat) (r:bA) (q:Int) (z:Int) (d:Int) {ρ:OT} (K:∀(v1:Bool) (h1:v1=(cond (decide (((Bs.cU ((r).b) (q).toNat))<(14:Int))) true (decide ((IntKind.i64.wrap (z - q))<((Bs.cU ((r).b) (q).toNat)))))) (v2:Int) (h2:v2=(IntKind.i64.wrap (q+(4:Int)))) (v3:Int) (h3:v3=(IntKind.i64.wrap (q+((Bs.cU ((r).b) (q).toNat))))) (v4:Str) (h4:v4=((Bs.gh ([],0) (Bs.text (((r)).b) (v2).toNat (v3).toNat)).1)) (v5:Int) (h5:v5=(((Bs.gh ([],0) (Bs.text (((r)).b) (v2).toNat (v3).toNat)).2:Int))) (v6:cq) (h6:v6=((Bs.iI (Bs.text (((r)).b) (v2).toNat (v3).toNat)))) (v7:Int) (h7:v7=(IntKind.i64.wrap (d+(1:Int)))) (v8:List bx) (h8:v8=((Bs.gh ([],0) (Bs.doc ((((r))).at_ - v7).toNat ((((r))).b) (v5).toNat (v3).toNat ((2:Int)))).1)) (v9:Int) (h9:v9=(((Bs.gh ([],0) (Bs.doc ((((r))).at_ - v7).toNat ((((r))).b) (v5).toNat (v3).toNat ((2:Int)))).2:Int))) (v10:cq) (iU:v10=((Bs.iI (Bs.doc ((((r))).at_ - v7).toNat ((((r))).b) (v5).toNat (v3).toNat ((2:Int)))))),ck (decide (0≤q∧q+4≤(((r).b).length:Int)∧((r).b).length≤1000000000)) (ck (!(!(decide (((Bs.cU ((r).b) (q).toNat))<(14:Int)))) || ((!(decide (((Bs.cU ((r).b) (q).toNat))<(14:Int))))&&(!(decide (((Bs.cU ((r).b) (q).toNat))<(14:Int)))))) (ck (!(!(decide (((Bs.cU ((r).b) (q).toNat))<(14:Int)))) || ((!(decide (((Bs.cU ((r).b) (q).toNat))<(14:Int))))&&(!(decide (((Bs.cU ((r).b) (q).toNat))<(14:Int)))))) (ck ((decide (((Bs.cU ((r).b) (q).toNat))<(14:Int))) || (!(decide (((Bs.cU ((r).b) (q).toNat))<(14:Int))))) (cond v1
  (some [(.s []),(.sl .fl ([]:List bx)),(.i .i64 0),(.ag (cq.cells ((cq.mk ((6:Int)) q [])))),(.ag (bA.cells (r)))])
  (ck (decide (0≤v2∧v2≤v3∧v3≤((((r)).b).length:Int)∧(((r)).b).length≤1000000000)) (cond (!decide ((cq.err v6)=(0:Int)))
  (some [(.s []),(.sl .fl ([]:List bx)),(.i .i64 0),(.ag (cq.cells v6)),(.ag (bA.cells ((r))))])
  (ck ((decide (0≤v5∧v5≤v3∧v3≤(((((r))).b).length:Int)∧((((r))).b).length≤1000000000∧0≤v7∧v7≤1000∧(((r))).at_≤1000))&&decide ((3 * ((((r))).at_ - v7).toNat+2)<n)) (some [(.s v4),(.sl .fl v8),(.i .i64 v9),(.ag (cq.cells v10)),(.ag (bA.cells (((r)))))]))))))))=ρ):da.F n r q z d=ρ:=Eq.trans (by kernel_rfl) (K _ rfl _ rfl _ rfl _ rfl _ rfl _ rfl _ rfl _ rfl _ rfl _ rfl)
def bt.E (n:Nat):cz:=dH fJ zs [(25,(bz.cn n,bz.sg)),(35,(bQ.c,bQ.sg)),(44,(bW.c,bW.sg)),(66,(eH.c,eH.sg)),(67,(cT.c,cT.sg)),(70,(bJ.c,bJ.sg)),(71,(et.c,et.sg)),(72,(dK.c,dK.sg)),(73,(dG.c,dG.sg)),(74,(bR.c,bR.sg)),(75,(da.cn n,da.sg))]
def bt.h:Hint := .s .o (.s .o (.s .o (.s .o (.s .o (.s .o (.j [(10,.ptr 219 0),(11,.no),(12,.ptr 221 0),(219,.cl []),(221,.cl []),(1000000,.cl [])] (.s .o (.b (.j [(0,.ptr 1000000 0),(1,.no),(2,.no),(3,.no),(4,.no),(10,.ptr 219 0),(11,.no),(12,.ptr 221 0),(13,.no),(14,.ptr 245 0),(40,.no),(41,.no),(219,.cl []),(221,.cl []),(245,.cl []),(1000000,.cl [])] .o (.s .o (.s .o (.s .o (.s .o (.s .o (.j [(0,.ptr 1000000 0),(2,.no),(3,.no),(4,.no),(10,.ptr 219 0),(11,.no),(12,.ptr 221 0),(40,.no),(87,.no),(219,.cl []),(221,.cl []),(1000000,.cl [])] .o (.s .o (.s .o (.s (.s .o (.j [(0,.ptr 1000000 0),(10,.ptr 219 0),(11,.no),(12,.ptr 221 0),(219,.cl []),(221,.cl []),(1000000,.cl [])] .o .o)) (.s .o (.s .o (.s .o (.s .o (.j [(0,.ptr 1000000 0),(2,.no),(3,.no),(4,.no),(10,.ptr 219 0),(11,.no),(12,.ptr 221 0),(40,.no),(173,.no),(219,.cl []),(221,.cl []),(1000000,.cl [])] .o .o))))))))))))))))) .o))))))
def bt.F (n:Nat) (r:bA) (k:Int) (q:Int) (z:Int) (d:Int):OT:=dD PG (bt.E n) 48 bt.sg bt.h [(.ag (bA.cells r)),(.i .i64 k),(.i .i64 q),(.i .i64 z),(.i .i64 d)]
def bt.j1 (n:Nat) (x0:Int) (x1:Int) (x2:Int) (x3:Int) (x4:Int) (x5:Int) (x6:Int) (x7:Bool) (x8:bu) (x9:cq) (ia:List UInt8) (l5:Int) (xE:List UInt8) (xD:Int):OT:=fp PG (bt.E n) 48 bt.sg bt.h 703 [.pt,(.i .i64 x0),(.i .i64 x1),(.i .i64 x2),(.i .i64 x3),.pt,(.i .i64 x4),.pt,(.i .i64 x5),.pt,(.i .i64 x6),(.b x7),(.ag (bu.cells x8)),(.ag (cq.cells x9)),(.ag [(.sl .bs ia),(.i .i64 l5)]),(.ag [(.sl .bs xE),(.i .i64 xD)])]
def bt.j2 (n:Nat) (x0:Int) (x1:bu) (x2:cq) (x3:List UInt8) (x4:Int):OT:=fp PG (bt.E n) 48 bt.sg bt.h 127 [.pt,(.i .i64 x0),.pt,(.ag (bu.cells x1)),(.ag (cq.cells x2)),(.ag [(.sl .bs x3),(.i .i64 x4)])]
def bt.j3 (n:Nat) (x0:Int) (x1:Int) (x2:Int) (x3:Int) (x4:Int) (x5:Bool) (x6:bu) (x7:cq) (x8:List UInt8) (x9:Int):OT:=fp PG (bt.E n) 48 bt.sg bt.h 65215 [.pt,(.i .i64 x0),(.i .i64 x1),(.i .i64 x2),.pt,(.i .i64 x3),.pt,(.i .i64 x4),(.b x5),(.ag (bu.cells x6)),(.ag (cq.cells x7)),(.ag [(.sl .bs x8),(.i .i64 x9)])]
def bt.j4 (n:Nat) (x0:Int) (x1:bu) (x2:cq) (x3:List UInt8) (x4:Int):OT:=fp PG (bt.E n) 48 bt.sg bt.h 1834687 [.pt,.pt,(.i .i64 x0),.pt,(.ag (bu.cells x1)),(.ag (cq.cells x2)),(.ag [(.sl .bs x3),(.i .i64 x4)])]
def bt.j5 (n:Nat) (x0:Int) (x1:Int) (x2:Int) (x3:Int) (x4:Int) (x5:Bool) (x6:bu) (x7:cq) (x8:List UInt8) (x9:Int):OT:=fp PG (bt.E n) 48 bt.sg bt.h 16776895 [.pt,(.i .i64 x0),(.i .i64 x1),(.i .i64 x2),.pt,(.i .i64 x3),.pt,(.i .i64 x4),(.b x5),(.ag (bu.cells x6)),(.ag (cq.cells x7)),(.ag [(.sl .bs x8),(.i .i64 x9)])]
theorem bt.qy (n:Nat) (x0:Int) (x1:Int) (x2:Int) (x3:Int) (x4:Int) (x5:Int) (x6:Int) (x7:Bool) (x8:bu) (x9:cq) (ia:List UInt8) (l5:Int) (xE:List UInt8) (xD:Int) {ρ:OT} (K:∀(v1:bA) (h1:v1=((Bs.jA (bA.mk ia l5) x5))) (v2:UInt64) (h2:v2=((UInt64.ofNat (Bs.gD (Bs.fH (bA.mk ia l5) x5))))) (v3:Bool) (h3:v3=((Bs.can (bA.mk ia l5) x5))) (v4:Bool) (h4:v4=(cond (decide (x0=(8:Int))) (decide ((1:UInt64)<v2)) false)) (v5:bA) (h5:v5=((Bs.jA (bA.mk ia l5) ((8:Int))))) (v6:UInt64) (h6:v6=((UInt64.ofNat (Bs.gD (Bs.fH (bA.mk ia l5) ((8:Int))))))) (v7:Bool) (h7:v7=((Bs.can (bA.mk ia l5) ((8:Int))))) (v8:UInt64) (h8:v8=((UInt64.ofNat (Bs.gD (Bs.fH v5 ((8:Int))))))) (v9:bA) (h9:v9=((Bs.o0 (bA.mk ia l5) x5))) (v10:List UInt8) (iU:v10=((Bs.pW (bA.mk ia l5) x5))) (v11:Bool) (tk:v11=((Bs.qY (bA.mk ia l5) x5))),cond x7
  (ck (decide (1≤x5∧x5≤8∧0≤((bA.mk ia l5)).at_∧((bA.mk ia l5)).at_≤(((bA.mk ia l5)).b).length∧(((bA.mk ia l5)).b).length≤1099511627776)) (ck (!(decide (x0=(8:Int))) || (decide (x0=(8:Int)))) (ck (!(decide (x0=(8:Int))) || (decide (x0=(8:Int)))) (ck (!(decide (x0=(8:Int))) || (decide (x0=(8:Int)))) (cond v4
  (bt.j2 n x4 (bu.mk (bu.kind x8) v2 (bu.high x8) (bu.low x8) (bu.text x8) (bu.more x8) (bu.sub x8) (bu.bytes x8) (bu.kids x8)) ((cq.mk ((3:Int)) x1 [])) xE xD)
  (bt.j2 n x4 (bu.mk (bu.kind x8) v2 (bu.high x8) (bu.low x8) (bu.text x8) (bu.more x8) (bu.sub x8) (bu.bytes x8) (bu.kids x8)) x9 xE xD))))))
  (cond (decide (x6=(19:Int)))
  (ck (decide (1≤((8:Int))∧((8:Int))≤8∧0≤((bA.mk ia l5)).at_∧((bA.mk ia l5)).at_≤(((bA.mk ia l5)).b).length∧(((bA.mk ia l5)).b).length≤1099511627776)) (ck (decide (1≤((8:Int))∧((8:Int))≤8∧0≤(v5).at_∧(v5).at_≤((v5).b).length∧((v5).b).length≤1099511627776)) (bt.j2 n x4 (bu.mk (bu.kind x8) (bu.bits x8) v8 v6 (bu.text x8) (bu.more x8) (bu.sub x8) (bu.bytes x8) (bu.kids x8)) x9 xE xD)))
  (cond (decide (x6=(7:Int)))
  (ck (decide (0≤x5∧0≤((bA.mk ia l5)).at_∧((bA.mk ia l5)).at_≤(((bA.mk ia l5)).b).length∧(((bA.mk ia l5)).b).length≤1099511627776)) (bt.j2 n x4 (bu.mk (bu.kind x8) (bu.bits x8) (bu.high x8) (bu.low x8) (bu.text x8) (bu.more x8) (bu.sub x8) v10 (bu.kids x8)) x9 xE xD))
  (cond (decide (x6=(2:Int)))
  (bt.j3 n x1 x2 x3 x4 x6 (decide (x6=(2:Int))) x8 x9 xE xD)
  (cond (decide (x6=(13:Int)))
  (bt.j3 n x1 x2 x3 x4 x6 (decide (x6=(13:Int))) x8 x9 xE xD)
  (bt.j3 n x1 x2 x3 x4 x6 (decide (x6=(14:Int))) x8 x9 xE xD)))))=ρ):bt.j1 n x0 x1 x2 x3 x4 x5 x6 x7 x8 x9 ia l5 xE xD=ρ:=((dv _ _ _ _ _ _ _).trans (by kernel_rfl)).trans (K _ rfl _ rfl _ rfl _ rfl _ rfl _ rfl _ rfl _ rfl _ rfl _ rfl _ rfl)
theorem bt.jE (n:Nat) (x0:Int) (x1:bu) (x2:cq) (x3:List UInt8) (x4:Int):bt.j2 n x0 x1 x2 x3 x4=cond (!decide ((cq.err x2)=(0:Int)))
  (some [(.ag [(.i .i64 0),(.u64 0),(.u64 0),(.u64 0),(.s []),(.s []),(.i .i64 0),(.sl .bs ([]:List UInt8)),(.sl .fl ([]:List bx))]),(.i .i64 0),(.ag (cq.cells x2)),(.ag [(.sl .bs x3),(.i .i64 x4)])])
  (some [(.ag (bu.cells x1)),(.i .i64 x0),(.ag [(.i .i64 0),(.i .i64 0),(.sl .is ([]:List Int))]),(.ag [(.sl .bs x3),(.i .i64 x4)])]):=((dv _ _ _ _ _ _ _).trans (by kernel_rfl))
theorem bt.qx (n:Nat) (x0:Int) (x1:Int) (x2:Int) (x3:Int) (x4:Int) (x5:Bool) (x6:bu) (x7:cq) (x8:List UInt8) (x9:Int) {ρ:OT} (K:∀(v1:Str) (h1:v1=((Bs.gh ([],0) (Bs.text (((bA.mk x8 x9)).b) (x0).toNat (x1).toNat)).1)) (v2:Int) (h2:v2=(((Bs.gh ([],0) (Bs.text (((bA.mk x8 x9)).b) (x0).toNat (x1).toNat)).2:Int))) (v3:cq) (h3:v3=((Bs.iI (Bs.text (((bA.mk x8 x9)).b) (x0).toNat (x1).toNat)))) (v4:Bool) (h4:v4=(cond (decide ((cq.err v3)=(0:Int))) (decide ((IntKind.i64.wrap (x1 - v2))<(12:Int))) false)) (v5:Str) (h5:v5=((Bs.gh ([],0) (Bs.ended (((bA.mk x8 x9)).b) (x0).toNat (x1).toNat)).1)) (v6:Int) (h6:v6=(((Bs.gh ([],0) (Bs.ended (((bA.mk x8 x9)).b) (x0).toNat (x1).toNat)).2:Int))) (v7:cq) (h7:v7=((Bs.iI (Bs.ended (((bA.mk x8 x9)).b) (x0).toNat (x1).toNat)))) (v8:Str) (h8:v8=((Bs.gh ([],0) (Bs.ended ((((bA.mk x8 x9))).b) (v6).toNat (x1).toNat)).1)) (v9:Int) (h9:v9=(((Bs.gh ([],0) (Bs.ended ((((bA.mk x8 x9))).b) (v6).toNat (x1).toNat)).2:Int))) (v10:cq) (iU:v10=((Bs.iI (Bs.ended ((((bA.mk x8 x9))).b) (v6).toNat (x1).toNat)))) (v11:Int) (tk:v11=((Bs.gh (0,[],0) (Bs.binary (((bA.mk x8 x9)).b) (x0).toNat (x1).toNat)).1)) (v12:List UInt8) (vi:v12=((Bs.gh (0,[],0) (Bs.binary (((bA.mk x8 x9)).b) (x0).toNat (x1).toNat)).2.1)) (jY:Int) (tj:jY=(((Bs.gh (0,[],0) (Bs.binary (((bA.mk x8 x9)).b) (x0).toNat (x1).toNat)).2.2:Int))) (nR:cq) (zM:nR=((Bs.iI (Bs.binary (((bA.mk x8 x9)).b) (x0).toNat (x1).toNat)))),cond x5
  (ck (decide (0≤x0∧x0≤x1∧x1≤((((bA.mk x8 x9)).b).length:Int)∧(((bA.mk x8 x9)).b).length≤1000000000)) (bt.j2 n v2 (bu.mk (bu.kind x6) (bu.bits x6) (bu.high x6) (bu.low x6) v1 (bu.more x6) (bu.sub x6) (bu.bytes x6) (bu.kids x6)) v3 (bA.b ((bA.mk x8 x9))) (bA.at_ ((bA.mk x8 x9)))))
  (cond (decide (x4=(12:Int)))
  (ck (decide (0≤x0∧x0≤x1∧x1≤((((bA.mk x8 x9)).b).length:Int)∧(((bA.mk x8 x9)).b).length≤1000000000)) (ck (!(decide ((cq.err v3)=(0:Int))) || ((decide ((cq.err v3)=(0:Int)))&&(decide ((cq.err v3)=(0:Int))))) (ck (!(decide ((cq.err v3)=(0:Int))) || (decide ((cq.err v3)=(0:Int)))) (ck (!(decide ((cq.err v3)=(0:Int))) || (decide ((cq.err v3)=(0:Int)))) (cond v4
  (bt.j4 n v2 (bu.mk (bu.kind x6) (bu.bits x6) (bu.high x6) (bu.low x6) v1 (bu.more x6) (bu.sub x6) (bu.bytes x6) (bu.kids x6)) ((cq.mk ((2:Int)) v2 [])) (bA.b ((bA.mk x8 x9))) (bA.at_ ((bA.mk x8 x9))))
  (bt.j4 n v2 (bu.mk (bu.kind x6) (bu.bits x6) (bu.high x6) (bu.low x6) v1 (bu.more x6) (bu.sub x6) (bu.bytes x6) (bu.kids x6)) v3 (bA.b ((bA.mk x8 x9))) (bA.at_ ((bA.mk x8 x9)))))))))
  (cond (decide (x4=(11:Int)))
  (ck (decide (0≤x0∧x0≤x1∧x1≤((((bA.mk x8 x9)).b).length:Int)∧(((bA.mk x8 x9)).b).length≤1000000000)) (cond (decide ((cq.err v7)=(0:Int)))
  (ck (decide (0≤v6∧v6≤x1∧x1≤(((((bA.mk x8 x9))).b).length:Int)∧((((bA.mk x8 x9))).b).length≤1000000000)) (bt.j2 n v9 (bu.mk (bu.kind x6) (bu.bits x6) (bu.high x6) (bu.low x6) v5 v8 (bu.sub x6) (bu.bytes x6) (bu.kids x6)) v10 (bA.b (((bA.mk x8 x9)))) (bA.at_ (((bA.mk x8 x9))))))
  (bt.j2 n v6 (bu.mk (bu.kind x6) (bu.bits x6) (bu.high x6) (bu.low x6) v5 (bu.more x6) (bu.sub x6) (bu.bytes x6) (bu.kids x6)) v7 (bA.b ((bA.mk x8 x9))) (bA.at_ ((bA.mk x8 x9))))))
  (cond (decide (x4=(5:Int)))
  (ck (decide (0≤x0∧x0+5≤x1∧x1≤((((bA.mk x8 x9)).b).length:Int)∧(((bA.mk x8 x9)).b).length≤1000000000)) (bt.j2 n jY (bu.mk (bu.kind x6) (bu.bits x6) (bu.high x6) (bu.low x6) (bu.text x6) (bu.more x6) v11 v12 (bu.kids x6)) nR (bA.b ((bA.mk x8 x9))) (bA.at_ ((bA.mk x8 x9)))))
  (cond (decide (x4=(3:Int)))
  (bt.j5 n x0 x1 x2 x3 x4 (decide (x4=(3:Int))) x6 x7 x8 x9)
  (bt.j5 n x0 x1 x2 x3 x4 (decide (x4=(4:Int))) x6 x7 x8 x9)))))=ρ):bt.j3 n x0 x1 x2 x3 x4 x5 x6 x7 x8 x9=ρ:=((dv _ _ _ _ _ _ _).trans (by kernel_rfl)).trans (K _ rfl _ rfl _ rfl _ rfl _ rfl _ rfl _ rfl _ rfl _ rfl _ rfl _ rfl _ rfl _ rfl _ rfl)
theorem bt.s7 (n:Nat) (x0:Int) (x1:bu) (x2:cq) (x3:List UInt8) (x4:Int) {ρ:OT} (K:∀(v1:Int) (h1:v1=(IntKind.i64.wrap (x0+(12:Int)))) (v2:List UInt8) (h2:v2=(List.drop (x0).toNat (List.take (v1).toNat x3))),cond (decide ((cq.err x2)=(0:Int)))
  (ck (dV x0 v1 (x3).length) (ck (eO (v2).length 1) (bt.j2 n v1 (bu.mk (bu.kind x1) (bu.bits x1) (bu.high x1) (bu.low x1) (bu.text x1) (bu.more x1) (bu.sub x1) (v2) (bu.kids x1)) x2 x3 x4)))
  (bt.j2 n x0 x1 x2 x3 x4)=ρ):bt.j4 n x0 x1 x2 x3 x4=ρ:=((dv _ _ _ _ _ _ _).trans (by kernel_rfl)).trans (K _ rfl _ rfl)
theorem bt.Cv (n:Nat) (x0:Int) (x1:Int) (x2:Int) (x3:Int) (x4:Int) (x5:Bool) (x6:bu) (x7:cq) (x8:List UInt8) (x9:Int) {ρ:OT} (K:∀(v1:Int) (h1:v1=(IntKind.i64.wrap (x2+(1:Int)))) (v2:List bx) (h2:v2=((Bs.gh ([],0) (Bs.doc (((bA.mk x8 x9)).at_ - v1).toNat (((bA.mk x8 x9)).b) (x0).toNat (x1).toNat ((0:Int)))).1)) (v3:Int) (h3:v3=(((Bs.gh ([],0) (Bs.doc (((bA.mk x8 x9)).at_ - v1).toNat (((bA.mk x8 x9)).b) (x0).toNat (x1).toNat ((0:Int)))).2:Int))) (v4:cq) (h4:v4=((Bs.iI (Bs.doc (((bA.mk x8 x9)).at_ - v1).toNat (((bA.mk x8 x9)).b) (x0).toNat (x1).toNat ((0:Int)))))) (v5:Str) (h5:v5=((Bs.ew (Bs.doc (((bA.mk x8 x9)).at_ - (x2+1)).toNat) (((bA.mk x8 x9)).b) (x0).toNat (x1).toNat).1)) (v6:List bx) (h6:v6=((Bs.gh ([],0) (Bs.ew (Bs.doc (((bA.mk x8 x9)).at_ - (x2+1)).toNat) (((bA.mk x8 x9)).b) (x0).toNat (x1).toNat).2).1)) (v7:Int) (h7:v7=(((Bs.gh ([],0) (Bs.ew (Bs.doc (((bA.mk x8 x9)).at_ - (x2+1)).toNat) (((bA.mk x8 x9)).b) (x0).toNat (x1).toNat).2).2:Int))) (v8:cq) (h8:v8=((Bs.iI (Bs.ew (Bs.doc (((bA.mk x8 x9)).at_ - (x2+1)).toNat) (((bA.mk x8 x9)).b) (x0).toNat (x1).toNat).2))),cond x5
  (ck ((decide (0≤x0∧x0≤x1∧x1≤((((bA.mk x8 x9)).b).length:Int)∧(((bA.mk x8 x9)).b).length≤1000000000∧0≤v1∧v1≤1000∧((bA.mk x8 x9)).at_≤1000))&&decide ((3 * (((bA.mk x8 x9)).at_ - v1).toNat+2)<n)) (bt.j2 n v3 (bu.mk (bu.kind x6) (bu.bits x6) (bu.high x6) (bu.low x6) (bu.text x6) (bu.more x6) (bu.sub x6) (bu.bytes x6) v2) v4 (bA.b ((bA.mk x8 x9))) (bA.at_ ((bA.mk x8 x9)))))
  (cond (decide (x4=(15:Int)))
  (ck ((decide (0≤x0∧x0+4≤x1∧x1≤((((bA.mk x8 x9)).b).length:Int)∧(((bA.mk x8 x9)).b).length≤1000000000∧0≤x2∧x2≤1000∧((bA.mk x8 x9)).at_≤1000∧x2<((bA.mk x8 x9)).at_))&&decide ((3 * (((bA.mk x8 x9)).at_ - x2).toNat)<n)) (bt.j2 n v7 (bu.mk (bu.kind x6) (bu.bits x6) (bu.high x6) (bu.low x6) v5 (bu.more x6) (bu.sub x6) (bu.bytes x6) v6) v8 (bA.b ((bA.mk x8 x9))) (bA.at_ ((bA.mk x8 x9)))))
  (bt.j2 n x3 x6 x7 x8 x9))=ρ):bt.j5 n x0 x1 x2 x3 x4 x5 x6 x7 x8 x9=ρ:=((dv _ _ _ _ _ _ _).trans (by kernel_rfl)).trans (K _ rfl _ rfl _ rfl _ rfl _ rfl _ rfl _ rfl _ rfl)
theorem bt.cR (n:Nat) (r:bA) (k:Int) (q:Int) (z:Int) (d:Int) {ρ:OT} (K:∀(v1:Int) (h1:v1=(IntKind.i64.wrap (q+(((Bs.fixed k:Nat):Int))))) (v2:List UInt8) (h2:v2=(List.drop (q).toNat (List.take (v1).toNat (bA.b r)))),cond (decide ((IntKind.i64.wrap (z - q))<(((Bs.fixed k:Nat):Int))))
  (some [(.ag [(.i .i64 0),(.u64 0),(.u64 0),(.u64 0),(.s []),(.s []),(.i .i64 0),(.sl .bs ([]:List UInt8)),(.sl .fl ([]:List bx))]),(.i .i64 0),(.ag (cq.cells ((cq.mk ((2:Int)) q [])))),(.ag (bA.cells r))])
  (ck (dV q v1 ((bA.b r)).length) (ck (decide ((v2).length≤1099511627776)) (cond (decide (k=(1:Int)))
  (bt.j1 n k q z d v1 (((Bs.fixed k:Nat):Int)) k (decide (k=(1:Int))) (bu.mk k 0 0 0 [] [] 0 [] []) (cq.mk 0 0 []) (bA.b ((bA.mk v2 0))) (bA.at_ ((bA.mk v2 0))) (bA.b r) (bA.at_ r))
  (cond (decide (k=(9:Int)))
  (bt.j1 n k q z d v1 (((Bs.fixed k:Nat):Int)) k (decide (k=(9:Int))) (bu.mk k 0 0 0 [] [] 0 [] []) (cq.mk 0 0 []) (bA.b ((bA.mk v2 0))) (bA.at_ ((bA.mk v2 0))) (bA.b r) (bA.at_ r))
  (cond (decide (k=(17:Int)))
  (bt.j1 n k q z d v1 (((Bs.fixed k:Nat):Int)) k (decide (k=(17:Int))) (bu.mk k 0 0 0 [] [] 0 [] []) (cq.mk 0 0 []) (bA.b ((bA.mk v2 0))) (bA.at_ ((bA.mk v2 0))) (bA.b r) (bA.at_ r))
  (cond (decide (k=(18:Int)))
  (bt.j1 n k q z d v1 (((Bs.fixed k:Nat):Int)) k (decide (k=(18:Int))) (bu.mk k 0 0 0 [] [] 0 [] []) (cq.mk 0 0 []) (bA.b ((bA.mk v2 0))) (bA.at_ ((bA.mk v2 0))) (bA.b r) (bA.at_ r))
  (cond (decide (k=(16:Int)))
  (bt.j1 n k q z d v1 (((Bs.fixed k:Nat):Int)) k (decide (k=(16:Int))) (bu.mk k 0 0 0 [] [] 0 [] []) (cq.mk 0 0 []) (bA.b ((bA.mk v2 0))) (bA.at_ ((bA.mk v2 0))) (bA.b r) (bA.at_ r))
  (bt.j1 n k q z d v1 (((Bs.fixed k:Nat):Int)) k (decide (k=(8:Int))) (bu.mk k 0 0 0 [] [] 0 [] []) (cq.mk 0 0 []) (bA.b ((bA.mk v2 0))) (bA.at_ ((bA.mk v2 0))) (bA.b r) (bA.at_ r)))))))))=ρ):bt.F n r k q z d=ρ:=Eq.trans (by kernel_rfl) (K _ rfl _ rfl)
def bz.E (n:Nat):cz:=dH fJ zs [(44,(bW.c,bW.sg)),(45,(cd.c,cd.sg)),(46,(cH.c,cH.sg)),(47,(cG.c,cG.sg)),(48,(bt.cn n,bt.sg))]
def bz.h:Hint := .s .o (.sc [(0,[(0,.ptr 1000000 0),(10,.cM 800000),(11,.no),(12,.ptr 165 0),(13,.no),(165,.cl []),(1000000,.cl []),(800000,.pv)]),(1,[(0,.ptr 1000000 0),(3,.no),(10,.cM 800000),(11,.no),(12,.ptr 165 0),(13,.no),(17,.ptr 170 0),(165,.cl []),(170,.cl []),(1000000,.cl []),(800000,.pv)])] .o)
def bz.F (n:Nat) (r:bA) (p:Int) (z:Int) (d:Int) (fZ:Int):OT:=dD PG (bz.E n) 25 bz.sg bz.h [(.ag (bA.cells r)),(.i .i64 p),(.i .i64 z),(.i .i64 d),(.i .i64 fZ)]
def bz.g1 (n:Nat) (x0:Int) (x1:Int) (x2:cq) (x3:List UInt8) (x4:Int) (x5:List bx):OT:=jD PG (bz.E n) 25 bz.sg bz.h 3 0 [.pt,.pt,(.i .i64 x0),.pt,(.i .i64 x1),(.ag (cq.cells x2)),(.ag [(.sl .bs x3),(.i .i64 x4)]),(.sl .fl x5)]
def bz.g2 (n:Nat) (x0:Int) (x1:Int) (x2:Int) (x3:cq) (x4:bu) (x5:List UInt8) (x6:Int) (x7:List bx):OT:=jD PG (bz.E n) 25 bz.sg bz.h 3 1 [.pt,(.i .i64 x0),.pt,(.i .i64 x1),.pt,(.i .i64 x2),.pt,(.ag (cq.cells x3)),(.ag (bu.cells x4)),(.ag [(.sl .bs x5),(.i .i64 x6)]),(.sl .fl x7)]
theorem bz.De (n:Nat) (x0:Int) (x1:Int) (x2:cq) (x3:List UInt8) (x4:Int) (x5:List bx) {ρ:OT} (K:∀(v1:UInt8) (h1:v1=(List.getD x3 (x1).toNat (0:UInt8))),ck (dj x1 (x3).length) (cond (!decide (v1=(0:UInt8)))
  (some [(.sl .fl ([]:List bx)),(.i .i64 (0:Int)),(.ag (cq.cells ((cq.mk ((3:Int)) x1 [])))),(.ag [(.sl .bs x3),(.i .i64 x4)])])
  (some [(.sl .fl x5),(.i .i64 x0),(.ag [(.i .i64 (0:Int)),(.i .i64 (0:Int)),(.sl .is ([]:List Int))]),(.ag [(.sl .bs x3),(.i .i64 x4)])]))=ρ):bz.g1 n x0 x1 x2 x3 x4 x5=ρ:=((gS _ _ _ _ _ _ _ _).trans (by kernel_rfl)).trans (K _ rfl)
theorem bz.zN (n:Nat) (x0:Int) (x1:Int) (x2:Int) (x3:cq) (x4:bu) (x5:List UInt8) (x6:Int) (x7:List bx) {ρ:OT} (K:∀(v1:Int) (h1:v1=(IntKind.i64.wrap (x1 - (1:Int)))) (v2:UInt8) (h2:v2=(List.getD x5 (x2).toNat (0:UInt8))) (v3:Int) (h3:v3=(IntKind.i64.wrap ((v2).toNat:Int))) (v4:Int) (h4:v4=(IntKind.i64.wrap (x2+(1:Int)))) (v5:Str) (h5:v5=((Bs.ctext ((List.take (v1).toNat x5)) v4).1)) (v6:Int) (h6:v6=((Bs.ctext ((List.take (v1).toNat x5)) v4).2.1)) (v7:Int) (h7:v7=((Bs.ctext ((List.take (v1).toNat x5)) v4).2.2)) (v8:bu) (h8:v8=((Bs.gh (Bs.cS 0,0) (Bs.eM (Bs.doc (((bA.mk x5 x6)).at_ - (x0+1)).toNat) (((bA.mk x5 x6)).b) v3 (v6).toNat (v1).toNat)).1)) (v9:Int) (h9:v9=(((Bs.gh (Bs.cS 0,0) (Bs.eM (Bs.doc (((bA.mk x5 x6)).at_ - (x0+1)).toNat) (((bA.mk x5 x6)).b) v3 (v6).toNat (v1).toNat)).2:Int))) (v10:cq) (iU:v10=((Bs.iI (Bs.eM (Bs.doc (((bA.mk x5 x6)).at_ - (x0+1)).toNat) (((bA.mk x5 x6)).b) v3 (v6).toNat (v1).toNat)))) (v11:List bx) (tk:v11=([(bx.mk v5 (bu.kind v8) (bu.bits v8) (bu.high v8) (bu.low v8) (bu.text v8) (bu.more v8) (bu.sub v8) (bu.bytes v8) (bu.kids v8))]:List bx)),cond (decide (x2=v1))
  (bz.g1 n x1 x2 x3 x5 x6 x7)
  (ck (dj x2 (x5).length) (cond (decide (v2=(0:UInt8)))
  (some [(.sl .fl ([]:List bx)),(.i .i64 (0:Int)),(.ag (cq.cells ((cq.mk ((3:Int)) x2 [])))),(.ag [(.sl .bs x5),(.i .i64 x6)])])
  (ck (dj x2 (x5).length) (cond (decide ((Tree.name v3)=([]:Str)))
  (some [(.sl .fl ([]:List bx)),(.i .i64 (0:Int)),(.ag (cq.cells ((cq.mk ((5:Int)) x2 [])))),(.ag [(.sl .bs x5),(.i .i64 x6)])])
  (ck (dV 0 v1 (x5).length) (ck (decide ((((List.take (v1).toNat x5))).length≤1099511627776)) (cond (!decide (v7=(0:Int)))
  (some [(.sl .fl ([]:List bx)),(.i .i64 (0:Int)),(.ag (cq.cells ((cq.mk v7 v4 [])))),(.ag [(.sl .bs x5),(.i .i64 x6)])])
  (ck ((decide (0≤v6∧v6≤v1∧v1≤((((bA.mk x5 x6)).b).length:Int)∧(((bA.mk x5 x6)).b).length≤1000000000∧0≤x0∧x0≤1000∧((bA.mk x5 x6)).at_≤1000∧x0<((bA.mk x5 x6)).at_))&&decide ((3 * (((bA.mk x5 x6)).at_ - x0).toNat+1)<n)) (cond (!decide ((cq.err v10)=(0:Int)))
  (some [(.sl .fl ([]:List bx)),(.i .i64 (0:Int)),(.ag (cq.cells v10)),(.ag (bA.cells ((bA.mk x5 x6))))])
  (ck (eO ((x7).length+(v11).length) 136) (bz.g2 n x0 x1 v9 v10 v8 (bA.b ((bA.mk x5 x6))) (bA.at_ ((bA.mk x5 x6))) (x7++v11))))))))))))=ρ):bz.g2 n x0 x1 x2 x3 x4 x5 x6 x7=ρ:=((gS _ _ _ _ _ _ _ _).trans (by kernel_rfl)).trans (K _ rfl _ rfl _ rfl _ rfl _ rfl _ rfl _ rfl _ rfl _ rfl _ rfl _ rfl)
theorem bz.cR (n:Nat) (r:bA) (p:Int) (z:Int) (d:Int) (fZ:Int) {ρ:OT} (K:∀(v1:Int) (h1:v1=(IntKind.i64.wrap (p+((Bs.cU ((r).b) (p).toNat))))) (v2:Int) (h2:v2=(IntKind.i64.wrap (p+(4:Int)))) (v3:Bool) (h3:v3=(cond (decide (((Bs.cU ((r).b) (p).toNat))<(5:Int))) true (decide ((IntKind.i64.wrap (z - p))<((Bs.cU ((r).b) (p).toNat)))))) (v4:Bool) (h4:v4=((!v3)&&(decide (fZ=(2:Int))))) (v5:Bool) (h5:v5=(cond (decide (fZ=(2:Int))) (!decide (v1=z)) false)) (v6:Bool) (h6:v6=(cond (decide (fZ=(1:Int))) (decide (v1<z)) false)) (v7:Int) (h7:v7=(IntKind.i64.wrap (v1 - (1:Int)))) (v8:UInt8) (h8:v8=(List.getD (bA.b (r)) (v2).toNat (0:UInt8))) (v9:Int) (h9:v9=(IntKind.i64.wrap ((v8).toNat:Int))) (v10:List UInt8) (iU:v10=(List.take (v7).toNat (bA.b (r)))) (v11:Int) (tk:v11=(IntKind.i64.wrap (v2+(1:Int)))) (v12:cq) (vi:v12=((cq.mk (((Bs.ctext v10 v11).2.2)) v11 []))) (jY:bu) (tj:jY=((Bs.gh (Bs.cS 0,0) (Bs.eM (Bs.doc (((r)).at_ - (d+1)).toNat) (((r)).b) v9 ((((Bs.ctext v10 v11).2.1))).toNat (v7).toNat)).1)) (nR:Int) (zM:nR=(((Bs.gh (Bs.cS 0,0) (Bs.eM (Bs.doc (((r)).at_ - (d+1)).toNat) (((r)).b) v9 ((((Bs.ctext v10 v11).2.1))).toNat (v7).toNat)).2:Int))) (rB:cq) (AX:rB=((Bs.iI (Bs.eM (Bs.doc (((r)).at_ - (d+1)).toNat) (((r)).b) v9 ((((Bs.ctext v10 v11).2.1))).toNat (v7).toNat)))) (tM:List bx) (B4:tM=([(bx.mk ((Bs.ctext v10 v11).1) (bu.kind jY) (bu.bits jY) (bu.high jY) (bu.low jY) (bu.text jY) (bu.more jY) (bu.sub jY) (bu.bytes jY) (bu.kids jY))]:List bx)),cond (decide ((bA.at_ r)≤d))
  (some [(.sl .fl ([]:List bx)),(.i .i64 0),(.ag (cq.cells ((cq.mk ((8:Int)) p [])))),(.ag (bA.cells r))])
  (cond (decide ((IntKind.i64.wrap (z - p))<(4:Int)))
  (some [(.sl .fl ([]:List bx)),(.i .i64 0),(.ag (cq.cells ((cq.mk ((2:Int)) p [])))),(.ag (bA.cells r))])
  (ck (decide (0≤p∧p+4≤(((r).b).length:Int)∧((r).b).length≤1000000000)) (ck (!(!(decide (((Bs.cU ((r).b) (p).toNat))<(5:Int)))) || ((!(decide (((Bs.cU ((r).b) (p).toNat))<(5:Int))))&&(!(decide (((Bs.cU ((r).b) (p).toNat))<(5:Int)))))) (ck (!(!(decide (((Bs.cU ((r).b) (p).toNat))<(5:Int)))) || ((!(decide (((Bs.cU ((r).b) (p).toNat))<(5:Int))))&&(!(decide (((Bs.cU ((r).b) (p).toNat))<(5:Int)))))) (ck ((decide (((Bs.cU ((r).b) (p).toNat))<(5:Int))) || (!(decide (((Bs.cU ((r).b) (p).toNat))<(5:Int))))) (ck (!(!v3) || (!v3)) (ck (!(!v3) || (!v3)) (ck (!v4 || (v4&&v4)) (ck (!(!v3) || ((!v3)&&(!(decide (fZ=(2:Int))) || v4))) (ck (v3 || (!v3)) (cond (cond v3 true v5)
  (some [(.sl .fl ([]:List bx)),(.i .i64 0),(.ag (cq.cells ((cq.mk ((6:Int)) p [])))),(.ag (bA.cells (r)))])
  (ck (!(decide (fZ=(1:Int))) || ((decide (fZ=(1:Int)))&&(decide (fZ=(1:Int))))) (ck (!(decide (fZ=(1:Int))) || (decide (fZ=(1:Int)))) (cond v6
  (some [(.sl .fl ([]:List bx)),(.i .i64 0),(.ag (cq.cells ((cq.mk ((7:Int)) v1 [])))),(.ag (bA.cells (r)))])
  (cond (decide (v2=v7))
  (bz.g1 n v1 v2 (cq.mk 0 0 []) (bA.b (r)) (bA.at_ (r)) ([]:List bx))
  (ck (dj v2 ((bA.b (r))).length) (cond (decide (v8=(0:UInt8)))
  (some [(.sl .fl ([]:List bx)),(.i .i64 0),(.ag (cq.cells ((cq.mk ((3:Int)) v2 [])))),(.ag (bA.cells (r)))])
  (ck (dj v2 ((bA.b (r))).length) (cond (decide ((Tree.name v9)=([]:Str)))
  (some [(.sl .fl ([]:List bx)),(.i .i64 0),(.ag (cq.cells ((cq.mk ((5:Int)) v2 [])))),(.ag (bA.cells (r)))])
  (ck (dV 0 v7 ((bA.b (r))).length) (ck (decide ((v10).length≤1099511627776)) (cond (!decide (((Bs.ctext v10 v11).2.2)=(0:Int)))
  (some [(.sl .fl ([]:List bx)),(.i .i64 0),(.ag (cq.cells v12)),(.ag (bA.cells (r)))])
  (ck ((decide (0≤(((Bs.ctext v10 v11).2.1))∧(((Bs.ctext v10 v11).2.1))≤v7∧v7≤((((r)).b).length:Int)∧(((r)).b).length≤1000000000∧0≤d∧d≤1000∧((r)).at_≤1000∧d<((r)).at_))&&decide ((3 * (((r)).at_ - d).toNat+1)<n)) (cond (!decide ((cq.err rB)=(0:Int)))
  (some [(.sl .fl ([]:List bx)),(.i .i64 0),(.ag (cq.cells rB)),(.ag (bA.cells ((r))))])
  (ck (eO (tM).length 136) (bz.g2 n d v1 nR rB jY (bA.b ((r))) (bA.at_ ((r))) tM))))))))))))))))))))))))))=ρ):bz.F n r p z d fZ=ρ:=Eq.trans (by kernel_rfl) (K _ rfl _ rfl _ rfl _ rfl _ rfl _ rfl _ rfl _ rfl _ rfl _ rfl _ rfl _ rfl _ rfl _ rfl _ rfl _ rfl)
def db.E:cz:=dH fJ zs [(24,(dY.c,dY.sg)),(25,(bz.c,bz.sg))]
def db.h:Hint := .o
def db.F (b:List UInt8) (l:eK):OT:=dD PG db.E 8 db.sg db.h [(.sl .bs b),(.ag (eK.cells l))]
theorem db.cR (b:List UInt8) (l:eK) {ρ:OT} (K:∀(v1:List bx) (h1:v1=((Bs.gh ([],0) (Bs.doc (((bA.mk b (eK.depth l))).at_ - ((0:Int))).toNat (((bA.mk b (eK.depth l))).b) (((0:Int))).toNat ((((b).length:Int))).toNat ((1:Int)))).1)) (v2:Int) (h2:v2=(((Bs.gh ([],0) (Bs.doc (((bA.mk b (eK.depth l))).at_ - ((0:Int))).toNat (((bA.mk b (eK.depth l))).b) (((0:Int))).toNat ((((b).length:Int))).toNat ((1:Int)))).2:Int))) (v3:cq) (h3:v3=((Bs.iI (Bs.doc (((bA.mk b (eK.depth l))).at_ - ((0:Int))).toNat (((bA.mk b (eK.depth l))).b) (((0:Int))).toNat ((((b).length:Int))).toNat ((1:Int)))))),cond (!(Bs.may l))
  (some [(.ag [(.i .i64 0),(.u64 0),(.u64 0),(.u64 0),(.s []),(.s []),(.i .i64 0),(.sl .bs ([]:List UInt8)),(.sl .fl ([]:List bx))]),(.ag [(.i .i64 1),(.i .i64 0),(.sl .is ([]:List Int))])])
  (cond (decide ((eK.size l)<((b).length:Int)))
  (some [(.ag [(.i .i64 0),(.u64 0),(.u64 0),(.u64 0),(.s []),(.s []),(.i .i64 0),(.sl .bs ([]:List UInt8)),(.sl .fl ([]:List bx))]),(.ag [(.i .i64 9),(.i .i64 0),(.sl .is ([]:List Int))])])
  (ck (decide (0≤((0:Int))∧((0:Int))≤(((b).length:Int))∧(((b).length:Int))≤((((bA.mk b (eK.depth l))).b).length:Int)∧(((bA.mk b (eK.depth l))).b).length≤1000000000∧0≤((0:Int))∧((0:Int))≤1000∧((bA.mk b (eK.depth l))).at_≤1000)) (cond (!decide ((cq.err v3)=(0:Int)))
  (some [(.ag [(.i .i64 0),(.u64 0),(.u64 0),(.u64 0),(.s []),(.s []),(.i .i64 0),(.sl .bs ([]:List UInt8)),(.sl .fl ([]:List bx))]),(.ag (cq.cells v3))])
  (some [(.ag [(.i .i64 3),(.u64 0),(.u64 0),(.u64 0),(.s []),(.s []),(.i .i64 0),(.sl .bs ([]:List UInt8)),(.sl .fl v1)]),(.ag [(.i .i64 0),(.i .i64 0),(.sl .is ([]:List Int))])]))))=ρ):db.F b l=ρ:=Eq.trans (by kernel_rfl) (K _ rfl _ rfl _ rfl)
def cY.E:cz:=dH fJ zs []
def cY.h:Hint := .o
def cY.F (b:List UInt8) (at_:Int):OT:=dD PG cY.E 33 cY.sg cY.h [(.sl .bs b),(.i .i64 at_)]
theorem cY.cR (b:List UInt8) (at_:Int) {ρ:OT} (K:∀(v1:Int) (h1:v1=(IntKind.i64.wrap (((b).length:Int) - (4:Int)))) (v2:Bool) (h2:v2=(cond (decide (at_<(0:Int))) true (decide (v1<at_)))) (v3:UInt8) (h3:v3=(List.getD b (at_).toNat (0:UInt8))) (v4:UInt32) (h4:v4=(UInt32.ofInt ((v3).toNat:Int))) (v5:Int) (h5:v5=(IntKind.i64.wrap (at_+(1:Int)))) (v6:UInt8) (h6:v6=(List.getD b (v5).toNat (0:UInt8))) (v7:UInt32) (h7:v7=(UInt32.ofInt ((v6).toNat:Int))) (v8:UInt32) (h8:v8=(lL v7 (((8:UInt64)).toNat))) (v9:Int) (h9:v9=(IntKind.i64.wrap (at_+(2:Int)))) (v10:UInt8) (iU:v10=(List.getD b (v9).toNat (0:UInt8))) (v11:UInt32) (tk:v11=(UInt32.ofInt ((v10).toNat:Int))) (v12:UInt32) (vi:v12=(lL v11 (((16:UInt64)).toNat))) (jY:Int) (tj:jY=(IntKind.i64.wrap (at_+(3:Int)))) (nR:UInt8) (zM:nR=(List.getD b (jY).toNat (0:UInt8))) (rB:UInt32) (AX:rB=(UInt32.ofInt ((nR).toNat:Int))) (tM:UInt32) (B4:tM=(lL rB (((24:UInt64)).toNat))) (zm:UInt32) (Da:zm=(((v4 ||| v8) ||| v12) ||| tM)) (zl:Int) (C9:zl=(IntKind.i32.wrap ((zm).toNat:Int))),ck (!(!(decide (at_<(0:Int)))) || (!(decide (at_<(0:Int))))) (ck (!(!(decide (at_<(0:Int)))) || (!(decide (at_<(0:Int))))) (ck (!(!(decide (at_<(0:Int)))) || ((!(decide (at_<(0:Int))))&&(!(decide (at_<(0:Int)))))) (ck ((decide (at_<(0:Int))) || (!(decide (at_<(0:Int))))) (cond v2
  (some [(.i .i64 0),(.b false)])
  (ck (dj at_ (b).length) (ck (dj v5 (b).length) (ck (dj v9 (b).length) (ck (dj jY (b).length) (some [(.i .i64 (IntKind.i64.wrap zl)),(.b true)])))))))))=ρ):cY.F b at_=ρ:=Eq.trans (by kernel_rfl) (K _ rfl _ rfl _ rfl _ rfl _ rfl _ rfl _ rfl _ rfl _ rfl _ rfl _ rfl _ rfl _ rfl _ rfl _ rfl _ rfl _ rfl _ rfl)
def dZ.E:cz:=dH fJ zs [(24,(dY.c,dY.sg))]
def dZ.h:Hint := .o
def dZ.F (f:Int) (l:eK):OT:=dD PG dZ.E 40 dZ.sg dZ.h [(.i .i64 f),(.ag (eK.cells l))]
theorem dZ.cR (f:Int) (l:eK) {ρ:OT} (K:∀(v1:Bool) (h1:v1=(cond (decide ((1:Int)≤f)) (decide (f≤(5:Int))) false)),ck (!(decide ((1:Int)≤f)) || (decide ((1:Int)≤f))) (ck (!(decide ((1:Int)≤f)) || (decide ((1:Int)≤f))) (ck (!v1 || v1) (ck (!v1 || v1) (some [(.b (cond v1 (Bs.may l) false))]))))=ρ):dZ.F f l=ρ:=Eq.trans (by kernel_rfl) (K _ rfl)
def ei.E:cz:=dH fJ zs [(8,(db.c,db.sg)),(40,(dZ.c,dZ.sg))]
def ei.h:Hint := .o
def ei.F (f:Int) (l:eK) (b:List UInt8):OT:=dD PG ei.E 41 ei.sg ei.h [(.i .i64 f),(.ag (eK.cells l)),(.sl .bs b)]
theorem ei.cR (f:Int) (l:eK) (b:List UInt8) {ρ:OT} (K:∀(v1:Bool) (h1:v1=(decide (1≤f∧f≤5)&&Bs.may l)) (v2:Bool) (h2:v2=(cond (decide (f=(2:Int))) true (decide (f=(3:Int))))),cond (!v1)
  (some [(.ag [(.i .i64 0),(.u64 0),(.u64 0),(.u64 0),(.s []),(.s []),(.i .i64 0),(.sl .bs ([]:List UInt8)),(.sl .fl ([]:List bx))]),(.ag [(.i .i64 1),(.i .i64 0),(.sl .is ([]:List Int))])])
  (cond (decide (f=(1:Int)))
  (ck (decide ((b).length≤1000000000)) (some [(.ag (bu.cells ((Bs.nN (Bs.decode b l))))),(.ag (cq.cells ((Bs.iI (Bs.decode b l)))))]))
  (cond (decide ((eK.out l)<((b).length:Int)))
  (some [(.ag [(.i .i64 0),(.u64 0),(.u64 0),(.u64 0),(.s []),(.s []),(.i .i64 0),(.sl .bs ([]:List UInt8)),(.sl .fl ([]:List bx))]),(.ag [(.i .i64 9),(.i .i64 0),(.sl .is ([]:List Int))])])
  (ck (!(!(decide (f=(2:Int)))) || (!(decide (f=(2:Int))))) (ck ((decide (f=(2:Int))) || (!(decide (f=(2:Int))))) (cond v2
  (none)
  (none))))))=ρ):ei.F f l b=ρ:=Eq.trans (by kernel_rfl) (K _ rfl _ rfl)
def eh.E:cz:=dH fJ zs [(9,(cZ.c,cZ.sg))]
def eh.h:Hint := .o
def eh.F (f:Int) (v:bu):OT:=dD PG eh.E 64 eh.sg eh.h [(.i .i64 f),(.ag (bu.cells v))]
theorem eh.cR (f:Int) (v:bu) {ρ:OT} (K:∀(v1:cq) (h1:v1=((cq.mk (Bs.encode v).2.1 0 (Bs.encode v).2.2))),cond (decide (f=(1:Int)))
  (ck (decide (bx.dk (bx.of [] v)≤10000000000)) (some [(.sl .bs ((Bs.encode v).1)),(.ag (cq.cells v1))]))
  (cond (decide (f=(2:Int)))
  (none)
  (cond (decide (f=(3:Int)))
  (none)
  (cond (decide (f=(4:Int)))
  (none)
  (none))))=ρ):eh.F f v=ρ:=Eq.trans (by kernel_rfl) (K _ rfl)
def dE.E:cz:=dH fJ zs [(40,(dZ.c,dZ.sg)),(64,(eh.c,eh.sg))]
def dE.h:Hint := .o
def dE.F (f:Int) (l:eK) (v:bu):OT:=dD PG dE.E 42 dE.sg dE.h [(.i .i64 f),(.ag (eK.cells l)),(.ag (bu.cells v))]
theorem dE.cR (f:Int) (l:eK) (v:bu) {ρ:OT} (K:∀(v1:Bool) (h1:v1=(decide (1≤f∧f≤5)&&Bs.may l)) (v2:cq) (h2:v2=((cq.mk (Bs.encode v).2.1 0 (Bs.encode v).2.2))) (v3:Int) (h3:v3=((((Bs.encode v).1)).length:Int)),cond (!v1)
  (some [(.sl .bs ([]:List UInt8)),(.sl .mh ([]:List (List Int))),(.ag [(.i .i64 1),(.i .i64 0),(.sl .is ([]:List Int))])])
  (ck (decide (f=1∧bx.dk (bx.of [] v)≤10000000000)) (cond (!decide ((cq.err v2)=(0:Int)))
  (some [(.sl .bs ([]:List UInt8)),(.sl .mh ([]:List (List Int))),(.ag (cq.cells v2))])
  (cond (decide ((eK.out l)<v3))
  (some [(.sl .bs ([]:List UInt8)),(.sl .mh ([]:List (List Int))),(.ag [(.i .i64 9),(.i .i64 0),(.sl .is ([]:List Int))])])
  (cond (decide (f=(3:Int)))
  (none)
  (some [(.sl .bs ((Bs.encode v).1)),(.sl .mh ([]:List (List Int))),(.ag [(.i .i64 0),(.i .i64 0),(.sl .is ([]:List Int))])])))))=ρ):dE.F f l v=ρ:=Eq.trans (by kernel_rfl) (K _ rfl _ rfl _ rfl)
def bY.E:cz:=dH fJ zs [(40,(dZ.c,dZ.sg)),(41,(ei.c,ei.sg)),(42,(dE.c,dE.sg))]
def bY.h:Hint := .o
def bY.F (f:Int) (t:Int) (l:eK) (b:List UInt8):OT:=dD PG bY.E 22 bY.sg bY.h [(.i .i64 f),(.i .i64 t),(.ag (eK.cells l)),(.sl .bs b)]
theorem bY.cR (f:Int) (t:Int) (l:eK) (b:List UInt8) {ρ:OT} (K:∀(v1:Bool) (h1:v1=(decide (1≤f∧f≤5)&&Bs.may l)) (v2:Bool) (h2:v2=(decide (1≤t∧t≤5)&&Bs.may l)) (v3:Int) (h3:v3=(cq.err ((Bs.iI (Bs.decode b l))))) (v4:List UInt8) (h4:v4=((Gt.write l ((Bs.nN (Bs.decode b l)))).1)) (v5:cq) (h5:v5=((Gt.write l ((Bs.nN (Bs.decode b l)))).2)),ck (!(!(!v1)) || ((!(!v1))&&(!(!v1)))) (ck (!(!(!v1)) || (!(!v1))) (ck ((!v1) || (!(!v1))) (cond (cond (!v1) true (!v2))
  (some [(.sl .bs ([]:List UInt8)),(.sl .mh ([]:List (List Int))),(.ag [(.i .i64 1),(.i .i64 0),(.sl .is ([]:List Int))])])
  (ck (decide (f=1∧(b).length≤1000000000)) (cond (!decide (v3=(0:Int)))
  (some [(.sl .bs ([]:List UInt8)),(.sl .mh ([]:List (List Int))),(.ag (cq.cells ((Bs.iI (Bs.decode b l)))))])
  (ck (decide (t=1∧bx.dk (bx.of [] ((Bs.nN (Bs.decode b l))))≤10000000000)) (some [(.sl .bs v4),(.sl .mh (([]:List (List Int)))),(.ag (cq.cells v5))])))))))=ρ):bY.F f t l b=ρ:=Eq.trans (by kernel_rfl) (K _ rfl _ rfl _ rfl _ rfl _ rfl)
def eU.E:cz:=dH fJ zs [(24,(dY.c,dY.sg))]
def eU.h:Hint := .o
def eU.F (t:Int) (l:eK):OT:=dD PG eU.E 14 eU.sg eU.h [(.i .i64 t),(.ag (eK.cells l))]
theorem eU.cR (t:Int) (l:eK) {ρ:OT} (K:∀(v1:Bool) (h1:v1=(cond (decide (t<(1:Int))) true (decide ((5:Int)<t)))),ck (!(!(decide (t<(1:Int)))) || (!(decide (t<(1:Int))))) (ck ((decide (t<(1:Int))) || (!(decide (t<(1:Int))))) (ck (!(!v1) || (!v1)) (ck (!(!v1) || (!v1)) (ck (v1 || (!v1)) (cond (cond v1 true (!(Bs.may l)))
  (none)
  (some [(.ag [(.i .i64 t),(.i .i64 (eK.depth l)),(.i .i64 (eK.size l)),(.i .i64 (eK.out l)),(.i .i64 0),.pt,(.b false)]),(.i .i64 0),(.sl .bs ([]:List UInt8))]))))))=ρ):eU.F t l=ρ:=Eq.trans (by kernel_rfl) (K _ rfl)
def en.E:cz:=dH fJ zs []
def en.h:Hint := .o
def en.F (g:bS) (b:List UInt8):OT:=dD PG en.E 15 en.sg en.h [(.ag [(.i .i64 (bS.fk g)),(.i .i64 (bS.depth g)),(.i .i64 (bS.size g)),(.i .i64 (bS.out g)),(.i .i64 (bS.at_ g)),.pt,(.b (bS.bT g))]),(.sl .bs b)]
theorem en.fh (g:bS) (b:List UInt8):en.F g b=some [(.i .i64 ((b).length:Int)),(.ag [(.i .i64 (bS.fk g)),(.i .i64 (bS.depth g)),(.i .i64 (bS.size g)),(.i .i64 (bS.out g)),(.i .i64 (bS.at_ g)),.pt,(.b (bS.bT g))]),(.sl .bs b)]:=by kernel_rfl
def dI.E:cz:=dH fJ zs []
def dI.h:Hint := .o
def dI.F (g:bS) (e:Int):OT:=dD PG dI.E 34 dI.sg dI.h [(.ag [(.i .i64 (bS.fk g)),(.i .i64 (bS.depth g)),(.i .i64 (bS.size g)),(.i .i64 (bS.out g)),(.i .i64 (bS.at_ g)),.pt,(.b (bS.bT g))]),(.i .i64 e),.dead]
theorem dI.fh (g:bS) (e:Int):dI.F g e=some [(.ag [(.i .i64 (bS.at_ g)),(.sl .bs ([]:List UInt8)),(.sl .mh ([]:List (List Int))),(.i .i64 e),(.i .i64 (bS.at_ g)),(.sl .is ([]:List Int))]),(.ag [(.i .i64 (bS.fk g)),(.i .i64 (bS.depth g)),(.i .i64 (bS.size g)),(.i .i64 (bS.out g)),(.i .i64 (bS.at_ g)),.pt,(.b true)]),(.sl .bs ([]:List UInt8))]:=by kernel_rfl
def bI.E:cz:=dH fJ zs [(22,(bY.c,bY.sg)),(33,(cY.c,cY.sg)),(34,(dI.c,dI.sg)),(35,(bQ.c,bQ.sg))]
def bI.h:Hint := .s .o (.sc [(1,[(0,.ptr 1000000 0),(5,.cM 800000),(1000000,.cl []),(800000,.pv)]),(0,[(0,.ptr 1000000 0),(5,.cM 800000),(6,.ptr 136 0),(136,.cl []),(1000000,.cl []),(800000,.pv)])] (.s .o (.s .o (.s .o (.s .o (.s .o (.s .o (.s .o (.s .o (.s .o (.s .o (.s .o (.s .o (.s .o (.s .o (.j [(0,.ptr 1000000 0),(5,.cM 800000),(6,.ptr 136 0),(7,.no),(136,.cl []),(1000000,.cl []),(800000,.pv)] .o .o))))))))))))))))
def bI.F (g:bS) (x:List UInt8) (b:List UInt8):OT:=dD PG bI.E 16 bI.sg bI.h [(.ag [(.i .i64 (bS.fk g)),(.i .i64 (bS.depth g)),(.i .i64 (bS.size g)),(.i .i64 (bS.out g)),(.i .i64 (bS.at_ g)),.pt,(.b (bS.bT g))]),(.sl .bs x),(.sl .bs b)]
def bI.g1 (x0:Int) (x1:Int) (x2:Int) (x3:Int) (x4:Int) (x5:List UInt8) (x6:Bool) (x7:List Out):OT:=jD PG bI.E 16 bI.sg bI.h 3 1 [.pt,.pt,(.ag [(.i .i64 x0),(.i .i64 x1),(.i .i64 x2),(.i .i64 x3),(.i .i64 x4),(.sl .bs x5),(.b x6)]),(.sl .ou x7)]
def bI.j2 (x0:Int) (x1:Out) (x2:Int) (x3:Int) (x4:Int) (x5:Int) (x6:Int) (x7:List UInt8) (x8:Bool) (x9:List Out):OT:=fp PG bI.E 16 bI.sg bI.h 131069 [.pt,.pt,.pt,(.i .i64 x0),(.ag (Out.cells x1)),(.ag [(.i .i64 x2),(.i .i64 x3),(.i .i64 x4),(.i .i64 x5),(.i .i64 x6),(.sl .bs x7),(.b x8)]),(.sl .ou x9)]
def bI.g3 (x0:Out) (x1:Int) (x2:Int) (x3:Int) (x4:Int) (x5:Int) (x6:List UInt8) (x7:Bool) (x8:List Out):OT:=jD PG bI.E 16 bI.sg bI.h 3 0 [.pt,.pt,.pt,(.ag (Out.cells x0)),(.ag [(.i .i64 x1),(.i .i64 x2),(.i .i64 x3),(.i .i64 x4),(.i .i64 x5),(.sl .bs x6),(.b x7)]),(.sl .ou x8)]
theorem bI.lP (x0:Int) (x1:Int) (x2:Int) (x3:Int) (x4:Int) (x5:List UInt8) (x6:Bool) (x7:List Out):bI.g1 x0 x1 x2 x3 x4 x5 x6 x7=ck (eO (x5).length 1) (some [(.sl .ou x7),(.ag [(.i .i64 x0),(.i .i64 x1),(.i .i64 x2),(.i .i64 x3),(.i .i64 x4),.pt,(.b x6)]),(.sl .bs (x5))]):=((gS _ _ _ _ _ _ _ _).trans (by kernel_rfl))
theorem bI.jE (x0:Int) (x1:Out) (x2:Int) (x3:Int) (x4:Int) (x5:Int) (x6:Int) (x7:List UInt8) (x8:Bool) (x9:List Out):bI.j2 x0 x1 x2 x3 x4 x5 x6 x7 x8 x9=ck (eO ((x9).length+(([x1]:List Out)).length) 96) (ck (dV x0 (x7).length (x7).length) (bI.g3 x1 x2 x3 x4 x5 (IntKind.i64.wrap (x6+x0)) (List.drop (x0).toNat x7) x8 (x9++([x1]:List Out)))):=((dv _ _ _ _ _ _ _).trans (by kernel_rfl))
theorem bI.ot (x0:Out) (x1:Int) (x2:Int) (x3:Int) (x4:Int) (x5:Int) (x6:List UInt8) (x7:Bool) (x8:List Out) {ρ:OT} (K:∀(v1:Int) (h1:v1=((Gt.iP x6 ((0:Int))).1)) (v2:Bool) (h2:v2=((Gt.iP x6 ((0:Int))).2)) (v3:Int) (h3:v3=(bS.fk ((Gt.dT (bS.mk x1 x2 x3 x4 x5 x7))))) (v4:Int) (h4:v4=(bS.depth ((Gt.dT (bS.mk x1 x2 x3 x4 x5 x7))))) (v5:Int) (h5:v5=(bS.size ((Gt.dT (bS.mk x1 x2 x3 x4 x5 x7))))) (v6:Int) (h6:v6=(bS.out ((Gt.dT (bS.mk x1 x2 x3 x4 x5 x7))))) (v7:Int) (h7:v7=(bS.at_ ((Gt.dT (bS.mk x1 x2 x3 x4 x5 x7))))) (v8:Bool) (h8:v8=(bS.bT ((Gt.dT (bS.mk x1 x2 x3 x4 x5 x7))))) (v9:Out) (h9:v9=((Gt.j0 ((6:Int)) (bS.at_ (bS.mk x1 x2 x3 x4 x5 x7))))) (v10:Out) (iU:v10=((Gt.j0 ((9:Int)) (bS.at_ (bS.mk x1 x2 x3 x4 x5 x7))))) (v11:List UInt8) (tk:v11=((Gt.trans (eK.mk x2 x3 x4) ((List.take (v1).toNat x6))).1)) (v12:cq) (vi:v12=((Gt.trans (eK.mk x2 x3 x4) ((List.take (v1).toNat x6))).2)) (jY:Int) (tj:jY=(IntKind.i64.wrap ((cq.at_ v12)+x5))),ck (decide ((x6).length≤1000000000)) (cond (!v2)
  (bI.g1 x1 x2 x3 x4 x5 x6 x7 x8)
  (cond (decide (v1<(5:Int)))
  (ck (eO ((x8).length+(([v9]:List Out)).length) 96) (some [(.sl .ou (x8++([v9]:List Out))),(.ag [(.i .i64 v3),(.i .i64 v4),(.i .i64 v5),(.i .i64 v6),(.i .i64 v7),.pt,(.b v8)]),(.sl .bs (([]:List UInt8)))]))
  (cond (decide (x3<v1))
  (ck (eO ((x8).length+(([v10]:List Out)).length) 96) (some [(.sl .ou (x8++([v10]:List Out))),(.ag [(.i .i64 v3),(.i .i64 v4),(.i .i64 v5),(.i .i64 v6),(.i .i64 v7),.pt,(.b v8)]),(.sl .bs (([]:List UInt8)))]))
  (cond (decide (((x6).length:Int)<v1))
  (bI.g1 x1 x2 x3 x4 x5 x6 x7 x8)
  (ck (dV 0 v1 (x6).length) (ck (decide (((1:Int))=1∧x1=1∧(((List.take (v1).toNat x6))).length≤1000000000)) (cond (!decide ((cq.err v12)=(0:Int)))
  (bI.j2 v1 (Out.mk x5 v11 (([]:List (List Int))) (cq.err v12) jY (cq.path v12)) x1 x2 x3 x4 x5 x6 x7 x8)
  (bI.j2 v1 (Out.mk x5 v11 (([]:List (List Int))) (cq.err v12) (cq.at_ v12) (cq.path v12)) x1 x2 x3 x4 x5 x6 x7 x8))))))))=ρ):bI.g3 x0 x1 x2 x3 x4 x5 x6 x7 x8=ρ:=((gS _ _ _ _ _ _ _ _).trans (by kernel_rfl)).trans (K _ rfl _ rfl _ rfl _ rfl _ rfl _ rfl _ rfl _ rfl _ rfl _ rfl _ rfl _ rfl _ rfl)
theorem bI.cR (g:bS) (x:List UInt8) (b:List UInt8) {ρ:OT} (K:∀(v1:Int) (h1:v1=((Gt.iP ((b++x)) ((0:Int))).1)) (v2:Bool) (h2:v2=((Gt.iP ((b++x)) ((0:Int))).2)) (v3:Out) (h3:v3=((Gt.j0 ((6:Int)) (bS.at_ g)))) (v4:Out) (h4:v4=((Gt.j0 ((9:Int)) (bS.at_ g)))) (v5:List UInt8) (h5:v5=(List.take (v1).toNat (b++x))) (v6:List UInt8) (h6:v6=((Gt.trans (eK.mk (bS.depth g) (bS.size g) (bS.out g)) v5).1)) (v7:cq) (h7:v7=((Gt.trans (eK.mk (bS.depth g) (bS.size g) (bS.out g)) v5).2)) (v8:Int) (h8:v8=(IntKind.i64.wrap ((cq.at_ v7)+(bS.at_ g)))),cond (bS.bT g)
  (some [(.sl .ou ([]:List Out)),(.ag [(.i .i64 (bS.fk g)),(.i .i64 (bS.depth g)),(.i .i64 (bS.size g)),(.i .i64 (bS.out g)),(.i .i64 (bS.at_ g)),.pt,(.b (bS.bT g))]),(.sl .bs b)])
  (ck (eO ((b).length+(x).length) 1) (ck (decide ((((b++x))).length≤1000000000)) (cond (!v2)
  (bI.g1 (bS.fk g) (bS.depth g) (bS.size g) (bS.out g) (bS.at_ g) (b++x) (bS.bT g) ([]:List Out))
  (cond (decide (v1<(5:Int)))
  (ck (eO (([v3]:List Out)).length 96) (some [(.sl .ou ([v3]:List Out)),(.ag [(.i .i64 (bS.fk ((Gt.dT g)))),(.i .i64 (bS.depth ((Gt.dT g)))),(.i .i64 (bS.size ((Gt.dT g)))),(.i .i64 (bS.out ((Gt.dT g)))),(.i .i64 (bS.at_ ((Gt.dT g)))),.pt,(.b (bS.bT ((Gt.dT g))))]),(.sl .bs (([]:List UInt8)))]))
  (cond (decide ((bS.size g)<v1))
  (ck (eO (([v4]:List Out)).length 96) (some [(.sl .ou ([v4]:List Out)),(.ag [(.i .i64 (bS.fk ((Gt.dT g)))),(.i .i64 (bS.depth ((Gt.dT g)))),(.i .i64 (bS.size ((Gt.dT g)))),(.i .i64 (bS.out ((Gt.dT g)))),(.i .i64 (bS.at_ ((Gt.dT g)))),.pt,(.b (bS.bT ((Gt.dT g))))]),(.sl .bs (([]:List UInt8)))]))
  (cond (decide ((((b++x)).length:Int)<v1))
  (bI.g1 (bS.fk g) (bS.depth g) (bS.size g) (bS.out g) (bS.at_ g) (b++x) (bS.bT g) ([]:List Out))
  (ck (dV 0 v1 ((b++x)).length) (ck (decide (((1:Int))=1∧((bS.fk g))=1∧(v5).length≤1000000000)) (cond (!decide ((cq.err v7)=(0:Int)))
  (bI.j2 v1 (Out.mk (bS.at_ g) v6 (([]:List (List Int))) (cq.err v7) v8 (cq.path v7)) (bS.fk g) (bS.depth g) (bS.size g) (bS.out g) (bS.at_ g) (b++x) (bS.bT g) ([]:List Out))
  (bI.j2 v1 (Out.mk (bS.at_ g) v6 (([]:List (List Int))) (cq.err v7) (cq.at_ v7) (cq.path v7)) (bS.fk g) (bS.depth g) (bS.size g) (bS.out g) (bS.at_ g) (b++x) (bS.bT g) ([]:List Out)))))))))))=ρ):bI.F g x b=ρ:=Eq.trans (by kernel_rfl) (K _ rfl _ rfl _ rfl _ rfl _ rfl _ rfl _ rfl _ rfl)
def eV.E:cz:=dH fJ zs [(34,(dI.c,dI.sg))]
def eV.h:Hint := .o
def eV.F (g:bS) (b:List UInt8):OT:=dD PG eV.E 17 eV.sg eV.h [(.ag [(.i .i64 (bS.fk g)),(.i .i64 (bS.depth g)),(.i .i64 (bS.size g)),(.i .i64 (bS.out g)),(.i .i64 (bS.at_ g)),.pt,(.b (bS.bT g))]),(.sl .bs b)]
theorem eV.cR (g:bS) (b:List UInt8) {ρ:OT} (K:∀(v1:Bool) (h1:v1=(cond (bS.bT g) true (decide (((b).length:Int)=(0:Int))))) (v2:Out) (h2:v2=((Gt.j0 ((2:Int)) (bS.at_ g)))),ck (!(!(bS.bT g)) || (!(bS.bT g))) (ck (!(!(bS.bT g)) || (!(bS.bT g))) (ck (!(!(bS.bT g)) || (!(bS.bT g))) (ck (!(!(bS.bT g)) || (!(bS.bT g))) (ck (!(!(bS.bT g)) || (!(bS.bT g))) (ck ((bS.bT g) || (!(bS.bT g))) (cond v1
  (some [(.sl .ou ([]:List Out)),(.ag [(.i .i64 (bS.fk g)),(.i .i64 (bS.depth g)),(.i .i64 (bS.size g)),(.i .i64 (bS.out g)),(.i .i64 (bS.at_ g)),.pt,(.b true)]),(.sl .bs b)])
  (some [(.sl .ou ([v2]:List Out)),(.ag [(.i .i64 (bS.fk ((Gt.dT g)))),(.i .i64 (bS.depth ((Gt.dT g)))),(.i .i64 (bS.size ((Gt.dT g)))),(.i .i64 (bS.out ((Gt.dT g)))),(.i .i64 (bS.at_ ((Gt.dT g)))),.pt,(.b (bS.bT ((Gt.dT g))))]),(.sl .bs (([]:List UInt8)))])))))))=ρ):eV.F g b=ρ:=Eq.trans (by kernel_rfl) (K _ rfl _ rfl)
end
end Go.Eng
set_option maxRecDepth 20000
namespace Go.Eng
open Go.IntWalk
theorem eR.goal (r:Int):eR.F r=some [.b (dp.jg r)]:=by
 refine eR.cR r ?_
 intro v1 h1 v2 h2 v3 h3
 subst h1 h2 h3
 by_cases a:0≤r <;> by_cases b:r≤1114111 <;> by_cases c:r<55296 <;> simp [ck,a,b,c,dp.jg]
theorem BC:∀n,n<256→((n &&& 192=128) ↔ (128≤n∧n<192)):=by decide +kernel
theorem Dq:∀n,n<256→(128≤n∧n<192)→n &&& 63=n - 128:=by decide +kernel
theorem Dr:∀n,n<256→(192≤n∧n<224)→n &&& 31=n - 192:=by decide +kernel
theorem Ds:∀n,n<256→(224≤n∧n<240)→n &&& 15=n - 224:=by decide +kernel
theorem Fs:∀n,n<256→(240≤n∧n<248)→n &&& 7=n - 240:=by decide +kernel
theorem z7 (c:UInt8):c.toNat<256:=by have:=c.toNat_lt;simpa using this
theorem uW (c:UInt8):decide ((c &&& (192:UInt8))=(128:UInt8))=decide (128≤c.toNat∧c.toNat<192):=by
 have h:=BC c.toNat (z7 c)
 rw [aN]
 simp only [aF]
 rw [←h,←UInt8.toNat_inj,UInt8.toNat_and]
 exact Iff.rfl
theorem Et (c:UInt8) (h:128≤c.toNat∧c.toNat<192):((c &&& (63:UInt8)).toNat:Int)=((c.toNat - 128:Nat):Int):=by
 rw [UInt8.toNat_and]
 exact congrArg _ (Dq c.toNat (z7 c) h)
def uq (r:Option Nat) (more least:Nat):OT:=match r with
 | some r=>if r<least∨dp.jg r=false then some [.i .i64 0,.i .i64 0] else some [.i .i64 r,.i .i64 (more+1:Int)]
 | none=>some [.i .i64 0,.i .i64 0]
theorem yo (c:Nat) (more least:Nat) (l:Str):uq (dp.cont c more l) more least=some [.i .i64 (dp.jz c more least l).1,.i .i64 (dp.jz c more least l).2]:=by
 unfold uq dp.jz
 cases dp.cont c more l with
 | none=>rfl
 | some r=>simp only;split <;> rfl
theorem bB.end_ (r:Nat) (more least:Nat) (hm:more<8) :
  (ck (!(!(decide ((r:Int)<(least:Int)))) || (!(decide ((r:Int)<(least:Int))))) (ck (!(!(decide ((r:Int)<(least:Int)))) || (!(decide ((r:Int)<(least:Int))))) (ck ((decide ((r:Int)<(least:Int))) || (!(decide ((r:Int)<(least:Int))))) (cond (cond (decide ((r:Int)<(least:Int))) true (!(dp.jg r)))
  (bB.g1)
  (some [(.i .i64 (r:Int)),(.i .i64 (IntKind.i64.wrap ((more:Int)+(1:Int))))])))))=uq (some r) more least:=by
 simp only [aU,ba,eQ]
 rw [i64_in _ (by omega),bB.lP]
 unfold uq
 by_cases h:r<least
 ·simp [h]
 ·simp only [show ¬((r:Int)<(least:Int)) by omega,decide_false,af,h,false_or]
  cases dp.jg r <;> simp
theorem bB.tp (b:Str) (at_:Nat) (more least:Nat) (hm:more<8) (hb:b.length≤1099511627776) (eL:at_+more<b.length):∀(k i r:Nat),i+k=more+1→r<2 ^ (10+6 * i) →
  bB.g3 b at_ r more least i=uq (dp.cont r k (b.drop (at_+i))) more least:=by
 intro k
 induction k with
 | zero =>
  intro i r hi hr
  refine bB.ot _ _ _ _ _ _ ?_
  intro v1 h1 v2 h2 v3 h3 v4 h4 v5 h5 v6 h6 v7 h7
  rw [show decide ((i:Int)≤(more:Int))=false by simp;omega,af]
  subst h6 h7
  rw [dp.cont]
  exact bB.end_ r more least hm
 | succ k ih =>
  intro i r hi hr
  refine bB.ot _ _ _ _ _ _ ?_
  intro v1 h1 v2 h2 v3 h3 v4 h4 v5 h5 v6 h6 v7 h7
  have hw:IntKind.i64.wrap ((at_:Int)+(i:Int))=((at_+i:Nat):Int):=by rw [i64_in _ (by omega)];omega
  have E4:=drop_cons (l:=b) (i:=at_+i) (by omega) 0
  rw [show decide ((i:Int)≤(more:Int))=true by simp;omega,ao,hw]
  rw [hw,ar] at h1
  rw [bw (eT (by omega) (by omega)),E4,←h1,dp.cont,h2,uW]
  by_cases hc:128≤v1.toNat∧v1.toNat<192
  ·rw [aq hc,aa hc]
   simp only [aK,af]
   rw [bw (eT (by omega) (by omega))]
   have hp:2 ^ (10+6 * i) * 64=2 ^ (10+6 * (i+1)):=by rw [show 10+6 * (i+1)=(10+6 * i)+6 by omega,Nat.pow_add 2 (10+6 * i) 6]
   have DT:2 ^ (10+6 * (i+1))≤2 ^ 58:=Nat.pow_le_pow_right (by omega) (by omega)
   have Hp:r * 64+64≤2 ^ (10+6 * (i+1)):=by
    rw [←hp];have:=aR 64 (Nat.succ_le_of_lt hr);omega
   have e3:v3=((r * 64:Nat):Int):=by
    rw [h3]
    have:(min (((6:UInt64)).toNat) (IntKind.i64.bits))=6:=by decide
    rw [this,i64_in _ (by simp at DT;omega)];simp
   have e4:v4=((v1.toNat - 128:Nat):Int):=by
    rw [h4,Et v1 hc];exact i64_in _ (by omega)
   have e5:v5=((i+1:Nat):Int):=by rw [h5,i64_in _ (by omega)];omega
   have e6:cf .or .i64 v3 v4=((r * 64+(v1.toNat - 128):Nat):Int):=by
    rw [e3,e4,An _ _ (by simp at DT;omega) (by omega)]
    have:=lk (a:=r) (b:=v1.toNat - 128) (k:=6) (by simp;omega)
    simp at this
    rw [this]
   rw [e6,e5,ih (i+1) _ (by omega) (by omega),Nat.add_assoc]
  ·rw [al hc,ab hc]
   simp only [aQ,ao]
   rw [bB.lP];rfl
theorem bB.Cy (b : Str) (at_ : Nat) (r more least : Nat) (hm : 1 ≤ more ∧ more < 8) (hb : b.length ≤ 1099511627776) (eL : at_ < b.length) (hr : r < 1024) :
    bB.j2 b at_ r more least = uq (dp.cont r more (b.drop (at_ + 1))) more least := by
  have zJ : ∀ (k r : Nat) (l : Str), l.length < k → dp.cont r k l = none := by
    intro k
    induction k with
    | zero => intro r l h; omega
    | succ k ih =>
      intro r l h
      cases l with
      | nil => rfl
      | cons c l => rw [dp.cont]; split
                    · exact ih _ _ (by simp at h; omega)
                    · rfl
  have key := fun (h : at_ + more < b.length) => bB.tp b at_ more least hm.2 hb h more 1 r (by omega) (by simp; omega)
  by_cases hx : at_ + more < b.length
  · rw [← key hx]
    refine bB.lO _ _ _ _ _ ?_
    intro v1 h1 v2 h2 v3 h3 v4 h4 v5 h5 v6 h6 v7 h7 v8 h8 v9 h9 v10 iU
    symm
    refine bB.ot _ _ _ _ _ _ ?_
    intro w1 k1 w2 k2 w3 k3 w4 k4 w5 k5 w6 k6 w7 k7
    have e1 : v1 = (b.length : Int) - at_ := by rw [h1]; exact i64_in _ (by omega)
    have e2 : v2 = (b.length : Int) - at_ - 1 := by rw [h2, e1]; exact i64_in _ (by omega)
    rw [show decide (v2 < (more : Int)) = false by simp; omega, af]
    have a1 : ((1 : Nat) : Int) = 1 := rfl
    simp only [a1] at k1 k2 k3 k4 k5 k6 k7 ⊢
    subst h3; subst h4; subst h5; subst h6; subst h7; subst h8; subst h9; subst iU; subst k1; subst k2; subst k3; subst k4; subst k5; subst k6; subst k7
    rfl
  · refine bB.lO _ _ _ _ _ ?_
    intro v1 h1 v2 h2 v3 h3 v4 h4 v5 h5 v6 h6 v7 h7 v8 h8 v9 h9 v10 iU
    have e1 : v1 = (b.length : Int) - at_ := by rw [h1]; exact i64_in _ (by omega)
    have e2 : v2 = (b.length : Int) - at_ - 1 := by rw [h2, e1]; exact i64_in _ (by omega)
    rw [show decide (v2 < (more : Int)) = true by simp; omega, ao, bB.lP, zJ _ _ _ (by simp; omega)]
    rfl
theorem Ek (lo hi n:Nat):(cond (decide ((lo:Int)≤(n:Int))) (decide ((n:Int)<(hi:Int))) false)=decide (lo≤n∧n<hi):=by
 by_cases a:lo≤n
 ·rw [show decide ((lo:Int)≤(n:Int))=true by simp;omega,ao,aN];simp;omega
 ·rw [show decide ((lo:Int)≤(n:Int))=false by simp;omega,af,ab (by omega)]
theorem bB.goal (b:Str) (at_:Int) (hp:decide (b.length≤1099511627776)=true):bB.F b at_=some [.i .i64 (dp.iY b at_).1,.i .i64 (dp.iY b at_).2]:=by
 have hb:b.length≤1099511627776:=au hp
 refine bB.cR b at_ ?_
 intro v1 h1 v2 h2 v3 h3 v4 h4 v5 h5 v6 h6 v7 h7 v8 h8 v9 h9
 unfold dp.iY
 by_cases h0:at_<0
 ·subst h1
  simp [h0,ck,bB.lP]
 ·have hd0:decide (at_<0)=false:=ab h0
  obtain ⟨i,rfl⟩:=Int.eq_ofNat_of_zero_le (show 0≤at_ by omega)
  rw [hd0] at h1 ⊢
  subst h1
  simp only [aQ,aK,Bool.false_or,Bool.or_true,eQ,af,ar] at h2 ⊢
  by_cases hl:b.length≤i
  ·rw [show decide ((b.length:Int)≤(i:Int))=true by simp;omega,aq (.inr (by omega)),ao,bB.lP];rfl
  ·rw [show decide ((b.length:Int)≤(i:Int))=false by simp;omega,al (by omega),af,bw (eT (by omega) (by omega)),drop_cons (l:=b) (i:=i) (by omega) 0,←h2,dp.rune]
   have hc:=z7 v2
   have e3:v3=(v2.toNat:Int):=by rw [h3];exact i64_in _ (by omega)
   have an:∀(m:Nat),m<256→cf .and .i64 v3 m=((v2.toNat &&& m:Nat):Int):=fun m h=>by rw [e3,zd _ _ (by omega) (by omega)]
   have Ij:v5=((v2.toNat &&& 31:Nat):Int):=h5.trans (an 31 (by omega))
   have Ii:v7=((v2.toNat &&& 15:Nat):Int):=h7.trans (an 15 (by omega))
   have Ih:v9=((v2.toNat &&& 7:Nat):Int):=h9.trans (an 7 (by omega))
   have e4:v4=decide (192≤v2.toNat∧v2.toNat<224):=by rw [h4,e3];exact Ek 192 224 _
   have e6:v6=decide (224≤v2.toNat∧v2.toNat<240):=by rw [h6,e3];exact Ek 224 240 _
   have e8:v8=decide (240≤v2.toNat∧v2.toNat<248):=by rw [h8,e3];exact Ek 240 248 _
   have J:∀(r more least:Nat),1≤more∧more<8→r<1024→bB.j2 b i r more least=some [.i .i64 (dp.jz r more least (b.drop (i+1))).1,.i .i64 (dp.jz r more least (b.drop (i+1))).2]:=fun r more least h1 h2 =>
    (bB.Cy b i r more least h1 hb (by omega) h2).trans (yo _ _ _ _)
   simp only [aU,eQ]
   by_cases c1:v2.toNat<128
   ·rw [aq c1,e3,show decide ((v2.toNat:Int)<128)=true by simp;omega,ao];rfl
   ·rw [al c1,show decide (v3<(128:Int))=false by rw [e3];simp;omega,af,e4]
    by_cases c2:192≤v2.toNat∧v2.toNat<224
    ·rw [aq c2,aa c2,ao,Ij,Dr _ hc c2];exact J _ 1 128 (by omega) (by omega)
    ·rw [al c2,ab c2,af,e6]
     by_cases c3:224≤v2.toNat∧v2.toNat<240
     ·rw [aq c3,aa c3,ao,Ii,Ds _ hc c3];exact J _ 2 2048 (by omega) (by omega)
     ·rw [al c3,ab c3,af,e8]
      by_cases c4:240≤v2.toNat∧v2.toNat<248
      ·rw [aq c4,aa c4,ao,Ih,Fs _ hc c4];exact J _ 3 65536 (by omega) (by omega)
      ·rw [al c4,ab c4,af,bB.lP];rfl
theorem dp.lf (l:Str):0≤(dp.rune l).2∧(dp.rune l).2≤l.length:=by
 have vh:∀(k r q:Nat) (l:Str),dp.cont r k l=some q→k≤l.length:=by
  intro k
  induction k with
  | zero=>intro r q l _;omega
  | succ k ih =>
   intro r q l h
   cases l with
   | nil=>cases h
   | cons c l =>
    rw [dp.cont] at h
    split at h
    ·have:=ih _ _ _ h;simp;omega
    ·cases h
 have ES:∀(r more least:Nat) (l:Str),0≤(dp.jz r more least l).2∧(dp.jz r more least l).2≤l.length+1:=by
  intro r more least l
  unfold dp.jz
  cases h:dp.cont r more l with
  | none=>simp;omega
  | some q =>
   have:=vh _ _ _ _ h
   simp only
   split <;> simp <;> omega
 cases l with
 | nil=>exact ⟨by decide,by decide⟩
 | cons c l =>
  unfold dp.rune
  simp only [aJ]
  split
  ·simp;omega
  ·split
   ·have:=ES (c.toNat - 192) 1 128 l;omega
   ·split
    ·have:=ES (c.toNat - 224) 2 2048 l;omega
    ·split
     ·have:=ES (c.toNat - 240) 3 65536 l;omega
     ·simp;omega
theorem dp.wa (l:Str):∀n,l.length≤n→dp.kK n l=dp.kK l.length l:=by
 have key:∀(m:Nat) (l:Str),l.length≤m→∀n,l.length≤n→dp.kK n l=dp.kK l.length l:=by
  intro m
  induction m with
  | zero =>
   intro l hl n hn
   have:l=[]:=List.length_eq_zero_iff.1 (by omega)
   subst this
   cases n with
   | zero=>rfl
   | succ n=>rfl
  | succ m ih =>
   intro l hl n hn
   cases h:l.length with
   | zero =>
    have:l=[]:=List.length_eq_zero_iff.1 h
    subst this
    cases n <;> rfl
   | succ k =>
    cases n with
    | zero=>omega
    | succ n =>
     unfold dp.kK
     have hs:=dp.lf l
     by_cases h0:(dp.rune l).2=0
     ·rw [aq h0,aq h0]
     ·rw [al h0,al h0]
      have hd:(l.drop (dp.rune l).2.toNat).length≤k:=by simp;omega
      rw [ih _ (by simp;omega) n (by simp;omega),ih _ (by simp;omega) k hd]
 exact fun n hn=>key _ l (Nat.le_refl _) n hn
theorem dp.uv (l:Str) (h:(dp.rune l).2≠0):dp.look l=((dp.look (l.drop (dp.rune l).2.toNat)).1+(dp.rune l).2.toNat,(dp.look (l.drop (dp.rune l).2.toNat)).2+1):=by
 have hs:=dp.lf l
 unfold dp.look
 cases hl:l.length with
 | zero=>omega
 | succ k =>
  rw [dp.kK,al h]
  simp only
  rw [dp.wa _ k (by simp;omega)]
theorem dp.uw (l:Str) (h:(dp.rune l).2=0):dp.look l=(0,0):=by
 unfold dp.look
 cases l.length with
 | zero=>rfl
 | succ k=>rw [dp.kK,aq h]
theorem dp.rP (b:Str) (i:Nat) (h:i<b.length):dp.iY b i=dp.rune (b.drop i):=by
 unfold dp.iY;rw [al (by omega),ar]
theorem bK.fx (b:Str) (hb:b.length≤1099511627776):∀(m i k:Nat),b.length - i≤m→i≤b.length→k≤i →
  bK.l1 b i k=some [.i .i64 ((i+(dp.look (b.drop i)).1:Nat):Int),.i .i64 ((k+(dp.look (b.drop i)).2:Nat):Int)]:=by
 intro m
 induction m with
 | zero =>
  intro i k hm hi hk
  refine bK.fo _ _ _ ?_
  intro v1 h1 v2 h2
  rw [show decide ((i:Int)<(b.length:Int))=false by simp;omega,af,bK.jE,aW (by omega)]
  rfl
 | succ m ih =>
  intro i k hm hi hk
  by_cases eL:i<b.length
  ·refine bK.fo _ _ _ ?_
   intro v1 h1 v2 h2
   rw [dp.rP b i eL] at h1 ⊢
   have hs:=dp.lf (b.drop i)
   rw [aL] at hs
   rw [show decide ((i:Int)<(b.length:Int))=true by simp;omega,ao,bw (aa hb)]
   by_cases h0:(dp.rune (b.drop i)).2=0
   ·rw [aa h0,ao,bK.jE,dp.uw _ h0];rfl
   ·rw [ab h0,af,dp.uv _ h0]
    have e1:v1=((i+(dp.rune (b.drop i)).2.toNat:Nat):Int):=by rw [h1,i64_in _ (by omega)];omega
    have e2:v2=((k+1:Nat):Int):=by rw [h2,i64_in _ (by omega)];omega
    rw [e1,e2,ih _ _ (by omega) (by omega) (by omega),List.drop_drop]
    simp only [aA,bj,TV.i.injEq,true_and,and_true]
    exact ⟨by omega,by omega⟩
  ·refine bK.fo _ _ _ ?_
   intro v1 h1 v2 h2
   rw [show decide ((i:Int)<(b.length:Int))=false by simp;omega,af,bK.jE,aW (by omega)]
   rfl
theorem bK.goal (b:Str) (hp:decide (b.length≤1099511627776)=true):bK.F b=some [.i .i64 ((dp.look b).1:Int),.i .i64 ((dp.look b).2:Int)]:=by
 rw [bK.fh]
 have:=bK.fx b (au hp) b.length 0 0 (by omega) (by omega) (by omega)
 simpa using this
theorem ct.goal (b:Str) (hp:decide (b.length≤1099511627776)=true):ct.F b=some [.i .i64 ((dp.look b).1:Int),.b (dp.whole b)]:=by
 have e:decide (((dp.look b).1:Int)=(b.length:Int))=dp.whole b:=by unfold dp.whole;rw [aN];simp;omega
 rw [ct.fh,bw hp,e]
end Go.Eng
set_option maxRecDepth 20000
namespace Go.Eng
open Go.IntWalk
theorem bX.goal (s:Str) (c:UInt8):bX.F s c=some [.i .i64 (Lib.indexByte s c)]:=bX.fh s c
theorem dB.goal (s t:Str) (hp:decide (t.length=1)=true):dB.F s t=some [.i .i64 (Lib.indexByte s (t.getD 0 0))]:=by
 have hl:t.length=1:=au hp
 refine dB.cR s t ?_
 intro v1 h1 v2 h2
 have e0:decide ((t.length:Int)=0)=false:=ab (by omega)
 have e1:decide ((t.length:Int)=1)=true:=aa (by omega)
 rw [e0] at h1 ⊢
 simp only [aQ,aK,Bool.false_or,bc,eQ,af] at h1 ⊢
 by_cases hs:t=s
 ·subst hs
  rw [h1,aa rfl,ao]
  obtain ⟨c,rfl⟩:∃c,t=[c]:=by
   match t,hl with
   | [c],_=>exact ⟨c,rfl⟩
  simp [Lib.indexByte]
 ·rw [h1,ab hs,af,e1,ao,bw (eT (by omega) (by omega)),h2];rfl
theorem dA.goal (s t:Str) (hp:decide (t.length=1)=true):dA.F s t=some [.i .i64 (Lib.indexByte s (t.getD 0 0))]:=by
 refine dA.cR s t ?_
 intro v1 h1
 rw [bw hp,h1]
theorem cr.goal (s t:Str) (hp:decide (t.length=1)=true):cr.F s t=some [.b (decide (0≤Lib.indexByte s (t.getD 0 0)))]:=by
 refine cr.cR s t ?_
 intro v1 h1
 rw [bw hp,h1]
theorem cH.goal (k:Int):cH.F k=some [.s (Tree.name k)]:=by
 refine cH.cR k ?_
 intro v1 h1 v2 h2
 unfold Tree.name
 by_cases a:k=127
 ·rw [aq a,aa a];rfl
 ·rw [al a,ab a,af]
  by_cases b:k=255
  ·rw [aq b,aa b];rfl
  ·rw [al b,ab b,af]
   simp only [aU,ba,eQ]
   by_cases c:k<0∨20≤k
   ·rw [aq c,show v1=true by rw [h1];by_cases d:k<0 <;> simp [d];omega];rfl
   ·rw [al c,show v1=false by rw [h1];by_cases d:k<0 <;> simp [d] <;> omega,af,bw (eT (by omega) (by omega)),bw (by simp;omega),h2];rfl
theorem Tree.um (k:Int) (h:k ∉ Tree.kinds):Tree.name k=[]:=by
 simp only [Tree.kinds,aC,List.not_mem_nil,not_or] at h
 unfold Tree.name
 rw [al (by omega),al (by omega)]
 by_cases c:k<0∨20≤k
 ·rw [aq c]
 ·have:k=0:=by omega
  subst this
  rfl
end Go.Eng
set_option maxRecDepth 20000
namespace Go.Eng
open Go.IntWalk
theorem fD (c:UInt8):∀s:Str,decide (0≤Lib.indexByte s c)=s.contains c
 | []=>by simp [Lib.indexByte]
 | b :: l=>by
  have ih:=fD c l
  have AP:=Lib.indexByte_ge l c
  rw [List.contains_cons,←ih]
  rw [Lib.indexByte]
  by_cases h:b=c
  ·subst h;simp
  ·rw [al (by simpa using h),show (c == b)=false by rw [beq_eq_false_iff_ne];exact fun e=>h e.symm,Bool.false_or]
   by_cases h1:Lib.indexByte l c=-1
   ·rw [h1];rfl
   ·rw [al (by simpa using h1),aa (by omega),aa (by omega)]
theorem cE.goal (s:Str) (plain:Bool) (hp:decide (s.length≤1099511627776)=true):cE.F s plain=some [.b (Tree.dr s plain)]:=by
 have e:decide (0≤Lib.indexByte s (([0]:Str).getD 0 0))=dp.zero s:=fD 0 s
 refine cE.cR s plain ?_
 intro v1 h1 v2 h2
 rw [bw (yY (au hp)),bw hp]
 rw [e] at h1
 subst h1 h2
 unfold Tree.dr
 cases dp.whole s <;> cases plain <;> cases dp.zero s <;> rfl
theorem bq.goal (v:bu):bq.F v=some [.b (Tree.cv v)]:=by
 have J2:∀(x:Bool) (v:bu),bq.j2 x v=some [.b (x&&decide (v.bits=0)&&decide (v.high=0)&&decide (v.low=0)&&decide (v.text=[])&&decide (v.more=[])&&decide (v.sub=0)&&decide (v.bytes=[])&&decide (v.kids=[]))]:=by
  intro x v
  refine bq.lO x v ?_
  intro v1 h1 v2 h2 v3 h3 v4 h4 v5 h5 v6 h6 v7 h7 v8 h8 v9 h9 v10 iU
  simp only [aU,eQ]
  have e1:decide (v7=0)=decide (v.bytes=[]):=by rw [h7,aN];simp
  have e2:decide (v9=0)=decide (v.kids=[]):=by rw [h9,aN];simp
  rw [e1] at h8
  rw [e2] at iU
  subst h1 h2 h3 h4 h5 h6 h8 iU
  simp only [Bool.cond_false_right]
 have J3:∀(x0:Bool) (x1:Int) (x2:Bool) (x3:bu),bq.j3 x0 x1 x2 x3=cond x2
  (bq.j2 x0 (bu.mk (bu.kind x3) (bu.bits x3) (bu.high x3) (bu.low x3) ([]:Str) (bu.more x3) (bu.sub x3) (bu.bytes x3) (bu.kids x3)))
  (cond (decide (x1=(11:Int)))
  (bq.j2 x0 (bu.mk (bu.kind x3) (bu.bits x3) (bu.high x3) (bu.low x3) ([]:Str) ([]:Str) (bu.sub x3) (bu.bytes x3) (bu.kids x3)))
  (cond (decide (x1=(5:Int)))
  (bq.j2 (decide (0≤x3.sub)&&decide (x3.sub≤255)) (bu.mk (bu.kind x3) (bu.bits x3) (bu.high x3) (bu.low x3) (bu.text x3) (bu.more x3) (0:Int) ([]:List UInt8) (bu.kids x3)))
  (cond (decide (x1=(7:Int)))
  (bq.j2 (decide (x3.bytes.length=12)) (bu.mk (bu.kind x3) (bu.bits x3) (bu.high x3) (bu.low x3) (bu.text x3) (bu.more x3) (bu.sub x3) ([]:List UInt8) (bu.kids x3)))
  (cond (decide (x1=(12:Int)))
  (bq.j2 (decide (x3.bytes.length=12)) (bu.mk (bu.kind x3) (bu.bits x3) (bu.high x3) (bu.low x3) ([]:Str) (bu.more x3) (bu.sub x3) ([]:List UInt8) (bu.kids x3)))
  (cond (decide (x1=(3:Int)))
  (bq.j4 x0 x1 (decide (x1=(3:Int))) x3)
  (bq.j4 x0 x1 (decide (x1=(4:Int))) x3)))))):=by
  intro x0 x1 x2 x3
  refine bq.qx x0 x1 x2 x3 ?_
  intro v1 h1 v2 h2
  have e:decide (v2=12)=decide (x3.bytes.length=12):=by rw [h2,aN];simp;omega
  simp only [aU,eQ,e,h1,Bool.cond_false_right]
 obtain ⟨k,b,hi,lo,t,m,s,y,ks⟩:=v
 simp only [bq.fh,bq.qz,J3,bq.Cw,J2,Tree.cv,Tree.fu]
 by_cases a1:k=1
 ·subst a1;simp;grind
 by_cases a2:k=2
 ·subst a2;simp;grind
 by_cases a3:k=3
 ·subst a3;simp;grind
 by_cases a4:k=4
 ·subst a4;simp;grind
 by_cases a5:k=5
 ·subst a5;simp;grind
 by_cases a7:k=7
 ·subst a7;simp;grind
 by_cases a8:k=8
 ·subst a8;simp;grind
 by_cases a9:k=9
 ·subst a9;simp;grind
 by_cases GN:k=11
 ·subst GN;simp;grind
 by_cases a12:k=12
 ·subst a12;simp;grind
 by_cases GM:k=13
 ·subst GM;simp;grind
 by_cases GK:k=14
 ·subst GK;simp;grind
 by_cases GJ:k=15
 ·subst GJ;simp;grind
 by_cases GI:k=16
 ·subst GI;simp;grind
 by_cases GH:k=17
 ·subst GH;simp;grind
 by_cases GG:k=18
 ·subst GG;simp;grind
 by_cases GF:k=19
 ·subst GF;simp;grind
 simp [a1,a2,a3,a4,a5,a7,a8,a9,GN,a12,GM,GK,GJ,GI,GH,GG,GF];grind
end Go.Eng
set_option maxRecDepth 20000
namespace Go.Eng
open Go.IntWalk
theorem Fm (a:Bool):(!a || a)=true:=by cases a <;> rfl
theorem nv {R:Type} {b p:Bool} {x y:Option R} (hp:p=true) (h:b=true→x=y):cond b (both x (ck p y)) (ck p y)=y:=by
 subst hp
 cases b with
 | false=>rfl
 | true=>rw [h rfl];exact uZ _
theorem bQ.goal (a:List UInt8) (hp:eO a.length 1=true):bQ.F a=some [.sl .bs a]:=by
 rw [bQ.fh]
 exact nv (by simpa using hp) fun h=>by rw [List.isEmpty_iff.1 h];rfl
theorem df.goal (l:List Int) (hp:eO l.length 8=true):df.F l=some [.sl .is l,.sl .is l]:=by
 rw [df.fh]
 exact nv (by simpa using hp) fun h=>by rw [List.isEmpty_iff.1 h];rfl
theorem cI.goal (n:Int):cI.F n=some [.b (decide (1≤n∧n≤8))]:=by
 refine cI.cR _ ?_
 intro v1 h1
 rw [bw (Fm _),bw (Fm _),h1,Bool.decide_and]
 cases decide (1≤n) <;> rfl
theorem eH.goal (b:List UInt8) (hp:decide (b.length≤1099511627776)=true):eH.F b=some [.ag (bA.cells ⟨b,0⟩)]:=by
 have hp:=au hp
 rw [eH.fh,bw (fQ (by omega) (by omega))];rfl
theorem dJ.goal (r:bA) (hp:decide (0≤r.at_∧r.at_≤r.b.length∧r.b.length≤1099511627776)=true):dJ.F r=some [.i .i64 ((r.b.length:Int) - r.at_),.ag (bA.cells r)]:=by
 obtain ⟨h1,h2,h3⟩:=au hp
 refine dJ.cR _ ?_
 intro v1 e1
 rw [e1,i64_in _ (by omega)]
theorem er.goal (r:bA) (n:Int) (hp:decide (1≤n∧n≤8∧0≤r.at_∧r.at_≤r.b.length∧r.b.length≤1099511627776)=true):er.F r n=some [.sl .bs (Bs.fH r n),.b (Bs.can r n),.ag (bA.cells (Bs.jA r n))]:=by
 obtain ⟨h1,h2,h3,h4,h5⟩:=au hp
 refine er.cR _ _ ?_
 intro v1 e1 v2 e2 v3 e3 v4 e4 v5 e5
 have f1:v1=false:=by rw [e1,ab (by omega),af,ab (by omega)]
 rw [f1,af] at e3
 rw [ab (by omega),f1,aa ⟨h3,h4,h5⟩,e3,e2]
 refine (show _=cond (decide ((r.b.length:Int) - r.at_<n)) _ _ from rfl).trans ?_
 unfold Bs.fH Bs.jA Bs.can
 by_cases c:(r.b.length:Int) - r.at_<n
 ·rw [aa c,ao,ab (by omega),al (by simp),al (by simp)]
 ·rw [ab c,af,aa ⟨h1,h2,by omega⟩,aq rfl,aq rfl]
  have q4:v4=r.at_+n:=by rw [e4,i64_in _ (by omega)]
  have q5:IntKind.i64.wrap (v4 - n)=r.at_:=by rw [q4,i64_in _ (by omega)];omega
  rw [q5] at e5 ⊢
  rw [bw (gj (by omega) (by omega) (by omega)),e5,q4,List.drop_take,show (r.at_+n).toNat - r.at_.toNat=n.toNat by omega];rfl
theorem et.goal (r:bA) (n:Int) (hp:decide (0≤n∧0≤r.at_∧r.at_≤r.b.length∧r.b.length≤1099511627776)=true):et.F r n=some [.sl .bs (Bs.pW r n),.b (Bs.qY r n),.ag (bA.cells (Bs.o0 r n))]:=by
 obtain ⟨h1,h3,h4,h5⟩:=au hp
 refine et.cR _ _ ?_
 intro v1 e1 v2 e2 v3 e3 v4 e4
 rw [ab (by omega),af,e1] at e2
 rw [ab (by omega),aa ⟨h3,h4,h5⟩,e2]
 refine (show _=cond (decide ((r.b.length:Int) - r.at_<n)) _ _ from rfl).trans ?_
 unfold Bs.pW Bs.o0 Bs.qY
 by_cases c:(r.b.length:Int) - r.at_<n
 ·rw [aa c,ao,ab (by omega),al (by simp),al (by simp)]
 ·rw [ab c,af,aa ⟨h1,by omega⟩,aq rfl,aq rfl]
  have q4:v3=r.at_+n:=by rw [e3,i64_in _ (by omega)]
  have q5:IntKind.i64.wrap (v3 - n)=r.at_:=by rw [q4,i64_in _ (by omega)];omega
  rw [q5] at e4 ⊢
  have q6:v4=(r.b.drop r.at_.toNat).take n.toNat:=by rw [e4,q4,List.drop_take,show (r.at_+n).toNat - r.at_.toNat=n.toNat by omega]
  have q7:v4.length≤1099511627776:=by rw [q6,ay,aL];omega
  rw [bw (gj (by omega) (by omega) (by omega)),bw (fQ (by omega) (by omega)),q6,q4];rfl
namespace Bs
theorem mV:∀a b:Str,gD (a++b)=gD a+256 ^ a.length * gD b
 | [],b=>by simp [gD]
 | c :: a,b=>by
  simp only [List.cons_append,gD,mV a b,aJ,Nat.pow_succ]
  rw [Nat.mul_add,Nat.mul_comm (256 ^ a.length) 256,Nat.mul_assoc];omega
theorem lu:∀a:Str,gD a<256 ^ a.length
 | []=>by simp [gD]
 | c :: a=>by
  have:=lu a
  have:=c.toNat_lt
  simp only [gD,aJ,Nat.pow_succ];omega
theorem lk {x c k:Nat} (h:x<2 ^ k):x ||| c * 2 ^ k=x+c * 2 ^ k:=by
 have:=Nat.two_pow_add_eq_or_of_lt h c
 rw [Nat.or_comm,Nat.mul_comm c,←this,Nat.add_comm]
theorem vR (i:Nat):2 ^ (8 * i)=256 ^ i:=by rw [Nat.pow_mul]
end Bs
theorem cT.fx (ok:Bool) (x:List UInt8) (b:List UInt8) (at_:Int) (hx:x.length≤8):∀(m i:Nat) (v:UInt64),i+m=x.length→v.toNat=Bs.gD (x.take i)→cT.l1 ok v x (x.length:Int) (i:Int) b at_=some [.u64 (UInt64.ofNat (Bs.gD x)),.b ok,.ag [.sl .bs b,.i .i64 at_]]
 | 0,i,v,hi,hv=>by
  refine cT.fo _ _ _ _ _ _ _ ?_
  intro v1 h1 v2 h2 v3 h3 v4 h4 v5 h5
  rw [ab (by omega),af]
  rw [List.take_of_length_le (by omega)] at hv
  rw [←hv,UInt64.ofNat_toNat]
 | m+1,i,v,hi,hv=>by
  refine cT.fo _ _ _ _ _ _ _ ?_
  intro v1 h1 v2 h2 v3 h3 v4 h4 v5 h5
  rw [ar] at h1
  have e3:v3=((8 * i:Nat):Int):=by rw [h3,i64_in _ (by omega)];omega
  have e5:v5=((i+1:Nat):Int):=by rw [h5,i64_in _ (by omega)];omega
  have hd:x.take (i+1)=x.take i++[v1]:=by rw [h1,List.take_add_one,ah (by omega),ai,ah (by omega)];rfl
  have hc:=v1.toNat_lt
  have eL:=Bs.lu (x.take i)
  have hl:(x.take i).length=i:=by rw [ay];omega
  have e4:v4.toNat=Bs.gD (x.take (i+1)):=by
   have e2:v2.toNat=v1.toNat:=by
    have:=k8 (v1.toNat:Int)
    rw [fv] at this
    rw [h2];omega
   have p1:(256:Nat) ^ i≤256 ^ 7:=Nat.pow_le_pow_right (by omega) (by omega)
   have p2:v1.toNat * 256 ^ i≤255 * 256 ^ 7:=Nat.mul_le_mul (by omega) p1
   have es:(nW v2 (8 * i)).toNat=v1.toNat * 256 ^ i:=by
    unfold nW
    rw [UInt64.toNat_ofNat',e2,Bs.vR]
    exact Nat.mod_eq_of_lt (Nat.lt_of_le_of_lt p2 (by decide))
   rw [h4,e3,ar,UInt64.toNat_or,es,←Bs.vR i,hv,Bs.lk (by rw [Bs.vR];rw [hl] at eL;exact eL),hd,Bs.mV,hl,Bs.vR]
   simp only [Bs.gD]
   rw [Nat.mul_comm];simp
  rw [aa (by omega),ao,bw (eT (by omega) (by omega)),bw (aa (by omega)),e5]
  exact cT.fx ok x b at_ hx m (i+1) v4 (by omega) e4
theorem Bs.ui (r:bA) (n:Int):(Bs.fH r n).length≤8:=by
 unfold Bs.fH
 split
 ·rename_i h
  have h:=au h
  rw [ay];omega
 ·simp
theorem cT.goal (r:bA) (n:Int) (hp:decide (1≤n∧n≤8∧0≤r.at_∧r.at_≤r.b.length∧r.b.length≤1099511627776)=true):cT.F r n=some [.u64 (UInt64.ofNat (Bs.gD (Bs.fH r n))),.b (Bs.can r n),.ag (bA.cells (Bs.jA r n))]:=by
 refine cT.cR _ _ ?_
 intro v1 h1
 rw [bw hp,h1]
 exact cT.fx _ _ _ _ (Bs.ui r n) (Bs.fH r n).length 0 0 (by omega) rfl
theorem eW.goal:eW.F=some [.ag [.pt],.sl .bs []]:=eW.fh
theorem dt.goal (v:Int) (b:List UInt8) (hp:decide (b.length≤1099511627776)=true):dt.F v b=some [.ag [.pt],.sl .bs (b++[UInt8.ofInt v])]:=by
 have hp:=au hp
 refine dt.cR _ _ ?_
 intro v1 h1
 rw [h1,bw (fQ (by simp;omega) (by simp;omega))]
theorem eF.goal (x b:List UInt8) (hp:decide (b.length+x.length≤2199023255552)=true):eF.F x b=some [.ag [.pt],.sl .bs (b++x)]:=by
 have hp:=au hp
 rw [eF.fh,bw (fQ (by omega) (by omega))]
theorem Bs.tE (v:UInt64) (i:Nat):UInt8.ofInt ((lK v (8 * i)).toNat:Int)=UInt8.ofNat (v.toNat / 256 ^ i % 256):=by
 have h1:(lK v (8 * i)).toNat=v.toNat / 256 ^ i:=by
  unfold lK
  rw [UInt64.toNat_ofNat',Bs.vR]
  exact Nat.mod_eq_of_lt (Nat.lt_of_le_of_lt (Nat.div_le_self _ _) v.toNat_lt)
 rw [h1]
 refine UInt8.toNat_inj.1 ?_
 have h2:=kA ((v.toNat / 256 ^ i:Nat):Int)
 rw [wrap_u8'] at h2
 rw [UInt8.toNat_ofNat']
 omega
theorem cK.fx (v:UInt64) (n:Nat) (hn:n≤8) (H8:1≤n):∀(m i:Nat) (b:List UInt8),i+m=n→b.length≤1099511627776+i→cK.l1 v (n:Int) (i:Int) b=some [.ag [.pt],.sl .bs (b++Bs.ff m (v.toNat / 256 ^ i))]
 | 0,i,b,hi,hb=>by
  refine cK.fo _ _ _ _ ?_
  intro v1 h1 v2 h2 v3 h3 v4 h4
  rw [aa (show (1:Int)≤n∧(n:Int)≤8 by omega),ao,ab (by omega)] at h1
  rw [aa (show (1:Int)≤n∧(n:Int)≤8 by omega),h1,Bs.ff,bm];rfl
 | m+1,i,b,hi,hb=>by
  refine cK.fo _ _ _ _ ?_
  intro v1 h1 v2 h2 v3 h3 v4 h4
  rw [aa (show (1:Int)≤n∧(n:Int)≤8 by omega),ao,aa (by omega)] at h1
  have e2:v2=((8 * i:Nat):Int):=by rw [h2,i64_in _ (by omega)];omega
  have e4:v4=((i+1:Nat):Int):=by rw [h4,i64_in _ (by omega)];omega
  rw [e2,ar,Bs.tE] at h3
  rw [aa (show (1:Int)≤n∧(n:Int)≤8 by omega),h1]
  refine Eq.trans (b:=ck (decide (0≤v2)) (ck (eO (b.length + [v3].length) 1) (cK.l1 v n v4 (b++[v3])))) rfl ?_
  rw [bw (aa (by omega)),bw (fQ (by simp;omega) (by simp;omega)),e4,cK.fx v n hn H8 m (i+1) _ (by omega) (by simp;omega),h3,Bs.ff,aB,Nat.div_div_eq_div_mul,←Nat.pow_succ];rfl
theorem cK.goal (v:UInt64) (n:Int) (b:List UInt8) (hp:decide (1≤n∧n≤8∧b.length≤1099511627776)=true):cK.F v n b=some [.ag [.pt],.sl .bs (b++Bs.ff n.toNat v.toNat)]:=by
 obtain ⟨h1,h2,h3⟩:=au hp
 obtain ⟨k,rfl⟩:∃k:Nat,n=(k:Int):=⟨n.toNat,by omega⟩
 have:=cK.fx v k (by omega) (by omega) k 0 b (by omega) (by omega)
 rw [cK.fh,ar]
 simpa using this
theorem Bs.bU:∀n v,(Bs.ff n v).length=n
 | 0,_=>rfl
 | n+1,v=>by rw [Bs.ff,aJ,Bs.bU n]
theorem Bs.s6:∀(n v i:Nat),i<n→(Bs.ff n v)[i]?=some (UInt8.ofNat (v / 256 ^ i % 256))
 | n+1,v,0,_=>by simp [Bs.ff]
 | n+1,v,i+1,h=>by
  rw [Bs.ff,List.getElem?_cons_succ,Bs.s6 n (v / 256) i (by omega),Nat.div_div_eq_div_mul,Nat.pow_succ']
theorem Bs.vJ {b x:Str} {a:Nat} (h:a+x.length≤b.length):(Bs.jr b a x).length=b.length:=by
 unfold Bs.jr
 simp only [ak,ay,aL];omega
theorem cQ.fx (v:UInt64) (n a:Nat) (hn:n≤8) (b:List UInt8) (hb:a+n≤b.length) (hl:b.length≤2199023255552):∀(m i:Nat),i+m=n→cQ.l1 (a:Int) v (n:Int) (i:Int) (Bs.jr b a ((Bs.ff n v.toNat).take i))=some [.b true,.ag [.pt],.sl .bs (Bs.jr b a (Bs.ff n v.toNat))]
 | 0,i,hi=>by
  refine cQ.fo _ _ _ _ _ ?_
  intro v1 h1 v2 h2 v3 h3 v4 h4
  rw [ab (by omega),af,List.take_of_length_le (by rw [Bs.bU];omega)]
 | m+1,i,hi=>by
  refine cQ.fo _ _ _ _ _ ?_
  intro v1 h1 v2 h2 v3 h3 v4 h4
  have e1:v1=((8 * i:Nat):Int):=by rw [h1,i64_in _ (by omega)];omega
  have e3:IntKind.i64.wrap ((a:Int)+i)=((a+i:Nat):Int):=by rw [i64_in _ (by omega)];omega
  have e4:v4=((i+1:Nat):Int):=by rw [h4,i64_in _ (by omega)];omega
  rw [e1,ar,Bs.tE] at h2
  rw [e3,ar] at h3
  have AN:((Bs.ff n v.toNat).take i).length=i:=by rw [ay,Bs.bU];omega
  have hs:(Bs.jr b a ((Bs.ff n v.toNat).take i)).length=b.length:=Bs.vJ (by rw [AN];omega)
  have step:(Bs.jr b a ((Bs.ff n v.toNat).take i)).set v3 v2=Bs.jr b a ((Bs.ff n v.toNat).take (i+1)):=by
   rw [h3,h2,List.take_add_one,Bs.s6 n _ i (by omega)]
   unfold Bs.jr
   have ht:(b.take a).length=a:=by rw [ay];omega
   rw [List.set_append_right _ _ (by rw [ht];omega),ht,Nat.add_sub_cancel_left,List.set_append_right _ _ (by rw [AN];omega),AN,Nat.sub_self]
   obtain ⟨c,r,hd⟩:∃c r,b.drop (a+i)=c :: r:=by
    cases h:b.drop (a+i) with
    | nil=>have:=congrArg List.length h;rw [aL] at this;simp at this;omega
    | cons c r=>exact ⟨c,r,rfl⟩
   have hd2:b.drop (a+(i+1))=r:=by
    have:=congrArg (List.drop 1) hd
    rw [List.drop_drop] at this
    simpa [Nat.add_assoc] using this
   rw [hd,List.set_cons_zero,ak,AN,Option.toList_some,aD,hd2,aB];rfl
  rw [aa (by omega),ao,bw (aa (by omega)),e3,hs,bw (eT (by omega) (by omega)),bw (aa (by omega)),step,e4]
  exact cQ.fx v n a hn b hb hl m (i+1) (by omega)
theorem cQ.goal (at_:Int) (v:UInt64) (n:Int) (b:List UInt8) (hp:decide (1≤n∧n≤8∧0≤at_∧at_+n≤(b.length:Int)∧b.length≤2199023255552)=true):cQ.F at_ v n b=some [.b true,.ag [.pt],.sl .bs (Bs.jr b at_.toNat (Bs.ff n.toNat v.toNat))]:=by
 obtain ⟨h1,h2,h3,h4,h5⟩:=au hp
 obtain ⟨k,rfl⟩:∃k:Nat,n=(k:Int):=⟨n.toNat,by omega⟩
 obtain ⟨a,rfl⟩:∃k:Nat,at_=(k:Int):=⟨at_.toNat,by omega⟩
 refine cQ.cR _ _ _ _ ?_
 intro v1 e1 v2 e2 v3 e3 v4 e4
 have q:decide ((1:Int)≤k∧(k:Int)≤8)=true:=aa ⟨h1,h2⟩
 rw [q] at e1 e2 ⊢
 have e1:v1=true:=e1
 rw [aK,af,ab (by omega)] at e2
 rw [i64_in _ (by omega)] at e3
 rw [e2,af,ab (by omega)] at e4
 rw [e1,e2,e4]
 refine Eq.trans (b:=cQ.l1 (a:Int) v (k:Int) (0:Int) b) rfl ?_
 have:=cQ.fx v k a (by omega) b (by omega) (by omega) k 0 (by omega)
 rw [List.take_zero,show Bs.jr b a []=b by unfold Bs.jr;simp] at this
 exact this
theorem eG.goal (b:List UInt8):eG.F b=some [.i .i64 (b.length:Int),.ag [.pt],.sl .bs b]:=eG.fh b
theorem dF.goal (w:rI) (hp:decide (w.b.length≤2199023255552)=true):dF.F w=some [.sl .bs w.b,.ag (rI.cells w)]:=by
 have hp:=au hp
 rw [dF.fh,bw (fQ (by omega) (by omega))]
end Go.Eng
set_option maxRecDepth 20000
namespace Go.Eng
open Go.IntWalk
theorem BD.lens (v:bu) (n:Str) (m:Nat) (h:bx.dk (bx.of n v)≤m):v.text.length≤m∧v.more.length≤m∧n.length≤m∧v.bytes.length≤m∧bx.cw v.kids+1≤m:=by
 simp only [bx.of,bx.dk] at h;omega
theorem bx.xg (f:bx):1≤f.dk:=by cases f;simp only [bx.dk];omega
theorem bx.oE:∀(l:List bx) (i:Nat) (d:bx),i<l.length→(l.getD i d).dk≤bx.cw l
 | f :: l,0,d,_=>by simp [bx.cw]
 | f :: l,i+1,d,h=>by
  have:=bx.oE l i d (by simpa using h)
  simp only [List.getD_cons_succ,bx.cw];omega
theorem bx.oD:∀(l:List bx),l.length≤bx.cw l
 | []=>by simp
 | f :: l=>by have:=bx.oD l;have:=bx.xg f;simp only [aJ,bx.cw];omega
theorem bx.Aq (f:bx):bx.of f.name f.val=f:=by cases f;rfl
theorem vu (v:bu) (n:Str):Tree.oY v n=(if Tree.name v.kind=[] then 5 else if Tree.cv v=false then 1 else if Tree.dr v.text (decide (v.kind=11))=false∨Tree.dr v.more (decide (v.kind=11))=false∨Tree.dr n true=false then 4 else 0):=by
 unfold Tree.oY Tree.own
 grind
theorem Tree.yR (n:Str) (v:bu) (p:List Int):Tree.hU (bx.of n v) p=if Tree.oY v n≠0 then (p,Tree.oY v n) else Tree.uX v.kids 0 p:=by
 cases v;simp only [bx.of,Tree.hU]
theorem bH.fx (n:Nat) (ks:List bx) (p:List Int) (hb:bx.cw ks+p.length<1099511627776) (hn:bx.cw ks<n):∀(m i:Nat),i+m=ks.length →
  bH.l1 n ks (ks.length:Int) i p=some [.sl .is (Tree.uX (ks.drop i) i p).1,.i .i64 (Tree.uX (ks.drop i) i p).2,.sl .is p]:=by
 have hlen:=bx.oD ks
 intro m
 induction m with
 | zero =>
  intro i hi
  refine bH.fo _ _ _ _ _ ?_
  intro v1 h1 v2 h2 v3 h3 v4 h4
  rw [ab (by omega),af,aW (by omega)];rfl
 | succ m ih =>
  intro i hi
  refine bH.fo _ _ _ _ _ ?_
  intro v1 h1 v2 h2 v3 h3 v4 h4
  rw [ar] at h1
  have hg:=bx.oE ks i (ez.iH .fl) (by omega)
  rw [←h1] at hg
  rw [bx.Aq] at h2 h3 ⊢
  rw [aa (by omega),ao,bw (eT (by omega) (by omega)),bw (fQ (by simp;omega) (by simp;omega)),aa (by simp;omega),aa (by omega),bc,eQ,drop_cons (l:=ks) (i:=i) (by omega) (ez.iH .fl),←h1,Tree.uX]
  by_cases h:v3=0
  ·rw [aa h,al (by rw [h3] at h;simpa using h)]
   simp only [aK,af]
   rw [show v4=((i+1:Nat):Int) by rw [h4,i64_in _ (by omega)];omega,ih _ (by omega)]
  ·rw [ab h,aq (by rw [h3] at h;simpa using h)]
   simp only [aQ,ao]
   rw [h2,h3]
theorem bH.goal (n:Nat) (v:bu) (name:Str) (path:List Int) (hp:((decide (bx.dk (bx.of name v)+path.length≤1099511627776))&&decide ((bx.dk (bx.of name v))<n+1))=true) :
  bH.F n v name path=some [.sl .is (Tree.hU (bx.of name v) path).1,.i .i64 (Tree.hU (bx.of name v) path).2,.sl .is path]:=by
 simp only [ae,aF] at hp
 obtain ⟨hp,hn⟩:=hp
 obtain ⟨b1,b2,b3,_,_⟩:=BD.lens v name 1099511627776 (by omega)
 have BU:bx.cw v.kids<bx.dk (bx.of name v):=by simp only [bx.of,bx.dk];omega
 refine bH.cR n v name path ?_
 intro v1 h1 v2 h2 v3 h3 v4 h4
 rw [Tree.yR,vu]
 simp only [aU,ba,bc,eQ,aa b1,aa b2,aa b3,Bool.and_true]
 have C2:eO path.length 8=true:=fQ (by omega) (by omega)
 simp only [C2,eQ]
 by_cases a:Tree.name v.kind=[]
 ·rw [aa a];simp [a]
 ·rw [ab a,af]
  by_cases b:Tree.cv v=false
  ·rw [b];simp [a]
  ·have b':Tree.cv v=true:=by simpa using b
   rw [b']
   have e3:v3=decide (Tree.dr v.text (decide (v.kind=11))=false∨Tree.dr v.more (decide (v.kind=11))=false∨Tree.dr name true=false):=by
    subst h1 h2 h3
    cases Tree.dr v.text (decide (v.kind=11)) <;> cases Tree.dr v.more (decide (v.kind=11)) <;> cases Tree.dr name true <;> rfl
   rw [e3,h4]
   by_cases c:Tree.dr v.text (decide (v.kind=11))=false∨Tree.dr v.more (decide (v.kind=11))=false∨Tree.dr name true=false
   ·rw [aa c];simp [a,c]
   ·rw [ab c]
    simp only [aK,af,al a,al c]
    have:=bH.fx n v.kids path (by omega) (by omega) v.kids.length 0 (by omega)
    rw [aY] at this
    simpa using this
theorem cF.goal (v:bu) (hp:decide (bx.dk (bx.of [] v)≤1099511627776)=true):cF.F v=some [.sl .is (Tree.hU (bx.of [] v) []).1,.i .i64 (Tree.hU (bx.of [] v) []).2]:=by
 refine cF.cR v ?_
 intro v1 h1 v2 h2
 rw [bw (by simpa using hp),h1,h2]
end Go.Eng
set_option maxRecDepth 20000
namespace Go.Eng
open Go.IntWalk
theorem Tree.uR (f:bx):Tree.depth (bx.of [] f.val)=Tree.depth f:=by cases f;rfl
end Go.Eng
set_option maxRecDepth 20000
namespace Go.Eng
open Go.IntWalk
theorem bZ.goal (b:List UInt8) (c:UInt8):bZ.F b c=some [.i .i64 (Lib.indexByte b c)]:=bZ.fh b c
theorem wk {l:Str} {c:UInt8} (h:¬Lib.indexByte l c<0):∃k:Nat,Lib.indexByte l c=(k:Int)∧k<l.length∧l[k]?=some c∧∀j,j<k→l[j]?≠some c:=by
 obtain ⟨k,hk⟩:∃k:Nat,Lib.indexByte l c=(k:Int):=⟨(Lib.indexByte l c).toNat,by omega⟩
 obtain ⟨h1,h2⟩:=Lib.indexByte_some hk
 exact ⟨k,hk,(av.1 h1).1,h1,h2⟩
theorem cG.goal (b:List UInt8) (a:Int) (hp:decide (b.length≤1099511627776)=true):cG.F b a=some [.s (Bs.ctext b a).1,.i .i64 (Bs.ctext b a).2.1,.i .i64 (Bs.ctext b a).2.2]:=by
 have hp:=au hp
 refine cG.cR _ _ ?_
 intro v1 h1 v2 h2 v3 h3 v4 h4 v5 h5
 have t:∀c:Bool,(!(!c) || (!c))=true∧(!(!c) || ((!c)&&(!c)))=true∧(c || (!c))=true:=by decide
 rw [bw (t _).1,bw (t _).2.1,bw (t _).2.2]
 unfold Bs.ctext
 by_cases c:a<0∨(b.length:Int)<a
 ·rw [aq c]
  have:v1=true:=by
   rw [h1]
   by_cases d:a<0
   ·rw [aa d];rfl
   ·rw [ab d,af,aa (by omega)]
  rw [this];rfl
 ·rw [al c]
  have:v1=false:=by rw [h1,ab (by omega),af,ab (by omega)]
  rw [this,af,bw (gj (by omega) (by omega) (by omega))]
  by_cases d:v2<0
  ·rw [aa d,ao,aq (by rw [←h2];exact d)]
  ·rw [ab d,af,al (by rw [←h2];exact d),←h2]
   obtain ⟨k,k1,k2,_⟩:=wk (by rw [←h2];exact d)
   rw [←h2] at k1
   rw [aL] at k2
   have e3:v3=a+k:=by rw [h3,k1,i64_in _ (by omega)]
   have e4:v4=(b.drop a.toNat).take v2.toNat:=by rw [h4,e3,List.drop_take,k1,show (a+(k:Int)).toNat - a.toNat=(k:Int).toNat by omega]
   have e5:v5=a+v2+1:=by rw [h5,e3,k1,i64_in _ (by omega)]
   have l4:v4.length≤1099511627776:=by rw [e4,ay,aL];omega
   have cc:dV a v3 b.length=true:=gj (by omega) (by omega) (by omega)
   rw [bw cc,bw (aa l4),←e4]
   cases hw:dp.whole v4 with
   | false=>rw [aq rfl];rfl
   | true=>rw [al (by simp),bw cc,e5];rfl
theorem xa {X:Type} {k a b c d:Int} (f:Bool→X):cond (decide (k=a)) (f (decide (k=a))) (cond (decide (k=b)) (f (decide (k=b))) (cond (decide (k=c)) (f (decide (k=c))) (f (decide (k=d)))))=f (decide (k=a∨k=b∨k=c∨k=d)):=by
 by_cases h1:k=a
 ·simp [h1]
 by_cases h2:k=b
 ·subst h2;simp [h1]
 by_cases h3:k=c
 ·subst h3;simp [h1,h2]
 simp [h1,h2,h3]
theorem xb {X:Type} {k a b c:Int} (f:Bool→X):cond (decide (k=a)) (f (decide (k=a))) (cond (decide (k=b)) (f (decide (k=b))) (f (decide (k=c))))=f (decide (k=a∨k=b∨k=c)):=by
 by_cases h1:k=a
 ·simp [h1]
 by_cases h2:k=b
 ·subst h2;simp [h1]
 simp [h1,h2]
theorem xc {X:Type} {k a b:Int} (f:Bool→X):cond (decide (k=a)) (f (decide (k=a))) (f (decide (k=b)))=f (decide (k=a∨k=b)):=by
 by_cases h1:k=a
 ·simp [h1]
 simp [h1]
namespace Bs
mutual
theorem size_le:∀f:bx,size f+f.name.length+2≤30 * bx.dk f
 | .mk nm k b h l t m s y ks=>by
  have:=mF ks
  simp only [size,bx.dk,bx.name]
  have p:∀{c:Prop} [Decidable c] {a b n:Nat},a≤n→b≤n→(if c then a else b)≤n:=fun ha hb=>by split;exact ha;exact hb
  suffices hs:(if gM k then 8 else if k=16 then 4 else if k=8 then 1 else if k=19 then 16 else if gF k then t.length+5 else if k=11 then t.length+m.length+2 else if k=5 then (if s=2 then y.length+9 else y.length+5) else if k=7 then 12 else if k=12 then t.length+17 else if k=3∨k=4 then dC ks+5 else if k=15 then t.length+9+(dC ks+5) else 0)≤17+t.length+m.length+y.length+30 * bx.cw ks by omega
  refine p (by omega) (p (by omega) (p (by omega) (p (by omega) (p (by omega) (p (by omega) (p (p (by omega) (by omega)) (p (by omega) (p (by omega) (p (by omega) (p (by omega) (by omega)))))))))))
theorem mF:∀l:List bx,dC l≤30 * bx.cw l
 | []=>by simp [dC]
 | f :: r=>by
  have:=size_le f
  have:=mF r
  simp only [dC,bx.cw];omega
end
mutual
theorem wP:∀f:bx,(enc f).length+f.name.length+2≤30 * bx.dk f
 | .mk nm k b h l t m s y ks=>by
  have:=mr ks
  have e:∀x:Str,(fC x).length=x.length+5∧(ib x).length=x.length+5∧(nM x).length=x.length+4:=fun x=>by
   simp only [fC,ib,nM,ak,bU,aD];omega
  have e2:(nL s y).length≤y.length+9:=by
   unfold nL
   split <;> simp only [ak,aJ,bU] <;> omega
  simp only [enc,bx.dk,bx.name]
  have p:∀{c:Prop} [Decidable c] {a b:Str} {n:Nat},a.length≤n→b.length≤n→(if c then a else b).length≤n:=fun ha hb=>by split;exact ha;exact hb
  suffices hs:(if gM k=true then ff 8 b.toNat else if k=16 then ff 4 b.toNat else if k=8 then ff 1 b.toNat else if k=19 then ff 8 l.toNat++ff 8 h.toNat else if gF k=true then fC t else if k=11 then (t++[0])++(m++[0]) else if k=5 then nL s y else if k=7 then y else if k=12 then fC t++y else if k=3∨k=4 then ib (dS ks) else if k=15 then nM (fC t++ib (dS ks)) else []).length≤16+t.length+m.length+y.length+30 * bx.cw ks by omega
  refine p (by rw [bU];omega) (p (by rw [bU];omega) (p (by rw [bU];omega) (p (by rw [ak,bU,bU];omega) (p (by rw [(e t).1];omega) (p (by simp only [ak,aD];omega) (p (by omega) (p (by omega) (p (by rw [ak,(e t).1];omega) (p (by rw [(e _).2.1];omega) (p (by rw [(e _).2.2,ak,(e t).1,(e _).2.1];omega) (by simp)))))))))))
theorem mr:∀l:List bx,(dS l).length≤30 * bx.cw l
 | []=>by simp [dS]
 | f :: r=>by
  have:=wP f
  have:=mr r
  simp only [dS,bx.cw,aJ,ak,aD]
  simp only [aM];omega
end
theorem qb (f:bx):size (bx.of [] f.val)=size f:=by cases f;simp only [bx.of,bx.val,bx.kind,bx.bits,bx.high,bx.low,bx.text,bx.more,bx.sub,bx.bytes,bx.kids,size]
theorem tx (f:bx):enc (bx.of [] f.val)=enc f:=by cases f;simp only [bx.of,bx.val,bx.kind,bx.bits,bx.high,bx.low,bx.text,bx.more,bx.sub,bx.bytes,bx.kids,enc]
end Bs
theorem yL (f:bx):0<bx.dk f:=by cases f;simp only [bx.dk];omega
theorem nj:∀l:List bx,l.length≤bx.cw l
 | []=>by simp [bx.cw]
 | f :: r=>by have:=nj r;have:=yL f;simp only [bx.cw,aJ];omega
theorem tt (f:bx):bx.dk (bx.of [] f.val)≤bx.dk f:=by
 cases f;simp only [bx.of,bx.val,bx.kind,bx.bits,bx.high,bx.low,bx.text,bx.more,bx.sub,bx.bytes,bx.kids,bx.dk,aM];omega
theorem nr {f:bx}:∀{l:List bx},f∈l→bx.dk f≤bx.cw l
 | g :: l,h=>by
  simp only [bx.cw]
  rcases aC.1 h with rfl | h
  ·omega
  ·have:=nr h;omega
theorem cB.fx (n:Nat) (l:List bx) (hn:2 * bx.cw l<n) (hb:bx.cw l≤1000000000000):∀(m i:Nat) (s:Nat),i+m=l.length→s+30 * bx.cw (l.drop i)≤40000000000000→cB.l1 n (s:Int) l (l.length:Int) (i:Int)=some [.i .i64 ((s+Bs.dC (l.drop i):Nat):Int)]
 | 0,i,s,hi,hs=>by
  refine cB.fo _ _ _ _ _ ?_
  intro v1 h1 v2 h2 v3 h3 v4 h4 v5 h5 v6 h6
  rw [ab (by omega),af,aW (by omega)];simp [Bs.dC]
 | m+1,i,s,hi,hs=>by
  have hk:=nj l
  refine cB.fo _ _ _ _ _ ?_
  intro v1 h1 v2 h2 v3 h3 v4 h4 v5 h5 v6 h6
  rw [ar] at h1
  have hd:l.drop i=v1 :: l.drop (i+1):=by rw [h1];exact drop_cons (by omega) _
  have hm:v1∈l:=by rw [h1,ai,ah (by omega)];exact List.getElem_mem _
  have hv:=tt v1
  have hz:=Bs.size_le v1
  rw [hd] at hs ⊢
  simp only [bx.cw] at hs
  rw [Bs.qb] at h4
  have e5:v5=((s+(v1.name.length+2+Bs.size v1):Nat):Int):=by
   rw [h5,h4,h3,h2,i64_in (_+2) (by omega),i64_in (_+_+_) (by omega),i64_in _ (by omega)];omega
  have e6:v6=((i+1:Nat):Int):=by rw [h6,i64_in _ (by omega)];omega
  have c:(decide (bx.dk (bx.of [] (bx.val v1))≤1000000000000)&&decide (2 * bx.dk (bx.of [] (bx.val v1))<n))=true:=by
   have:=nr hm
   rw [ae];exact ⟨aa (by omega),aa (by omega)⟩
  rw [aa (by omega),ao,bw (eT (by omega) (by omega)),bw c,e5,e6,cB.fx n l hn hb m (i+1) _ (by omega) (by omega)]
  simp only [Bs.dC]
  congr 4
  omega
theorem cB.goal (n:Nat) (l:List bx) (hp:(decide (bx.cw l≤1000000000000)&&decide (2 * bx.cw l+1<n+1))=true):cB.F n l=some [.i .i64 ((Bs.dC l+5:Nat):Int)]:=by
 rw [ae] at hp
 obtain ⟨h1,h2⟩:=hp
 have h1:=au h1
 have h2:=au h2
 have:=cB.fx n l (by omega) h1 l.length 0 5 (by omega) (by rw [aY];omega)
 rw [aY,Nat.add_comm 5] at this
 rw [cB.fh];exact this
theorem cu.goal (n:Nat) (v:bu) (hp:(decide (bx.dk (bx.of [] v)≤1000000000000)&&decide (2 * bx.dk (bx.of [] v)<n+1))=true):cu.F n v=some [.i .i64 ((Bs.size (bx.of [] v):Nat):Int)]:=by
 rw [ae] at hp
 obtain ⟨h1,h2⟩:=hp
 have h1:=au h1
 have h2:=au h2
 have hz:=Bs.mF v.kids
 have hb:bx.dk (bx.of [] v)=1+v.text.length+v.more.length+v.bytes.length+bx.cw v.kids:=by simp only [bx.of,bx.dk,aM,Nat.add_zero]
 have e:Bs.size (bx.of [] v)=if Bs.gM v.kind then 8 else if v.kind=16 then 4 else if v.kind=8 then 1 else if v.kind=19 then 16 else if Bs.gF v.kind then v.text.length+5 else if v.kind=11 then v.text.length+v.more.length+2 else if v.kind=5 then (if v.sub=2 then v.bytes.length+9 else v.bytes.length+5) else if v.kind=7 then 12 else if v.kind=12 then v.text.length+17 else if v.kind=3∨v.kind=4 then Bs.dC v.kids+5 else if v.kind=15 then v.text.length+9+(Bs.dC v.kids+5) else 0:=by
  simp only [bx.of,Bs.size]
 have cb:(decide (bx.cw v.kids≤1000000000000)&&decide (2 * bx.cw v.kids+1<n))=true:=by
  rw [ae];exact ⟨aa (by omega),aa (by omega)⟩
 have j3:cu.j3 n v.kind (decide (v.kind=3∨v.kind=4)) v=some [.i .i64 ((if v.kind=3∨v.kind=4 then Bs.dC v.kids+5 else if v.kind=15 then v.text.length+9+(Bs.dC v.kids+5) else 0:Nat):Int)]:=by
  refine cu.qx _ _ _ _ ?_
  intro v1 e1 v2 e2 v3 e3
  rw [bw cb]
  by_cases c:v.kind=3∨v.kind=4
  ·rw [aa c,ao,aq c,e1]
  rw [ab c,af,al c]
  by_cases c:v.kind=15
  ·rw [aa c,ao,aq c,bw cb,e3,e2,e1,i64_in (_+9) (by omega),i64_in _ (by omega)]
   exact congrArg (fun x=>some [TV.i .i64 x]) (by omega)
  ·rw [ab c,al c];rfl
 have j2:cu.j2 n v.kind (Bs.gF v.kind) v=some [.i .i64 ((if Bs.gF v.kind then v.text.length+5 else if v.kind=11 then v.text.length+v.more.length+2 else if v.kind=5 then (if v.sub=2 then v.bytes.length+9 else v.bytes.length+5) else if v.kind=7 then 12 else if v.kind=12 then v.text.length+17 else if v.kind=3∨v.kind=4 then Bs.dC v.kids+5 else if v.kind=15 then v.text.length+9+(Bs.dC v.kids+5) else 0:Nat):Int)]:=by
  refine cu.lO _ _ _ _ ?_
  intro v1 e1 v2 e2 v3 e3 v4 e4 v5 e5 v6 e6 v7 e7 v8 e8
  cases ht:Bs.gF v.kind with
  | true=>rw [ao,aq rfl,e2,e1,i64_in _ (by omega)];rfl
  | false =>
   rw [af,al (by simp)]
   by_cases c:v.kind=11
   ·rw [aa c,ao,aq c,e4,e3,e1,i64_in (_+(v.more.length:Int)) (by omega),i64_in _ (by omega)];rfl
   rw [ab c,af,al c]
   by_cases c:v.kind=5
   ·rw [aa c,ao,aq c]
    by_cases d:v.sub=2
    ·rw [aa d,ao,aq d,e6,e5,i64_in _ (by omega)];rfl
    ·rw [ab d,af,al d,e7,e5,i64_in _ (by omega)];rfl
   rw [ab c,af,al c]
   by_cases c:v.kind=7
   ·rw [aa c,ao,aq c];rfl
   rw [ab c,af,al c]
   by_cases c:v.kind=12
   ·rw [aa c,ao,aq c,e8,e1,i64_in _ (by omega)];rfl
   rw [ab c,af,al c]
   rw [xc (fun b=>cu.j3 n v.kind b v)]
   exact j3
 rw [cu.fh,xa (fun b=>cu.j1 n v.kind b v),cu.qz,e,show decide (v.kind=1∨v.kind=9∨v.kind=17∨v.kind=18)=Bs.gM v.kind from rfl]
 cases hn:Bs.gM v.kind with
 | true=>rw [ao,aq rfl];rfl
 | false =>
  rw [af,al (by simp)]
  by_cases c:v.kind=16
  ·rw [aa c,ao,aq c];rfl
  rw [ab c,af,al c]
  by_cases c:v.kind=8
  ·rw [aa c,ao,aq c];rfl
  rw [ab c,af,al c]
  by_cases c:v.kind=19
  ·rw [aa c,ao,aq c];rfl
  rw [ab c,af,al c]
  rw [xb (fun b=>cu.j2 n v.kind b v)]
  exact j2
theorem dY.goal (l:eK):dY.F l=some [.b (Bs.may l)]:=by
 refine dY.cR _ ?_
 intro v1 h1 v2 h2 v3 h3 v4 h4 v5 h5
 simp only [Fm,eQ]
 rw [h5,h4,h3,h2,h1]
 unfold Bs.may
 simp only [Bool.decide_and]
 cases decide (1≤l.depth) <;> cases decide (l.depth≤200) <;> cases decide (5≤l.size) <;> cases decide (l.size≤16777216) <;> cases decide (0≤l.out) <;> rfl
end Go.Eng
set_option maxRecDepth 20000
namespace Go.Eng
open Go.IntWalk
theorem xT {n:Nat} (h:n<18446744073709551616):(UInt64.ofInt (n:Int)).toNat=n:=by
 have:=k8 (n:Int)
 rw [fv] at this
 omega
namespace Bs
theorem mG {b x r y:Str} (h:y.length=x.length):jr (b++(x++r)) b.length y=b++(y++r):=by
 unfold jr
 rw [List.take_left,h,←List.drop_drop,List.drop_left,List.drop_left]
theorem fB (s:Str):(fC s).length=s.length+5:=by simp only [fC,ak,bU,aD];omega
theorem gw (s:Str):(ib s).length=s.length+5:=by simp only [ib,ak,bU,aD];omega
end Bs
theorem cO.goal (s:Str) (b:List UInt8) (hp:decide (b.length+s.length≤1099511627776)=true):cO.F s b=some [.ag [.pt],.sl .bs (b++(s++[0]))]:=by
 have h:=au hp
 refine cO.cR _ _ ?_
 intro v1 h1
 rw [bw (od.2 (by rw [ln];omega)),bw (aa (by omega)),bw (aa (by rw [ak];omega)),h1,aB];rfl
theorem eu.goal (s:Str) (b:List UInt8) (hp:decide (b.length+s.length+10≤1099511627776)=true):eu.F s b=some [.ag [.pt],.sl .bs (b++Bs.fC s)]:=by
 have h:=au hp
 refine eu.cR _ _ ?_
 intro v1 h1 v2 h2
 have e1:v1=((s.length+1:Nat):Int):=by rw [h1,i64_in _ (by omega)];omega
 rw [e1,xT (by omega)] at h2
 have h2:v2=b++Bs.ff 4 (s.length+1):=h2
 rw [bw (aa ⟨by omega,by omega,by omega⟩),bw (aa (by rw [h2,ak,Bs.bU];omega)),h2,aB];rfl
theorem bF.fx (n a:Nat) (l:List bx) (hn:2 * bx.cw l<n) (hL:bx.cw l≤1000000000000):∀(m i:Nat) (x:List UInt8),i+m=l.length→a+4≤x.length→x.length+30 * bx.cw (l.drop i)+46≤1000000000000 →
  bF.l1 n (a:Int) l (l.length:Int) (i:Int) x=some [.ag [.pt],.sl .bs (Bs.jr (x++(Bs.dS (l.drop i)++[0])) a (Bs.ff 4 (x.length+(Bs.dS (l.drop i)).length+1 - a)))]
 | 0,i,x,hi,ha,hs=>by
  refine bF.fo _ _ _ _ _ _ ?_
  intro v1 h1 v2 h2 v3 h3 v4 h4 v5 h5 v6 h6 v7 h7 v8 h8
  have e6:v6=x++[0]:=h6
  have l6:v6.length=x.length+1:=by rw [e6];simp
  have e7:v7=((x.length+1 - a:Nat):Int):=by rw [h7,l6,i64_in _ (by omega)];omega
  rw [e7,xT (by omega),ar] at h8
  rw [ab (by omega),af,bw (aa (by omega)),bw (aa ⟨by omega,by omega,by omega,by omega,by omega⟩),h8,aW (by omega),e6]
  simp [Bs.dS]
 | m+1,i,x,hi,ha,hs=>by
  have hk:=nj l
  refine bF.fo _ _ _ _ _ _ ?_
  intro v1 h1 v2 h2 v3 h3 v4 h4 v5 h5 v6 h6 v7 h7 v8 h8
  rw [ar] at h1
  have hd:l.drop i=v1 :: l.drop (i+1):=by rw [h1];exact drop_cons (by omega) _
  have hm:v1∈l:=by rw [h1,ai,ah (by omega)];exact List.getElem_mem _
  have hv:=tt v1
  have hb:=nr hm
  have hz:=Bs.wP v1
  rw [hd] at hs ⊢
  simp only [bx.cw] at hs
  rw [Bs.tx] at h4
  have l2:v2.length=x.length+1:=by rw [h2];simp
  have l3:v3.length=x.length+v1.name.length+2:=by rw [h3,ak,l2];simp;omega
  have l4:v4.length=x.length+v1.name.length+2+(Bs.enc v1).length:=by rw [h4,ak,l3]
  have IF:v1.name.length+1≤bx.dk v1:=by cases v1;simp only [bx.name,bx.dk];omega
  have zL:bx.dk (bx.of [] v1.val)+v1.name.length=bx.dk v1:=by cases v1;simp only [bx.of,bx.val,bx.kind,bx.bits,bx.high,bx.low,bx.text,bx.more,bx.sub,bx.bytes,bx.kids,bx.dk,bx.name,aM];omega
  have e5:v5=((i+1:Nat):Int):=by rw [h5,i64_in _ (by omega)];omega
  have c:(decide (v3.length+30 * bx.dk (bx.of [] (bx.val v1))+30≤1000000000000)&&decide (2 * bx.dk (bx.of [] (bx.val v1))<n))=true:=by
   rw [ae];exact ⟨aa (by omega),aa (by omega)⟩
  rw [aa (by omega),ao,bw (eT (by omega) (by omega)),bw (aa (by omega)),bw (aa (by omega)),bw c,e5,bF.fx n a l hn hL m (i+1) v4 (by omega) (by omega) (by omega)]
  have ex:v4++(Bs.dS (l.drop (i+1))++[0])=x++(Bs.dS (v1 :: l.drop (i+1))++[0]):=by
   rw [h4,h3,h2,Bs.dS]
   simp only [aB,List.cons_append,bf]
  have el:v4.length+(Bs.dS (l.drop (i+1))).length+1=x.length+(Bs.dS (v1 :: l.drop (i+1))).length+1:=by
   rw [l4,Bs.dS]
   simp only [aJ,ak,aM];omega
  rw [ex,el]
theorem bF.goal (n:Nat) (l:List bx) (b:List UInt8) (hp:(decide (b.length+30 * bx.cw l+50≤1000000000000)&&decide (2 * bx.cw l+1<n+1))=true):bF.F n l b=some [.ag [.pt],.sl .bs (b++Bs.iR l)]:=by
 rw [ae] at hp
 obtain ⟨h1,h2⟩:=hp
 have h1:=au h1
 have h2:=au h2
 refine bF.cR _ _ _ ?_
 intro v1 e1
 have e1:v1=b++Bs.ff 4 0:=e1
 have l1:v1.length=b.length+4:=by rw [e1,ak,Bs.bU]
 rw [bw (aa ⟨by omega,by omega,by omega⟩)]
 refine (bF.fx n b.length l (by omega) (by omega) l.length 0 v1 (by omega) (by omega) (by rw [aY];omega)).trans ?_
 rw [aY,l1,e1,aB,Bs.mG (by rw [Bs.bU,Bs.bU])]
 unfold Bs.iR Bs.ib
 rw [show b.length+4+(Bs.dS l).length+1 - b.length=(Bs.dS l).length+5 by omega]
theorem bD.goal (n:Nat) (v:bu) (b:List UInt8) (hp:(decide (b.length+30 * bx.dk (bx.of [] v)+30≤1000000000000)&&decide (2 * bx.dk (bx.of [] v)<n+1))=true):bD.F n v b=some [.ag [.pt],.sl .bs (b++Bs.enc (bx.of [] v))]:=by
 rw [ae] at hp
 obtain ⟨h1,h2⟩:=hp
 have h1:=au h1
 have h2:=au h2
 have hz:=Bs.mr v.kids
 have hb:bx.dk (bx.of [] v)=1+v.text.length+v.more.length+v.bytes.length+bx.cw v.kids:=by simp only [bx.of,bx.dk,aM,Nat.add_zero]
 have e:Bs.enc (bx.of [] v)=if Bs.gM v.kind then Bs.ff 8 v.bits.toNat else if v.kind=16 then Bs.ff 4 v.bits.toNat else if v.kind=8 then Bs.ff 1 v.bits.toNat else if v.kind=19 then Bs.ff 8 v.low.toNat++Bs.ff 8 v.high.toNat else if Bs.gF v.kind then Bs.fC v.text else if v.kind=11 then (v.text++[0])++(v.more++[0]) else if v.kind=5 then Bs.nL v.sub v.bytes else if v.kind=7 then v.bytes else if v.kind=12 then Bs.fC v.text++v.bytes else if v.kind=3∨v.kind=4 then Bs.ib (Bs.dS v.kids) else if v.kind=15 then Bs.nM (Bs.fC v.text++Bs.ib (Bs.dS v.kids)) else []:=by
  simp only [bx.of,Bs.enc]
 have cb:∀x:List UInt8,x.length≤b.length+v.text.length+10→(decide (x.length+30 * bx.cw v.kids+50≤1000000000000)&&decide (2 * bx.cw v.kids+1<n))=true:=fun x hx=>by
  rw [ae];exact ⟨aa (by omega),aa (by omega)⟩
 have j4:bD.j4 n v.kind (decide (v.kind=3∨v.kind=4)) v b=some [.ag [.pt],.sl .bs (b++if v.kind=3∨v.kind=4 then Bs.ib (Bs.dS v.kids) else if v.kind=15 then Bs.nM (Bs.fC v.text++Bs.ib (Bs.dS v.kids)) else [])]:=by
  refine bD.s7 _ _ _ _ _ ?_
  intro v1 e1 v2 e2 v3 e3 v4 e4 v5 e5 v6 e6
  by_cases c:v.kind=3∨v.kind=4
  ·rw [aa c,ao,aq c,bw (cb b (by omega)),e1];rfl
  rw [ab c,af,al c]
  by_cases c:v.kind=15
  ·have e2:v2=b++Bs.ff 4 0:=e2
   have l2:v2.length=b.length+4:=by rw [e2,ak,Bs.bU]
   have l3:v3.length=b.length+v.text.length+9:=by rw [e3,ak,l2,Bs.fB];omega
   have l4:v4.length=b.length+v.text.length+14+(Bs.dS v.kids).length:=by rw [e4,ak,l3];unfold Bs.iR;rw [Bs.gw];omega
   have q5:v5=((v.text.length+14+(Bs.dS v.kids).length:Nat):Int):=by rw [e5,l4,i64_in _ (by omega)];omega
   rw [q5,xT (by omega),ar] at e6
   have q4:v4=b++(Bs.ff 4 0++(Bs.fC v.text++Bs.ib (Bs.dS v.kids))):=by rw [e4,e3,e2];simp only [aB];rfl
   have q6:v6=b++Bs.nM (Bs.fC v.text++Bs.ib (Bs.dS v.kids)):=by
    rw [e6,q4]
    refine (Bs.mG (by show (Bs.ff 4 _).length=_;rw [Bs.bU,Bs.bU])).trans ?_
    unfold Bs.nM
    rw [ak,Bs.fB,Bs.gw]
    have:v.text.length+5+((Bs.dS v.kids).length+5)+4=v.text.length+14+(Bs.dS v.kids).length:=by omega
    rw [this];rfl
   rw [aa c,ao,aq c,bw (aa ⟨by omega,by omega,by omega⟩),bw (aa (by omega)),bw (cb v3 (by omega)),bw (aa ⟨by omega,by omega,by omega,by omega,by omega⟩),q6]
  ·rw [ab c,al c,bm];rfl
 have j2:bD.j2 n v.kind (Bs.gF v.kind) v b=some [.ag [.pt],.sl .bs (b++if Bs.gF v.kind then Bs.fC v.text else if v.kind=11 then (v.text++[0])++(v.more++[0]) else if v.kind=5 then Bs.nL v.sub v.bytes else if v.kind=7 then v.bytes else if v.kind=12 then Bs.fC v.text++v.bytes else if v.kind=3∨v.kind=4 then Bs.ib (Bs.dS v.kids) else if v.kind=15 then Bs.nM (Bs.fC v.text++Bs.ib (Bs.dS v.kids)) else [])]:=by
  refine bD.lO _ _ _ _ _ ?_
  intro v1 e1 v2 e2 v3 e3 v4 e4 v5 e5 v6 e6 v7 e7 v8 e8 v9 e9 v10 kT
  cases ht:Bs.gF v.kind with
  | true=>rw [ao,aq rfl,bw (aa (by omega)),e1]
  | false =>
   rw [af,al (by simp)]
   by_cases c:v.kind=11
   ·have l2:v2.length=b.length+v.text.length+1:=by rw [e2];simp;omega
    rw [aa c,ao,aq c,bw (aa (by omega)),bw (aa (by omega)),e3,e2,aB]
   rw [ab c,af,al c]
   by_cases c:v.kind=5
   ·rw [aa c,ao,aq c]
    rw [e4] at e5 e8 e9
    have u4:(UInt64.ofInt (v.bytes.length:Int)).toNat=v.bytes.length:=xT (by omega)
    have e9:v9=b++Bs.ff 4 v.bytes.length:=by rw [e9,u4];rfl
    have e8:v8=v7++Bs.ff 4 v.bytes.length:=by rw [e8,u4];rfl
    have e6:v6=b++Bs.ff 4 (v.bytes.length+4):=by
     have:v5.toNat=v.bytes.length+4:=by
      rw [e5,UInt64.toNat_add,u4]
      exact Nat.mod_eq_of_lt (by show v.bytes.length+4<18446744073709551616;omega)
     rw [e6,this];rfl
    have l6:v6.length=b.length+4:=by rw [e6,ak,Bs.bU]
    have l7:v7.length=b.length+5:=by rw [e7,ak,l6];rfl
    have l8:v8.length=b.length+9:=by rw [e8,ak,l7,Bs.bU]
    have l9:v9.length=b.length+4:=by rw [e9,ak,Bs.bU]
    have l10:v10.length=b.length+5:=by rw [kT,ak,l9];rfl
    unfold Bs.nL
    by_cases d:v.sub=2
    ·rw [aa d,ao,aq d,bw (aa ⟨by omega,by omega,by omega⟩),bw (aa (by omega)),bw (aa ⟨by omega,by omega,by omega⟩),bD.zx,bw (aa (by omega)),e8,e7,e6]
     simp only [aB,List.cons_append,bf]
    ·rw [ab d,af,al d,bw (aa ⟨by omega,by omega,by omega⟩),bw (aa (by omega)),bD.zx,bw (aa (by omega)),kT,e9]
     simp only [aB,List.cons_append,bf]
   rw [ab c,af,al c]
   by_cases c:v.kind=7
   ·rw [aa c,ao,aq c,bw (aa (by omega))]
   rw [ab c,af,al c]
   by_cases c:v.kind=12
   ·rw [aa c,ao,aq c,bw (aa (by omega)),bw (aa (by rw [e1,ak,Bs.fB];omega)),e1,aB]
   rw [ab c,af,al c]
   rw [xc (fun q=>bD.j4 n v.kind q v b)]
   exact j4
 rw [bD.fh,xa (fun q=>bD.j1 n v.kind q v b),e,show decide (v.kind=1∨v.kind=9∨v.kind=17∨v.kind=18)=Bs.gM v.kind from rfl]
 refine bD.qy _ _ _ _ _ ?_
 intro v1 e1 v2 e2 v3 e3 v4 e4 v5 e5
 have e4:v4=b++Bs.ff 8 v.low.toNat:=e4
 have l4:v4.length=b.length+8:=by rw [e4,ak,Bs.bU]
 cases hn:Bs.gM v.kind with
 | true=>rw [ao,aq rfl,bw (aa ⟨by omega,by omega,by omega⟩),e1];rfl
 | false =>
  rw [af,al (by simp)]
  by_cases c:v.kind=16
  ·rw [aa c,ao,aq c,bw (aa ⟨by omega,by omega,by omega⟩),e2];rfl
  rw [ab c,af,al c]
  by_cases c:v.kind=8
  ·rw [aa c,ao,aq c,bw (aa ⟨by omega,by omega,by omega⟩),e3];rfl
  rw [ab c,af,al c]
  by_cases c:v.kind=19
  ·rw [aa c,ao,aq c,bw (aa ⟨by omega,by omega,by omega⟩),bw (aa ⟨by omega,by omega,by omega⟩),e5,e4,aB];rfl
  rw [ab c,af,al c]
  rw [xb (fun q=>bD.j2 n v.kind q v b)]
  exact j2
theorem cZ.goal (v:bu) (hp:decide (bx.dk (bx.of [] v)≤10000000000)=true):cZ.F v=some [.sl .bs (Bs.encode v).1,.ag (cq.cells ⟨(Bs.encode v).2.1,0,(Bs.encode v).2.2⟩)]:=by
 have h:=au hp
 have hb:bx.dk (bx.of [] v)=1+v.text.length+v.more.length+v.bytes.length+bx.cw v.kids:=by simp only [bx.of,bx.dk,aM,Nat.add_zero]
 have hz:=Bs.mr v.kids
 refine cZ.cR _ ?_
 intro v1 h1 v2 h2 v3 h3 v4 h4
 have e4:v4=Bs.iR v.kids:=h4
 have l4:v4.length=(Bs.dS v.kids).length+5:=by rw [e4];unfold Bs.iR;rw [Bs.gw]
 unfold Bs.encode
 rw [bw (aa (by omega)),←h2]
 by_cases c:v2=0
 ·rw [aa c,aK,af,al (by simp [c])]
  by_cases k:v.kind=3
  ·rw [aa k,aK,af,al (by simp [k]),bw (aa (by omega)),h3]
   by_cases q:16777216<Bs.size (bx.of [] v)
   ·rw [aa (by omega),ao,aq q];rfl
   ·rw [ab (by omega),af,al q,bw (aa (by simp;omega)),bw (aa (by show v4.length≤_;omega))]
    show some [TV.sl .bs v4,_]=_
    rw [e4];rfl
  ·rw [ab k,aQ,ao,aq k];rfl
 ·rw [ab c,aQ,ao,aq c,h1];rfl
end Go.Eng
set_option maxRecDepth 20000
namespace Go.Eng
open Go.IntWalk
theorem FL (n:Int):IntKind.wrap .i32 n=(if n % 4294967296 ≥ 2147483648 then n % 4294967296 - 4294967296 else n % 4294967296):=by
 simp [IntKind.wrap,IntKind.bits,IntKind.signed]
theorem bW.goal (e a:Int):bW.F e a=some [.ag (cq.cells ⟨e,a,[]⟩)]:=bW.fh e a
theorem Bs.oS (b:Str) (p:Nat):Bs.vd b p<4294967296:=by
 unfold Bs.vd
 refine Nat.lt_of_lt_of_le (Bs.lu _) ?_
 have:(256:Nat) ^ ((b.drop p).take 4).length≤256 ^ 4:=Nat.pow_le_pow_right (by omega) (by rw [ay];omega)
 exact this
theorem Bs.ja (b:Str) (p:Nat) : -2147483648≤Bs.cU b p∧Bs.cU b p<2147483648:=by
 have:=Bs.oS b p
 unfold Bs.cU
 split <;> omega
theorem cd.goal (r:bA) (at_:Int) (hp:decide (0≤at_∧at_+4≤(r.b.length:Int)∧r.b.length≤1000000000)=true):cd.F r at_=some [.i .i64 (Bs.cU r.b at_.toNat),.ag (bA.cells r)]:=by
 obtain ⟨h1,h2,h3⟩:=au hp
 refine cd.cR _ _ ?_
 intro v1 e1 v2 e2 v3 e3 v4 e4 v5 e5 v6 e6
 have q1:v1=at_+4:=by rw [e1,i64_in _ (by omega)]
 have q2:v2=(r.b.drop at_.toNat).take 4:=by rw [e2,q1,List.drop_take,show (at_+4).toNat - at_.toNat=4 by omega]
 have l2:v2.length=4:=by rw [q2,ay,aL];omega
 have c:Bs.can ⟨v2,0⟩ 4=true:=aa ⟨by omega,by omega,by show (4:Int)≤(v2.length:Int) - 0;omega⟩
 have nb:Bs.fH ⟨v2,0⟩ 4=v2:=by
  unfold Bs.fH
  rw [aq c]
  show (v2.drop 0).take 4=v2
  rw [aY,List.take_of_length_le (by omega)]
 have eL:=Bs.oS r.b at_.toNat
 have q4:v4.toNat=Bs.vd r.b at_.toNat:=by
  rw [e4,nb,UInt64.toNat_ofNat',q2]
  exact Nat.mod_eq_of_lt (by unfold Bs.vd at eL;omega)
 have hr:=Bs.ja r.b at_.toNat
 have q6:v6=Bs.cU r.b at_.toNat:=by
  rw [e6,q4,FL]
  unfold Bs.cU
  split <;> split <;> omega
 rw [bw (gj (by omega) (by omega) (by omega)),bw (aa (by omega)),bw (aa ⟨by omega,by omega,by show (0:Int)≤0;omega,by show (0:Int)≤(v2.length:Int);omega,by show v2.length≤_;omega⟩),q6,i64_in _ (by omega)]
theorem zU {X:Type} {k a b c d e g:Int} (f:Bool→X):cond (decide (k=a)) (f (decide (k=a))) (cond (decide (k=b)) (f (decide (k=b))) (cond (decide (k=c)) (f (decide (k=c))) (cond (decide (k=d)) (f (decide (k=d))) (cond (decide (k=e)) (f (decide (k=e))) (f (decide (k=g)))))))=f (decide (k=a∨k=b∨k=c∨k=d∨k=e∨k=g)):=by
 by_cases h1:k=a
 ·subst h1;simp
 by_cases h2:k=b
 ·subst h2;simp [h1]
 by_cases h3:k=c
 ·subst h3;simp [h1,h2]
 by_cases h4:k=d
 ·subst h4;simp [h1,h2,h3]
 by_cases h5:k=e
 ·subst h5;simp [h1,h2,h3,h4]
 simp [h1,h2,h3,h4,h5]
theorem bJ.goal (k:Int):bJ.F k=some [.i .i64 ((Bs.fixed k:Nat):Int)]:=by
 rw [bJ.fh,xa (fun q=>bJ.j1 k q),bJ.qz,zU (fun q=>bJ.j2 k q),bJ.jE,show decide (k=1∨k=9∨k=17∨k=18)=Bs.gM k from rfl]
 unfold Bs.fixed
 cases hn:Bs.gM k with
 | true=>rw [aq rfl];rfl
 | false =>
  rw [al (by simp),af]
  have e:decide (k=16∨k=2∨k=13∨k=14∨k=12∨k=15)=decide (k=16∨Bs.gF k=true∨k=12∨k=15):=by
   apply aV.2
   unfold Bs.gF
   rw [decide_eq_true_iff]
   constructor
   ·rintro (h | h | h | h | h | h) <;> simp [h]
   ·rintro (h | (h | h | h) | h | h) <;> simp [h]
  rw [e]
  by_cases c:k=16∨Bs.gF k=true∨k=12∨k=15
  ·rw [aa c,ao,aq c];rfl
  rw [ab c,af,al c]
  by_cases c:k=8
  ·rw [aa c,ao,aq c];rfl
  rw [ab c,af,al c]
  by_cases c:k=19
  ·rw [aa c,ao,aq c];rfl
  rw [ab c,af,al c]
  by_cases c:k=7
  ·rw [aa c,ao,aq c];rfl
  rw [ab c,af,al c]
  by_cases c:k=5
  ·rw [aa c,ao,aq c];rfl
  rw [ab c,af,al c];rfl
namespace Bs
theorem hO {b:Str} {a:Int} (h:(ctext b a).2.2=0):0≤a∧∃k:Nat,Lib.indexByte (b.drop a.toNat) 0=(k:Int)∧a.toNat+k<b.length∧(ctext b a).1=(b.drop a.toNat).take k∧(ctext b a).2.1=a+k+1∧dp.whole ((b.drop a.toNat).take k)=true∧b[a.toNat+k]?=some 0∧∀j,j<k→b[a.toNat+j]?≠some 0:=by
 unfold ctext at h ⊢
 by_cases c:a<0∨(b.length:Int)<a
 ·rw [aq c] at h;cases h
 rw [al c] at h ⊢
 by_cases d:Lib.indexByte (b.drop a.toNat) 0<0
 ·rw [aq d] at h;cases h
 rw [al d] at h ⊢
 obtain ⟨k,k1,k2,k3,k4⟩:=wk d
 rw [k1,ar] at h ⊢
 by_cases e:dp.whole ((b.drop a.toNat).take k)=false
 ·rw [aq e] at h;cases h
 rw [al e]
 rw [aL] at k2
 refine ⟨by omega,k,rfl,by omega,rfl,rfl,by simpa using e,by rw [←List.getElem?_drop];exact k3,fun j hj=>by rw [←List.getElem?_drop];exact k4 j hj⟩
end Bs
theorem dG.goal (r:bA) (q z:Int) (hp:decide (0≤q∧q≤z∧z≤(r.b.length:Int)∧r.b.length≤1000000000)=true):dG.F r q z=some [.s (Bs.gh ([],0) (Bs.ended r.b q.toNat z.toNat)).1,.i .i64 ((Bs.gh ([],0) (Bs.ended r.b q.toNat z.toNat)).2:Int),.ag (cq.cells (Bs.iI (Bs.ended r.b q.toNat z.toNat))),.ag (bA.cells r)]:=by
 obtain ⟨h1,h2,h3,h4⟩:=au hp
 refine dG.cR _ _ _ ?_
 intro v1 e1 v2 e2
 rw [bw (gj (by omega) (by omega) (by omega)),bw (aa (by rw [e1,ay];omega)),e2,e1]
 unfold Bs.ended
 rw [show ((q.toNat:Nat):Int)=q by omega]
 by_cases c:(Bs.ctext (r.b.take z.toNat) q).2.2=0
 ·obtain ⟨_,k,_,_,_,k1,_⟩:=Bs.hO c
  rw [aa c,aK,af,al (by simp [c])]
  simp only [Bs.gh,Bs.iI]
  rw [show (((Bs.ctext (r.b.take z.toNat) q).2.1.toNat:Nat):Int)=(Bs.ctext (r.b.take z.toNat) q).2.1 by omega];rfl
 ·rw [ab c,aQ,ao,aq c]
  simp only [Bs.gh,Bs.iI]
  rw [show ((q.toNat:Nat):Int)=q by omega];rfl
theorem tc (c:Bool):(!(!c) || ((!c)&&(!c)))=true∧(!(!c) || (!c))=true∧(c || (!c))=true:=by cases c <;> decide
theorem dK.goal (r:bA) (q z:Int) (hp:decide (0≤q∧q≤z∧z≤(r.b.length:Int)∧r.b.length≤1000000000)=true):dK.F r q z=some [.s (Bs.gh ([],0) (Bs.text r.b q.toNat z.toNat)).1,.i .i64 ((Bs.gh ([],0) (Bs.text r.b q.toNat z.toNat)).2:Int),.ag (cq.cells (Bs.iI (Bs.text r.b q.toNat z.toNat))),.ag (bA.cells r)]:=by
 obtain ⟨h1,h2,h3,h4⟩:=au hp
 obtain ⟨q,rfl⟩:∃k:Nat,q=(k:Int):=⟨q.toNat,by omega⟩
 obtain ⟨z,rfl⟩:∃k:Nat,z=(k:Int):=⟨z.toNat,by omega⟩
 refine dK.cR _ _ _ ?_
 rw [ar q,ar z]
 intro v1 e1 v2 e2 v3 e3 v4 e4 v5 e5 v6 e6 v7 e7
 have hr:=Bs.ja r.b q
 unfold Bs.text
 rw [i64_in ((z:Int) - q) (by omega)] at e1 ⊢
 by_cases c:z - q<4
 ·rw [aa (show (z:Int) - q<4 by omega),ao,aq c];rfl
 rw [al c]
 generalize Bs.cU r.b q=n at *
 unfold Bs.pU
 rw [ab (show ¬(z:Int) - q<4 by omega),af,bw (aa ⟨by omega,by omega,by omega⟩),bw (tc _).1,bw (tc _).2.1,bw (tc _).1,bw (tc _).2.2]
 rw [i64_in _ (by omega)] at e1
 have q2:v2=decide (n<1∨(z:Int) - q - 4<n):=by
  rw [e2,e1]
  by_cases d:n<1
  ·rw [aa d,aa (show n<1∨(z:Int) - q - 4<n from .inl d)];rfl
  ·rw [ab d,af]
   exact aV.2 (by omega)
 rw [q2]
 by_cases d:n<1∨(z:Int) - q - 4<n
 ·rw [aa d,ao];simp only [aq d];rfl
 rw [ab d,af]
 simp only [al d]
 have q3:v3=((q+4:Nat):Int):=by rw [e3,i64_in _ (by omega)];omega
 have q4:v4=((q+4+n.toNat:Nat):Int):=by rw [e4,q3,i64_in _ (by omega)];omega
 have q5:v5=((q+4+n.toNat - 1:Nat):Int):=by rw [e5,q4,i64_in _ (by omega)];omega
 rw [q5,ar] at e6
 have q7:v7=(r.b.drop (q+4)).take (n.toNat - 1):=by
  rw [e7,q3,q5,ar,ar,List.drop_take,show q+4+n.toNat - 1 - (q+4)=n.toNat - 1 by omega]
 have l7:v7.length≤1099511627776:=by rw [q7,ay,aL];omega
 rw [bw (by rw [q5];exact eT (by omega) (by omega))]
 by_cases g:v6=0
 ·have cc:dV v3 v5 r.b.length=true:=by rw [q3,q5];exact gj (by omega) (by omega) (by omega)
  rw [aa g,aK,af,al (by rw [←e6];simp [g]),bw cc,bw (aa l7),←q7]
  cases hw:dp.whole v7 with
  | false =>
   rw [aQ,ao,aq rfl,q3];rfl
  | true=>rw [aK,af,al (by simp),bw cc,q4];rfl
 ·rw [ab g,aQ,ao,aq (by rw [←e6];exact g),q5];rfl
theorem bR.goal (r:bA) (q z:Int) (hp:decide (0≤q∧q+5≤z∧z≤(r.b.length:Int)∧r.b.length≤1000000000)=true):bR.F r q z=some [.i .i64 (Bs.gh (0,[],0) (Bs.binary r.b q.toNat z.toNat)).1,.sl .bs (Bs.gh (0,[],0) (Bs.binary r.b q.toNat z.toNat)).2.1,.i .i64 ((Bs.gh (0,[],0) (Bs.binary r.b q.toNat z.toNat)).2.2:Int),.ag (cq.cells (Bs.iI (Bs.binary r.b q.toNat z.toNat))),.ag (bA.cells r)]:=by
 obtain ⟨h1,h2,h3,h4⟩:=au hp
 obtain ⟨q,rfl⟩:∃k:Nat,q=(k:Int):=⟨q.toNat,by omega⟩
 obtain ⟨z,rfl⟩:∃k:Nat,z=(k:Int):=⟨z.toNat,by omega⟩
 refine bR.cR _ _ _ ?_
 rw [ar q,ar z]
 intro v1 e1 v2 e2 v3 e3 v4 e4 v5 e5 v6 e6 v7 e7 v8 e8 v9 e9 v10 kT v11 vm
 have hr:=Bs.ja r.b q
 unfold Bs.binary
 generalize Bs.cU r.b q=n at *
 unfold Bs.yV
 rw [i64_in ((z:Int) - q) (by omega),i64_in _ (by omega)] at e1
 have q2:v2=decide (n<0∨(z:Int) - q - 5<n):=by
  rw [e2,e1]
  by_cases d:n<0
  ·rw [aa d,aa (show n<0∨(z:Int) - q - 5<n from .inl d)];rfl
  ·rw [ab d,af]
   exact aV.2 (by omega)
 rw [bw (aa ⟨by omega,by omega,by omega⟩),bw (tc _).1,bw (tc _).2.1,bw (tc _).1,bw (tc _).2.2,q2]
 by_cases d:n<0∨(z:Int) - q - 5<n
 ·rw [aa d,ao];simp only [aq d];rfl
 rw [ab d,af]
 simp only [al d]
 have q3:v3=((q+4:Nat):Int):=by rw [e3,i64_in _ (by omega)];omega
 have q6:v6=((q+5:Nat):Int):=by rw [e6,i64_in _ (by omega)];omega
 have q7:v7=((q+5+n.toNat:Nat):Int):=by rw [e7,q6,i64_in _ (by omega)];omega
 rw [q3,ar] at e4
 have hc:=v4.toNat_lt
 have q5:v5=((v4.toNat:Nat):Int):=by rw [e5,i64_in _ (by omega)]
 rw [q6,ar] at e8
 rw [i64_in _ (by omega)] at e9
 have zq:v11=((q+9:Nat):Int):=by rw [vm,q6,i64_in _ (by omega)];omega
 have j1:∀(a:Nat),q+5≤a→a≤q+5+n.toNat→bR.j1 v5 (a:Int) v7 ⟨0,0,[]⟩ r.b r.at_=some [.i .i64 v5,.sl .bs ((r.b.drop a).take (q+5+n.toNat - a)),.i .i64 v7,.ag (cq.cells ⟨0,0,[]⟩),.ag (bA.cells r)]:=fun a ha IJ=>by
  refine bR.qy _ _ _ _ _ _ ?_
  intro w1 f1
  have g1:w1=(r.b.drop a).take (q+5+n.toNat - a):=by rw [f1,q7,ar,ar,List.drop_take]
  have l1:w1.length≤1099511627776:=by rw [g1,ay,aL];omega
  rw [bw (by rw [q7];exact gj (by omega) (by omega) (by omega)),bw (fQ (by omega) (by omega)),g1];rfl
 rw [bw (by rw [q3];exact eT (by omega) (by omega)),←e4]
 by_cases s:((v4.toNat:Nat):Int)=2
 ·rw [aa (show v5=2 by omega),ao,aq s]
  by_cases c4:n<4
  ·rw [aa c4] at kT ⊢
   have kT:v10=true:=kT
   rw [kT,aq (.inl c4),q6];rfl
  ·rw [ab c4] at kT ⊢
   rw [af,e8,e9] at kT
   have c8:decide (0≤v6∧v6+4≤(r.b.length:Int)∧r.b.length≤1000000000)=true:=aa ⟨by omega,by omega,by omega⟩
   rw [c8,kT]
   by_cases c9:Bs.cU r.b (q+5)=n - 4
   ·rw [aa c9,al (by rintro (w | w);exact c4 w;exact w c9),zq]
    refine Eq.trans (b:=bR.j1 v5 ((q+9:Nat):Int) v7 ⟨0,0,[]⟩ r.b r.at_) rfl ?_
    rw [j1 (q+9) (by omega) (by omega),q5,q7,show q+5+n.toNat - (q+9)=n.toNat - 4 by omega];rfl
   ·rw [ab c9,aq (.inr c9),q6];rfl
 ·rw [ab (show ¬v5=2 by omega),af,al s,q6,j1 (q+5) (by omega) (by omega),q5,q7,show q+5+n.toNat - (q+5)=n.toNat by omega];rfl
end Go.Eng
set_option maxRecDepth 20000
namespace Go.Eng
open Go.IntWalk
namespace Bs
def GX {A:Type} (X:Except E A):Prop:=∀e a,X = .error (e,a)→e≠0
def nO {A:Type} (X:Except E A) (f:A→Nat) (q z:Nat):Prop:=(∀e a,X = .error (e,a)→e≠0∧a≤z)∧∀y,X = .ok y→q≤f y∧f y≤z
theorem nO.ne {A:Type} {X:Except E A} {f:A→Nat} {q z:Nat} (h:nO X f q z):GX X:=fun e a g=>(h.1 e a g).1
theorem dy {A:Type} {f:A→Nat} {q z:Nat} {e:Int} {a:Nat} (h:e≠0) (g:a≤z):nO (.error (e,a):Except E A) f q z:=⟨(fun _ _ i=>by cases i;exact ⟨h,g⟩),(fun _ i=>by cases i)⟩
theorem gG {A:Type} {f:A→Nat} {q z:Nat} {y:A} (h:q≤f y∧f y≤z):nO (.ok y:Except E A) f q z:=⟨(fun _ _ i=>by cases i),(fun _ i=>by cases i;exact h)⟩
theorem jS {b:Str} {q z:Nat} (h1:q≤z) (h2:z≤b.length):nO (ended b q z) (fun y=>y.2) q z:=by
 unfold ended
 by_cases c:(ctext (b.take z) q).2.2=0
 ·obtain ⟨_,k,_,k2,_,k1,_⟩:=hO c
  rw [al (by simp [c])]
  rw [ay] at k2
  refine gG ?_
  show q≤(ctext (b.take z) q).2.1.toNat∧(ctext (b.take z) q).2.1.toNat≤z
  omega
 ·rw [aq c];exact dy c h1
theorem jo {b:Str} {q z:Nat} (h1:q≤z) (h2:z≤b.length):nO (text b q z) (fun y=>y.2) q z:=by
 unfold text
 by_cases c:z - q<4
 ·rw [aq c];exact dy (by decide) h1
 rw [al c];unfold pU
 by_cases d:cU b q<1∨(z:Int) - q - 4<cU b q
 ·rw [aq d];exact dy (by decide) h1
 rw [al d]
 by_cases e:b.getD (q+4+(cU b q).toNat - 1) 0≠0
 ·rw [aq e];exact dy (by decide) (by omega)
 rw [al e]
 by_cases f:dp.whole ((b.drop (q+4)).take ((cU b q).toNat - 1))=false
 ·rw [aq f];exact dy (by decide) (by omega)
 rw [al f]
 exact gG ⟨by show q≤q+4+(cU b q).toNat;omega,by show q+4+(cU b q).toNat≤z;omega⟩
theorem nx {b:Str} {q z:Nat} (h1:q+5≤z) (h2:z≤b.length):nO (binary b q z) (fun y=>y.2.2) q z:=by
 unfold binary yV
 by_cases d:cU b q<0∨(z:Int) - q - 5<cU b q
 ·rw [aq d];exact dy (by decide) (by omega)
 rw [al d]
 by_cases e:((b.getD (q+4) 0).toNat:Int)=2
 ·rw [aq e]
  by_cases f:cU b q<4∨cU b (q+5)≠cU b q - 4
  ·rw [aq f];exact dy (by decide) (by omega)
  ·rw [al f];exact gG ⟨by show q≤q+5+(cU b q).toNat;omega,by show q+5+(cU b q).toNat≤z;omega⟩
 ·rw [al e];exact gG ⟨by show q≤q+5+(cU b q).toNat;omega,by show q+5+(cU b q).toNat≤z;omega⟩
def FJ (dc:Str→Nat→Nat→Int→Except E (List bx × Nat)) (b:Str):Prop:=∀p z fZ,p≤z→z≤b.length→nO (dc b p z fZ) (fun y=>y.2) p z
theorem nX {dc:Str→Nat→Nat→Int→Except E (List bx × Nat)} {b:Str} (hd:FJ dc b) {q z:Nat} (h1:q≤z) (h2:z≤b.length):nO (ew dc b q z).2 (fun y=>y.2) q z:=by
 unfold ew mH
 by_cases d:cU b q<14∨(z:Int) - q<cU b q
 ·rw [aq d];exact dy (by decide) h1
 rw [al d]
 have ht:=@jo b (q+4) (q+(cU b q).toNat) (by omega) (by omega)
 match hx:text b (q+4) (q+(cU b q).toNat) with
 | .error (e,a)=>exact dy (ht.1 e a hx).1 (by have:=(ht.1 e a hx).2;omega)
 | .ok (s,x) =>
  have hy:q+4≤x∧x≤q+(cU b q).toNat:=ht.2 _ hx
  have hr:=hd x (q+(cU b q).toNat) 2 (by omega) (by omega)
  show nO (dc b x (q+(cU b q).toNat) 2) (fun y=>y.2) q z
  exact ⟨fun e a i=>⟨(hr.1 e a i).1,by have:=(hr.1 e a i).2;omega⟩,fun y i=>by have:=hr.2 y i;show q≤y.2∧y.2≤z;have h3:x≤y.2∧y.2≤q+(cU b q).toNat:=this;omega⟩
theorem nO.map {A B:Type} {X:Except E A} {Y:Except E B} {f:A→Nat} {g:B→Nat} {q z:Nat} (hX:nO X f q z) (he:∀e,X = .error e→Y = .error e) (ho:∀y,X = .ok y→∃w,Y = .ok w∧g w=f y):nO Y g q z:=by
 cases X with
 | error e=>rw [he e rfl];exact dy (hX.1 e.1 e.2 rfl).1 (hX.1 e.1 e.2 rfl).2
 | ok y=>obtain ⟨w,h,i⟩:=ho y rfl;rw [h];exact gG (by rw [i];exact hX.2 y rfl)
theorem qP (k:Int):fixed k≤16:=by
 unfold fixed
 repeat' split
 all_goals omega
theorem qp {k:Int}:gM k=true ↔ k=1∨k=9∨k=17∨k=18:=by unfold gM;exact decide_eq_true_iff
theorem ox {k:Int} (h:gM k=true∨k=16∨k=8):1≤fixed k∧fixed k≤8∧(k=8→fixed k=1):=by
 rcases h with h | h | h
 ·rcases qp.1 h with h | h | h | h <;> subst h <;> decide
 ·subst h;decide
 ·subst h;decide
theorem pR {dc:Str→Nat→Nat→Int→Except E (List bx × Nat)} {b:Str} (hd:FJ dc b) {k:Int} {q z:Nat} (h1:q≤z) (h2:z≤b.length):nO (eM dc b k q z) (fun y=>y.2) q z:=by
 unfold eM
 by_cases c:z - q<fixed k
 ·rw [aq c];exact dy (by decide) h1
 rw [al c]
 by_cases c1:gM k∨k=16∨k=8
 ·rw [aq c1]
  by_cases d:k=8∧1<gD (sub b q 1)
  ·rw [aq d];exact dy (by decide) h1
  ·rw [al d];exact gG ⟨Nat.le_add_right _ _,by show q+fixed k≤z;have:=ox c1;omega⟩
 rw [al c1]
 by_cases c2:k=19
 ·rw [aq c2];subst c2;have:fixed 19=16:=by decide
  exact gG ⟨Nat.le_add_right _ _,by show q+16≤z;omega⟩
 rw [al c2]
 by_cases c3:k=7
 ·rw [aq c3];subst c3;have:fixed 7=12:=by decide
  exact gG ⟨Nat.le_add_right _ _,by show q+12≤z;omega⟩
 rw [al c3];unfold xO
 by_cases c4:gF k
 ·rw [aq c4];exact (jo h1 h2).map (fun e i=>by rw [i]) (fun y i=>⟨_,by rw [i],rfl⟩)
 rw [al c4]
 by_cases c5:k=12
 ·rw [aq c5]
  have ht:=jo h1 h2
  match hx:text b q z with
  | .error (e,a)=>exact dy (ht.1 e a hx).1 (ht.1 e a hx).2
  | .ok (s,x) =>
   have hy:q≤x∧x≤z:=ht.2 _ hx
   show nO (if z - x<12 then _ else _) (fun y:bu × Nat=>y.2) q z
   by_cases c6:z - x<12
   ·rw [aq c6];exact dy (by decide) hy.2
   ·rw [al c6];exact gG ⟨by show q≤x+12;omega,by show x+12≤z;omega⟩
 rw [al c5]
 by_cases c6:k=11
 ·rw [aq c6]
  have ht:=jS h1 h2
  match hx:ended b q z with
  | .error (e,a)=>exact dy (ht.1 e a hx).1 (ht.1 e a hx).2
  | .ok (s,x) =>
   have hy:q≤x∧x≤z:=ht.2 _ hx
   have hu:=@jS b x z hy.2 h2
   match hv:ended b x z with
   | .error (e,a)=>show nO (match ended b x z with | .error e=>_ | .ok (m,y)=>_) (fun y:bu × Nat=>y.2) q z;rw [hv];exact dy (hu.1 e a hv).1 (hu.1 e a hv).2
   | .ok (m,y) =>
    have hw:x≤y∧y≤z:=hu.2 _ hv
    show nO (match ended b x z with | .error e=>_ | .ok (m,y)=>_) (fun y:bu × Nat=>y.2) q z;rw [hv];exact gG ⟨by show q≤y;omega,hw.2⟩
 rw [al c6]
 by_cases c7:k=5
 ·rw [aq c7]
  subst c7
  have:fixed 5=5:=by decide
  exact (nx (b:=b) (q:=q) (z:=z) (by omega) h2).map (fun e i=>by rw [i]) (fun y i=>⟨_,by rw [i],rfl⟩)
 rw [al c7];unfold xQ
 by_cases c8:k=3∨k=4
 ·rw [aq c8];exact (hd q z 0 h1 h2).map (fun e i=>by rw [i]) (fun y i=>⟨_,by rw [i],rfl⟩)
 rw [al c8]
 by_cases c9:k=15
 ·rw [aq c9];exact (nX hd h1 h2).map (fun e i=>by rw [i]) (fun y i=>⟨_,by rw [i],rfl⟩)
 rw [al c9];exact gG ⟨Nat.le_refl _,h1⟩
theorem tz {vl:Int→Nat→Nat→Except E (bu × Nat)} {b:Str} {z:Nat} (hz:z<b.length) (hv:∀k q,q≤z→nO (vl k q z) (fun y=>y.2) q z):∀(n:Nat) (a:Nat) (acc:List bx),a≤z→nO (rH vl b z n a acc) (fun y=>y.2) a (z+1)
 | 0,a,acc,ha=>dy (by decide) (by omega)
 | n+1,a,acc,ha=>by
  unfold rH
  by_cases c:a=z
  ·rw [aq c]
   by_cases d:b.getD z 0≠0
   ·rw [aq d];exact dy (by decide) (by omega)
   ·rw [al d];exact gG ⟨by show a≤z+1;omega,Nat.le_refl _⟩
  rw [al c]
  by_cases d:b.getD a 0=0
  ·rw [aq d];exact dy (by decide) (by omega)
  rw [al d]
  by_cases e:Tree.name ((b.getD a 0).toNat:Int)=[]
  ·rw [aq e];exact dy (by decide) (by omega)
  rw [al e]
  by_cases f:(ctext (b.take z) ((a:Int)+1)).2.2=0
  ·show nO (if (ctext (b.take z) ((a:Int)+1)).2.2≠0 then _ else _) (fun y:List bx × Nat=>y.2) a (z+1)
   rw [al (by simp [f])]
   obtain ⟨_,k,_,k2,_,k1,_⟩:=hO f
   rw [ay] at k2
   have hr:=hv ((b.getD a 0).toNat:Int) (ctext (b.take z) ((a:Int)+1)).2.1.toNat (by omega)
   match hx:vl ((b.getD a 0).toNat:Int) (ctext (b.take z) ((a:Int)+1)).2.1.toNat z with
   | .error (e,i)=>exact dy (hr.1 e i hx).1 (by have:=(hr.1 e i hx).2;omega)
   | .ok (v,x) =>
    have hy:(ctext (b.take z) ((a:Int)+1)).2.1.toNat≤x∧x≤z:=hr.2 _ hx
    have hq:=tz hz hv n x (acc++[bx.of (ctext (b.take z) ((a:Int)+1)).1 v]) hy.2
    refine ⟨hq.1,fun y i=>?_⟩
    have h3:x≤y.2∧y.2≤z+1:=hq.2 y i
    show a≤y.2∧y.2≤z+1
    omega
  ·show nO (if (ctext (b.take z) ((a:Int)+1)).2.2≠0 then _ else _) (fun y:List bx × Nat=>y.2) a (z+1)
   rw [aq f];exact dy f (by omega)
theorem jT (b:Str):∀d,FJ (doc d) b
 | 0=>fun p z fZ h1 h2=>dy (by decide) h1
 | d+1=>fun p z fZ h1 h2=>by
  unfold doc
  by_cases c:z - p<4
  ·rw [aq c];exact dy (by decide) h1
  rw [al c]
  generalize cU b p=n
  unfold wS
  by_cases e:n<5∨(z:Int) - p<n∨(fZ=2∧(p:Int)+n≠z)
  ·rw [aq e];exact dy (by decide) h1
  rw [al e]
  by_cases f:fZ=1∧(p:Int)+n<z
  ·rw [aq f];exact dy (by decide) (by omega)
  rw [al f]
  have hr:=@tz (eM (doc d) b) b (p+n.toNat - 1) (by omega) (fun k q hq=>pR (jT b d) hq (by omega)) n.toNat (p+4) [] (by omega)
  exact ⟨fun e a i=>⟨(hr.1 e a i).1,by have:=(hr.1 e a i).2;omega⟩,fun y i=>by have h3:p+4≤y.2∧y.2≤p+n.toNat - 1+1:=hr.2 y i;show p≤y.2∧y.2≤z;omega⟩
end Bs
end Go.Eng
set_option maxRecDepth 20000
namespace Go.Eng
open Go.IntWalk
theorem iW (n:Nat):UInt8.ofInt (n:Int)=UInt8.ofNat n:=by
 apply UInt8.toNat_inj.1
 rw [z8,UInt8.toNat_ofNat']
end Go.Eng
set_option maxRecDepth 20000
namespace Go.Eng
namespace Bs
def At (b:Str) (q:Nat) (w:Str):Prop:=(b.drop q).take w.length=w
theorem At.app {b:Str} {q:Nat} {x y:Str}:At b q (x++y) ↔ At b q x∧At b (q+x.length) y:=by
 unfold At
 rw [←List.prefix_iff_eq_take.trans eq_comm,←List.prefix_iff_eq_take.trans eq_comm,←List.prefix_iff_eq_take.trans eq_comm]
 constructor
 ·rintro ⟨t,h⟩
  refine ⟨⟨y++t,by rw [←h,aB]⟩,⟨t,?_⟩⟩
  rw [←List.drop_drop,←h,aB,List.drop_left]
 ·rintro ⟨⟨t,h⟩,⟨u,g⟩⟩
  rw [←List.drop_drop,←h,List.drop_left] at g
  exact ⟨u,by rw [←h,←g,aB]⟩
theorem At.sub {b:Str} {q n:Nat} {w:Str} (h:At b q w) (hn:w.length=n):sub b q n=w:=by subst hn;exact h
theorem kx {b:Str} {q n:Nat} {w:Str} (h:w=sub b q n):At b q w:=by
 subst h;unfold At sub
 rw [ay,aL,List.take_eq_take_iff,aL];omega
theorem gK {b:Str} {q n:Nat} (h:q+n≤b.length):(sub b q n).length=n:=by unfold sub;rw [ay,aL];omega
theorem at_one {b:Str} {i:Nat} {c:UInt8} (h:i<b.length):At b i [c] ↔ b.getD i 0=c:=by
 unfold At
 show List.take 1 (b.drop i)=[c] ↔ _
 rw [List.drop_eq_getElem_cons h,List.take_succ_cons,List.take_zero,ai,ah h,Option.getD_some,bj]
 exact ⟨fun h=>h.1,fun h=>⟨h,rfl⟩⟩
theorem s5:∀w:Str,ff w.length (gD w)=w
 | []=>rfl
 | c :: r=>by
  have hc:=c.toNat_lt
  show UInt8.ofNat ((c.toNat+256 * gD r) % 256) :: ff r.length ((c.toNat+256 * gD r) / 256)=c :: r
  rw [show (c.toNat+256 * gD r) % 256=c.toNat by omega,show (c.toNat+256 * gD r) / 256=gD r by omega,s5 r,UInt8.ofNat_toNat]
theorem s0:∀(n v:Nat),gD (ff n v)=v % 256 ^ n
 | 0,v=>by show 0=v % 1;omega
 | n+1,v=>by
  show (UInt8.ofNat (v % 256)).toNat+256 * gD (ff n (v / 256))=v % 256 ^ (n+1)
  rw [s0 n,UInt8.toNat_ofNat',show 256 ^ (n+1)=256 * 256 ^ n by rw [Nat.pow_succ,Nat.mul_comm],Nat.mod_mul]
  have:v % 256 % 2 ^ 8=v % 256:=Nat.mod_eq_of_lt (by omega)
  omega
theorem o7 {b:Str} {q n v:Nat} (h:At b q (ff n v)) (hv:v<256 ^ n):gD (sub b q n)=v:=by rw [h.sub (bU _ _),s0,Nat.mod_eq_of_lt hv]
theorem pF {b:Str} {q n:Nat} (h:q+n≤b.length):At b q (ff n (gD (sub b q n))):=kx (by
 have:=s5 (sub b q n)
 rwa [gK h] at this)
theorem jb {b:Str} {p v:Nat} (h:p+4≤b.length) (hv:v<2147483648):cU b p=(v:Int) ↔ At b p (ff 4 v):=by
 have hl:=oS b p
 constructor
 ·intro e
  have:vd b p=v:=by unfold cU at e;split at e <;> omega
  rw [←this];exact pF h
 ·intro e
  have:vd b p=v:=o7 e (by omega)
  unfold cU;rw [this,aq hv]
theorem mL {b:Str} {p:Nat} (h:p+4≤b.length) (h0:0≤cU b p):At b p (ff 4 (cU b p).toNat):=(jb h (by have:=ja b p;omega)).1 (by omega)
theorem iK {b:Str} {q z x:Nat} {s:Str} (h1:q≤z) (h2:z≤b.length) (h3:b.length≤1000000000):text b q z = .ok (s,x) ↔ x=q+(s.length+5)∧x≤z∧At b q (fC s)∧dp.whole s=true:=by
 unfold text fC
 constructor
 ·intro h
  by_cases c:z - q<4
  ·rw [aq c] at h;cases h
  rw [al c] at h;unfold pU at h
  by_cases d:cU b q<1∨(z:Int) - q - 4<cU b q
  ·rw [aq d] at h;cases h
  rw [al d] at h
  by_cases e:b.getD (q+4+(cU b q).toNat - 1) 0≠0
  ·rw [aq e] at h;cases h
  rw [al e] at h
  by_cases f:dp.whole ((b.drop (q+4)).take ((cU b q).toNat - 1))=false
  ·rw [aq f] at h;cases h
  rw [al f] at h
  have r4:=mL (b:=b) (p:=q) (by omega) (by omega)
  generalize cU b q=n at *
  have hl:(sub b (q+4) (n.toNat - 1)).length=n.toNat - 1:=gK (by omega)
  obtain ⟨g1,g2⟩:=Prod.mk.injEq .. ▸ Except.ok.inj h
  have g1:sub b (q+4) (n.toNat - 1)=s:=g1
  subst g1
  refine ⟨by omega,by omega,?_,by cases hw:dp.whole (sub b (q+4) (n.toNat - 1)) with
   | false=>exact absurd hw f
   | true=>rfl⟩
  rw [At.app,At.app,bU,hl]
  refine ⟨by rw [show n.toNat - 1+1=n.toNat by omega];exact r4,kx rfl,(at_one (by omega)).2 ?_⟩
  rw [show q+4+(n.toNat - 1)=q+4+n.toNat - 1 by omega];simpa using e
 ·rintro ⟨rfl,g2,g3,g4⟩
  rw [At.app,At.app,bU] at g3
  obtain ⟨g5,g6,g7⟩:=g3
  have e:=(jb (v:=s.length+1) (by omega) (by omega)).2 g5
  rw [al (by omega),e]
  unfold pU
  rw [al (by omega),ar,show q+4+(s.length+1) - 1=q+4+s.length by omega,al (by rw [(at_one (by omega)).1 g7];simp),show s.length+1 - 1=s.length by omega,show (b.drop (q+4)).take s.length=s from g6,al (by simp [g4])]
  rw [show q+4+(s.length+1)=q+(s.length+5) by omega]
theorem pO {s:Str}:dp.zero s=false ↔ ∀c∈s,c≠0:=by
 unfold dp.zero
 rw [List.contains_eq_mem,decide_eq_false_iff_not]
 exact ⟨fun h c hc e=>h (e ▸ hc),fun h e=>h 0 e rfl⟩
theorem gW {b:Str} {q z x:Nat} {s:Str} (h1:q≤z) (h2:z≤b.length):((ctext (b.take z) q).2.2=0∧(ctext (b.take z) q).1=s∧(ctext (b.take z) q).2.1=(x:Int)) ↔ x=q+(s.length+1)∧x≤z∧At b q (s++[0])∧dp.whole s=true∧dp.zero s=false:=by
 constructor
 ·rintro ⟨c,e1,e2⟩
  obtain ⟨_,k,_,k2,k3,k4,k5,k6,k7⟩:=hO c
  rw [ar] at k2 k3 k5 k6 k7
  rw [ay] at k2
  have hs:s=sub b q k:=by rw [←e1,k3,List.drop_take,List.take_take];unfold sub;congr 1;omega
  have hl:s.length=k:=by rw [hs];exact gK (by omega)
  refine ⟨by omega,by omega,?_,by rw [←e1,k3];exact k5,?_⟩
  ·rw [At.app,hl]
   refine ⟨kx hs,(at_one (by omega)).2 ?_⟩
   rw [aH,aq (by omega)] at k6
   rw [ai,k6];rfl
  ·rw [pO]
   intro c hc e
   obtain ⟨j,hj,HK⟩:=List.getElem_of_mem hc
   have:=k7 j (by omega)
   rw [aH,aq (by omega),←List.getElem?_drop] at this
   refine this ?_
   have h5:s[j]?=some 0:=by rw [ah hj,HK,e]
   rw [hs] at h5;unfold sub at h5
   rw [aH,aq (by omega)] at h5;exact h5
 ·rintro ⟨rfl,g2,g3,g4,g5⟩
  rw [At.app] at g3
  obtain ⟨g6,g7⟩:=g3
  have hd:((b.take z).drop q).take s.length=s:=by rw [List.drop_take,List.take_take,show min s.length (z - q)=s.length by omega];exact g6
  have hs:∀j,j<s.length→((b.take z).drop q)[j]?=s[j]?:=fun j hj=>by
   have:=congrArg (fun l=>l[j]?) hd
   rw [←this]
   show _=(List.take s.length _)[j]?
   rw [aH,aq hj]
  have h0:((b.take z).drop q)[s.length]?=some 0:=by
   rw [List.getElem?_drop,aH,aq (by omega)]
   have:=(at_one (by omega)).1 g7
   rw [ai,ah (by omega)] at this
   rw [ah (by omega)]
   exact congrArg some this
  have hx:¬Lib.indexByte ((b.take z).drop q) 0<0:=by
   intro h
   have:=fD 0 ((b.take z).drop q)
   rw [ab (by omega)] at this
   have h6:=az h0
   rw [List.contains_eq_mem,aa h6] at this
   cases this
  obtain ⟨k,k1,k2,k3,k4⟩:=wk hx
  have hk:k=s.length:=by
   refine Nat.le_antisymm (Nat.le_of_not_lt fun h=>k4 s.length h h0) (Nat.le_of_not_lt fun h=>?_)
   rw [hs k h] at k3
   exact pO.1 g5 0 (az k3) rfl
  unfold ctext
  rw [al (by rw [ay];omega),ar,al hx,k1,ar,hk,hd,al (by simp [g4])]
  exact ⟨rfl,rfl,by show (q:Int)+s.length+1=_;omega⟩
theorem py {b:Str} {q z x:Nat} {s:Str}:ended b q z = .ok (s,x) ↔ ((ctext (b.take z) q).2.2=0∧(ctext (b.take z) q).1=s∧(ctext (b.take z) q).2.1=(x:Int)):=by
 unfold ended
 by_cases c:(ctext (b.take z) q).2.2=0
 ·obtain ⟨_,k,_,_,_,k1,_⟩:=hO c
  rw [al (by simp [c])]
  constructor
  ·intro h
   obtain ⟨g1,g2⟩:=Prod.mk.injEq .. ▸ Except.ok.inj h
   exact ⟨c,g1,by have g2:(ctext (b.take z) q).2.1.toNat=x:=g2;omega⟩
  ·rintro ⟨_,rfl,g⟩
   rw [g,ar]
 ·rw [aq c]
  exact ⟨(fun h=>by cases h),fun h=>absurd h.1 c⟩
theorem ny {b:Str} {q z x:Nat} {s:Int} {y:Str} (h1:q+5≤z) (h2:z≤b.length) (h3:b.length≤1000000000):binary b q z = .ok (s,y,x) ↔ x=q+(if s=2 then y.length+9 else y.length+5)∧x≤z∧At b q (nL s y)∧0≤s∧s≤255:=by
 unfold binary yV nL
 have hc:=(b.getD (q+4) 0).toNat_lt
 constructor
 ·intro h
  by_cases d:cU b q<0∨(z:Int) - q - 5<cU b q
  ·rw [aq d] at h;cases h
  rw [al d] at h
  have r4:=mL (b:=b) (p:=q) (by omega) (by omega)
  have r1:At b (q+4) [b.getD (q+4) 0]:=(at_one (by omega)).2 rfl
  by_cases e:((b.getD (q+4) 0).toNat:Int)=2
  ·rw [aq e] at h
   by_cases f:cU b q<4∨cU b (q+5)≠cU b q - 4
   ·rw [aq f] at h;cases h
   rw [al f] at h
   have r5:=mL (b:=b) (p:=q+5) (by omega) (by omega)
   rw [show cU b (q+5)=cU b q - 4 by omega] at r5
   generalize cU b q=n at *
   have hl:(sub b (q+9) (n.toNat - 4)).length=n.toNat - 4:=gK (by omega)
   have h:=Except.ok.inj h
   simp only [Prod.mk.injEq] at h
   obtain ⟨g1,g2,g3⟩:=h
   have g2:sub b (q+9) (n.toNat - 4)=y:=g2
   subst g2
   have hs:s=2:=by omega
   subst hs
   rw [aq rfl,aq rfl,At.app,bU,←List.singleton_append,At.app,aD,At.app,bU,hl]
   have hu:b.getD (q+4) 0=UInt8.ofInt 2:=UInt8.toNat_inj.1 (by show _=2;omega)
   refine ⟨by omega,by omega,⟨by rw [show n.toNat - 4+4=n.toNat by omega];exact r4,hu ▸ r1,by rw [show n.toNat - 4=(n - 4).toNat by omega];exact r5,kx rfl⟩,by omega,by omega⟩
  ·rw [al e] at h
   generalize cU b q=n at *
   have hl:(sub b (q+5) n.toNat).length=n.toNat:=gK (by omega)
   have h:=Except.ok.inj h
   simp only [Prod.mk.injEq] at h
   obtain ⟨g1,g2,g3⟩:=h
   have g2:sub b (q+5) n.toNat=y:=g2
   subst g2
   have hs:¬s=2:=by omega
   rw [al hs,al hs,At.app,bU,←List.singleton_append,At.app,aD,hl]
   have hu:b.getD (q+4) 0=UInt8.ofInt s:=by rw [←g1,iW,UInt8.ofNat_toNat]
   exact ⟨by omega,by omega,⟨r4,hu ▸ r1,kx rfl⟩,by omega,by omega⟩
 ·rintro ⟨rfl,g2,g3,g4,g5⟩
  have hb:∀k:Nat,k=s.toNat→(UInt8.ofInt s).toNat=k:=fun k hk=>by
   obtain ⟨j,rfl⟩:∃j:Nat,s=(j:Int):=⟨s.toNat,by omega⟩
   rw [iW,UInt8.toNat_ofNat',hk,ar];exact Nat.mod_eq_of_lt (by omega)
  by_cases e:s=2
  ·subst e
   rw [aq rfl] at g2 g3 ⊢
   rw [At.app,bU,←List.singleton_append,At.app,aD,At.app,bU] at g3
   obtain ⟨g6,g7,g8,g9⟩:=g3
   have e1:=(jb (v:=y.length+4) (by omega) (by omega)).2 g6
   have e2:=(jb (v:=y.length) (by omega) (by omega)).2 g8
   have e3:=(at_one (by omega)).1 g7
   rw [show q+4+1=q+5 by omega] at e2 g9
   rw [e1,e3,al (by omega),hb 2 rfl,aq (by rfl),e2,al (by omega),ar,show y.length+4 - 4=y.length by omega,show (b.drop (q+9)).take y.length=y from g9,show q+5+(y.length+4)=q+(y.length+9) by omega];rfl
  ·rw [al e] at g2 g3 ⊢
   rw [At.app,bU,←List.singleton_append,At.app,aD] at g3
   obtain ⟨g6,g7,g9⟩:=g3
   have e1:=(jb (v:=y.length) (by omega) (by omega)).2 g6
   have e3:=(at_one (by omega)).1 g7
   rw [e1,e3,al (by omega),hb s.toNat rfl,al (by omega),ar,show (b.drop (q+5)).take y.length=y from g9,show ((s.toNat:Nat):Int)=s by omega,show q+5+y.length=q+(y.length+5) by omega]
end Bs
end Go.Eng
set_option maxRecDepth 20000
namespace Go.Eng
namespace Bs
mutual
def pn:bx→Bool
 | .mk n k b h l t m s y ks=>decide (Tree.oY ⟨k,b,h,l,t,m,s,y,ks⟩ n=0)&&fU ks
def fU:List bx→Bool
 | []=>true
 | f :: r=>pn f&&fU r
end
theorem dz (v:bu):Tree.own v=0 ↔ Tree.name v.kind≠[]∧Tree.cv v=true∧Tree.dr v.text (decide (v.kind=11))=true∧Tree.dr v.more (decide (v.kind=11))=true:=by
 unfold Tree.own
 by_cases a:Tree.name v.kind=[]
 ·rw [aq a];exact ⟨fun h=>absurd h (by decide),fun h=>absurd a h.1⟩
 rw [al a]
 cases b:Tree.cv v with
 | false=>rw [aq rfl];exact ⟨fun h=>absurd h (by decide),fun h=>by cases h.2.1⟩
 | true =>
  rw [al (by simp)]
  cases c:Tree.dr v.text (decide (v.kind=11)) <;> cases d:Tree.dr v.more (decide (v.kind=11)) <;> simp [a]
theorem mj (n:Str) (v:bu):pn (bx.of n v)=true ↔ Tree.own v=0∧dp.whole n=true∧dp.zero n=false∧fU v.kids=true:=by
 show (decide (Tree.oY v n=0)&&fU v.kids)=true ↔ _
 rw [ae,decide_eq_true_iff]
 unfold Tree.oY Tree.dr
 by_cases a:Tree.own v=0
 ·rw [al (by simp [a])]
  cases dp.whole n <;> cases dp.zero n <;> simp [a]
 ·rw [aq a];exact ⟨fun h=>absurd h.1 a,fun h=>absurd h.1 a⟩
def vn (d:Nat) (b:Str) (k:Int) (q z:Nat) (v:bu) (x:Nat):Prop:=v.kind=k∧x=q+size (bx.of [] v)∧x≤z∧At b q (enc (bx.of [] v))∧Tree.own v=0∧fU v.kids=true∧Tree.depth (bx.of [] v)≤d
def Ix (d:Nat) (b:Str) (p z:Nat) (fZ:Int) (ks:List bx) (x:Nat):Prop:=x=p+(dC ks+5)∧x≤z∧(fZ=1∨fZ=2→x=z)∧At b p (iR ks)∧fU ks=true∧Tree.jJ ks+1≤d
abbrev Dc:=Str→Nat→Nat→Int→Except E (List bx × Nat)
theorem mO {A:Type} {c:Prop} [Decidable c] {e:E} {u w:A}:(if c then (.error e:Except E A) else .ok u) = .ok w ↔ ¬c∧u=w:=by
 by_cases h:c
 ·rw [aq h];exact ⟨(fun g=>by cases g),fun g=>absurd h g.1⟩
 ·rw [al h];exact ⟨fun g=>⟨h,Except.ok.inj g⟩,fun g=>by rw [g.2]⟩
theorem jX {dc:Dc} {b:Str} {d q z x:Nat} {v:bu} {k:Int} (hk:k=1∨k=9∨k=17∨k=18∨k=16∨k=8) (h1:q≤z) (h2:z≤b.length):eM dc b k q z = .ok (v,x) ↔ vn d b k q z v x:=by
 have e:eM dc b k q z=if z - q<fixed k then .error (2,q) else if k=8∧1<gD (sub b q 1) then .error (3,q) else .ok ({ cS k with bits:=UInt64.ofNat (gD (sub b q (fixed k))) },q+fixed k):=by
  unfold eM;rw [aq (show gM k∨k=16∨k=8 by rcases hk with h | h | h | h | h | h <;> subst h <;> decide)]
 have ev:∀w:bu,w.kind=k→Tree.own w=0→w={ cS k with bits:=w.bits }∧w.bits.toNat<256 ^ fixed k∧(k=8→w.bits.toNat<2):=by
  intro w hw ho
  obtain ⟨k',b',h',l',t',m',s',y',ka⟩:=w
  have hw:k'=k:=hw
  subst hw
  have hf:=((dz _).1 ho).2.1
  have hb:=b'.toNat_lt
  rcases hk with h | h | h | h | h | h <;> subst h <;> simp [Tree.cv,Tree.fu,aZ] at hf <;> simp [hf,cS,fixed,gM,gF] <;> omega
 have eo:∀u:UInt64,(k=16→u.toNat<4294967296)→(k=8→u.toNat<2)→Tree.own { cS k with bits:=u }=0:=by
  intro u g1 g2
  have hn:Tree.name k≠[]:=by rcases hk with h | h | h | h | h | h <;> subst h <;> decide
  refine (dz _).2 ⟨hn,?_,?_,?_⟩
  ·rcases hk with h | h | h | h | h | h <;> subst h <;> simp [Tree.cv,Tree.fu,aZ,cS] <;> simp at g1 g2 <;> omega
  ·rcases hk with h | h | h | h | h | h <;> subst h <;> rfl
  ·rcases hk with h | h | h | h | h | h <;> subst h <;> rfl
 have es:∀w:bu,w.kind=k→size (bx.of [] w)=fixed k∧enc (bx.of [] w)=ff (fixed k) w.bits.toNat∧Tree.depth (bx.of [] w)=0:=by
  intro w hw
  obtain ⟨k',b',h',l',t',m',s',y',ka⟩:=w
  have hw:k'=k:=hw
  subst hw
  rcases hk with h | h | h | h | h | h <;> subst h <;> exact ⟨rfl,rfl,rfl⟩
 have hf:1≤fixed k∧fixed k≤8∧(k=16→fixed k=4)∧(k=8→fixed k=1):=by rcases hk with h | h | h | h | h | h <;> subst h <;> decide
 rw [e]
 constructor
 ·intro h
  by_cases c:z - q<fixed k
  ·rw [aq c] at h;cases h
  rw [al c,mO] at h
  obtain ⟨c2,h⟩:=h
  have hl:=lu (sub b q (fixed k))
  rw [gK (by omega)] at hl
  have hp:256 ^ fixed k≤256 ^ 8:=Nat.pow_le_pow_right (by omega) hf.2.1
  have hu:(UInt64.ofNat (gD (sub b q (fixed k)))).toNat=gD (sub b q (fixed k)):=by rw [UInt64.toNat_ofNat'];exact Nat.mod_eq_of_lt (by omega)
  obtain ⟨rfl,rfl⟩:=Prod.mk.inj h
  obtain ⟨g1,g2,g3⟩:=es { cS k with bits:=UInt64.ofNat (gD (sub b q (fixed k))) } rfl
  refine ⟨rfl,by rw [g1],by omega,?_,eo _ (fun h=>?_) (fun h=>?_),rfl,by omega⟩
  ·rw [g2,hu];exact pF (by omega)
  ·rw [hu];rw [hf.2.2.1 h] at hl ⊢;exact hl
  ·rw [hu,hf.2.2.2 h];exact Nat.lt_of_not_le fun g=>c2 ⟨h,g⟩
 ·rintro ⟨g1,rfl,g3,g4,g5,g6,g7⟩
  obtain ⟨e1,e2,e3⟩:=es v g1
  obtain ⟨e4,e5,e6⟩:=ev v g1 g5
  rw [e1] at g3 ⊢
  rw [e2] at g4
  have hl:=o7 g4 e5
  rw [al (by omega),al (fun h=>by have:=e6 h.1;rw [hf.2.2.2 h.1] at hl;omega),hl,UInt64.ofNat_toNat,←e4]
theorem y8 {dc:Dc} {b:Str} {d q z x:Nat} {v:bu} (h1:q≤z) (h2:z≤b.length):eM dc b 19 q z = .ok (v,x) ↔ vn d b 19 q z v x:=by
 have e:eM dc b 19 q z=if z - q<16 then .error (2,q) else .ok ({ cS 19 with low:=UInt64.ofNat (gD (sub b q 8)),high:=UInt64.ofNat (gD (sub b (q+8) 8)) },q+16):=rfl
 rw [e,mO]
 constructor
 ·rintro ⟨c,h⟩
  obtain ⟨rfl,rfl⟩:=Prod.mk.inj h
  have hu:∀p,p+8≤b.length→(UInt64.ofNat (gD (sub b p 8))).toNat=gD (sub b p 8):=fun p hp=>by
   have:=lu (sub b p 8)
   rw [gK hp] at this
   rw [UInt64.toNat_ofNat'];exact Nat.mod_eq_of_lt this
  refine ⟨rfl,rfl,by omega,?_,?_,rfl,Nat.zero_le _⟩
  ·show At b q (ff 8 (UInt64.ofNat (gD (sub b q 8))).toNat++ff 8 (UInt64.ofNat (gD (sub b (q+8) 8))).toNat)
   rw [At.app,bU,hu q (by omega),hu (q+8) (by omega)]
   exact ⟨pF (by omega),pF (by omega)⟩
  ·refine (dz _).2 ⟨show Tree.name 19≠[] by decide,by simp [Tree.cv,Tree.fu,cS],by rfl,by rfl⟩
 ·rintro ⟨g1,rfl,g3,g4,g5,g6,g7⟩
  obtain ⟨k',b',h',l',t',m',s',y',ka⟩:=v
  have g1:k'=19:=g1
  subst g1
  have g3:q+16≤z:=g3
  have g4:At b q (ff 8 l'.toNat++ff 8 h'.toNat):=g4
  rw [At.app,bU] at g4
  have hf:=((dz _).1 g5).2.1
  simp [Tree.cv,Tree.fu] at hf
  refine ⟨by omega,?_⟩
  rw [o7 g4.1 l'.toNat_lt,o7 g4.2 h'.toNat_lt,UInt64.ofNat_toNat,UInt64.ofNat_toNat]
  simp [hf,cS];rfl
theorem By {dc:Dc} {b:Str} {d q z x:Nat} {v:bu} (h1:q≤z) (h2:z≤b.length):eM dc b 7 q z = .ok (v,x) ↔ vn d b 7 q z v x:=by
 have e:eM dc b 7 q z=if z - q<12 then .error (2,q) else .ok ({ cS 7 with bytes:=sub b q 12 },q+12):=rfl
 rw [e,mO]
 constructor
 ·rintro ⟨c,h⟩
  obtain ⟨rfl,rfl⟩:=Prod.mk.inj h
  have hl:(sub b q 12).length=12:=gK (by omega)
  refine ⟨rfl,rfl,by omega,kx rfl,?_,rfl,Nat.zero_le _⟩
  refine (dz _).2 ⟨show Tree.name 7≠[] by decide,by simp [Tree.cv,Tree.fu,cS,hl],by rfl,by rfl⟩
 ·rintro ⟨g1,rfl,g3,g4,g5,g6,g7⟩
  obtain ⟨k',b',h',l',t',m',s',y',ka⟩:=v
  have g1:k'=7:=g1
  subst g1
  have g3:q+12≤z:=g3
  have g4:At b q y':=g4
  have hf:=((dz _).1 g5).2.1
  simp [Tree.cv,Tree.fu] at hf
  refine ⟨by omega,?_⟩
  rw [g4.sub (by simp [hf])]
  simp [hf,cS];rfl
theorem nB {dc:Dc} {b:Str} {d q z x:Nat} {v:bu} {k:Int} (hk:k=2∨k=13∨k=14) (h1:q≤z) (h2:z≤b.length) (h3:b.length≤1000000000):eM dc b k q z = .ok (v,x) ↔ vn d b k q z v x:=by
 have e:eM dc b k q z=if z - q<4 then .error (2,q) else match text b q z with
  | .error e => .error e
  | .ok (s,x) => .ok ({ cS k with text:=s },x):=by rcases hk with h | h | h <;> subst h <;> rfl
 have eo:∀s:Str,Tree.own { cS k with text:=s }=0 ↔ dp.whole s=true:=by
  intro s
  rw [dz]
  have w0:dp.whole []=true:=rfl
  have hn:Tree.name k≠[]:=by rcases hk with h | h | h <;> subst h <;> decide
  rcases hk with h | h | h <;> subst h <;> simp [Tree.cv,Tree.fu,cS,Tree.dr,w0,hn]
 have es:∀w:bu,w.kind=k→size (bx.of [] w)=w.text.length+5∧enc (bx.of [] w)=fC w.text∧Tree.depth (bx.of [] w)=0:=by
  intro w hw
  obtain ⟨k',b',h',l',t',m',s',y',ka⟩:=w
  have hw:k'=k:=hw
  subst hw
  rcases hk with h | h | h <;> subst h <;> exact ⟨rfl,rfl,rfl⟩
 rw [e]
 constructor
 ·intro h
  by_cases c:z - q<4
  ·rw [aq c] at h;cases h
  rw [al c] at h
  cases ht:text b q z with
  | error e=>rw [ht] at h;cases h
  | ok y =>
   obtain ⟨s,x'⟩:=y
   rw [ht] at h
   obtain ⟨rfl,rfl⟩:=Prod.mk.inj (Except.ok.inj h)
   obtain ⟨g1,g2,g3,g4⟩:=(iK h1 h2 h3).1 ht
   obtain ⟨e1,e2,e3⟩:=es { cS k with text:=s } rfl
   exact ⟨rfl,by rw [e1];exact g1,g2,by rw [e2];exact g3,(eo s).2 g4,rfl,by omega⟩
 ·rintro ⟨g1,rfl,g3,g4,g5,g6,g7⟩
  obtain ⟨e1,e2,e3⟩:=es v g1
  rw [e1] at g3 ⊢
  rw [e2] at g4
  have ev:v={ cS k with text:=v.text }:=by
   obtain ⟨k',b',h',l',t',m',s',y',ka⟩:=v
   have g1:k'=k:=g1
   subst g1
   have hf:=((dz _).1 g5).2.1
   rcases hk with h | h | h <;> subst h <;> simp [Tree.cv,Tree.fu] at hf <;> simp [hf,cS]
  rw [ev] at g5
  rw [al (by omega),(iK (s:=v.text) h1 h2 h3).2 ⟨rfl,g3,g4,(eo _).1 g5⟩]
  exact congrArg (fun w=>Except.ok (w,q+(v.text.length+5))) ev.symm
theorem kW {dc:Dc} {b:Str} {d q z x:Nat} {v:bu} {k:Int} (hk:k=6∨k=10∨k=127∨k=255) (h1:q≤z):eM dc b k q z = .ok (v,x) ↔ vn d b k q z v x:=by
 have e:eM dc b k q z = .ok (cS k,q):=by
  have:fixed k=0:=by rcases hk with h | h | h | h <;> subst h <;> rfl
  unfold eM;rw [this,al (by omega)]
  rcases hk with h | h | h | h <;> subst h <;> rfl
 have es:∀w:bu,w.kind=k→size (bx.of [] w)=0∧enc (bx.of [] w)=[]∧Tree.depth (bx.of [] w)=0:=by
  intro w hw
  obtain ⟨k',b',h',l',t',m',s',y',ka⟩:=w
  have hw:k'=k:=hw
  subst hw
  rcases hk with h | h | h | h <;> subst h <;> exact ⟨rfl,rfl,rfl⟩
 rw [e]
 constructor
 ·intro h
  obtain ⟨rfl,rfl⟩:=Prod.mk.inj (Except.ok.inj h)
  obtain ⟨e1,e2,e3⟩:=es (cS k) rfl
  refine ⟨rfl,by rw [e1];rfl,h1,by rw [e2];rfl,?_,rfl,by omega⟩
  rcases hk with h | h | h | h <;> subst h <;> decide
 ·rintro ⟨g1,rfl,g3,g4,g5,g6,g7⟩
  rw [(es v g1).1]
  obtain ⟨k',b',h',l',t',m',s',y',ka⟩:=v
  have g1:k'=k:=g1
  subst g1
  have hf:=((dz _).1 g5).2.1
  rcases hk with h | h | h | h <;> subst h <;> simp [Tree.cv,Tree.fu] at hf <;> simp [hf,cS]
end Bs
end Go.Eng
