/- Texts of my own, one behind the other: DkOK, DkDb2, DkR4, DkR5, DkR6, DkR7, DkLExts, DkQExts, DkOKExts. -/
import Derived.Test.YtoadlhkggdbfkaaGreatDoorT5
set_option linter.unusedVariables false
set_option linter.unusedSimpArgs false
namespace Go.Eng
theorem fV.fit (r:Int):FT fV.d (cK tryzGl fV.env) [.i .i64 r] [(.b (dK.ku r))] :=
 ⟨by kernel_rfl,Eq.trans (b:=fV.F r) (by kernel_rfl) (Eq.trans (fV.goal r) (by kernel_rfl))⟩
theorem fV.ok:KO 97 (fV.c) fV.sg :=
 meets (l:=fV.env) all_nil fV.di (by
   intro ins outs h
   unfold fV.c at h
   split at h
   ·cases h;exact fV.fit _
   ·exact h.elim)
theorem bT.fit (b:List UInt8) (at_:Int) (hp:(decide (b.length≤1099511627776))=true):FT bT.d (cK tryzGl bT.env) [.sl .bs b,.i .i64 at_] [(.i .i64 ((dK.iF b at_).1)),(.i .i64 ((dK.iF b at_).2))] :=
 ⟨by kernel_rfl,Eq.trans (b:=bT.F b at_) (by kernel_rfl) (Eq.trans (bT.goal b at_ hp) (by kernel_rfl))⟩
theorem bT.ok:KO 81 (bT.c) bT.sg :=
 meets (l:=bT.env) (all_cons fV.ok all_nil) bT.di (by
   intro ins outs h
   unfold bT.c at h
   split at h
   ·obtain ⟨hp,rfl⟩:=h;exact bT.fit _ _ hp
   ·exact h.elim)
theorem cN.fit (b:List UInt8) (hp:(decide (b.length≤1099511627776))=true):FT cN.d (cK tryzGl cN.env) [.sl .bs b] [(.i .i64 (((dK.look b).1:Int))),(.i .i64 (((dK.look b).2:Int)))] :=
 ⟨by kernel_rfl,Eq.trans (b:=cN.F b) (by kernel_rfl) (Eq.trans (cN.goal b hp) (by kernel_rfl))⟩
theorem cN.ok:KO 67 (cN.c) cN.sg :=
 meets (l:=cN.env) (all_cons bT.ok all_nil) cN.di (by
   intro ins outs h
   unfold cN.c at h
   split at h
   ·obtain ⟨hp,rfl⟩:=h;exact cN.fit _ hp
   ·exact h.elim)
theorem dr.fit (b:List UInt8) (hp:(decide (b.length≤1099511627776))=true):FT dr.d (cK tryzGl dr.env) [.sl .bs b] [(.i .i64 (((dK.look b).1:Int))),(.b (dK.whole b))] :=
 ⟨by kernel_rfl,Eq.trans (b:=dr.F b) (by kernel_rfl) (Eq.trans (dr.goal b hp) (by kernel_rfl))⟩
theorem dr.ok:KO 41 (dr.c) dr.sg :=
 meets (l:=dr.env) (all_cons cN.ok all_nil) dr.di (by
   intro ins outs h
   unfold dr.c at h
   split at h
   ·obtain ⟨hp,rfl⟩:=h;exact dr.fit _ hp
   ·exact h.elim)
theorem cg.fit (b:List UInt8) (at_:Int) (hp:(decide (b.length≤1099511627776))=true):FT cg.d (cK tryzGl cg.env) [.sl .bs b,.i .i64 at_] [(.i .i64 ((dK.iF b at_).1)),(.i .i64 ((dK.iF b at_).2))] :=
 ⟨by kernel_rfl,Eq.trans (b:=cg.F b at_) (by kernel_rfl) (Eq.trans (cg.goal b at_ hp) (by kernel_rfl))⟩
theorem cg.ok:KO 105 (cg.c) cg.sg :=
 meets (l:=cg.env) all_nil cg.di (by
   intro ins outs h
   unfold cg.c at h
   split at h
   ·obtain ⟨hp,rfl⟩:=h;exact cg.fit _ _ hp
   ·exact h.elim)
theorem cG.fit (b:List UInt8) (hp:(decide (b.length≤1099511627776))=true):FT cG.d (cK tryzGl cG.env) [.sl .bs b] [(.i .i64 (((dK.look b).1:Int))),(.b (dK.whole b))] :=
 ⟨by kernel_rfl,Eq.trans (b:=cG.F b) (by kernel_rfl) (Eq.trans (cG.goal b hp) (by kernel_rfl))⟩
theorem cG.ok:KO 88 (cG.c) cG.sg :=
 meets (l:=cG.env) (all_cons cg.ok all_nil) cG.di (by
   intro ins outs h
   unfold cG.c at h
   split at h
   ·obtain ⟨hp,rfl⟩:=h;exact cG.fit _ hp
   ·exact h.elim)
theorem dt.fit (s:bS) (hp:(decide (s.length≤1099511627776))=true):FT dt.d (cK tryzGl dt.env) [.s s] [(.b (dK.whole s))] :=
 ⟨by kernel_rfl,Eq.trans (b:=dt.F s) (by kernel_rfl) (Eq.trans (dt.goal s hp) (by kernel_rfl))⟩
theorem dt.ok:KO 71 (dt.c) dt.sg :=
 meets (l:=dt.env) (all_cons cG.ok all_nil) dt.di (by
   intro ins outs h
   unfold dt.c at h
   split at h
   ·obtain ⟨hp,rfl⟩:=h;exact dt.fit _ hp
   ·exact h.elim)
theorem cO.fit (s:bS) (hp:(decide (s.length≤1099511627776))=true):FT cO.d (cK tryzGl cO.env) [.s s] [(.b (dK.zero s))] :=
 ⟨by kernel_rfl,Eq.trans (b:=cO.F s) (by kernel_rfl) (Eq.trans (cO.goal s hp) (by kernel_rfl))⟩
theorem cO.ok:KO 46 (cO.c) cO.sg :=
 meets (l:=cO.env) all_nil cO.di (by
   intro ins outs h
   unfold cO.c at h
   split at h
   ·obtain ⟨hp,rfl⟩:=h;exact cO.fit _ hp
   ·exact h.elim)
theorem gH.fit (ft:List UInt8) (c8:Int):FT gH.d (cK tryzGl gH.env) [.ro (.ag [.sl .bs ft,.i .i64 c8])] [(.i .i64 ((((dj.mk ft c8)).at_)))] :=
 ⟨by kernel_rfl,Eq.trans (b:=gH.F (dj.mk ft c8)) (by kernel_rfl) (Eq.trans (gH.goal (dj.mk ft c8)) (by kernel_rfl))⟩
theorem gH.ok:KO 122 (gH.c) gH.sg :=
 meets (l:=gH.env) all_nil gH.di (by
   intro ins outs h
   unfold gH.c at h
   split at h
   ·cases h;exact gH.fit _ _
   ·exact h.elim)
theorem eG.fit (ft:List UInt8) (c8:Int) (hp:(cM.ie (dj.mk ft c8))=true):FT eG.d (cK tryzGl eG.env) [.ro (.ag [.sl .bs ft,.i .i64 c8])] [(.i .i64 (cM.left (dj.mk ft c8)))] :=
 ⟨by kernel_rfl,Eq.trans (b:=eG.F (dj.mk ft c8)) (by kernel_rfl) (Eq.trans (eG.goal (dj.mk ft c8) hp) (by kernel_rfl))⟩
theorem eG.ok:KO 121 (eG.c) eG.sg :=
 meets (l:=eG.env) all_nil eG.di (by
   intro ins outs h
   unfold eG.c at h
   split at h
   ·obtain ⟨hp,rfl⟩:=h;exact eG.fit _ _ hp
   ·exact h.elim)
theorem fm.fit (ft:List UInt8) (c8:Int) (hp:(cM.ie (dj.mk ft c8))=true):FT fm.d (cK tryzGl fm.env) [.ag [.sl .bs ft,.i .i64 c8]] [(.i .i64 (cM.byte (dj.mk ft c8))),(.b (cM.more (dj.mk ft c8))),(.ag (dj.cells (cM.oO (dj.mk ft c8) 1 (cM.more (dj.mk ft c8)))))] :=
 ⟨by kernel_rfl,Eq.trans (b:=fm.F (dj.mk ft c8)) (by kernel_rfl) (Eq.trans (fm.goal (dj.mk ft c8) hp) (by kernel_rfl))⟩
theorem fm.ok:KO 135 (fm.c) fm.sg :=
 meets (l:=fm.env) all_nil fm.di (by
   intro ins outs h
   unfold fm.c at h
   split at h
   ·obtain ⟨hp,rfl⟩:=h;exact fm.fit _ _ hp
   ·exact h.elim)
theorem fj.fit (ft:List UInt8) (c8:Int) (n:Int) (hp:(cM.ie (dj.mk ft c8))=true):FT fj.d (cK tryzGl fj.env) [.ag [.sl .bs ft,.i .i64 c8],.i .i64 n] [(.sl .bs (cM.nx (dj.mk ft c8) n (cM.pd (dj.mk ft c8) n))),(.b (cM.pd (dj.mk ft c8) n)),(.ag (dj.cells (cM.oO (dj.mk ft c8) n (cM.pd (dj.mk ft c8) n))))] :=
 ⟨by kernel_rfl,Eq.trans (b:=fj.F (dj.mk ft c8) n) (by kernel_rfl) (Eq.trans (fj.goal (dj.mk ft c8) n hp) (by kernel_rfl))⟩
theorem fj.ok:KO 147 (fj.c) fj.sg :=
 meets (l:=fj.env) (all_cons eG.ok all_nil) fj.di (by
   intro ins outs h
   unfold fj.c at h
   split at h
   ·obtain ⟨hp,rfl⟩:=h;exact fj.fit _ _ _ hp
   ·exact h.elim)
theorem fk.fit (ft:List UInt8) (c8:Int) (n:Int) (hp:(cM.ie (dj.mk ft c8))=true):FT fk.d (cK tryzGl fk.env) [.ag [.sl .bs ft,.i .i64 c8],.i .i64 n] [(.sl .bs (cM.nx (dj.mk ft c8) n (cM.rj (dj.mk ft c8) n))),(.b (cM.rj (dj.mk ft c8) n)),(.ag (dj.cells (cM.oO (dj.mk ft c8) n (cM.rj (dj.mk ft c8) n))))] :=
 ⟨by kernel_rfl,Eq.trans (b:=fk.F (dj.mk ft c8) n) (by kernel_rfl) (Eq.trans (fk.goal (dj.mk ft c8) n hp) (by kernel_rfl))⟩
theorem fk.ok:KO 148 (fk.c) fk.sg :=
 meets (l:=fk.env) (all_cons fG.ok (all_cons eG.ok all_nil)) fk.di (by
   intro ins outs h
   unfold fk.c at h
   split at h
   ·obtain ⟨hp,rfl⟩:=h;exact fk.fit _ _ _ hp
   ·exact h.elim)
theorem dL.fit (ft:List UInt8) (c8:Int) (n:Int) (hp:(cM.ie (dj.mk ft c8))=true):FT dL.d (cK tryzGl dL.env) [.ag [.sl .bs ft,.i .i64 c8],.i .i64 n] [(.u64 (cM.be (cM.nx (dj.mk ft c8) n (cM.pd (dj.mk ft c8) n)))),(.b (cM.pd (dj.mk ft c8) n)),(.ag (dj.cells (cM.oO (dj.mk ft c8) n (cM.pd (dj.mk ft c8) n))))] :=
 ⟨by kernel_rfl,Eq.trans (b:=dL.F (dj.mk ft c8) n) (by kernel_rfl) (Eq.trans (dL.goal (dj.mk ft c8) n hp) (by kernel_rfl))⟩
theorem dL.ok:KO 137 (dL.c) dL.sg :=
 meets (l:=dL.env) (all_cons fj.ok all_nil) dL.di (by
   intro ins outs h
   unfold dL.c at h
   split at h
   ·obtain ⟨hp,rfl⟩:=h;exact dL.fit _ _ _ hp
   ·exact h.elim)
theorem fq.fit (b:List UInt8) (hp:(decide ((b).length≤1099511627776))=true):FT fq.d (cK tryzGl fq.env) [.sl .bs b] [.pt,(.ag (dj.cells ((dj.mk b 0))))] :=
 ⟨by kernel_rfl,Eq.trans (b:=fq.F b) (by kernel_rfl) (Eq.trans (fq.goal b hp) (by kernel_rfl))⟩
theorem fq.ok:KO 119 (fq.c) fq.sg :=
 meets (l:=fq.env) (all_cons fG.ok all_nil) fq.di (by
   intro ins outs h
   unfold fq.c at h
   split at h
   ·obtain ⟨hp,rfl⟩:=h;exact fq.fit _ hp
   ·exact h.elim)
theorem dI.fit (n:Int):FT dI.d (cK tryzGl dI.env) [.i .i64 n] [(.b (decide (1≤n∧n≤8)))] :=
 ⟨by kernel_rfl,Eq.trans (b:=dI.F n) (by kernel_rfl) (Eq.trans (dI.goal n) (by kernel_rfl))⟩
theorem dI.ok:KO 149 (dI.c) dI.sg :=
 meets (l:=dI.env) all_nil dI.di (by
   intro ins outs h
   unfold dI.c at h
   split at h
   ·cases h;exact dI.fit _
   ·exact h.elim)
theorem ff.fit:([]:List TV).length=ff.d.np∧ff.d.run (cK tryzGl ff.env) []=some (([.pt,(.ag (fh.cells ((fh.mk []))))]:List TV)++ff.d.ps.toList.map fun q=>([]:List TV).getD q.1 .dead) :=
 ⟨by kernel_rfl,Eq.trans (b:=ff.F ) (by kernel_rfl) (Eq.trans (ff.goal ) (by kernel_rfl))⟩
theorem ff.ok:KO 107 (ff.c) ff.sg :=
 meets (l:=ff.env) all_nil ff.di (by
   intro ins outs h
   unfold ff.c at h
   split at h
   ·cases h;exact ff.fit
   ·exact h.elim)
theorem eM.fit (kh:List UInt8) (v:Int) (hp:(decide (((fh.mk kh)).b.length≤1099511627776))=true):FT eM.d (cK tryzGl eM.env) [.ag [.sl .bs kh],.i .i64 v] [(.ag (fh.cells ((fh.mk (((fh.mk kh)).b++[UInt8.ofInt v])))))] :=
 ⟨by kernel_rfl,Eq.trans (b:=eM.F (fh.mk kh) v) (by kernel_rfl) (Eq.trans (eM.goal (fh.mk kh) v hp) (by kernel_rfl))⟩
theorem eM.ok:KO 127 (eM.c) eM.sg :=
 meets (l:=eM.env) all_nil eM.di (by
   intro ins outs h
   unfold eM.c at h
   split at h
   ·obtain ⟨hp,rfl⟩:=h;exact eM.fit _ _ hp
   ·exact h.elim)
theorem fU.fit (kh:List UInt8) (b:List UInt8) (hp:(decide (((fh.mk kh)).b.length+(b).length≤1099511627776))=true):FT fU.d (cK tryzGl fU.env) [.ag [.sl .bs kh],.sl .bs b] [(.ag (fh.cells ((fh.mk (((fh.mk kh)).b++b)))))] :=
 ⟨by kernel_rfl,Eq.trans (b:=fU.F (fh.mk kh) b) (by kernel_rfl) (Eq.trans (fU.goal (fh.mk kh) b hp) (by kernel_rfl))⟩
theorem fU.ok:KO 129 (fU.c) fU.sg :=
 meets (l:=fU.env) all_nil fU.di (by
   intro ins outs h
   unfold fU.c at h
   split at h
   ·obtain ⟨hp,rfl⟩:=h;exact fU.fit _ _ hp
   ·exact h.elim)
theorem dS.fit (kh:List UInt8) (v:UInt64) (n:Int) (hp:(decide (((fh.mk kh)).b.length≤1099511627776))=true):FT dS.d (cK tryzGl dS.env) [.ag [.sl .bs kh],.u64 v,.i .i64 n] [(.ag (fh.cells ((fh.mk (((fh.mk kh)).b++cM.high v n)))))] :=
 ⟨by kernel_rfl,Eq.trans (b:=dS.F (fh.mk kh) v n) (by kernel_rfl) (Eq.trans (dS.goal (fh.mk kh) v n hp) (by kernel_rfl))⟩
theorem dS.ok:KO 144 (dS.c) dS.sg :=
 meets (l:=dS.env) (all_cons dI.ok all_nil) dS.di (by
   intro ins outs h
   unfold dS.c at h
   split at h
   ·obtain ⟨hp,rfl⟩:=h;exact dS.fit _ _ _ hp
   ·exact h.elim)
theorem eC.fit (kh:List UInt8) (hp:(decide (((fh.mk kh)).b.length≤1099511627776))=true):FT eC.d (cK tryzGl eC.env) [.ag [.sl .bs kh]] [(.sl .bs ((((fh.mk kh)).b))),(.ag (fh.cells ((fh.mk kh))))] :=
 ⟨by kernel_rfl,Eq.trans (b:=eC.F (fh.mk kh)) (by kernel_rfl) (Eq.trans (eC.goal (fh.mk kh) hp) (by kernel_rfl))⟩
theorem eC.ok:KO 109 (eC.c) eC.sg :=
 meets (l:=eC.env) (all_cons fG.ok all_nil) eC.di (by
   intro ins outs h
   unfold eC.c at h
   split at h
   ·obtain ⟨hp,rfl⟩:=h;exact eC.fit _ hp
   ·exact h.elim)
theorem fZ.fit (n:Int) (hp:(decide (0≤n∧n≤1099511627776))=true):FT fZ.d (cK tryzGl fZ.env) [.i .i64 n] [(.b (decide (n<4294967296)))] :=
 ⟨by kernel_rfl,Eq.trans (b:=fZ.F n) (by kernel_rfl) (Eq.trans (fZ.goal n hp) (by kernel_rfl))⟩
theorem fZ.ok:KO 66 (fZ.c) fZ.sg :=
 meets (l:=fZ.env) all_nil fZ.di (by
   intro ins outs h
   unfold fZ.c at h
   split at h
   ·obtain ⟨hp,rfl⟩:=h;exact fZ.fit _ hp
   ·exact h.elim)
theorem bV.fit (c7:Int) (cZ:UInt64) (dx:List UInt8) (cY:bS) (dy:List bD) (hp:(decide (bD.cA (bD.of (bM.mk c7 cZ dx cY dy))≤1099511627776))=true):FT bV.d (cK tryzGl bV.env) [.ag [.i .i64 c7,.u64 cZ,.sl .bs dx,.s cY,.sl .il dy]] [(.b (Mp.dR (bD.of (bM.mk c7 cZ dx cY dy))))] :=
 ⟨by kernel_rfl,Eq.trans (b:=bV.F (bM.mk c7 cZ dx cY dy)) (by kernel_rfl) (Eq.trans (bV.goal (bM.mk c7 cZ dx cY dy) hp) (by kernel_rfl))⟩
theorem bV.ok:KO 40 (bV.c) bV.sg :=
 meets (l:=bV.env) (all_cons fZ.ok all_nil) bV.di (by
   intro ins outs h
   unfold bV.c at h
   split at h
   ·obtain ⟨hp,rfl⟩:=h;exact bV.fit _ _ _ _ _ hp
   ·exact h.elim)
theorem cP.fit (n:Nat) (c7:Int) (cZ:UInt64) (dx:List UInt8) (cY:bS) (dy:List bD) (hp:((decide (bD.cA (bD.of (bM.mk c7 cZ dx cY dy))≤1099511627776))&&decide ((bD.cA (bD.of (bM.mk c7 cZ dx cY dy)))<n+1))=true):FT cP.d (cK tryzGl (cP.env n)) [.ag [.i .i64 c7,.u64 cZ,.sl .bs dx,.s cY,.sl .il dy]] [(.i .i64 (Mp.di (bD.of (bM.mk c7 cZ dx cY dy))))] :=
 ⟨by kernel_rfl,Eq.trans (b:=cP.F n (bM.mk c7 cZ dx cY dy)) (by kernel_rfl) (Eq.trans (cP.goal n (bM.mk c7 cZ dx cY dy) hp) (by kernel_rfl))⟩
theorem Hi.sn:∀n:Nat,(KO 26 (cP.cn n) cP.sg):=by
 intro n
 induction n with
 | zero=>exact fI (by
   intro ti gW h
   unfold cP.cn at h
   split at h
   ·obtain ⟨h,_⟩:=h;simp at h
   ·exact h.elim)
 | succ n ih =>
  have rl:=ih
  exact meets (l:=cP.env n) (all_cons rl (all_cons bV.ok (all_cons dr.ok all_nil))) (cP.di n) (by
   intro ins outs h
   unfold cP.cn at h
   split at h
   ·obtain ⟨hp,rfl⟩:=h;exact cP.fit n _ _ _ _ _ hp
   ·exact h.elim)
theorem cP.ok:KO 26 (cP.c) cP.sg:=iR fun ti gW h=>by
 unfold cP.c at h
 split at h
 ·obtain ⟨hp,rfl⟩:=h;exact ⟨cP.cn (_+1),(Hi.sn _),bw.2 ⟨hp,aa (Nat.lt_succ_self _)⟩,rfl⟩
 ·exact h.elim
theorem dQ.fit (e:Int) (at_:Int):FT dQ.d (cK tryzGl dQ.env) [.i .i64 e,.i .i64 at_] [(.ag (bM.cells (bD.val (Mp.zero)))),(.ag (ez.cells ((ez.mk e at_ []))))] :=
 ⟨by kernel_rfl,Eq.trans (b:=dQ.F e at_) (by kernel_rfl) (Eq.trans (dQ.goal e at_) (by kernel_rfl))⟩
theorem dQ.ok:KO 118 (dQ.c) dQ.sg :=
 meets (l:=dQ.env) all_nil dQ.di (by
   intro ins outs h
   unfold dQ.c at h
   split at h
   ·cases h;exact dQ.fit _ _
   ·exact h.elim)
theorem c9.fit (n:UInt64):FT c9.d (cK tryzGl c9.env) [.u64 n] [(.ag [(.i .i64 (Mp.eD n).1),(.i .i64 (Mp.eD n).2)])] :=
 ⟨by kernel_rfl,Eq.trans (b:=c9.F n) (by kernel_rfl) (Eq.trans (c9.goal n) (by kernel_rfl))⟩
theorem c9.ok:KO 125 (c9.c) c9.sg :=
 meets (l:=c9.env) all_nil c9.di (by
   intro ins outs h
   unfold c9.c at h
   split at h
   ·cases h;exact c9.fit _
   ·exact h.elim)
theorem dP.fit (n:UInt64):FT dP.d (cK tryzGl dP.env) [.u64 n] [(.ag [(.i .i64 (Mp.signed n).1),(.i .i64 (Mp.signed n).2)])] :=
 ⟨by kernel_rfl,Eq.trans (b:=dP.F n) (by kernel_rfl) (Eq.trans (dP.goal n) (by kernel_rfl))⟩
theorem dP.ok:KO 126 (dP.c) dP.sg :=
 meets (l:=dP.env) all_nil dP.di (by
   intro ins outs h
   unfold dP.c at h
   split at h
   ·cases h;exact dP.fit _
   ·exact h.elim)
theorem fY.fit (kh:List UInt8) (mV:Int) (j8:Int) (n:UInt64) (hp:(decide (((fh.mk kh)).b.length+10≤1099511627776))=true):FT fY.d (cK tryzGl fY.env) [.ag [.sl .bs kh],.ag [.i .i64 mV,.i .i64 j8],.u64 n] [(.ag (fh.cells ((fh.mk (((fh.mk kh)).b++Mp.put (((kP.mk mV j8)).at_,((kP.mk mV j8)).end_) n)))))] :=
 ⟨by kernel_rfl,Eq.trans (b:=fY.F (fh.mk kh) (kP.mk mV j8) n) (by kernel_rfl) (Eq.trans (fY.goal (fh.mk kh) (kP.mk mV j8) n hp) (by kernel_rfl))⟩
theorem fY.ok:KO 124 (fY.c) fY.sg :=
 meets (l:=fY.env) (all_cons eM.ok (all_cons dS.ok all_nil)) fY.di (by
   intro ins outs h
   unfold fY.c at h
   split at h
   ·obtain ⟨hp,rfl⟩:=h;exact fY.fit _ _ _ _ hp
   ·exact h.elim)
theorem df.fit (n:Nat) (kh:List UInt8) (c7:Int) (cZ:UInt64) (dx:List UInt8) (cY:bS) (dy:List bD) (hp:((decide (((fh.mk kh)).b.length+16 * bD.cA (bD.of (bM.mk c7 cZ dx cY dy))≤1099511627776)&&decide (Mp.di (bD.of (bM.mk c7 cZ dx cY dy))=0))&&decide ((bD.cA (bD.of (bM.mk c7 cZ dx cY dy)))<n+1))=true):FT df.d (cK tryzGl (df.env n)) [.ag [.sl .bs kh],.ag [.i .i64 c7,.u64 cZ,.sl .bs dx,.s cY,.sl .il dy]] [(.ag (fh.cells ((fh.mk (((fh.mk kh)).b++Mp.lay (bD.of (bM.mk c7 cZ dx cY dy)))))))] :=
 ⟨by kernel_rfl,Eq.trans (b:=df.F n (fh.mk kh) (bM.mk c7 cZ dx cY dy)) (by kernel_rfl) (Eq.trans (df.goal n (fh.mk kh) (bM.mk c7 cZ dx cY dy) hp) (by kernel_rfl))⟩
theorem MD.sn:∀n:Nat,(KO 108 (df.cn n) df.sg):=by
 intro n
 induction n with
 | zero=>exact fI (by
   intro ti gW h
   unfold df.cn at h
   split at h
   ·obtain ⟨h,_⟩:=h;simp at h
   ·exact h.elim)
 | succ n ih =>
  have rl:=ih
  exact meets (l:=df.env n) (all_cons rl (all_cons fY.ok (all_cons c9.ok (all_cons dP.ok (all_cons eM.ok (all_cons jg.ok (all_cons fU.ok all_nil))))))) (df.di n) (by
   intro ins outs h
   unfold df.cn at h
   split at h
   ·obtain ⟨hp,rfl⟩:=h;exact df.fit n _ _ _ _ _ _ hp
   ·exact h.elim)
theorem df.ok:KO 108 (df.c) df.sg:=iR fun ti gW h=>by
 unfold df.c at h
 split at h
 ·obtain ⟨hp,rfl⟩:=h;exact ⟨df.cn (_+1),(MD.sn _),bw.2 ⟨hp,aa (Nat.lt_succ_self _)⟩,rfl⟩
 ·exact h.elim
theorem eh.fit (c7:Int) (cZ:UInt64) (dx:List UInt8) (cY:bS) (dy:List bD) (hp:(decide (bD.cA (bD.of (bM.mk c7 cZ dx cY dy))≤1073741824))=true):FT eh.d (cK tryzGl eh.env) [.ag [.i .i64 c7,.u64 cZ,.sl .bs dx,.s cY,.sl .il dy]] [(.sl .bs (Mp.enc (bD.of (bM.mk c7 cZ dx cY dy)))),(.i .i64 (Mp.di (bD.of (bM.mk c7 cZ dx cY dy))))] :=
 ⟨by kernel_rfl,Eq.trans (b:=eh.F (bM.mk c7 cZ dx cY dy)) (by kernel_rfl) (Eq.trans (eh.goal (bM.mk c7 cZ dx cY dy) hp) (by kernel_rfl))⟩
theorem eh.ok:KO 93 (eh.c) eh.sg :=
 meets (l:=eh.env) (all_cons cP.ok (all_cons ff.ok (all_cons df.ok (all_cons eC.ok all_nil)))) eh.di (by
   intro ins outs h
   unfold eh.c at h
   split at h
   ·obtain ⟨hp,rfl⟩:=h;exact eh.fit _ _ _ _ _ hp
   ·exact h.elim)
theorem bH.fit (c:Int) (hp:(decide (0≤c∧c≤255))=true):FT bH.d (cK tryzGl bH.env) [.i .i64 c] [(.i .i64 ((Mp.first c).1)),(.u64 ((Mp.first c).2.1)),(.i .i64 ((Mp.first c).2.2))] :=
 ⟨by kernel_rfl,Eq.trans (b:=bH.F c) (by kernel_rfl) (Eq.trans (bH.goal c hp) (by kernel_rfl))⟩
theorem bH.ok:KO 136 (bH.c) bH.sg :=
 meets (l:=bH.env) all_nil bH.di (by
   intro ins outs h
   unfold bH.c at h
   split at h
   ·obtain ⟨hp,rfl⟩:=h;exact bH.fit _ hp
   ·exact h.elim)
theorem dz.fit (c7:Int) (cZ:UInt64) (dx:List UInt8) (cY:bS) (dy:List bD) (p:Int) (c:Int) (mV:Int) (j8:Int):FT dz.d (cK tryzGl dz.env) [.ag [.i .i64 c7,.u64 cZ,.sl .bs dx,.s cY,.sl .il dy],.i .i64 p,.i .i64 c,.ag [.i .i64 mV,.i .i64 j8]] [(.ag (bM.cells (bD.val ((Mp.num (bD.of (bM.mk c7 cZ dx cY dy)) p c ((kP.mk mV j8)).at_ 0).it)))),(.ag (ez.cells ((ez.mk (Mp.num (bD.of (bM.mk c7 cZ dx cY dy)) p c ((kP.mk mV j8)).at_ 0).err (Mp.num (bD.of (bM.mk c7 cZ dx cY dy)) p c ((kP.mk mV j8)).at_ 0).at_ []))))] :=
 ⟨by kernel_rfl,Eq.trans (b:=dz.F (bM.mk c7 cZ dx cY dy) p c (kP.mk mV j8)) (by kernel_rfl) (Eq.trans (dz.goal (bM.mk c7 cZ dx cY dy) p c (kP.mk mV j8)) (by kernel_rfl))⟩
theorem dz.ok:KO 138 (dz.c) dz.sg :=
 meets (l:=dz.env) (all_cons dQ.ok all_nil) dz.di (by
   intro ins outs h
   unfold dz.c at h
   split at h
   ·cases h;exact dz.fit _ _ _ _ _ _ _ _ _
   ·exact h.elim)
theorem dz.MB:KO 138 (dz.cw) dz.sg:=yB rfl (by decide) dz.ok
theorem fB.fit (ft:List UInt8) (c8:Int) (c7:Int) (cZ:UInt64) (dx:List UInt8) (cY:bS) (dy:List bD) (p:Int) (n:Int) (hp:(cM.ie (dj.mk ft c8))=true):FT fB.d (cK tryzGl fB.env) [.ag [.sl .bs ft,.i .i64 c8],.ag [.i .i64 c7,.u64 cZ,.sl .bs dx,.s cY,.sl .il dy],.i .i64 p,.i .i64 n] [(.ag (bM.cells (bD.val ((Mp.row ((dj.mk ft c8)).b (bD.of (bM.mk c7 cZ dx cY dy)) p ((dj.mk ft c8)).at_ n).it)))),(.ag (ez.cells ((ez.mk (Mp.row ((dj.mk ft c8)).b (bD.of (bM.mk c7 cZ dx cY dy)) p ((dj.mk ft c8)).at_ n).err (Mp.row ((dj.mk ft c8)).b (bD.of (bM.mk c7 cZ dx cY dy)) p ((dj.mk ft c8)).at_ n).at_ [])))),(.ag (dj.cells ((dj.mk ((dj.mk ft c8)).b (Mp.row ((dj.mk ft c8)).b (bD.of (bM.mk c7 cZ dx cY dy)) p ((dj.mk ft c8)).at_ n).pos))))] :=
 ⟨by kernel_rfl,Eq.trans (b:=fB.F (dj.mk ft c8) (bM.mk c7 cZ dx cY dy) p n) (by kernel_rfl) (Eq.trans (fB.goal (dj.mk ft c8) (bM.mk c7 cZ dx cY dy) p n hp) (by kernel_rfl))⟩
theorem fB.ok:KO 140 (fB.c) fB.sg :=
 meets (l:=fB.env) (all_cons dr.ok (all_cons dQ.ok (all_cons fk.ok all_nil))) fB.di (by
   intro ins outs h
   unfold fB.c at h
   split at h
   ·obtain ⟨hp,rfl⟩:=h;exact fB.fit _ _ _ _ _ _ _ _ _ hp
   ·exact h.elim)
theorem fB.MB:KO 140 (fB.cw) fB.sg:=yB rfl (by decide) fB.ok
theorem de.fit (n:Nat) (ft:List UInt8) (c8:Int) (c7:Int) (cZ:UInt64) (cY:bS) (m:Int) (depth:Int) (hp:((cM.ie (dj.mk ft c8)&&decide (0≤m∧m≤4294967296∧1≤depth∧depth≤1000))&&decide ((2 * (depth).toNat)<n+1))=true):FT de.d (cK tryzGl (de.env n)) [.ag [.sl .bs ft,.i .i64 c8],.ag [.i .i64 c7,.u64 cZ,.c (.slice none 0 0),.s cY,.c (.slice none 0 0)],.i .i64 m,.i .i64 depth] [(.ag (bM.cells (bD.val ((Mp.kids (Mp.read ((dj.mk ft c8)).b (depth - 1).toNat) (bD.of (bM.mk c7 cZ [] cY [])) (Mp.many ((bM.mk c7 cZ [] cY [])).kind m) ((dj.mk ft c8)).at_).it)))),(.ag (ez.cells ((ez.mk (Mp.kids (Mp.read ((dj.mk ft c8)).b (depth - 1).toNat) (bD.of (bM.mk c7 cZ [] cY [])) (Mp.many ((bM.mk c7 cZ [] cY [])).kind m) ((dj.mk ft c8)).at_).err (Mp.kids (Mp.read ((dj.mk ft c8)).b (depth - 1).toNat) (bD.of (bM.mk c7 cZ [] cY [])) (Mp.many ((bM.mk c7 cZ [] cY [])).kind m) ((dj.mk ft c8)).at_).at_ [])))),(.ag (dj.cells ((dj.mk ((dj.mk ft c8)).b (Mp.kids (Mp.read ((dj.mk ft c8)).b (depth - 1).toNat) (bD.of (bM.mk c7 cZ [] cY [])) (Mp.many ((bM.mk c7 cZ [] cY [])).kind m) ((dj.mk ft c8)).at_).pos))))] :=
 ⟨by kernel_rfl,Eq.trans (b:=de.F n (dj.mk ft c8) (bM.mk c7 cZ [] cY []) m depth) (by kernel_rfl) (Eq.trans (de.goal n (dj.mk ft c8) (bM.mk c7 cZ [] cY []) m depth hp) (by kernel_rfl))⟩
theorem bZ.fit (n:Nat) (ft:List UInt8) (c8:Int) (depth:Int) (hp:((cM.ie (dj.mk ft c8)&&decide (0≤depth∧depth≤1000))&&decide ((2 * (depth).toNat+1)<n+1))=true):FT bZ.d (cK tryzGl (bZ.env n)) [.ag [.sl .bs ft,.i .i64 c8],.i .i64 depth] [(.ag (bM.cells (bD.val ((Mp.read ((dj.mk ft c8)).b (depth).toNat ((dj.mk ft c8)).at_).it)))),(.ag (ez.cells ((ez.mk (Mp.read ((dj.mk ft c8)).b (depth).toNat ((dj.mk ft c8)).at_).err (Mp.read ((dj.mk ft c8)).b (depth).toNat ((dj.mk ft c8)).at_).at_ [])))),(.ag (dj.cells ((dj.mk ((dj.mk ft c8)).b (Mp.read ((dj.mk ft c8)).b (depth).toNat ((dj.mk ft c8)).at_).pos))))] :=
 ⟨by kernel_rfl,Eq.trans (b:=bZ.F n (dj.mk ft c8) depth) (by kernel_rfl) (Eq.trans (bZ.goal n (dj.mk ft c8) depth hp) (by kernel_rfl))⟩
theorem Jv.sn:∀n:Nat,(KO 139 (de.cn n) de.sg)∧(KO 120 (bZ.cn n) bZ.sg):=by
 intro n
 induction n with
 | zero=>exact ⟨fI (by
   intro ti gW h
   unfold de.cn at h
   split at h
   ·obtain ⟨h,_⟩:=h;simp at h
   ·exact h.elim),fI (by
   intro ti gW h
   unfold bZ.cn at h
   split at h
   ·obtain ⟨h,_⟩:=h;simp at h
   ·exact h.elim)⟩
 | succ n ih =>
  obtain ⟨rl,En⟩:=ih
  exact ⟨meets (l:=de.env n) (all_cons En all_nil) (de.di n) (by
   intro ins outs h
   unfold de.cn at h
   split at h
   ·obtain ⟨hp,rfl⟩:=h;exact de.fit n _ _ _ _ _ _ _ hp
   ·exact h.elim),meets (l:=bZ.env n) (all_cons dQ.ok (all_cons gH.ok (all_cons c9.ok (all_cons dP.ok (all_cons jg.ok (all_cons fm.ok (all_cons bH.ok (all_cons dL.ok (all_cons dz.MB (all_cons rl (all_cons fB.MB all_nil))))))))))) (bZ.di n) (by
   intro ins outs h
   unfold bZ.cn at h
   split at h
   ·obtain ⟨hp,rfl⟩:=h;exact bZ.fit n _ _ _ hp
   ·exact h.elim)⟩
theorem bZ.ok:KO 120 (bZ.c) bZ.sg:=iR fun ti gW h=>by
 unfold bZ.c at h
 split at h
 ·obtain ⟨hp,rfl⟩:=h;exact ⟨bZ.cn (_+1),(Jv.sn _).2,bw.2 ⟨hp,aa (Nat.lt_succ_self _)⟩,rfl⟩
 ·exact h.elim
theorem ei.fit (b:List UInt8) (depth:Int) (hp:(decide ((b).length≤1099511627776))=true):FT ei.d (cK tryzGl ei.env) [.sl .bs b,.i .i64 depth] [(.ag (bM.cells (bD.val ((Mp.dec b depth).1)))),(.ag (ez.cells ((Mp.dec b depth).2)))] :=
 ⟨by kernel_rfl,Eq.trans (b:=ei.F b depth) (by kernel_rfl) (Eq.trans (ei.goal b depth hp) (by kernel_rfl))⟩
theorem ei.ok:KO 103 (ei.c) ei.sg :=
 meets (l:=ei.env) (all_cons dQ.ok (all_cons fq.ok (all_cons bZ.ok (all_cons eG.ok (all_cons gH.ok all_nil))))) ei.di (by
   intro ins outs h
   unfold ei.c at h
   split at h
   ·obtain ⟨hp,rfl⟩:=h;exact ei.fit _ _ hp
   ·exact h.elim)
theorem cz.fit (v:UInt64) (n:Int) (hp:(decide (0≤n∧n≤8))=true):FT cz.d (cK tryzGl cz.env) [.u64 v,.i .i64 n] [(.sl .bs (cM.iy v (n).toNat))] :=
 ⟨by kernel_rfl,Eq.trans (b:=cz.F v n) (by kernel_rfl) (Eq.trans (cz.goal v n hp) (by kernel_rfl))⟩
theorem cz.ok:KO 80 (cz.c) cz.sg :=
 meets (l:=cz.env) all_nil cz.di (by
   intro ins outs h
   unfold cz.c at h
   split at h
   ·obtain ⟨hp,rfl⟩:=h;exact cz.fit _ _ hp
   ·exact h.elim)
theorem bP.fit (v:UInt64) (n:Int) (hp:(decide (0≤n∧n≤8))=true):FT bP.d (cK tryzGl bP.env) [.u64 v,.i .i64 n] [(.sl .bs (cM.eb v (n).toNat))] :=
 ⟨by kernel_rfl,Eq.trans (b:=bP.F v n) (by kernel_rfl) (Eq.trans (bP.goal v n hp) (by kernel_rfl))⟩
theorem bP.ok:KO 64 (bP.c) bP.sg :=
 meets (l:=bP.env) (all_cons cz.ok all_nil) bP.di (by
   intro ins outs h
   unfold bP.c at h
   split at h
   ·obtain ⟨hp,rfl⟩:=h;exact bP.fit _ _ hp
   ·exact h.elim)
theorem dC.fit (n:UInt64):FT dC.d (cK tryzGl dC.env) [.u64 n] [(.i .i64 (Mp.wide n))] :=
 ⟨by kernel_rfl,Eq.trans (b:=dC.F n) (by kernel_rfl) (Eq.trans (dC.goal n) (by kernel_rfl))⟩
theorem dC.ok:KO 110 (dC.c) dC.sg :=
 meets (l:=dC.env) all_nil dC.di (by
   intro ins outs h
   unfold dC.c at h
   split at h
   ·cases h;exact dC.fit _
   ·exact h.elim)
theorem dD.fit (n:Int):FT dD.d (cK tryzGl dD.env) [.i .i64 n] [(.u8 (Mp.step n))] :=
 ⟨by kernel_rfl,Eq.trans (b:=dD.F n) (by kernel_rfl) (Eq.trans (dD.goal n) (by kernel_rfl))⟩
theorem dD.ok:KO 111 (dD.c) dD.sg :=
 meets (l:=dD.env) all_nil dD.di (by
   intro ins outs h
   unfold dD.c at h
   split at h
   ·cases h;exact dD.fit _
   ·exact h.elim)
theorem dw.fit (f:UInt8) (n:UInt64) (least:Int) (hp:(decide (least≤8))=true):FT dw.d (cK tryzGl dw.env) [.u8 f,.u64 n,.i .i64 least] [(.sl .bs (Mp.form f n least))] :=
 ⟨by kernel_rfl,Eq.trans (b:=dw.F f n least) (by kernel_rfl) (Eq.trans (dw.goal f n least hp) (by kernel_rfl))⟩
theorem dw.ok:KO 94 (dw.c) dw.sg :=
 meets (l:=dw.env) (all_cons bP.ok (all_cons dC.ok (all_cons dD.ok all_nil))) dw.di (by
   intro ins outs h
   unfold dw.c at h
   split at h
   ·obtain ⟨hp,rfl⟩:=h;exact dw.fit _ _ _ hp
   ·exact h.elim)
theorem ef.fit (n:UInt64) (k:UInt64):FT ef.d (cK tryzGl ef.env) [.u64 n,.u64 k] [(.sl .bs (Mp.ext n k))] :=
 ⟨by kernel_rfl,Eq.trans (b:=ef.F n k) (by kernel_rfl) (Eq.trans (ef.goal n k) (by kernel_rfl))⟩
theorem ef.ok:KO 96 (ef.c) ef.sg :=
 meets (l:=ef.env) (all_cons dw.ok all_nil) ef.di (by
   intro ins outs h
   unfold ef.c at h
   split at h
   ·cases h;exact ef.fit _ _
   ·exact h.elim)
theorem cJ.fit (n:UInt64):FT cJ.d (cK tryzGl cJ.env) [.u64 n] [(.sl .bs (Mp.put (Mp.signed n) (~~~ n)))] :=
 ⟨by kernel_rfl,Eq.trans (b:=cJ.F n) (by kernel_rfl) (Eq.trans (cJ.goal n) (by kernel_rfl))⟩
theorem cJ.ok:KO 95 (cJ.c) cJ.sg :=
 meets (l:=cJ.env) (all_cons bP.ok all_nil) cJ.di (by
   intro ins outs h
   unfold cJ.c at h
   split at h
   ·cases h;exact cJ.fit _
   ·exact h.elim)
theorem dE.fit (c7:Int) (cZ:UInt64) (dx:List UInt8) (cY:bS) (dy:List bD) (hp:(decide (bD.cA (bD.of (bM.mk c7 cZ dx cY dy))≤1099511627776)&&decide (Mp.own (bD.of (bM.mk c7 cZ dx cY dy))=0))=true):FT dE.d (cK tryzGl dE.env) [.ag [.i .i64 c7,.u64 cZ,.sl .bs dx,.s cY,.sl .il dy]] [(.sl .bs (Mp.head (bD.of (bM.mk c7 cZ dx cY dy))))] :=
 ⟨by kernel_rfl,Eq.trans (b:=dE.F (bM.mk c7 cZ dx cY dy)) (by kernel_rfl) (Eq.trans (dE.goal (bM.mk c7 cZ dx cY dy) hp) (by kernel_rfl))⟩
theorem dE.ok:KO 79 (dE.c) dE.sg :=
 meets (l:=dE.env) (all_cons bP.ok (all_cons dw.ok (all_cons cJ.ok (all_cons ef.ok all_nil)))) dE.di (by
   intro ins outs h
   unfold dE.c at h
   split at h
   ·obtain ⟨hp,rfl⟩:=h;exact dE.fit _ _ _ _ _ hp
   ·exact h.elim)
theorem cF.fit (n:Nat) (c7:Int) (cZ:UInt64) (dx:List UInt8) (cY:bS) (dy:List bD) (hp:((decide (16 * bD.cA (bD.of (bM.mk c7 cZ dx cY dy))≤1099511627776)&&decide (Mp.di (bD.of (bM.mk c7 cZ dx cY dy))=0))&&decide ((bD.cA (bD.of (bM.mk c7 cZ dx cY dy)))<n+1))=true):FT cF.d (cK tryzGl (cF.env n)) [.ag [.i .i64 c7,.u64 cZ,.sl .bs dx,.s cY,.sl .il dy]] [(.sl .bs (Mp.lay (bD.of (bM.mk c7 cZ dx cY dy))))] :=
 ⟨by kernel_rfl,Eq.trans (b:=cF.F n (bM.mk c7 cZ dx cY dy)) (by kernel_rfl) (Eq.trans (cF.goal n (bM.mk c7 cZ dx cY dy) hp) (by kernel_rfl))⟩
theorem GK.sn:∀n:Nat,(KO 63 (cF.cn n) cF.sg):=by
 intro n
 induction n with
 | zero=>exact fI (by
   intro ti gW h
   unfold cF.cn at h
   split at h
   ·obtain ⟨h,_⟩:=h;simp at h
   ·exact h.elim)
 | succ n ih =>
  have rl:=ih
  exact meets (l:=cF.env n) (all_cons rl (all_cons dE.ok all_nil)) (cF.di n) (by
   intro ins outs h
   unfold cF.cn at h
   split at h
   ·obtain ⟨hp,rfl⟩:=h;exact cF.fit n _ _ _ _ _ hp
   ·exact h.elim)
theorem cF.ok:KO 63 (cF.c) cF.sg:=iR fun ti gW h=>by
 unfold cF.c at h
 split at h
 ·obtain ⟨hp,rfl⟩:=h;exact ⟨cF.cn (_+1),(GK.sn _),bw.2 ⟨hp,aa (Nat.lt_succ_self _)⟩,rfl⟩
 ·exact h.elim
theorem cq.fit (n:Nat) (AK:Int) (AJ:UInt64) (AH:List UInt8) (AI:bS) (AL:List bD) (Gl:Int) (Gk:UInt64) (Gi:List UInt8) (Gj:bS) (Gm:List bD) (hp:((decide (bD.cA (bD.of (bM.mk AK AJ AH AI AL))≤1099511627776))&&decide ((bD.cA (bD.of (bM.mk AK AJ AH AI AL)))<n+1))=true):FT cq.d (cK tryzGl (cq.env n)) [.ag [.i .i64 AK,.u64 AJ,.sl .bs AH,.s AI,.sl .il AL],.ag [.i .i64 Gl,.u64 Gk,.sl .bs Gi,.s Gj,.sl .il Gm]] [(.b (bD.same (bD.of (bM.mk AK AJ AH AI AL)) (bD.of (bM.mk Gl Gk Gi Gj Gm))))] :=
 ⟨by kernel_rfl,Eq.trans (b:=cq.F n (bM.mk AK AJ AH AI AL) (bM.mk Gl Gk Gi Gj Gm)) (by kernel_rfl) (Eq.trans (cq.goal n (bM.mk AK AJ AH AI AL) (bM.mk Gl Gk Gi Gj Gm) hp) (by kernel_rfl))⟩
theorem DW.sn:∀n:Nat,(KO 12 (cq.cn n) cq.sg):=by
 intro n
 induction n with
 | zero=>exact fI (by
   intro ti gW h
   unfold cq.cn at h
   split at h
   ·obtain ⟨h,_⟩:=h;simp at h
   ·exact h.elim)
 | succ n ih =>
  have rl:=ih
  exact meets (l:=cq.env n) (all_cons rl all_nil) (cq.di n) (by
   intro ins outs h
   unfold cq.cn at h
   split at h
   ·obtain ⟨hp,rfl⟩:=h;exact cq.fit n _ _ _ _ _ _ _ _ _ _ hp
   ·exact h.elim)
theorem cq.ok:KO 12 (cq.c) cq.sg:=iR fun ti gW h=>by
 unfold cq.c at h
 split at h
 ·obtain ⟨hp,rfl⟩:=h;exact ⟨cq.cn (_+1),(DW.sn _),bw.2 ⟨hp,aa (Nat.lt_succ_self _)⟩,rfl⟩
 ·exact h.elim
theorem cW.fit (s:bS) (c:UInt8):FT cW.d (cK tryzGl cW.env) [.s s,.u8 c] [(.i .i64 (Lib.indexByte s c))] :=
 ⟨by kernel_rfl,Eq.trans (b:=cW.F s c) (by kernel_rfl) (Eq.trans (cW.goal s c) (by kernel_rfl))⟩
theorem cW.ok:KO 98 (cW.c) cW.sg :=
 meets (l:=cW.env) all_nil cW.di (by
   intro ins outs h
   unfold cW.c at h
   split at h
   ·cases h;exact cW.fit _ _
   ·exact h.elim)
theorem dW.fit (s:bS) (t:bS) (hp:(decide (t.length=1))=true):FT dW.d (cK tryzGl dW.env) [.s s,.s t] [(.i .i64 (Lib.indexByte s (t.getD 0 0)))] :=
 ⟨by kernel_rfl,Eq.trans (b:=dW.F s t) (by kernel_rfl) (Eq.trans (dW.goal s t hp) (by kernel_rfl))⟩
theorem dW.ok:KO 82 (dW.c) dW.sg :=
 meets (l:=dW.env) (all_cons cW.ok all_nil) dW.di (by
   intro ins outs h
   unfold dW.c at h
   split at h
   ·obtain ⟨hp,rfl⟩:=h;exact dW.fit _ _ hp
   ·exact h.elim)
theorem eE.fit (s:bS) (t:bS) (hp:(decide (t.length=1))=true):FT eE.d (cK tryzGl eE.env) [.s s,.s t] [(.i .i64 (Lib.indexByte s (t.getD 0 0)))] :=
 ⟨by kernel_rfl,Eq.trans (b:=eE.F s t) (by kernel_rfl) (Eq.trans (eE.goal s t hp) (by kernel_rfl))⟩
theorem eE.ok:KO 68 (eE.c) eE.sg :=
 meets (l:=eE.env) (all_cons dW.ok all_nil) eE.di (by
   intro ins outs h
   unfold eE.c at h
   split at h
   ·obtain ⟨hp,rfl⟩:=h;exact eE.fit _ _ hp
   ·exact h.elim)
theorem cT.fit (s:bS) (t:bS) (hp:(decide (t.length=1))=true):FT cT.d (cK tryzGl cT.env) [.s s,.s t] [(.b (decide (0≤Lib.indexByte s (t.getD 0 0))))] :=
 ⟨by kernel_rfl,Eq.trans (b:=cT.F s t) (by kernel_rfl) (Eq.trans (cT.goal s t hp) (by kernel_rfl))⟩
theorem cT.ok:KO 43 (cT.c) cT.sg :=
 meets (l:=cT.env) (all_cons eE.ok all_nil) cT.di (by
   intro ins outs h
   unfold cT.c at h
   split at h
   ·obtain ⟨hp,rfl⟩:=h;exact cT.fit _ _ hp
   ·exact h.elim)
theorem ee.fit (k:Int):FT ee.d (cK tryzGl ee.env) [.i .i64 k] [(.s (Tree.name k))] :=
 ⟨by kernel_rfl,Eq.trans (b:=ee.F k) (by kernel_rfl) (Eq.trans (ee.goal k) (by kernel_rfl))⟩
theorem ee.ok:KO 52 (ee.c) ee.sg :=
 meets (l:=ee.env) all_nil ee.di (by
   intro ins outs h
   unfold ee.c at h
   split at h
   ·cases h;exact ee.fit _
   ·exact h.elim)
theorem bF.fit (eX:Int) (eZ:UInt64) (eY:UInt64) (eW:UInt64) (eR:bS) (eV:bS) (eS:Int) (eQ:List UInt8) (fy:List bG):FT bF.d (cK tryzGl bF.env) [.ag [.i .i64 eX,.u64 eZ,.u64 eY,.u64 eW,.s eR,.s eV,.i .i64 eS,.sl .bs eQ,.sl .fl fy]] [(.b (Tree.dR (bE.mk eX eZ eY eW eR eV eS eQ fy)))] :=
 ⟨by kernel_rfl,Eq.trans (b:=bF.F (bE.mk eX eZ eY eW eR eV eS eQ fy)) (by kernel_rfl) (Eq.trans (bF.goal (bE.mk eX eZ eY eW eR eV eS eQ fy)) (by kernel_rfl))⟩
theorem bF.ok:KO 53 (bF.c) bF.sg :=
 meets (l:=bF.env) all_nil bF.di (by
   intro ins outs h
   unfold bF.c at h
   split at h
   ·cases h;exact bF.fit _ _ _ _ _ _ _ _ _
   ·exact h.elim)
theorem dA.fit (s:bS) (plain:Bool) (hp:(decide (s.length≤1099511627776))=true):FT dA.d (cK tryzGl dA.env) [.s s,.b plain] [(.b (Tree.eP s plain))] :=
 ⟨by kernel_rfl,Eq.trans (b:=dA.F s plain) (by kernel_rfl) (Eq.trans (dA.goal s plain hp) (by kernel_rfl))⟩
theorem dA.ok:KO 54 (dA.c) dA.sg :=
 meets (l:=dA.env) (all_cons dr.ok (all_cons cT.ok all_nil)) dA.di (by
   intro ins outs h
   unfold dA.c at h
   split at h
   ·obtain ⟨hp,rfl⟩:=h;exact dA.fit _ _ hp
   ·exact h.elim)
theorem cj.fit (n:Nat) (eX:Int) (eZ:UInt64) (eY:UInt64) (eW:UInt64) (eR:bS) (eV:bS) (eS:Int) (eQ:List UInt8) (fy:List bG) (name:bS) (path:List Int) (hp:((decide (bG.cA (bG.of name (bE.mk eX eZ eY eW eR eV eS eQ fy))+path.length≤1099511627776))&&decide ((bG.cA (bG.of name (bE.mk eX eZ eY eW eR eV eS eQ fy)))<n+1))=true):FT cj.d (cK tryzGl (cj.env n)) [.ag [.i .i64 eX,.u64 eZ,.u64 eY,.u64 eW,.s eR,.s eV,.i .i64 eS,.sl .bs eQ,.sl .fl fy],.s name,.sl .is path] [(.sl .is ((Tree.ga (bG.of name (bE.mk eX eZ eY eW eR eV eS eQ fy)) path).1)),(.i .i64 ((Tree.ga (bG.of name (bE.mk eX eZ eY eW eR eV eS eQ fy)) path).2))] :=
 ⟨by kernel_rfl,Eq.trans (b:=cj.F n (bE.mk eX eZ eY eW eR eV eS eQ fy) name path) (by kernel_rfl) (Eq.trans (cj.goal n (bE.mk eX eZ eY eW eR eV eS eQ fy) name path hp) (by kernel_rfl))⟩
theorem Gv.sn:∀n:Nat,(KO 35 (cj.cn n) cj.sg):=by
 intro n
 induction n with
 | zero=>exact fI (by
   intro ti gW h
   unfold cj.cn at h
   split at h
   ·obtain ⟨h,_⟩:=h;simp at h
   ·exact h.elim)
 | succ n ih =>
  have rl:=ih
  exact meets (l:=cj.env n) (all_cons rl (all_cons jx.ok (all_cons ee.ok (all_cons bF.ok (all_cons dA.ok all_nil))))) (cj.di n) (by
   intro ins outs h
   unfold cj.cn at h
   split at h
   ·obtain ⟨hp,rfl⟩:=h;exact cj.fit n _ _ _ _ _ _ _ _ _ _ _ hp
   ·exact h.elim)
theorem cj.ok:KO 35 (cj.c) cj.sg:=iR fun ti gW h=>by
 unfold cj.c at h
 split at h
 ·obtain ⟨hp,rfl⟩:=h;exact ⟨cj.cn (_+1),(Gv.sn _),bw.2 ⟨hp,aa (Nat.lt_succ_self _)⟩,rfl⟩
 ·exact h.elim
theorem dB.fit (eX:Int) (eZ:UInt64) (eY:UInt64) (eW:UInt64) (eR:bS) (eV:bS) (eS:Int) (eQ:List UInt8) (fy:List bG) (hp:(decide (bG.cA (bG.of [] (bE.mk eX eZ eY eW eR eV eS eQ fy))≤1099511627776))=true):FT dB.d (cK tryzGl dB.env) [.ag [.i .i64 eX,.u64 eZ,.u64 eY,.u64 eW,.s eR,.s eV,.i .i64 eS,.sl .bs eQ,.sl .fl fy]] [(.sl .is ((Tree.ga (bG.of [] (bE.mk eX eZ eY eW eR eV eS eQ fy)) []).1)),(.i .i64 ((Tree.ga (bG.of [] (bE.mk eX eZ eY eW eR eV eS eQ fy)) []).2))] :=
 ⟨by kernel_rfl,Eq.trans (b:=dB.F (bE.mk eX eZ eY eW eR eV eS eQ fy)) (by kernel_rfl) (Eq.trans (dB.goal (bE.mk eX eZ eY eW eR eV eS eQ fy) hp) (by kernel_rfl))⟩
theorem dB.ok:KO 20 (dB.c) dB.sg :=
 meets (l:=dB.env) (all_cons cj.ok all_nil) dB.di (by
   intro ins outs h
   unfold dB.c at h
   split at h
   ·obtain ⟨hp,rfl⟩:=h;exact dB.fit _ _ _ _ _ _ _ _ _ hp
   ·exact h.elim)
theorem cm.fit (n:Nat) (eX:Int) (eZ:UInt64) (eY:UInt64) (eW:UInt64) (eR:bS) (eV:bS) (eS:Int) (eQ:List UInt8) (fy:List bG) (hp:((decide (bG.cA (bG.of [] (bE.mk eX eZ eY eW eR eV eS eQ fy))≤1099511627776))&&decide ((bG.cA (bG.of [] (bE.mk eX eZ eY eW eR eV eS eQ fy)))<n+1))=true):FT cm.d (cK tryzGl (cm.env n)) [.ag [.i .i64 eX,.u64 eZ,.u64 eY,.u64 eW,.s eR,.s eV,.i .i64 eS,.sl .bs eQ,.sl .fl fy]] [(.i .i64 ((Tree.depth (bG.of [] (bE.mk eX eZ eY eW eR eV eS eQ fy)):Int)))] :=
 ⟨by kernel_rfl,Eq.trans (b:=cm.F n (bE.mk eX eZ eY eW eR eV eS eQ fy)) (by kernel_rfl) (Eq.trans (cm.goal n (bE.mk eX eZ eY eW eR eV eS eQ fy) hp) (by kernel_rfl))⟩
theorem Gu.sn:∀n:Nat,(KO 21 (cm.cn n) cm.sg):=by
 intro n
 induction n with
 | zero=>exact fI (by
   intro ti gW h
   unfold cm.cn at h
   split at h
   ·obtain ⟨h,_⟩:=h;simp at h
   ·exact h.elim)
 | succ n ih =>
  have rl:=ih
  exact meets (l:=cm.env n) (all_cons rl all_nil) (cm.di n) (by
   intro ins outs h
   unfold cm.cn at h
   split at h
   ·obtain ⟨hp,rfl⟩:=h;exact cm.fit n _ _ _ _ _ _ _ _ _ hp
   ·exact h.elim)
theorem cm.ok:KO 21 (cm.c) cm.sg:=iR fun ti gW h=>by
 unfold cm.c at h
 split at h
 ·obtain ⟨hp,rfl⟩:=h;exact ⟨cm.cn (_+1),(Gu.sn _),bw.2 ⟨hp,aa (Nat.lt_succ_self _)⟩,rfl⟩
 ·exact h.elim
theorem da.fit:([]:List TV).length=da.d.np∧da.d.run (cK tryzGl da.env) []=some (([(.sl .is (Tree.kinds))]:List TV)++da.d.ps.toList.map fun q=>([]:List TV).getD q.1 .dead) :=
 ⟨by kernel_rfl,Eq.trans (b:=da.F ) (by kernel_rfl) (Eq.trans (da.goal ) (by kernel_rfl))⟩
theorem da.ok:KO 92 (da.c) da.sg :=
 meets (l:=da.env) all_nil da.di (by
   intro ins outs h
   unfold da.c at h
   split at h
   ·cases h;exact da.fit
   ·exact h.elim)
theorem cH.fit (k:Int):FT cH.d (cK tryzGl cH.env) [.i .i64 k] [(.s (Tree.name k))] :=
 ⟨by kernel_rfl,Eq.trans (b:=cH.F k) (by kernel_rfl) (Eq.trans (cH.goal k) (by kernel_rfl))⟩
theorem cH.ok:KO 75 (cH.c) cH.sg :=
 meets (l:=cH.env) (all_cons da.ok all_nil) cH.di (by
   intro ins outs h
   unfold cH.c at h
   split at h
   ·cases h;exact cH.fit _
   ·exact h.elim)
theorem bL.fit (k:Int):FT bL.d (cK tryzGl bL.env) [.i .i64 k] [(.b (Tree.gN 0 k)),(.b (Tree.gN 1 k)),(.b (Tree.gN 2 k)),(.b (Tree.gN 3 k)),(.b (Tree.gN 4 k)),(.b (Tree.gN 5 k)),(.b (Tree.gN 6 k))] :=
 ⟨by kernel_rfl,Eq.trans (b:=bL.F k) (by kernel_rfl) (Eq.trans (bL.goal k) (by kernel_rfl))⟩
theorem bL.ok:KO 76 (bL.c) bL.sg :=
 meets (l:=bL.env) all_nil bL.di (by
   intro ins outs h
   unfold bL.c at h
   split at h
   ·cases h;exact bL.fit _
   ·exact h.elim)
theorem eg.fit (eX:Int) (eZ:UInt64) (eY:UInt64) (eW:UInt64) (eR:bS) (eV:bS) (eS:Int) (eQ:List UInt8) (fy:List bG) (hp:(decide (bG.cA (bG.of [] (bE.mk eX eZ eY eW eR eV eS eQ fy))≤1099511627776))=true):FT eg.d (cK tryzGl eg.env) [.ag [.i .i64 eX,.u64 eZ,.u64 eY,.u64 eW,.s eR,.s eV,.i .i64 eS,.sl .bs eQ,.sl .fl fy]] [(.i .i64 (Tree.own (bE.mk eX eZ eY eW eR eV eS eQ fy)))] :=
 ⟨by kernel_rfl,Eq.trans (b:=eg.F (bE.mk eX eZ eY eW eR eV eS eQ fy)) (by kernel_rfl) (Eq.trans (eg.goal (bE.mk eX eZ eY eW eR eV eS eQ fy) hp) (by kernel_rfl))⟩
theorem eg.ok:KO 49 (eg.c) eg.sg :=
 meets (l:=eg.env) (all_cons cO.ok (all_cons dt.ok (all_cons cH.ok (all_cons bL.ok all_nil)))) eg.di (by
   intro ins outs h
   unfold eg.c at h
   split at h
   ·obtain ⟨hp,rfl⟩:=h;exact eg.fit _ _ _ _ _ _ _ _ _ hp
   ·exact h.elim)
theorem dn.fit (s:bS) (hp:(decide (s.length≤1099511627776))=true):FT dn.d (cK tryzGl dn.env) [.s s] [(.b (Tree.eP s true))] :=
 ⟨by kernel_rfl,Eq.trans (b:=dn.F s) (by kernel_rfl) (Eq.trans (dn.goal s hp) (by kernel_rfl))⟩
theorem dn.ok:KO 50 (dn.c) dn.sg :=
 meets (l:=dn.env) (all_cons cO.ok (all_cons dt.ok all_nil)) dn.di (by
   intro ins outs h
   unfold dn.c at h
   split at h
   ·obtain ⟨hp,rfl⟩:=h;exact dn.fit _ hp
   ·exact h.elim)
theorem cX.fit (p:List Int) (k:Int) (hp:(decide (p.length≤1099511627776))=true):FT cX.d (cK tryzGl cX.env) [.sl .is p,.i .i64 k] [(.sl .is ((p++[k])))] :=
 ⟨by kernel_rfl,Eq.trans (b:=cX.F p k) (by kernel_rfl) (Eq.trans (cX.goal p k hp) (by kernel_rfl))⟩
theorem cX.ok:KO 51 (cX.c) cX.sg :=
 meets (l:=cX.env) all_nil cX.di (by
   intro ins outs h
   unfold cX.c at h
   split at h
   ·obtain ⟨hp,rfl⟩:=h;exact cX.fit _ _ hp
   ·exact h.elim)
theorem bN.fit (n:Nat) (eX:Int) (eZ:UInt64) (eY:UInt64) (eW:UInt64) (eR:bS) (eV:bS) (eS:Int) (eQ:List UInt8) (fy:List bG) (name:bS) (p:List Int) (hp:((decide (bG.cA (bG.of name (bE.mk eX eZ eY eW eR eV eS eQ fy))+p.length≤1099511627776))&&decide ((bG.cA (bG.of name (bE.mk eX eZ eY eW eR eV eS eQ fy)))<n+1))=true):FT bN.d (cK tryzGl (bN.env n)) [.ag [.i .i64 eX,.u64 eZ,.u64 eY,.u64 eW,.s eR,.s eV,.i .i64 eS,.sl .bs eQ,.sl .fl fy],.s name,.sl .is p] [(.sl .is ((Tree.ga (bG.of name (bE.mk eX eZ eY eW eR eV eS eQ fy)) p).1)),(.i .i64 ((Tree.ga (bG.of name (bE.mk eX eZ eY eW eR eV eS eQ fy)) p).2))] :=
 ⟨by kernel_rfl,Eq.trans (b:=bN.F n (bE.mk eX eZ eY eW eR eV eS eQ fy) name p) (by kernel_rfl) (Eq.trans (bN.goal n (bE.mk eX eZ eY eW eR eV eS eQ fy) name p hp) (by kernel_rfl))⟩
theorem GO.sn:∀n:Nat,(KO 33 (bN.cn n) bN.sg):=by
 intro n
 induction n with
 | zero=>exact fI (by
   intro ti gW h
   unfold bN.cn at h
   split at h
   ·obtain ⟨h,_⟩:=h;simp at h
   ·exact h.elim)
 | succ n ih =>
  have rl:=ih
  exact meets (l:=bN.env n) (all_cons rl (all_cons eg.ok (all_cons dn.ok (all_cons cX.ok all_nil)))) (bN.di n) (by
   intro ins outs h
   unfold bN.cn at h
   split at h
   ·obtain ⟨hp,rfl⟩:=h;exact bN.fit n _ _ _ _ _ _ _ _ _ _ _ hp
   ·exact h.elim)
theorem bN.ok:KO 33 (bN.c) bN.sg:=iR fun ti gW h=>by
 unfold bN.c at h
 split at h
 ·obtain ⟨hp,rfl⟩:=h;exact ⟨bN.cn (_+1),(GO.sn _),bw.2 ⟨hp,aa (Nat.lt_succ_self _)⟩,rfl⟩
 ·exact h.elim
theorem dp.fit (eX:Int) (eZ:UInt64) (eY:UInt64) (eW:UInt64) (eR:bS) (eV:bS) (eS:Int) (eQ:List UInt8) (fy:List bG) (hp:(decide (bG.cA (bG.of [] (bE.mk eX eZ eY eW eR eV eS eQ fy))≤1099511627776))=true):FT dp.d (cK tryzGl dp.env) [.ag [.i .i64 eX,.u64 eZ,.u64 eY,.u64 eW,.s eR,.s eV,.i .i64 eS,.sl .bs eQ,.sl .fl fy]] [(.sl .is ((Tree.ga (bG.of [] (bE.mk eX eZ eY eW eR eV eS eQ fy)) []).1)),(.i .i64 ((Tree.ga (bG.of [] (bE.mk eX eZ eY eW eR eV eS eQ fy)) []).2))] :=
 ⟨by kernel_rfl,Eq.trans (b:=dp.F (bE.mk eX eZ eY eW eR eV eS eQ fy)) (by kernel_rfl) (Eq.trans (dp.goal (bE.mk eX eZ eY eW eR eV eS eQ fy) hp) (by kernel_rfl))⟩
theorem dp.ok:KO 18 (dp.c) dp.sg :=
 meets (l:=dp.env) (all_cons bN.ok all_nil) dp.di (by
   intro ins outs h
   unfold dp.c at h
   split at h
   ·obtain ⟨hp,rfl⟩:=h;exact dp.fit _ _ _ _ _ _ _ _ _ hp
   ·exact h.elim)
theorem cB.fit (v:UInt64):FT cB.d (cK tryzGl cB.env) [.u64 v] [(.s (ky (v).toNat))] :=
 ⟨by kernel_rfl,Eq.trans (b:=cB.F v) (by kernel_rfl) (Eq.trans (cB.goal v) (by kernel_rfl))⟩
theorem cB.ok:KO 73 (cB.c) cB.sg :=
 meets (l:=cB.env) all_nil cB.di (by
   intro ins outs h
   unfold cB.c at h
   split at h
   ·cases h;exact cB.fit _
   ·exact h.elim)
theorem dG.fit (k:Int):FT dG.d (cK tryzGl dG.env) [.i .i64 k] [(.b (decide (k=3∨k=4∨k=15)))] :=
 ⟨by kernel_rfl,Eq.trans (b:=dG.F k) (by kernel_rfl) (Eq.trans (dG.goal k) (by kernel_rfl))⟩
theorem dG.ok:KO 32 (dG.c) dG.sg :=
 meets (l:=dG.env) all_nil dG.di (by
   intro ins outs h
   unfold dG.c at h
   split at h
   ·cases h;exact dG.fit _
   ·exact h.elim)
theorem bX.fit (n:Nat) (eX:Int) (eZ:UInt64) (eY:UInt64) (eW:UInt64) (eR:bS) (eV:bS) (eS:Int) (eQ:List UInt8) (fy:List bG) (hp:((decide (bG.cA (bG.of [] (bE.mk eX eZ eY eW eR eV eS eQ fy))≤1099511627776))&&decide ((bG.cA (bG.of [] (bE.mk eX eZ eY eW eR eV eS eQ fy)))<n+1))=true):FT bX.d (cK tryzGl (bX.env n)) [.ag [.i .i64 eX,.u64 eZ,.u64 eY,.u64 eW,.s eR,.s eV,.i .i64 eS,.sl .bs eQ,.sl .fl fy]] [(.i .i64 ((Tree.depth (bG.of [] (bE.mk eX eZ eY eW eR eV eS eQ fy)):Int)))] :=
 ⟨by kernel_rfl,Eq.trans (b:=bX.F n (bE.mk eX eZ eY eW eR eV eS eQ fy)) (by kernel_rfl) (Eq.trans (bX.goal n (bE.mk eX eZ eY eW eR eV eS eQ fy) hp) (by kernel_rfl))⟩
theorem GN.sn:∀n:Nat,(KO 17 (bX.cn n) bX.sg):=by
 intro n
 induction n with
 | zero=>exact fI (by
   intro ti gW h
   unfold bX.cn at h
   split at h
   ·obtain ⟨h,_⟩:=h;simp at h
   ·exact h.elim)
 | succ n ih =>
  have rl:=ih
  exact meets (l:=bX.env n) (all_cons rl (all_cons dG.ok all_nil)) (bX.di n) (by
   intro ins outs h
   unfold bX.cn at h
   split at h
   ·obtain ⟨hp,rfl⟩:=h;exact bX.fit n _ _ _ _ _ _ _ _ _ hp
   ·exact h.elim)
theorem bX.ok:KO 17 (bX.c) bX.sg:=iR fun ti gW h=>by
 unfold bX.c at h
 split at h
 ·obtain ⟨hp,rfl⟩:=h;exact ⟨bX.cn (_+1),(GN.sn _),bw.2 ⟨hp,aa (Nat.lt_succ_self _)⟩,rfl⟩
 ·exact h.elim
theorem bW.fit (l:List bG) (hp:(decide (l.length≤1099511627776))=true):FT bW.d (cK tryzGl bW.env) [.sl .fl l] [(.b (Tree.regular l))] :=
 ⟨by kernel_rfl,Eq.trans (b:=bW.F l) (by kernel_rfl) (Eq.trans (bW.goal l hp) (by kernel_rfl))⟩
theorem bW.ok:KO 55 (bW.c) bW.sg :=
 meets (l:=bW.env) (all_cons kE.ok all_nil) bW.di (by
   intro ins outs h
   unfold bW.c at h
   split at h
   ·obtain ⟨hp,rfl⟩:=h;exact bW.fit _ hp
   ·exact h.elim)
theorem bU.fit (l:List bG) (hp:(decide (l.length≤1099511627776))=true):FT bU.d (cK tryzGl bU.env) [.sl .fl l] [(.b (Tree.regular l))] :=
 ⟨by kernel_rfl,Eq.trans (b:=bU.F l) (by kernel_rfl) (Eq.trans (bU.goal l hp) (by kernel_rfl))⟩
theorem bU.ok:KO 61 (bU.c) bU.sg :=
 meets (l:=bU.env) (all_cons cB.ok all_nil) bU.di (by
   intro ins outs h
   unfold bU.c at h
   split at h
   ·obtain ⟨hp,rfl⟩:=h;exact bU.fit _ hp
   ·exact h.elim)
theorem cR.fit (n:Int) (hp:(decide (-9223372036854775808≤n∧n≤9223372036854775807))=true):FT cR.d (cK tryzGl cR.env) [.i .i64 n] [(.ag (bM.cells (bD.val (Db.integer n))))] :=
 ⟨by kernel_rfl,Eq.trans (b:=cR.F n) (by kernel_rfl) (Eq.trans (cR.goal n hp) (by kernel_rfl))⟩
theorem cR.ok:KO 65 (cR.c) cR.sg :=
 meets (l:=cR.env) all_nil cR.di (by
   intro ins outs h
   unfold cR.c at h
   split at h
   ·obtain ⟨hp,rfl⟩:=h;exact cR.fit _ hp
   ·exact h.elim)
theorem fX.fit (s:bS) (t:bS) (hp:(decide (t.length=1∧s.length≤1099511627776))=true):FT fX.d (cK tryzGl fX.env) [.s s,.s t] [(.s ((Dk.cut s (t.getD 0 0)).1)),(.s ((Dk.cut s (t.getD 0 0)).2.1)),(.b ((Dk.cut s (t.getD 0 0)).2.2))] :=
 ⟨by kernel_rfl,Eq.trans (b:=fX.F s t) (by kernel_rfl) (Eq.trans (fX.goal s t hp) (by kernel_rfl))⟩
theorem fX.ok:KO 104 (fX.c) fX.sg :=
 meets (l:=fX.env) (all_cons dW.ok all_nil) fX.di (by
   intro ins outs h
   unfold fX.c at h
   split at h
   ·obtain ⟨hp,rfl⟩:=h;exact fX.fit _ _ hp
   ·exact h.elim)
theorem fW.fit (s:bS) (t:bS) (hp:(decide (t.length=1∧s.length≤1099511627776))=true):FT fW.d (cK tryzGl fW.env) [.s s,.s t] [(.s ((Dk.cut s (t.getD 0 0)).1)),(.s ((Dk.cut s (t.getD 0 0)).2.1)),(.b ((Dk.cut s (t.getD 0 0)).2.2))] :=
 ⟨by kernel_rfl,Eq.trans (b:=fW.F s t) (by kernel_rfl) (Eq.trans (fW.goal s t hp) (by kernel_rfl))⟩
theorem fW.ok:KO 87 (fW.c) fW.sg :=
 meets (l:=fW.env) (all_cons fX.ok all_nil) fW.di (by
   intro ins outs h
   unfold fW.c at h
   split at h
   ·obtain ⟨hp,rfl⟩:=h;exact fW.fit _ _ hp
   ·exact h.elim)
theorem eN.fit (s:bS):FT eN.d (cK tryzGl eN.env) [.s s] [(.ag (bM.cells (bD.val (Db.text s))))] :=
 ⟨by kernel_rfl,Eq.trans (b:=eN.F s) (by kernel_rfl) (Eq.trans (eN.goal s) (by kernel_rfl))⟩
theorem eN.ok:KO 36 (eN.c) eN.sg :=
 meets (l:=eN.env) all_nil eN.di (by
   intro ins outs h
   unfold eN.c at h
   split at h
   ·cases h;exact eN.fit _
   ·exact h.elim)
theorem ej.fit (n:UInt64):FT ej.d (cK tryzGl ej.env) [.u64 n] [(.ag (bM.cells (bD.val (Db.simple n))))] :=
 ⟨by kernel_rfl,Eq.trans (b:=ej.F n) (by kernel_rfl) (Eq.trans (ej.goal n) (by kernel_rfl))⟩
theorem ej.ok:KO 57 (ej.c) ej.sg :=
 meets (l:=ej.env) all_nil ej.di (by
   intro ins outs h
   unfold ej.c at h
   split at h
   ·cases h;exact ej.fit _
   ·exact h.elim)
theorem dO.fit (v:UInt64) (n:Int) (hp:(decide (0≤n∧n≤8))=true):FT dO.d (cK tryzGl dO.env) [.u64 v,.i .i64 n] [(.sl .bs (cM.eb v (n).toNat))] :=
 ⟨by kernel_rfl,Eq.trans (b:=dO.F v n) (by kernel_rfl) (Eq.trans (dO.goal v n hp) (by kernel_rfl))⟩
theorem dO.ok:KO 78 (dO.c) dO.sg :=
 meets (l:=dO.env) all_nil dO.di (by
   intro ins outs h
   unfold dO.c at h
   split at h
   ·obtain ⟨hp,rfl⟩:=h;exact dO.fit _ _ hp
   ·exact h.elim)
theorem dH.fit (v:Int) (hp:(decide (-9223372036854775808≤v∧v≤9223372036854775807))=true):FT dH.d (cK tryzGl dH.env) [.i .i64 v] [(.ag (bM.cells (bD.val (Db.integer v))))] :=
 ⟨by kernel_rfl,Eq.trans (b:=dH.F v) (by kernel_rfl) (Eq.trans (dH.goal v hp) (by kernel_rfl))⟩
theorem dH.ok:KO 58 (dH.c) dH.sg :=
 meets (l:=dH.env) all_nil dH.di (by
   intro ins outs h
   unfold dH.c at h
   split at h
   ·obtain ⟨hp,rfl⟩:=h;exact dH.fit _ hp
   ·exact h.elim)
theorem fo.fit (k:Int):FT fo.d (cK tryzGl fo.env) [.i .i64 k] [(.u64 (Dk.sort k))] :=
 ⟨by kernel_rfl,Eq.trans (b:=fo.F k) (by kernel_rfl) (Eq.trans (fo.goal k) (by kernel_rfl))⟩
theorem fo.ok:KO 59 (fo.c) fo.sg :=
 meets (l:=fo.env) all_nil fo.di (by
   intro ins outs h
   unfold fo.c at h
   split at h
   ·cases h;exact fo.fit _
   ·exact h.elim)
theorem cD.fit (n:Nat) (l:List bG) (hp:((decide (bG.cE l≤1048576)&&Tree.gg l)&&decide ((4 * bG.cE l+3)<n+1))=true):FT cD.d (cK tryzGl (cD.env n)) [.sl .fl l] [(.ag (bM.cells (bD.val (Db.map (Dk.mapped l)))))] :=
 ⟨by kernel_rfl,Eq.trans (b:=cD.F n l) (by kernel_rfl) (Eq.trans (cD.goal n l hp) (by kernel_rfl))⟩
theorem fw.fit (n:Nat) (l:List bG) (hp:((decide (bG.cE l≤1048576)&&Tree.gg l)&&decide ((4 * bG.cE l+4)<n+1))=true):FT fw.d (cK tryzGl (fw.env n)) [.sl .fl l] [(.sl .bs (Mp.lay (Db.map (Dk.mapped l))))] :=
 ⟨by kernel_rfl,Eq.trans (b:=fw.F n l) (by kernel_rfl) (Eq.trans (fw.goal n l hp) (by kernel_rfl))⟩
theorem cU.fit (n:Nat) (eX:Int) (eZ:UInt64) (eY:UInt64) (eW:UInt64) (eR:bS) (eV:bS) (eS:Int) (eQ:List UInt8) (fy:List bG) (hp:((decide (bG.cA (bG.of [] (bE.mk eX eZ eY eW eR eV eS eQ fy))≤1048576)&&Tree.jF (bG.of [] (bE.mk eX eZ eY eW eR eV eS eQ fy)))&&decide ((4 * bG.cA (bG.of [] (bE.mk eX eZ eY eW eR eV eS eQ fy))+2)<n+1))=true):FT cU.d (cK tryzGl (cU.env n)) [.ag [.i .i64 eX,.u64 eZ,.u64 eY,.u64 eW,.s eR,.s eV,.i .i64 eS,.sl .bs eQ,.sl .fl fy]] [(.ag (bM.cells (bD.val (Dk.item (bG.of [] (bE.mk eX eZ eY eW eR eV eS eQ fy))))))] :=
 ⟨by kernel_rfl,Eq.trans (b:=cU.F n (bE.mk eX eZ eY eW eR eV eS eQ fy)) (by kernel_rfl) (Eq.trans (cU.goal n (bE.mk eX eZ eY eW eR eV eS eQ fy) hp) (by kernel_rfl))⟩
theorem cL.fit (n:Nat) (eX:Int) (eZ:UInt64) (eY:UInt64) (eW:UInt64) (eR:bS) (eV:bS) (eS:Int) (eQ:List UInt8) (fy:List bG) (hp:((decide (bG.cA (bG.of [] (bE.mk eX eZ eY eW eR eV eS eQ fy))≤1048576)&&Tree.jF (bG.of [] (bE.mk eX eZ eY eW eR eV eS eQ fy)))&&decide ((4 * bG.cA (bG.of [] (bE.mk eX eZ eY eW eR eV eS eQ fy))+1)<n+1))=true):FT cL.d (cK tryzGl (cL.env n)) [.ag [.i .i64 eX,.u64 eZ,.u64 eY,.u64 eW,.s eR,.s eV,.i .i64 eS,.sl .bs eQ,.sl .fl fy]] [(.sl .bs (Dk.inner (bE.mk eX eZ eY eW eR eV eS eQ fy) (Mp.lay (Db.map (Dk.mapped ((bE.mk eX eZ eY eW eR eV eS eQ fy)).kids)))))] :=
 ⟨by kernel_rfl,Eq.trans (b:=cL.F n (bE.mk eX eZ eY eW eR eV eS eQ fy)) (by kernel_rfl) (Eq.trans (cL.goal n (bE.mk eX eZ eY eW eR eV eS eQ fy) hp) (by kernel_rfl))⟩
theorem H7.sn:∀n:Nat,(KO 22 (cD.cn n) cD.sg)∧(KO 77 (fw.cn n) fw.sg)∧(KO 37 (cU.cn n) cU.sg)∧(KO 60 (cL.cn n) cL.sg):=by
 intro n
 induction n with
 | zero=>exact ⟨fI (by
   intro ti gW h
   unfold cD.cn at h
   split at h
   ·obtain ⟨h,_⟩:=h;simp at h
   ·exact h.elim),fI (by
   intro ti gW h
   unfold fw.cn at h
   split at h
   ·obtain ⟨h,_⟩:=h;simp at h
   ·exact h.elim),fI (by
   intro ti gW h
   unfold cU.cn at h
   split at h
   ·obtain ⟨h,_⟩:=h;simp at h
   ·exact h.elim),fI (by
   intro ti gW h
   unfold cL.cn at h
   split at h
   ·obtain ⟨h,_⟩:=h;simp at h
   ·exact h.elim)⟩
 | succ n ih =>
  obtain ⟨rl,En,Lu,NL⟩:=ih
  exact ⟨meets (l:=cD.env n) (all_cons eN.ok (all_cons Lu all_nil)) (cD.di n) (by
   intro ins outs h
   unfold cD.cn at h
   split at h
   ·obtain ⟨hp,rfl⟩:=h;exact cD.fit n _ hp
   ·exact h.elim),meets (l:=fw.env n) (all_cons rl (all_cons eh.ok all_nil)) (fw.di n) (by
   intro ins outs h
   unfold fw.cn at h
   split at h
   ·obtain ⟨hp,rfl⟩:=h;exact fw.fit n _ hp
   ·exact h.elim),meets (l:=cU.env n) (all_cons rl (all_cons eN.ok (all_cons Lu (all_cons bW.ok (all_cons fG.ok (all_cons ej.ok (all_cons dH.ok (all_cons fo.ok (all_cons NL all_nil))))))))) (cU.di n) (by
   intro ins outs h
   unfold cU.cn at h
   split at h
   ·obtain ⟨hp,rfl⟩:=h;exact cU.fit n _ _ _ _ _ _ _ _ _ hp
   ·exact h.elim),meets (l:=cL.env n) (all_cons fG.ok (all_cons En (all_cons dO.ok all_nil))) (cL.di n) (by
   intro ins outs h
   unfold cL.cn at h
   split at h
   ·obtain ⟨hp,rfl⟩:=h;exact cL.fit n _ _ _ _ _ _ _ _ _ hp
   ·exact h.elim)⟩
theorem cD.ok:KO 22 (cD.c) cD.sg:=iR fun ti gW h=>by
 unfold cD.c at h
 split at h
 ·obtain ⟨hp,rfl⟩:=h;exact ⟨cD.cn (_+1),(H7.sn _).1,bw.2 ⟨hp,aa (Nat.lt_succ_self _)⟩,rfl⟩
 ·exact h.elim
theorem fp.fit (eX:Int) (eZ:UInt64) (eY:UInt64) (eW:UInt64) (eR:bS) (eV:bS) (eS:Int) (eQ:List UInt8) (fy:List bG) (hp:(decide (bG.cA (bG.of [] (bE.mk eX eZ eY eW eR eV eS eQ fy))≤1048576))=true):FT fp.d (cK tryzGl fp.env) [.ag [.i .i64 eX,.u64 eZ,.u64 eY,.u64 eW,.s eR,.s eV,.i .i64 eS,.sl .bs eQ,.sl .fl fy]] [(.ag (bM.cells (bD.val ((Dk.enc (bE.mk eX eZ eY eW eR eV eS eQ fy)).1)))),(.ag (ez.cells ((Dk.enc (bE.mk eX eZ eY eW eR eV eS eQ fy)).2)))] :=
 ⟨by kernel_rfl,Eq.trans (b:=fp.F (bE.mk eX eZ eY eW eR eV eS eQ fy)) (by kernel_rfl) (Eq.trans (fp.goal (bE.mk eX eZ eY eW eR eV eS eQ fy) hp) (by kernel_rfl))⟩
theorem fp.ok:KO 9 (fp.c) fp.sg :=
 meets (l:=fp.env) (all_cons dB.ok (all_cons cm.ok (all_cons cD.ok all_nil))) fp.di (by
   intro ins outs h
   unfold fp.c at h
   split at h
   ·obtain ⟨hp,rfl⟩:=h;exact fp.fit _ _ _ _ _ _ _ _ _ hp
   ·exact h.elim)
theorem eH.fit (path:List Int) (hp:(decide ((path).length≤1099511627776))=true):FT eH.d (cK tryzGl eH.env) [.sl .is path] [(.ag (ez.cells ((ez.mk 12 0 path))))] :=
 ⟨by kernel_rfl,Eq.trans (b:=eH.F path) (by kernel_rfl) (Eq.trans (eH.goal path hp) (by kernel_rfl))⟩
theorem eH.ok:KO 27 (eH.c) eH.sg :=
 meets (l:=eH.env) (all_cons jx.ok all_nil) eH.di (by
   intro ins outs h
   unfold eH.c at h
   split at h
   ·obtain ⟨hp,rfl⟩:=h;exact eH.fit _ hp
   ·exact h.elim)
theorem dN.fit (b:List UInt8) (hp:(decide ((b).length≤1099511627776))=true):FT dN.d (cK tryzGl dN.env) [.sl .bs b] [(.u64 (cM.be b))] :=
 ⟨by kernel_rfl,Eq.trans (b:=dN.F b) (by kernel_rfl) (Eq.trans (dN.goal b hp) (by kernel_rfl))⟩
theorem dN.ok:KO 85 (dN.c) dN.sg :=
 meets (l:=dN.env) all_nil dN.di (by
   intro ins outs h
   unfold dN.c at h
   split at h
   ·obtain ⟨hp,rfl⟩:=h;exact dN.fit _ hp
   ·exact h.elim)
theorem eF.fit (b:List UInt8) (hp:(decide ((b).length≤1099511627776))=true):FT eF.d (cK tryzGl eF.env) [.sl .bs b] [(.b (dK.whole b))] :=
 ⟨by kernel_rfl,Eq.trans (b:=eF.F b) (by kernel_rfl) (Eq.trans (eF.goal b hp) (by kernel_rfl))⟩
theorem eF.ok:KO 86 (eF.c) eF.sg :=
 meets (l:=eF.env) (all_cons dr.ok all_nil) eF.di (by
   intro ins outs h
   unfold eF.c at h
   split at h
   ·obtain ⟨hp,rfl⟩:=h;exact eF.fit _ hp
   ·exact h.elim)
theorem dm.fit (n:Nat) (eX:Int) (eZ:UInt64) (eY:UInt64) (eW:UInt64) (eR:bS) (eV:bS) (eS:Int) (eQ:List UInt8) (l:List bD) (path:List Int) (within:Int) (hp:((decide ((Mp.fF l).length+(path).length≤536870912)&&decide (Mp.gw l=0∧(l).length % 2=0∧0≤within∧within≤200))&&decide ((4 * (Mp.fF l).length+3)<n+1))=true):FT dm.d (cK tryzGl (dm.env n)) [.ag [.i .i64 eX,.u64 eZ,.u64 eY,.u64 eW,.s eR,.s eV,.i .i64 eS,.sl .bs eQ,.c (.slice none 0 0)],.sl .il l,.sl .is path,.i .i64 within] [(.ag (bE.cells (Db.jd.val (Db.ir.qZ (bE.mk eX eZ eY eW eR eV eS eQ []) (Dk.fields (200 - within).toNat l 0 path))))),(.ag (ez.cells (Db.jd.yd (Db.ir.qZ (bE.mk eX eZ eY eW eR eV eS eQ []) (Dk.fields (200 - within).toNat l 0 path)))))] :=
 ⟨by kernel_rfl,Eq.trans (b:=dm.F n (bE.mk eX eZ eY eW eR eV eS eQ []) l path within) (by kernel_rfl) (Eq.trans (dm.goal n (bE.mk eX eZ eY eW eR eV eS eQ []) l path within hp) (by kernel_rfl))⟩
theorem cC.fit (n:Nat) (c7:Int) (cZ:UInt64) (dx:List UInt8) (cY:bS) (dy:List bD) (path:List Int) (within:Int) (hp:((decide ((Mp.lay (bD.of (bM.mk c7 cZ dx cY dy))).length+(path).length≤536870912)&&decide (Mp.di (bD.of (bM.mk c7 cZ dx cY dy))=0∧0≤within∧within≤200))&&decide ((4 * (Mp.lay (bD.of (bM.mk c7 cZ dx cY dy))).length)<n+1))=true):FT cC.d (cK tryzGl (cC.env n)) [.ag [.i .i64 c7,.u64 cZ,.sl .bs dx,.s cY,.sl .il dy],.sl .is path,.i .i64 within] [(.ag (bE.cells (Db.jd.val (Dk.value (200 - within).toNat (bD.of (bM.mk c7 cZ dx cY dy)) path)))),(.ag (ez.cells (Db.jd.yd (Dk.value (200 - within).toNat (bD.of (bM.mk c7 cZ dx cY dy)) path))))] :=
 ⟨by kernel_rfl,Eq.trans (b:=cC.F n (bM.mk c7 cZ dx cY dy) path within) (by kernel_rfl) (Eq.trans (cC.goal n (bM.mk c7 cZ dx cY dy) path within hp) (by kernel_rfl))⟩
theorem bY.fit (n:Nat) (c7:Int) (cZ:UInt64) (dx:List UInt8) (cY:bS) (dy:List bD) (within:Int) (hp:((decide (((bM.mk c7 cZ dx cY dy)).bytes.length≤536870912∧((bM.mk c7 cZ dx cY dy)).n≤127∧0≤within∧within≤200))&&decide ((4 * ((bM.mk c7 cZ dx cY dy)).bytes.length+2)<n+1))=true):FT bY.d (cK tryzGl (bY.env n)) [.ag [.i .i64 c7,.u64 cZ,.sl .bs dx,.s cY,.sl .il dy],.i .i64 within] [(.ag (bE.cells ((Dk.ig (200 - within).toNat ((bM.mk c7 cZ dx cY dy)).n ((bM.mk c7 cZ dx cY dy)).bytes).1))),(.b ((Dk.ig (200 - within).toNat ((bM.mk c7 cZ dx cY dy)).n ((bM.mk c7 cZ dx cY dy)).bytes).2))] :=
 ⟨by kernel_rfl,Eq.trans (b:=bY.F n (bM.mk c7 cZ dx cY dy) within) (by kernel_rfl) (Eq.trans (bY.goal n (bM.mk c7 cZ dx cY dy) within hp) (by kernel_rfl))⟩
theorem fv.fit (n:Nat) (eX:Int) (eZ:UInt64) (eY:UInt64) (eW:UInt64) (eR:bS) (eV:bS) (eS:Int) (eQ:List UInt8) (b:List UInt8) (within:Int) (hp:((decide ((b).length≤536870912∧0≤within∧within<200))&&decide ((4 * (b).length+1)<n+1))=true):FT fv.d (cK tryzGl (fv.env n)) [.ag [.i .i64 eX,.u64 eZ,.u64 eY,.u64 eW,.s eR,.s eV,.i .i64 eS,.sl .bs eQ,.c (.slice none 0 0)],.sl .bs b,.i .i64 within] [(.ag (bE.cells ((Dk.kH (199 - within).toNat (bE.mk eX eZ eY eW eR eV eS eQ []) b).1))),(.b ((Dk.kH (199 - within).toNat (bE.mk eX eZ eY eW eR eV eS eQ []) b).2))] :=
 ⟨by kernel_rfl,Eq.trans (b:=fv.F n (bE.mk eX eZ eY eW eR eV eS eQ []) b within) (by kernel_rfl) (Eq.trans (fv.goal n (bE.mk eX eZ eY eW eR eV eS eQ []) b within hp) (by kernel_rfl))⟩
theorem E0.sn:∀n:Nat,(KO 28 (dm.cn n) dm.sg)∧(KO 44 (cC.cn n) cC.sg)∧(KO 70 (bY.cn n) bY.sg)∧(KO 84 (fv.cn n) fv.sg):=by
 intro n
 induction n with
 | zero=>exact ⟨fI (by
   intro ti gW h
   unfold dm.cn at h
   split at h
   ·obtain ⟨h,_⟩:=h;simp at h
   ·exact h.elim),fI (by
   intro ti gW h
   unfold cC.cn at h
   split at h
   ·obtain ⟨h,_⟩:=h;simp at h
   ·exact h.elim),fI (by
   intro ti gW h
   unfold bY.cn at h
   split at h
   ·obtain ⟨h,_⟩:=h;simp at h
   ·exact h.elim),fI (by
   intro ti gW h
   unfold fv.cn at h
   split at h
   ·obtain ⟨h,_⟩:=h;simp at h
   ·exact h.elim)⟩
 | succ n ih =>
  obtain ⟨rl,En,Lu,NL⟩:=ih
  exact ⟨meets (l:=dm.env n) (all_cons eH.ok (all_cons cT.ok (all_cons En all_nil))) (dm.di n) (by
   intro ins outs h
   unfold dm.cn at h
   split at h
   ·obtain ⟨hp,rfl⟩:=h;exact dm.fit n _ _ _ _ _ _ _ _ _ _ _ hp
   ·exact h.elim),meets (l:=cC.env n) (all_cons eH.ok (all_cons rl (all_cons En (all_cons fG.ok (all_cons kE.ok (all_cons Lu all_nil)))))) (cC.di n) (by
   intro ins outs h
   unfold cC.cn at h
   split at h
   ·obtain ⟨hp,rfl⟩:=h;exact cC.fit n _ _ _ _ _ _ _ hp
   ·exact h.elim),meets (l:=bY.env n) (all_cons cT.ok (all_cons bW.ok (all_cons fG.ok (all_cons NL (all_cons dN.ok (all_cons eF.ok (all_cons fW.ok all_nil))))))) (bY.di n) (by
   intro ins outs h
   unfold bY.cn at h
   split at h
   ·obtain ⟨hp,rfl⟩:=h;exact bY.fit n _ _ _ _ _ _ hp
   ·exact h.elim),meets (l:=fv.env n) (all_cons rl (all_cons ei.ok all_nil)) (fv.di n) (by
   intro ins outs h
   unfold fv.cn at h
   split at h
   ·obtain ⟨hp,rfl⟩:=h;exact fv.fit n _ _ _ _ _ _ _ _ _ _ hp
   ·exact h.elim)⟩
theorem dm.ok:KO 28 (dm.c) dm.sg:=iR fun ti gW h=>by
 unfold dm.c at h
 split at h
 ·obtain ⟨hp,rfl⟩:=h;exact ⟨dm.cn (_+1),(E0.sn _).1,bw.2 ⟨hp,aa (Nat.lt_succ_self _)⟩,rfl⟩
 ·exact h.elim
theorem eu.fit (c7:Int) (cZ:UInt64) (dx:List UInt8) (cY:bS) (dy:List bD) (hp:(decide (bD.cA (bD.of (bM.mk c7 cZ dx cY dy))≤1048576))=true):FT eu.d (cK tryzGl eu.env) [.ag [.i .i64 c7,.u64 cZ,.sl .bs dx,.s cY,.sl .il dy]] [(.ag (bE.cells ((Dk.dec (bD.of (bM.mk c7 cZ dx cY dy))).1))),(.ag (ez.cells ((Dk.dec (bD.of (bM.mk c7 cZ dx cY dy))).2)))] :=
 ⟨by kernel_rfl,Eq.trans (b:=eu.F (bM.mk c7 cZ dx cY dy)) (by kernel_rfl) (Eq.trans (eu.goal (bM.mk c7 cZ dx cY dy) hp) (by kernel_rfl))⟩
theorem eu.ok:KO 14 (eu.c) eu.sg :=
 meets (l:=eu.env) (all_cons cP.ok (all_cons eH.ok (all_cons dm.ok all_nil))) eu.di (by
   intro ins outs h
   unfold eu.c at h
   split at h
   ·obtain ⟨hp,rfl⟩:=h;exact eu.fit _ _ _ _ _ hp
   ·exact h.elim)
theorem dv.fit (s:bS):FT dv.d (cK tryzGl dv.env) [.s s] [(.ag (bM.cells (bD.val (Db.text s))))] :=
 ⟨by kernel_rfl,Eq.trans (b:=dv.F s) (by kernel_rfl) (Eq.trans (dv.goal s) (by kernel_rfl))⟩
theorem dv.ok:KO 38 (dv.c) dv.sg :=
 meets (l:=dv.env) all_nil dv.di (by
   intro ins outs h
   unfold dv.c at h
   split at h
   ·cases h;exact dv.fit _
   ·exact h.elim)
theorem cI.fit (k:Int) (b:List UInt8):FT cI.d (cK tryzGl cI.env) [.i .i64 k,.sl .bs b] [(.ag (bM.cells (bD.val (Dk.ext k b))))] :=
 ⟨by kernel_rfl,Eq.trans (b:=cI.F k b) (by kernel_rfl) (Eq.trans (cI.goal k b) (by kernel_rfl))⟩
theorem cI.ok:KO 62 (cI.c) cI.sg :=
 meets (l:=cI.env) all_nil cI.di (by
   intro ins outs h
   unfold cI.c at h
   split at h
   ·cases h;exact cI.fit _ _
   ·exact h.elim)
theorem bR.fit (n:Nat) (l:List bG) (hp:((decide (bG.cE l≤1048576)&&Tree.gg l)&&decide ((2 * bG.cE l+2)<n+1))=true):FT bR.d (cK tryzGl (bR.env n)) [.sl .fl l] [(.ag (bM.cells (bD.val (Db.map (Dk.mapped l)))))] :=
 ⟨by kernel_rfl,Eq.trans (b:=bR.F n l) (by kernel_rfl) (Eq.trans (bR.goal n l hp) (by kernel_rfl))⟩
theorem bJ.fit (n:Nat) (eX:Int) (eZ:UInt64) (eY:UInt64) (eW:UInt64) (eR:bS) (eV:bS) (eS:Int) (eQ:List UInt8) (fy:List bG) (hp:((decide (bG.cA (bG.of [] (bE.mk eX eZ eY eW eR eV eS eQ fy))≤1048576)&&Tree.jF (bG.of [] (bE.mk eX eZ eY eW eR eV eS eQ fy)))&&decide ((2 * bG.cA (bG.of [] (bE.mk eX eZ eY eW eR eV eS eQ fy))+1)<n+1))=true):FT bJ.d (cK tryzGl (bJ.env n)) [.ag [.i .i64 eX,.u64 eZ,.u64 eY,.u64 eW,.s eR,.s eV,.i .i64 eS,.sl .bs eQ,.sl .fl fy]] [(.ag (bM.cells (bD.val (Dk.item (bG.of [] (bE.mk eX eZ eY eW eR eV eS eQ fy))))))] :=
 ⟨by kernel_rfl,Eq.trans (b:=bJ.F n (bE.mk eX eZ eY eW eR eV eS eQ fy)) (by kernel_rfl) (Eq.trans (bJ.goal n (bE.mk eX eZ eY eW eR eV eS eQ fy) hp) (by kernel_rfl))⟩
theorem DY.sn:∀n:Nat,(KO 23 (bR.cn n) bR.sg)∧(KO 39 (bJ.cn n) bJ.sg):=by
 intro n
 induction n with
 | zero=>exact ⟨fI (by
   intro ti gW h
   unfold bR.cn at h
   split at h
   ·obtain ⟨h,_⟩:=h;simp at h
   ·exact h.elim),fI (by
   intro ti gW h
   unfold bJ.cn at h
   split at h
   ·obtain ⟨h,_⟩:=h;simp at h
   ·exact h.elim)⟩
 | succ n ih =>
  obtain ⟨rl,En⟩:=ih
  exact ⟨meets (l:=bR.env n) (all_cons dv.ok (all_cons En all_nil)) (bR.di n) (by
   intro ins outs h
   unfold bR.cn at h
   split at h
   ·obtain ⟨hp,rfl⟩:=h;exact bR.fit n _ hp
   ·exact h.elim),meets (l:=bJ.env n) (all_cons rl (all_cons dv.ok (all_cons En (all_cons bU.ok (all_cons cI.ok (all_cons cF.ok (all_cons bP.ok (all_cons cR.ok all_nil)))))))) (bJ.di n) (by
   intro ins outs h
   unfold bJ.cn at h
   split at h
   ·obtain ⟨hp,rfl⟩:=h;exact bJ.fit n _ _ _ _ _ _ _ _ _ hp
   ·exact h.elim)⟩
theorem bR.ok:KO 23 (bR.c) bR.sg:=iR fun ti gW h=>by
 unfold bR.c at h
 split at h
 ·obtain ⟨hp,rfl⟩:=h;exact ⟨bR.cn (_+1),(DY.sn _).1,bw.2 ⟨hp,aa (Nat.lt_succ_self _)⟩,rfl⟩
 ·exact h.elim
theorem dF.fit (eX:Int) (eZ:UInt64) (eY:UInt64) (eW:UInt64) (eR:bS) (eV:bS) (eS:Int) (eQ:List UInt8) (fy:List bG) (hp:(decide (bG.cA (bG.of [] (bE.mk eX eZ eY eW eR eV eS eQ fy))≤1048576))=true):FT dF.d (cK tryzGl dF.env) [.ag [.i .i64 eX,.u64 eZ,.u64 eY,.u64 eW,.s eR,.s eV,.i .i64 eS,.sl .bs eQ,.sl .fl fy]] [(.ag (bM.cells (bD.val ((Dk.enc (bE.mk eX eZ eY eW eR eV eS eQ fy)).1)))),(.ag (ez.cells ((Dk.enc (bE.mk eX eZ eY eW eR eV eS eQ fy)).2)))] :=
 ⟨by kernel_rfl,Eq.trans (b:=dF.F (bE.mk eX eZ eY eW eR eV eS eQ fy)) (by kernel_rfl) (Eq.trans (dF.goal (bE.mk eX eZ eY eW eR eV eS eQ fy) hp) (by kernel_rfl))⟩
theorem dF.ok:KO 10 (dF.c) dF.sg :=
 meets (l:=dF.env) (all_cons bX.ok (all_cons dp.ok (all_cons bR.ok all_nil))) dF.di (by
   intro ins outs h
   unfold dF.c at h
   split at h
   ·obtain ⟨hp,rfl⟩:=h;exact dF.fit _ _ _ _ _ _ _ _ _ hp
   ·exact h.elim)
theorem dc.fit:([]:List TV).length=dc.d.np∧dc.d.run (cK tryzGl dc.env) []=some (([(.b (true))]:List TV)++dc.d.ps.toList.map fun q=>([]:List TV).getD q.1 .dead) :=
 ⟨by kernel_rfl,Eq.trans (b:=dc.F ) (by kernel_rfl) (Eq.trans (dc.goal ) (by kernel_rfl))⟩
theorem dc.ok:KO 7 (dc.c) dc.sg :=
 meets (l:=dc.env) (all_cons fp.ok (all_cons eu.ok all_nil)) dc.di (by
   intro ins outs h
   unfold dc.c at h
   split at h
   ·cases h;exact dc.fit
   ·exact h.elim)
end Go.Eng
namespace Go.Eng
open Go.IntWalk
theorem xa:∀(k n:Nat),n<10 ^ (k+1)→(ky n).length≤k+1
 | 0,n,h=>by rw [rL (by simpa using h)];simp
 | k+1,n,h=>by
  by_cases a:n<10
  ·rw [rL a];simp
  ·have:=xa k (n / 10) (by rw [Nat.pow_succ] at h;omega)
   rw [vh a,aw,aQ];omega
theorem sO:∀(n:Nat),∀c∈ky n,48≤c.toNat∧c.toNat<58:=by
 intro n
 induction n using Nat.strongRecOn with
 | ind n ih =>
  have one:∀m,m<10→48≤(UInt8.ofNat (48+m)).toNat∧(UInt8.ofNat (48+m)).toNat<58:=by
   intro m hm
   rw [UInt8.toNat_ofNat'];omega
  intro c hc
  by_cases a:n<10
  ·rw [rL a,List.mem_singleton] at hc
   rw [hc];exact one n a
  ·rw [vh a,List.mem_append,List.mem_singleton] at hc
   rcases hc with h | h
   ·exact ih (n / 10) (by omega) c h
   ·rw [h];exact one _ (by omega)
theorem dK.qR:∀(n:Nat) (l:bS),l.length≤n→(∀c∈l,c.toNat<128)→(dK.mC n l).1=l.length
 | 0,l,h,_=>by cases l with | nil=>rfl | cons a r=>simp at h
 | n+1,[],_,_=>by rw [dK.mC,dK.rune,ao rfl];rfl
 | n+1,c :: l,h,hc=>by
  have e:dK.rune (c :: l)=((c.toNat:Int),1):=by rw [dK.rune,ao (hc c (by simp))]
  rw [dK.mC,e,ah (show ¬(1:Int)=0 by decide)]
  have:=dK.qR n l (by simpa using h) (fun x hx=>hc x (by simp [hx]))
  show (dK.mC n l).1+1=l.length+1
  rw [this]
theorem Av (n:Nat):dK.whole (ky n)=true∧dK.zero (ky n)=false:=by
 constructor
 ·unfold dK.whole dK.look
  exact aa (dK.qR _ _ (Nat.le_refl _) fun c hc=>by have:=sO n c hc;omega)
 ·unfold dK.zero
  apply Bool.eq_false_iff.2
  intro h
  have:=sO n 0 (by simpa using h)
  exact absurd this.1 (by decide)
end Go.Eng
namespace Go.Eng
open Go.IntWalk
namespace Dk
open Db (jd ir)
def ij (v:bE):Nat:=bG.cA (bG.of [] v)
theorem sV (n:bS) (v:bE):bG.cA (bG.of n v)=n.length+ij v:=by
 cases v;simp only [ij,bG.of,bG.cA,aA];omega
theorem gO (k:Int) (b h l:UInt64) (t m:bS) (s:Int) (y:List UInt8) (ks:List bG):ij ⟨k,b,h,l,t,m,s,y,ks⟩=1+t.length+m.length+y.length+bG.cE ks:=by
 simp only [ij,bG.of,bG.cA,aA]
theorem pw {g:ir} {w v:bE} (h:g.qZ w = .ok v):∃l,g = .ok l∧v={ w with kids:=l }:=by
 cases g with
 | ok l=>exact ⟨l,rfl,by injection h with h;exact h.symm⟩
 | bad p=>cases h
theorem zU {k:Int} {n:UInt64} {b t:bS} {v:bE} (h:Db.leaf k n b t=some v):ij v≤1+b.length+t.length:=by
 unfold Db.leaf at h
 split at h
 ·injection h with h;subst h;rw [gO];simp only [aA,bG.cE];omega
 split at h
 ·injection h with h;subst h;rw [gO];simp only [aA,bG.cE];omega
 split at h
 ·injection h with h;subst h;rw [gO];simp only [aA,bG.cE];omega
 split at h
 ·injection h with h;subst h
  split
  ·rw [gO];simp only [aA,bG.cE];omega
  split
  ·rw [gO];simp only [aA,bG.cE];omega
  ·rw [gO];simp only [aA,bG.cE];omega
 split at h
 ·injection h with h;subst h;unfold Db.half;rw [gO];simp only [aA,bG.cE];omega
 ·cases h
theorem Cg (k:Int) (n:UInt64) (b t:bS) (ks:List bD):1+b.length+t.length+(Mp.fF ks).length≤(Mp.lay (.mk k n b t ks)).length:=(Mp.jh (.mk k n b t ks)).2
mutual
theorem ny (E:UInt64→bS→bE × Bool) (hE:∀n b,b.length≤600000000→ij (E n b).1≤24 * b.length+4):∀(x:bD) (p:List Int) (v:bE),je E x p = .ok v→(Mp.lay x).length≤600000000→ij v+20≤24 * (Mp.lay x).length
 | .mk k n b t ks,p,v,h,hb=>by
  have hl:=Cg k n b t ks
  rw [je] at h
  split at h
  ·obtain ⟨l,wC,rfl⟩:=pw h
   have:=mU E hE ks 0 p l wC (by omega)
   rw [Db.doc,gO];simp only [aA];omega
  split at h
  ·obtain ⟨l,wC,rfl⟩:=pw h
   have:=re E hE ks 0 p l wC (by omega) (by have:=Mp.jL ks;omega)
   rw [Db.doc,gO];simp only [aA];omega
  split at h
  ·have:=hE n b (by omega)
   cases h2:(E n b).2
   ·rw [h2,ah (by decide)] at h;cases h
   ·rw [h2,ao rfl] at h
    injection h with h;subst h;omega
  ·cases wC:Db.leaf k n b t with
   | none=>rw [wC] at h;cases h
   | some w =>
    rw [wC] at h
    have h:w=v:=by injection h
    subst h
    have:=zU wC
    omega
theorem mU (E:UInt64→bS→bE × Bool) (hE:∀n b,b.length≤600000000→ij (E n b).1≤24 * b.length+4):∀(l:List bD) (i:Nat) (p:List Int) (ks:List bG),fP E l i p = .ok ks→(Mp.fF l).length≤600000000→bG.cE ks≤24 * (Mp.fF l).length
 | [],i,p,ks,h,_=>by rw [fP] at h;injection h with h;subst h;exact Nat.zero_le _
 | [_],i,p,ks,h,_=>by rw [fP] at h;cases h
 | k :: x :: r,i,p,ks,h,hb=>by
  rw [fP] at h
  simp only [Mp.fF,aw] at hb ⊢
  split at h
  ·cases h
  split at h
  ·cases h
  rename_i v hv
  split at h
  ·cases h
  rename_i l hl
  injection h with h;subst h
  have h1:=ny E hE x _ v hv (by omega)
  have h2:=mU E hE r _ p l hl (by omega)
  have h3:=(Mp.jh k).2
  simp only [bG.cE,sV];omega
theorem re (E:UInt64→bS→bE × Bool) (hE:∀n b,b.length≤600000000→ij (E n b).1≤24 * b.length+4):∀(l:List bD) (i:Nat) (p:List Int) (ks:List bG),jj E l i p = .ok ks→(Mp.fF l).length≤600000000→i+l.length≤600000000→bG.cE ks≤24 * (Mp.fF l).length
 | [],i,p,ks,h,_,_=>by rw [jj] at h;injection h with h;subst h;exact Nat.zero_le _
 | x :: r,i,p,ks,h,hb,hi=>by
  rw [jj] at h
  simp only [Mp.fF,aw] at hb ⊢
  simp only [aF] at hi
  split at h
  ·cases h
  rename_i v hv
  split at h
  ·cases h
  rename_i l hl
  injection h with h;subst h
  have h1:=ny E hE x _ v hv (by omega)
  have h2:=re E hE r _ p l hl (by omega) (by omega)
  have h3:=xa 19 i (by omega)
  simp only [bG.cE,sV];omega
end
theorem n7:ij Db.zero=1:=rfl
theorem C4 (k:Int) (t:bS) (l:List bG):ij { Db.doc k t with kids:=l }=1+t.length+bG.cE l:=by rw [Db.doc,gO];simp only [aA];omega
theorem xD (E:UInt64→bS→bE × Bool) (hE:∀n b,b.length≤600000000→ij (E n b).1≤24 * b.length+4) (k:Int) (t c:bS) (hc:c.length≤600000000):ij (qL E (Db.doc k t) c).1≤1+t.length+24 * c.length:=by
 unfold qL Ct
 by_cases a:(Mp.dec c 1000).2.err≠0∨(Mp.dec c 1000).1.kind≠6
 ·rw [ao a];show ij Db.zero≤_;rw [n7];omega
 rw [ah a]
 simp only [not_or,Classical.not_not,ne_eq] at a
 have hd:=vj a.1 a.2
 cases hf:fP E (Mp.dec c 1000).1.kids 0 [] with
 | bad q=>show ij Db.zero≤_;rw [n7];omega
 | ok l =>
  have:=mU E hE _ 0 [] l hf (by omega)
  show ij { Db.doc k t with kids:=l }≤_
  rw [C4];omega
theorem E2 (s:bS) (c:UInt8):(cut s c).1.length+(cut s c).2.1.length≤s.length:=by
 unfold cut
 split
 ·have:=mR s c
  simp only [bo,aW];omega
 ·simp
theorem Ar (R:bE→bS→bE × Bool) (hR:∀k t c,c.length≤600000000→ij (R (Db.doc k t) c).1≤1+t.length+24 * c.length) (k:Int) (b:bS) (hb:b.length≤600000000):ij (mG R k b).1≤24 * b.length+4:=by
 have hd:∀(k:Int) (t:bS),ij (Db.doc k t)=1+t.length:=fun k t=>by rw [Db.doc,gO];simp only [aA,bG.cE];omega
 have hc:=E2 b 0
 unfold mG
 split
 ·have:=hR 4 [] b hb
  simp only [aA] at this;show ij (R (Db.doc 4 []) b).1≤_;omega
 split
 ·split
  ·rw [n7];omega
  ·rename_i h
   have:=hR 15 (jV b) (b.drop (4+iS b)) (by rw [aW];omega)
   have h2:(jV b).length≤iS b:=by unfold jV;rw [bo];omega
   rw [aW] at this
   show ij (R (Db.doc 15 (jV b)) (b.drop (4+iS b))).1≤_
   omega
 split
 ·split
  ·rw [gO];simp only [aA,bG.cE,aW];omega
  ·rw [hd];simp only [aA];omega
 split
 ·rw [gO];simp only [aA,bG.cE];omega
 split
 ·rw [gO];simp only [aA,bG.cE];omega
 split
 ·rw [gO];simp only [aA,bG.cE];omega
 split
 ·split
  ·rw [gO];simp only [aA,bG.cE,aW,bo];omega
  ·rw [hd];simp only [aA];omega
 split
 ·rw [hd];omega
 split
 ·split
  ·rw [gO];simp only [aA,bG.cE];omega
  ·rw [hd];simp only [aA];omega
 split
 ·rw [hd];simp only [aA];omega
 ·rw [hd];simp only [aA];omega
theorem uc:∀(d:Nat) (n:UInt64) (b:bS),b.length≤600000000→ij (ig d n b).1≤24 * b.length+4
 | 0,n,b,_=>by show ij Db.zero≤_;rw [n7];omega
 | d+1,n,b,hb=>Ar _ (fun k t c hc=>xD (ig d) (uc d) k t c hc) (kindOf n) b hb
theorem C7 (it:bD) (hb:bD.cA it≤1500):ij (dec it).1≤600000:=by
 have hl:=Mp.oh it
 unfold dec
 split
 ·show ij Db.zero≤_;decide
 split
 ·show ij Db.zero≤_;decide
 ·show ij (value 200 it []).val≤_
  cases hv:value 200 it [] with
  | bad q=>show ij Db.zero≤_;decide
  | ok v =>
   have:=ny (ig 200) (uc 200) it [] v hv (by omega)
   show ij v≤_
   omega
end Dk
end Go.Eng
namespace Go.Eng
open Go.IntWalk
namespace Dk
theorem iL {k:Int} {b h l:UInt64} {t m:bS} {s:Int} {y:List UInt8} {ks:List bG} (hn:Tree.name k≠[]) (hf:Tree.dR ⟨k,b,h,l,t,m,s,y,ks⟩=true) (ht:Tree.eP t (decide (k=11))=true) (hm:Tree.eP m (decide (k=11))=true):Tree.own ⟨k,b,h,l,t,m,s,y,ks⟩=0:=by
 unfold Tree.own
 rw [ah hn,ah (by rw [hf];decide),ah (by simp only [ht,hm];decide)]
theorem n9 {s:bS} (h:dK.whole s=true):Tree.eP s false=true:=by unfold Tree.eP;rw [h];rfl
inductive Shape:bD→Prop where
 | plus (n:UInt64):Shape (.mk 1 n [] [] [])
 | neg (n:UInt64) (h:¬9223372036854775808≤n):Shape (.mk 2 n [] [] [])
 | raw (b:bS):Shape (.mk 3 0 b [] [])
 | text (t:bS) (h:dK.whole t=true):Shape (.mk 4 0 [] t [])
 | list (l:List bD) (h:Mp.gw l=0):Shape (.mk 5 0 [] [] l)
 | map (l:List bD) (h:Mp.gw l=0) (he:l.length % 2=0):Shape (.mk 6 0 [] [] l)
 | simple (n:UInt64) (h:20≤n∧n≤22):Shape (.mk 8 n [] [] [])
 | float (n:UInt64):Shape (.mk 9 n [] [] [])
 | ext (n:UInt64) (b:bS) (h:n≤127):Shape (.mk 10 n b [] [])
theorem shape (x:bD) (h:Mp.di x=0):Shape x:=by
 have h1:=Mp.Fa x.val (by rw [bD.gr];exact h)
 obtain ⟨o1,o2,o3,o4,o5,o6,o7,o8,o9,Iu⟩:=Mp.HT x.val h1.1
 have hc:=h1.2
 obtain ⟨k,n,b,t,ks⟩:=x
 simp only [bD.val,bD.kind,bD.n,bD.bytes,bD.text,bD.kids] at o1 o2 o3 o4 o5 o6 o7 o8 o9 Iu hc
 have hk:k=1∨k=2∨k=3∨k=4∨k=5∨k=6∨k=8∨k=9∨k=10:=by omega
 rcases hk with rfl | rfl | rfl | rfl | rfl | rfl | rfl | rfl | rfl
 ·rw [o3 (by decide) (by decide),o4 (by decide),o5 (by decide) (by decide)];exact .plus n
 ·rw [o3 (by decide) (by decide),o4 (by decide),o5 (by decide) (by decide)];exact .neg n (o6 rfl)
 ·rw [o2 (by decide),o4 (by decide),o5 (by decide) (by decide)];exact .raw b
 ·rw [o2 (by decide),o3 (by decide) (by decide),o5 (by decide) (by decide)];exact .text t Iu
 ·rw [o2 (by decide),o3 (by decide) (by decide),o4 (by decide)];exact .list ks hc
 ·rw [o2 (by decide),o3 (by decide) (by decide),o4 (by decide)];exact .map ks hc (o9 rfl)
 ·rw [o3 (by decide) (by decide),o4 (by decide),o5 (by decide) (by decide)];exact .simple n (o7 rfl)
 ·rw [o3 (by decide) (by decide),o4 (by decide),o5 (by decide) (by decide)];exact .float n
 ·rw [o4 (by decide),o5 (by decide) (by decide)];exact .ext n b (o8 rfl)
def n6 (v:bE) (x:bD):Prop:=Tree.own v=0∧Tree.gg v.kids=true∧gz v (mapped v.kids) (items v.kids)=x
theorem vU {x:bD} {z:Int} (h:Db.number x=some z) (hx:Mp.di x=0):Db.integer z=x∧-9223372036854775808≤z∧z≤9223372036854775807:=by
 unfold Db.number at h
 by_cases a:9223372036854775808≤x.n
 ·rw [ao a] at h;cases h
 rw [ah a] at h
 have hb:x.n.toNat<9223372036854775808:=by
  have:¬(9223372036854775808:UInt64).toNat≤x.n.toNat:=fun h=>a (aJ.2 h)
  have e:(9223372036854775808:UInt64).toNat=9223372036854775808:=rfl
  omega
 have oi:∀n:UInt64,UInt64.ofInt (n.toNat:Int)=n:=fun n=>by
  apply aZ.1
  have:=n.toNat_lt
  rw [jA];omega
 cases shape x hx with
 | plus n =>
  rw [ao (show (bD.mk 1 n [] [] []).kind=1 from rfl)] at h
  injection h with h
  have h:(n.toNat:Int)=z:=h
  have hb:n.toNat<9223372036854775808:=hb
  refine ⟨?_,by omega,by omega⟩
  rw [Db.integer,ah (by omega),←h,oi]
 | neg n hn =>
  rw [ah (show ¬(bD.mk 2 n [] [] []).kind=1 from fun h=>absurd (show (2:Int)=1 from h) (by decide)),ao (show (bD.mk 2 n [] [] []).kind=2 from rfl)] at h
  injection h with h
  have h : -1 - (n.toNat:Int)=z:=h
  have hb:n.toNat<9223372036854775808:=hb
  refine ⟨?_,by omega,by omega⟩
  rw [Db.integer,ao (by omega),←h,show -(-1 - (n.toNat:Int)+1)=(n.toNat:Int) by omega,oi]
 | _=>rw [ah (by simp [bD.kind]),ah (by simp [bD.kind])] at h;cases h
theorem zZ (z:Int) (h : -2147483648≤z∧z<2147483648):Db.i32 (UInt64.ofInt (z % 4294967296))=z∧(UInt64.ofInt (z % 4294967296)).toNat<4294967296:=by
 have e:=kp (z % 4294967296)
 rw [iC] at e
 refine ⟨?_,by omega⟩
 unfold Db.i32
 rw [e]
 simp only [IntKind.wrap,IntKind.bits,IntKind.signed]
 simp
 omega
theorem tP {x:bD} (hx:Mp.di x=0) (hh:(Db.half x).2=true):n6 (Db.half x).1 x:=by
 have y9:((Db.number x).isSome&&decide (-2147483648≤Db.iB x∧Db.iB x<2147483648))=true:=hh
 rw [ae] at y9
 obtain ⟨z,hz⟩:=Option.isSome_iff_exists.1 y9.1
 have hi:Db.iB x=z:=by rw [Db.xN x y9.1,hz];rfl
 have hr:=aD y9.2
 rw [hi] at hr
 obtain ⟨he,_⟩:=vU hz hx
 have hb:=zZ z hr
 have e:(Db.half x).1=⟨16,UInt64.ofInt (z % 4294967296),0,0,[],[],0,[],[]⟩:=by rw [Db.half,hi]
 rw [e]
 refine ⟨iL (by decide) ?_ (by decide) (by decide),rfl,?_⟩
 ·simp [Tree.dR,Tree.gN]
  exact aH.2 hb.2
 ·rw [show gz ⟨16,UInt64.ofInt (z % 4294967296),0,0,[],[],0,[],[]⟩ (mapped []) (items [])=Db.integer (Db.i32 (UInt64.ofInt (z % 4294967296))) from rfl,hb.1,he]
theorem zY {k:Int} {n:UInt64} {b t:bS} {ks:List bD} {v:bE} (h:Db.leaf k n b t=some v) (hx:Mp.di (.mk k n b t ks)=0) (h5:k≠5) (h6:k≠6) (lZ:k≠10):n6 v (.mk k n b t ks):=by
 have hs:=shape _ hx
 cases hs with
 | list=>exact absurd rfl h5
 | map=>exact absurd rfl h6
 | ext=>exact absurd rfl lZ
 | plus n =>
  unfold Db.leaf at h
  rw [ah (by decide),ah (by decide),ah (by decide),ah (by decide)] at h
  by_cases a:(Db.half (.mk 1 n [] [] [])).2=true
  ·rw [ao a] at h;injection h with h;subst h;exact tP hx a
  ·rw [ah a] at h;cases h
 | neg n =>
  unfold Db.leaf at h
  rw [ah (by decide),ah (by decide),ah (by decide),ah (by decide)] at h
  by_cases a:(Db.half (.mk 2 n [] [] [])).2=true
  ·rw [ao a] at h;injection h with h;subst h;exact tP hx a
  ·rw [ah a] at h;cases h
 | raw b =>
  rw [Db.leaf,ah (by decide),ah (by decide),ao rfl] at h;injection h with h;subst h
  exact ⟨iL (by decide) (by simp [Tree.dR,Tree.gN]) (by decide) (by decide),rfl,rfl⟩
 | text t ht =>
  rw [Db.leaf,ah (by decide),ao rfl] at h;injection h with h;subst h
  exact ⟨iL (by decide) (by simp [Tree.dR,Tree.gN]) (n9 ht) (by decide),rfl,rfl⟩
 | float n =>
  rw [Db.leaf,ao rfl] at h;injection h with h;subst h
  exact ⟨iL (by decide) (by simp [Tree.dR,Tree.gN]) (by decide) (by decide),rfl,rfl⟩
 | simple n hn =>
  rw [Db.leaf,ah (by decide),ah (by decide),ah (by decide),ao rfl] at h;injection h with h
  rcases rU hn with rfl | rfl | rfl
  ·subst h;exact ⟨iL (by decide) (by decide) (by decide) (by decide),rfl,by kernel_rfl⟩
  ·subst h;exact ⟨iL (by decide) (by decide) (by decide) (by decide),rfl,by kernel_rfl⟩
  ·subst h;exact ⟨iL (by decide) (by decide) (by decide) (by decide),rfl,by kernel_rfl⟩
end Dk
end Go.Eng
namespace Go.Eng
open Go.IntWalk
namespace Dk
theorem xe:∀(s:bS) (c:UInt8),0≤Lib.indexByte s c→s.take (Lib.indexByte s c).toNat++c :: s.drop ((Lib.indexByte s c).toNat+1)=s∧(s.take (Lib.indexByte s c).toNat).contains c=false
 | [],c,h=>by rw [Lib.indexByte] at h;exact absurd h (by decide)
 | b :: l,c,h=>by
  have hg:=Lib.indexByte_ge l c
  by_cases a:b=c
  ·subst a
   have e:Lib.indexByte (b :: l) b=0:=by rw [Lib.indexByte,ao (by simp)]
   rw [e];exact ⟨rfl,rfl⟩
  ·have e:Lib.indexByte (b :: l) c=if (Lib.indexByte l c == -1)=true then -1 else Lib.indexByte l c+1:=by rw [Lib.indexByte,ah (by simpa using a)]
   by_cases d:Lib.indexByte l c=-1
   ·rw [e,ao (by simpa using d)] at h;exact absurd h (by decide)
   ·rw [ah (by simpa using d)] at e
    obtain ⟨h1,h2⟩:=xe l c (by omega)
    rw [e,show (Lib.indexByte l c+1).toNat=(Lib.indexByte l c).toNat+1 by omega,List.take_succ_cons,List.drop_succ_cons,List.cons_append,h1]
    refine ⟨rfl,?_⟩
    rw [List.contains_cons,h2,Bool.or_false,beq_eq_false_iff_ne]
    exact fun e=>a e.symm
def Good (R:bE→bS→bE × Bool):Prop:=∀v c,(R v c).2=true→∃l,(R v c).1={ v with kids:=l }∧Tree.gg l=true∧Mp.lay (Db.map (mapped l))=c
theorem vC (n:UInt64):UInt64.ofInt (n.toNat:Int)=n:=by
 apply aZ.1
 have:=n.toNat_lt
 rw [jA];omega
theorem vI {n:UInt64} (hn:n≤127):sort (kindOf n)=n:=by
 unfold sort kindOf
 by_cases a:n=126
 ·rw [ao a,ao rfl,a]
 ·have h:n.toNat≤127:=aJ.1 hn
  rw [ah a,ah (by omega),vC]
theorem jv {v:bE} {k:Int} {n:UInt64} {b:bS} (hk:k=kindOf n) (hv:v.kind=k) (hn:n≤127) (ho:Tree.own v=0) (hf:Tree.gg v.kids=true) (h:k≠1∧k≠2∧k≠3∧k≠10∧k≠8∧k≠16) (h4:k=4→¬Tree.regular v.kids=true) (h5:k=5→v.sub≠0) (hi:inner v (Mp.lay (Db.map (mapped v.kids)))=b):n6 v (.mk 10 n b [] []):=by
 refine ⟨ho,hf,?_⟩
 unfold gz
 rw [hv,ah h.1,ah h.2.1,ah h.2.2.1,ah (fun a=>h4 a.1 a.2),ah (fun a=>h5 a.1 a.2),ah h.2.2.2.1,ah h.2.2.2.2.1,ah h.2.2.2.2.2,hi,ext,hk,vI hn]
theorem Cl {R:bE→bS→bE × Bool} (hR:Good R) {n:UInt64} {b:bS} (hn:n≤127) (h:(mG R (kindOf n) b).2=true):n6 (mG R (kindOf n) b).1 (.mk 10 n b [] []):=by
 obtain ⟨k,hk⟩:∃k,kindOf n=k:=⟨_,rfl⟩
 rw [hk] at h ⊢
 unfold mG at h ⊢
 by_cases a4:k=4
 ·subst a4
  rw [ao rfl] at h ⊢
  simp only [ae,Bool.not_eq_true'] at h
  obtain ⟨l,hw,hf,hl⟩:=hR _ _ h.1
  rw [hw] at h ⊢
  have h2:Tree.regular l=false:=h.2
  show n6 ⟨4,0,0,0,[],[],0,[],l⟩ _
  exact jv hk.symm rfl hn (iL (by decide) (by simp [Tree.dR,Tree.gN]) (by decide) (by decide)) hf (by decide) (fun _ e=>by rw [show Tree.regular l=true from e] at h2;cases h2) (fun e=>absurd e (by decide)) hl
 rw [ah a4] at h ⊢
 by_cases rf:k=15
 ·subst rf
  rw [ao rfl] at h ⊢
  by_cases c:b.length<4∨b.length<4+iS b
  ·rw [ao c] at h;cases h
  rw [ah c] at h ⊢
  simp only [ae] at h
  obtain ⟨l,hw,hf,hl⟩:=hR _ _ h.1
  rw [hw]
  show n6 ⟨15,0,0,0,jV b,[],0,[],l⟩ _
  refine jv hk.symm rfl hn (iL (by decide) (by simp [Tree.dR,Tree.gN]) (n9 h.2) (by decide)) hf (by decide) (fun e=>absurd e (by decide)) (fun e=>absurd e (by decide)) ?_
  show cM.eb (UInt64.ofInt ((jV b).length:Int)) 4++jV b++Mp.lay (Db.map (mapped l))=b
  have e1:(jV b).length=iS b:=by unfold jV;rw [bo,aW];omega
  have e2:cM.eb (UInt64.ofInt (iS b:Int)) 4=b.take 4:=by rw [iS,vC,cM.qo 4 _ (by rw [bo];omega) (by decide)]
  rw [hl,e1,e2,jV,aU,←List.drop_drop,List.take_append_drop,List.take_append_drop]
 rw [ah rf] at h ⊢
 by_cases a5:k=5
 ·subst a5
  rw [ao rfl] at h ⊢
  by_cases c:0<b.length∧b.getD 0 0≠0
  ·rw [ao c]
   match b,c with
   | x :: r,c =>
    have hx:x.toNat<256:=x.toNat_lt
    have e1:UInt8.ofInt (x.toNat:Int)=x:=by
     apply UInt8.toNat_inj.1
     rw [nA];omega
    refine jv hk.symm rfl hn (iL (by decide) ?_ (by decide) (by decide)) rfl (by decide) (fun e=>absurd e (by decide)) (fun _ e=>c.2 ?_) ?_
    ·simp [Tree.dR,Tree.gN];omega
    ·have e:(x.toNat:Int)=0:=e
     apply UInt8.toNat_inj.1
     show x.toNat=0
     omega
    ·show UInt8.ofInt (x.toNat:Int) :: r=x :: r
     rw [e1]
   | [],c=>exact absurd c.1 (by decide)
  ·rw [ah c] at h;cases h
 rw [ah a5] at h ⊢
 by_cases a7:k=7
 ·subst a7
  rw [ao rfl] at h ⊢
  have h:=aD h
  exact jv hk.symm rfl hn (iL (by decide) (by simp [Tree.dR,Tree.gN,h]) (by decide) (by decide)) rfl (by decide) (fun e=>absurd e (by decide)) (fun e=>absurd e (by decide)) rfl
 rw [ah a7] at h ⊢
 by_cases a9:k=9∨k=17∨k=18
 ·rw [ao a9] at h ⊢
  have h8:b.length=8:=aD h
  rcases a9 with rfl | rfl | rfl
  all_goals
   refine jv hk.symm rfl hn (iL (by decide) (by simp [Tree.dR,Tree.gN]) (by decide) (by decide)) rfl (by decide) (fun e=>absurd e (by decide)) (fun e=>absurd e (by decide)) ?_
   show cM.eb (cM.be b) 8=b
   exact cM.qo 8 b h8 (by decide)
 rw [ah a9] at h ⊢
 by_cases nd:k=11
 ·subst nd
  rw [ao rfl] at h ⊢
  simp only [ae,Bool.not_eq_true'] at h
  obtain ⟨⟨⟨h1,h2⟩,h3⟩,h4⟩:=h
  by_cases c:0≤Lib.indexByte b 0
  ·obtain ⟨j1,j2⟩:=xe b 0 c
   have e:cut b 0=(b.take (Lib.indexByte b 0).toNat,b.drop ((Lib.indexByte b 0).toNat+1),true):=by unfold cut;rw [ao c]
   rw [e] at h2 h3 h4 ⊢
   refine jv hk.symm rfl hn (iL (by decide) (by simp [Tree.dR,Tree.gN]) ?_ ?_) rfl (by decide) (fun e=>absurd e (by decide)) (fun e=>absurd e (by decide)) j1
   ·unfold Tree.eP;rw [show dK.whole (b.take (Lib.indexByte b 0).toNat)=true from h3,show dK.zero (b.take (Lib.indexByte b 0).toNat)=false from j2];rfl
   ·unfold Tree.eP;rw [show dK.whole (b.drop ((Lib.indexByte b 0).toNat+1))=true from h4,show dK.zero (b.drop ((Lib.indexByte b 0).toNat+1))=false from h2];rfl
  ·unfold cut at h1;rw [ah c] at h1;cases h1
 rw [ah nd] at h ⊢
 by_cases a12:k=12
 ·subst a12
  rw [ao rfl] at h ⊢
  by_cases c:12≤b.length∧dK.whole (b.drop 12)=true
  ·rw [ao c]
   have e:(b.take 12).length=12:=by rw [bo];omega
   exact jv hk.symm rfl hn (iL (by decide) (by simp [Tree.dR,Tree.gN,e]) (n9 c.2) (by decide)) rfl (by decide) (fun e=>absurd e (by decide)) (fun e=>absurd e (by decide)) (List.take_append_drop 12 b)
  ·rw [ah c] at h;cases h
 rw [ah a12] at h ⊢
 by_cases rP:k=13∨k=14
 ·rw [ao rP] at h ⊢
  rcases rP with rfl | rfl
  all_goals
   exact jv hk.symm rfl hn (iL (by decide) (by simp [Tree.dR,Tree.gN]) (n9 h) (by decide)) rfl (by decide) (fun e=>absurd e (by decide)) (fun e=>absurd e (by decide)) rfl
 rw [ah rP] at h ⊢
 by_cases Gp:k=19
 ·subst Gp
  rw [ao rfl] at h ⊢
  by_cases c:b.length=16
  ·rw [ao c]
   refine jv hk.symm rfl hn (iL (by decide) (by simp [Tree.dR,Tree.gN]) (by decide) (by decide)) rfl (by decide) (fun e=>absurd e (by decide)) (fun e=>absurd e (by decide)) ?_
   show cM.eb (cM.be (b.take 8)) 8++cM.eb (cM.be (b.drop 8)) 8=b
   rw [cM.qo 8 _ (by rw [bo];omega) (by decide),cM.qo 8 _ (by rw [aW];omega) (by decide),List.take_append_drop]
  ·rw [ah c] at h;cases h
 rw [ah Gp] at h ⊢
 by_cases a6:k=6∨k=127∨k=255
 ·rw [ao a6] at h ⊢
  have h:=bm (aD h)
  subst h
  rcases a6 with rfl | rfl | rfl
  all_goals
   exact jv hk.symm rfl hn (iL (by decide) (by decide) (by decide) (by decide)) rfl (by decide) (fun e=>absurd e (by decide)) (fun e=>absurd e (by decide)) rfl
 rw [ah a6] at h;cases h
def xw (E:UInt64→bS→bE × Bool):Prop:=∀n b,n≤127→(E n b).2=true→n6 (E n b).1 (.mk 10 n b [] [])
theorem wh (n:bS) (v:bE):item (bG.of n v)=gz v (mapped v.kids) (items v.kids):=by cases v;rw [bG.of,item]
theorem iV {x:bD} {r:List bD} (h:Mp.gw (x :: r)=0):Mp.di x=0∧Mp.gw r=0:=by
 rw [Mp.gw] at h
 by_cases a:Mp.di x=0
 ·rw [ao a] at h;exact ⟨a,h⟩
 ·rw [ah a] at h;exact absurd h a
theorem xl {x:bD} (h:Mp.di x=0):Mp.gw x.kids=0:=by
 have:=(Mp.Fa x.val (by rw [bD.gr];exact h)).2
 cases x;exact this
theorem B3 {x:bD} (h:Mp.di x=0) (hk:x.kind=6):x=Db.map x.kids:=by
 cases shape x h with
 | map l=>rfl
 | _=>exact absurd hk (by simp [bD.kind])
theorem Ec {x:bD} (h:Mp.di x=0) (hk:x.kind=5):x=Db.list x.kids:=by
 cases shape x h with
 | list l=>rfl
 | _=>exact absurd hk (by simp [bD.kind])
theorem DK {x:bD} (h:Mp.di x=0) (hk:x.kind=4):x=Db.text x.text∧dK.whole x.text=true:=by
 cases shape x h with
 | text t ht=>exact ⟨rfl,ht⟩
 | _=>exact absurd hk (by simp [bD.kind])
theorem Ck {ks:List bD} {l:List bG} (hm:mapped l=ks) (hl:Tree.gg l=true):n6 ⟨3,0,0,0,[],[],0,[],l⟩ (Db.map ks) :=
 ⟨iL (by decide) (by simp [Tree.dR,Tree.gN]) (by decide) (by decide),hl,by rw [←hm];rfl⟩
theorem zX {ks:List bD} {l:List bG} (hm:items l=ks) (hr:Tree.regular l=true) (hl:Tree.gg l=true):n6 ⟨4,0,0,0,[],[],0,[],l⟩ (Db.list ks):=by
 refine ⟨iL (by decide) (by simp [Tree.dR,Tree.gN]) (by decide) (by decide),hl,?_⟩
 show gz ⟨4,0,0,0,[],[],0,[],l⟩ (mapped l) (items l)=_
 rw [←hm];simp [gz,hr]
mutual
theorem ph (E:UInt64→bS→bE × Bool) (hE:xw E):∀(x:bD) (p:List Int) (v:bE),je E x p = .ok v→Mp.di x=0→n6 v x
 | .mk k n b t ks,p,v,h,hx=>by
  have hc:Mp.gw ks=0:=xl hx
  rw [je] at h
  by_cases h6:k=6
  ·rw [ao h6] at h
   obtain ⟨l,hl,rfl⟩:=pw h
   have:=nM E hE ks 0 p l hl hc
   have e:bD.mk k n b t ks=Db.map ks:=B3 hx h6
   rw [e]
   exact Ck this.1 this.2
  rw [ah h6] at h
  by_cases h5:k=5
  ·rw [ao h5] at h
   obtain ⟨l,hl,rfl⟩:=pw h
   have:=sz E hE ks 0 p l hl hc
   have e:bD.mk k n b t ks=Db.list ks:=Ec hx h5
   rw [e]
   exact zX this.1 this.2.1 this.2.2
  rw [ah h5] at h
  by_cases lZ:k=10
  ·rw [ao lZ] at h
   by_cases c:(E n b).2=true
   ·rw [ao c] at h
    have h:(E n b).1=v:=by injection h
    subst h
    have e:bD.mk k n b t ks = .mk 10 n b [] []∧n≤127:=by
     subst lZ
     cases shape _ hx with
     | ext _ _ hn=>exact ⟨rfl,hn⟩
    rw [e.1]
    exact hE n b e.2 c
   ·rw [ah c] at h;cases h
  rw [ah lZ] at h
  cases hl:Db.leaf k n b t with
  | none=>rw [hl] at h;cases h
  | some w =>
   rw [hl] at h
   have h:w=v:=by injection h
   subst h
   exact zY hl hx h5 h6 lZ
termination_by structural x=>x
theorem nM (E:UInt64→bS→bE × Bool) (hE:xw E):∀(l:List bD) (i:Nat) (p:List Int) (ks:List bG),fP E l i p = .ok ks→Mp.gw l=0→mapped ks=l∧Tree.gg ks=true
 | [],i,p,ks,h,_=>by rw [fP] at h;injection h with h;subst h;exact ⟨rfl,rfl⟩
 | [_],i,p,ks,h,_=>by rw [fP] at h;cases h
 | k :: x :: r,i,p,ks,h,hc=>by
  rw [fP] at h
  by_cases a:k.kind≠4∨dK.zero k.text=true
  ·rw [ao a] at h;cases h
  rw [ah a] at h
  simp only [not_or,Classical.not_not,Bool.not_eq_true] at a
  have c1:=iV hc
  have c2:=iV c1.2
  obtain ⟨t1,w1⟩:=DK c1.1 a.1
  cases hv:je E x (p++[((i+1:Nat):Int)]) with
  | bad q=>rw [hv] at h;cases h
  | ok v =>
   rw [hv] at h
   cases hl:fP E r (i+2) p with
   | bad q=>simp only [hl] at h;cases h
   | ok l =>
    simp only [hl] at h
    injection h with h;subst h
    have h1:=ph E hE x _ v hv c2.1
    have h2:=nM E hE r _ p l hl c2.2
    refine ⟨?_,Tree.kx.2 ⟨(Tree.iY _ v).2 ⟨h1.1,⟨w1,a.2⟩,h1.2.1⟩,h2.2⟩⟩
    rw [mapped,wh,h1.2.2,h2.1]
    congr 1
    rw [t1];cases v;rfl
termination_by structural l=>l
theorem sz (E:UInt64→bS→bE × Bool) (hE:xw E):∀(l:List bD) (i:Nat) (p:List Int) (ks:List bG),jj E l i p = .ok ks→Mp.gw l=0→items ks=l∧Tree.gL i ks=true∧Tree.gg ks=true
 | [],i,p,ks,h,_=>by rw [jj] at h;injection h with h;subst h;exact ⟨rfl,rfl,rfl⟩
 | x :: r,i,p,ks,h,hc=>by
  rw [jj] at h
  have c1:=iV hc
  cases hv:je E x (p++[(i:Int)]) with
  | bad q=>rw [hv] at h;cases h
  | ok v =>
   rw [hv] at h
   cases hl:jj E r (i+1) p with
   | bad q=>simp only [hl] at h;cases h
   | ok l =>
    simp only [hl] at h
    injection h with h;subst h
    have h1:=ph E hE x _ v hv c1.1
    have h2:=sz E hE r _ p l hl c1.2
    refine ⟨?_,?_,Tree.kx.2 ⟨(Tree.iY _ v).2 ⟨h1.1,Av i,h1.2.1⟩,h2.2.2⟩⟩
    ·rw [items,wh,h1.2.2,h2.1]
    ·rw [Tree.gL,h2.2.1,Bool.and_true]
     exact aa (by cases v;rfl)
termination_by structural l=>l
end
theorem An {E:UInt64→bS→bE × Bool} (hE:xw E):Good (qL E):=by
 intro v c h
 unfold qL Ct at h ⊢
 by_cases a:(Mp.dec c 1000).2.err≠0∨(Mp.dec c 1000).1.kind≠6
 ·rw [ao a] at h;cases h
 rw [ah a] at h ⊢
 simp only [not_or,Classical.not_not,ne_eq] at a
 obtain ⟨h1,h2,_⟩:=(Mp.nT c 1000).1 a.1
 cases hf:fP E (Mp.dec c 1000).1.kids 0 [] with
 | bad q=>rw [hf] at h;cases h
 | ok l =>
  have hj:=nM E hE _ 0 [] l hf (xl h1)
  exact ⟨l,rfl,hj.2,by rw [hj.1,←B3 h1 a.2,h2]⟩
theorem CT:∀d,xw (ig d)
 | 0=>fun n b _ h=>by cases h
 | d+1=>fun n b hn h=>Cl (An (CT d)) hn h
theorem nT (x:bD) (h:(dec x).2.err=0):(Tree.ga (bG.of [] (dec x).1) []).2=0∧(Tree.depth (bG.of [] (dec x).1)≤200→enc (dec x).1=(x,⟨0,0,[]⟩)):=by
 by_cases a:Mp.di x=0
 ·by_cases b:x.kind=6
  ·have e:dec x=((value 200 x []).val,(value 200 x []).yd):=by unfold dec;rw [ah (by simpa using a),ah (by simpa using b)]
   rw [e] at h ⊢
   cases hv:value 200 x [] with
   | bad q=>rw [hv] at h;exact absurd h (by show ¬(12:Int)=0;decide)
   | ok v =>
    have hj:=ph _ (CT 200) x [] v hv a
    show (Tree.ga (bG.of [] v) []).2=0∧(Tree.depth (bG.of [] v)≤200→enc v=(x,⟨0,0,[]⟩))
    have hc:(Tree.ga (bG.of [] v) []).2=0:=(Tree.nR _ []).2 ((Tree.iY [] v).2 ⟨hj.1,⟨by decide,by decide⟩,hj.2.1⟩)
    refine ⟨hc,fun hd=>?_⟩
    have hk:v.kind=3:=by
     obtain ⟨k,n,bb,t,ks⟩:=x
     have b:k=6:=b
     subst b
     rw [value,je,ao rfl] at hv
     obtain ⟨l,_,rfl⟩:=pw hv
     rfl
    unfold enc
    rw [ah (by simpa using hc),ah (by simpa using hk),ah (by omega)]
    have h2:=hj.2.2
    rw [←h2]
    unfold gz
    rw [ah (by omega),ah (by omega),ao hk]
  ·exact absurd h (by unfold dec;rw [ah (by simpa using a),ao b];decide)
 ·exact absurd h (by unfold dec;rw [ao a];exact a)
end Dk
end Go.Eng
namespace Go.Eng
open Go.IntWalk
namespace Dk
def dep (v:bE):Nat:=Tree.depth (bG.of [] v)
theorem qE (n:bS) (v:bE):Tree.depth (bG.of n v)=dep v:=by cases v;rfl
theorem H8 (k:Int) (b h l:UInt64) (t m:bS) (s:Int) (y:List UInt8) (ks:List bG):dep ⟨k,b,h,l,t,m,s,y,ks⟩=if k=3∨k=4∨k=15 then Tree.iP ks+1 else 0:=by rw [dep,bG.of,Tree.depth]
theorem kz (k:Int) (b h l:UInt64) (t m:bS) (s:Int) (y:List UInt8) (ks:List bG):dep ⟨k,b,h,l,t,m,s,y,ks⟩≤Tree.iP ks+1:=by rw [H8];split <;> omega
theorem E1 (k:Int) (t:bS):dep (Db.doc k t)≤1:=kz _ _ _ _ _ _ _ _ _
theorem Cd {k:Int} {n:UInt64} {b t:bS} {v:bE} (h:Db.leaf k n b t=some v):dep v≤1:=by
 unfold Db.leaf at h
 split at h
 ·injection h with h;subst h;exact kz _ _ _ _ _ _ _ _ _
 split at h
 ·injection h with h;subst h;exact kz _ _ _ _ _ _ _ _ _
 split at h
 ·injection h with h;subst h;exact kz _ _ _ _ _ _ _ _ _
 split at h
 ·injection h with h;subst h
  split
  ·exact kz _ _ _ _ _ _ _ _ _
  split
  ·exact kz _ _ _ _ _ _ _ _ _
  ·exact kz _ _ _ _ _ _ _ _ _
 split at h
 ·injection h with h;subst h;exact kz _ _ _ _ _ _ _ _ _
 ·cases h
mutual
theorem rS (E:UInt64→bS→bE × Bool) (hE:∀n b,dep (E n b).1≤b.length+1):∀(x:bD) (p:List Int) (v:bE),je E x p = .ok v→dep v≤(Mp.lay x).length
 | .mk k n b t ks,p,v,h=>by
  have hl:=Cg k n b t ks
  rw [je] at h
  split at h
  ·obtain ⟨l,wC,rfl⟩:=pw h
   have:=nS E hE ks 0 p l wC
   have:=kz 3 0 0 0 [] [] 0 [] l
   show dep ⟨3,0,0,0,[],[],0,[],l⟩≤_
   omega
  split at h
  ·obtain ⟨l,wC,rfl⟩:=pw h
   have:=sN E hE ks 0 p l wC
   have:=kz 4 0 0 0 [] [] 0 [] l
   show dep ⟨4,0,0,0,[],[],0,[],l⟩≤_
   omega
  split at h
  ·have:=hE n b
   cases h2:(E n b).2
   ·rw [h2,ah (by decide)] at h;cases h
   ·rw [h2,ao rfl] at h
    injection h with h;subst h;omega
  ·cases wC:Db.leaf k n b t with
   | none=>rw [wC] at h;cases h
   | some w =>
    rw [wC] at h
    have h:w=v:=by injection h
    subst h
    have:=Cd wC
    omega
theorem nS (E:UInt64→bS→bE × Bool) (hE:∀n b,dep (E n b).1≤b.length+1):∀(l:List bD) (i:Nat) (p:List Int) (ks:List bG),fP E l i p = .ok ks→Tree.iP ks≤(Mp.fF l).length
 | [],i,p,ks,h=>by rw [fP] at h;injection h with h;subst h;exact Nat.zero_le _
 | [_],i,p,ks,h=>by rw [fP] at h;cases h
 | k :: x :: r,i,p,ks,h=>by
  rw [fP] at h
  simp only [Mp.fF,aw]
  split at h
  ·cases h
  split at h
  ·cases h
  rename_i v hv
  split at h
  ·cases h
  rename_i l hl
  injection h with h;subst h
  have h1:=rS E hE x _ v hv
  have h2:=nS E hE r _ p l hl
  simp only [Tree.iP,qE];omega
theorem sN (E:UInt64→bS→bE × Bool) (hE:∀n b,dep (E n b).1≤b.length+1):∀(l:List bD) (i:Nat) (p:List Int) (ks:List bG),jj E l i p = .ok ks→Tree.iP ks≤(Mp.fF l).length
 | [],i,p,ks,h=>by rw [jj] at h;injection h with h;subst h;exact Nat.zero_le _
 | x :: r,i,p,ks,h=>by
  rw [jj] at h
  simp only [Mp.fF,aw]
  split at h
  ·cases h
  rename_i v hv
  split at h
  ·cases h
  rename_i l hl
  injection h with h;subst h
  have h1:=rS E hE x _ v hv
  have h2:=sN E hE r _ p l hl
  simp only [Tree.iP,qE];omega
end
theorem zH (E:UInt64→bS→bE × Bool) (hE:∀n b,dep (E n b).1≤b.length+1) (k:Int) (t c:bS):dep (qL E (Db.doc k t) c).1≤c.length+1:=by
 unfold qL Ct
 by_cases a:(Mp.dec c 1000).2.err≠0∨(Mp.dec c 1000).1.kind≠6
 ·rw [ao a];show dep Db.zero≤_;exact Nat.le_trans (show dep Db.zero≤0 by decide) (Nat.zero_le _)
 rw [ah a]
 simp only [not_or,Classical.not_not,ne_eq] at a
 obtain ⟨h1,h2,_⟩:=(Mp.nT c 1000).1 a.1
 cases hf:fP E (Mp.dec c 1000).1.kids 0 [] with
 | bad q=>exact Nat.le_trans (show dep Db.zero≤0 by decide) (Nat.zero_le _)
 | ok l =>
  have:=nS E hE _ 0 [] l hf
  have h3:=(Mp.jh (Mp.dec c 1000).1).2
  rw [h2] at h3
  show dep ⟨k,0,0,0,t,[],0,[],l⟩≤_
  have:=kz k 0 0 0 t [] 0 [] l
  omega
theorem C1 (R:bE→bS→bE × Bool) (hR:∀k t c,dep (R (Db.doc k t) c).1≤c.length+1) (k:Int) (b:bS):dep (mG R k b).1≤b.length+1:=by
 have hd:∀(k:Int) (t:bS),dep (Db.doc k t)≤b.length+1:=fun k t=>Nat.le_trans (E1 k t) (Nat.le_add_left _ _)
 have hv:∀(k:Int) (x h l:UInt64) (t m:bS) (s:Int) (y:List UInt8),dep ⟨k,x,h,l,t,m,s,y,[]⟩≤b.length+1:=fun k x h l t m s y=>Nat.le_trans (kz k x h l t m s y []) (Nat.le_add_left _ _)
 unfold mG
 repeat' split
 all_goals first
  | exact hd _ _
  | exact hv _ _ _ _ _ _ _ _
  | exact hR _ _ _
  | exact Nat.le_trans (hR _ _ _) (by rw [aW];omega)
theorem w8:∀(d:Nat) (n:UInt64) (b:bS),dep (ig d n b).1≤b.length+1
 | 0,n,b=>Nat.le_trans (show dep Db.zero≤0 by decide) (Nat.zero_le _)
 | d+1,n,b=>C1 _ (fun k t c=>zH (ig d) (w8 d) k t c) (kindOf n) b
def one (n:UInt64) (b:bS):bD:=Db.map [Db.text [116],.mk 10 n b [] []]
theorem D8 {n:UInt64} {b:bS} (hn:¬127<n) (hb:b.length≤150):Mp.di (one n b)=0 :=
 vl (by rw [Mp.gw,ao (sQ (by decide) (by decide)),Mp.gw,ao (zk hn (by omega))];rfl) (by simp) (by simp)
theorem zh {n:UInt64} {b:bS} (hn:¬127<n) (hb:b.length≤150):dec (one n b)=if (ig 200 n b).2=true then ({ Db.doc 3 [] with kids:=[bG.of [116] (ig 200 n b).1] },⟨0,0,[]⟩) else (Db.zero,⟨12,0,[1]⟩):=by
 have e:value 200 (one n b) []=if (ig 200 n b).2=true then .ok { Db.doc 3 [] with kids:=[bG.of [116] (ig 200 n b).1] } else .bad [1]:=by
  rw [value,one,Db.map,je,ao rfl,Db.text,fP,ah (by decide),je,ah (by decide),ah (by decide),ao rfl]
  by_cases c:(ig 200 n b).2=true
  ·rw [ao c,ao c];simp only [Db.opt,fP];rfl
  ·rw [ah c,ah c];rfl
 unfold dec
 rw [ah (by rw [D8 hn hb];decide),ah (by show ¬(6:Int)≠6;decide),e]
 by_cases c:(ig 200 n b).2=true
 ·rw [ao c,ao c];rfl
 ·rw [ah c,ah c];rfl
theorem zW {v:bE} {n:UInt64} {b:bS} (h:n6 v (.mk 10 n b [] [])):sort v.kind=n:=by
 have h:=h.2.2
 unfold gz at h
 have hk:=congrArg bD.kind h
 split at h
 ·rename_i c;rw [ao c] at hk;exact absurd hk (by show ¬(9:Int)=10;decide)
 rename_i c1;rw [ah c1] at hk
 split at h
 ·rename_i c;rw [ao c] at hk;exact absurd hk (by show ¬(4:Int)=10;decide)
 rename_i c1;rw [ah c1] at hk
 split at h
 ·rename_i c;rw [ao c] at hk;exact absurd hk (by show ¬(6:Int)=10;decide)
 rename_i c1;rw [ah c1] at hk
 split at h
 ·rename_i c;rw [ao c] at hk;exact absurd hk (by show ¬(5:Int)=10;decide)
 rename_i c1;rw [ah c1] at hk
 split at h
 ·rename_i c;rw [ao c] at hk;exact absurd hk (by show ¬(3:Int)=10;decide)
 rename_i c1;rw [ah c1] at hk
 split at h
 ·rename_i c;rw [ao c] at hk;exact absurd hk (by show ¬(8:Int)=10;decide)
 rename_i c1;rw [ah c1] at hk
 split at h
 ·rename_i c;rw [ao c] at hk;exact absurd hk (by show ¬(8:Int)=10;decide)
 rename_i c1;rw [ah c1] at hk
 split at h
 ·rename_i c;rw [ao c] at hk
  exfalso
  unfold Db.integer at hk
  split at hk
  ·exact absurd hk (by show ¬(2:Int)=10;decide)
  ·exact absurd hk (by show ¬(1:Int)=10;decide)
 ·injection h
theorem zB {k:Int} {n:UInt64} (h:sort k=n):UInt64.ofInt k=n∨k=255∧n=126:=by
 unfold sort at h
 by_cases a:k=255
 ·rw [ao a] at h;exact .inr ⟨a,h.symm⟩
 ·rw [ah a] at h;exact .inl h
theorem Hf {n:UInt64} {b:bS} (hn:¬127<n) (hb:b.length≤150) (h:(ig 200 n b).2=true):enc (dec (one n b)).1=(one n b,⟨0,0,[]⟩)∧(UInt64.ofInt (ig 200 n b).1.kind=n∨(ig 200 n b).1.kind=255∧n=126):=by
 have Ac:n≤127:=UInt64.not_lt.1 hn
 have e:=zh hn hb
 rw [ao h] at e
 refine ⟨(nT (one n b) (by rw [e])).2 ?_,zB (zW (CT 200 n b Ac h))⟩
 rw [e]
 have h1:=w8 200 n b
 have h2:=kz 3 0 0 0 [] [] 0 [] [bG.of [116] (ig 200 n b).1]
 show dep ⟨3,0,0,0,[],[],0,[],[bG.of [116] (ig 200 n b).1]⟩≤200
 simp only [Tree.iP,qE] at h2
 omega
end Dk
end Go.Eng
namespace Go.Eng
noncomputable section
def DocpackExts.sg:dq:={}
def DocpackExts.c:fi:=fun l=>match l with
 | [.u64 n,.sl .bs b] => .ok [(.b (true))]
 | _ => .err
def DocpackExts.env:EV:=[(7,(dc.c,dc.sg)),(10,(dF.c,dF.sg)),(12,(cq.c,cq.sg)),(14,(eu.c,eu.sg))]
def DocpackExts.E:eo:=cK tryzGl DocpackExts.env
def DocpackExts.m:TM:=oS [oW (.b false) 4] (.seq (oS [oC 7 0 1 [] 11,oK (.k (.un .not)) [11] [12]] (.cond (.s 12) [] (oS [oW (.b false) 4] .ret) .skip)) none (.seq (oS [oV 0 13,oI .gtr 13 (.u64 127) 14,oV 14 15,oG 15 false (oV 1 16),oG 15 false (oK (.k .len) [16] [17]),oG 15 false (oI .gtr 17 (.i .i64 150) 18),oX (.k .pick) [.s 15,.c (.b true),.s 18] [19]] (.cond (.s 19) [] (oS [oW (.b true) 4] .ret) .skip)) none (oS [oX (.bd zI [(0,1),(3,1)]) [.c (.i .i64 4),.c (.s ([116]:bS))] [20],oV 0 21,oV 1 22,oX (.bd zI [(0,1),(1,1),(2,1)]) [.c (.i .i64 10),.s 21,.s 22] [23],oK (.bl .il 2) [20,23] [24],oX (.bd zI [(0,1),(4,1)]) [.c (.i .i64 6),.s 24] [25],oN 1095 zI 5,oT 1095 0 5 5 25] (oS [oM 1095 0 5 5 27,oC 14 1 2 [27] 28,oV 28 26,oE 0 26 29,oE 1 26 30,oN 1096 zV 6,oN 1097 zT 7,oT 1096 0 9 6 29,oT 1097 0 3 7 30] (.seq (oS [oA 1097 0 0 7 31,oL 1097 0 1 31 32,oI .neq 32 (.i .i64 0) 33] (.cond (.s 33) [] (oS [oA 1097 0 0 7 34,oL 1097 0 1 34 35,oI .eql 35 (.i .i64 12) 36,oV 36 37,oG 37 true (oA 1097 0 2 7 38),oG 37 true (oL 1097 2 1 38 39),oG 37 true (oK (.k .len) [39] [40]),oG 37 true (oI .eql 40 (.i .i64 1) 41),oP 37 41 false 42,oV 42 43,oG 43 true (oA 1097 0 2 7 44),oG 43 true (oL 1097 2 1 44 45),oG 43 true (oX (.k (.ix 1)) [.s 45,.c (.i .i64 0)] [46]),oG 43 true (oK (.k (.lr 1 false)) [46] [47]),oG 43 true (oI .eql 47 (.i .i64 1) 48),oP 43 48 false 49,oV 49 4] .ret) .skip)) none (.seq (oS [oA 1096 0 8 6 50,oL 1096 8 1 50 51,oK (.k .len) [51] [52],oI .neq 52 (.i .i64 1) 53,oV 53 54,oG 54 false (oA 1096 0 8 6 55),oG 54 false (oL 1096 8 1 55 56),oG 54 false (oX (.k (.ix 10)) [.s 56,.c (.i .i64 0)] [57]),oG 54 false (oK (.k (.fr 0 1 false)) [57] [58]),oG 54 false (oK (.k (.lr 1 false)) [58] [59]),oG 54 false (oI .neq 59 (.s ([116]:bS)) 60),oX (.k .pick) [.s 54,.c (.b true),.s 60] [61]] (.cond (.s 61) [] (oS [oW (.b false) 4] .ret) .skip)) none (oS [oM 1096 0 9 6 63,oC 10 1 2 [63] 64,oV 64 62,oE 0 62 65,oE 1 62 66,oN 1098 zI 8,oN 1099 zT 9,oT 1098 0 5 8 65,oT 1099 0 3 9 66] (oS [oA 1096 0 8 6 67,oL 1096 8 1 67 68,oX (.k (.ix 10)) [.s 68,.c (.i .i64 0)] [69],oK (.k (.fr 1 9 true)) [69] [70],oK (.k (.fr 0 1 false)) [70] [71],oK (.k (.lr 1 false)) [71] [72],oV 72 10] (oS [oA 1099 0 0 9 73,oL 1099 0 1 73 74,oI .eql 74 (.i .i64 0) 75,oV 75 76,oG 76 true (oM 1098 0 5 8 77),oG 76 true (oM 1095 0 5 5 78),oG 76 true (oC 12 2 1 [77,78] 79),oP 76 79 false 80,oV 80 81,oG 81 true (oV 10 82),oG 81 true (oK (.k (.ci .u64)) [82] [83]),oG 81 true (oV 0 84),oG 81 true (oB .eql 83 84 85),oG 81 true (oV 85 86),oG 86 false (oV 10 87),oG 86 false (oI .eql 87 (.i .i64 255) 88),oG 86 false (oV 88 89),oG 89 true (oV 0 90),oG 89 true (oI .eql 90 (.u64 126) 91),oG 86 false (oP 89 91 false 92),oG 81 true (oX (.k .pick) [.s 86,.c (.b true),.s 92] [93]),oP 81 93 false 94,oV 94 4] .ret)))))))))
def DocpackExts.d:gD:=D0 2 DocpackExts.m [.t 4]
def DocpackExts.F (n:UInt64) (b:List UInt8):OT:=DocpackExts.d.run DocpackExts.E [(.u64 n),(.sl .bs b)]
theorem DocpackExts.dV (n:UInt64) (b:List UInt8) {ρ:OT} (K:∀(v1:Bool) (h1:v1=(cond (decide ((127:UInt64)<n)) true (decide ((150:Int)<((b).length:Int))))) (v2:List bD) (h2:v2=([(bD.mk 4 0 [] ([116]:bS) []),(bD.mk 10 n b [] [])]:List bD)) (v3:bE) (h3:v3=((Dk.dec (bD.of (bM.mk 6 0 [] [] v2))).1)) (v4:ez) (h4:v4=((Dk.dec (bD.of (bM.mk 6 0 [] [] v2))).2)) (v5:Int) (h5:v5=(((ez.path v4)).length:Int)) (v6:Bool) (h6:v6=(cond (decide ((ez.err v4)=(12:Int))) (decide (v5=(1:Int))) false)) (v7:Int) (h7:v7=(List.getD (ez.path v4) ((0:Int)).toNat (0:Int))) (v8:Bool) (h8:v8=(cond v6 (decide (v7=(1:Int))) false)) (v9:Int) (h9:v9=(((bE.kids v3)).length:Int)) (v10:Bool) (lZ:v10=(!(!decide (v9=(1:Int))))) (v11:bG) (yb:v11=(List.getD (bE.kids v3) ((0:Int)).toNat (eJ.fc .fl))) (v12:Bool) (ya:v12=(cond (!decide (v9=(1:Int))) true (!decide ((bG.name v11)=([116]:bS))))) (kN:Bool) (wN:kN=(bD.same (bD.of (bD.val ((Dk.enc v3).1))) (bD.of (bM.mk 6 0 [] [] v2)))) (jc:Bool) (xZ:jc=(cond (decide ((ez.err ((Dk.enc v3).2))=(0:Int))) kN false)) (mM:UInt64) (Ai:mM=(UInt64.ofInt (bG.kind v11))) (lf:Bool) (sH:lf=(jc&&(!(decide (mM=n))))) (pC:Bool) (tg:pC=(lf&&(decide ((bG.kind v11)=(255:Int))))) (mL:Bool) (ET:mL=(cond (decide ((bG.kind v11)=(255:Int))) (decide (n=(126:UInt64))) false)) (oq:Bool) (ES:oq=(cond (decide (mM=n)) true mL)),cond (!(true))
  (some [(.b false)])
  (ck (!(!(decide ((127:UInt64)<n))) || (!(decide ((127:UInt64)<n)))) (ck (!(!(decide ((127:UInt64)<n))) || (!(decide ((127:UInt64)<n)))) (ck ((decide ((127:UInt64)<n)) || (!(decide ((127:UInt64)<n)))) (cond v1
  (some [(.b true)])
  (ck (decide (bD.cA (bD.of (bM.mk 6 0 [] [] v2))≤1048576)) (cond (!decide ((ez.err v4)=(0:Int)))
  (ck (!(decide ((ez.err v4)=(12:Int))) || (decide ((ez.err v4)=(12:Int)))) (ck (!(decide ((ez.err v4)=(12:Int))) || (decide ((ez.err v4)=(12:Int)))) (ck (!(decide ((ez.err v4)=(12:Int))) || (decide ((ez.err v4)=(12:Int)))) (ck (!(decide ((ez.err v4)=(12:Int))) || (decide ((ez.err v4)=(12:Int)))) (ck (!v6 || v6) (ck (!v6 || (v6&&(eK (0:Int) ((ez.path v4)).length))) (ck (!v6 || v6) (ck (!v6 || v6) (ck (!v6 || v6) (some [(.b v8)]))))))))))
  (ck (!v10 || v10) (ck (!v10 || (v10&&(eK (0:Int) ((bE.kids v3)).length))) (ck (!v10 || v10) (ck (!v10 || v10) (ck (!v10 || v10) (ck ((!decide (v9=(1:Int))) || v10) (cond v12
  (some [(.b false)])
  (ck (decide (bG.cA (bG.of [] v3)≤1048576)) (ck (eK (0:Int) ((bE.kids v3)).length) (ck (!(decide ((ez.err ((Dk.enc v3).2))=(0:Int))) || (((decide ((ez.err ((Dk.enc v3).2))=(0:Int)))&&(decide ((ez.err ((Dk.enc v3).2))=(0:Int))))&&(decide (bD.cA (bD.of (bD.val ((Dk.enc v3).1)))≤1099511627776)))) (ck (!(decide ((ez.err ((Dk.enc v3).2))=(0:Int))) || (decide ((ez.err ((Dk.enc v3).2))=(0:Int)))) (ck (!jc || jc) (ck (!jc || (jc&&jc)) (ck (!jc || jc) (ck (!lf || lf) (ck (!lf || lf) (ck (!pC || pC) (ck (!lf || (lf&&(!(decide ((bG.kind v11)=(255:Int))) || pC))) (ck (!jc || (jc&&((decide (mM=n)) || lf))) (ck (!jc || jc) (some [(.b (cond jc oq false))])))))))))))))))))))))))))))=ρ):DocpackExts.F n b=ρ:=Eq.trans (by kernel_rfl) (K _ rfl _ rfl _ rfl _ rfl _ rfl _ rfl _ rfl _ rfl _ rfl _ rfl _ rfl _ rfl _ rfl _ rfl _ rfl _ rfl _ rfl _ rfl _ rfl)
theorem DocpackExts.di:CK 6 DocpackExts.env DocpackExts.d:=eI (by kernel_rfl)
end
end Go.Eng
namespace Go.Eng
open Go.IntWalk
theorem DocpackExts.goal (n:UInt64) (b:List UInt8):DocpackExts.F n b=some [.b true]:=by
 refine DocpackExts.dV n b ?_
 intro v1 h1 v2 h2 v3 h3 v4 h4 v5 h5 v6 h6 v7 h7 v8 h8 v9 h9 v10 lZ v11 yb v12 ya kN wN jc xZ mM Ai lf sH pC tg mL ET oq ES
 rw [aV,aj]
 by_cases a:127<n
 ·rw [aa a] at h1 ⊢
  rw [show v1=true from h1];rfl
 rw [af a] at h1 ⊢
 by_cases a2:(150:Int)<(b.length:Int)
 ·rw [aa a2] at h1
  rw [show v1=true from h1];rfl
 rw [af a2] at h1
 have h1:v1=false:=h1
 have hb:b.length≤150:=by omega
 have ho:bD.of (bM.mk 6 0 [] [] v2)=Dk.one n b:=by rw [h2];rfl
 have hs:bD.cA (Dk.one n b)≤160:=by
  show 1+0+0+((1+0+1+0)+((1+b.length+0+0)+0))≤160
  omega
 have he:=Dk.zh a hb
 have hd:bG.cA (bG.of [] (Dk.dec (Dk.one n b)).1)≤_:=Dk.C7 (Dk.one n b) (by omega)
 rw [ho] at h3 h4 wN ⊢
 rw [h1,aj,aa (show bD.cA (Dk.one n b)≤1048576 by omega)]
 by_cases c:(Dk.ig 200 n b).2=true
 ·obtain ⟨g1,g2⟩:=Dk.Hf a hb c
  rw [←h3] at g1 hd
  rw [ao c] at he
  rw [he] at h4
  have F7:v3=⟨3,0,0,0,[],[],0,[],[bG.of [116] (Dk.ig 200 n b).1]⟩:=by rw [h3,he];rfl
  have e4:ez.err v4=0:=by rw [h4]
  have e9:v9=1:=by rw [h9,F7];rfl
  have vv:v11=bG.of [116] (Dk.ig 200 n b).1:=by rw [yb,F7];rfl
  have en:bG.name v11=[116]:=by rw [vv];rfl
  have yh:v12=false:=by rw [ya,e9,en];rfl
  have ek:bG.kind v11=(Dk.ig 200 n b).1.kind:=by rw [vv];rfl
  have th:v10=true:=by rw [lZ,e9];rfl
  have el:(bE.kids v3).length=1:=by rw [F7];rfl
  rw [g1,bD.gr,bD.tA] at wN
  rw [g1] at xZ ⊢
  have sZ:jc=true:=by rw [xZ,wN];rfl
  have H3:oq=true:=by
   rw [ES,ET,Ai,ek]
   rcases g2 with g | g
   ·rw [g,aa rfl];rfl
   ·rw [g.1,g.2];rfl
  rw [e4,th,e9,yh,el,bD.gr,aa (show bG.cA (bG.of [] v3)≤1048576 by omega),aa (show bD.cA (Dk.one n b)≤1099511627776 by omega),sZ,H3]
  rw [sZ] at sH
  cases hq:decide (mM=n)
  ·rw [hq] at sH
   have sH:lf=true:=sH
   rw [sH] at tg ⊢
   have OJ:bG.kind v11=255:=by
    rcases g2 with g | g
    ·exact absurd (show mM=n by rw [Ai,ek,g]) (of_decide_eq_false hq)
    ·rw [ek];exact g.1
   rw [OJ] at tg ⊢
   have tg:pC=true:=tg
   rw [tg];rfl
  ·rw [hq] at sH
   have sH:lf=false:=sH
   rw [sH] at tg ⊢
   have tg:pC=false:=tg
   rw [tg];rfl
 ·rw [ah c] at he
  rw [he] at h4
  have h4:v4=⟨12,0,[1]⟩:=h4
  subst h4
  have e5:v5=1:=by rw [h5];rfl
  have e6:v6=true:=by rw [h6,e5];rfl
  have e8:v8=true:=by rw [h8,e6,h7];rfl
  rw [e6,e8]
  rfl
end Go.Eng
namespace Go.Eng
theorem DocpackExts.fit (n:UInt64) (b:List UInt8):FT DocpackExts.d (cK tryzGl DocpackExts.env) [.u64 n,.sl .bs b] [(.b (true))] :=
 ⟨by kernel_rfl,Eq.trans (b:=DocpackExts.F n b) (by kernel_rfl) (Eq.trans (DocpackExts.goal n b) (by kernel_rfl))⟩
theorem DocpackExts.ok:KO 6 (DocpackExts.c) DocpackExts.sg :=
 meets (l:=DocpackExts.env) (all_cons dc.ok (all_cons dF.ok (all_cons cq.ok (all_cons eu.ok all_nil)))) DocpackExts.di (by
   intro ins outs h
   unfold DocpackExts.c at h
   split at h
   ·cases h;exact DocpackExts.fit _ _
   ·exact h.elim)
end Go.Eng
