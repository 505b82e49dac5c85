/- Texts of my own, one behind the other: SnOK, ShA, ShQA, ShOKA, ShFlip, ShLLeast, ShQLeast, ShOKLeast. -/
import Derived.Test.YtfomkedednklbaaGreatDoorT5
set_option linter.unusedVariables false
set_option linter.unusedSimpArgs false
namespace Go.Eng
open Go.Proofs
theorem bQ.fit (x:UInt16):([.u16 x]:List TV).length=bQ.d.np∧bQ.d.run (cZ nrGl bQ.env) [.u16 x]=some (([(.i .i64 ((Nt.bits (x).toNat:Int)))]:List TV)++bQ.d.eu.map fun qq=>([.u16 x]:List TV).getD qq.1 .dead) :=
 ⟨by kernel_rfl,Eq.trans (b:=bQ.F x) (by kernel_rfl) (Eq.trans (bQ.goal x) (by kernel_rfl))⟩
theorem bQ.ok:KO 44 (bQ.c) bQ.sg :=
 meets (l:=bQ.env) all_nil bQ.eJ (by
   intro ins outs h
   unfold bQ.c at h
   split at h
   ·cases h;exact bQ.fit _
   ·exact h.elim)
theorem bits_Len64.fit (x:UInt64):([.u64 x]:List TV).length=bits_Len64.d.np∧bits_Len64.d.run (cZ nrGl bits_Len64.env) [.u64 x]=some (([(.i .i64 ((Nt.bits (x).toNat:Int)))]:List TV)++bits_Len64.d.eu.map fun qq=>([.u64 x]:List TV).getD qq.1 .dead) :=
 ⟨by kernel_rfl,Eq.trans (b:=bits_Len64.F x) (by kernel_rfl) (Eq.trans (bits_Len64.goal x) (by kernel_rfl))⟩
theorem bits_Len64.ok:KO 97 (bits_Len64.c) bits_Len64.sg :=
 meets (l:=bits_Len64.env) all_nil bits_Len64.eJ (by
   intro ins outs h
   unfold bits_Len64.c at h
   split at h
   ·cases h;exact bits_Len64.fit _
   ·exact h.elim)
theorem dq.fit (kU:Nat) (kT:Nat) (hp:(Gz.sT ((kU,kT):Cx) 33554432)=true):([.c (.complex .f64 kU kT)]:List TV).length=dq.d.np∧dq.d.run (cZ nrGl dq.env) [.c (.complex .f64 kU kT)]=some (([(.b (true))]:List TV)++dq.d.eu.map fun qq=>([.c (.complex .f64 kU kT)]:List TV).getD qq.1 .dead) :=
 ⟨by kernel_rfl,Eq.trans (b:=dq.F ((kU,kT):Cx)) (by kernel_rfl) (Eq.trans (dq.goal ((kU,kT):Cx) hp) (by kernel_rfl))⟩
theorem dq.ok:KO 116 (dq.c) dq.sg :=
 meets (l:=dq.env) (all_cons gz.ok all_nil) dq.eJ (by
   intro ins outs h
   unfold dq.c at h
   split at h
   ·obtain ⟨hp,rfl⟩:=h;exact dq.fit _ _ hp
   ·exact h.elim)
theorem fP.fit (x:Int) (y:Int) (hp:(decide (-33554432≤x∧x≤33554432∧-33554432≤y∧y≤33554432))=true):([.i .i64 x,.i .i64 y]:List TV).length=fP.d.np∧fP.d.run (cZ nrGl fP.env) [.i .i64 x,.i .i64 y]=some (([(.c (.complex .f64 (((Fl.ofInt x,Fl.ofInt y):Cx)).1 (((Fl.ofInt x,Fl.ofInt y):Cx)).2))]:List TV)++fP.d.eu.map fun qq=>([.i .i64 x,.i .i64 y]:List TV).getD qq.1 .dead) :=
 ⟨by kernel_rfl,Eq.trans (b:=fP.F x y) (by kernel_rfl) (Eq.trans (fP.goal x y hp) (by kernel_rfl))⟩
theorem fP.ok:KO 114 (fP.c) fP.sg :=
 meets (l:=fP.env) all_nil fP.eJ (by
   intro ins outs h
   unfold fP.c at h
   split at h
   ·obtain ⟨hp,rfl⟩:=h;exact fP.fit _ _ hp
   ·exact h.elim)
theorem db.fit (kU:Nat) (kT:Nat) (hp:(Gz.sT ((kU,kT):Cx) 4503599627370496)=true):([.c (.complex .f64 kU kT)]:List TV).length=db.d.np∧db.d.run (cZ nrGl db.env) [.c (.complex .f64 kU kT)]=some (([(.i .i64 (Fl.toInt (((kU,kT):Cx)).1)),(.i .i64 (Fl.toInt (((kU,kT):Cx)).2)),(.b (true))]:List TV)++db.d.eu.map fun qq=>([.c (.complex .f64 kU kT)]:List TV).getD qq.1 .dead) :=
 ⟨by kernel_rfl,Eq.trans (b:=db.F ((kU,kT):Cx)) (by kernel_rfl) (Eq.trans (db.goal ((kU,kT):Cx) hp) (by kernel_rfl))⟩
theorem db.ok:KO 94 (db.c) db.sg :=
 meets (l:=db.env) (all_cons gz.ok all_nil) db.eJ (by
   intro ins outs h
   unfold db.c at h
   split at h
   ·obtain ⟨hp,rfl⟩:=h;exact db.fit _ _ hp
   ·exact h.elim)
theorem dO.fit (kU:Nat) (kT:Nat) (k:Int) (hp:(Gz.sT ((kU,kT):Cx) 1125899906842624&&decide (-100≤k∧k≤100))=true):([.c (.complex .f64 kU kT),.i .i64 k]:List TV).length=dO.d.np∧dO.d.run (cZ nrGl dO.env) [.c (.complex .f64 kU kT),.i .i64 k]=some (([(.c (.complex .f64 (Gz.ta ((kU,kT):Cx) k).1 (Gz.ta ((kU,kT):Cx) k).2))]:List TV)++dO.d.eu.map fun qq=>([.c (.complex .f64 kU kT),.i .i64 k]:List TV).getD qq.1 .dead) :=
 ⟨by kernel_rfl,Eq.trans (b:=dO.F ((kU,kT):Cx) k) (by kernel_rfl) (Eq.trans (dO.goal ((kU,kT):Cx) k hp) (by kernel_rfl))⟩
theorem dO.ok:KO 131 (dO.c) dO.sg :=
 meets (l:=dO.env) (all_cons gz.ok all_nil) dO.eJ (by
   intro ins outs h
   unfold dO.c at h
   split at h
   ·obtain ⟨hp,rfl⟩:=h;exact dO.fit _ _ _ hp
   ·exact h.elim)
theorem dr.fit (kU:Nat) (kT:Nat) (DH:Nat) (DG:Nat) (hp:(Gz.sT ((kU,kT):Cx) 33554432&&Gz.sT ((DH,DG):Cx) 33554432)=true):([.c (.complex .f64 kU kT),.c (.complex .f64 DH DG)]:List TV).length=dr.d.np∧dr.d.run (cZ nrGl dr.env) [.c (.complex .f64 kU kT),.c (.complex .f64 DH DG)]=some (([(.c (.complex .f64 (Gz.mul ((kU,kT):Cx) ((DH,DG):Cx)).1 (Gz.mul ((kU,kT):Cx) ((DH,DG):Cx)).2))]:List TV)++dr.d.eu.map fun qq=>([.c (.complex .f64 kU kT),.c (.complex .f64 DH DG)]:List TV).getD qq.1 .dead) :=
 ⟨by kernel_rfl,Eq.trans (b:=dr.F ((kU,kT):Cx) ((DH,DG):Cx)) (by kernel_rfl) (Eq.trans (dr.goal ((kU,kT):Cx) ((DH,DG):Cx) hp) (by kernel_rfl))⟩
theorem dr.ok:KO 92 (dr.c) dr.sg :=
 meets (l:=dr.env) (all_cons dq.ok all_nil) dr.eJ (by
   intro ins outs h
   unfold dr.c at h
   split at h
   ·obtain ⟨hp,rfl⟩:=h;exact dr.fit _ _ _ _ hp
   ·exact h.elim)
theorem dJ.fit (x:Nat) (hp:(Gz.Iz x)=true):([.c (.float .f64 x)]:List TV).length=dJ.d.np∧dJ.d.run (cZ nrGl dJ.env) [.c (.float .f64 x)]=some (([(.b (true))]:List TV)++dJ.d.eu.map fun qq=>([.c (.float .f64 x)]:List TV).getD qq.1 .dead) :=
 ⟨by kernel_rfl,Eq.trans (b:=dJ.F x) (by kernel_rfl) (Eq.trans (dJ.goal x hp) (by kernel_rfl))⟩
theorem dJ.ok:KO 129 (dJ.c) dJ.sg :=
 meets (l:=dJ.env) (all_cons cM.ok all_nil) dJ.eJ (by
   intro ins outs h
   unfold dJ.c at h
   split at h
   ·obtain ⟨hp,rfl⟩:=h;exact dJ.fit _ hp
   ·exact h.elim)
theorem df.fit (dW:Nat) (dV:Nat) (dU:Nat) (dT:Nat) (dS:Nat) (dR:Nat) (dQ:Nat) (dP:Nat) (hp:(Gz.vc (Qd.mk ((dW,dV):Cx) ((dU,dT):Cx) ((dS,dR):Cx) ((dQ,dP):Cx)) 1125899906842624)=true):([.ag [.c (.complex .f64 dW dV),.c (.complex .f64 dU dT),.c (.complex .f64 dS dR),.c (.complex .f64 dQ dP)]]:List TV).length=df.d.np∧df.d.run (cZ nrGl df.env) [.ag [.c (.complex .f64 dW dV),.c (.complex .f64 dU dT),.c (.complex .f64 dS dR),.c (.complex .f64 dQ dP)]]=some (([(.b (true))]:List TV)++df.d.eu.map fun qq=>([.ag [.c (.complex .f64 dW dV),.c (.complex .f64 dU dT),.c (.complex .f64 dS dR),.c (.complex .f64 dQ dP)]]:List TV).getD qq.1 .dead) :=
 ⟨by kernel_rfl,Eq.trans (b:=df.F (Qd.mk ((dW,dV):Cx) ((dU,dT):Cx) ((dS,dR):Cx) ((dQ,dP):Cx))) (by kernel_rfl) (Eq.trans (df.goal (Qd.mk ((dW,dV):Cx) ((dU,dT):Cx) ((dS,dR):Cx) ((dQ,dP):Cx)) hp) (by kernel_rfl))⟩
theorem df.ok:KO 117 (df.c) df.sg :=
 meets (l:=df.env) (all_cons dJ.ok all_nil) df.eJ (by
   intro ins outs h
   unfold df.c at h
   split at h
   ·obtain ⟨hp,rfl⟩:=h;exact df.fit _ _ _ _ _ _ _ _ hp
   ·exact h.elim)
theorem bX.fit (dW:Nat) (dV:Nat) (dU:Nat) (dT:Nat) (dS:Nat) (dR:Nat) (dQ:Nat) (dP:Nat) (w:Int) (hp:(Gz.vc (Qd.mk ((dW,dV):Cx) ((dU,dT):Cx) ((dS,dR):Cx) ((dQ,dP):Cx)) 1125899906842624&&decide (w=1∨w=-1))=true):([.ag [.c (.complex .f64 dW dV),.c (.complex .f64 dU dT),.c (.complex .f64 dS dR),.c (.complex .f64 dQ dP)],.i .i64 w]:List TV).length=bX.d.np∧bX.d.run (cZ nrGl bX.env) [.ag [.c (.complex .f64 dW dV),.c (.complex .f64 dU dT),.c (.complex .f64 dS dR),.c (.complex .f64 dQ dP)],.i .i64 w]=some (([(.ag (Qd.cells (Gz.me (Qd.mk ((dW,dV):Cx) ((dU,dT):Cx) ((dS,dR):Cx) ((dQ,dP):Cx)) w)))]:List TV)++bX.d.eu.map fun qq=>([.ag [.c (.complex .f64 dW dV),.c (.complex .f64 dU dT),.c (.complex .f64 dS dR),.c (.complex .f64 dQ dP)],.i .i64 w]:List TV).getD qq.1 .dead) :=
 ⟨by kernel_rfl,Eq.trans (b:=bX.F (Qd.mk ((dW,dV):Cx) ((dU,dT):Cx) ((dS,dR):Cx) ((dQ,dP):Cx)) w) (by kernel_rfl) (Eq.trans (bX.goal (Qd.mk ((dW,dV):Cx) ((dU,dT):Cx) ((dS,dR):Cx) ((dQ,dP):Cx)) w hp) (by kernel_rfl))⟩
theorem bX.ok:KO 118 (bX.c) bX.sg :=
 meets (l:=bX.env) (all_cons dO.ok all_nil) bX.eJ (by
   intro ins outs h
   unfold bX.c at h
   split at h
   ·obtain ⟨hp,rfl⟩:=h;exact bX.fit _ _ _ _ _ _ _ _ _ hp
   ·exact h.elim)
theorem dK.fit (dW:Nat) (dV:Nat) (dU:Nat) (dT:Nat) (dS:Nat) (dR:Nat) (dQ:Nat) (dP:Nat) (hp:(Gz.vc (Qd.mk ((dW,dV):Cx) ((dU,dT):Cx) ((dS,dR):Cx) ((dQ,dP):Cx)) 1125899906842624)=true):([.ag [.c (.complex .f64 dW dV),.c (.complex .f64 dU dT),.c (.complex .f64 dS dR),.c (.complex .f64 dQ dP)]]:List TV).length=dK.d.np∧dK.d.run (cZ nrGl dK.env) [.ag [.c (.complex .f64 dW dV),.c (.complex .f64 dU dT),.c (.complex .f64 dS dR),.c (.complex .f64 dQ dP)]]=some (([(.ag (Qd.cells (Gz.me (Qd.mk ((dW,dV):Cx) ((dU,dT):Cx) ((dS,dR):Cx) ((dQ,dP):Cx)) 1)))]:List TV)++dK.d.eu.map fun qq=>([.ag [.c (.complex .f64 dW dV),.c (.complex .f64 dU dT),.c (.complex .f64 dS dR),.c (.complex .f64 dQ dP)]]:List TV).getD qq.1 .dead) :=
 ⟨by kernel_rfl,Eq.trans (b:=dK.F (Qd.mk ((dW,dV):Cx) ((dU,dT):Cx) ((dS,dR):Cx) ((dQ,dP):Cx))) (by kernel_rfl) (Eq.trans (dK.goal (Qd.mk ((dW,dV):Cx) ((dU,dT):Cx) ((dS,dR):Cx) ((dQ,dP):Cx)) hp) (by kernel_rfl))⟩
theorem dK.ok:KO 115 (dK.c) dK.sg :=
 meets (l:=dK.env) (all_cons df.ok (all_cons bX.ok all_nil)) dK.eJ (by
   intro ins outs h
   unfold dK.c at h
   split at h
   ·obtain ⟨hp,rfl⟩:=h;exact dK.fit _ _ _ _ _ _ _ _ hp
   ·exact h.elim)
theorem cQ.fit (dW:Nat) (dV:Nat) (dU:Nat) (dT:Nat) (dS:Nat) (dR:Nat) (dQ:Nat) (dP:Nat) (hp:(Gz.vc (Qd.mk ((dW,dV):Cx) ((dU,dT):Cx) ((dS,dR):Cx) ((dQ,dP):Cx)) 1125899906842624&&Gz.JP (Qd.mk ((dW,dV):Cx) ((dU,dT):Cx) ((dS,dR):Cx) ((dQ,dP):Cx)))=true):([.ag [.c (.complex .f64 dW dV),.c (.complex .f64 dU dT),.c (.complex .f64 dS dR),.c (.complex .f64 dQ dP)]]:List TV).length=cQ.d.np∧cQ.d.run (cZ nrGl cQ.env) [.ag [.c (.complex .f64 dW dV),.c (.complex .f64 dU dT),.c (.complex .f64 dS dR),.c (.complex .f64 dQ dP)]]=some (([(.ag (Qd.cells (Gz.back (Qd.mk ((dW,dV):Cx) ((dU,dT):Cx) ((dS,dR):Cx) ((dQ,dP):Cx))))),(.b (true))]:List TV)++cQ.d.eu.map fun qq=>([.ag [.c (.complex .f64 dW dV),.c (.complex .f64 dU dT),.c (.complex .f64 dS dR),.c (.complex .f64 dQ dP)]]:List TV).getD qq.1 .dead) :=
 ⟨by kernel_rfl,Eq.trans (b:=cQ.F (Qd.mk ((dW,dV):Cx) ((dU,dT):Cx) ((dS,dR):Cx) ((dQ,dP):Cx))) (by kernel_rfl) (Eq.trans (cQ.goal (Qd.mk ((dW,dV):Cx) ((dU,dT):Cx) ((dS,dR):Cx) ((dQ,dP):Cx)) hp) (by kernel_rfl))⟩
theorem cQ.ok:KO 93 (cQ.c) cQ.sg :=
 meets (l:=cQ.env) (all_cons db.ok (all_cons df.ok (all_cons bX.ok all_nil))) cQ.eJ (by
   intro ins outs h
   unfold cQ.c at h
   split at h
   ·obtain ⟨hp,rfl⟩:=h;exact cQ.fit _ _ _ _ _ _ _ _ hp
   ·exact h.elim)
theorem bZ.fit (l:List Int) (hp:(decide ((l).length≤256)&&Gz.gY l)=true):([.sl .is l]:List TV).length=bZ.d.np∧bZ.d.run (cZ nrGl bZ.env) [.sl .is l]=some (([(.b (true))]:List TV)++bZ.d.eu.map fun qq=>([.sl .is l]:List TV).getD qq.1 .dead) :=
 ⟨by kernel_rfl,Eq.trans (b:=bZ.F l) (by kernel_rfl) (Eq.trans (bZ.goal l hp) (by kernel_rfl))⟩
theorem bZ.ok:KO 90 (bZ.c) bZ.sg :=
 meets (l:=bZ.env) all_nil bZ.eJ (by
   intro ins outs h
   unfold bZ.c at h
   split at h
   ·obtain ⟨hp,rfl⟩:=h;exact bZ.fit _ hp
   ·exact h.elim)
theorem bP.fit (l:List Int) (hp:(decide ((l).length≤256)&&Gz.gY l)=true):([.sl .is l]:List TV).length=bP.d.np∧bP.d.run (cZ nrGl bP.env) [.sl .is l]=some (([(.sl .qd (Gz.gj l))]:List TV)++bP.d.eu.map fun qq=>([.sl .is l]:List TV).getD qq.1 .dead) :=
 ⟨by kernel_rfl,Eq.trans (b:=bP.F l) (by kernel_rfl) (Eq.trans (bP.goal l hp) (by kernel_rfl))⟩
theorem bP.ok:KO 91 (bP.c) bP.sg :=
 meets (l:=bP.env) (all_cons fP.ok (all_cons dK.ok all_nil)) bP.eJ (by
   intro ins outs h
   unfold bP.c at h
   split at h
   ·obtain ⟨hp,rfl⟩:=h;exact bP.fit _ hp
   ·exact h.elim)
theorem bK.fit (a:List Int) (b:List Int) (hp:(decide ((a).length≤256∧(b).length≤256)&&(Gz.gY a&&Gz.gY b))=true):([.sl .is a,.sl .is b]:List TV).length=bK.d.np∧bK.d.run (cZ nrGl bK.env) [.sl .is a,.sl .is b]=some (([(.sl .is (Gz.conv a b)),(.b (true))]:List TV)++bK.d.eu.map fun qq=>([.sl .is a,.sl .is b]:List TV).getD qq.1 .dead) :=
 ⟨by kernel_rfl,Eq.trans (b:=bK.F a b) (by kernel_rfl) (Eq.trans (bK.goal a b hp) (by kernel_rfl))⟩
theorem bK.ok:KO 62 (bK.c) bK.sg :=
 meets (l:=bK.env) (all_cons bZ.ok (all_cons bP.ok (all_cons dr.ok (all_cons cQ.ok (all_cons db.ok all_nil))))) bK.eJ (by
   intro ins outs h
   unfold bK.c at h
   split at h
   ·obtain ⟨hp,rfl⟩:=h;exact bK.fit _ _ hp
   ·exact h.elim)
theorem cH.fit (a:List UInt16) (hp:(decide ((a).length≤1099511627776))=true):([.sl .ws a]:List TV).length=cH.d.np∧cH.d.run (cZ nrGl cH.env) [.sl .ws a]=some (([(.sl .ws (Nt.of (Nt.val a)))]:List TV)++cH.d.eu.map fun qq=>([.sl .ws a]:List TV).getD qq.1 .dead) :=
 ⟨by kernel_rfl,Eq.trans (b:=cH.F a) (by kernel_rfl) (Eq.trans (cH.goal a hp) (by kernel_rfl))⟩
theorem cH.ok:KO 64 (cH.c) cH.sg :=
 meets (l:=cH.env) all_nil cH.eJ (by
   intro ins outs h
   unfold cH.c at h
   split at h
   ·obtain ⟨hp,rfl⟩:=h;exact cH.fit _ hp
   ·exact h.elim)
theorem dG.fit (a:List UInt16) (hp:(decide ((a).length≤1099511627776))=true):([.sl .ws a]:List TV).length=dG.d.np∧dG.d.run (cZ nrGl dG.env) [.sl .ws a]=some (([(.b (Nt.is a))]:List TV)++dG.d.eu.map fun qq=>([.sl .ws a]:List TV).getD qq.1 .dead) :=
 ⟨by kernel_rfl,Eq.trans (b:=dG.F a) (by kernel_rfl) (Eq.trans (dG.goal a hp) (by kernel_rfl))⟩
theorem dG.ok:KO 42 (dG.c) dG.sg :=
 meets (l:=dG.env) all_nil dG.eJ (by
   intro ins outs h
   unfold dG.c at h
   split at h
   ·obtain ⟨hp,rfl⟩:=h;exact dG.fit _ hp
   ·exact h.elim)
theorem dA.fit (v:UInt64):([.u64 v]:List TV).length=dA.d.np∧dA.d.run (cZ nrGl dA.env) [.u64 v]=some (([(.sl .ws (Nt.of (v).toNat))]:List TV)++dA.d.eu.map fun qq=>([.u64 v]:List TV).getD qq.1 .dead) :=
 ⟨by kernel_rfl,Eq.trans (b:=dA.F v) (by kernel_rfl) (Eq.trans (dA.goal v) (by kernel_rfl))⟩
theorem dA.ok:KO 18 (dA.c) dA.sg :=
 meets (l:=dA.env) all_nil dA.eJ (by
   intro ins outs h
   unfold dA.c at h
   split at h
   ·cases h;exact dA.fit _
   ·exact h.elim)
theorem cD.fit (a:List UInt16) (hp:(decide (Nt.is a=true∧(a).length≤4))=true):([.sl .ws a]:List TV).length=cD.d.np∧cD.d.run (cZ nrGl cD.env) [.sl .ws a]=some (([(.u64 (UInt64.ofNat (Nt.val a))),(.b (true))]:List TV)++cD.d.eu.map fun qq=>([.sl .ws a]:List TV).getD qq.1 .dead) :=
 ⟨by kernel_rfl,Eq.trans (b:=cD.F a) (by kernel_rfl) (Eq.trans (cD.goal a hp) (by kernel_rfl))⟩
theorem cD.ok:KO 95 (cD.c) cD.sg :=
 meets (l:=cD.env) (all_cons dG.ok all_nil) cD.eJ (by
   intro ins outs h
   unfold cD.c at h
   split at h
   ·obtain ⟨hp,rfl⟩:=h;exact cD.fit _ hp
   ·exact h.elim)
theorem dF.fit (a:List UInt16) (hp:(Nt.is a)=true):([.sl .ws a]:List TV).length=dF.d.np∧dF.d.run (cZ nrGl dF.env) [.sl .ws a]=some (([(.i .i64 ((Nt.bits (Nt.val a):Int)))]:List TV)++dF.d.eu.map fun qq=>([.sl .ws a]:List TV).getD qq.1 .dead) :=
 ⟨by kernel_rfl,Eq.trans (b:=dF.F a) (by kernel_rfl) (Eq.trans (dF.goal a hp) (by kernel_rfl))⟩
theorem dF.ok:KO 20 (dF.c) dF.sg :=
 meets (l:=dF.env) (all_cons dG.ok (all_cons bQ.ok all_nil)) dF.eJ (by
   intro ins outs h
   unfold dF.c at h
   split at h
   ·obtain ⟨hp,rfl⟩:=h;exact dF.fit _ hp
   ·exact h.elim)
theorem di.fit (a:List UInt16) (b:List UInt16) (hp:(decide ((a).length≤1099511627776∧(b).length≤1099511627776)&&(Nt.norm a&&Nt.norm b))=true):([.sl .ws a,.sl .ws b]:List TV).length=di.d.np∧di.d.run (cZ nrGl di.env) [.sl .ws a,.sl .ws b]=some (([(.i .i64 (Nt.cmp (Nt.val a) (Nt.val b)))]:List TV)++di.d.eu.map fun qq=>([.sl .ws a,.sl .ws b]:List TV).getD qq.1 .dead) :=
 ⟨by kernel_rfl,Eq.trans (b:=di.F a b) (by kernel_rfl) (Eq.trans (di.goal a b hp) (by kernel_rfl))⟩
theorem di.ok:KO 74 (di.c) di.sg :=
 meets (l:=di.env) all_nil di.eJ (by
   intro ins outs h
   unfold di.c at h
   split at h
   ·obtain ⟨hp,rfl⟩:=h;exact di.fit _ _ hp
   ·exact h.elim)
theorem dY.fit (a:List UInt16) (b:List UInt16) (hp:(Nt.is a&&Nt.is b)=true):([.sl .ws a,.sl .ws b]:List TV).length=dY.d.np∧dY.d.run (cZ nrGl dY.env) [.sl .ws a,.sl .ws b]=some (([(.i .i64 (Nt.cmp (Nt.val a) (Nt.val b)))]:List TV)++dY.d.eu.map fun qq=>([.sl .ws a,.sl .ws b]:List TV).getD qq.1 .dead) :=
 ⟨by kernel_rfl,Eq.trans (b:=dY.F a b) (by kernel_rfl) (Eq.trans (dY.goal a b hp) (by kernel_rfl))⟩
theorem dY.ok:KO 46 (dY.c) dY.sg :=
 meets (l:=dY.env) (all_cons dG.ok (all_cons di.ok all_nil)) dY.eJ (by
   intro ins outs h
   unfold dY.c at h
   split at h
   ·obtain ⟨hp,rfl⟩:=h;exact dY.fit _ _ hp
   ·exact h.elim)
theorem bR.fit (a:List UInt16) (hp:(decide ((a).length≤256))=true):([.sl .ws a]:List TV).length=bR.d.np∧bR.d.run (cZ nrGl bR.env) [.sl .ws a]=some (([(.sl .is ((a).map fun d=>(d.toNat:Int)))]:List TV)++bR.d.eu.map fun qq=>([.sl .ws a]:List TV).getD qq.1 .dead) :=
 ⟨by kernel_rfl,Eq.trans (b:=bR.F a) (by kernel_rfl) (Eq.trans (bR.goal a hp) (by kernel_rfl))⟩
theorem bR.ok:KO 63 (bR.c) bR.sg :=
 meets (l:=bR.env) all_nil bR.eJ (by
   intro ins outs h
   unfold bR.c at h
   split at h
   ·obtain ⟨hp,rfl⟩:=h;exact bR.fit _ hp
   ·exact h.elim)
theorem cI.fit (a:List UInt16) (b:List UInt16) (hp:(Nt.is a&&Nt.is b)=true):([.sl .ws a,.sl .ws b]:List TV).length=cI.d.np∧cI.d.run (cZ nrGl cI.env) [.sl .ws a,.sl .ws b]=some (([(.sl .ws (Nt.of (Nt.val a * Nt.val b)))]:List TV)++cI.d.eu.map fun qq=>([.sl .ws a,.sl .ws b]:List TV).getD qq.1 .dead) :=
 ⟨by kernel_rfl,Eq.trans (b:=cI.F a b) (by kernel_rfl) (Eq.trans (cI.goal a b hp) (by kernel_rfl))⟩
theorem cI.ok:KO 34 (cI.c) cI.sg :=
 meets (l:=cI.env) (all_cons dG.ok (all_cons bK.ok (all_cons bR.ok (all_cons cH.ok all_nil)))) cI.eJ (by
   intro ins outs h
   unfold cI.c at h
   split at h
   ·obtain ⟨hp,rfl⟩:=h;exact cI.fit _ _ hp
   ·exact h.elim)
theorem dh.fit (a:List UInt16) (d:UInt16) (hp:(decide ((a).length≤1000000∧d≠0))=true):([.sl .ws a,.u16 d]:List TV).length=dh.d.np∧dh.d.run (cZ nrGl dh.env) [.sl .ws a,.u16 d]=some (([(.sl .ws (Nt.of (Nt.val a / (d).toNat))),(.u16 (UInt16.ofNat (Nt.val a % (d).toNat)))]:List TV)++dh.d.eu.map fun qq=>([.sl .ws a,.u16 d]:List TV).getD qq.1 .dead) :=
 ⟨by kernel_rfl,Eq.trans (b:=dh.F a d) (by kernel_rfl) (Eq.trans (dh.goal a d hp) (by kernel_rfl))⟩
theorem dh.ok:KO 76 (dh.c) dh.sg :=
 meets (l:=dh.env) (all_cons cH.ok all_nil) dh.eJ (by
   intro ins outs h
   unfold dh.c at h
   split at h
   ·obtain ⟨hp,rfl⟩:=h;exact dh.fit _ _ hp
   ·exact h.elim)
theorem dv.fit (a:List UInt16) (n:Int) (hp:(decide ((a).length≤1000000∧0≤n∧n<16)&&Nt.norm a)=true):([.sl .ws a,.i .i64 n]:List TV).length=dv.d.np∧dv.d.run (cZ nrGl dv.env) [.sl .ws a,.i .i64 n]=some (([(.sl .ws (Nt.of (Nt.val a * 2 ^ (n).toNat)))]:List TV)++dv.d.eu.map fun qq=>([.sl .ws a,.i .i64 n]:List TV).getD qq.1 .dead) :=
 ⟨by kernel_rfl,Eq.trans (b:=dv.F a n) (by kernel_rfl) (Eq.trans (dv.goal a n hp) (by kernel_rfl))⟩
theorem dv.ok:KO 43 (dv.c) dv.sg :=
 meets (l:=dv.env) all_nil dv.eJ (by
   intro ins outs h
   unfold dv.c at h
   split at h
   ·obtain ⟨hp,rfl⟩:=h;exact dv.fit _ _ hp
   ·exact h.elim)
theorem cz.fit (a:List UInt16) (n:Int) (hp:(decide ((a).length≤1000000∧0≤n∧n<16))=true):([.sl .ws a,.i .i64 n]:List TV).length=cz.d.np∧cz.d.run (cZ nrGl cz.env) [.sl .ws a,.i .i64 n]=some (([(.sl .ws (Nt.of (Nt.val a / 2 ^ (n).toNat)))]:List TV)++cz.d.eu.map fun qq=>([.sl .ws a,.i .i64 n]:List TV).getD qq.1 .dead) :=
 ⟨by kernel_rfl,Eq.trans (b:=cz.F a n) (by kernel_rfl) (Eq.trans (cz.goal a n hp) (by kernel_rfl))⟩
theorem cz.ok:KO 78 (cz.c) cz.sg :=
 meets (l:=cz.env) (all_cons cH.ok all_nil) cz.eJ (by
   intro ins outs h
   unfold cz.c at h
   split at h
   ·obtain ⟨hp,rfl⟩:=h;exact cz.fit _ _ hp
   ·exact h.elim)
theorem bG.fit (u:List UInt16) (v:List UInt16) (hp:(decide ((u).length≤1000000∧2≤(v).length∧(v).length≤(u).length∧32768≤((v).getLast?.getD 0).toNat))=true):([.sl .ws u,.sl .ws v]:List TV).length=bG.d.np∧bG.d.run (cZ nrGl bG.env) [.sl .ws u,.sl .ws v]=some (([(.sl .ws (Nt.fix ((u).length+1 - (v).length) (Nt.val u / Nt.val v))),(.sl .ws (Nt.fix (v).length (Nt.val u % Nt.val v)))]:List TV)++bG.d.eu.map fun qq=>([.sl .ws u,.sl .ws v]:List TV).getD qq.1 .dead) :=
 ⟨by kernel_rfl,Eq.trans (b:=bG.F u v) (by kernel_rfl) (Eq.trans (bG.goal u v hp) (by kernel_rfl))⟩
theorem bG.ok:KO 77 (bG.c) bG.sg :=
 meets (l:=bG.env) all_nil bG.eJ (by
   intro ins outs h
   unfold bG.c at h
   split at h
   ·obtain ⟨hp,rfl⟩:=h;exact bG.fit _ _ hp
   ·exact h.elim)
theorem eC.fit (a:List UInt16) (b:List UInt16) (hp:(Nt.is a&&Nt.is b&&decide (b≠[]))=true):([.sl .ws a,.sl .ws b]:List TV).length=eC.d.np∧eC.d.run (cZ nrGl eC.env) [.sl .ws a,.sl .ws b]=some (([(.sl .ws (Nt.of (Nt.val a / Nt.val b))),(.sl .ws (Nt.of (Nt.val a % Nt.val b))),(.b (true))]:List TV)++eC.d.eu.map fun qq=>([.sl .ws a,.sl .ws b]:List TV).getD qq.1 .dead) :=
 ⟨by kernel_rfl,Eq.trans (b:=eC.F a b) (by kernel_rfl) (Eq.trans (eC.goal a b hp) (by kernel_rfl))⟩
theorem eC.ok:KO 47 (eC.c) eC.sg :=
 meets (l:=eC.env) (all_cons dA.ok (all_cons dG.ok (all_cons dv.ok (all_cons bQ.ok (all_cons cH.ok (all_cons di.ok (all_cons jd.ok (all_cons dh.ok (all_cons bG.ok (all_cons cz.ok all_nil)))))))))) eC.eJ (by
   intro ins outs h
   unfold eC.c at h
   split at h
   ·obtain ⟨hp,rfl⟩:=h;exact eC.fit _ _ hp
   ·exact h.elim)
theorem ft.fit (a:List UInt16) (n:Int) (hp:(decide (0≤n∧n≤4096)&&Nt.is a)=true):([.sl .ws a,.i .i64 n]:List TV).length=ft.d.np∧ft.d.run (cZ nrGl ft.env) [.sl .ws a,.i .i64 n]=some (([(.sl .ws (Nt.of (Nt.val a * 2 ^ (n).toNat)))]:List TV)++ft.d.eu.map fun qq=>([.sl .ws a,.i .i64 n]:List TV).getD qq.1 .dead) :=
 ⟨by kernel_rfl,Eq.trans (b:=ft.F a n) (by kernel_rfl) (Eq.trans (ft.goal a n hp) (by kernel_rfl))⟩
theorem ft.ok:KO 19 (ft.c) ft.sg :=
 meets (l:=ft.env) (all_cons dG.ok (all_cons dv.ok all_nil)) ft.eJ (by
   intro ins outs h
   unfold ft.c at h
   split at h
   ·obtain ⟨hp,rfl⟩:=h;exact ft.fit _ _ hp
   ·exact h.elim)
theorem cw.fit (a:List UInt16) (b:Int) (c:Int) (hp:(decide ((a).length≤1000000∧1≤b∧b≤65535∧0≤c∧c≤65535)&&Nt.norm a)=true):([.sl .ws a,.i .i64 b,.i .i64 c]:List TV).length=cw.d.np∧cw.d.run (cZ nrGl cw.env) [.sl .ws a,.i .i64 b,.i .i64 c]=some (([(.sl .ws (Nt.of (Nt.val a * (b).toNat+(c).toNat)))]:List TV)++cw.d.eu.map fun qq=>([.sl .ws a,.i .i64 b,.i .i64 c]:List TV).getD qq.1 .dead) :=
 ⟨by kernel_rfl,Eq.trans (b:=cw.F a b c) (by kernel_rfl) (Eq.trans (cw.goal a b c hp) (by kernel_rfl))⟩
theorem cw.ok:KO 61 (cw.c) cw.sg :=
 meets (l:=cw.env) all_nil cw.eJ (by
   intro ins outs h
   unfold cw.c at h
   split at h
   ·obtain ⟨hp,rfl⟩:=h;exact cw.fit _ _ _ hp
   ·exact h.elim)
theorem cA.fit (b:Int) (e:Int) (hp:(decide (2≤b∧b≤65535∧0≤e∧e≤1000∧(b).toNat ^ (e).toNat<2 ^ 4096))=true):([.i .i64 b,.i .i64 e]:List TV).length=cA.d.np∧cA.d.run (cZ nrGl cA.env) [.i .i64 b,.i .i64 e]=some (([(.sl .ws (Nt.of ((b).toNat ^ (e).toNat))),(.b (true))]:List TV)++cA.d.eu.map fun qq=>([.i .i64 b,.i .i64 e]:List TV).getD qq.1 .dead) :=
 ⟨by kernel_rfl,Eq.trans (b:=cA.F b e) (by kernel_rfl) (Eq.trans (cA.goal b e hp) (by kernel_rfl))⟩
theorem cA.ok:KO 33 (cA.c) cA.sg :=
 meets (l:=cA.env) (all_cons dA.ok (all_cons dG.ok (all_cons cw.ok all_nil))) cA.eJ (by
   intro ins outs h
   unfold cA.c at h
   split at h
   ·obtain ⟨hp,rfl⟩:=h;exact cA.fit _ _ hp
   ·exact h.elim)
theorem cE.fit (s:bT) (hp:(decide (1≤(s).length∧(s).length≤300∧(s).getD 0 0≠48)&&(s).all Nr.eo)=true):([.s s]:List TV).length=cE.d.np∧cE.d.run (cZ nrGl cE.env) [.s s]=some (([(.sl .ws (Nt.of (Nr.num s))),(.b (true))]:List TV)++cE.d.eu.map fun qq=>([.s s]:List TV).getD qq.1 .dead) :=
 ⟨by kernel_rfl,Eq.trans (b:=cE.F s) (by kernel_rfl) (Eq.trans (cE.goal s hp) (by kernel_rfl))⟩
theorem cE.ok:KO 32 (cE.c) cE.sg :=
 meets (l:=cE.env) (all_cons dG.ok (all_cons cw.ok all_nil)) cE.eJ (by
   intro ins outs h
   unfold cE.c at h
   split at h
   ·obtain ⟨hp,rfl⟩:=h;exact cE.fit _ hp
   ·exact h.elim)
theorem cW.fit (n:Bool) (m:UInt64) (e:Int) (hp:(decide (-1100≤e∧e≤2000))=true):([.b n,.u64 m,.i .i64 e]:List TV).length=cW.d.np∧cW.d.run (cZ nrGl cW.env) [.b n,.u64 m,.i .i64 e]=some (([(.u64 (Nr.pat (Nr.join n (m).toNat e))),(.b ((Nr.join n (m).toNat e).isSome))]:List TV)++cW.d.eu.map fun qq=>([.b n,.u64 m,.i .i64 e]:List TV).getD qq.1 .dead) :=
 ⟨by kernel_rfl,Eq.trans (b:=cW.F n m e) (by kernel_rfl) (Eq.trans (cW.goal n m e hp) (by kernel_rfl))⟩
theorem cW.ok:KO 66 (cW.c) cW.sg :=
 meets (l:=cW.env) (all_cons mb.ok (all_cons bits_Len64.ok all_nil)) cW.eJ (by
   intro ins outs h
   unfold cW.c at h
   split at h
   ·obtain ⟨hp,rfl⟩:=h;exact cW.fit _ _ _ hp
   ·exact h.elim)
theorem bW.fit (a:List UInt16) (b:List UInt16) (e:Int) (hp:(Nt.is a&&Nt.is b&&decide (-4096≤e∧e≤4096∧0<Nt.val b∧Nr.iR (Nt.val a) e<2 ^ 4090∧Nr.iC (Nt.val b) e<2 ^ 4090∧Nr.iR (Nt.val a) e<2 ^ 60 * Nr.iC (Nt.val b) e))=true):([.sl .ws a,.sl .ws b,.i .i64 e]:List TV).length=bW.d.np∧bW.d.run (cZ nrGl bW.env) [.sl .ws a,.sl .ws b,.i .i64 e]=some (([(.u64 (UInt64.ofNat (Nr.um (Nr.iR (Nt.val a) e) (Nr.iC (Nt.val b) e)))),(.b (Nr.lx (Nr.iR (Nt.val a) e) (Nr.iC (Nt.val b) e)))]:List TV)++bW.d.eu.map fun qq=>([.sl .ws a,.sl .ws b,.i .i64 e]:List TV).getD qq.1 .dead) :=
 ⟨by kernel_rfl,Eq.trans (b:=bW.F a b e) (by kernel_rfl) (Eq.trans (bW.goal a b e hp) (by kernel_rfl))⟩
theorem bW.ok:KO 65 (bW.c) bW.sg :=
 meets (l:=bW.env) (all_cons ft.ok (all_cons dY.ok (all_cons eC.ok (all_cons cD.ok all_nil)))) bW.eJ (by
   intro ins outs h
   unfold bW.c at h
   split at h
   ·obtain ⟨hp,rfl⟩:=h;exact bW.fit _ _ _ hp
   ·exact h.elim)
theorem cJ.fit (a:List UInt16) (b:List UInt16) (hp:(Nt.is a&&Nt.is b&&decide (0<Nt.val a∧0<Nt.val b∧Nt.val a<2 ^ 1100∧Nt.val b<2 ^ 2200))=true):([.sl .ws a,.sl .ws b]:List TV).length=cJ.d.np∧cJ.d.run (cZ nrGl cJ.env) [.sl .ws a,.sl .ws b]=some (([(.u64 (Nr.pat (Nr.gf (Nt.val a) (Nt.val b)))),(.b ((Nr.gf (Nt.val a) (Nt.val b)).isSome))]:List TV)++cJ.d.eu.map fun qq=>([.sl .ws a,.sl .ws b]:List TV).getD qq.1 .dead) :=
 ⟨by kernel_rfl,Eq.trans (b:=cJ.F a b) (by kernel_rfl) (Eq.trans (cJ.goal a b hp) (by kernel_rfl))⟩
theorem cJ.ok:KO 35 (cJ.c) cJ.sg :=
 meets (l:=cJ.env) (all_cons dF.ok (all_cons bW.ok (all_cons cW.ok all_nil))) cJ.eJ (by
   intro ins outs h
   unfold cJ.c at h
   split at h
   ·obtain ⟨hp,rfl⟩:=h;exact cJ.fit _ _ hp
   ·exact h.elim)
theorem cV.fit (d:bT) (x:Int):([.s d,.i .i64 x]:List TV).length=cV.d.np∧cV.d.run (cZ nrGl cV.env) [.s d,.i .i64 x]=some (([(.u64 (Nr.pat (Nr.read d x))),(.b ((Nr.read d x).isSome))]:List TV)++cV.d.eu.map fun qq=>([.s d,.i .i64 x]:List TV).getD qq.1 .dead) :=
 ⟨by kernel_rfl,Eq.trans (b:=cV.F d x) (by kernel_rfl) (Eq.trans (cV.goal d x) (by kernel_rfl))⟩
theorem cV.ok:KO 13 (cV.c) cV.sg :=
 meets (l:=cV.env) (all_cons dA.ok (all_cons lT.ok (all_cons gT.ok (all_cons fy.ok (all_cons cE.ok (all_cons cA.ok (all_cons cI.ok (all_cons cJ.ok all_nil)))))))) cV.eJ (by
   intro ins outs h
   unfold cV.c at h
   split at h
   ·cases h;exact cV.fit _ _
   ·exact h.elim)
theorem dc.fit (b:UInt64):([.u64 b]:List TV).length=dc.d.np∧dc.d.run (cZ nrGl dc.env) [.u64 b]=some (([(.i .i64 ((Nr.split b).1)),(.b ((Nr.split b).2.1)),(.u64 ((Nr.split b).2.2.1)),(.i .i64 ((Nr.split b).2.2.2))]:List TV)++dc.d.eu.map fun qq=>([.u64 b]:List TV).getD qq.1 .dead) :=
 ⟨by kernel_rfl,Eq.trans (b:=dc.F b) (by kernel_rfl) (Eq.trans (dc.goal b) (by kernel_rfl))⟩
theorem dc.ok:KO 17 (dc.c) dc.sg :=
 meets (l:=dc.env) all_nil dc.eJ (by
   intro ins outs h
   unfold dc.c at h
   split at h
   ·cases h;exact dc.fit _
   ·exact h.elim)
theorem bY.fit (a:List UInt16) (b:List UInt16) (hp:(Nt.is a&&Nt.is b)=true):([.sl .ws a,.sl .ws b]:List TV).length=bY.d.np∧bY.d.run (cZ nrGl bY.env) [.sl .ws a,.sl .ws b]=some (([(.sl .ws (Nt.of (Nt.val a+Nt.val b)))]:List TV)++bY.d.eu.map fun qq=>([.sl .ws a,.sl .ws b]:List TV).getD qq.1 .dead) :=
 ⟨by kernel_rfl,Eq.trans (b:=bY.F a b) (by kernel_rfl) (Eq.trans (bY.goal a b hp) (by kernel_rfl))⟩
theorem bY.ok:KO 49 (bY.c) bY.sg :=
 meets (l:=bY.env) (all_cons dG.ok (all_cons jd.ok all_nil)) bY.eJ (by
   intro ins outs h
   unfold bY.c at h
   split at h
   ·obtain ⟨hp,rfl⟩:=h;exact bY.fit _ _ hp
   ·exact h.elim)
theorem cm.fit (a:List UInt16) (hp:(Nt.is a)=true):([.sl .ws a]:List TV).length=cm.d.np∧cm.d.run (cZ nrGl cm.env) [.sl .ws a]=some (([(.s (Sh.pX (Nt.val a)))]:List TV)++cm.d.eu.map fun qq=>([.sl .ws a]:List TV).getD qq.1 .dead) :=
 ⟨by kernel_rfl,Eq.trans (b:=cm.F a) (by kernel_rfl) (Eq.trans (cm.goal a hp) (by kernel_rfl))⟩
theorem cm.ok:KO 79 (cm.c) cm.sg :=
 meets (l:=cm.env) (all_cons dG.ok (all_cons gM.ok (all_cons dh.ok (all_cons lX.ok (all_cons gV.ok (all_cons lU.ok all_nil)))))) cm.eJ (by
   intro ins outs h
   unfold cm.c at h
   split at h
   ·obtain ⟨hp,rfl⟩:=h;exact cm.fit _ hp
   ·exact h.elim)
theorem dL.fit (v:Int) (hp:(Nr.i64 v)=true):([.i .i64 v]:List TV).length=dL.d.np∧dL.d.run (cZ nrGl dL.env) [.i .i64 v]=some (([(.s (Nr.itoa v))]:List TV)++dL.d.eu.map fun qq=>([.i .i64 v]:List TV).getD qq.1 .dead) :=
 ⟨by kernel_rfl,Eq.trans (b:=dL.F v) (by kernel_rfl) (Eq.trans (dL.goal v hp) (by kernel_rfl))⟩
theorem dL.ok:KO 52 (dL.c) dL.sg :=
 meets (l:=dL.env) (all_cons gx.ok all_nil) dL.eJ (by
   intro ins outs h
   unfold dL.c at h
   split at h
   ·obtain ⟨hp,rfl⟩:=h;exact dL.fit _ hp
   ·exact h.elim)
theorem dD.fit (a:List UInt16) (b:List UInt16) (k:Int) (hp:(Nt.is a&&Nt.is b&&decide (-400≤k∧k≤400∧Nt.val a<2 ^ 1100∧Nt.val b<2 ^ 1100))=true):([.sl .ws a,.sl .ws b,.i .i64 k]:List TV).length=dD.d.np∧dD.d.run (cZ nrGl dD.env) [.sl .ws a,.sl .ws b,.i .i64 k]=some (([(.sl .ws (Nt.of (Sh.tA (Nt.val a) k))),(.sl .ws (Nt.of (Sh.tB (Nt.val b) k)))]:List TV)++dD.d.eu.map fun qq=>([.sl .ws a,.sl .ws b,.i .i64 k]:List TV).getD qq.1 .dead) :=
 ⟨by kernel_rfl,Eq.trans (b:=dD.F a b k) (by kernel_rfl) (Eq.trans (dD.goal a b k hp) (by kernel_rfl))⟩
theorem dD.ok:KO 45 (dD.c) dD.sg :=
 meets (l:=dD.env) (all_cons cA.ok (all_cons cI.ok all_nil)) dD.eJ (by
   intro ins outs h
   unfold dD.c at h
   split at h
   ·obtain ⟨hp,rfl⟩:=h;exact dD.fit _ _ _ hp
   ·exact h.elim)
theorem dm.fit (a:List UInt16) (b:List UInt16) (x:Int) (hp:(Nt.is a&&Nt.is b&&decide (-400≤x∧x≤400∧Nt.val a<2 ^ 1100∧Nt.val b<2 ^ 1100))=true):([.sl .ws a,.sl .ws b,.i .i64 x]:List TV).length=dm.d.np∧dm.d.run (cZ nrGl dm.env) [.sl .ws a,.sl .ws b,.i .i64 x]=some (([(.b (decide (Sh.tB (Nt.val b) (-x)≤Sh.tA (Nt.val a) (-x))))]:List TV)++dm.d.eu.map fun qq=>([.sl .ws a,.sl .ws b,.i .i64 x]:List TV).getD qq.1 .dead) :=
 ⟨by kernel_rfl,Eq.trans (b:=dm.F a b x) (by kernel_rfl) (Eq.trans (dm.goal a b x hp) (by kernel_rfl))⟩
theorem dm.ok:KO 21 (dm.c) dm.sg :=
 meets (l:=dm.env) (all_cons dD.ok (all_cons dY.ok all_nil)) dm.eJ (by
   intro ins outs h
   unfold dm.c at h
   split at h
   ·obtain ⟨hp,rfl⟩:=h;exact dm.fit _ _ _ hp
   ·exact h.elim)
theorem dj.fit (b:UInt64) (a:List UInt16) (p:Int) (hp:(Nt.is a&&decide (-1000≤p∧p≤1000∧0<Nt.val a∧Nt.val a<10 ^ 200))=true):([.u64 b,.sl .ws a,.i .i64 p]:List TV).length=dj.d.np∧dj.d.run (cZ nrGl dj.env) [.u64 b,.sl .ws a,.i .i64 p]=some (([(.s (((Sh.iX (b).toNat (Nt.val a) p).getD ([],0)).1)),(.i .i64 (((Sh.iX (b).toNat (Nt.val a) p).getD ([],0)).2)),(.b ((Sh.iX (b).toNat (Nt.val a) p).isSome))]:List TV)++dj.d.eu.map fun qq=>([.u64 b,.sl .ws a,.i .i64 p]:List TV).getD qq.1 .dead) :=
 ⟨by kernel_rfl,Eq.trans (b:=dj.F b a p) (by kernel_rfl) (Eq.trans (dj.goal b a p hp) (by kernel_rfl))⟩
theorem dj.ok:KO 48 (dj.c) dj.sg :=
 meets (l:=dj.env) (all_cons cV.ok (all_cons fy.ok (all_cons cm.ok all_nil))) dj.eJ (by
   intro ins outs h
   unfold dj.c at h
   split at h
   ·obtain ⟨hp,rfl⟩:=h;exact dj.fit _ _ _ hp
   ·exact h.elim)
theorem dM.fit (b:UInt64) (p:List UInt16) (q:List UInt16) (x:Int) (n:Int) (hp:(Nt.is p&&Nt.is q&&Sh.ng (Nt.val p) (Nt.val q) x n)=true):([.u64 b,.sl .ws p,.sl .ws q,.i .i64 x,.i .i64 n]:List TV).length=dM.d.np∧dM.d.run (cZ nrGl dM.env) [.u64 b,.sl .ws p,.sl .ws q,.i .i64 x,.i .i64 n]=some (([(.s (((Sh.mJ (b).toNat (Nt.val p) (Nt.val q) x n).getD ([],0)).1)),(.i .i64 (((Sh.mJ (b).toNat (Nt.val p) (Nt.val q) x n).getD ([],0)).2)),(.b ((Sh.mJ (b).toNat (Nt.val p) (Nt.val q) x n).isSome))]:List TV)++dM.d.eu.map fun qq=>([.u64 b,.sl .ws p,.sl .ws q,.i .i64 x,.i .i64 n]:List TV).getD qq.1 .dead) :=
 ⟨by kernel_rfl,Eq.trans (b:=dM.F b p q x n) (by kernel_rfl) (Eq.trans (dM.goal b p q x n hp) (by kernel_rfl))⟩
theorem dM.ok:KO 22 (dM.c) dM.sg :=
 meets (l:=dM.env) (all_cons dA.ok (all_cons ft.ok (all_cons dD.ok (all_cons dY.ok (all_cons eC.ok (all_cons dj.ok (all_cons bY.ok all_nil))))))) dM.eJ (by
   intro ins outs h
   unfold dM.c at h
   split at h
   ·obtain ⟨hp,rfl⟩:=h;exact dM.fit _ _ _ _ _ hp
   ·exact h.elim)
theorem bJ.fit (b:UInt64):([.u64 b]:List TV).length=bJ.d.np∧bJ.d.run (cZ nrGl bJ.env) [.u64 b]=some (([(.s ((Sh.dg b).1)),(.i .i64 ((Sh.dg b).2.1)),(.b ((Sh.dg b).2.2))]:List TV)++bJ.d.eu.map fun qq=>([.u64 b]:List TV).getD qq.1 .dead) :=
 ⟨by kernel_rfl,Eq.trans (b:=bJ.F b) (by kernel_rfl) (Eq.trans (bJ.goal b) (by kernel_rfl))⟩
theorem bJ.ok:KO 9 (bJ.c) bJ.sg :=
 meets (l:=bJ.env) (all_cons dc.ok (all_cons dA.ok (all_cons ft.ok (all_cons dF.ok (all_cons dm.ok (all_cons dM.ok all_nil)))))) bJ.eJ (by
   intro ins outs h
   unfold bJ.c at h
   split at h
   ·cases h;exact bJ.fit _
   ·exact h.elim)
theorem cU.fit (d:bT) (x:Int) (hp:(decide (1≤(d).length∧(d).length≤17∧-900≤x∧x≤900))=true):([.s d,.i .i64 x]:List TV).length=cU.d.np∧cU.d.run (cZ nrGl cU.env) [.s d,.i .i64 x]=some (([(.s (Sh.yY d x))]:List TV)++cU.d.eu.map fun qq=>([.s d,.i .i64 x]:List TV).getD qq.1 .dead) :=
 ⟨by kernel_rfl,Eq.trans (b:=cU.F d x) (by kernel_rfl) (Eq.trans (cU.goal d x hp) (by kernel_rfl))⟩
theorem cU.ok:KO 27 (cU.c) cU.sg :=
 meets (l:=cU.env) (all_cons gM.ok (all_cons dL.ok all_nil)) cU.eJ (by
   intro ins outs h
   unfold cU.c at h
   split at h
   ·obtain ⟨hp,rfl⟩:=h;exact cU.fit _ _ hp
   ·exact h.elim)
theorem cR.fit (b:UInt64):([.u64 b]:List TV).length=cR.d.np∧cR.d.run (cZ nrGl cR.env) [.u64 b]=some (([(.s (Sh.text b))]:List TV)++cR.d.eu.map fun qq=>([.u64 b]:List TV).getD qq.1 .dead) :=
 ⟨by kernel_rfl,Eq.trans (b:=cR.F b) (by kernel_rfl) (Eq.trans (cR.goal b) (by kernel_rfl))⟩
theorem cR.ok:KO 11 (cR.c) cR.sg :=
 meets (l:=cR.env) (all_cons bJ.ok (all_cons dc.ok (all_cons cU.ok all_nil))) cR.eJ (by
   intro ins outs h
   unfold cR.c at h
   split at h
   ·cases h;exact cR.fit _
   ·exact h.elim)
end Go.Eng
namespace Go.Eng
open Go.Proofs
noncomputable section
def iJ.sg:c7:={ bO:=3 }
def iJ.c:eW:=fun l=>match l with
 | [.u64 b] => .eM (decide (b=4591870180066957722)) [(.s (([49]:bT))),(.i .i64 ((0:Int))),(.b (true))]
 | _ => .err
def kC.sg:c7:={}
def kC.c:eW:=fun l=>match l with
 | [.u64 b] => .eM (decide (b=4591870180066957722∨b=9223372036854775808)) [(.s ((if b=4591870180066957722 then [48,46,49] else [45,48]:bT)))]
 | _ => .err
def dk.sg:c7:={}
def dk.c:eW:=fun l=>match l with
 | [] => .ok [(.b (true))]
 | _ => .err
def dk.env:EV:=[(9,(iJ.c,iJ.sg)),(11,(kC.c,kC.sg))]
def dk.E:eD:=cZ nrGl dk.env
def dk.m:TM:=oS [oW (.b false) 0] (oS [oX (.k (.call 9 (.plain 1 3))) [.c (.u64 4591870180066957722)] [5],oV 5 4,oE 0 4 6,oE 1 4 7,oE 2 4 8,oV 6 1,oV 7 2,oV 8 3] (oS [oV 1 9,oI .eql 9 (.s ([49]:bT)) 10,oV 10 11,oG 11 true (oV 2 12),oG 11 true (oI .eql 12 (.i .i64 0) 13),oP 11 13 false 14,oV 14 15,oG 15 true (oV 3 16),oP 15 16 false 17,oV 17 18,oG 18 true (oX (.k (.call 11 (.plain 1 1))) [.c (.u64 4591870180066957722)] [19]),oG 18 true (oI .eql 19 (.s ([48,46,49]:bT)) 20),oP 18 20 false 21,oV 21 22,oG 22 true (oX (.k (.call 11 (.plain 1 1))) [.c (.u64 9223372036854775808)] [23]),oG 22 true (oI .eql 23 (.s ([45,48]:bT)) 24),oP 22 24 false 25,oV 25 0] .ret))
def dk.d:gS:=D0 0 dk.m [.t 0]
def dk.F  : OT:=dk.d.run dk.E []
theorem dk.dZ  {ρ:OT} (K:∀(v1:Bool) (h1:v1=(cond (decide ((([49]:bT))=([49]:bT))) (decide (((0:Int))=(0:Int))) false)) (v2:bT) (h2:v2=((if ((4591870180066957722:UInt64))=4591870180066957722 then [48,46,49] else [45,48]:bT))) (v3:Bool) (h3:v3=(cond (cond v1 (true) false) (decide (v2=([48,46,49]:bT))) false)) (v4:bT) (h4:v4=((if ((9223372036854775808:UInt64))=4591870180066957722 then [48,46,49] else [45,48]:bT))) (v5:Bool) (h5:v5=(cond v3 (decide (v4=([45,48]:bT))) false)),ck (decide (((4591870180066957722:UInt64))=4591870180066957722)) (ck (!(decide ((([49]:bT))=([49]:bT))) || (decide ((([49]:bT))=([49]:bT)))) (ck (!(decide ((([49]:bT))=([49]:bT))) || (decide ((([49]:bT))=([49]:bT)))) (ck (!v1 || v1) (ck (!(cond v1 (true) false) || (decide (((4591870180066957722:UInt64))=4591870180066957722∨((4591870180066957722:UInt64))=9223372036854775808))) (ck (!(cond v1 (true) false) || (cond v1 (true) false)) (ck (!(cond v1 (true) false) || (cond v1 (true) false)) (ck (!v3 || (decide (((9223372036854775808:UInt64))=4591870180066957722∨((9223372036854775808:UInt64))=9223372036854775808))) (ck (!v3 || v3) (ck (!v3 || v3) (some [(.b v5)]))))))))))=ρ):dk.F  = ρ:=Eq.trans (by kernel_rfl) (K _ rfl _ rfl _ rfl _ rfl _ rfl)
theorem dk.eJ:CK 8 dk.env dk.d:=fE (by kernel_rfl)
end
end Go.Eng
namespace Go.Eng
open Go.Proofs
theorem gl_two {P:Program} {w:World} {n1 n2:String} {k1 k2:IntKind} {z1 z2:List Int} {g1 g2:Nat} (h1:Lib.TabIs P w n1 k1 z1) (hg1:P.globalNamed n1=some g1) (h2:Lib.TabIs P w n2 k2 z2) (hg2:P.globalNamed n2=some g2):∀n,Rep (Old w) w ((Mi [(g1,vk k1 z1),(g2,vk k2 z2)] n).av) (.pointer (some ⟨n,0,none⟩)):=by
 intro n
 unfold Mi
 cases hb:Nat.beq n g1 with
 | true=>rw [au hb];exact vY h1 hg1
 | false =>
  show Rep (Old w) w ((Mi [(g2,vk k2 z2)] n).av) _
  exact Mh h2 hg2 n
namespace Sh
theorem sF:Nr.iD 4591870180066957722=7205759403792794∧Nr.sh 4591870180066957722=1018:=by decide +kernel
theorem qt:gI 4591870180066957722=7205759403792794∧ff 4591870180066957722=72057594037927936:=by
 unfold gI ff;rw [sF.1,sF.2];decide +kernel
theorem D5:dx 4591870180066957722=0:=by
 have h1:=pG (p:=4591870180066957722) (by decide) (-1)
 have h2:=pG (p:=4591870180066957722) (by decide) 0
 rw [qt.1,qt.2] at h1 h2
 have g1:=h1.1 (by decide +kernel)
 have g2:¬(0:Int)<dx 4591870180066957722:=fun c=>absurd (h2.2 c) (by decide +kernel)
 omega
theorem D4:Nr.rd 1 (-1)=some 4591870180066957722:=by
 unfold Nr.rd
 refine Nr.lh (by decide) (by decide) ?_ (.inr ?_)
 ·unfold Nr.fC;decide +kernel
 ·unfold Nr.fC;decide +kernel
theorem IZ:Nr.dec 1=[49]:=(Nr.lI 1 [49] (by decide) (by decide) (by decide) (by decide)).symm
theorem At:some_ 4591870180066957722 (gI 4591870180066957722) (ff 4591870180066957722) (dx 4591870180066957722) 1=some ([49],0):=by
 rw [qt.1,qt.2,D5]
 have hP:tA 7205759403792794 (1 - 0) / tB 72057594037927936 (1 - 0)=1:=by decide +kernel
 have hR:2 * (tA 7205759403792794 (1 - 0) % tB 72057594037927936 (1 - 0))<tB 72057594037927936 (1 - 0):=by decide +kernel
 have hr:reads 4591870180066957722 1 (0 - 1)=some ([49],0):=by
  rw [show ((0:Int) - 1)=-1 by decide,iL D4,IZ];rfl
 unfold some_
 simp only
 rw [hP,hr,aH ⟨rfl,.inr (.inl hR)⟩]
theorem wG:digits 4591870180066957722=([49],0):=go_hit At
theorem kA:(Nr.split 4591870180066957722).1=2∧(Nr.split 4591870180066957722).2.1=false:=by decide +kernel
theorem Cy:iE 4591870180066957722=4591870180066957722:=by decide +kernel
theorem nZ:(dg 4591870180066957722).1=[49]∧(dg 4591870180066957722).2.1=0∧(dg 4591870180066957722).2.2=true:=by
 obtain ⟨z1,z2,z3⟩:=xG kA.1
 rw [Cy,wG] at z1 z2
 exact ⟨z1,z2,z3⟩
theorem As:text 4591870180066957722=[48,46,49]:=by
 rw [wF];unfold vE
 rw [aD (by rw [kA.1];decide),aD (by rw [kA.1];decide),aD (by rw [kA.1];decide),nZ.1,nZ.2.1]
 unfold sign
 rw [aD (by rw [kA.2];decide)]
 rfl
theorem kX:(Nr.split 9223372036854775808).1=1∧(Nr.split 9223372036854775808).2.1=true:=by decide +kernel
theorem yK:text 9223372036854775808=[45,48]:=by
 rw [wF];unfold vE
 rw [aD (by rw [kX.1];decide),aD (by rw [kX.1];decide),aH kX.1]
 unfold sign
 rw [aH kX.2]
 rfl
end Sh
theorem iJ.ok:KO 9 (iJ.c) iJ.sg :=
 yn fun ti fZ h=>⟨bJ.c,bJ.ok,by
  unfold iJ.c at h
  split at h
  ·obtain ⟨h1,h2⟩:=h
   obtain rfl:=aN h1
   subst h2
   unfold bJ.c
   show _=_
   rw [Sh.nZ.1,Sh.nZ.2.1,Sh.nZ.2.2]
  ·exact h.elim⟩
theorem kC.ok:KO 11 (kC.c) kC.sg :=
 yn fun ti fZ h=>⟨cR.c,cR.ok,by
  unfold kC.c at h
  split at h
  ·obtain ⟨h1,h2⟩:=h
   subst h2
   unfold cR.c
   show _=_
   rcases aN h1 with rfl | rfl
   ·rw [Sh.As];rfl
   ·rw [Sh.yK];rfl
  ·exact h.elim⟩
theorem dk.goal:dk.F=some [.b true]:=by
 refine dk.dZ ?_
 intro v1 h1 v2 h2 v3 h3 v4 h4 v5 h5
 subst h1 h2 h3 h4
 rw [h5];rfl
end Go.Eng
namespace Go.Eng
open Go.Proofs
theorem dk.fit:([]:List TV).length=dk.d.np∧dk.d.run (cZ nrGl dk.env) []=some (([(.b (true))]:List TV)++dk.d.eu.map fun qq=>([]:List TV).getD qq.1 .dead) :=
 ⟨by kernel_rfl,Eq.trans (b:=dk.F ) (by kernel_rfl) (Eq.trans (dk.goal ) (by kernel_rfl))⟩
theorem dk.ok:KO 8 (dk.c) dk.sg :=
 meets (l:=dk.env) (all_cons iJ.ok (all_cons kC.ok all_nil)) dk.eJ (by
   intro ins outs h
   unfold dk.c at h
   split at h
   ·cases h;exact dk.fit
   ·exact h.elim)
end Go.Eng
namespace Go.Eng
open Nr (iD sh top)
namespace Sh
noncomputable def tb (b:UInt64):bT:=if (Nr.split b).1=3 then [73,110,102,105,110,105,116,121] else if (Nr.split b).1=1 then [48] else laid (dg b).1 (dg b).2.1
end Sh
end Go.Eng
set_option maxRecDepth 100000
namespace Go.Eng
open Go.Proofs
noncomputable section
def sh_ShortLeast.sg:c7:={}
def sh_ShortLeast.c:eW:=fun l=>match l with
 | [.s d,.i .i64 x] => .ok [(.b (true))]
 | _ => .err
def sh_ShortLeast.env:EV:=[(8,(dk.c,dk.sg)),(9,(bJ.c,bJ.sg)),(13,(cV.c,cV.sg))]
def sh_ShortLeast.E:eD:=cZ nrGl sh_ShortLeast.env
def sh_ShortLeast.m1:TM := .seq (oS [oV 0 40,oK (.k .vT) [40] [41],oI .gtr 41 (.i .i64 0) 42,oV 42 43,oG 43 true (oV 0 44),oG 43 true (oX (.k .si) [.s 44,.c (.i .i64 0)] [45]),oG 43 true (oI .eql 45 (.u8 48) 46),oP 43 46 false 47] (.cond (.s 47) [] .skip (.exit 0))) none (.block 1 [] (.eZ [oV 0 48,oX (.k (.ss true false)) [.s 48,.c (.i .i64 1)] [49],oV 49 0]))
def sh_ShortLeast.m2:TM := .seq (oS [oV 0 50,oK (.k .vT) [50] [51],oI .gtr 51 (.i .i64 0) 52,oV 52 53,oG 53 true (oV 0 54),oG 53 true (oV 0 55),oG 53 true (oK (.k .vT) [55] [56]),oG 53 true (oI .sub 56 (.i .i64 1) 57),oG 53 true (oK (.k .si) [54,57] [58]),oG 53 true (oI .eql 58 (.u8 48) 59),oP 53 59 false 60] (.cond (.s 60) [] .skip (.exit 2))) none (.block 3 [] (.eZ [oV 0 61,oV 0 62,oK (.k .vT) [62] [63],oI .sub 63 (.i .i64 1) 64,oK (.k (.ss false true)) [61,64] [65],oV 65 0]))
def sh_ShortLeast.m:TM:=oS [oW (.b false) 4] (.seq (oS [oC 8 0 1 [] 12,oK (.k (.un .not)) [12] [13]] (.cond (.s 13) [] (oS [oW (.b false) 4] .ret) .skip)) none (.seq (oS [oV 0 14,oK (.k .vT) [14] [15],oI .gtr 15 (.i .i64 300) 16] (.cond (.s 16) [] (oS [oW (.b true) 4] .ret) .skip)) none (oS [oV 0 18,oV 1 19,oC 13 2 2 [18,19] 20,oV 20 17,oE 0 17 21,oE 1 17 22,oV 21 5,oV 22 6] (oS [oV 5 24,oC 9 1 3 [24] 25,oV 25 23,oE 0 23 26,oE 1 23 27,oE 2 23 28,oV 26 7,oV 27 8,oV 28 9] (.seq (oS [oV 6 29,oK (.k (.un .not)) [29] [30],oV 30 31,oG 31 false (oV 5 32),oG 31 false (oI .eql 32 (.u64 0) 33),oX (.k .pick) [.s 31,.c (.b true),.s 33] [34]] (.cond (.s 34) [] (oS [oV 9 35,oK (.k (.un .not)) [35] [36],oV 36 37,oG 37 false (oV 6 38),oX (.k .pick) [.s 37,.c (.b true),.s 38] [39],oV 39 4] .ret) .skip)) none (.seq (.block 0 [] (.loop [0,5,7,8,9] [] sh_ShortLeast.m1)) none (.seq (.block 2 [] (.loop [0,5,7,8,9] [] sh_ShortLeast.m2)) none (oS [oV 7 67,oV 8 68,oC 13 2 2 [67,68] 69,oV 69 66,oE 0 66 70,oE 1 66 71,oV 70 10,oV 71 11] (oS [oV 9 72,oV 72 73,oG 73 true (oV 7 74),oG 73 true (oK (.k .vT) [74] [75]),oG 73 true (oV 0 76),oG 73 true (oK (.k .vT) [76] [77]),oG 73 true (oB .leq 75 77 78),oP 73 78 false 79,oV 79 80,oG 80 true (oV 11 81),oP 80 81 false 82,oV 82 83,oG 83 true (oV 10 84),oG 83 true (oV 5 85),oG 83 true (oB .eql 84 85 86),oP 83 86 false 87,oV 87 4] .ret)))))))))
def sh_ShortLeast.d:gS:=D0 2 sh_ShortLeast.m [.t 4]
def sh_ShortLeast.F (d:bT) (x:Int):OT:=sh_ShortLeast.d.run sh_ShortLeast.E [(.s d),(.i .i64 x)]
def sh_ShortLeast.k1:dI (List TV):=fG (ev _ sh_ShortLeast.E (.seq (.block 2 [] (.loop [0,5,7,8,9] [] sh_ShortLeast.m2)) none (oS [oV 7 67,oV 8 68,oC 13 2 2 [67,68] 69,oV 69 66,oE 0 66 70,oE 1 66 71,oV 70 10,oV 71 11] (oS [oV 9 72,oV 72 73,oG 73 true (oV 7 74),oG 73 true (oK (.k .vT) [74] [75]),oG 73 true (oV 0 76),oG 73 true (oK (.k .vT) [76] [77]),oG 73 true (oB .leq 75 77 78),oP 73 78 false 79,oV 79 80,oG 80 true (oV 11 81),oP 80 81 false 82,oV 82 83,oG 83 true (oV 10 84),oG 83 true (oV 5 85),oG 83 true (oB .eql 84 85 86),oP 83 86 false 87,oV 87 4] .ret)))) none (fK sh_ShortLeast.d)
def sh_ShortLeast.k2:dI (List TV):=fG (ev _ sh_ShortLeast.E (oS [oV 7 67,oV 8 68,oC 13 2 2 [67,68] 69,oV 69 66,oE 0 66 70,oE 1 66 71,oV 70 10,oV 71 11] (oS [oV 9 72,oV 72 73,oG 73 true (oV 7 74),oG 73 true (oK (.k .vT) [74] [75]),oG 73 true (oV 0 76),oG 73 true (oK (.k .vT) [76] [77]),oG 73 true (oB .leq 75 77 78),oP 73 78 false 79,oV 79 80,oG 80 true (oV 11 81),oP 80 81 false 82,oV 82 83,oG 83 true (oV 10 84),oG 83 true (oV 5 85),oG 83 true (oB .eql 84 85 86),oP 83 86 false 87,oV 87 4] .ret))) none (fK sh_ShortLeast.d)
def sh_ShortLeast.l1 (x0:bT) (x1:UInt64) (x2:bT) (x3:Int) (x4:Bool):OT:=eg (fQ _ sh_ShortLeast.E sh_ShortLeast.m1) jU [0,5,7,8,9] (cS [0,5,7,8,9] [(.s x0),(.u64 x1),(.s x2),(.i .i64 x3),(.b x4)]) (cG 0 sh_ShortLeast.k1)
def sh_ShortLeast.l2 (x0:bT) (x1:UInt64) (x2:bT) (x3:Int) (x4:Bool):OT:=eg (fQ _ sh_ShortLeast.E sh_ShortLeast.m2) jU [0,5,7,8,9] (cS [0,5,7,8,9] [(.s x0),(.u64 x1),(.s x2),(.i .i64 x3),(.b x4)]) (cG 2 sh_ShortLeast.k2)
theorem sh_ShortLeast.dE (x0:bT) (x1:UInt64) (x2:bT) (x3:Int) (x4:Bool) {ρ:OT} (K:∀(v1:UInt8) (h1:v1=(List.getD x0 ((0:Int)).toNat (0:UInt8))) (v2:Bool) (h2:v2=(cond (decide ((0:Int)<((x0).length:Int))) (decide (v1=(48:UInt8))) false)) (v3:bT) (h3:v3=(List.drop ((1:Int)).toNat x0)),ck (!(decide ((0:Int)<((x0).length:Int))) || ((decide ((0:Int)<((x0).length:Int)))&&(cq (0:Int) (x0).length))) (ck (!(decide ((0:Int)<((x0).length:Int))) || (decide ((0:Int)<((x0).length:Int)))) (ck (!(decide ((0:Int)<((x0).length:Int))) || (decide ((0:Int)<((x0).length:Int)))) (cond v2
  (ck (gN (1:Int) (x0).length (x0).length) (sh_ShortLeast.l1 v3 x1 x2 x3 x4))
  (sh_ShortLeast.l2 x0 x1 x2 x3 x4))))=ρ):sh_ShortLeast.l1 x0 x1 x2 x3 x4=ρ:=((de _ _ _ _ _ _).trans (by kernel_rfl)).trans (K _ rfl _ rfl _ rfl)
theorem sh_ShortLeast.jw (x0:bT) (x1:UInt64) (x2:bT) (x3:Int) (x4:Bool) {ρ:OT} (K:∀(v1:Int) (h1:v1=(IntKind.i64.wrap (((x0).length:Int) - (1:Int)))) (v2:UInt8) (h2:v2=(List.getD x0 (v1).toNat (0:UInt8))) (v3:Bool) (h3:v3=(cond (decide ((0:Int)<((x0).length:Int))) (decide (v2=(48:UInt8))) false)) (v4:Bool) (h4:v4=(cond x4 (decide (((x2).length:Int)≤((x0).length:Int))) false)) (v5:Bool) (h5:v5=(cond v4 ((Nr.read x2 x3).isSome) false)) (v6:Bool) (h6:v6=(cond v5 (decide ((Nr.pat (Nr.read x2 x3))=x1)) false)),ck (!(decide ((0:Int)<((x0).length:Int))) || (decide ((0:Int)<((x0).length:Int)))) (ck (!(decide ((0:Int)<((x0).length:Int))) || (decide ((0:Int)<((x0).length:Int)))) (ck (!(decide ((0:Int)<((x0).length:Int))) || (((decide ((0:Int)<((x0).length:Int)))&&(decide ((0:Int)<((x0).length:Int))))&&(cq v1 (x0).length))) (ck (!(decide ((0:Int)<((x0).length:Int))) || (decide ((0:Int)<((x0).length:Int)))) (ck (!(decide ((0:Int)<((x0).length:Int))) || (decide ((0:Int)<((x0).length:Int)))) (cond v3
  (ck (gN 0 v1 (x0).length) (sh_ShortLeast.l2 (List.take (v1).toNat x0) x1 x2 x3 x4))
  (ck (!x4 || x4) (ck (!x4 || x4) (ck (!x4 || (x4&&x4)) (ck (!x4 || x4) (ck (!v4 || v4) (ck (!v5 || (v5&&v5)) (ck (!v5 || v5) (some [(.b v6)])))))))))))))=ρ):sh_ShortLeast.l2 x0 x1 x2 x3 x4=ρ:=((de _ _ _ _ _ _).trans (by kernel_rfl)).trans (K _ rfl _ rfl _ rfl _ rfl _ rfl _ rfl)
theorem sh_ShortLeast.dZ (d:bT) (x:Int) {ρ:OT} (K:∀(v1:bT) (h1:v1=((Sh.dg ((Nr.pat (Nr.read d x)))).1)) (v2:Int) (h2:v2=((Sh.dg ((Nr.pat (Nr.read d x)))).2.1)) (v3:Bool) (h3:v3=((Sh.dg ((Nr.pat (Nr.read d x)))).2.2)) (v4:Bool) (h4:v4=(cond (!((Nr.read d x).isSome)) true (decide ((Nr.pat (Nr.read d x))=(0:UInt64))))) (v5:Bool) (h5:v5=(cond (!v3) true ((Nr.read d x).isSome))),cond (!(true))
  (some [(.b false)])
  (cond (decide ((300:Int)<((d).length:Int)))
  (some [(.b true)])
  (ck (!(!(!((Nr.read d x).isSome))) || (!(!((Nr.read d x).isSome)))) (ck ((!((Nr.read d x).isSome)) || (!(!((Nr.read d x).isSome)))) (cond v4
  (ck ((!v3) || (!(!v3))) (some [(.b v5)]))
  (sh_ShortLeast.l1 d (Nr.pat (Nr.read d x)) v1 v2 v3)))))=ρ):sh_ShortLeast.F d x=ρ:=Eq.trans (by kernel_rfl) (K _ rfl _ rfl _ rfl _ rfl _ rfl)
theorem sh_ShortLeast.eJ:CK 5 sh_ShortLeast.env sh_ShortLeast.d:=fE (by kernel_rfl)
end
end Go.Eng
namespace Go.Eng
open Go.IntWalk
open Nr (top)
structure cd (p:Nat) (s:bT):Prop where
 d:s.all Nr.eo=true
 r:∃k,Nr.rd (Nr.num s) k=some p
 l:s.length≤300
theorem cd.ne {p:Nat} {s:bT} (h:cd p s) (hp:0<p):s≠[]:=by
 rintro rfl
 obtain ⟨k,hk⟩:=h.r
 rw [show Nr.num []=0 from rfl,Nr.HW] at hk
 injection hk with hk;omega
theorem cd.front {p:Nat} {r:bT} (h:cd p (48 :: r)):cd p r:=by
 obtain ⟨k,hk⟩:=h.r
 have hd:=h.d
 have hl:=h.l
 rw [List.all_cons,aa] at hd
 rw [aP] at hl
 refine ⟨hd.2,⟨k,?_⟩,by omega⟩
 rw [Nr.qF,show ((48:UInt8).toNat - 48)=0 by decide,Nat.zero_mul,Nat.zero_add] at hk
 exact hk
theorem cd.back {p:Nat} {a:bT} (h:cd p (a++[48])):cd p a:=by
 obtain ⟨k,hk⟩:=h.r
 have hd:=h.d
 have hl:=h.l
 rw [List.all_append,aa] at hd
 rw [aq,az] at hl
 refine ⟨hd.1,⟨k+(1:Nat),?_⟩,by omega⟩
 have e1:Nr.num (a++[48])=Nr.num a * 10 ^ 1:=Sh.p9 a 1
 rw [e1,Nr.oh] at hk
 exact hk
theorem sh_ShortLeast.lF (p:Nat) (hp:0<p) (ht:p≤top) (u:UInt64) (hu:u=UInt64.ofNat p) :
  ∀(m:Nat) (s:bT),s.length=m→cd p s→s.getD 0 0≠48→sh_ShortLeast.l2 s u (Sh.digits p).1 (Sh.digits p).2 true=some [.b true]:=by
 intro m
 induction m with
 | zero=>intro s hs h _;exact (h.ne hp (List.length_eq_zero_iff.1 hs)).elim
 | succ m ih =>
  intro s hs h h0
  have hl:=h.l
  refine sh_ShortLeast.jw _ _ _ _ _ ?_
  intro v1 g1 v2 g2 v3 g3 v4 g4 v5 g5 v6 g6
  have e1:v1=(s.length:Int) - 1:=by rw [g1,i64_in _ (by omega)]
  have RU:(!(decide ((0:Int)<(s.length:Int))) || (((decide ((0:Int)<(s.length:Int)))&&(decide ((0:Int)<(s.length:Int))))&&(cq v1 s.length)))=true:=by
   rw [ae (show (0:Int)<(s.length:Int) by omega),ir.2 (by omega)];rfl
  have VN:(!v5 || (v5&&v5))=true:=by cases v5 <;> rfl
  rw [RU,VN]
  simp only [GM,da]
  rcases Nr.gD s with e | ⟨a,c,e⟩
  ·rw [e] at hs;simp at hs
  ·have Pd:s.length=a.length+1:=by rw [e,aq,az]
   have e2:v2=c:=by
    rw [g2,e1,Pd,show (((a.length+1:Nat):Int) - 1).toNat=a.length by omega,e]
    exact iu a c 0
   have e3:v3=decide (c=48):=by rw [g3,e2,ae (show (0:Int)<(s.length:Int) by omega),aF]
   by_cases hc:c=48
   ·rw [e3,ae hc,aF,bD (kg (Int.le_refl 0) (by omega) (by omega)),e1,Pd,show (((a.length+1:Nat):Int) - 1).toNat=a.length by omega,e,List.take_left]
    subst hc
    rw [e] at h h0
    have ha:=h.back
    refine ih a (by omega) ha ?_
    rw [ak,List.getElem?_append_left (List.length_pos_iff.2 (ha.ne hp)),←ak] at h0
    exact h0
   ·have l7:Nr.nS s:=by
     refine ⟨⟨h.d,.inr ?_⟩,h.ne hp,h0⟩
     rw [e,List.getLast?_append,List.getLast?_singleton]
     simpa using hc
    obtain ⟨k,hk⟩:=h.r
    have hle:=Sh.least hp l7 hk
    have hr:=Sh.zO hp ht
    have e4:v4=true:=by rw [g4,aF,ae (by omega)]
    have e5:v5=true:=by rw [g5,e4,hr];rfl
    have e6:v6=true:=by rw [g6,e5,aF,hr,hu];exact ae rfl
    rw [e3,af hc,ax,e6];rfl
theorem sh_ShortLeast.fo (p:Nat) (hp:0<p) (ht:p≤top) (u:UInt64) (hu:u=UInt64.ofNat p) :
  ∀s:bT,cd p s→sh_ShortLeast.l1 s u (Sh.digits p).1 (Sh.digits p).2 true=some [.b true]:=by
 intro s
 induction s with
 | nil=>intro h;exact (h.ne hp rfl).elim
 | cons c r ih =>
  intro h
  have hl:=h.l
  rw [aP] at hl
  refine sh_ShortLeast.dE _ _ _ _ _ ?_
  intro v1 g1 v2 g2 v3 g3
  have nO:(0:Int)<((c :: r).length:Int):=by rw [aP];omega
  have RU:(!(decide ((0:Int)<((c :: r).length:Int))) || ((decide ((0:Int)<((c :: r).length:Int)))&&(cq (0:Int) (c :: r).length)))=true:=by
   rw [ae nO,ir.2 (by rw [aP];omega)];rfl
  rw [RU]
  simp only [GM,da]
  have e1:v1=c:=g1
  have e3:v3=r:=g3
  have e2:v2=decide (c=48):=by rw [g2,e1,ae nO,aF]
  by_cases hc:c=48
  ·rw [e2,ae hc,aF,bD (kg (by decide) (by rw [aP];omega) (Int.le_refl _)),e3]
   subst hc
   exact ih h.front
  ·rw [e2,af hc,ax]
   exact sh_ShortLeast.lF p hp ht u hu _ _ rfl h hc
theorem sh_ShortLeast.goal (d:bT) (x:Int):sh_ShortLeast.F d x=some [.b true]:=by
 refine sh_ShortLeast.dZ _ _ ?_
 intro v1 h1 v2 h2 v3 h3 v4 h4 v5 h5
 rw [a8,ax]
 by_cases c:(300:Int)<(d.length:Int)
 ·rw [ae c,aF]
 ·rw [af c,ax]
  have zero:Nr.pat (Nr.read d x)=0→v3=false:=fun e=>by
   rw [h3,e]
   exact (Gv (by decide)).2.2
  cases hr:Nr.read d x with
  | none =>
   have e3:v3=false:=zero (by rw [hr];rfl)
   rw [hr] at h4 h5
   have e4:v4=true:=h4
   have e5:v5=true:=by rw [h5,e3];rfl
   rw [e4,e3,e5];rfl
  | some p =>
   rw [hr] at h4 h5 zero
   have hv:Nr.valid d=true∧Nr.rd (Nr.num d) (x - d.length)=some p:=by
    unfold Nr.read at hr
    split at hr
    ·rename_i q;exact ⟨q,hr⟩
    ·cases hr
   have ht:p≤top:=Nr.Ib hv.2
   by_cases hp:p=0
   ·subst hp
    have e3:v3=false:=zero rfl
    have e4:v4=true:=h4
    have e5:v5=true:=by rw [h5,e3];rfl
    rw [e4,e3,e5];rfl
   ·have hp:0<p:=Nat.pos_of_ne_zero hp
    have ht2:p≤9218868437227405311:=ht
    have hn:(Nr.pat (some p)).toNat=p:=by
     show (UInt64.ofNat p).toNat=p
     rw [ji];omega
    have hm:Sh.iE (Nr.pat (some p))=p:=by unfold Sh.iE;rw [hn];omega
    have hk:(Nr.split (Nr.pat (some p))).1=2:=ym (by rw [hm];exact hp) (by rw [hm];exact ht)
    obtain ⟨z1,z2,z3⟩:=xG hk
    rw [hr] at h1 h2 h3
    rw [hm] at z1 z2
    have e1:v1=(Sh.digits p).1:=h1.trans z1
    have e2:v2=(Sh.digits p).2:=h2.trans z2
    have e3:v3=true:=h3.trans z3
    have nr:¬Nr.pat (some p)=(0:UInt64):=fun e=>by
     rw [e] at hn
     have:(0:Nat)=p:=hn
     omega
    have e4:v4=false:=by rw [h4,af nr];rfl
    rw [e4,ax,e1,e2,e3]
    have l6:=hv.1
    unfold Nr.valid at l6
    rw [aa] at l6
    exact sh_ShortLeast.fo p hp ht _ rfl d ⟨l6.2,⟨_,hv.2⟩,by omega⟩
end Go.Eng
namespace Go.Eng
open Go.Proofs
theorem sh_ShortLeast.fit (d:bT) (x:Int):([.s d,.i .i64 x]:List TV).length=sh_ShortLeast.d.np∧sh_ShortLeast.d.run (cZ nrGl sh_ShortLeast.env) [.s d,.i .i64 x]=some (([(.b (true))]:List TV)++sh_ShortLeast.d.eu.map fun qq=>([.s d,.i .i64 x]:List TV).getD qq.1 .dead) :=
 ⟨by kernel_rfl,Eq.trans (b:=sh_ShortLeast.F d x) (by kernel_rfl) (Eq.trans (sh_ShortLeast.goal d x) (by kernel_rfl))⟩
theorem sh_ShortLeast.ok:KO 5 (sh_ShortLeast.c) sh_ShortLeast.sg :=
 meets (l:=sh_ShortLeast.env) (all_cons dk.ok (all_cons bJ.ok (all_cons cV.ok all_nil))) sh_ShortLeast.eJ (by
   intro ins outs h
   unfold sh_ShortLeast.c at h
   split at h
   ·cases h;exact sh_ShortLeast.fit _ _
   ·exact h.elim)
end Go.Eng
