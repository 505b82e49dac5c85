/- Texts of my own, one behind the other: SnOK, ShA, ShQA, ShOKA, ShFlip, ShLForm, ShQForm, ShOKForm. -/
import Derived.Test.YtfomkedednklbaaGreatDoorT5
set_option linter.unusedVariables false
set_option linter.unusedSimpArgs false
namespace Go.Eng
open Go.Proofs
theorem bQ.fit (x:UInt16):([.u16 x]:List TV).length=bQ.d.np∧bQ.d.run (cZ nrGl bQ.env) [.u16 x]=some (([(.i .i64 ((Nt.bits (x).toNat:Int)))]:List TV)++bQ.d.eu.map fun qq=>([.u16 x]:List TV).getD qq.1 .dead) :=
 ⟨by kernel_rfl,Eq.trans (b:=bQ.F x) (by kernel_rfl) (Eq.trans (bQ.goal x) (by kernel_rfl))⟩
theorem bQ.ok:KO 44 (bQ.c) bQ.sg :=
 meets (l:=bQ.env) all_nil bQ.eJ (by
   intro ins outs h
   unfold bQ.c at h
   split at h
   ·cases h;exact bQ.fit _
   ·exact h.elim)
theorem bits_Len64.fit (x:UInt64):([.u64 x]:List TV).length=bits_Len64.d.np∧bits_Len64.d.run (cZ nrGl bits_Len64.env) [.u64 x]=some (([(.i .i64 ((Nt.bits (x).toNat:Int)))]:List TV)++bits_Len64.d.eu.map fun qq=>([.u64 x]:List TV).getD qq.1 .dead) :=
 ⟨by kernel_rfl,Eq.trans (b:=bits_Len64.F x) (by kernel_rfl) (Eq.trans (bits_Len64.goal x) (by kernel_rfl))⟩
theorem bits_Len64.ok:KO 97 (bits_Len64.c) bits_Len64.sg :=
 meets (l:=bits_Len64.env) all_nil bits_Len64.eJ (by
   intro ins outs h
   unfold bits_Len64.c at h
   split at h
   ·cases h;exact bits_Len64.fit _
   ·exact h.elim)
theorem dq.fit (kU:Nat) (kT:Nat) (hp:(Gz.sT ((kU,kT):Cx) 33554432)=true):([.c (.complex .f64 kU kT)]:List TV).length=dq.d.np∧dq.d.run (cZ nrGl dq.env) [.c (.complex .f64 kU kT)]=some (([(.b (true))]:List TV)++dq.d.eu.map fun qq=>([.c (.complex .f64 kU kT)]:List TV).getD qq.1 .dead) :=
 ⟨by kernel_rfl,Eq.trans (b:=dq.F ((kU,kT):Cx)) (by kernel_rfl) (Eq.trans (dq.goal ((kU,kT):Cx) hp) (by kernel_rfl))⟩
theorem dq.ok:KO 116 (dq.c) dq.sg :=
 meets (l:=dq.env) (all_cons gz.ok all_nil) dq.eJ (by
   intro ins outs h
   unfold dq.c at h
   split at h
   ·obtain ⟨hp,rfl⟩:=h;exact dq.fit _ _ hp
   ·exact h.elim)
theorem fP.fit (x:Int) (y:Int) (hp:(decide (-33554432≤x∧x≤33554432∧-33554432≤y∧y≤33554432))=true):([.i .i64 x,.i .i64 y]:List TV).length=fP.d.np∧fP.d.run (cZ nrGl fP.env) [.i .i64 x,.i .i64 y]=some (([(.c (.complex .f64 (((Fl.ofInt x,Fl.ofInt y):Cx)).1 (((Fl.ofInt x,Fl.ofInt y):Cx)).2))]:List TV)++fP.d.eu.map fun qq=>([.i .i64 x,.i .i64 y]:List TV).getD qq.1 .dead) :=
 ⟨by kernel_rfl,Eq.trans (b:=fP.F x y) (by kernel_rfl) (Eq.trans (fP.goal x y hp) (by kernel_rfl))⟩
theorem fP.ok:KO 114 (fP.c) fP.sg :=
 meets (l:=fP.env) all_nil fP.eJ (by
   intro ins outs h
   unfold fP.c at h
   split at h
   ·obtain ⟨hp,rfl⟩:=h;exact fP.fit _ _ hp
   ·exact h.elim)
theorem db.fit (kU:Nat) (kT:Nat) (hp:(Gz.sT ((kU,kT):Cx) 4503599627370496)=true):([.c (.complex .f64 kU kT)]:List TV).length=db.d.np∧db.d.run (cZ nrGl db.env) [.c (.complex .f64 kU kT)]=some (([(.i .i64 (Fl.toInt (((kU,kT):Cx)).1)),(.i .i64 (Fl.toInt (((kU,kT):Cx)).2)),(.b (true))]:List TV)++db.d.eu.map fun qq=>([.c (.complex .f64 kU kT)]:List TV).getD qq.1 .dead) :=
 ⟨by kernel_rfl,Eq.trans (b:=db.F ((kU,kT):Cx)) (by kernel_rfl) (Eq.trans (db.goal ((kU,kT):Cx) hp) (by kernel_rfl))⟩
theorem db.ok:KO 94 (db.c) db.sg :=
 meets (l:=db.env) (all_cons gz.ok all_nil) db.eJ (by
   intro ins outs h
   unfold db.c at h
   split at h
   ·obtain ⟨hp,rfl⟩:=h;exact db.fit _ _ hp
   ·exact h.elim)
theorem dO.fit (kU:Nat) (kT:Nat) (k:Int) (hp:(Gz.sT ((kU,kT):Cx) 1125899906842624&&decide (-100≤k∧k≤100))=true):([.c (.complex .f64 kU kT),.i .i64 k]:List TV).length=dO.d.np∧dO.d.run (cZ nrGl dO.env) [.c (.complex .f64 kU kT),.i .i64 k]=some (([(.c (.complex .f64 (Gz.ta ((kU,kT):Cx) k).1 (Gz.ta ((kU,kT):Cx) k).2))]:List TV)++dO.d.eu.map fun qq=>([.c (.complex .f64 kU kT),.i .i64 k]:List TV).getD qq.1 .dead) :=
 ⟨by kernel_rfl,Eq.trans (b:=dO.F ((kU,kT):Cx) k) (by kernel_rfl) (Eq.trans (dO.goal ((kU,kT):Cx) k hp) (by kernel_rfl))⟩
theorem dO.ok:KO 131 (dO.c) dO.sg :=
 meets (l:=dO.env) (all_cons gz.ok all_nil) dO.eJ (by
   intro ins outs h
   unfold dO.c at h
   split at h
   ·obtain ⟨hp,rfl⟩:=h;exact dO.fit _ _ _ hp
   ·exact h.elim)
theorem dr.fit (kU:Nat) (kT:Nat) (DH:Nat) (DG:Nat) (hp:(Gz.sT ((kU,kT):Cx) 33554432&&Gz.sT ((DH,DG):Cx) 33554432)=true):([.c (.complex .f64 kU kT),.c (.complex .f64 DH DG)]:List TV).length=dr.d.np∧dr.d.run (cZ nrGl dr.env) [.c (.complex .f64 kU kT),.c (.complex .f64 DH DG)]=some (([(.c (.complex .f64 (Gz.mul ((kU,kT):Cx) ((DH,DG):Cx)).1 (Gz.mul ((kU,kT):Cx) ((DH,DG):Cx)).2))]:List TV)++dr.d.eu.map fun qq=>([.c (.complex .f64 kU kT),.c (.complex .f64 DH DG)]:List TV).getD qq.1 .dead) :=
 ⟨by kernel_rfl,Eq.trans (b:=dr.F ((kU,kT):Cx) ((DH,DG):Cx)) (by kernel_rfl) (Eq.trans (dr.goal ((kU,kT):Cx) ((DH,DG):Cx) hp) (by kernel_rfl))⟩
theorem dr.ok:KO 92 (dr.c) dr.sg :=
 meets (l:=dr.env) (all_cons dq.ok all_nil) dr.eJ (by
   intro ins outs h
   unfold dr.c at h
   split at h
   ·obtain ⟨hp,rfl⟩:=h;exact dr.fit _ _ _ _ hp
   ·exact h.elim)
theorem dJ.fit (x:Nat) (hp:(Gz.Iz x)=true):([.c (.float .f64 x)]:List TV).length=dJ.d.np∧dJ.d.run (cZ nrGl dJ.env) [.c (.float .f64 x)]=some (([(.b (true))]:List TV)++dJ.d.eu.map fun qq=>([.c (.float .f64 x)]:List TV).getD qq.1 .dead) :=
 ⟨by kernel_rfl,Eq.trans (b:=dJ.F x) (by kernel_rfl) (Eq.trans (dJ.goal x hp) (by kernel_rfl))⟩
theorem dJ.ok:KO 129 (dJ.c) dJ.sg :=
 meets (l:=dJ.env) (all_cons cM.ok all_nil) dJ.eJ (by
   intro ins outs h
   unfold dJ.c at h
   split at h
   ·obtain ⟨hp,rfl⟩:=h;exact dJ.fit _ hp
   ·exact h.elim)
theorem df.fit (dW:Nat) (dV:Nat) (dU:Nat) (dT:Nat) (dS:Nat) (dR:Nat) (dQ:Nat) (dP:Nat) (hp:(Gz.vc (Qd.mk ((dW,dV):Cx) ((dU,dT):Cx) ((dS,dR):Cx) ((dQ,dP):Cx)) 1125899906842624)=true):([.ag [.c (.complex .f64 dW dV),.c (.complex .f64 dU dT),.c (.complex .f64 dS dR),.c (.complex .f64 dQ dP)]]:List TV).length=df.d.np∧df.d.run (cZ nrGl df.env) [.ag [.c (.complex .f64 dW dV),.c (.complex .f64 dU dT),.c (.complex .f64 dS dR),.c (.complex .f64 dQ dP)]]=some (([(.b (true))]:List TV)++df.d.eu.map fun qq=>([.ag [.c (.complex .f64 dW dV),.c (.complex .f64 dU dT),.c (.complex .f64 dS dR),.c (.complex .f64 dQ dP)]]:List TV).getD qq.1 .dead) :=
 ⟨by kernel_rfl,Eq.trans (b:=df.F (Qd.mk ((dW,dV):Cx) ((dU,dT):Cx) ((dS,dR):Cx) ((dQ,dP):Cx))) (by kernel_rfl) (Eq.trans (df.goal (Qd.mk ((dW,dV):Cx) ((dU,dT):Cx) ((dS,dR):Cx) ((dQ,dP):Cx)) hp) (by kernel_rfl))⟩
theorem df.ok:KO 117 (df.c) df.sg :=
 meets (l:=df.env) (all_cons dJ.ok all_nil) df.eJ (by
   intro ins outs h
   unfold df.c at h
   split at h
   ·obtain ⟨hp,rfl⟩:=h;exact df.fit _ _ _ _ _ _ _ _ hp
   ·exact h.elim)
theorem bX.fit (dW:Nat) (dV:Nat) (dU:Nat) (dT:Nat) (dS:Nat) (dR:Nat) (dQ:Nat) (dP:Nat) (w:Int) (hp:(Gz.vc (Qd.mk ((dW,dV):Cx) ((dU,dT):Cx) ((dS,dR):Cx) ((dQ,dP):Cx)) 1125899906842624&&decide (w=1∨w=-1))=true):([.ag [.c (.complex .f64 dW dV),.c (.complex .f64 dU dT),.c (.complex .f64 dS dR),.c (.complex .f64 dQ dP)],.i .i64 w]:List TV).length=bX.d.np∧bX.d.run (cZ nrGl bX.env) [.ag [.c (.complex .f64 dW dV),.c (.complex .f64 dU dT),.c (.complex .f64 dS dR),.c (.complex .f64 dQ dP)],.i .i64 w]=some (([(.ag (Qd.cells (Gz.me (Qd.mk ((dW,dV):Cx) ((dU,dT):Cx) ((dS,dR):Cx) ((dQ,dP):Cx)) w)))]:List TV)++bX.d.eu.map fun qq=>([.ag [.c (.complex .f64 dW dV),.c (.complex .f64 dU dT),.c (.complex .f64 dS dR),.c (.complex .f64 dQ dP)],.i .i64 w]:List TV).getD qq.1 .dead) :=
 ⟨by kernel_rfl,Eq.trans (b:=bX.F (Qd.mk ((dW,dV):Cx) ((dU,dT):Cx) ((dS,dR):Cx) ((dQ,dP):Cx)) w) (by kernel_rfl) (Eq.trans (bX.goal (Qd.mk ((dW,dV):Cx) ((dU,dT):Cx) ((dS,dR):Cx) ((dQ,dP):Cx)) w hp) (by kernel_rfl))⟩
theorem bX.ok:KO 118 (bX.c) bX.sg :=
 meets (l:=bX.env) (all_cons dO.ok all_nil) bX.eJ (by
   intro ins outs h
   unfold bX.c at h
   split at h
   ·obtain ⟨hp,rfl⟩:=h;exact bX.fit _ _ _ _ _ _ _ _ _ hp
   ·exact h.elim)
theorem dK.fit (dW:Nat) (dV:Nat) (dU:Nat) (dT:Nat) (dS:Nat) (dR:Nat) (dQ:Nat) (dP:Nat) (hp:(Gz.vc (Qd.mk ((dW,dV):Cx) ((dU,dT):Cx) ((dS,dR):Cx) ((dQ,dP):Cx)) 1125899906842624)=true):([.ag [.c (.complex .f64 dW dV),.c (.complex .f64 dU dT),.c (.complex .f64 dS dR),.c (.complex .f64 dQ dP)]]:List TV).length=dK.d.np∧dK.d.run (cZ nrGl dK.env) [.ag [.c (.complex .f64 dW dV),.c (.complex .f64 dU dT),.c (.complex .f64 dS dR),.c (.complex .f64 dQ dP)]]=some (([(.ag (Qd.cells (Gz.me (Qd.mk ((dW,dV):Cx) ((dU,dT):Cx) ((dS,dR):Cx) ((dQ,dP):Cx)) 1)))]:List TV)++dK.d.eu.map fun qq=>([.ag [.c (.complex .f64 dW dV),.c (.complex .f64 dU dT),.c (.complex .f64 dS dR),.c (.complex .f64 dQ dP)]]:List TV).getD qq.1 .dead) :=
 ⟨by kernel_rfl,Eq.trans (b:=dK.F (Qd.mk ((dW,dV):Cx) ((dU,dT):Cx) ((dS,dR):Cx) ((dQ,dP):Cx))) (by kernel_rfl) (Eq.trans (dK.goal (Qd.mk ((dW,dV):Cx) ((dU,dT):Cx) ((dS,dR):Cx) ((dQ,dP):Cx)) hp) (by kernel_rfl))⟩
theorem dK.ok:KO 115 (dK.c) dK.sg :=
 meets (l:=dK.env) (all_cons df.ok (all_cons bX.ok all_nil)) dK.eJ (by
   intro ins outs h
   unfold dK.c at h
   split at h
   ·obtain ⟨hp,rfl⟩:=h;exact dK.fit _ _ _ _ _ _ _ _ hp
   ·exact h.elim)
theorem cQ.fit (dW:Nat) (dV:Nat) (dU:Nat) (dT:Nat) (dS:Nat) (dR:Nat) (dQ:Nat) (dP:Nat) (hp:(Gz.vc (Qd.mk ((dW,dV):Cx) ((dU,dT):Cx) ((dS,dR):Cx) ((dQ,dP):Cx)) 1125899906842624&&Gz.JP (Qd.mk ((dW,dV):Cx) ((dU,dT):Cx) ((dS,dR):Cx) ((dQ,dP):Cx)))=true):([.ag [.c (.complex .f64 dW dV),.c (.complex .f64 dU dT),.c (.complex .f64 dS dR),.c (.complex .f64 dQ dP)]]:List TV).length=cQ.d.np∧cQ.d.run (cZ nrGl cQ.env) [.ag [.c (.complex .f64 dW dV),.c (.complex .f64 dU dT),.c (.complex .f64 dS dR),.c (.complex .f64 dQ dP)]]=some (([(.ag (Qd.cells (Gz.back (Qd.mk ((dW,dV):Cx) ((dU,dT):Cx) ((dS,dR):Cx) ((dQ,dP):Cx))))),(.b (true))]:List TV)++cQ.d.eu.map fun qq=>([.ag [.c (.complex .f64 dW dV),.c (.complex .f64 dU dT),.c (.complex .f64 dS dR),.c (.complex .f64 dQ dP)]]:List TV).getD qq.1 .dead) :=
 ⟨by kernel_rfl,Eq.trans (b:=cQ.F (Qd.mk ((dW,dV):Cx) ((dU,dT):Cx) ((dS,dR):Cx) ((dQ,dP):Cx))) (by kernel_rfl) (Eq.trans (cQ.goal (Qd.mk ((dW,dV):Cx) ((dU,dT):Cx) ((dS,dR):Cx) ((dQ,dP):Cx)) hp) (by kernel_rfl))⟩
theorem cQ.ok:KO 93 (cQ.c) cQ.sg :=
 meets (l:=cQ.env) (all_cons db.ok (all_cons df.ok (all_cons bX.ok all_nil))) cQ.eJ (by
   intro ins outs h
   unfold cQ.c at h
   split at h
   ·obtain ⟨hp,rfl⟩:=h;exact cQ.fit _ _ _ _ _ _ _ _ hp
   ·exact h.elim)
theorem bZ.fit (l:List Int) (hp:(decide ((l).length≤256)&&Gz.gY l)=true):([.sl .is l]:List TV).length=bZ.d.np∧bZ.d.run (cZ nrGl bZ.env) [.sl .is l]=some (([(.b (true))]:List TV)++bZ.d.eu.map fun qq=>([.sl .is l]:List TV).getD qq.1 .dead) :=
 ⟨by kernel_rfl,Eq.trans (b:=bZ.F l) (by kernel_rfl) (Eq.trans (bZ.goal l hp) (by kernel_rfl))⟩
theorem bZ.ok:KO 90 (bZ.c) bZ.sg :=
 meets (l:=bZ.env) all_nil bZ.eJ (by
   intro ins outs h
   unfold bZ.c at h
   split at h
   ·obtain ⟨hp,rfl⟩:=h;exact bZ.fit _ hp
   ·exact h.elim)
theorem bP.fit (l:List Int) (hp:(decide ((l).length≤256)&&Gz.gY l)=true):([.sl .is l]:List TV).length=bP.d.np∧bP.d.run (cZ nrGl bP.env) [.sl .is l]=some (([(.sl .qd (Gz.gj l))]:List TV)++bP.d.eu.map fun qq=>([.sl .is l]:List TV).getD qq.1 .dead) :=
 ⟨by kernel_rfl,Eq.trans (b:=bP.F l) (by kernel_rfl) (Eq.trans (bP.goal l hp) (by kernel_rfl))⟩
theorem bP.ok:KO 91 (bP.c) bP.sg :=
 meets (l:=bP.env) (all_cons fP.ok (all_cons dK.ok all_nil)) bP.eJ (by
   intro ins outs h
   unfold bP.c at h
   split at h
   ·obtain ⟨hp,rfl⟩:=h;exact bP.fit _ hp
   ·exact h.elim)
theorem bK.fit (a:List Int) (b:List Int) (hp:(decide ((a).length≤256∧(b).length≤256)&&(Gz.gY a&&Gz.gY b))=true):([.sl .is a,.sl .is b]:List TV).length=bK.d.np∧bK.d.run (cZ nrGl bK.env) [.sl .is a,.sl .is b]=some (([(.sl .is (Gz.conv a b)),(.b (true))]:List TV)++bK.d.eu.map fun qq=>([.sl .is a,.sl .is b]:List TV).getD qq.1 .dead) :=
 ⟨by kernel_rfl,Eq.trans (b:=bK.F a b) (by kernel_rfl) (Eq.trans (bK.goal a b hp) (by kernel_rfl))⟩
theorem bK.ok:KO 62 (bK.c) bK.sg :=
 meets (l:=bK.env) (all_cons bZ.ok (all_cons bP.ok (all_cons dr.ok (all_cons cQ.ok (all_cons db.ok all_nil))))) bK.eJ (by
   intro ins outs h
   unfold bK.c at h
   split at h
   ·obtain ⟨hp,rfl⟩:=h;exact bK.fit _ _ hp
   ·exact h.elim)
theorem cH.fit (a:List UInt16) (hp:(decide ((a).length≤1099511627776))=true):([.sl .ws a]:List TV).length=cH.d.np∧cH.d.run (cZ nrGl cH.env) [.sl .ws a]=some (([(.sl .ws (Nt.of (Nt.val a)))]:List TV)++cH.d.eu.map fun qq=>([.sl .ws a]:List TV).getD qq.1 .dead) :=
 ⟨by kernel_rfl,Eq.trans (b:=cH.F a) (by kernel_rfl) (Eq.trans (cH.goal a hp) (by kernel_rfl))⟩
theorem cH.ok:KO 64 (cH.c) cH.sg :=
 meets (l:=cH.env) all_nil cH.eJ (by
   intro ins outs h
   unfold cH.c at h
   split at h
   ·obtain ⟨hp,rfl⟩:=h;exact cH.fit _ hp
   ·exact h.elim)
theorem dG.fit (a:List UInt16) (hp:(decide ((a).length≤1099511627776))=true):([.sl .ws a]:List TV).length=dG.d.np∧dG.d.run (cZ nrGl dG.env) [.sl .ws a]=some (([(.b (Nt.is a))]:List TV)++dG.d.eu.map fun qq=>([.sl .ws a]:List TV).getD qq.1 .dead) :=
 ⟨by kernel_rfl,Eq.trans (b:=dG.F a) (by kernel_rfl) (Eq.trans (dG.goal a hp) (by kernel_rfl))⟩
theorem dG.ok:KO 42 (dG.c) dG.sg :=
 meets (l:=dG.env) all_nil dG.eJ (by
   intro ins outs h
   unfold dG.c at h
   split at h
   ·obtain ⟨hp,rfl⟩:=h;exact dG.fit _ hp
   ·exact h.elim)
theorem dA.fit (v:UInt64):([.u64 v]:List TV).length=dA.d.np∧dA.d.run (cZ nrGl dA.env) [.u64 v]=some (([(.sl .ws (Nt.of (v).toNat))]:List TV)++dA.d.eu.map fun qq=>([.u64 v]:List TV).getD qq.1 .dead) :=
 ⟨by kernel_rfl,Eq.trans (b:=dA.F v) (by kernel_rfl) (Eq.trans (dA.goal v) (by kernel_rfl))⟩
theorem dA.ok:KO 18 (dA.c) dA.sg :=
 meets (l:=dA.env) all_nil dA.eJ (by
   intro ins outs h
   unfold dA.c at h
   split at h
   ·cases h;exact dA.fit _
   ·exact h.elim)
theorem cD.fit (a:List UInt16) (hp:(decide (Nt.is a=true∧(a).length≤4))=true):([.sl .ws a]:List TV).length=cD.d.np∧cD.d.run (cZ nrGl cD.env) [.sl .ws a]=some (([(.u64 (UInt64.ofNat (Nt.val a))),(.b (true))]:List TV)++cD.d.eu.map fun qq=>([.sl .ws a]:List TV).getD qq.1 .dead) :=
 ⟨by kernel_rfl,Eq.trans (b:=cD.F a) (by kernel_rfl) (Eq.trans (cD.goal a hp) (by kernel_rfl))⟩
theorem cD.ok:KO 95 (cD.c) cD.sg :=
 meets (l:=cD.env) (all_cons dG.ok all_nil) cD.eJ (by
   intro ins outs h
   unfold cD.c at h
   split at h
   ·obtain ⟨hp,rfl⟩:=h;exact cD.fit _ hp
   ·exact h.elim)
theorem dF.fit (a:List UInt16) (hp:(Nt.is a)=true):([.sl .ws a]:List TV).length=dF.d.np∧dF.d.run (cZ nrGl dF.env) [.sl .ws a]=some (([(.i .i64 ((Nt.bits (Nt.val a):Int)))]:List TV)++dF.d.eu.map fun qq=>([.sl .ws a]:List TV).getD qq.1 .dead) :=
 ⟨by kernel_rfl,Eq.trans (b:=dF.F a) (by kernel_rfl) (Eq.trans (dF.goal a hp) (by kernel_rfl))⟩
theorem dF.ok:KO 20 (dF.c) dF.sg :=
 meets (l:=dF.env) (all_cons dG.ok (all_cons bQ.ok all_nil)) dF.eJ (by
   intro ins outs h
   unfold dF.c at h
   split at h
   ·obtain ⟨hp,rfl⟩:=h;exact dF.fit _ hp
   ·exact h.elim)
theorem di.fit (a:List UInt16) (b:List UInt16) (hp:(decide ((a).length≤1099511627776∧(b).length≤1099511627776)&&(Nt.norm a&&Nt.norm b))=true):([.sl .ws a,.sl .ws b]:List TV).length=di.d.np∧di.d.run (cZ nrGl di.env) [.sl .ws a,.sl .ws b]=some (([(.i .i64 (Nt.cmp (Nt.val a) (Nt.val b)))]:List TV)++di.d.eu.map fun qq=>([.sl .ws a,.sl .ws b]:List TV).getD qq.1 .dead) :=
 ⟨by kernel_rfl,Eq.trans (b:=di.F a b) (by kernel_rfl) (Eq.trans (di.goal a b hp) (by kernel_rfl))⟩
theorem di.ok:KO 74 (di.c) di.sg :=
 meets (l:=di.env) all_nil di.eJ (by
   intro ins outs h
   unfold di.c at h
   split at h
   ·obtain ⟨hp,rfl⟩:=h;exact di.fit _ _ hp
   ·exact h.elim)
theorem dY.fit (a:List UInt16) (b:List UInt16) (hp:(Nt.is a&&Nt.is b)=true):([.sl .ws a,.sl .ws b]:List TV).length=dY.d.np∧dY.d.run (cZ nrGl dY.env) [.sl .ws a,.sl .ws b]=some (([(.i .i64 (Nt.cmp (Nt.val a) (Nt.val b)))]:List TV)++dY.d.eu.map fun qq=>([.sl .ws a,.sl .ws b]:List TV).getD qq.1 .dead) :=
 ⟨by kernel_rfl,Eq.trans (b:=dY.F a b) (by kernel_rfl) (Eq.trans (dY.goal a b hp) (by kernel_rfl))⟩
theorem dY.ok:KO 46 (dY.c) dY.sg :=
 meets (l:=dY.env) (all_cons dG.ok (all_cons di.ok all_nil)) dY.eJ (by
   intro ins outs h
   unfold dY.c at h
   split at h
   ·obtain ⟨hp,rfl⟩:=h;exact dY.fit _ _ hp
   ·exact h.elim)
theorem bR.fit (a:List UInt16) (hp:(decide ((a).length≤256))=true):([.sl .ws a]:List TV).length=bR.d.np∧bR.d.run (cZ nrGl bR.env) [.sl .ws a]=some (([(.sl .is ((a).map fun d=>(d.toNat:Int)))]:List TV)++bR.d.eu.map fun qq=>([.sl .ws a]:List TV).getD qq.1 .dead) :=
 ⟨by kernel_rfl,Eq.trans (b:=bR.F a) (by kernel_rfl) (Eq.trans (bR.goal a hp) (by kernel_rfl))⟩
theorem bR.ok:KO 63 (bR.c) bR.sg :=
 meets (l:=bR.env) all_nil bR.eJ (by
   intro ins outs h
   unfold bR.c at h
   split at h
   ·obtain ⟨hp,rfl⟩:=h;exact bR.fit _ hp
   ·exact h.elim)
theorem cI.fit (a:List UInt16) (b:List UInt16) (hp:(Nt.is a&&Nt.is b)=true):([.sl .ws a,.sl .ws b]:List TV).length=cI.d.np∧cI.d.run (cZ nrGl cI.env) [.sl .ws a,.sl .ws b]=some (([(.sl .ws (Nt.of (Nt.val a * Nt.val b)))]:List TV)++cI.d.eu.map fun qq=>([.sl .ws a,.sl .ws b]:List TV).getD qq.1 .dead) :=
 ⟨by kernel_rfl,Eq.trans (b:=cI.F a b) (by kernel_rfl) (Eq.trans (cI.goal a b hp) (by kernel_rfl))⟩
theorem cI.ok:KO 34 (cI.c) cI.sg :=
 meets (l:=cI.env) (all_cons dG.ok (all_cons bK.ok (all_cons bR.ok (all_cons cH.ok all_nil)))) cI.eJ (by
   intro ins outs h
   unfold cI.c at h
   split at h
   ·obtain ⟨hp,rfl⟩:=h;exact cI.fit _ _ hp
   ·exact h.elim)
theorem dh.fit (a:List UInt16) (d:UInt16) (hp:(decide ((a).length≤1000000∧d≠0))=true):([.sl .ws a,.u16 d]:List TV).length=dh.d.np∧dh.d.run (cZ nrGl dh.env) [.sl .ws a,.u16 d]=some (([(.sl .ws (Nt.of (Nt.val a / (d).toNat))),(.u16 (UInt16.ofNat (Nt.val a % (d).toNat)))]:List TV)++dh.d.eu.map fun qq=>([.sl .ws a,.u16 d]:List TV).getD qq.1 .dead) :=
 ⟨by kernel_rfl,Eq.trans (b:=dh.F a d) (by kernel_rfl) (Eq.trans (dh.goal a d hp) (by kernel_rfl))⟩
theorem dh.ok:KO 76 (dh.c) dh.sg :=
 meets (l:=dh.env) (all_cons cH.ok all_nil) dh.eJ (by
   intro ins outs h
   unfold dh.c at h
   split at h
   ·obtain ⟨hp,rfl⟩:=h;exact dh.fit _ _ hp
   ·exact h.elim)
theorem dv.fit (a:List UInt16) (n:Int) (hp:(decide ((a).length≤1000000∧0≤n∧n<16)&&Nt.norm a)=true):([.sl .ws a,.i .i64 n]:List TV).length=dv.d.np∧dv.d.run (cZ nrGl dv.env) [.sl .ws a,.i .i64 n]=some (([(.sl .ws (Nt.of (Nt.val a * 2 ^ (n).toNat)))]:List TV)++dv.d.eu.map fun qq=>([.sl .ws a,.i .i64 n]:List TV).getD qq.1 .dead) :=
 ⟨by kernel_rfl,Eq.trans (b:=dv.F a n) (by kernel_rfl) (Eq.trans (dv.goal a n hp) (by kernel_rfl))⟩
theorem dv.ok:KO 43 (dv.c) dv.sg :=
 meets (l:=dv.env) all_nil dv.eJ (by
   intro ins outs h
   unfold dv.c at h
   split at h
   ·obtain ⟨hp,rfl⟩:=h;exact dv.fit _ _ hp
   ·exact h.elim)
theorem cz.fit (a:List UInt16) (n:Int) (hp:(decide ((a).length≤1000000∧0≤n∧n<16))=true):([.sl .ws a,.i .i64 n]:List TV).length=cz.d.np∧cz.d.run (cZ nrGl cz.env) [.sl .ws a,.i .i64 n]=some (([(.sl .ws (Nt.of (Nt.val a / 2 ^ (n).toNat)))]:List TV)++cz.d.eu.map fun qq=>([.sl .ws a,.i .i64 n]:List TV).getD qq.1 .dead) :=
 ⟨by kernel_rfl,Eq.trans (b:=cz.F a n) (by kernel_rfl) (Eq.trans (cz.goal a n hp) (by kernel_rfl))⟩
theorem cz.ok:KO 78 (cz.c) cz.sg :=
 meets (l:=cz.env) (all_cons cH.ok all_nil) cz.eJ (by
   intro ins outs h
   unfold cz.c at h
   split at h
   ·obtain ⟨hp,rfl⟩:=h;exact cz.fit _ _ hp
   ·exact h.elim)
theorem bG.fit (u:List UInt16) (v:List UInt16) (hp:(decide ((u).length≤1000000∧2≤(v).length∧(v).length≤(u).length∧32768≤((v).getLast?.getD 0).toNat))=true):([.sl .ws u,.sl .ws v]:List TV).length=bG.d.np∧bG.d.run (cZ nrGl bG.env) [.sl .ws u,.sl .ws v]=some (([(.sl .ws (Nt.fix ((u).length+1 - (v).length) (Nt.val u / Nt.val v))),(.sl .ws (Nt.fix (v).length (Nt.val u % Nt.val v)))]:List TV)++bG.d.eu.map fun qq=>([.sl .ws u,.sl .ws v]:List TV).getD qq.1 .dead) :=
 ⟨by kernel_rfl,Eq.trans (b:=bG.F u v) (by kernel_rfl) (Eq.trans (bG.goal u v hp) (by kernel_rfl))⟩
theorem bG.ok:KO 77 (bG.c) bG.sg :=
 meets (l:=bG.env) all_nil bG.eJ (by
   intro ins outs h
   unfold bG.c at h
   split at h
   ·obtain ⟨hp,rfl⟩:=h;exact bG.fit _ _ hp
   ·exact h.elim)
theorem eC.fit (a:List UInt16) (b:List UInt16) (hp:(Nt.is a&&Nt.is b&&decide (b≠[]))=true):([.sl .ws a,.sl .ws b]:List TV).length=eC.d.np∧eC.d.run (cZ nrGl eC.env) [.sl .ws a,.sl .ws b]=some (([(.sl .ws (Nt.of (Nt.val a / Nt.val b))),(.sl .ws (Nt.of (Nt.val a % Nt.val b))),(.b (true))]:List TV)++eC.d.eu.map fun qq=>([.sl .ws a,.sl .ws b]:List TV).getD qq.1 .dead) :=
 ⟨by kernel_rfl,Eq.trans (b:=eC.F a b) (by kernel_rfl) (Eq.trans (eC.goal a b hp) (by kernel_rfl))⟩
theorem eC.ok:KO 47 (eC.c) eC.sg :=
 meets (l:=eC.env) (all_cons dA.ok (all_cons dG.ok (all_cons dv.ok (all_cons bQ.ok (all_cons cH.ok (all_cons di.ok (all_cons jd.ok (all_cons dh.ok (all_cons bG.ok (all_cons cz.ok all_nil)))))))))) eC.eJ (by
   intro ins outs h
   unfold eC.c at h
   split at h
   ·obtain ⟨hp,rfl⟩:=h;exact eC.fit _ _ hp
   ·exact h.elim)
theorem bg_Up.fit (a:List UInt16) (n:Int) (hp:(decide (0≤n∧n≤4096)&&Nt.is a)=true):([.sl .ws a,.i .i64 n]:List TV).length=bg_Up.d.np∧bg_Up.d.run (cZ nrGl bg_Up.env) [.sl .ws a,.i .i64 n]=some (([(.sl .ws (Nt.of (Nt.val a * 2 ^ (n).toNat)))]:List TV)++bg_Up.d.eu.map fun qq=>([.sl .ws a,.i .i64 n]:List TV).getD qq.1 .dead) :=
 ⟨by kernel_rfl,Eq.trans (b:=bg_Up.F a n) (by kernel_rfl) (Eq.trans (bg_Up.goal a n hp) (by kernel_rfl))⟩
theorem bg_Up.ok:KO 19 (bg_Up.c) bg_Up.sg :=
 meets (l:=bg_Up.env) (all_cons dG.ok (all_cons dv.ok all_nil)) bg_Up.eJ (by
   intro ins outs h
   unfold bg_Up.c at h
   split at h
   ·obtain ⟨hp,rfl⟩:=h;exact bg_Up.fit _ _ hp
   ·exact h.elim)
theorem cw.fit (a:List UInt16) (b:Int) (c:Int) (hp:(decide ((a).length≤1000000∧1≤b∧b≤65535∧0≤c∧c≤65535)&&Nt.norm a)=true):([.sl .ws a,.i .i64 b,.i .i64 c]:List TV).length=cw.d.np∧cw.d.run (cZ nrGl cw.env) [.sl .ws a,.i .i64 b,.i .i64 c]=some (([(.sl .ws (Nt.of (Nt.val a * (b).toNat+(c).toNat)))]:List TV)++cw.d.eu.map fun qq=>([.sl .ws a,.i .i64 b,.i .i64 c]:List TV).getD qq.1 .dead) :=
 ⟨by kernel_rfl,Eq.trans (b:=cw.F a b c) (by kernel_rfl) (Eq.trans (cw.goal a b c hp) (by kernel_rfl))⟩
theorem cw.ok:KO 61 (cw.c) cw.sg :=
 meets (l:=cw.env) all_nil cw.eJ (by
   intro ins outs h
   unfold cw.c at h
   split at h
   ·obtain ⟨hp,rfl⟩:=h;exact cw.fit _ _ _ hp
   ·exact h.elim)
theorem cA.fit (b:Int) (e:Int) (hp:(decide (2≤b∧b≤65535∧0≤e∧e≤1000∧(b).toNat ^ (e).toNat<2 ^ 4096))=true):([.i .i64 b,.i .i64 e]:List TV).length=cA.d.np∧cA.d.run (cZ nrGl cA.env) [.i .i64 b,.i .i64 e]=some (([(.sl .ws (Nt.of ((b).toNat ^ (e).toNat))),(.b (true))]:List TV)++cA.d.eu.map fun qq=>([.i .i64 b,.i .i64 e]:List TV).getD qq.1 .dead) :=
 ⟨by kernel_rfl,Eq.trans (b:=cA.F b e) (by kernel_rfl) (Eq.trans (cA.goal b e hp) (by kernel_rfl))⟩
theorem cA.ok:KO 33 (cA.c) cA.sg :=
 meets (l:=cA.env) (all_cons dA.ok (all_cons dG.ok (all_cons cw.ok all_nil))) cA.eJ (by
   intro ins outs h
   unfold cA.c at h
   split at h
   ·obtain ⟨hp,rfl⟩:=h;exact cA.fit _ _ hp
   ·exact h.elim)
theorem cE.fit (s:bT) (hp:(decide (1≤(s).length∧(s).length≤300∧(s).getD 0 0≠48)&&(s).all Nr.eo)=true):([.s s]:List TV).length=cE.d.np∧cE.d.run (cZ nrGl cE.env) [.s s]=some (([(.sl .ws (Nt.of (Nr.num s))),(.b (true))]:List TV)++cE.d.eu.map fun qq=>([.s s]:List TV).getD qq.1 .dead) :=
 ⟨by kernel_rfl,Eq.trans (b:=cE.F s) (by kernel_rfl) (Eq.trans (cE.goal s hp) (by kernel_rfl))⟩
theorem cE.ok:KO 32 (cE.c) cE.sg :=
 meets (l:=cE.env) (all_cons dG.ok (all_cons cw.ok all_nil)) cE.eJ (by
   intro ins outs h
   unfold cE.c at h
   split at h
   ·obtain ⟨hp,rfl⟩:=h;exact cE.fit _ hp
   ·exact h.elim)
theorem cW.fit (n:Bool) (m:UInt64) (e:Int) (hp:(decide (-1100≤e∧e≤2000))=true):([.b n,.u64 m,.i .i64 e]:List TV).length=cW.d.np∧cW.d.run (cZ nrGl cW.env) [.b n,.u64 m,.i .i64 e]=some (([(.u64 (Nr.pat (Nr.join n (m).toNat e))),(.b ((Nr.join n (m).toNat e).isSome))]:List TV)++cW.d.eu.map fun qq=>([.b n,.u64 m,.i .i64 e]:List TV).getD qq.1 .dead) :=
 ⟨by kernel_rfl,Eq.trans (b:=cW.F n m e) (by kernel_rfl) (Eq.trans (cW.goal n m e hp) (by kernel_rfl))⟩
theorem cW.ok:KO 66 (cW.c) cW.sg :=
 meets (l:=cW.env) (all_cons mb.ok (all_cons bits_Len64.ok all_nil)) cW.eJ (by
   intro ins outs h
   unfold cW.c at h
   split at h
   ·obtain ⟨hp,rfl⟩:=h;exact cW.fit _ _ _ hp
   ·exact h.elim)
theorem bW.fit (a:List UInt16) (b:List UInt16) (e:Int) (hp:(Nt.is a&&Nt.is b&&decide (-4096≤e∧e≤4096∧0<Nt.val b∧Nr.iR (Nt.val a) e<2 ^ 4090∧Nr.iC (Nt.val b) e<2 ^ 4090∧Nr.iR (Nt.val a) e<2 ^ 60 * Nr.iC (Nt.val b) e))=true):([.sl .ws a,.sl .ws b,.i .i64 e]:List TV).length=bW.d.np∧bW.d.run (cZ nrGl bW.env) [.sl .ws a,.sl .ws b,.i .i64 e]=some (([(.u64 (UInt64.ofNat (Nr.um (Nr.iR (Nt.val a) e) (Nr.iC (Nt.val b) e)))),(.b (Nr.lx (Nr.iR (Nt.val a) e) (Nr.iC (Nt.val b) e)))]:List TV)++bW.d.eu.map fun qq=>([.sl .ws a,.sl .ws b,.i .i64 e]:List TV).getD qq.1 .dead) :=
 ⟨by kernel_rfl,Eq.trans (b:=bW.F a b e) (by kernel_rfl) (Eq.trans (bW.goal a b e hp) (by kernel_rfl))⟩
theorem bW.ok:KO 65 (bW.c) bW.sg :=
 meets (l:=bW.env) (all_cons bg_Up.ok (all_cons dY.ok (all_cons eC.ok (all_cons cD.ok all_nil)))) bW.eJ (by
   intro ins outs h
   unfold bW.c at h
   split at h
   ·obtain ⟨hp,rfl⟩:=h;exact bW.fit _ _ _ hp
   ·exact h.elim)
theorem cJ.fit (a:List UInt16) (b:List UInt16) (hp:(Nt.is a&&Nt.is b&&decide (0<Nt.val a∧0<Nt.val b∧Nt.val a<2 ^ 1100∧Nt.val b<2 ^ 2200))=true):([.sl .ws a,.sl .ws b]:List TV).length=cJ.d.np∧cJ.d.run (cZ nrGl cJ.env) [.sl .ws a,.sl .ws b]=some (([(.u64 (Nr.pat (Nr.gf (Nt.val a) (Nt.val b)))),(.b ((Nr.gf (Nt.val a) (Nt.val b)).isSome))]:List TV)++cJ.d.eu.map fun qq=>([.sl .ws a,.sl .ws b]:List TV).getD qq.1 .dead) :=
 ⟨by kernel_rfl,Eq.trans (b:=cJ.F a b) (by kernel_rfl) (Eq.trans (cJ.goal a b hp) (by kernel_rfl))⟩
theorem cJ.ok:KO 35 (cJ.c) cJ.sg :=
 meets (l:=cJ.env) (all_cons dF.ok (all_cons bW.ok (all_cons cW.ok all_nil))) cJ.eJ (by
   intro ins outs h
   unfold cJ.c at h
   split at h
   ·obtain ⟨hp,rfl⟩:=h;exact cJ.fit _ _ hp
   ·exact h.elim)
theorem cV.fit (d:bT) (x:Int):([.s d,.i .i64 x]:List TV).length=cV.d.np∧cV.d.run (cZ nrGl cV.env) [.s d,.i .i64 x]=some (([(.u64 (Nr.pat (Nr.read d x))),(.b ((Nr.read d x).isSome))]:List TV)++cV.d.eu.map fun qq=>([.s d,.i .i64 x]:List TV).getD qq.1 .dead) :=
 ⟨by kernel_rfl,Eq.trans (b:=cV.F d x) (by kernel_rfl) (Eq.trans (cV.goal d x) (by kernel_rfl))⟩
theorem cV.ok:KO 13 (cV.c) cV.sg :=
 meets (l:=cV.env) (all_cons dA.ok (all_cons lT.ok (all_cons gT.ok (all_cons fy.ok (all_cons cE.ok (all_cons cA.ok (all_cons cI.ok (all_cons cJ.ok all_nil)))))))) cV.eJ (by
   intro ins outs h
   unfold cV.c at h
   split at h
   ·cases h;exact cV.fit _ _
   ·exact h.elim)
theorem dn.fit (b:UInt64):([.u64 b]:List TV).length=dn.d.np∧dn.d.run (cZ nrGl dn.env) [.u64 b]=some (([(.i .i64 ((Nr.split b).1)),(.b ((Nr.split b).2.1)),(.u64 ((Nr.split b).2.2.1)),(.i .i64 ((Nr.split b).2.2.2))]:List TV)++dn.d.eu.map fun qq=>([.u64 b]:List TV).getD qq.1 .dead) :=
 ⟨by kernel_rfl,Eq.trans (b:=dn.F b) (by kernel_rfl) (Eq.trans (dn.goal b) (by kernel_rfl))⟩
theorem dn.ok:KO 14 (dn.c) dn.sg :=
 meets (l:=dn.env) all_nil dn.eJ (by
   intro ins outs h
   unfold dn.c at h
   split at h
   ·cases h;exact dn.fit _
   ·exact h.elim)
theorem dc.fit (b:UInt64):([.u64 b]:List TV).length=dc.d.np∧dc.d.run (cZ nrGl dc.env) [.u64 b]=some (([(.i .i64 ((Nr.split b).1)),(.b ((Nr.split b).2.1)),(.u64 ((Nr.split b).2.2.1)),(.i .i64 ((Nr.split b).2.2.2))]:List TV)++dc.d.eu.map fun qq=>([.u64 b]:List TV).getD qq.1 .dead) :=
 ⟨by kernel_rfl,Eq.trans (b:=dc.F b) (by kernel_rfl) (Eq.trans (dc.goal b) (by kernel_rfl))⟩
theorem dc.ok:KO 17 (dc.c) dc.sg :=
 meets (l:=dc.env) all_nil dc.eJ (by
   intro ins outs h
   unfold dc.c at h
   split at h
   ·cases h;exact dc.fit _
   ·exact h.elim)
theorem bY.fit (a:List UInt16) (b:List UInt16) (hp:(Nt.is a&&Nt.is b)=true):([.sl .ws a,.sl .ws b]:List TV).length=bY.d.np∧bY.d.run (cZ nrGl bY.env) [.sl .ws a,.sl .ws b]=some (([(.sl .ws (Nt.of (Nt.val a+Nt.val b)))]:List TV)++bY.d.eu.map fun qq=>([.sl .ws a,.sl .ws b]:List TV).getD qq.1 .dead) :=
 ⟨by kernel_rfl,Eq.trans (b:=bY.F a b) (by kernel_rfl) (Eq.trans (bY.goal a b hp) (by kernel_rfl))⟩
theorem bY.ok:KO 49 (bY.c) bY.sg :=
 meets (l:=bY.env) (all_cons dG.ok (all_cons jd.ok all_nil)) bY.eJ (by
   intro ins outs h
   unfold bY.c at h
   split at h
   ·obtain ⟨hp,rfl⟩:=h;exact bY.fit _ _ hp
   ·exact h.elim)
theorem cm.fit (a:List UInt16) (hp:(Nt.is a)=true):([.sl .ws a]:List TV).length=cm.d.np∧cm.d.run (cZ nrGl cm.env) [.sl .ws a]=some (([(.s (Sh.pX (Nt.val a)))]:List TV)++cm.d.eu.map fun qq=>([.sl .ws a]:List TV).getD qq.1 .dead) :=
 ⟨by kernel_rfl,Eq.trans (b:=cm.F a) (by kernel_rfl) (Eq.trans (cm.goal a hp) (by kernel_rfl))⟩
theorem cm.ok:KO 79 (cm.c) cm.sg :=
 meets (l:=cm.env) (all_cons dG.ok (all_cons gM.ok (all_cons dh.ok (all_cons lX.ok (all_cons gV.ok (all_cons lU.ok all_nil)))))) cm.eJ (by
   intro ins outs h
   unfold cm.c at h
   split at h
   ·obtain ⟨hp,rfl⟩:=h;exact cm.fit _ hp
   ·exact h.elim)
theorem dL.fit (v:Int) (hp:(Nr.i64 v)=true):([.i .i64 v]:List TV).length=dL.d.np∧dL.d.run (cZ nrGl dL.env) [.i .i64 v]=some (([(.s (Nr.itoa v))]:List TV)++dL.d.eu.map fun qq=>([.i .i64 v]:List TV).getD qq.1 .dead) :=
 ⟨by kernel_rfl,Eq.trans (b:=dL.F v) (by kernel_rfl) (Eq.trans (dL.goal v hp) (by kernel_rfl))⟩
theorem dL.ok:KO 52 (dL.c) dL.sg :=
 meets (l:=dL.env) (all_cons gx.ok all_nil) dL.eJ (by
   intro ins outs h
   unfold dL.c at h
   split at h
   ·obtain ⟨hp,rfl⟩:=h;exact dL.fit _ hp
   ·exact h.elim)
theorem dD.fit (a:List UInt16) (b:List UInt16) (k:Int) (hp:(Nt.is a&&Nt.is b&&decide (-400≤k∧k≤400∧Nt.val a<2 ^ 1100∧Nt.val b<2 ^ 1100))=true):([.sl .ws a,.sl .ws b,.i .i64 k]:List TV).length=dD.d.np∧dD.d.run (cZ nrGl dD.env) [.sl .ws a,.sl .ws b,.i .i64 k]=some (([(.sl .ws (Nt.of (Sh.tA (Nt.val a) k))),(.sl .ws (Nt.of (Sh.tB (Nt.val b) k)))]:List TV)++dD.d.eu.map fun qq=>([.sl .ws a,.sl .ws b,.i .i64 k]:List TV).getD qq.1 .dead) :=
 ⟨by kernel_rfl,Eq.trans (b:=dD.F a b k) (by kernel_rfl) (Eq.trans (dD.goal a b k hp) (by kernel_rfl))⟩
theorem dD.ok:KO 45 (dD.c) dD.sg :=
 meets (l:=dD.env) (all_cons cA.ok (all_cons cI.ok all_nil)) dD.eJ (by
   intro ins outs h
   unfold dD.c at h
   split at h
   ·obtain ⟨hp,rfl⟩:=h;exact dD.fit _ _ _ hp
   ·exact h.elim)
theorem dm.fit (a:List UInt16) (b:List UInt16) (x:Int) (hp:(Nt.is a&&Nt.is b&&decide (-400≤x∧x≤400∧Nt.val a<2 ^ 1100∧Nt.val b<2 ^ 1100))=true):([.sl .ws a,.sl .ws b,.i .i64 x]:List TV).length=dm.d.np∧dm.d.run (cZ nrGl dm.env) [.sl .ws a,.sl .ws b,.i .i64 x]=some (([(.b (decide (Sh.tB (Nt.val b) (-x)≤Sh.tA (Nt.val a) (-x))))]:List TV)++dm.d.eu.map fun qq=>([.sl .ws a,.sl .ws b,.i .i64 x]:List TV).getD qq.1 .dead) :=
 ⟨by kernel_rfl,Eq.trans (b:=dm.F a b x) (by kernel_rfl) (Eq.trans (dm.goal a b x hp) (by kernel_rfl))⟩
theorem dm.ok:KO 21 (dm.c) dm.sg :=
 meets (l:=dm.env) (all_cons dD.ok (all_cons dY.ok all_nil)) dm.eJ (by
   intro ins outs h
   unfold dm.c at h
   split at h
   ·obtain ⟨hp,rfl⟩:=h;exact dm.fit _ _ _ hp
   ·exact h.elim)
theorem dj.fit (b:UInt64) (a:List UInt16) (p:Int) (hp:(Nt.is a&&decide (-1000≤p∧p≤1000∧0<Nt.val a∧Nt.val a<10 ^ 200))=true):([.u64 b,.sl .ws a,.i .i64 p]:List TV).length=dj.d.np∧dj.d.run (cZ nrGl dj.env) [.u64 b,.sl .ws a,.i .i64 p]=some (([(.s (((Sh.iX (b).toNat (Nt.val a) p).getD ([],0)).1)),(.i .i64 (((Sh.iX (b).toNat (Nt.val a) p).getD ([],0)).2)),(.b ((Sh.iX (b).toNat (Nt.val a) p).isSome))]:List TV)++dj.d.eu.map fun qq=>([.u64 b,.sl .ws a,.i .i64 p]:List TV).getD qq.1 .dead) :=
 ⟨by kernel_rfl,Eq.trans (b:=dj.F b a p) (by kernel_rfl) (Eq.trans (dj.goal b a p hp) (by kernel_rfl))⟩
theorem dj.ok:KO 48 (dj.c) dj.sg :=
 meets (l:=dj.env) (all_cons cV.ok (all_cons fy.ok (all_cons cm.ok all_nil))) dj.eJ (by
   intro ins outs h
   unfold dj.c at h
   split at h
   ·obtain ⟨hp,rfl⟩:=h;exact dj.fit _ _ _ hp
   ·exact h.elim)
theorem dM.fit (b:UInt64) (p:List UInt16) (q:List UInt16) (x:Int) (n:Int) (hp:(Nt.is p&&Nt.is q&&Sh.ng (Nt.val p) (Nt.val q) x n)=true):([.u64 b,.sl .ws p,.sl .ws q,.i .i64 x,.i .i64 n]:List TV).length=dM.d.np∧dM.d.run (cZ nrGl dM.env) [.u64 b,.sl .ws p,.sl .ws q,.i .i64 x,.i .i64 n]=some (([(.s (((Sh.mJ (b).toNat (Nt.val p) (Nt.val q) x n).getD ([],0)).1)),(.i .i64 (((Sh.mJ (b).toNat (Nt.val p) (Nt.val q) x n).getD ([],0)).2)),(.b ((Sh.mJ (b).toNat (Nt.val p) (Nt.val q) x n).isSome))]:List TV)++dM.d.eu.map fun qq=>([.u64 b,.sl .ws p,.sl .ws q,.i .i64 x,.i .i64 n]:List TV).getD qq.1 .dead) :=
 ⟨by kernel_rfl,Eq.trans (b:=dM.F b p q x n) (by kernel_rfl) (Eq.trans (dM.goal b p q x n hp) (by kernel_rfl))⟩
theorem dM.ok:KO 22 (dM.c) dM.sg :=
 meets (l:=dM.env) (all_cons dA.ok (all_cons bg_Up.ok (all_cons dD.ok (all_cons dY.ok (all_cons eC.ok (all_cons dj.ok (all_cons bY.ok all_nil))))))) dM.eJ (by
   intro ins outs h
   unfold dM.c at h
   split at h
   ·obtain ⟨hp,rfl⟩:=h;exact dM.fit _ _ _ _ _ hp
   ·exact h.elim)
theorem bJ.fit (b:UInt64):([.u64 b]:List TV).length=bJ.d.np∧bJ.d.run (cZ nrGl bJ.env) [.u64 b]=some (([(.s ((Sh.dg b).1)),(.i .i64 ((Sh.dg b).2.1)),(.b ((Sh.dg b).2.2))]:List TV)++bJ.d.eu.map fun qq=>([.u64 b]:List TV).getD qq.1 .dead) :=
 ⟨by kernel_rfl,Eq.trans (b:=bJ.F b) (by kernel_rfl) (Eq.trans (bJ.goal b) (by kernel_rfl))⟩
theorem bJ.ok:KO 9 (bJ.c) bJ.sg :=
 meets (l:=bJ.env) (all_cons dc.ok (all_cons dA.ok (all_cons bg_Up.ok (all_cons dF.ok (all_cons dm.ok (all_cons dM.ok all_nil)))))) bJ.eJ (by
   intro ins outs h
   unfold bJ.c at h
   split at h
   ·cases h;exact bJ.fit _
   ·exact h.elim)
theorem cU.fit (d:bT) (x:Int) (hp:(decide (1≤(d).length∧(d).length≤17∧-900≤x∧x≤900))=true):([.s d,.i .i64 x]:List TV).length=cU.d.np∧cU.d.run (cZ nrGl cU.env) [.s d,.i .i64 x]=some (([(.s (Sh.yY d x))]:List TV)++cU.d.eu.map fun qq=>([.s d,.i .i64 x]:List TV).getD qq.1 .dead) :=
 ⟨by kernel_rfl,Eq.trans (b:=cU.F d x) (by kernel_rfl) (Eq.trans (cU.goal d x hp) (by kernel_rfl))⟩
theorem cU.ok:KO 27 (cU.c) cU.sg :=
 meets (l:=cU.env) (all_cons gM.ok (all_cons dL.ok all_nil)) cU.eJ (by
   intro ins outs h
   unfold cU.c at h
   split at h
   ·obtain ⟨hp,rfl⟩:=h;exact cU.fit _ _ hp
   ·exact h.elim)
theorem cR.fit (b:UInt64):([.u64 b]:List TV).length=cR.d.np∧cR.d.run (cZ nrGl cR.env) [.u64 b]=some (([(.s (Sh.text b))]:List TV)++cR.d.eu.map fun qq=>([.u64 b]:List TV).getD qq.1 .dead) :=
 ⟨by kernel_rfl,Eq.trans (b:=cR.F b) (by kernel_rfl) (Eq.trans (cR.goal b) (by kernel_rfl))⟩
theorem cR.ok:KO 11 (cR.c) cR.sg :=
 meets (l:=cR.env) (all_cons bJ.ok (all_cons dc.ok (all_cons cU.ok all_nil))) cR.eJ (by
   intro ins outs h
   unfold cR.c at h
   split at h
   ·cases h;exact cR.fit _
   ·exact h.elim)
end Go.Eng
namespace Go.Eng
open Go.Proofs
noncomputable section
def iJ.sg:c7:={ bO:=3 }
def iJ.c:eW:=fun l=>match l with
 | [.u64 b] => .eM (decide (b=4591870180066957722)) [(.s (([49]:bT))),(.i .i64 ((0:Int))),(.b (true))]
 | _ => .err
def kC.sg:c7:={}
def kC.c:eW:=fun l=>match l with
 | [.u64 b] => .eM (decide (b=4591870180066957722∨b=9223372036854775808)) [(.s ((if b=4591870180066957722 then [48,46,49] else [45,48]:bT)))]
 | _ => .err
def dk.sg:c7:={}
def dk.c:eW:=fun l=>match l with
 | [] => .ok [(.b (true))]
 | _ => .err
def dk.env:EV:=[(9,(iJ.c,iJ.sg)),(11,(kC.c,kC.sg))]
def dk.E:eD:=cZ nrGl dk.env
def dk.m:TM:=oS [oW (.b false) 0] (oS [oX (.k (.call 9 (.plain 1 3))) [.c (.u64 4591870180066957722)] [5],oV 5 4,oE 0 4 6,oE 1 4 7,oE 2 4 8,oV 6 1,oV 7 2,oV 8 3] (oS [oV 1 9,oI .eql 9 (.s ([49]:bT)) 10,oV 10 11,oG 11 true (oV 2 12),oG 11 true (oI .eql 12 (.i .i64 0) 13),oP 11 13 false 14,oV 14 15,oG 15 true (oV 3 16),oP 15 16 false 17,oV 17 18,oG 18 true (oX (.k (.call 11 (.plain 1 1))) [.c (.u64 4591870180066957722)] [19]),oG 18 true (oI .eql 19 (.s ([48,46,49]:bT)) 20),oP 18 20 false 21,oV 21 22,oG 22 true (oX (.k (.call 11 (.plain 1 1))) [.c (.u64 9223372036854775808)] [23]),oG 22 true (oI .eql 23 (.s ([45,48]:bT)) 24),oP 22 24 false 25,oV 25 0] .ret))
def dk.d:gS:=D0 0 dk.m [.t 0]
def dk.F  : OT:=dk.d.run dk.E []
theorem dk.dZ  {ρ:OT} (K:∀(v1:Bool) (h1:v1=(cond (decide ((([49]:bT))=([49]:bT))) (decide (((0:Int))=(0:Int))) false)) (v2:bT) (h2:v2=((if ((4591870180066957722:UInt64))=4591870180066957722 then [48,46,49] else [45,48]:bT))) (v3:Bool) (h3:v3=(cond (cond v1 (true) false) (decide (v2=([48,46,49]:bT))) false)) (v4:bT) (h4:v4=((if ((9223372036854775808:UInt64))=4591870180066957722 then [48,46,49] else [45,48]:bT))) (v5:Bool) (h5:v5=(cond v3 (decide (v4=([45,48]:bT))) false)),ck (decide (((4591870180066957722:UInt64))=4591870180066957722)) (ck (!(decide ((([49]:bT))=([49]:bT))) || (decide ((([49]:bT))=([49]:bT)))) (ck (!(decide ((([49]:bT))=([49]:bT))) || (decide ((([49]:bT))=([49]:bT)))) (ck (!v1 || v1) (ck (!(cond v1 (true) false) || (decide (((4591870180066957722:UInt64))=4591870180066957722∨((4591870180066957722:UInt64))=9223372036854775808))) (ck (!(cond v1 (true) false) || (cond v1 (true) false)) (ck (!(cond v1 (true) false) || (cond v1 (true) false)) (ck (!v3 || (decide (((9223372036854775808:UInt64))=4591870180066957722∨((9223372036854775808:UInt64))=9223372036854775808))) (ck (!v3 || v3) (ck (!v3 || v3) (some [(.b v5)]))))))))))=ρ):dk.F  = ρ:=Eq.trans (by kernel_rfl) (K _ rfl _ rfl _ rfl _ rfl _ rfl)
theorem dk.eJ:CK 8 dk.env dk.d:=fE (by kernel_rfl)
end
end Go.Eng
namespace Go.Eng
open Go.Proofs
theorem gl_two {P:Program} {w:World} {n1 n2:String} {k1 k2:IntKind} {z1 z2:List Int} {g1 g2:Nat} (h1:Lib.TabIs P w n1 k1 z1) (hg1:P.globalNamed n1=some g1) (h2:Lib.TabIs P w n2 k2 z2) (hg2:P.globalNamed n2=some g2):∀n,Rep (Old w) w ((Mi [(g1,vk k1 z1),(g2,vk k2 z2)] n).av) (.pointer (some ⟨n,0,none⟩)):=by
 intro n
 unfold Mi
 cases hb:Nat.beq n g1 with
 | true=>rw [au hb];exact vY h1 hg1
 | false =>
  show Rep (Old w) w ((Mi [(g2,vk k2 z2)] n).av) _
  exact Mh h2 hg2 n
namespace Sh
theorem sF:Nr.iD 4591870180066957722=7205759403792794∧Nr.sh 4591870180066957722=1018:=by decide +kernel
theorem qt:gI 4591870180066957722=7205759403792794∧ff 4591870180066957722=72057594037927936:=by
 unfold gI ff;rw [sF.1,sF.2];decide +kernel
theorem D5:dx 4591870180066957722=0:=by
 have h1:=pG (p:=4591870180066957722) (by decide) (-1)
 have h2:=pG (p:=4591870180066957722) (by decide) 0
 rw [qt.1,qt.2] at h1 h2
 have g1:=h1.1 (by decide +kernel)
 have g2:¬(0:Int)<dx 4591870180066957722:=fun c=>absurd (h2.2 c) (by decide +kernel)
 omega
theorem D4:Nr.rd 1 (-1)=some 4591870180066957722:=by
 unfold Nr.rd
 refine Nr.lh (by decide) (by decide) ?_ (.inr ?_)
 ·unfold Nr.fC;decide +kernel
 ·unfold Nr.fC;decide +kernel
theorem IZ:Nr.dec 1=[49]:=(Nr.lI 1 [49] (by decide) (by decide) (by decide) (by decide)).symm
theorem At:some_ 4591870180066957722 (gI 4591870180066957722) (ff 4591870180066957722) (dx 4591870180066957722) 1=some ([49],0):=by
 rw [qt.1,qt.2,D5]
 have hP:tA 7205759403792794 (1 - 0) / tB 72057594037927936 (1 - 0)=1:=by decide +kernel
 have hR:2 * (tA 7205759403792794 (1 - 0) % tB 72057594037927936 (1 - 0))<tB 72057594037927936 (1 - 0):=by decide +kernel
 have hr:reads 4591870180066957722 1 (0 - 1)=some ([49],0):=by
  rw [show ((0:Int) - 1)=-1 by decide,iL D4,IZ];rfl
 unfold some_
 simp only
 rw [hP,hr,aH ⟨rfl,.inr (.inl hR)⟩]
theorem wG:digits 4591870180066957722=([49],0):=go_hit At
theorem kA:(Nr.split 4591870180066957722).1=2∧(Nr.split 4591870180066957722).2.1=false:=by decide +kernel
theorem Cy:iE 4591870180066957722=4591870180066957722:=by decide +kernel
theorem nZ:(dg 4591870180066957722).1=[49]∧(dg 4591870180066957722).2.1=0∧(dg 4591870180066957722).2.2=true:=by
 obtain ⟨z1,z2,z3⟩:=xG kA.1
 rw [Cy,wG] at z1 z2
 exact ⟨z1,z2,z3⟩
theorem As:text 4591870180066957722=[48,46,49]:=by
 rw [wF];unfold vE
 rw [aD (by rw [kA.1];decide),aD (by rw [kA.1];decide),aD (by rw [kA.1];decide),nZ.1,nZ.2.1]
 unfold sign
 rw [aD (by rw [kA.2];decide)]
 rfl
theorem kX:(Nr.split 9223372036854775808).1=1∧(Nr.split 9223372036854775808).2.1=true:=by decide +kernel
theorem yK:text 9223372036854775808=[45,48]:=by
 rw [wF];unfold vE
 rw [aD (by rw [kX.1];decide),aD (by rw [kX.1];decide),aH kX.1]
 unfold sign
 rw [aH kX.2]
 rfl
end Sh
theorem iJ.ok:KO 9 (iJ.c) iJ.sg :=
 yn fun ti fZ h=>⟨bJ.c,bJ.ok,by
  unfold iJ.c at h
  split at h
  ·obtain ⟨h1,h2⟩:=h
   obtain rfl:=aN h1
   subst h2
   unfold bJ.c
   show _=_
   rw [Sh.nZ.1,Sh.nZ.2.1,Sh.nZ.2.2]
  ·exact h.elim⟩
theorem kC.ok:KO 11 (kC.c) kC.sg :=
 yn fun ti fZ h=>⟨cR.c,cR.ok,by
  unfold kC.c at h
  split at h
  ·obtain ⟨h1,h2⟩:=h
   subst h2
   unfold cR.c
   show _=_
   rcases aN h1 with rfl | rfl
   ·rw [Sh.As];rfl
   ·rw [Sh.yK];rfl
  ·exact h.elim⟩
theorem dk.goal:dk.F=some [.b true]:=by
 refine dk.dZ ?_
 intro v1 h1 v2 h2 v3 h3 v4 h4 v5 h5
 subst h1 h2 h3 h4
 rw [h5];rfl
end Go.Eng
namespace Go.Eng
open Go.Proofs
theorem dk.fit:([]:List TV).length=dk.d.np∧dk.d.run (cZ nrGl dk.env) []=some (([(.b (true))]:List TV)++dk.d.eu.map fun qq=>([]:List TV).getD qq.1 .dead) :=
 ⟨by kernel_rfl,Eq.trans (b:=dk.F ) (by kernel_rfl) (Eq.trans (dk.goal ) (by kernel_rfl))⟩
theorem dk.ok:KO 8 (dk.c) dk.sg :=
 meets (l:=dk.env) (all_cons iJ.ok (all_cons kC.ok all_nil)) dk.eJ (by
   intro ins outs h
   unfold dk.c at h
   split at h
   ·cases h;exact dk.fit
   ·exact h.elim)
end Go.Eng
namespace Go.Eng
open Nr (iD sh top)
namespace Sh
theorem l6 (b:UInt64):(b ^^^ 9223372036854775808).toNat % 9223372036854775808=b.toNat % 9223372036854775808∧(9223372036854775808≤(b ^^^ 9223372036854775808).toNat ↔ ¬9223372036854775808≤b.toNat):=by
 have hb:=b.toNat_lt
 have hv:=(b ^^^ 9223372036854775808).toNat_lt
 have e:(b ^^^ 9223372036854775808).toNat=b.toNat ^^^ 9223372036854775808:=UInt64.toNat_xor ..
 have h1:=@Nat.xor_mod_two_pow b.toNat 9223372036854775808 63
 have h2:=@Nat.xor_div_two_pow b.toNat 9223372036854775808 63
 rw [show (2:Nat) ^ 63=9223372036854775808 by decide,←e] at h1 h2
 rw [show 9223372036854775808 % 9223372036854775808=0 by decide,Nat.xor_zero] at h1
 rw [show 9223372036854775808 / 9223372036854775808=1 by decide] at h2
 refine ⟨h1,?_⟩
 have hq:b.toNat / 9223372036854775808=0∨b.toNat / 9223372036854775808=1:=by omega
 rcases hq with q | q
 ·rw [q,show (0:Nat) ^^^ 1=1 by decide] at h2;omega
 ·rw [q,show (1:Nat) ^^^ 1=0 by decide] at h2;omega
def l8 (m:Nat):Int:=if m / 4503599627370496=2047 then (if m % 4503599627370496=0 then 3 else 4) else if m / 4503599627370496=0 then (if m % 4503599627370496=0 then 1 else 2) else 2
theorem cd (b:UInt64):(Nr.split b).1=l8 (iE b)∧(Nr.split b).2.1=decide (9223372036854775808≤b.toNat):=by
 have hb:=b.toNat_lt
 have hx:b.toNat / 4503599627370496 % 2048=iE b / 4503599627370496:=by unfold iE;omega
 have hf:b.toNat % 4503599627370496=iE b % 4503599627370496:=by unfold iE;omega
 unfold Nr.split l8
 simp only [hx,hf]
 generalize iE b=p
 by_cases c1:p / 4503599627370496=2047
 ·rw [aH c1,aH c1]
  by_cases c2:p % 4503599627370496=0
  ·rw [aH c2,aH c2];exact ⟨rfl,rfl⟩
  ·rw [aD c2,aD c2];exact ⟨rfl,rfl⟩
 ·rw [aD c1,aD c1]
  by_cases c2:p / 4503599627370496=0
  ·rw [aH c2,aH c2]
   by_cases c3:p % 4503599627370496=0
   ·rw [aH c3,aH c3];exact ⟨rfl,rfl⟩
   ·rw [aD c3,aD c3];exact ⟨rfl,rfl⟩
  ·rw [aD c2,aD c2];exact ⟨rfl,rfl⟩
noncomputable def tb (b:UInt64):bT:=if (Nr.split b).1=3 then [73,110,102,105,110,105,116,121] else if (Nr.split b).1=1 then [48] else laid (dg b).1 (dg b).2.1
theorem kk {b:UInt64} (h:(Nr.split b).1=4):text b=[78,97,78]:=by rw [wF];unfold vE;rw [aH h]
theorem k8 {b:UInt64} (h:¬(Nr.split b).1=4):text b=sign b++tb b:=by
 rw [wF];unfold vE tb
 rw [aD h]
 by_cases c3:(Nr.split b).1=3
 ·rw [aH c3,aH c3]
 ·rw [aD c3,aD c3]
  by_cases c1:(Nr.split b).1=1
  ·rw [aH c1,aH c1]
  ·rw [aD c1,aD c1]
theorem nr {b:UInt64} (h:¬(Nr.split b).1=4):(tb b).length≤24:=by
 unfold tb
 by_cases c3:(Nr.split b).1=3
 ·rw [aH c3];decide
 ·rw [aD c3]
  by_cases c1:(Nr.split b).1=1
  ·rw [aH c1];decide
  ·rw [aD c1]
   exact Fu (by have:=Aw b;omega)
theorem k9 (b:UInt64):(Nr.split (b ^^^ 9223372036854775808)).1=(Nr.split b).1∧(Nr.split (b ^^^ 9223372036854775808)).2.1=(!(Nr.split b).2.1)∧iE (b ^^^ 9223372036854775808)=iE b:=by
 obtain ⟨f1,f2⟩:=l6 b
 have hm:iE (b ^^^ 9223372036854775808)=iE b:=f1
 refine ⟨by rw [(cd _).1,(cd b).1,hm],?_,hm⟩
 rw [(cd _).2,(cd b).2,bA.2 f2,decide_not]
theorem l7 (b:UInt64):tb (b ^^^ 9223372036854775808)=tb b:=by
 obtain ⟨f1,_,f3⟩:=k9 b
 unfold tb
 rw [f1]
 by_cases c3:(Nr.split b).1=3
 ·rw [aH c3,aH c3]
 ·rw [aD c3,aD c3]
  by_cases c1:(Nr.split b).1=1
  ·rw [aH c1,aH c1]
  ·rw [aD c1,aD c1]
   by_cases c2:(Nr.split b).1=2
   ·obtain ⟨z1,z2,_⟩:=xG c2
    obtain ⟨y1,y2,_⟩:=xG (f1.trans c2)
    rw [y1,y2,f3,←z1,←z2]
   ·obtain ⟨z1,z2,_⟩:=Gv c2
    obtain ⟨y1,y2,_⟩:=Gv (fun e=>c2 (f1.symm.trans e))
    rw [y1,y2,z1,z2]
end Sh
end Go.Eng
set_option maxRecDepth 100000
namespace Go.Eng
open Go.Proofs
noncomputable section
def sh_ShortForm.sg:c7:={}
def sh_ShortForm.c:eW:=fun l=>match l with
 | [.u64 b] => .ok [(.b (true))]
 | _ => .err
def sh_ShortForm.env:EV:=[(8,(dk.c,dk.sg)),(11,(cR.c,cR.sg)),(14,(dn.c,dn.sg))]
def sh_ShortForm.E:eD:=cZ nrGl sh_ShortForm.env
def sh_ShortForm.m:TM:=oS [oW (.b false) 2] (.seq (oS [oC 8 0 1 [] 9,oK (.k (.un .not)) [9] [10]] (.cond (.s 10) [] (oS [oW (.b false) 2] .ret) .skip)) none (oS [oV 0 12,oC 14 1 4 [12] 13,oV 13 11,oE 0 11 14,oE 1 11 15,oE 2 11 16,oE 3 11 17,oV 14 3,oV 15 4,oV 16 5,oV 17 6] (oS [oV 0 18,oC 11 1 1 [18] 19,oV 0 20,oI .xor 20 (.u64 9223372036854775808) 21,oC 11 1 1 [21] 22,oV 19 7,oV 22 8] (.seq (oS [oV 3 23,oI .eql 23 (.i .i64 4) 24] (.cond (.s 24) [] (oS [oV 7 25,oI .eql 25 (.s ([78,97,78]:bT)) 26,oV 26 27,oG 27 true (oV 8 28),oG 27 true (oI .eql 28 (.s ([78,97,78]:bT)) 29),oP 27 29 false 30,oV 30 2] .ret) .skip)) none (.seq (oS [oV 4 31] (.cond (.s 31) [] (oS [oV 7 32,oV 8 33,oX (.k (.bin .add)) [.c (.s ([45]:bT)),.s 33] [34],oB .eql 32 34 35,oV 35 2] .ret) .skip)) none (oS [oV 8 36,oV 7 37,oX (.k (.bin .add)) [.c (.s ([45]:bT)),.s 37] [38],oB .eql 36 38 39,oV 39 2] .ret))))))
def sh_ShortForm.d:gS:=D0 1 sh_ShortForm.m [.t 2]
def sh_ShortForm.F (b:UInt64):OT:=sh_ShortForm.d.run sh_ShortForm.E [(.u64 b)]
theorem sh_ShortForm.dZ (b:UInt64) {ρ:OT} (K:∀(v1:UInt64) (h1:v1=(b ^^^ (9223372036854775808:UInt64))) (v2:Bool) (h2:v2=(cond (decide ((Sh.text b)=([78,97,78]:bT))) (decide ((Sh.text v1)=([78,97,78]:bT))) false)) (v3:bT) (h3:v3=(([45]:bT)++(Sh.text v1))) (v4:bT) (h4:v4=(([45]:bT)++(Sh.text b))),cond (!(true))
  (some [(.b false)])
  (cond (decide (((Nr.split b).1)=(4:Int)))
  (ck (!(decide ((Sh.text b)=([78,97,78]:bT))) || (decide ((Sh.text b)=([78,97,78]:bT)))) (ck (!(decide ((Sh.text b)=([78,97,78]:bT))) || (decide ((Sh.text b)=([78,97,78]:bT)))) (some [(.b v2)])))
  (cond ((Nr.split b).2.1)
  (ck (decide ((([45]:bT)).length+((Sh.text v1)).length≤9223372036854775807)) (some [(.b (decide ((Sh.text b)=v3)))]))
  (ck (decide ((([45]:bT)).length+((Sh.text b)).length≤9223372036854775807)) (some [(.b (decide ((Sh.text v1)=v4)))]))))=ρ):sh_ShortForm.F b=ρ:=Eq.trans (by kernel_rfl) (K _ rfl _ rfl _ rfl _ rfl)
theorem sh_ShortForm.eJ:CK 6 sh_ShortForm.env sh_ShortForm.d:=fE (by kernel_rfl)
end
end Go.Eng
namespace Go.Eng
theorem sh_ShortForm.goal (b:UInt64):sh_ShortForm.F b=some [.b true]:=by
 refine sh_ShortForm.dZ _ ?_
 intro v1 h1 v2 h2 v3 h3 v4 h4
 obtain ⟨f1,f2,f3⟩:=Sh.k9 b
 have ft:=Sh.l7 b
 rw [←h1] at f1 f2 f3 ft
 rw [a8,ax]
 by_cases c:(Nr.split b).1=4
 ·have t1:=Sh.kk c
  have t2:=Sh.kk (f1.trans c)
  have e2:v2=true:=by rw [h2,t1,t2];rfl
  rw [ae c,aF,e2,t1];rfl
 ·have t1:=Sh.k8 c
  have t2:=Sh.k8 (b:=v1) (fun e=>c (f1.symm.trans e))
  have hl:=Sh.nr c
  rw [af c,ax]
  have q:(9223372036854775807:Nat)=9223372036854775806+1:=rfl
  unfold Sh.sign at t1 t2
  rw [f2,ft] at t2
  cases hn:(Nr.split b).2.1 with
  | true =>
   rw [hn] at t1 t2
   have rH:Sh.text v1=Sh.tb b:=t2
   have rL:Sh.text b=[45]++Sh.tb b:=t1
   rw [aF,h3,rL,rH,bD (ae (by show 1+_≤_;omega)),ae rfl]
  | false =>
   rw [hn] at t1 t2
   have rH:Sh.text v1=[45]++Sh.tb b:=t2
   have rL:Sh.text b=Sh.tb b:=t1
   rw [ax,h4,rL,rH,bD (ae (by show 1+_≤_;omega)),ae rfl]
end Go.Eng
namespace Go.Eng
open Go.Proofs
theorem sh_ShortForm.fit (b:UInt64):([.u64 b]:List TV).length=sh_ShortForm.d.np∧sh_ShortForm.d.run (cZ nrGl sh_ShortForm.env) [.u64 b]=some (([(.b (true))]:List TV)++sh_ShortForm.d.eu.map fun qq=>([.u64 b]:List TV).getD qq.1 .dead) :=
 ⟨by kernel_rfl,Eq.trans (b:=sh_ShortForm.F b) (by kernel_rfl) (Eq.trans (sh_ShortForm.goal b) (by kernel_rfl))⟩
theorem sh_ShortForm.ok:KO 6 (sh_ShortForm.c) sh_ShortForm.sg :=
 meets (l:=sh_ShortForm.env) (all_cons dk.ok (all_cons cR.ok (all_cons dn.ok all_nil))) sh_ShortForm.eJ (by
   intro ins outs h
   unfold sh_ShortForm.c at h
   split at h
   ·cases h;exact sh_ShortForm.fit _
   ·exact h.elim)
end Go.Eng
