/- Texts of my own, one behind the other: RxOK, RxOKA, RxLRelaxOnce, RxQRelaxOnce, RxOKRelaxOnce, RxGl. -/
import Derived.Test.YticoeljejdcofaaGreatDoorT5
set_option linter.unusedVariables false
set_option linter.unusedSimpArgs false
set_option maxRecDepth 20000
namespace Go.Eng
open Go.Proofs
variable {ee:Errs}
theorem cD.ok:bC PG (cnGl ee) 147 (cD.c,cD.sg):=meets bG all_nil cD.h (fits fun ins=>by unfold cD.c;split;exact cD.goal _;trivial)
theorem iK.ok:bC PG (cnGl ee) 204 (iK.c,iK.sg):=meets bG all_nil iK.h (fits fun ins=>by unfold iK.c;split;exact iK.goal _;trivial)
theorem bK.ok:bC PG (cnGl ee) 170 (bK.c,bK.sg):=meets bG (all_cons iK.ok all_nil) bK.h (fits fun ins=>by unfold bK.c;split;exact bK.goal _ _;trivial)
theorem cE.ok:bC PG (cnGl ee) 129 (cE.c,cE.sg):=meets bG (all_cons bK.ok all_nil) cE.h (fits fun ins=>by unfold cE.c;split;exact cE.goal _;trivial)
theorem dX.ok:bC PG (cnGl ee) 97 (dX.c,dX.sg):=meets bG (all_cons cE.ok all_nil) dX.h (fits fun ins=>by unfold dX.c;split;exact dX.goal _;trivial)
theorem cT.ok:bC PG (cnGl ee) 183 (cT.c,cT.sg):=meets bG all_nil cT.h (fits fun ins=>by unfold cT.c;split;exact cT.goal _ _;trivial)
theorem fF.ok:bC PG (cnGl ee) 171 (fF.c,fF.sg):=meets bG (all_cons cT.ok all_nil) fF.h (fits fun ins=>by unfold fF.c;split;exact fF.goal _ _;trivial)
theorem fE.ok:bC PG (cnGl ee) 130 (fE.c,fE.sg):=meets bG (all_cons fF.ok all_nil) fE.h (fits fun ins=>by unfold fE.c;split;exact fE.goal _ _;trivial)
theorem dF.ok:bC PG (cnGl ee) 98 (dF.c,dF.sg):=meets bG (all_cons fE.ok all_nil) dF.h (fits fun ins=>by unfold dF.c;split;exact dF.goal _ _;trivial)
theorem fg.ok:bC PG (cnGl ee) 59 (fg.c,fg.sg):=meets bG all_nil fg.h (fits fun ins=>by unfold fg.c;split;exact fg.goal _;trivial)
theorem eO.ok:bC PG (cnGl ee) 58 (eO.c,eO.sg):=meets bG all_nil eO.h (fits fun ins=>by unfold eO.c;split;exact eO.goal _;trivial)
theorem bB.ok:bC PG (cnGl ee) 60 (bB.c,bB.sg):=meets bG all_nil bB.h (fits fun ins=>by unfold bB.c;split;exact bB.goal (.mk _ _ _ _ _ _ _ _ _);trivial)
theorem dU.ok:bC PG (cnGl ee) 61 (dU.c,dU.sg):=meets bG (all_cons dX.ok (all_cons dF.ok all_nil)) dU.h (fits fun ins=>by unfold dU.c;split;exact dU.goal _ _;trivial)
theorem Lb.Bk:∀n:Nat,(bC PG (cnGl ee) 41 (b9.cn n,b9.sg)):=by
 intro n
 induction n with
 | zero=>exact jk (by intro ti kV h;unfold b9.cn at h;split at h;exact absurd (aO.1 h.1).2 (by simp);exact h.elim)
 | succ n ih =>
  have BA:=ih
  exact meets bG (all_cons BA (all_cons eO.ok (all_cons fg.ok (all_cons bB.ok (all_cons dU.ok all_nil))))) b9.h (fits fun ins=>by unfold b9.cn;split;exact b9.goal _ (.mk _ _ _ _ _ _ _ _ _) _ _;trivial)
theorem b9.ok:bC PG (cnGl ee) 41 (b9.c,b9.sg):=kX fun ti kV h=>by
 unfold b9.c at h
 split at h
 ·obtain ⟨hp,rfl⟩:=h;exact ⟨b9.cn (_+1),(Lb.Bk _),aO.2 ⟨hp,aa (Nat.lt_succ_self _)⟩,rfl⟩
 ·exact h.elim
theorem dC.ok:bC PG (cnGl ee) 25 (dC.c,dC.sg):=meets bG (all_cons b9.ok all_nil) dC.h (fits fun ins=>by unfold dC.c;split;exact dC.goal (.mk _ _ _ _ _ _ _ _ _);trivial)
theorem fQ.ok:bC PG (cnGl ee) 128 (fQ.c,fQ.sg):=meets bG all_nil fQ.h (fits fun ins=>by unfold fQ.c;split;exact fQ.goal _ _;trivial)
theorem bQ.ok:bC PG (cnGl ee) 30 (bQ.c,bQ.sg):=meets bG all_nil bQ.h (fits fun ins=>by unfold bQ.c;split;exact bQ.goal _ _;trivial)
theorem cX.ok:bC PG (cnGl ee) 40 (cX.c,cX.sg):=meets bG all_nil cX.h (fits fun ins=>by unfold cX.c;split;exact cX.goal _ _;trivial)
theorem M4.Bk:∀n:Nat,(bC PG (cnGl ee) 24 (cd.cn n,cd.sg)):=by
 intro n
 induction n with
 | zero=>exact jk (by intro ti kV h;unfold cd.cn at h;split at h;exact absurd (aO.1 h.1).2 (by simp);exact h.elim)
 | succ n ih =>
  have BA:=ih
  exact meets bG (all_cons BA (all_cons cX.ok all_nil)) cd.h (fits fun ins=>by unfold cd.cn;split;exact cd.goal _ _ (.mk _ _ _ _ _ _ _ _ _);trivial)
theorem cd.ok:bC PG (cnGl ee) 24 (cd.c,cd.sg):=kX fun ti kV h=>by
 unfold cd.c at h
 split at h
 ·obtain ⟨hp,rfl⟩:=h;exact ⟨cd.cn (_+1),(M4.Bk _),aO.2 ⟨hp,aa (Nat.lt_succ_self _)⟩,rfl⟩
 ·exact h.elim
theorem dV.ok:bC PG (cnGl ee) 8 (dV.c,dV.sg):=meets bG (all_cons cd.ok all_nil) dV.h (fits fun ins=>by unfold dV.c;split;exact dV.goal (.mk _ _ _ _ _ _ _ _ _);trivial)
theorem bS.ok:bC PG (cnGl ee) 66 (bS.c,bS.sg):=meets bG (all_cons iC.ok all_nil) bS.h (fits fun ins=>by unfold bS.c;split;exact bS.goal _;trivial)
theorem cw.ok:bC PG (cnGl ee) 151 (cw.c,cw.sg):=meets bG all_nil cw.h (fits fun ins=>by unfold cw.c;split;exact cw.goal _;trivial)
theorem bits_Len64.ok:bC PG (cnGl ee) 200 (bits_Len64.c,bits_Len64.sg):=meets bG all_nil bits_Len64.h (fits fun ins=>by unfold bits_Len64.c;split;exact bits_Len64.goal _;trivial)
theorem ff.ok:bC PG (cnGl ee) 187 (ff.c,ff.sg):=meets bG all_nil ff.h (fits fun ins=>by unfold ff.c;split;exact ff.goal _;trivial)
theorem fL.ok:bC PG (cnGl ee) 260 (fL.c,fL.sg):=meets bG (all_cons iF.ok all_nil) fL.h (fits fun ins=>by unfold fL.c;split;exact fL.goal (_,_);trivial)
theorem jN.ok:bC PG (cnGl ee) 258 (jN.c,jN.sg):=meets bG all_nil jN.h (fits fun ins=>by unfold jN.c;split;exact jN.goal _ _;trivial)
theorem fe.ok:bC PG (cnGl ee) 243 (fe.c,fe.sg):=meets bG (all_cons iF.ok all_nil) fe.h (fits fun ins=>by unfold fe.c;split;exact fe.goal (_,_);trivial)
theorem gN.ok:bC PG (cnGl ee) 273 (gN.c,gN.sg):=meets bG (all_cons iF.ok all_nil) gN.h (fits fun ins=>by unfold gN.c;split;exact gN.goal (_,_) _;trivial)
theorem fM.ok:bC PG (cnGl ee) 241 (fM.c,fM.sg):=meets bG (all_cons fL.ok all_nil) fM.h (fits fun ins=>by unfold fM.c;split;exact fM.goal (_,_) (_,_);trivial)
theorem gF.ok:bC PG (cnGl ee) 271 (gF.c,gF.sg):=meets bG (all_cons dE.ok all_nil) gF.h (fits fun ins=>by unfold gF.c;split;exact gF.goal _;trivial)
theorem eW.ok:bC PG (cnGl ee) 261 (eW.c,eW.sg):=meets bG (all_cons gF.ok all_nil) eW.h (fits fun ins=>by unfold eW.c;split;exact eW.goal (.mk (_,_) (_,_) (_,_) (_,_));trivial)
theorem cQ.ok:bC PG (cnGl ee) 262 (cQ.c,cQ.sg):=meets bG (all_cons gN.ok all_nil) cQ.h (fits fun ins=>by unfold cQ.c;split;exact cQ.goal (.mk (_,_) (_,_) (_,_) (_,_)) _;trivial)
theorem gG.ok:bC PG (cnGl ee) 259 (gG.c,gG.sg):=meets bG (all_cons eW.ok (all_cons cQ.ok all_nil)) gG.h (fits fun ins=>by unfold gG.c;split;exact gG.goal (.mk (_,_) (_,_) (_,_) (_,_));trivial)
theorem ez.ok:bC PG (cnGl ee) 242 (ez.c,ez.sg):=meets bG (all_cons fe.ok (all_cons eW.ok (all_cons cQ.ok all_nil))) ez.h (fits fun ins=>by unfold ez.c;split;exact ez.goal (.mk (_,_) (_,_) (_,_) (_,_));trivial)
theorem cV.ok:bC PG (cnGl ee) 239 (cV.c,cV.sg):=meets bG all_nil cV.h (fits fun ins=>by unfold cV.c;split;exact cV.goal _;trivial)
theorem cK.ok:bC PG (cnGl ee) 240 (cK.c,cK.sg):=meets bG (all_cons jN.ok (all_cons gG.ok all_nil)) cK.h (fits fun ins=>by unfold cK.c;split;exact cK.goal _;trivial)
theorem bO.ok:bC PG (cnGl ee) 216 (bO.c,bO.sg):=meets bG (all_cons cV.ok (all_cons cK.ok (all_cons fM.ok (all_cons ez.ok (all_cons fe.ok all_nil))))) bO.h (fits fun ins=>by unfold bO.c;split;exact bO.goal _ _;trivial)
theorem dm.ok:bC PG (cnGl ee) 190 (dm.c,dm.sg):=meets bG all_nil dm.h (fits fun ins=>by unfold dm.c;split;exact dm.goal _;trivial)
theorem fj.ok:bC PG (cnGl ee) 149 (fj.c,fj.sg):=meets bG all_nil fj.h (fits fun ins=>by unfold fj.c;split;exact fj.goal _;trivial)
theorem fv.ok:bC PG (cnGl ee) 116 (fv.c,fv.sg):=meets bG all_nil fv.h (fits fun ins=>by unfold fv.c;split;exact fv.goal _;trivial)
theorem dy.ok:bC PG (cnGl ee) 267 (dy.c,dy.sg):=meets bG (all_cons fj.ok all_nil) dy.h (fits fun ins=>by unfold dy.c;split;exact dy.goal _;trivial)
theorem fY.ok:bC PG (cnGl ee) 118 (fY.c,fY.sg):=meets bG (all_cons fj.ok (all_cons cw.ok all_nil)) fY.h (fits fun ins=>by unfold fY.c;split;exact fY.goal _;trivial)
theorem fc.ok:bC PG (cnGl ee) 186 (fc.c,fc.sg):=meets bG all_nil fc.h (fits fun ins=>by unfold fc.c;split;exact fc.goal _ _;trivial)
theorem gD.ok:bC PG (cnGl ee) 153 (gD.c,gD.sg):=meets bG (all_cons fj.ok (all_cons fc.ok all_nil)) gD.h (fits fun ins=>by unfold gD.c;split;exact gD.goal _ _;trivial)
theorem cH.ok:bC PG (cnGl ee) 217 (cH.c,cH.sg):=meets bG all_nil cH.h (fits fun ins=>by unfold cH.c;split;exact cH.goal _;trivial)
theorem dB.ok:bC PG (cnGl ee) 185 (dB.c,dB.sg):=meets bG (all_cons fj.ok (all_cons dm.ok (all_cons bO.ok (all_cons cH.ok all_nil)))) dB.h (fits fun ins=>by unfold dB.c;split;exact dB.goal _ _;trivial)
theorem eZ.ok:bC PG (cnGl ee) 188 (eZ.c,eZ.sg):=meets bG (all_cons dm.ok all_nil) eZ.h (fits fun ins=>by unfold eZ.c;split;exact eZ.goal _ _;trivial)
theorem fq.ok:bC PG (cnGl ee) 150 (fq.c,fq.sg):=meets bG all_nil fq.h (fits fun ins=>by unfold fq.c;split;exact fq.goal _ _;trivial)
theorem dh.ok:bC PG (cnGl ee) 191 (dh.c,dh.sg):=meets bG (all_cons dm.ok all_nil) dh.h (fits fun ins=>by unfold dh.c;split;exact dh.goal _ _;trivial)
theorem bH.ok:bC PG (cnGl ee) 189 (bH.c,bH.sg):=meets bG all_nil bH.h (fits fun ins=>by unfold bH.c;split;exact bH.goal _ _;trivial)
theorem iq.ok:bC PG (cnGl ee) 154 (iq.c,iq.sg):=meets bG (all_cons fv.ok (all_cons fj.ok (all_cons fq.ok (all_cons cw.ok (all_cons fc.ok (all_cons ff.ok (all_cons eZ.ok (all_cons bH.ok (all_cons dm.ok (all_cons dh.ok all_nil)))))))))) iq.h (fits fun ins=>by unfold iq.c;split;exact iq.goal _ _;trivial)
theorem iZ.ok:bC PG (cnGl ee) 117 (iZ.c,iZ.sg):=meets bG (all_cons fj.ok (all_cons fq.ok all_nil)) iZ.h (fits fun ins=>by unfold iZ.c;split;exact iZ.goal _ _;trivial)
theorem da.ok:bC PG (cnGl ee) 215 (da.c,da.sg):=meets bG all_nil da.h (fits fun ins=>by unfold da.c;split;exact da.goal _ _ _;trivial)
theorem de.ok:bC PG (cnGl ee) 184 (de.c,de.sg):=meets bG (all_cons fv.ok (all_cons fj.ok (all_cons da.ok all_nil))) de.h (fits fun ins=>by unfold de.c;split;exact de.goal _ _;trivial)
theorem dz.ok:bC PG (cnGl ee) 226 (dz.c,dz.sg):=meets bG (all_cons fj.ok (all_cons da.ok all_nil)) dz.h (fits fun ins=>by unfold dz.c;split;exact dz.goal _;trivial)
theorem et.ok:bC PG (cnGl ee) 251 (et.c,et.sg):=meets bG (all_cons bits_Len64.ok (all_cons mH.ok all_nil)) et.h (fits fun ins=>by unfold et.c;split;exact et.goal _ _ _;trivial)
theorem cJ.ok:bC PG (cnGl ee) 250 (cJ.c,cJ.sg):=meets bG (all_cons iZ.ok (all_cons gD.ok (all_cons iq.ok (all_cons dy.ok all_nil)))) cJ.h (fits fun ins=>by unfold cJ.c;split;exact cJ.goal _ _ _;trivial)
theorem dr.ok:bC PG (cnGl ee) 227 (dr.c,dr.sg):=meets bG (all_cons fY.ok (all_cons cJ.ok (all_cons et.ok all_nil))) dr.h (fits fun ins=>by unfold dr.c;split;exact dr.goal _ _;trivial)
theorem eh.ok:bC PG (cnGl ee) 194 (eh.c,eh.sg):=meets bG (all_cons fv.ok (all_cons de.ok (all_cons dB.ok (all_cons gi.ok (all_cons mu.ok (all_cons gS.ok (all_cons dz.ok (all_cons dr.ok all_nil)))))))) eh.h (fits fun ins=>by unfold eh.c;split;exact eh.goal _ _;trivial)
theorem jJ.ok:bC PG (cnGl ee) 91 (jJ.c,jJ.sg):=meets bG all_nil jJ.h (fits fun ins=>by unfold jJ.c;split;exact jJ.goal _ _ _ _;trivial)
theorem cW.ok:bC PG (cnGl ee) 92 (cW.c,cW.sg):=meets bG all_nil cW.h (fits fun ins=>by unfold cW.c;split;exact cW.goal _ _;trivial)
theorem bF.ok:bC PG (cnGl ee) 54 (bF.c,bF.sg):=meets bG (all_cons jJ.ok (all_cons cW.ok all_nil)) bF.h (fits fun ins=>by unfold bF.c;split;exact bF.goal _;trivial)
theorem dN.ok:bC PG (cnGl ee) 51 (dN.c,dN.sg):=meets bG all_nil dN.h (fits fun ins=>by unfold dN.c;split;exact dN.goal _;trivial)
theorem cP.ok:bC PG (cnGl ee) 156 (cP.c,cP.sg):=meets bG (all_cons fj.ok (all_cons ff.ok all_nil)) cP.h (fits fun ins=>by unfold cP.c;split;exact cP.goal _ _;trivial)
theorem cG.ok:bC PG (cnGl ee) 218 (cG.c,cG.sg):=meets bG all_nil cG.h (fits fun ins=>by unfold cG.c;split;exact cG.goal _;trivial)
theorem dc.ok:bC PG (cnGl ee) 192 (dc.c,dc.sg):=meets bG (all_cons iC.ok (all_cons fS.ok (all_cons fj.ok (all_cons eZ.ok (all_cons cG.ok (all_cons mv.ok all_nil)))))) dc.h (fits fun ins=>by unfold dc.c;split;exact dc.goal _;trivial)
theorem eM.ok:bC PG (cnGl ee) 56 (eM.c,eM.sg):=meets bG (all_cons iD.ok all_nil) eM.h (fits fun ins=>by unfold eM.c;split;exact eM.goal _;trivial)
theorem fU.ok:bC PG (cnGl ee) 152 (fU.c,fU.sg):=meets bG (all_cons de.ok (all_cons dB.ok all_nil)) fU.h (fits fun ins=>by unfold fU.c;split;exact fU.goal _ _ _;trivial)
theorem fH.ok:bC PG (cnGl ee) 119 (fH.c,fH.sg):=meets bG (all_cons fU.ok (all_cons gD.ok all_nil)) fH.h (fits fun ins=>by unfold fH.c;split;exact fH.goal _ _ _;trivial)
theorem fG.ok:bC PG (cnGl ee) 155 (fG.c,fG.sg):=meets bG (all_cons dc.ok (all_cons gi.ok (all_cons eh.ok all_nil))) fG.h (fits fun ins=>by unfold fG.c;split;exact fG.goal _ _ _;trivial)
theorem gJ.ok:bC PG (cnGl ee) 120 (gJ.c,gJ.sg):=meets bG (all_cons fv.ok (all_cons iZ.ok (all_cons fU.ok (all_cons gD.ok (all_cons iq.ok (all_cons fG.ok (all_cons cP.ok all_nil))))))) gJ.h (fits fun ins=>by unfold gJ.c;split;exact gJ.goal _ _ _ _ _;trivial)
theorem bM.ok:bC PG (cnGl ee) 88 (bM.c,bM.sg):=meets bG (all_cons dN.ok (all_cons fv.ok (all_cons iZ.ok (all_cons fY.ok (all_cons fH.ok (all_cons gJ.ok all_nil)))))) bM.h (fits fun ins=>by unfold bM.c;split;exact bM.goal _;trivial)
theorem dY.ok:bC PG (cnGl ee) 89 (dY.c,dY.sg):=meets bG (all_cons eM.ok (all_cons fS.ok all_nil)) dY.h (fits fun ins=>by unfold dY.c;split;exact dY.goal _ _;trivial)
theorem dD.ok:bC PG (cnGl ee) 52 (dD.c,dD.sg):=meets bG (all_cons dN.ok (all_cons bM.ok (all_cons dY.ok all_nil))) dD.h (fits fun ins=>by unfold dD.c;split;exact dD.goal _;trivial)
theorem cY.ok:bC PG (cnGl ee) 255 (cY.c,cY.sg):=meets bG (all_cons mw.ok all_nil) cY.h (fits fun ins=>by unfold cY.c;split;exact cY.goal _ _;trivial)
theorem dj.ok:bC PG (cnGl ee) 102 (dj.c,dj.sg):=meets bG all_nil dj.h (fits fun ins=>by unfold dj.c;split;exact dj.goal _ _;trivial)
theorem cS.ok:bC PG (cnGl ee) 65 (cS.c,cS.sg):=meets bG (all_cons dj.ok all_nil) cS.h (fits fun ins=>by unfold cS.c;split;exact cS.goal _ _;trivial)
theorem di.ok:bC PG (cnGl ee) 146 (di.c,di.sg):=meets bG (all_cons cT.ok all_nil) di.h (fits fun ins=>by unfold di.c;split;exact di.goal _ _;trivial)
theorem fJ.ok:bC PG (cnGl ee) 196 (fJ.c,fJ.sg):=meets bG all_nil fJ.h (fits fun ins=>by unfold fJ.c;split;exact fJ.goal _ _;trivial)
theorem eP.ok:bC PG (cnGl ee) 277 (eP.c,eP.sg):=meets bG (all_cons bits_Len64.ok all_nil) eP.h (fits fun ins=>by unfold eP.c;split;exact eP.goal _;trivial)
theorem bI.ok:bC PG (cnGl ee) 269 (bI.c,bI.sg):=meets bG (all_cons eP.ok all_nil) bI.h (fits fun ins=>by unfold bI.c;split;exact bI.goal _ _ _;trivial)
theorem ij.ok:bC PG (cnGl ee) 252 (ij.c,ij.sg):=meets bG all_nil ij.h (fits fun ins=>by unfold ij.c;split;exact ij.goal (.mk _ _) (.mk _ _);trivial)
theorem iH.ok:bC PG (cnGl ee) 268 (iH.c,iH.sg):=meets bG (all_cons fJ.ok all_nil) iH.h (fits fun ins=>by unfold iH.c;split;exact iH.goal _ _;trivial)
theorem iI.ok:bC PG (cnGl ee) 254 (iI.c,iI.sg):=meets bG (all_cons bI.ok all_nil) iI.h (fits fun ins=>by unfold iI.c;split;exact iI.goal (.mk _ _) _;trivial)
theorem cZ.ok:bC PG (cnGl ee) 236 (cZ.c,cZ.sg):=meets bG (all_cons fS.ok (all_cons gS.ok (all_cons iI.ok (all_cons cY.ok all_nil)))) cZ.h (fits fun ins=>by unfold cZ.c;split;exact cZ.goal (.mk _ _);trivial)
theorem fW.ok:bC PG (cnGl ee) 253 (fW.c,fW.sg):=meets bG (all_cons iH.ok all_nil) fW.h (fits fun ins=>by unfold fW.c;split;exact fW.goal;trivial)
theorem dv.ok:bC PG (cnGl ee) 233 (dv.c,dv.sg):=meets bG (all_cons ij.ok (all_cons fW.ok all_nil)) dv.h (fits fun ins=>by unfold dv.c;split;exact dv.goal _ _;trivial)
theorem eH.ok:bC PG (cnGl ee) 234 (eH.c,eH.sg):=meets bG (all_cons ij.ok (all_cons fW.ok all_nil)) eH.h (fits fun ins=>by unfold eH.c;split;exact eH.goal _ (.mk _ _) _;trivial)
theorem fN.ok:bC PG (cnGl ee) 209 (fN.c,fN.sg):=meets bG (all_cons dv.ok (all_cons eH.ok all_nil)) fN.h (fits fun ins=>by unfold fN.c;split;exact fN.goal _ _;trivial)
theorem dt.ok:bC PG (cnGl ee) 235 (dt.c,dt.sg):=meets bG (all_cons iC.ok (all_cons fS.ok all_nil)) dt.h (fits fun ins=>by unfold dt.c;split;exact dt.goal _ _;trivial)
theorem eG.ok:bC PG (cnGl ee) 210 (eG.c,eG.sg):=meets bG (all_cons dv.ok (all_cons dt.ok (all_cons cZ.ok all_nil))) eG.h (fits fun ins=>by unfold eG.c;split;exact eG.goal _ _;trivial)
theorem db.ok:bC PG (cnGl ee) 211 (db.c,db.sg):=meets bG all_nil db.h (fits fun ins=>by unfold db.c;split;exact db.goal _;trivial)
theorem gB.ok:bC PG (cnGl ee) 174 (gB.c,gB.sg):=meets bG all_nil gB.h (fits fun ins=>by unfold gB.c;split;exact gB.goal _;trivial)
theorem ik.ok:bC PG (cnGl ee) 175 (ik.c,ik.sg):=meets bG (all_cons eM.ok all_nil) ik.h (fits fun ins=>by unfold ik.c;split;exact ik.goal _;trivial)
theorem gC.ok:bC PG (cnGl ee) 172 (gC.c,gC.sg):=meets bG all_nil gC.h (fits fun ins=>by unfold gC.c;split;exact gC.goal _ (.mk _ _ _);trivial)
theorem gA.ok:bC PG (cnGl ee) 173 (gA.c,gA.sg):=meets bG all_nil gA.h (fits fun ins=>by unfold gA.c;split;exact gA.goal _ (.mk _ _ _) _ (.mk _ _ _);trivial)
theorem dR.ok:bC PG (cnGl ee) 208 (dR.c,dR.sg):=meets bG (all_cons cD.ok all_nil) dR.h (fits fun ins=>by unfold dR.c;split;exact dR.goal _;trivial)
theorem eT.ok:bC PG (cnGl ee) 176 (eT.c,eT.sg):=meets bG (all_cons dD.ok (all_cons eM.ok (all_cons gC.ok (all_cons gA.ok (all_cons gB.ok (all_cons ik.ok (all_cons dR.ok (all_cons fN.ok (all_cons eG.ok all_nil))))))))) eT.h (fits fun ins=>by unfold eT.c;split;exact eT.goal (.mk _ _ _ _ _ _ _ _ _);trivial)
theorem gO.ok:bC PG (cnGl ee) 177 (gO.c,gO.sg):=meets bG (all_cons cD.ok (all_cons gC.ok (all_cons gA.ok (all_cons gB.ok (all_cons db.ok all_nil))))) gO.h (fits fun ins=>by unfold gO.c;split;exact gO.goal (.mk _ _ _ _ _ _ _ _ _);trivial)
theorem Sx.Bk:∀n:Nat,(bC PG (cnGl ee) 104 (cN.cn n,cN.sg))∧(bC PG (cnGl ee) 133 (dw.cn n,dw.sg)):=by
 intro n
 induction n with
 | zero=>exact ⟨jk (by intro ti kV h;unfold cN.cn at h;split at h;exact absurd (aO.1 h.1).2 (by simp);exact h.elim),jk (by intro ti kV h;unfold dw.cn at h;split at h;exact absurd (aO.1 h.1).2 (by simp);exact h.elim)⟩
 | succ n ih =>
  obtain ⟨BA,Rj⟩:=ih
  exact ⟨meets bG (all_cons Rj all_nil) cN.h (fits fun ins=>by unfold cN.cn;split;exact cN.goal _ _;trivial),meets bG (all_cons cS.ok (all_cons bS.ok (all_cons BA (all_cons gC.ok (all_cons gA.ok (all_cons gB.ok (all_cons ik.ok (all_cons eT.ok (all_cons gO.ok all_nil))))))))) dw.h (fits fun ins=>by unfold dw.cn;split;exact dw.goal _ (.mk _ _ _ _ _ _ _ _ _);trivial)⟩
theorem cN.ok:bC PG (cnGl ee) 104 (cN.c,cN.sg):=kX fun ti kV h=>by
 unfold cN.c at h
 split at h
 ·obtain ⟨hp,rfl⟩:=h;exact ⟨cN.cn (_+1),(Sx.Bk _).1,aO.2 ⟨hp,aa (Nat.lt_succ_self _)⟩,rfl⟩
 ·exact h.elim
theorem gP.ok:bC PG (cnGl ee) 67 (gP.c,gP.sg):=meets bG (all_cons dC.ok (all_cons cN.ok all_nil)) gP.h (fits fun ins=>by unfold gP.c;split;exact gP.goal (.mk _ _ _ _ _ _ _ _ _);trivial)
theorem jo.ok:bC PG (cnGl ee) 80 (jo.c,jo.sg):=meets bG (all_cons dX.ok all_nil) jo.h (fits fun ins=>by unfold jo.c;split;exact jo.goal _;trivial)
theorem LO.Bk:∀n:Nat,(bC PG (cnGl ee) 44 (bZ.cn n,bZ.sg)):=by
 intro n
 induction n with
 | zero=>exact jk (by intro ti kV h;unfold bZ.cn at h;split at h;exact absurd (aO.1 h.1).2 (by simp);exact h.elim)
 | succ n ih =>
  have BA:=ih
  exact meets bG (all_cons BA (all_cons bF.ok (all_cons jo.ok all_nil))) bZ.h (fits fun ins=>by unfold bZ.cn;split;exact bZ.goal _ (.mk _ _ _);trivial)
theorem bZ.ok:bC PG (cnGl ee) 44 (bZ.c,bZ.sg):=kX fun ti kV h=>by
 unfold bZ.c at h
 split at h
 ·obtain ⟨hp,rfl⟩:=h;exact ⟨bZ.cn (_+1),(LO.Bk _),aO.2 ⟨hp,aa (Nat.lt_succ_self _)⟩,rfl⟩
 ·exact h.elim
theorem cF.ok:bC PG (cnGl ee) 112 (cF.c,cF.sg):=meets bG (all_cons jo.ok (all_cons di.ok (all_cons cD.ok all_nil))) cF.h (fits fun ins=>by unfold cF.c;split;exact cF.goal _;trivial)
theorem eS.ok:bC PG (cnGl ee) 81 (eS.c,eS.sg):=meets bG (all_cons cF.ok all_nil) eS.h (fits fun ins=>by unfold eS.c;split;exact eS.goal _ _;trivial)
theorem Rg.Bk:∀n:Nat,(bC PG (cnGl ee) 45 (cz.cn n,cz.sg)):=by
 intro n
 induction n with
 | zero=>exact jk (by intro ti kV h;unfold cz.cn at h;split at h;exact absurd (aO.1 h.1).2 (by simp);exact h.elim)
 | succ n ih =>
  have BA:=ih
  exact meets bG (all_cons BA (all_cons eS.ok all_nil)) cz.h (fits fun ins=>by unfold cz.cn;split;exact cz.goal _ _ (.mk _ _ _);trivial)
theorem cz.ok:bC PG (cnGl ee) 45 (cz.c,cz.sg):=kX fun ti kV h=>by
 unfold cz.c at h
 split at h
 ·obtain ⟨hp,rfl⟩:=h;exact ⟨cz.cn (_+1),(Rg.Bk _),aO.2 ⟨hp,aa (Nat.lt_succ_self _)⟩,rfl⟩
 ·exact h.elim
theorem fK.ok:bC PG (cnGl ee) 28 (fK.c,fK.sg):=meets bG (all_cons bZ.ok (all_cons cz.ok all_nil)) fK.h (fits fun ins=>by unfold fK.c;split;exact fK.goal (.mk _ _ _);trivial)
theorem fP.ok:bC PG (cnGl ee) 32 (fP.c,fP.sg):=meets bG all_nil fP.h (fits fun ins=>by unfold fP.c;split;exact fP.goal _;trivial)
theorem fO.ok:bC PG (cnGl ee) 90 (fO.c,fO.sg):=meets bG all_nil fO.h (fits fun ins=>by unfold fO.c;split;exact fO.goal _;trivial)
theorem iP.ok:bC PG (cnGl ee) 53 (iP.c,iP.sg):=meets bG (all_cons dN.ok (all_cons fO.ok all_nil)) iP.h (fits fun ins=>by unfold iP.c;split;exact iP.goal _ _;trivial)
theorem iN.ok:bC PG (cnGl ee) 62 (iN.c,iN.sg):=meets bG all_nil iN.h (fits fun ins=>by unfold iN.c;split;exact iN.goal _;trivial)
theorem dZ.ok:bC PG (cnGl ee) 33 (dZ.c,dZ.sg):=meets bG (all_cons dN.ok (all_cons dD.ok (all_cons iP.ok (all_cons bF.ok all_nil)))) dZ.h (fits fun ins=>by unfold dZ.c;split;exact dZ.goal _;trivial)
theorem iM.ok:bC PG (cnGl ee) 64 (iM.c,iM.sg):=meets bG all_nil iM.h (fits fun ins=>by unfold iM.c;split;exact iM.goal _ (.mk _ _ _);trivial)
theorem Oa.Bk:∀n:Nat,(bC PG (cnGl ee) 16 (bT.cn n,bT.sg)):=by
 intro n
 induction n with
 | zero=>exact jk (by intro ti kV h;unfold bT.cn at h;split at h;exact absurd (aO.1 h.1).2 (by simp);exact h.elim)
 | succ n ih =>
  have BA:=ih
  exact meets bG (all_cons BA (all_cons fP.ok (all_cons dZ.ok (all_cons kS.ok all_nil)))) bT.h (fits fun ins=>by unfold bT.cn;split;exact bT.goal _ (.mk _ _ _ _ _ _ _ _ _);trivial)
theorem bT.ok:bC PG (cnGl ee) 16 (bT.c,bT.sg):=kX fun ti kV h=>by
 unfold bT.c at h
 split at h
 ·obtain ⟨hp,rfl⟩:=h;exact ⟨bT.cn (_+1),(Oa.Bk _),aO.2 ⟨hp,aa (Nat.lt_succ_self _)⟩,rfl⟩
 ·exact h.elim
theorem fI.ok:bC PG (cnGl ee) 96 (fI.c,fI.sg):=meets bG (all_cons fQ.ok all_nil) fI.h (fits fun ins=>by unfold fI.c;split;exact fI.goal (.mk _ _ _ _ _ _ _ _ _) (.mk _ _ _ _ _ _ _ _ _);trivial)
theorem Oc.Bk:∀n:Nat,(bC PG (cnGl ee) 57 (bR.cn n,bR.sg)):=by
 intro n
 induction n with
 | zero=>exact jk (by intro ti kV h;unfold bR.cn at h;split at h;exact absurd (aO.1 h.1).2 (by simp);exact h.elim)
 | succ n ih =>
  have BA:=ih
  exact meets bG (all_cons BA (all_cons fg.ok (all_cons fI.ok all_nil))) bR.h (fits fun ins=>by unfold bR.cn;split;exact bR.goal _ _ (.mk _ _ _ _ _ _ _ _ _) (.mk _ _ _ _ _ _ _ _ _) _;trivial)
theorem bR.ok:bC PG (cnGl ee) 57 (bR.c,bR.sg):=kX fun ti kV h=>by
 unfold bR.c at h
 split at h
 ·obtain ⟨hp,rfl⟩:=h;exact ⟨bR.cn (_+1),(Oc.Bk _),aO.2 ⟨hp,aa (Nat.lt_succ_self _)⟩,rfl⟩
 ·exact h.elim
theorem gM.ok:bC PG (cnGl ee) 36 (gM.c,gM.sg):=meets bG (all_cons bR.ok all_nil) gM.h (fits fun ins=>by unfold gM.c;split;exact gM.goal (.mk _ _ _ _ _ _ _ _ _) (.mk _ _ _ _ _ _ _ _ _);trivial)
theorem gK.ok:bC PG (cnGl ee) 19 (gK.c,gK.sg):=meets bG (all_cons bT.ok (all_cons gM.ok all_nil)) gK.h (fits fun ins=>by unfold gK.c;split;exact gK.goal (.mk _ _ _ _ _ _ _ _ _);trivial)
theorem gH.ok:bC PG (cnGl ee) 131 (gH.c,gH.sg):=meets bG all_nil gH.h (fits fun ins=>by unfold gH.c;split;exact gH.goal _;trivial)
theorem dn.ok:bC PG (cnGl ee) 100 (dn.c,dn.sg):=meets bG (all_cons gH.ok all_nil) dn.h (fits fun ins=>by unfold dn.c;split;exact dn.goal _ _;trivial)
theorem fD.ok:bC PG (cnGl ee) 99 (fD.c,fD.sg):=meets bG all_nil fD.h (fits fun ins=>by unfold fD.c;split;exact fD.goal _;trivial)
theorem fk.ok:bC PG (cnGl ee) 101 (fk.c,fk.sg):=meets bG (all_cons iC.ok all_nil) fk.h (fits fun ins=>by unfold fk.c;split;exact fk.goal _ _;trivial)
theorem cq.ok:bC PG (cnGl ee) 63 (cq.c,cq.sg):=meets bG (all_cons fD.ok (all_cons dn.ok (all_cons fk.ok all_nil))) cq.h (fits fun ins=>by unfold cq.c;split;exact cq.goal _;trivial)
theorem Q6.Bk:∀n:Nat,(bC PG (cnGl ee) 26 (cM.cn n,cM.sg))∧(bC PG (cnGl ee) 42 (cC.cn n,cC.sg)):=by
 intro n
 induction n with
 | zero=>exact ⟨jk (by intro ti kV h;unfold cM.cn at h;split at h;exact absurd (aO.1 h.1).2 (by simp);exact h.elim),jk (by intro ti kV h;unfold cC.cn at h;split at h;exact absurd (aO.1 h.1).2 (by simp);exact h.elim)⟩
 | succ n ih =>
  obtain ⟨BA,Rj⟩:=ih
  exact ⟨meets bG (all_cons Rj all_nil) cM.h (fits fun ins=>by unfold cM.cn;split;exact cM.goal _ _;trivial),meets bG (all_cons BA (all_cons dZ.ok (all_cons eM.ok (all_cons iN.ok (all_cons cq.ok (all_cons iM.ok (all_cons cS.ok (all_cons bS.ok (all_cons gP.ok all_nil))))))))) cC.h (fits fun ins=>by unfold cC.cn;split;exact cC.goal _ (.mk _ _ _ _ _ _ _ _ _);trivial)⟩
theorem cM.ok:bC PG (cnGl ee) 26 (cM.c,cM.sg):=kX fun ti kV h=>by
 unfold cM.c at h
 split at h
 ·obtain ⟨hp,rfl⟩:=h;exact ⟨cM.cn (_+1),(Q6.Bk _).1,aO.2 ⟨hp,aa (Nat.lt_succ_self _)⟩,rfl⟩
 ·exact h.elim
theorem gL.ok:bC PG (cnGl ee) 9 (gL.c,gL.sg):=meets bG (all_cons dC.ok (all_cons cM.ok all_nil)) gL.h (fits fun ins=>by unfold gL.c;split;exact gL.goal (.mk _ _ _ _ _ _ _ _ _);trivial)
theorem fV.ok:bC PG (cnGl ee) 11 (fV.c,fV.sg):=meets bG (all_cons gL.ok (all_cons fK.ok all_nil)) fV.h (fits fun ins=>by unfold fV.c;split;exact fV.goal (.mk _ _ _ _ _ _ _ _ _);trivial)
theorem bL.ok:bC PG (cnGl ee) 18 (bL.c,bL.sg):=meets bG (all_cons bQ.ok all_nil) bL.h (fits fun ins=>by unfold bL.c;split;exact bL.goal _ _;trivial)
end Go.Eng
set_option maxRecDepth 20000
namespace Go.Eng
open Go.Proofs
variable {ee:Errs}
theorem dG.ok:bC PG (cnGl ee) 7 (dG.c,dG.sg):=meets bG (all_cons fV.ok (all_cons bL.ok (all_cons gK.ok all_nil))) dG.h (fits fun ins=>by unfold dG.c;split;exact dG.goal;trivial)
end Go.Eng
set_option maxRecDepth 100000
namespace Go.Eng
open Go.Proofs
noncomputable section
def RelaxOnce.sg:bW:={}
def RelaxOnce.c:eu:=fun l=>match l with
 | [.ag [.i .i64 jX,.u64 j0,.u64 jY,.u64 jW,.s jT,.s jV,.i .i64 jU,.sl .bs jS,.sl .fl jZ]] => .ok [(.b (true))]
 | _ => .err
def RelaxOnce.E:cr:=cL fC zs [(7,(dG.c,dG.sg)),(8,(dV.c,dV.sg)),(11,(fV.c,fV.sg)),(16,(bT.c,bT.sg))]
def RelaxOnce.h:Hint := .o
def RelaxOnce.F (v:Val):OT:=cI PG RelaxOnce.E 5 RelaxOnce.sg RelaxOnce.h [(.ag (Val.cells v))]
theorem RelaxOnce.bY (v:Val) {ρ:OT} (K:∀(v1:bz) (h1:v1=(Rl.mT Rl.date (Rl.ie v))) (v2:Int) (h2:v2=((Rl.kW Rl.date (Rl.ie v)).2)) (v3:List Int) (h3:v3=((Rl.kW Rl.date (Rl.ie v)).1)) (v4:Bool) (h4:v4=(!(!decide ((Rl.kW Rl.date v).2=(0:Int))))) (v5:Bool) (h5:v5=(v4&&(decide (v2=(0:Int))))) (v6:Bool) (h6:v6=(cond (decide (v2=(0:Int))) (decide ((Rl.mT Rl.date v)=v1)) false)) (v7:Bool) (h7:v7=(cond v6 (!decide ((Rl.mT Rl.date v)=([]:bz))) false)) (v8:Bool) (h8:v8=(cond (!decide ((Rl.kW Rl.date v).2=(0:Int))) true v7)),cond (!(true))
  (some [(.b false)])
  (cond (!(decide (0≤fu.value 1200 (bA.of [] v))))
  (some [(.b true)])
  (ck (decide (bA.bJ (bA.of [] v)≤100000)) (ck (decide (bA.bJ (bA.of [] v)≤1000000000000)) (ck (decide (bA.bJ (bA.of [] (Rl.ie v))≤100000)) (ck (!v4 || v4) (ck (!v4 || v4) (ck (!v4 || v4) (ck (!v5 || (v5&&v5)) (ck (!v4 || (v4&&(!(decide (v2=(0:Int))) || v5))) (ck (!v4 || v4) (ck (!(v4&&v6) || (v4&&v6)) (ck (!v4 || (v4&&(!v6 || (v4&&v6)))) (ck ((!decide ((Rl.kW Rl.date v).2=(0:Int))) || v4) (some [(.b v8)]))))))))))))))=ρ):RelaxOnce.F v=ρ:=Eq.trans (by kernel_rfl) (K _ rfl _ rfl _ rfl _ rfl _ rfl _ rfl _ rfl _ rfl)
end
end Go.Eng
set_option maxRecDepth 20000
namespace Go.Eng
open Go.IntWalk
namespace Rl
theorem B6 (v:Val):bA.of [] (ie v)=mr (bA.of [] v):=rfl
mutual
theorem tN:∀f:bA,bA.bJ (mr f)=bA.bJ f
 | .mk n k b h l t m s y ks=>by rw [mr];simp only [bA.bJ,tK ks]
theorem tK:∀l:List bA,bA.cm (gg l)=bA.cm l
 | []=>by simp [gg]
 | f :: r=>by rw [gg];simp only [bA.cm,tN f,tK r]
end
theorem Es {v:Val} (h:(Cn.iO v).2=0):(Tree.gQ (bA.of [] v) []).2=0∧v.kind=3:=by
 unfold Cn.iO at h
 by_cases c:(Tree.gQ (bA.of [] v) []).2=0
 ·rw [ao (by simp [c])] at h
  by_cases k:v.kind=3
  ·exact ⟨c,k⟩
  ·rw [ao k] at h;cases h
 ·rw [au c] at h;exact (c h).elim
theorem yB {v:Val} (h:(Cn.iO v).2=0):(Cn.iO (ie v)).2=0:=by
 obtain ⟨h1,h2⟩:=Es h
 have hk:(ie v).kind=3:=by
  show (kt v.kind v.bits).1=3
  rw [tJ (by omega) (by omega)];exact h2
 have c:(Tree.gQ (bA.of [] (ie v)) []).2=0:=by rw [B6];exact vD _ _ h1
 unfold Cn.iO
 rw [ao (by simp [c]),au hk]
theorem Dl (date:Int→bz × Bool) {v:Val} (h:(Cn.iO v).2=0):ko date (ie v)=ko date v:=by
 unfold ko
 rw [au h,au (yB h)]
 show ob date (gg v.kids)=ob date v.kids
 unfold ob
 rw [pH]
theorem Dp (date:Int→bz × Bool) {v:Val} (h:(Cn.iO v).2=0) (c:Cn.mq (ko date v)=0):mT date v≠[]:=by
 unfold mT
 rw [ao (by simp [h])]
 unfold Cn.pK
 rw [aa c,ah]
 unfold ko
 rw [au h]
 unfold ob Cn.uF
 simp [Cn.vr,Mem.of]
end Rl
theorem RelaxOnce.goal (v:Val):RelaxOnce.F v=some [.b true]:=by
 refine RelaxOnce.bY _ ?_
 intro v1 h1 v2 h2 v3 h3 v4 h4 v5 h5 v6 h6 v7 h7 v8 h8
 rw [aG,ae]
 by_cases a:0≤fu.value 1200 (bA.of [] v)
 ·have hb:=fu.A2 v a
  have ht:bA.bJ (bA.of [] (Rl.ie v))=bA.bJ (bA.of [] v):=by rw [Rl.B6,Rl.tN]
  rw [aa a,aG,ae,bx (aa (by omega)),bx (aa (by omega)),bx (aa (by omega))]
  have e5:∀b c:Bool,(!(b&&c) || ((b&&c)&&(b&&c)))=true:=by decide
  have e6:∀b c:Bool,(!b || (b&&(!c || (b&&c))))=true:=by decide
  have e7:∀b c:Bool,(!(b&&c) || (b&&c))=true:=by decide
  rw [h5]
  simp only [jR,e5,e6,e7,bU]
  by_cases c:(Rl.kW Rl.date v).2=0
  ·have hE:(Cn.iO v).2=0∧Cn.mq (Rl.ko Rl.date v)=0:=by
    unfold Rl.kW at c
    by_cases d:(Cn.iO v).2=0
    ·rw [ao (by simp [d])] at c;exact ⟨d,c⟩
    ·rw [au d] at c;exact (d c).elim
   have hT:=Rl.yB hE.1
   have hJ:=Rl.Dl Rl.date hE.1
   have t2:v2=0:=by
    rw [h2];unfold Rl.kW
    rw [ao (by simp [hT]),hJ];exact hE.2
   have t1:v1=Rl.mT Rl.date v:=by
    rw [h1];unfold Rl.mT
    rw [ao (by simp [hT]),ao (by simp [hE.1]),hJ]
   have t6:v6=true:=by rw [h6,t2,t1,aa rfl,ah,aa rfl]
   have t7:v7=true:=by rw [h7,t6,ah,ab (Rl.Dp Rl.date hE.1 hE.2)];rfl
   rw [h8,t7,h4,aa c];rfl
  ·rw [h8,h4,ab c];rfl
 ·rw [ab a,aI,ah]
end Go.Eng
set_option maxRecDepth 20000
namespace Go.Eng
open Go.Proofs
variable {ee:Errs}
theorem RelaxOnce.ok:bC PG (cnGl ee) 5 (RelaxOnce.c,RelaxOnce.sg):=meets bG (all_cons dG.ok (all_cons dV.ok (all_cons fV.ok (all_cons bT.ok all_nil)))) RelaxOnce.h (fits fun ins=>by unfold RelaxOnce.c;split;exact RelaxOnce.goal (.mk _ _ _ _ _ _ _ _ _);trivial)
end Go.Eng
namespace Go.Eng
theorem gl_var {P:Program} {w:World} {name:String} {g:Nat} {vs:List Value} {r:List (Nat × List Value)} (h:w.var? P name=some vs.toArray) (hg:P.globalNamed name=some g) (t:GlOK (Jx r) (Old w) w):GlOK (Jx ((g,vs) :: r)) (Old w) w:=fun n us hn o=>by
 unfold Jx at hn
 cases hb:Nat.beq n g with
 | true =>
  rw [hb] at hn;cases hn;rw [aw hb]
  refine ⟨?_,by have:=World.var?_cell hg h o;simpa using this⟩
  unfold World.var? at h
  rw [hg] at h
  simp only [Option.bind_some] at h
  cases hh:w.heap[g]? with
  | none=>rw [hh] at h;cases h
  | some x=>exact (Array.getElem?_eq_some_iff.1 hh).1
 | false=>rw [hb] at hn;exact t n us hn o
end Go.Eng
