/- Texts of my own, one behind the other: VE, TpClo, TpCloGateDocs, VD, VF, RxGl. -/
import Derived.Test.YthcgadjgfbnedaaGreatDoorT4
import Derived.Stop.Joined
import Derived.SevenTiedAt
import Derived.Test.YthcgadjgfbnedaaGreatDoorRows
set_option linter.unusedVariables false
set_option linter.unusedSimpArgs false
namespace Go.Eng
def fu (f:Nat):List Nat→Bool
 | []=>false
 | g :: r=>cond (Nat.beq g f) true (fu f r)
theorem Nat.ku {a b:Nat} (h:¬a=b):Nat.beq a b=false:=by
 cases e:Nat.beq a b with
 | false=>rfl
 | true=>exact absurd (aj e) h
theorem tg (f:Nat):∀l:List Nat,l.contains f=fu f l
 | []=>rfl
 | g :: r=>by
  rw [List.contains_cons,tg f r]
  show _=cond (Nat.beq g f) true (fu f r)
  by_cases h:g=f
  ·subst h;simp
  ·rw [Nat.ku h,show (f == g)=false from by simpa using fun e=>h e.symm,Bool.false_or,af]
def sv (vy:List (List Nat)):Nat→List Nat→List Nat→List Nat
 | 0,_,seen=>seen.reverse
 | _,[],seen=>seen.reverse
 | n+1,f :: todo,seen=>cond (fu f seen) (sv vy n todo seen) (sv vy n (vy.getD f []++todo) (f :: seen))
theorem pD {P:Program} {vy:List (List Nat)} (h:∀f,(P.funcs[f]?).elim [] P.leadsTo=vy.getD f []):∀(n:Nat) (todo seen:List Nat),P.closureVia n todo seen=sv vy n todo seen
 | 0,_,_=>by unfold Program.closureVia sv;rfl
 | n+1,[],_=>by unfold Program.closureVia sv;rfl
 | n+1,f :: todo,seen=>by
  unfold Program.closureVia sv
  rw [tg f seen]
  cases fu f seen with
  | true=>rw [aq rfl,ao];exact pD h n todo seen
  | false=>rw [al (by simp),af,h f];exact pD h n _ _
theorem Bm {P:Program} {vy:List (List Nat)} (h:P.funcs.toList.map P.leadsTo=vy) (f:Nat):P.closure f=sv vy (1+(vy.map fun l=>l.length+1).sum) [f] []:=by
 have h1:∀f,(P.funcs[f]?).elim [] P.leadsTo=vy.getD f []:=fun f=>by
  rw [←h,ai,bg,Array.getElem?_toList]
  cases P.funcs[f]? <;> rfl
 unfold Program.closure
 rw [pD h1,←h,List.map_map];rfl
theorem uE {P:Program} (h:P.funcs.any Func.goes=false) (f:Nat):P.goes f=false:=by
 unfold Program.goes
 rw [h,Bool.and_false,Bool.or_false,List.any_eq_false]
 intro g _
 cases hg:P.funcs[g]? with
 | none=>simp
 | some fn =>
  have hs:=Array.getElem?_eq_some_iff.1 hg
  obtain ⟨hl,he⟩:=hs
  have:=Array.any_eq_false.1 h g hl
  rw [he] at this
  simpa using this
theorem goesBy_none {P:Program} {c:OpenClaim} (h:P.funcs.any Func.goes=false) (hs:c.start = .entering):false=c.goesBy P:=by
 unfold OpenClaim.goesBy Program.goesAt Program.goesFrom
 rw [hs]
 cases P.funcNamed c.func with
 | none=>rfl
 | some f=>rw [Option.any_some,uE h];rfl
end Go.Eng
namespace Go.Eng
open Go.Proofs
set_option maxRecDepth 100000
def yt:List (List Nat):=[[],[],[1],[6,7,8,9,10,11,9,12,10,11],[13,14,15,16,15,15,15,17,15],[13,7,18,19,20,14,21,16,16,17],[20,22,20,22,20,22],[23],[24,25],[12,26,27,28,29],[24,30,26],[31,11],[32],[20,14,16,16,15],[24],[],[33,34,34,22,35],[34],[36,18],[37,38,39],[],[],[40,40,41,42],[43,43,23],[],[44,44,45,44,44,44,46,44,47,44,48,44],[49,49],[],[50,51,52,53,54,52,50,55],[35],[30],[],[46,56,57,56,58,58,58,56,32],[],[],[],[],[59],[38],[60,61],[24],[40,8,62,63,10],[40,64,65],[],[],[66,67],[],[68,69],[70,44,66,67,44,67,67,71,72,72,44,35,73,73,74,25,75],[26],[],[76],[],[77,52],[51,51,51,51,51,78,53,53,51,52,51,51,52,77,77,78,77,28,50,51,78,28,50,55],[76],[],[],[69,79],[80,81,82,59],[61,61,61,61,61,83,61,61,83,39,83,39,61],[],[24,84,85,10],[86,87,88,89],[9,90,91,92,93,94,95],[97,96],[35],[98],[99],[100],[],[101,35],[44,45,44,44,69,44],[47,44],[45,44,45,44,35],[45,44,72,25],[],[],[51,53],[102],[103,104,105,105,106,106],[105,106],[],[61],[107,108,107],[109,110],[111,66,112,101,113,111],[114,115,116],[117,66,118,101,113,117],[119,120,121],[122,123],[124,123],[12,125],[114,27,126,29],[12,30,127],[119,27,128,29],[129],[35,97,130,131],[101],[],[132],[],[133],[134],[],[135],[],[136],[137,138],[139,140,140,109],[79,141,142],[],[113,111,143,111,111,144,111,111,145,111,146,147,147,147],[],[148,69,114],[56],[79,115,149],[],[113,117,143,117,150,117,151,117,143,117,153,152,117,154,152,155,117,156,157],[158,69,119],[56],[79,120,159],[12,160],[109,161],[12,162],[163,164],[165,165,165,77,165,77,165,165,165,165,52,166,126],[167,168],[153,169,154,169,52,169,155,169,77,155,169,77,155,169,52,77,155,169,155,169,128],[170,56,129],[171,172,173,139],[174,175],[176],[177,178,177,179,178,180],[],[181],[182,183,184,185,182],[107,186,108,107,138,107],[],[187,188,187,188,187,187,188],[69],[56],[189,141,110,190,191,192,110,191,193,110,191,194,195,196,197,141],[],[151],[],[101,111,71,69,111],[112],[],[35,198,116,149,190,199,115],[],[98],[117],[],[],[],[118],[71,117,69,117],[200,200,200,200,200],[35,121,159,190,201,120],[202],[203,203,161],[204],[],[163,125,205,206,164,207,208,208,208,209,210],[145,52,52,52,52,52,166],[76],[],[167,127,205,168,35,211,211,212,213,214],[52,166],[31],[],[171,215,216],[171,171,217,217],[218,219],[220],[],[221],[],[],[222],[],[],[192,192],[182,132,182,223,182,224,182,192,224,182,225,182],[226,139,182,182],[138,107,138,107],[],[],[227,131,227,228],[229],[],[230],[231,231,231],[232,131,233,232,228,232,234,232,235,231,233],[236,237,236,237,237,231,231,238,238,231,231,231],[236,231,231,239,240,231,231,236],[232,232,231,231,79],[],[241,116,242,116,243,115],[],[244,205,245,245,244,246,35,35,245,247,79,246,246,246,35,246,245,245],[192,160,248,160,160,205,248,250,160,249,248,251,248,251,248,252,253],[254],[175,255,175,255,130,255,256,257,192,162,257,162,162,205,257,257,162,122],[190],[],[35],[],[258],[125,258,207,206,207,209,163,163,206,163,207,206,163,163,125,206,258,259,208],[],[],[],[260,35,261,35,261,260,261,261],[171,262,262,263,263,264,264,265,266],[267,267,175,175],[],[268],[269,270,271,272],[273],[],[],[226],[226],[274],[177],[],[139,275,276,277,247,278],[273],[],[],[231],[232,131],[279,280,281,267,282,283],[284,284,284,285,284,284,284,284,286,285],[232,240],[],[131],[287],[288,288],[190],[],[242,35,35,198,242,79,242,35],[88,121],[],[69],[289],[],[],[],[175],[172,290,250,248,250,248,175,250,248,248,175,250,248,175,250,248,251,251,249,248,291,292,250,248,290,290,250,248],[293,250,294,250,249,248,294,250,248,250,250,249,248,250,294,250,248,249,248,250,248,250,248,250],[140,226,294],[],[286,286,285,285,295,295,295,295,295,295,295],[],[],[207],[127,95],[],[],[296,297],[296,298],[299,300],[299,301,302,262,303,302,263,300],[304,192,192,192,192,192,305,306,307,307,307,308,306,308],[309,309,309,309,309,309,310],[311],[311],[311,190,312],[311,190,312],[313,314,315,316],[176],[317],[318,319,320,321,318],[280],[322,280,281,323,262,324,325,324,326],[276,192,192,322,247,322],[327,320,328,329],[330,320,331,332],[333,335,334],[337,336],[],[338],[],[],[],[133],[294],[339,283],[339,341,340],[],[],[190],[],[],[],[324,325,324,325],[296,296,342],[296,296,342,343,344,262,298,297,297,345,346,346,347],[348,281,278],[296,296,343],[349,350],[351,352],[351],[],[],[],[309,309,309,309,309,309],[],[],[],[354,353,355],[],[356,357],[230],[226,358,226,179,178],[],[],[],[330,327,320,331,328,332,329],[359,296],[262,262,359,296],[296,296,361,361,360,346],[264,264,362,362,363],[],[321],[364,365],[],[321],[366,365],[367,367,368],[368,368],[],[],[367],[],[337,336],[267,190,190],[369,370,267,370,280],[],[],[346],[],[],[346],[296,344,190,267,371,372],[],[],[373],[374],[],[],[],[],[375,376],[],[],[377,377,378,378,379,380,381],[],[263,263,301,382,263,300],[376,354],[383],[318],[384,364],[350],[],[385,385],[386],[],[305,306,306,306,308],[],[],[],[],[],[387,387,388],[389,389],[390,391,381],[392],[296],[],[],[393],[313,314,315,316],[],[390,391],[392],[394],[396],[397],[354],[395],[398,399],[392],[395],[],[400,401,402,403],[402,403],[402,402,403],[],[],[],[],[],[],[],[],[],[],[],[],[],[],[],[],[],[],[],[],[],[],[],[],[],[],[],[],[],[],[],[312,312]]
theorem leads:Tryz.prog.funcs.toList.map Tryz.prog.leadsTo=yt:=by kernel_rfl
theorem noGo:Tryz.prog.funcs.any Func.goes=false:=by kernel_rfl
theorem enters:Tryz.prog.mayEnter=true:=by kernel_rfl
theorem heard:Tryz.prog.stopsHeard=true:=by kernel_rfl
end Go.Eng
namespace Go.Eng
open Go.Proofs Go.Proofs.YthcgadjgfbnedaaGreatDoor
set_option maxRecDepth 100000
theorem Kx:Tryz.prog.closure 5=[5,13,20,14,24,16,33,34,22,40,41,8,25,44,45,66,35,67,98,101,46,47,68,99,69,100,132,176,48,70,71,72,73,74,75,62,84,107,136,182,183,192,230,184,223,226,177,221,224,225,274,185,139,187,188,108,137,186,138,85,109,140,110,79,102,133,178,179,180,222,141,56,142,189,227,131,174,218,268,309,310,219,269,311,270,271,190,229,273,313,314,354,353,355,315,316,356,357,375,376,312,272,175,220,228,275,317,276,318,358,319,320,321,277,280,327,328,329,364,383,365,247,289,278,322,330,331,332,366,384,281,323,359,296,262,324,325,361,360,377,378,387,388,390,394,395,398,399,400,402,403,401,391,396,392,397,379,389,380,381,346,326,264,298,362,263,297,301,342,343,344,345,347,382,300,363,191,193,231,194,232,233,234,279,267,304,349,350,305,351,373,352,374,306,307,308,282,333,367,368,335,334,283,337,336,235,284,285,338,286,195,236,240,288,237,238,196,239,287,197,10,30,26,49,63,86,111,112,113,143,144,151,145,146,147,87,114,148,115,116,149,198,199,241,242,243,88,117,118,150,153,152,154,155,156,157,89,119,158,200,120,121,159,201,244,205,245,246,42,64,9,12,32,57,58,27,28,50,51,76,52,53,77,54,78,55,29,90,122,160,202,248,250,249,251,252,172,171,215,265,299,266,302,348,371,372,303,216,290,294,291,339,292,341,369,385,393,370,386,340,253,293,123,161,203,254,91,124,162,204,255,130,173,217,256,295,257,92,125,163,164,206,207,208,209,258,210,259,93,126,165,166,94,127,167,168,211,212,213,214,260,95,128,169,261,65,97,96,129,170,31,15,7,23,43,18,36,19,37,59,80,103,134,104,105,135,181,106,81,82,38,39,60,61,83,21,17]:=(Bm leads 5).trans (by kernel_rfl)
theorem J0:(Rows.gateDocsRow.inPlace == Tryz.prog.inPlace 5)=true:=by
 unfold Program.inPlace
 rw [Kx];kernel_rfl
theorem KD:Tryz.prog.unfollowed 5=true:=by
 unfold Program.unfollowed
 rw [Kx];kernel_rfl
theorem KL:Tryz.prog.recurses 5=true:=by
 unfold Program.recurses
 rw [KD];rfl
theorem Kt:(Rows.gateDocsRow.named == Tryz.prog.varsNamed 5)=true:=by
 unfold Program.varsNamed
 rw [Kx];kernel_rfl
theorem closed5:joinedFacts Tryz.prog 5 Tryz.f5 Rows.gateDocsSpec Rows.gateDocsRow=true:=by
 unfold joinedFacts
 rw [J0,Kt,KD,KL,enters,heard];kernel_rfl
end Go.Eng
namespace Go.Eng
section
variable {P:Program} {n:Nat} {t:TypeId}
theorem opens_vals {tv tf tk ti tu ts tb ty:TypeId} (T:ValTys P tv tf tk ti tu ts tb ty) (ht:P.underlying t=some (.slice tv)):tJ P n t (List Val) fun l=>[.sl .vl l] :=
 qn (st := .vl) ht T.cv (by decide) fun m _=>(T.val m).1
theorem opens_ints {i:TypeId} (ht:P.underlying t=some (.slice i)) (hi:P.underlying i=some (.int .i64)) (ci:P.cellsOf i=1):tJ P n t (List Int) fun l=>[.sl .is l] :=
 qn (st := .is) ht ci (by decide) fun _ _=>Jt hi
theorem rep_one {A:Type} {g:A→TV} (o:∀n,tJ P n t A fun a=>[g a]) {H:Type} {enc:TypeId × Value→H} {w:World} {base:Nat} {spare:Nat→Bool} {held:Bool} {v:Value} {d:DataW H} {p:List MemPlace} (hv:v.cells=#[v]) (h:DataW.Trod enc P w base spare held t v d p):∃a:A,Rep (Old w) w (g a) v:=by
 obtain ⟨n,h⟩:=h
 obtain ⟨a,ha⟩:=o n H enc w base spare held _ _ h
 rw [hv] at ha
 cases ha with
 | cons _ hr _=>exact ⟨a,hr⟩
end
end Go.Eng
namespace Go.Eng
theorem gl_var {P:Program} {w:World} {name:String} {g:Nat} {vs:List Value} {r:List (Nat × List Value)} (h:w.var? P name=some vs.toArray) (hg:P.globalNamed name=some g) (t:GlOK (yJ r) (Old w) w):GlOK (yJ ((g,vs) :: r)) (Old w) w:=fun n us hn o=>by
 unfold yJ at hn
 cases hb:Nat.beq n g with
 | true =>
  rw [hb] at hn;cases hn;rw [aj hb]
  refine ⟨?_,by have:=World.var?_cell hg h o;simpa using this⟩
  unfold World.var? at h
  rw [hg] at h
  simp only [Option.bind_some] at h
  cases hh:w.heap[g]? with
  | none=>rw [hh] at h;cases h
  | some x=>exact (Array.getElem?_eq_some_iff.1 hh).1
 | false=>rw [hb] at hn;exact t n us hn o
end Go.Eng
