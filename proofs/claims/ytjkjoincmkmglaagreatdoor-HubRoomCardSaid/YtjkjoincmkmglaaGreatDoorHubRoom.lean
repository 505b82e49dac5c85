/- HubRoom: for every input the law returns true, and each argument reads as it did. Conditions: none. -/
import Derived.Test.YtjkjoincmkmglaaGreatDoorRows
import Derived.WalkKit
import Derived.ProofKit
import Derived.OpenShut
import Derived.ShutString
import Derived.ChangeOld
import Derived.Below
import Derived.LaidMore
import Derived.Lay
import Derived.LaidLaws
import Derived.Stop.Joined
import Derived.SevenTiedAt
import Derived.Test.YtjkjoincmkmglaaGreatDoorTie
import Derived.Test.YtjkjoincmkmglaaGreatDoorCards
import Derived.Test.YtjkjoincmkmglaaGreatDoorT7
set_option linter.defProp false
set_option linter.unusedVariables false
set_option linter.unusedSimpArgs false
namespace Go.Proofs.YtjkjoincmkmglaaGreatDoor.hubRoom
open Go.ChangeShapes Go.WideShapes Go.ChangeAt Go.RowKit
open Go.ChangeMaps (open_string shut_string)
set_option linter.unusedVariables false

theorem own : ownKnob Tryz.prog.godebug = none := by kernel_rfl
theorem laidOut : laidOutB Tryz.prog = true := by kernel_rfl
theorem tys26 : Go.Eng.ValTys Tryz.prog 26 75 24 3 22 9 23 5 := by constructor <;> kernel_rfl
abbrev L : List (String × DataW Unit) := Rows.hubRoomRow.laid
theorem of_laid {W : World} (h : laidMetH Tryz.prog L W) : ∃ ee : Go.Eng.Errs, Go.Eng.GlOK (Go.Eng.cnGl ee) (Go.Eng.Old W) W := by
  rw [MakeChecks.laidMetH_plain _ _ _ (by kernel_rfl)] at h
  obtain ⟨ps, ⟨g0, t0, cs0, f0, p0, q0, hg0, ht0, hv0, hd0, ⟨g1, t1, cs1, f1, p1, q1, hg1, ht1, hv1, hd1, ⟨g2, t2, cs2, f2, p2, q2, hg2, ht2, hv2, hd2, ⟨g3, t3, cs3, f3, p3, q3, hg3, ht3, hv3, hd3, ⟨g4, t4, cs4, f4, p4, q4, hg4, ht4, hv4, hd4, ⟨g5, t5, cs5, f5, p5, q5, hg5, ht5, hv5, hd5, ⟨g6, t6, cs6, f6, p6, q6, hg6, ht6, hv6, hd6, _, _⟩, _⟩, _⟩, _⟩, _⟩, _⟩, _⟩, _, _⟩ := h
  obtain rfl := Option.some.inj (hg1.symm.trans (show _ = some 5 by kernel_rfl))
  obtain rfl := Option.some.inj (ht1.symm.trans (show _ = some 423 by kernel_rfl))
  have e1 := Lib.cells_of_tab (zs := (Lib.deBruijn64tab.map Int.ofNat)) (show Tryz.prog.underlying 423 = some (.array 64 5) by kernel_rfl) (show Tryz.prog.underlying 5 = some (.int .u8) by kernel_rfl) (by kernel_rfl) (by kernel_rfl) hd1
  obtain rfl := Option.some.inj (hg2.symm.trans (show _ = some 3 by kernel_rfl))
  obtain rfl := Option.some.inj (ht2.symm.trans (show _ = some 364 by kernel_rfl))
  have e2 := Lib.cells_of_tab (zs := Lib.pow10Tab) (show Tryz.prog.underlying 364 = some (.array 20 22) by kernel_rfl) (show Tryz.prog.underlying 22 = some (.int .u64) by kernel_rfl) (by kernel_rfl) (by kernel_rfl) hd2
  obtain rfl := Option.some.inj (hg5.symm.trans (show _ = some 0 by kernel_rfl))
  obtain rfl := Option.some.inj (ht5.symm.trans (show _ = some 159 by kernel_rfl))
  obtain ⟨_, u5, y5, e5, _, _⟩ := Go.iface_of_trod Tryz.underlying159 hd5
  obtain rfl := Option.some.inj (hg4.symm.trans (show _ = some 1 by kernel_rfl))
  obtain rfl := Option.some.inj (ht4.symm.trans (show _ = some 159 by kernel_rfl))
  obtain ⟨_, u4, y4, e4, _, _⟩ := Go.iface_of_trod Tryz.underlying159 hd4
  refine ⟨⟨(.iface u5 y5, .iface u4 y4), .inr ⟨_, _, rfl⟩, .inr ⟨_, _, rfl⟩⟩, ?_⟩
  unfold Go.Eng.cnGl
  refine Go.Eng.gl_cons ?_ hg1 (Go.Eng.gl_cons ?_ hg2 (Go.Eng.gl_var (by rw [hv5, ← e5]) hg5 (Go.Eng.gl_var (by rw [hv4, ← e4]) hg4 (Go.Eng.gl_nil))))
  · unfold Lib.TabIs; rw [hv1, ← e1]
  · unfold Lib.TabIs; rw [hv2, ← e2]

def IsRow (k : IntKind) (w : World) (a : Option Addr) (len cap : Nat) (zs : List Int) : Prop :=
  (a = none ∧ len = 0 ∧ cap = 0 ∧ zs = []) ∨
  ∃ x, a = some x ∧ len ≤ cap ∧ cap ≤ maxLen ∧ zs.length = cap ∧ (∀ i, i < zs.length → w.cell? (x.add i) = some (.int k (zs.getD i 0))) ∧ ∀ n ∈ zs, (Lit.int k n).wf = true

theorem walk (a0 : Array Value) (a1 : Int) (w : World) (w0 : ∃ x : Go.Eng.Val, Go.Eng.Rep (Go.Eng.Old w) w (.ag (Go.Eng.Val.cells x)) (.agg a0)) (w1 : (Lit.int .i64 a1).wf = true) (hL : laidMetH Tryz.prog L w) :
    Calls Tryz.prog 3 #[.agg a0, .int .i64 a1] w fun e w' => e = .returned (.bool true) ∧ Below w.heap.size w w' := by
  obtain ⟨x0, r0⟩ := w0
  obtain ⟨ee, hE⟩ := of_laid hL
  exact Go.Eng.calls_of_spec (Go.Eng.HubRoom.ok (ee := ee)) (ti := [.ag (Go.Eng.Val.cells x0), .i .i64 _]) hE rfl (.cons r0 (.cons (Go.Eng.rep_int _) .nil))

set_option maxRecDepth 100000 in
theorem lifted (os : Os) (started : os.Started) (H : Type) (enc : TypeId × Value → H) :
    ReturnsInHanded {} Tryz.checked os 3 .any (fun w args => (Rows.hubRoomSpec.pre enc Tryz.prog Tryz.f3 [] false w args ∧ laidMetH Tryz.prog L w) ∧ sizedMet enc Tryz.prog Tryz.f3 (OpenSpec.ofChange Rows.hubRoomSpec) false w args) (Rows.hubRoomSpec.post enc Tryz.prog Tryz.f3 false true false false) := by
  refine returnsInHanded_of_change_and (C := Tryz.checked) (X := fun w _ => laidMetH Tryz.prog L w) (fun _ _ _ hh h => h.of_heap hh) own started (by kernel_rfl) Tryz.func3
    (ChangeSpec.witness_shaped (enc := enc) (C := Tryz.checked) (os := os) (X := fun w _ => laidMetH Tryz.prog L w) false (World.laidAll Tryz.prog os L) #[.agg #[.int .i64 0, .int .u64 0, .int .u64 0, .int .u64 0, .string ByteArray.empty, .string ByteArray.empty, .int .i64 0, .slice none 0 0, .slice none 0 0], .int .i64 0] 8 (World.laidAll_os _ _ _) (World.shaped_of_ZipB (by kernel_rfl) (by kernel_rfl)) (by kernel_rfl) (by kernel_rfl) (by kernel_rfl) (by rw [MakeChecks.laidMetH_plain _ _ _ (by kernel_rfl)]; exact laidMet_laidAll _ (by kernel_rfl) (by kernel_rfl))) ?_
  intro W base args ds gs before hval0 hW _ _ hL _
  have hval : ∀ (j : Nat) t v, Tryz.f3.params[j]? = some t → args[j]? = some v → Value.okWide Tryz.prog W .any base t v := hval0
  have hW' := hW
  obtain ⟨p, q, hA0, hV, rfl, hfz, hnd⟩ := hW
  have hA : DataW.TrodAll enc Tryz.prog W 0 (fun _ => true) true Tryz.f3.params.toList args.toList ds p := hA0
  rw [Tryz.params3] at hA hval
  obtain ⟨v0, vs0, d0, ds0, p0, q0, hargs, rfl, rfl, h0, r0⟩ := trodAll_cons hA
  obtain ⟨v1, vs1, d1, ds1, p1, q1, rfl, rfl, rfl, h1, r1⟩ := trodAll_cons r0
  obtain ⟨rfl, rfl, rfl⟩ := trodAll_nil r1
  obtain rfl : args = #[v0, v1] := by cases args; simp_all
  obtain ⟨rfl, rfl⟩ := trodVars_none hV
  obtain ⟨a0, rfl, _⟩ := okWide_struct Tryz.underlying26 (hval 0 26 v0 rfl rfl)
  have k0 := h0
  have lt0 : ∀ x ∈ p0, x.block < W.heap.size := by obtain ⟨m, hm⟩ := k0; exact DataW.trod_lt m _ _ _ hm
  have w0 := tys26.rep h0
  obtain ⟨a1, rfl, rfl, rfl, w1⟩ := open_int Tryz.underlying3 (hval 1 3 v1 rfl rfl) h1
  clear hA0 hval0
  refine (walk a0 a1 W w0 w1 hL).mono fun e W' ⟨he, bel⟩ => ?_
  subst he
  exact ⟨_, rfl, _, _, _, [], _, [], hW', trodAll_mk1 (shut_bool Tryz.underlying4 _), (trodAll_cons_mk (Below.trod laidOut (by kernel_rfl) (of_decide_eq_true (by kernel_rfl)) k0 bel lt0) (trodAll_cons_mk (shut_int Tryz.underlying3 w1) trodAll_mk0)), rfl, bel.frame _, fun h => by cases h⟩

theorem over : Rows.hubRoomRow.holds Tryz.pinned (OpenSpec.ofChange Rows.hubRoomSpec) :=
  OpenClaim.holds_of_wide 3 Tryz.f3 rfl rfl rfl rfl rfl rfl rfl ⟨rfl, rfl, rfl, rfl, rfl⟩ rfl rfl rfl rfl rfl (by kernel_rfl) Tryz.func3 Go.Eng.closed3
    (of_decide_eq_true (by kernel_rfl)) (by unfold Func.isWrapper; first | (rw [if_pos (by decide +kernel)]; kernel_rfl) | (rw [if_neg (by decide +kernel)]; exact ⟨rfl, rfl⟩))
    (fun os started H enc _ => lifted os started H enc)

theorem proved : Rows.HubRoomCardSaid :=
  Claim7.holds_tied_plain_at .later [] Rows.hubRoomCard.laidKinds true Rows.hubRoomCard.stood.harness Rows.hubRoomCard.stood.looks
    over (fun _ h => by cases h) (by kernel_rfl) (fun _ h => by cases h) hubRoom_row_tie rfl ⟨rfl, rfl⟩ (by kernel_rfl) rfl
    (fun f fn hf hfn => by
      obtain rfl : f = 3 := Option.some.inj ((show Tryz.prog.funcNamed Rows.hubRoomRow.func = some 3 by kernel_rfl).symm.trans hf) |>.symm
      obtain rfl : fn = Tryz.f3 := (Option.some.inj (Tryz.func3.symm.trans hfn)).symm
      exact ⟨by kernel_rfl, fun j t ht => by
        rw [Tryz.params3] at ht
        have h3 : t ∈ [26, 3] := List.mem_of_getElem? (by simpa using ht)
        exact (show ∀ t ∈ [26, 3], Tryz.prog.wantsStandIn t = false by
          intro t h
          simp only [List.mem_cons, List.not_mem_nil, or_false] at h
          rcases h with rfl | rfl <;> kernel_rfl) t h3⟩)
    (Go.Eng.goesBy_none Go.Eng.noGo rfl)
#print axioms proved
end Go.Proofs.YtjkjoincmkmglaaGreatDoor.hubRoom
