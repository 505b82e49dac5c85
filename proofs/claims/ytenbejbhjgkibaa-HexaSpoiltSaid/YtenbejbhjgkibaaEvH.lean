/- From a function's contract to a row's walk. -/
import Derived.Test.YtenbejbhjgkibaaEvG
import Derived.ChangeShapes
import Derived.ProofKit
set_option linter.unusedVariables false
set_option linter.unusedSimpArgs false
namespace Go.Eng
open Go.RowKit

/-- All that is there may be read. -/
def Old (w : World) : Reach := fun b _ => b < w.heap.size

theorem calls_of_spec {P : Program} {gl : Nat → AV} {f : Nat} {c : Ctr} {sg : FSig} (hsg : sg = {}) (h : SpecOK P gl f (Ctr.fs (c, sg))) {ti : List TV} {xs : List Value} {w : World}
    (hgl : ∀ n, Rep (Old w) w (gl n) (.pointer (some ⟨n, 0, none⟩))) (hc : (c ti).holds [.b true]) (ha : RepT (Old w) w (ti.map TV.av) xs) :
    Calls P f ⟨xs⟩ w fun e w' => e = .returned (.bool true) ∧ Below w.heap.size w w' := by
  subst hsg
  refine (h w (Old w) (ti.map TV.av) [.v (.bool true)] xs ⟨ti, [.b true], rfl, rfl, hc⟩ (fun b o hb => hb) hgl ha).mono ?_
  rintro e w' ⟨x, R', rfl, hx, hr, ho⟩
  obtain ⟨rvs, tr, to_, tn, bn, br, cn, cr, h1, h2, h3, h4, _⟩ := ho
  refine ⟨?_, hx.os, hx.tape, hx.output, hx.size, fun k hk => hx.heap k hk id⟩
  congr 1
  rw [h2]
  have h1 : rvs.length = 1 := h1
  match rvs, h1 with
  | [y], _ =>
    have h4 : RepT R' w' [.v (.bool true)] [y] := h4
    cases h4 with
    | cons a _ => cases a; rfl

theorem u8_wf {n : Int} (h : (Lit.int .u8 n).wf = true) : ((UInt8.ofInt n).toNat : Int) = n := by
  have hx : 0 ≤ n ∧ n ≤ 255 := by simpa [Lit.wf, IntKind.min, IntKind.max, IntKind.signed, IntKind.bits] using h
  rw [u8_ofInt, wrap_u8']; omega

/-- A row of bytes that came in. -/
theorem rep_row {w : World} {a : Option Addr} {len cap : Nat} {zs : List Int}
    (h : (a = none ∧ len = 0 ∧ cap = 0 ∧ zs = []) ∨ ∃ x, a = some x ∧ len ≤ cap ∧ cap ≤ maxLen ∧ zs.length = cap ∧ (∀ i, i < zs.length → w.cell? (x.add i) = some (.int .u8 (zs.getD i 0))) ∧ ∀ n ∈ zs, (Lit.int .u8 n).wf = true) :
    Rep (Old w) w (TV.av (.sl .bs ((zs.take len).map UInt8.ofInt))) (.slice a len cap) := by
  rcases h with ⟨rfl, rfl, rfl, rfl⟩ | ⟨x, rfl, h1, h2, h3, h4, h5⟩
  · exact .nil 1
  · by_cases h0 : len = 0
    · subst h0; exact .em 1 h2
    · have hc0 := h4 0 (by omega)
      obtain ⟨xb, xo, spot⟩ := x
      have hspot : spot = none := by simpa [Addr.add] using World.cell?_spot hc0
      subst hspot
      have hb : xb < w.heap.size := by
        by_cases hlt : xb < w.heap.size
        · exact hlt
        · have : w.heap[xb]? = none := Array.getElem?_eq_none (by omega)
          simp [Addr.add, World.cell?, this] at hc0
      refine .sl (by simp; omega) h1 h2 ?_
      refine RepE.write (ys := (zs.take len).map (.int .u8)) ?_ ?_ (fun j _ => hb) ?_
      · intro e he; simp only [List.mem_map] at he; obtain ⟨q, _, rfl⟩ := he; rfl
      · have key : ∀ l : List Int, (∀ n ∈ l, (Lit.int .u8 n).wf = true) → RepL (Old w) w (((l.map UInt8.ofInt).map (STy.av .bs)).flatMap AV.cells) (l.map (.int .u8)) := by
          intro l hl
          induction l with
          | nil => exact .nil
          | cons n l ih =>
            refine .cons rfl ?_ (ih fun m hm => hl m (List.mem_cons_of_mem _ hm))
            have := u8_wf (hl n (List.mem_cons_self ..))
            simp only [STy.av, byteAV, this]
            exact .v _
        exact key _ fun n hn => h5 n (List.mem_of_mem_take hn)
      · intro j y hy
        simp only [List.getElem?_map] at hy
        cases e : (zs.take len)[j]? with
        | none => rw [e] at hy; cases hy
        | some n =>
          rw [e] at hy
          cases hy
          rw [List.getElem?_take] at e
          split at e
          · have hj : j < zs.length := (List.getElem?_eq_some_iff.1 e).1
            have := h4 j hj
            rw [addr_add] at this
            rw [this, List.getD_eq_getElem?_getD, e]; rfl
          · cases e
theorem rep_str {R : Reach} {w : World} (a : ByteArray) : Rep R w (TV.av (.s a.data.toList)) (.string a) := .v _
theorem rep_int {R : Reach} {w : World} (k : IntKind) (n : Int) : Rep R w (TV.av (.i k n)) (.int k n) := .v _
theorem rep_u8 {R : Reach} {w : World} {n : Int} (h : (Lit.int .u8 n).wf = true) : Rep R w (TV.av (.u8 (UInt8.ofInt n))) (.int .u8 n) := by
  have := u8_wf h
  simp only [TV.av, byteAV, this]
  exact .v _

/-! ## Environments -/
/-- None is known. -/
def noCtr : Ctr × FSig := (fun _ => .err, {})
theorem spec_none {P : Program} {gl : Nat → AV} {f : Nat} : SpecOK P gl f (Ctr.fs noCtr) := by
  intro w R ins outs xs hg
  obtain ⟨ti, to_, _, _, h⟩ := hg
  exact h.elim
def envL (gl : Nat → TV) (l : List (Nat × (Ctr × FSig))) : TEnv := ⟨fun n => look l n, gl⟩
where look : List (Nat × (Ctr × FSig)) → Nat → Ctr × FSig
  | [], _ => noCtr
  | (k, c) :: r, n => cond (Nat.beq n k) c (look r n)
theorem env_ok {P : Program} {gl : Nat → TV} {l : List (Nat × (Ctr × FSig))} (h : ∀ p ∈ l, SpecOK P (fun n => (gl n).av) p.1 (Ctr.fs p.2)) : ∀ f, SpecOK P (envL gl l).env.gl f (Ctr.fs ((envL gl l).fs f)) := by
  intro f
  show SpecOK P (fun n => (gl n).av) f (Ctr.fs (envL.look l f))
  induction l with
  | nil => exact spec_none
  | cons p r ih =>
    obtain ⟨k, c⟩ := p
    simp only [envL.look]
    cases hb : Nat.beq f k with
    | true => rw [Nat.eq_of_beq_eq_true hb]; exact h (k, c) (List.mem_cons_self ..)
    | false => exact ih fun q hq => h q (List.mem_cons_of_mem _ hq)
def noGl : Nat → TV := fun _ => .dead

/-- A contract is met: in one line. -/
theorem meets {P : Program} {gl : Nat → TV} {l : List (Nat × (Ctr × FSig))} (hE : ∀ p ∈ l, SpecOK P (fun n => (gl n).av) p.1 (Ctr.fs p.2)) {f : Nat} {d : TFD}
    (hc : ((P.funcs[f]?).any fun fn => chkF P (fun n => ((envL gl l).fs n).2) fn d.erase) = true) {c : Ctr} (hG : ∀ ins outs, (c ins).holds outs → ins.length = d.np ∧ d.run (envL gl l) ins = some outs) :
    SpecOK P (fun n => (gl n).av) f (Ctr.fs (c, d.erase.sg)) := by
  cases hf : P.funcs[f]? with
  | none => rw [hf] at hc; cases hc
  | some fn =>
    rw [hf] at hc
    exact spec_of (E := envL gl l) (env_ok hE) hf hc hG
theorem all_nil {A : Type} {p : A → Prop} : ∀ x ∈ ([] : List A), p x := fun _ h => by cases h
theorem all_cons {A : Type} {p : A → Prop} {a : A} {l : List A} (h : p a) (t : ∀ x ∈ l, p x) : ∀ x ∈ a :: l, p x := fun x hx => by
  rcases List.mem_cons.1 hx with rfl | hx
  · exact h
  · exact t x hx
end Go.Eng
