/- Each operation of the small language is what the machine does: the operations that give a value and leave the world as it is. -/
import Derived.Test.YtenbejbhjgkibaaEngD
import Derived.Laws.IdiomStrings
import Derived.Laws.Entries
import Derived.Laws.BytesString
set_option linter.unusedVariables false
set_option linter.unusedSimpArgs false
namespace Go.Eng
open Go.RowKit

theorem opds1 {x : Operand} {rs : List Opd} (h : opdsOK [x] rs = true) : ∃ r, rs = [r] ∧ opdOK x r = true := by
  match rs, h with
  | [r], h => simp [opdsOK] at h; exact ⟨r, rfl, h⟩
  | [], h => simp [opdsOK] at h
  | _ :: _ :: _, h => simp [opdsOK] at h
theorem opds2 {x y : Operand} {rs : List Opd} (h : opdsOK [x, y] rs = true) : ∃ r q, rs = [r, q] ∧ opdOK x r = true ∧ opdOK y q = true := by
  match rs, h with
  | [r, q], h => simp [opdsOK] at h; exact ⟨r, q, rfl, h⟩
  | [], h => simp [opdsOK] at h
  | [_], h => simp [opdsOK] at h
  | _ :: _ :: _ :: _, h => simp [opdsOK] at h
theorem opds3 {x y z : Operand} {rs : List Opd} (h : opdsOK [x, y, z] rs = true) : ∃ r q s, rs = [r, q, s] ∧ opdOK x r = true ∧ opdOK y q = true ∧ opdOK z s = true := by
  match rs, h with
  | [r, q, s], h => simp [opdsOK] at h; exact ⟨r, q, s, rfl, h⟩
  | [], h => simp [opdsOK] at h
  | [_], h => simp [opdsOK] at h
  | [_, _], h => simp [opdsOK] at h
  | _ :: _ :: _ :: _ :: _, h => simp [opdsOK] at h

theorem sameV_eq {x y : Value} (h : sameV x y = true) : x = y := by
  unfold sameV at h
  split at h <;> first | (simp at h; done) | (simp_all; done) | skip
  · rename_i a b
    cases a; cases b; rename_i a b; cases a; cases b; simp_all

section
variable {R : Reach} {w : World}
theorem constCell_rep {x : Value} {y : AV} (h : constCell x y = true) : Rep R w y x := by
  unfold constCell at h
  split at h
  · exact .nil _
  · cases h
  · rw [sameV_eq h]; exact .v _
  · cases h
theorem constCell_one {x : Value} {y : AV} (h : constCell x y = true) : x.oneCell' = true := by
  unfold constCell at h
  split at h
  · rfl
  · cases h
  · have := sameV_eq h; subst this; unfold sameV at h; split at h <;> first | rfl | (simp at h)
  · cases h
theorem constCells_rep : ∀ {xs : List Value} {ys : List AV}, constCells xs ys = true → RepL R w ys xs
  | [], [], _ => .nil
  | x :: xs, y :: ys, h => by
    simp [constCells] at h
    exact .cons (constCell_one h.1) (constCell_rep h.1) (constCells_rep h.2)
  | [], _ :: _, h => by simp [constCells] at h
  | _ :: _, [], h => by simp [constCells] at h
theorem constOK_rep {x : Value} {y : AV} (h : constOK x y = true) : Rep R w y x := by
  unfold constOK at h
  split at h
  · rename_i cs ys; cases cs; exact .ag (constCells_rep h)
  · cases h
  · exact constCell_rep h
end

section
variable {C : Ctx} {D : Dyn} {σ : Sg} {γ : Ga} {a : Act} {w : World}

/-- What an operand is. -/
theorem Sim.opd (h : Sim C D σ γ a w) {x : Operand} {r : Opd} (hx : opdOK x r = true) (hs : small C.nt [x] = true) : SlotOK D w (r.ev C.E σ) (r.gh γ) (a.eval x) := by
  unfold opdOK at hx
  split at hx
  · simp at hx; subst hx; simp [small] at hs; exact h.slot _ hs
  · exact .inr ⟨constOK_rep hx, fun _ => trivial⟩
  · simp at hx; obtain ⟨⟨h1, h2⟩, h3⟩ := hx; subst h1; subst h2; subst h3; exact .inr ⟨.v _, fun _ => trivial⟩
  · simp at hx; subst hx; exact .inr ⟨h.gl _, fun _ => trivial⟩
  · cases hx

theorem SlotOK.rep {s : AV} {g : Gh} {x : Value} (h : SlotOK D w s g x) (hs : s ≠ .dead) : Rep D.R w s x := (h.resolve_left hs).1
theorem SlotOK.gh {s : AV} {g : Gh} {x : Value} (h : SlotOK D w s g x) (hs : s ≠ .dead) (hk : s ≠ .sk) : GhOK D g x := (h.resolve_left hs).2 hk

theorem SlotOK.plain {s : AV} {x : Value} (h : Rep D.R w s x) : SlotOK D w s .no x := .inr ⟨h, fun _ => trivial⟩

/-- An operation that gives a value and leaves the world. -/
theorem Sim.val (h : Sim C D σ γ a w) {o : Oper} {d : Nat} (hd : o.dst = some d) (hl : d < C.nt) {v : Value} {s : AV} {g : Gh} (hr : (execOp a.eval o).run C.P w = .ok (.value v) w)
    (hs : SlotOK D w s g v) (g1 : g.isCl = false) (g2 : g.isLk = false) (gm : Ment γ g) {K : Act → World → Prop} {Q : Exit → Act → World → Prop}
    (hK : ∀ D' a' w', Sim C D' (upd σ d s) (upd γ d g) a' w' → K a' w') : o.wp C.P a w K Q := by
  unfold Oper.wp
  rw [hr, Oper.upon_value, hd]
  exact hK _ _ _ (h.put hl hs g1 g2 gm)

theorem Sim.valNo (h : Sim C D σ γ a w) {o : Oper} {d : Nat} (hd : o.dst = some d) (hl : d < C.nt) {v : Value} {s : AV} (hr : (execOp a.eval o).run C.P w = .ok (.value v) w)
    (hs : Rep D.R w s v) {K : Act → World → Prop} {Q : Exit → Act → World → Prop}
    (hK : ∀ D' a' w', Sim C D' (upd σ d s) (upd γ d .no) a' w' → K a' w') : o.wp C.P a w K Q :=
  h.val hd hl hr (.plain hs) rfl rfl trivial hK

theorem Sim.ment_opd (h : Sim C D σ γ a w) (r : Opd) : Ment γ (r.gh γ) := by
  cases r with
  | s t => exact h.inv t
  | _ => trivial

theorem Ment.strip {g : Gh} (h : Ment γ g) : Ment γ g.strip := by cases g <;> first | exact h | trivial

variable {o : Oper} {d : Nat} {K : Act → World → Prop} {Q : Exit → Act → World → Prop} (h : Sim C D σ γ a w) (hd : o.dst = some d) (hl : d < C.nt)
include h hd hl

theorem op_mv {x : Operand} {r : Opd} (ho : o.op = .move x ∨ o.op = .assign x) (hx : opdOK x r = true) (hs : small C.nt [x] = true)
    (hK : ∀ D' a' w', Sim C D' (upd σ d (r.ev C.E σ)) (upd γ d (r.gh γ).strip) a' w' → K a' w') : o.wp C.P a w K Q := by
  have hr : (execOp a.eval o).run C.P w = .ok (.value (a.eval x)) w := by rcases ho with e | e <;> simp [execOp, e]
  refine h.val hd hl hr (g := (r.gh γ).strip) ?_ ?_ ?_ (h.ment_opd r).strip hK
  · rcases h.opd hx hs with e | ⟨e1, e2⟩
    · exact .inl e
    · exact .inr ⟨e1, by cases hg : r.gh γ <;> rw [hg] at e2 <;> first | exact e2 | trivial⟩
  · cases r.gh γ <;> rfl
  · cases r.gh γ <;> rfl

theorem op_pick {c x y : Operand} {r q s : Opd} {b : Bool} (ho : o.op = .pick c x y) (hc : opdOK c r = true) (hx : opdOK x q = true) (hy : opdOK y s = true) (hs : small C.nt [c] = true) (hs1 : small C.nt [x] = true) (hs2 : small C.nt [y] = true)
    (hb : r.ev C.E σ = .v (.bool b)) (hK : ∀ D' a' w', Sim C D' (upd σ d (if b then q.ev C.E σ else s.ev C.E σ)) (upd γ d .no) a' w' → K a' w') : o.wp C.P a w K Q := by
  have hv := (h.opd hc hs).rep (by rw [hb]; simp)
  rw [hb] at hv
  have hv' : a.eval c = .bool b := by generalize a.eval c = z at hv; cases hv; rfl
  have hr : (execOp a.eval o).run C.P w = .ok (.value (if b then a.eval x else a.eval y)) w := by cases b <;> simp [execOp, ho, hv', asBool]
  refine h.val hd hl hr (g := .no) ?_ rfl rfl trivial hK
  cases b with
  | true => exact (h.opd hx hs1).imp id fun e => ⟨e.1, fun _ => trivial⟩
  | false => exact (h.opd hy hs2).imp id fun e => ⟨e.1, fun _ => trivial⟩

omit h hd hl in
theorem Rep.v_inv {R : Reach} {x y : Value} (h : Rep R w (.v x) y) : y = x := by cases h; rfl

omit h hd hl in
theorem binV_run {P : Program} {w : World} {op : BinOp} {t : TypeId} {x y z : Value} (h : binV op x y = some z) : (binOp op t x y).run P w = .ok z w := by
  unfold binV at h
  split at h
  all_goals repeat' split at h
  all_goals first
    | (cases h; done)
    | (cases h; simp only [binOp, Op.shift, Sem.run_ite]; rw [if_neg (by assumption)]; rfl)
    | (cases h; simp_all [binOp, Op.shift, Op.intArith, Op.intDiv, Op.intBits, Op.intCmp, Op.stringOp, intBitsV]; done)
    | skip

omit h hd hl in
theorem unV_run {P : Program} {w : World} {op : UnOp} {x z : Value} (h : unV op x = some z) : (Op.unary op x).run P w = .ok z w := by
  unfold unV at h
  split at h <;> cases h <;> simp [Op.unary, Op.intArith, Op.intBits, intBitsV]

theorem op_bin {b : BinOp} {t t' : TypeId} {x y : Operand} {r q : Opd} {u v z : Value} (ho : o.op = .binOp b t x y t') (hx : opdOK x r = true) (hy : opdOK y q = true) (hs1 : small C.nt [x] = true) (hs2 : small C.nt [y] = true)
    (hr : r.ev C.E σ = .v u) (hq : q.ev C.E σ = .v v) (hz : binV b u v = some z) (hK : ∀ D' a' w', Sim C D' (upd σ d (.v z)) (upd γ d .no) a' w' → K a' w') : o.wp C.P a w K Q := by
  have e1 := (h.opd hx hs1).rep (by rw [hr]; simp)
  have e2 := (h.opd hy hs2).rep (by rw [hq]; simp)
  rw [hr] at e1; rw [hq] at e2
  have hg : eqGuard b t x y u v = pure () := by
    unfold binV at hz
    split at hz <;> first | (cases hz; done) | (unfold eqGuard; split <;> simp_all)
  have hrun : (execOp a.eval o).run C.P w = .ok (.value z) w := by
    simp only [execOp, ho, e1.v_inv, e2.v_inv, hg, Sem.run_bind, Sem.run_pure, Result.andThen_ok, binV_run hz]
  exact h.valNo hd hl hrun (.v z) hK

theorem op_be {neg : Bool} {b : BinOp} {t t' : TypeId} {x y : Operand} {r q : Opd} {u v : Bool} (ho : o.op = .binOp b t x y t') (hb : b = if neg then .neq else .eql) (ht : C.P.underlying t = some .bool) (hx : opdOK x r = true) (hy : opdOK y q = true) (hs1 : small C.nt [x] = true) (hs2 : small C.nt [y] = true)
    (hr : r.ev C.E σ = .v (.bool u)) (hq : q.ev C.E σ = .v (.bool v)) (hK : ∀ D' a' w', Sim C D' (upd σ d (.v (.bool (if neg then !(u == v) else u == v)))) (upd γ d .no) a' w' → K a' w') : o.wp C.P a w K Q := by
  have e1 := (h.opd hx hs1).rep (by rw [hr]; simp)
  have e2 := (h.opd hy hs2).rep (by rw [hq]; simp)
  rw [hr] at e1; rw [hq] at e2
  have hg : eqGuard b t x y (.bool u) (.bool v) = pure () := by unfold eqGuard; cases neg <;> simp [hb]
  have he : (Op.equal t (.bool u) (.bool v)).run C.P w = .ok (u == v) w := by
    unfold Op.equal Op.maxDepth
    rw [show (10000 : Nat) = 9999 + 1 from rfl, Op.equalIn]
    simp [run_underlying ht]
  have hrun : (execOp a.eval o).run C.P w = .ok (.value (.bool (if neg then !(u == v) else u == v))) w := by
    simp only [execOp, ho, e1.v_inv, e2.v_inv, hg, Sem.run_bind, Sem.run_pure, Result.andThen_ok]
    cases neg <;> simp [hb, binOp, he]
  exact h.valNo hd hl hrun (.v _) hK

theorem op_un {b : UnOp} {t : TypeId} {x : Operand} {r : Opd} {u z : Value} (ho : o.op = .unOp b t x) (hx : opdOK x r = true) (hs1 : small C.nt [x] = true)
    (hr : r.ev C.E σ = .v u) (hz : unV b u = some z) (hK : ∀ D' a' w', Sim C D' (upd σ d (.v z)) (upd γ d .no) a' w' → K a' w') : o.wp C.P a w K Q := by
  have e1 := (h.opd hx hs1).rep (by rw [hr]; simp)
  rw [hr] at e1
  have hrun : (execOp a.eval o).run C.P w = .ok (.value z) w := by
    simp only [execOp, ho, e1.v_inv, Sem.run_bind, Sem.run_pure, Result.andThen_ok, unV_run hz]
  exact h.valNo hd hl hrun (.v z) hK

theorem op_ci {k k' : IntKind} {n : Int} {s t : TypeId} {x : Operand} {r : Opd} (ho : o.op = .convert s t x) (ht : C.P.underlying t = some (.int k)) (hs : (C.P.underlying s).isSome = true) (hx : opdOK x r = true) (hs1 : small C.nt [x] = true)
    (hr : r.ev C.E σ = .v (.int k' n)) (hK : ∀ D' a' w', Sim C D' (upd σ d (.v (.int k (k.wrap n)))) (upd γ d .no) a' w' → K a' w') : o.wp C.P a w K Q := by
  have e1 := (h.opd hx hs1).rep (by rw [hr]; simp)
  rw [hr] at e1
  obtain ⟨u, hu⟩ := Option.isSome_iff_exists.1 hs
  have hrun : (execOp a.eval o).run C.P w = .ok (.value (.int k (k.wrap n))) w := by
    simp only [execOp, ho, e1.v_inv, convert, Sem.run_bind, run_underlying hu, run_underlying ht, Result.andThen_ok, Conv.intToInt, Sem.run_pure]
  exact h.valNo hd hl hrun (.v _) hK

theorem op_cs {s t : TypeId} {x : Operand} {r : Opd} {b : ByteArray} (ho : o.op = .convert s t x) (ht : C.P.underlying t = some .string) (hs : C.P.underlying s = some .string) (hx : opdOK x r = true) (hs1 : small C.nt [x] = true)
    (hr : r.ev C.E σ = .v (.string b)) (hK : ∀ D' a' w', Sim C D' (upd σ d (.v (.string b))) (upd γ d .no) a' w' → K a' w') : o.wp C.P a w K Q := by
  have e1 := (h.opd hx hs1).rep (by rw [hr]; simp)
  rw [hr] at e1
  have hrun : (execOp a.eval o).run C.P w = .ok (.value (.string b)) w := by
    simp [execOp, ho, e1.v_inv, convert, run_underlying hs, run_underlying ht]
  exact h.valNo hd hl hrun (.v _) hK

theorem op_minmax {x y : Operand} {r q : Opd} {k k' : IntKind} {u v : Int} {mx : Bool} {ts : Array TypeId} (ho : o.op = .call { callee := .builtin (if mx then .max else .min), args := #[x, y], argTypes := ts }) (hx : opdOK x r = true) (hy : opdOK y q = true) (hs1 : small C.nt [x] = true) (hs2 : small C.nt [y] = true)
    (hr : r.ev C.E σ = .v (.int k u)) (hq : q.ev C.E σ = .v (.int k' v)) (hK : ∀ D' a' w', Sim C D' (upd σ d (.v (.int k (if mx then maxI u v else minI u v)))) (upd γ d .no) a' w' → K a' w') : o.wp C.P a w K Q := by
  have e1 := (h.opd hx hs1).rep (by rw [hr]; simp)
  have e2 := (h.opd hy hs2).rep (by rw [hq]; simp)
  rw [hr] at e1; rw [hq] at e2
  have hrun : (execOp a.eval o).run C.P w = .ok (.value (.int k (if mx then maxI u v else minI u v))) w := by
    cases mx <;> simp [execOp, ho, e1.v_inv, e2.v_inv, resolve, invoke, builtin, Builtin.min_, Builtin.max_, Builtin.min2, Builtin.max2, minI, maxI]
  exact h.valNo hd hl hrun (.v _) hK

omit h hd hl in
theorem GhOK.comp {i : Nat} {ys : List Value} {y : Value} {g : Gh} (hg : GhOK D g (.tuple ⟨ys⟩)) (hy : ys[i]? = some y) : GhOK D (g.comp i) y := by
  cases g with
  | tup ts p =>
    obtain ⟨zs, e, h1, h2⟩ := hg
    cases e
    simp only [Gh.comp]
    split
    · rename_i t hf
      have hm := List.mem_of_find?_eq_some hf
      have hp := List.find?_some hf
      simp at hp
      have := h1 _ hm
      simp only [hp, hy] at this
      have e := Option.some.inj this.1
      exact ⟨e, by rw [e]; exact this.2⟩
    · split
      · rename_i j m
        split
        · rename_i e; subst e
          have := h2 _ rfl
          rw [hy] at this
          exact Option.some.inj this
        · trivial
      · trivial
  | _ => trivial
omit h hd hl in
theorem Ment.comp {i : Nat} {g : Gh} (hg : Ment γ g) : Ment γ (g.comp i) := by
  cases g with
  | tup ts p =>
    simp only [Gh.comp]
    split
    · rename_i t hf; exact hg.1 _ (List.mem_of_find?_eq_some hf)
    · split
      · rename_i j m
        split
        · exact hg.2 _ rfl
        · trivial
      · trivial
  | _ => trivial
omit h hd hl in
theorem Gh.comp_flat (i : Nat) (g : Gh) : (g.comp i).isCl = false ∧ (g.comp i).isLk = false := by
  unfold Gh.comp
  repeat' split
  all_goals exact ⟨rfl, rfl⟩

theorem op_ex {i : Nat} {x : Operand} {r : Opd} {vs : List AV} {s : AV} (ho : o.op = .extract x i) (hx : opdOK x r = true) (hs1 : small C.nt [x] = true)
    (hr : r.ev C.E σ = .tu vs) (hi : vs[i]? = some s) (hK : ∀ D' a' w', Sim C D' (upd σ d s) (upd γ d ((r.gh γ).comp i)) a' w' → K a' w') : o.wp C.P a w K Q := by
  have e0 := h.opd hx hs1
  have e1 := e0.rep (by rw [hr]; simp)
  have e2 := e0.gh (by rw [hr]; simp) (by rw [hr]; rintro e; cases e; simp at hi)
  rw [hr] at e1
  obtain ⟨ys, hy, hT⟩ : ∃ ys, a.eval x = .tuple ⟨ys⟩ ∧ RepT D.R w vs ys := by generalize a.eval x = z at e1; cases e1; exact ⟨_, rfl, ‹_›⟩
  obtain ⟨y, hy1, hy2⟩ := hT.get i s hi
  have hrun : (execOp a.eval o).run C.P w = .ok (.value y) w := by
    simp [execOp, ho, hy, Instr.extract, hy1]
  rw [hy] at e2
  exact h.val hd hl hrun (.inr ⟨hy2, fun _ => e2.comp hy1⟩) (Gh.comp_flat _ _).1 (Gh.comp_flat _ _).2 (h.ment_opd r).comp hK
end
end Go.Eng
