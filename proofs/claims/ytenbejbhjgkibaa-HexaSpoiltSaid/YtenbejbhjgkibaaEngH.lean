/- Each operation that makes or writes memory is what the machine does. -/
import Derived.Test.YtenbejbhjgkibaaEngG
import Derived.Lib.Strings
import Derived.Laws.BytesArg
set_option linter.unusedVariables false
set_option linter.unusedSimpArgs false
namespace Go.Eng
open Go.RowKit

theorem upd_comm {X : Type} (σ : Nat → X) {a b : Nat} (x y : X) (h : a ≠ b) : upd (upd σ a x) b y = upd (upd σ b y) a x := by
  funext k
  simp only [upd]
  by_cases h1 : k = a
  · subst h1; simp [h]
  · by_cases h2 : k = b
    · subst h2; simp [Ne.symm h]
    · simp [h1, h2]

theorem arr_eq {s : ByteArray} {l : List UInt8} (h : s.data.toList = l) : s = ⟨⟨l⟩⟩ := by
  cases s with
  | mk d => cases d with
    | mk t => simp at h; rw [h]

section
variable {C : Ctx} {D : Dyn} {σ : Sg} {γ : Ga} {a : Act} {w : World}

/-- A value that is a new tip goes into a slot. -/
theorem Sim.putTip (h : Sim C D σ γ a w) {d k s : Nat} {v : Value} {x : AV} (hd : d < C.nt) (hk : γ (lk k) = .no) (hr : Rep D.R w x v) (ht : TipOK D.R w v s) (hg : ∀ g, v.ownBlock = some g → C.mine g ∧ ∀ key, blk D γ key ≠ some g) :
    Sim C { D with τ := upd D.τ (lk k) v } (updL σ [d, lk k] [x, .dead]) (updL γ [d, lk k] [.tip k s, .live s]) (a.put (some d) v) w := by
  have h1 := h.newTip hk ht hg
  have h2 := h1.dead (k := lk k) (by rw [upd_same]; rfl)
  refine h2.put (g := .tip k s) hd (.inr ⟨hr, ?_⟩) rfl rfl ?_
  · intro _; show v = upd D.τ (lk k) v (lk k) ∧ v.oneCell' = true
    rw [upd_same]
    exact ⟨rfl, by rcases ht with rfl | ⟨_, _, _, _, _, _, rfl, _⟩ <;> rfl⟩
  · show (upd γ (lk k) (.live s) (lk k)).isLk = true
    rw [upd_same]; rfl

variable {o : Oper} {d : Nat} {K : Act → World → Prop} {Q : Exit → Act → World → Prop} (h : Sim C D σ γ a w) (hd : o.dst = some d) (hl : d < C.nt)
include h hd hl

theorem op_nl {k s : Nat} (ho : o.op = .move (.const (.slice none 0 0)) ∨ o.op = .assign (.const (.slice none 0 0))) (hk : γ (lk k) = .no)
    (hK : ∀ D' a' w', Sim C D' (updL σ [d, lk k] [.sl s [], .dead]) (updL γ [d, lk k] [.tip k s, .live s]) a' w' → K a' w') : o.wp C.P a w K Q := by
  have hr : (execOp a.eval o).run C.P w = .ok (.value (.slice none 0 0)) w := by rcases ho with e | e <;> simp [execOp, e, Act.eval]
  unfold Oper.wp
  rw [hr, Oper.upon_value, hd]
  exact hK _ _ _ (h.putTip hl hk (.nil s) (.inl rfl) (by simp [Value.ownBlock]))

omit h in
/-- A result in a new row goes into a slot, as a value alone. -/
theorem Sim.valNew {D' : Dyn} {w' : World} {v : Value} {s : AV} (hr : (execOp a.eval o).run C.P w = .ok (.value v) w') (hS : Sim C D' σ γ a w') (hs : Rep D'.R w' s v)
    (hK : ∀ D' a' w', Sim C D' (upd σ d s) (upd γ d .no) a' w' → K a' w') : o.wp C.P a w K Q := by
  unfold Oper.wp
  rw [hr, Oper.upon_value, hd]
  exact hK _ _ _ (hS.put hl (.plain hs) rfl rfl trivial)

theorem op_sc {x : Operand} {lo hi : Option Operand} {r : Opd} {t e : TypeId} {inf : TypeInfo} {s : Nat} {es : List AV} {l u : Nat} (ho : o.op = .slice t x lo hi none) (ht : C.P.underlying t = some (.slice e)) (hi' : C.P.info? e = some inf) (hz : inf.size = s)
    (hx : opdOK x r = true) (hs1 : small C.nt [x] = true) (hr : r.ev C.E σ = .sl s es)
    (hlo : (lo = none ∧ l = 0) ∨ ∃ y k, lo = some y ∧ a.eval y = .int k (l : Int)) (hhi : (hi = none ∧ u = es.length) ∨ ∃ y k, hi = some y ∧ a.eval y = .int k (u : Int)) (h1 : l ≤ u) (h2 : u ≤ es.length)
    (hK : ∀ D' a' w', Sim C D' (upd σ d (.sl s ((es.take u).drop l))) (upd γ d .no) a' w' → K a' w') : o.wp C.P a w K Q := by
  have e1 := (h.opd hx hs1).rep (by rw [hr]; simp)
  rw [hr] at e1
  have hb : ∀ cap, es.length ≤ cap → (Instr.sliceBounds true es.length cap (lo.map a.eval) (hi.map a.eval) none).run C.P w = .ok (l, u, cap) w := by
    intro cap hcap
    have hu : u ≤ cap := by omega
    unfold Instr.sliceBounds
    rcases hlo with ⟨rfl, rfl⟩ | ⟨y, k, rfl, hy⟩ <;> rcases hhi with ⟨rfl, rfl⟩ | ⟨y', k', rfl, hy'⟩ <;>
      simp [Instr.sliceBound, asIntOf, *]
  rcases e1.sl_inv with ⟨rfl, hv⟩ | ⟨b, off, cap, hv, hcap, hcm, hE⟩ | ⟨rfl, ad, cap, hv, hcm⟩
  rotate_left 2
  · have hl0 : l = 0 := by simp at h2; omega
    have hu0 : u = 0 := by simpa using h2
    have hb0 := hb cap (by simp)
    have hrun : (execOp a.eval o).run C.P w = .ok (.value (.slice (some ad) 0 cap)) w := by
      simp only [List.length_nil] at hb0
      simp only [execOp, ho, hv, Instr.sliceAt, Instr.slice, Sem.run_bind, run_underlying ht, Result.andThen_ok, Option.map_none, hb0, run_sizeOf hi', Sem.run_pure, hl0, hu0]
      simp [Addr.add]
    refine h.valNo hd hl hrun ?_ hK
    simp only [List.take_nil, List.drop_nil]
    exact .em s hcm
  · have hl0 : l = 0 := by simp at h2; omega
    have hu0 : u = 0 := by simpa using h2
    have hb0 := hb 0 (by simp)
    have hrun : (execOp a.eval o).run C.P w = .ok (.value (.slice none 0 0)) w := by
      simp only [List.length_nil] at hb0
      simp only [execOp, ho, hv, Instr.sliceAt, Instr.slice, Sem.run_bind, run_underlying ht, Result.andThen_ok, Option.map_none, hb0, run_sizeOf hi', Sem.run_pure, hl0, hu0]
      simp
    refine h.valNo hd hl hrun ?_ hK
    simp only [List.take_nil, List.drop_nil]
    exact .nil s
  · have hrun : (execOp a.eval o).run C.P w = .ok (.value (.slice (some ⟨b, if cap = l then off else off + l * s, none⟩) (u - l) (cap - l))) w := by
      simp only [execOp, ho, hv, Instr.sliceAt, Instr.slice, Sem.run_bind, run_underlying ht, Result.andThen_ok, Option.map_none, hb cap hcap, run_sizeOf hi', Sem.run_pure, hz]
      split <;> simp [*, addr_add]
    have hlen : ((es.take u).drop l).length = u - l := by simp; omega
    refine h.valNo hd hl hrun ?_ hK
    rw [← hlen]
    refine .sl rfl (by rw [hlen]; omega) (by omega) ?_
    by_cases hc : cap = l
    · have : (es.take u).drop l = [] := List.eq_nil_of_length_eq_zero (by rw [hlen]; omega)
      rw [this]; exact .nil _ _ _
    · rw [if_neg hc]
      exact (hE.take u).drop l

theorem op_ss {x : Operand} {lo hi : Option Operand} {r : Opd} {t : TypeId} {b : ByteArray} {l u : Nat} (ho : o.op = .slice t x lo hi none) (ht : C.P.underlying t = some .string)
    (hx : opdOK x r = true) (hs1 : small C.nt [x] = true) (hr : r.ev C.E σ = .v (.string b))
    (hlo : (lo = none ∧ l = 0) ∨ ∃ y k, lo = some y ∧ a.eval y = .int k (l : Int)) (hhi : (hi = none ∧ u = b.data.toList.length) ∨ ∃ y k, hi = some y ∧ a.eval y = .int k (u : Int)) (h1 : l ≤ u) (h2 : u ≤ b.data.toList.length)
    (hK : ∀ D' a' w', Sim C D' (upd σ d (.v (.string ⟨⟨(b.data.toList.take u).drop l⟩⟩))) (upd γ d .no) a' w' → K a' w') : o.wp C.P a w K Q := by
  have e1 := (h.opd hx hs1).rep (by rw [hr]; simp)
  rw [hr] at e1
  rw [bsize] at hhi h2
  have hb : (Instr.sliceBounds false b.size b.size (lo.map a.eval) (hi.map a.eval) none).run C.P w = .ok (l, u, b.size) w := by
    unfold Instr.sliceBounds
    rcases hlo with ⟨rfl, rfl⟩ | ⟨y, k, rfl, hy⟩ <;> rcases hhi with ⟨rfl, rfl⟩ | ⟨y', k', rfl, hy'⟩ <;>
      simp [Instr.sliceBound, asIntOf, *]
  have hrun : (execOp a.eval o).run C.P w = .ok (.value (.string (b.extract l u))) w := by
    simp only [execOp, ho, e1.v_inv, Instr.sliceAt, Instr.slice, Sem.run_bind, run_underlying ht, Result.andThen_ok, Option.map_none, hb, Sem.run_pure]
    simp [hb]
  have he : b.extract l u = ⟨⟨(b.data.toList.take u).drop l⟩⟩ := arr_eq (by rw [Lib.extract_data, List.drop_take])
  rw [he] at hrun
  exact h.valNo hd hl hrun (.v _) hK

theorem op_bs {x : Operand} {r : Opd} {t u e : TypeId} {l : List UInt8} (ho : o.op = .convert t u x) (ht : C.P.underlying t = some (.slice e)) (he : C.P.underlying e = some (.int .u8)) (hu : C.P.underlying u = some .string)
    (hx : opdOK x r = true) (hs1 : small C.nt [x] = true) (hr : r.ev C.E σ = .sl 1 (l.map byteAV)) (hK : ∀ D' a' w', Sim C D' (upd σ d (.v (.string ⟨⟨l⟩⟩))) (upd γ d .no) a' w' → K a' w') : o.wp C.P a w K Q := by
  have e1 := (h.opd hx hs1).rep (by rw [hr]; simp)
  rw [hr] at e1
  have hrun : (execOp a.eval o).run C.P w = .ok (.value (.string ⟨⟨l⟩⟩)) w := by
    rcases e1.sl_inv with ⟨hn, hv⟩ | ⟨b, off, cap, hv, hcap, hcm, hE⟩ | ⟨hn, ad, cap, hv, hcm⟩
    rotate_left 2
    · have : l = [] := by simpa using hn
      subst this
      have hc := run_convert_bytes_back (P := C.P) w t u e ad cap [] ht he hu (fun j hj => by simp at hj)
      simp only [List.length_nil] at hc
      simp only [execOp, ho, hv, Sem.run_bind, hc, Result.andThen_ok, Sem.run_pure]
    · have : l = [] := by simpa using hn
      subst this
      simp only [execOp, ho, hv, Sem.run_bind, run_convert_bytes_nil w t e ht he 0 0 u hu, Result.andThen_ok, Sem.run_pure]
      rfl
    · obtain ⟨ys, h1, h2, h3, h4⟩ := hE.cells
      rw [bytes_cells] at h3
      rw [List.length_map] at hv
      have hc := run_convert_bytes_back (P := C.P) w t u e ⟨b, off, none⟩ cap l ht he hu (fun j hj => by
        rw [addr_add]
        obtain ⟨y, hy1, _, hy2⟩ := h3.get j (byteAV l[j]) (by simp [hj])
        rw [h2 j y hy1, hy2.v_inv])
      simp only [execOp, ho, hv, Sem.run_bind, hc, Result.andThen_ok, Sem.run_pure]
  exact h.valNo hd hl hrun (.v _) hK

omit hd hl in
theorem Sim.stringRow {b : ByteArray} {u e : TypeId} {t : TypeId} (ht : C.P.underlying t = some .string) (hu : C.P.underlying u = some (.slice e)) (he : C.P.underlying e = some (.int .u8)) (hb : b.data.toList.length ≤ maxLen) :
    ∃ v w' R', (convert t u (.string b)).run C.P w = .ok v w' ∧ Sim C { D with R := R' } σ γ a w' ∧ Rep R' w' (.sl 1 (b.data.toList.map byteAV)) v ∧ TipOK R' w' v 1 ∧ Keeps D.R w R' w' ∧
      ∀ g, v.ownBlock = some g → C.mine g ∧ ∀ key, blk D γ key ≠ some g := by
  have hrun := run_bytes_of_string (P := C.P) w t u e b ht hu he
  have hge := grownCap_ge w b.size 0 e
  have hle := grownCap_le_maxLen w b.size 0 e (by rwa [bsize] at hb)
  obtain ⟨R', hS, hR, hn, _, hk, hh⟩ := h.newRow (w' := w.drew.alloc (.cells (bytesRow b (grownCap w b.size 0 e)) e ((bytesRow b (grownCap w b.size 0 e)).size, (bytesRow b (grownCap w b.size 0 e)).size + 1)))
    (es := b.data.toList.map byteAV) (s := 1) (ys := b.data.toList.map fun x => .int .u8 x.toNat) (cap := grownCap w b.size 0 e) rfl rfl rfl rfl
    (fun y hy => by obtain ⟨x, _, rfl⟩ := List.mem_map.1 hy; rfl) (by rw [bytes_cells]; exact bytes_repL _)
    (fun j y hj => by
      have hlt := (List.getElem?_eq_some_iff.1 hj).1
      unfold bytesRow
      rw [Array.getElem?_append_left (by simp at hlt ⊢; exact hlt)]
      simpa using hj) (by simp only [List.length_map, bsize]; exact hge) hle
  simp only [List.length_map, bsize] at hR hn
  have hsz : (bytesRow b (grownCap w b.size 0 e)).size = grownCap w b.size 0 e * 1 := by
    have : b.data.size = b.size := rfl
    simp only [bytesRow, Array.size_append, Array.size_map, Array.size_replicate, this]; omega
  refine ⟨_, _, R', hrun, hS, hR, .inr ⟨_, _, _, _, _, _, rfl, hh, by simp only; intro o ho; omega, hsz, hge, hle, hn⟩, hk, fun g hg => ?_⟩
  simp [Value.ownBlock] at hg
  subst hg
  exact ⟨.inr h.ext.size, fun key hk => by have := h.lt hk; omega⟩

theorem op_sb {x : Operand} {r : Opd} {t u e : TypeId} {b : ByteArray} (ho : o.op = .convert t u x) (ht : C.P.underlying t = some .string) (hu : C.P.underlying u = some (.slice e)) (he : C.P.underlying e = some (.int .u8))
    (hx : opdOK x r = true) (hs1 : small C.nt [x] = true) (hr : r.ev C.E σ = .v (.string b)) (hb : b.data.toList.length ≤ maxLen) (hK : ∀ D' a' w', Sim C D' (upd σ d (.sl 1 (b.data.toList.map byteAV))) (upd γ d .no) a' w' → K a' w') : o.wp C.P a w K Q := by
  have e1 := (h.opd hx hs1).rep (by rw [hr]; simp)
  rw [hr] at e1
  obtain ⟨v, w', R', hrun, hS, hR, _⟩ := h.stringRow ht hu he hb
  exact Sim.valNew hd hl (v := v) (w' := w') (by simp only [execOp, ho, e1.v_inv, Sem.run_bind, hrun, Result.andThen_ok, Sem.run_pure]) hS hR hK

theorem op_sbt {x : Operand} {r : Opd} {t u e : TypeId} {b : ByteArray} {k : Nat} (ho : o.op = .convert t u x) (ht : C.P.underlying t = some .string) (hu : C.P.underlying u = some (.slice e)) (he : C.P.underlying e = some (.int .u8))
    (hx : opdOK x r = true) (hs1 : small C.nt [x] = true) (hr : r.ev C.E σ = .v (.string b)) (hb : b.data.toList.length ≤ maxLen) (hk : γ (lk k) = .no)
    (hK : ∀ D' a' w', Sim C D' (updL σ [d, lk k] [.sl 1 (b.data.toList.map byteAV), .dead]) (updL γ [d, lk k] [.tip k 1, .live 1]) a' w' → K a' w') : o.wp C.P a w K Q := by
  have e1 := (h.opd hx hs1).rep (by rw [hr]; simp)
  rw [hr] at e1
  obtain ⟨v, w', R', hrun, hS, hR, hT, _, hG⟩ := h.stringRow ht hu he hb
  unfold Oper.wp
  rw [show (execOp a.eval o).run C.P w = .ok (.value v) w' by simp only [execOp, ho, e1.v_inv, Sem.run_bind, hrun, Result.andThen_ok, Sem.run_pure], Oper.upon_value, hd]
  exact hK _ _ _ (hS.putTip hl hk hR hT hG)

theorem op_ap {x y : Operand} {r q : Opd} {t u e : TypeId} {i : TypeInfo} {z : Value} {du : TypeDesc} {k k' s : Nat} {es fs : List AV} (ho : o.op = .call { callee := .builtin .append, args := #[x, y], argTypes := #[t, u] })
    (ht : C.P.underlying t = some (.slice e)) (hi : C.P.info? e = some i) (hz : i.zero = some z) (hzs : z.cells.size = i.size) (hu : C.P.underlying u = some du) (hdu : ∀ k, du ≠ .int k) (hs : i.size = s)
    (hx : opdOK x r = true) (hs1 : small C.nt [x] = true) (hr : r.ev C.E σ = .sl s es) (hg : r.gh γ = .tip k s) (hlk : γ (lk k) = .live s) (hno : γ (lk k') = .no) (hne : k ≠ k')
    {news : List Value} (hsrc : Source C.P w s (a.eval y) fs.length news) (hL : RepL D.R w (fs.flatMap AV.cells) news) (hfs : ∀ e ∈ fs, e.cells.length = s) (h63 : es.length + fs.length ≤ maxLen) (hb : (es.length + fs.length) * i.bytes ≤ 140737488355328)
    (hK : ∀ D' a' w', Sim C D' (updL σ [d, lk k, lk k'] [.sl s (es ++ fs), .dead, .dead]) (updL γ [d, lk k, lk k'] [.tip k' s, .used, .live s]) a' w' → K a' w') : o.wp C.P a w K Q := by
  subst hs
  have e0 := h.opd hx hs1
  have e1 := e0.rep (by rw [hr]; simp)
  have e2 := e0.gh (by rw [hr]; simp) (by rw [hr]; simp)
  rw [hr] at e1
  rw [hg] at e2
  simp only [GhOK] at e2
  replace e2 := e2.1
  have hT := h.tip _ _ hlk
  rw [← e2] at hT
  have h1 := h.kill hlk
  have hbk : blk D γ (lk k) = (a.eval x).ownBlock := by rw [blk_live hlk, ← e2]
  have hown : ∀ g, (a.eval x).ownBlock = some g → C.mine g ∧ ∀ key, blk D (upd γ (lk k) .used) key ≠ some g := fun g hg' => by
    refine ⟨h.own (lk k) g (hbk.trans hg'), fun key hkey => ?_⟩
    by_cases e : key = lk k
    · subst e; simp [blk, upd_same] at hkey
    · have : blk D γ key = some g := by unfold blk at hkey ⊢; rwa [upd_ne _ _ e] at hkey
      exact e (h.sepN (key := lk k) (by rw [hlk]; rfl) (hbk.trans hg') this).symm
  obtain ⟨v, w', R', hrun, hS, hR, hT', _, hG⟩ := h1.append (ty := o.type) ht hi hz hzs hu hdu e1 hT hown hsrc hL hfs h63 hb
  unfold Oper.wp
  rw [show (execOp a.eval o).run C.P w = .ok (.value v) w' by simp [execOp, ho, resolve, invoke, builtin, hrun], Oper.upon_value, hd]
  have hno' : upd γ (lk k) .used (lk k') = .no := by rw [upd_ne _ _ (fun e => hne (lk_inj e).symm)]; exact hno
  have hF := (hS.dead (k := lk k) (by rw [upd_same]; rfl)).putTip hl hno' hR hT' hG
  have hc : lk k' ≠ lk k := fun e => hne (lk_inj e).symm
  have eσ : updL σ [d, lk k, lk k'] [.sl i.size (es ++ fs), .dead, .dead] = updL (upd σ (lk k) .dead) [d, lk k'] [.sl i.size (es ++ fs), .dead] := by
    simp only [updL]; rw [upd_comm σ _ _ hc]
  have eγ : updL γ [d, lk k, lk k'] [.tip k' i.size, .used, .live i.size] = updL (upd γ (lk k) .used) [d, lk k'] [.tip k' i.size, .live i.size] := by
    simp only [updL]; rw [upd_comm γ _ _ hc]
  rw [eσ, eγ] at hK
  exact hK _ _ _ hF

/-- An append to a nil slice that is written out. -/
theorem op_an {y : Operand} {t u e : TypeId} {i : TypeInfo} {z : Value} {du : TypeDesc} {k' s : Nat} {fs : List AV} (ho : o.op = .call { callee := .builtin .append, args := #[.const (.slice none 0 0), y], argTypes := #[t, u] })
    (ht : C.P.underlying t = some (.slice e)) (hi : C.P.info? e = some i) (hz : i.zero = some z) (hzs : z.cells.size = i.size) (hu : C.P.underlying u = some du) (hdu : ∀ k, du ≠ .int k) (hs : i.size = s)
    (hno : γ (lk k') = .no) {news : List Value} (hsrc : Source C.P w s (a.eval y) fs.length news) (hL : RepL D.R w (fs.flatMap AV.cells) news) (hfs : ∀ e ∈ fs, e.cells.length = s) (h63 : fs.length ≤ maxLen) (hb : fs.length * i.bytes ≤ 140737488355328)
    (hK : ∀ D' a' w', Sim C D' (updL σ [d, lk k'] [.sl s fs, .dead]) (updL γ [d, lk k'] [.tip k' s, .live s]) a' w' → K a' w') : o.wp C.P a w K Q := by
  subst hs
  obtain ⟨v, w', R', hrun, hS, hR, hT', _, hG⟩ := h.append (ty := o.type) (x0 := .slice none 0 0) (es := []) ht hi hz hzs hu hdu (.nil _) (.inl rfl) (by simp [Value.ownBlock]) hsrc hL hfs (by simpa using h63) (by simpa using hb)
  unfold Oper.wp
  rw [show (execOp a.eval o).run C.P w = .ok (.value v) w' by
    have hc : a.eval (.const (.slice none 0 0)) = .slice none 0 0 := rfl
    simp [execOp, ho, resolve, invoke, builtin, hc, hrun], Oper.upon_value, hd]
  rw [List.nil_append] at hR
  exact hK _ _ _ (hS.putTip hl hno hR hT' hG)
end
end Go.Eng
