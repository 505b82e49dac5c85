/- A call, whichever; all kinds together. -/
import Derived.Test.YtenbejbhjgkibaaEngQc
set_option linter.unusedVariables false
set_option linter.unusedSimpArgs false
namespace Go.Eng
open Go.RowKit

section
variable {C : Ctx} {sg : Nat → FSig}

theorem map_all {α β : Type} {f g : α → β} : ∀ {l : List α}, l.map f = l.map g → ∀ x ∈ l, f x = g x
  | [], _, _, hx => by cases hx
  | a :: l, h, x, hx => by
    simp only [List.map_cons, List.cons.injEq] at h
    rcases List.mem_cons.1 hx with rfl | hx
    · exact h.1
    · exact map_all h.2 x hx

theorem k_call (hE : ∀ f, SpecOK C.P C.E.gl f (C.E.fs f) ∧ (C.E.fs f).sg = sg f) {f : Nat} {c : CS} : KindOK C sg (.call f c) := by
  intro D σ γ a w dst op ty pos after guard rs ds gd ws gs K' Q h ho hk hsm hs hg hK
  simp only [keysOK, Bool.and_eq_true, beq_iff_eq, decide_eq_true_eq] at hk
  obtain ⟨⟨⟨hmr, hk0, hk1⟩, hk2⟩, hnd⟩ := hk
  obtain ⟨d, rfl, hl, rfl⟩ := dOK0 hk2
  simp only [opOK] at ho
  split at ho
  · rename_i g args ats
    simp only [Bool.and_eq_true, beq_iff_eq] at ho
    obtain ⟨⟨⟨⟨rfl, hpf⟩, hfit⟩, hx⟩, hsz⟩ := ho
    rw [← (hE f).2] at hfit
    obtain ⟨f1, f2, f3, f4, f5, f6, f7, f8, f9, f10, f11, f12⟩ := fits_spec hfit
    have hdrop : rs.drop c.n = (c.mems ++ c.lks).map Opd.s := slots_eq hk1
    have hrs : rs = rs.take c.n ++ (c.mems ++ c.lks).map Opd.s := by rw [← hdrop, List.take_append_drop]
    have htl : (rs.take c.n).length = c.n := by rw [← opdsOK_len hx]; simpa using hsz
    have hsm' : small C.nt args.toList = true := small_sub hsm (fun x hx => by
      have : x ∈ args := by simpa using hx
      simp only [Op.operands, Call.operands, Array.toList_append, List.mem_append]
      exact .inr hx)
    simp only [sem] at hs
    obtain ⟨hs0, outs, hG, hol, rfl⟩ := hs
    have hmems : ∀ m ∈ c.mems, C.nt ≤ m ∧ m < 1000000 := fun m hm => by
      have := List.all_eq_true.1 hmr m hm
      simpa using this
    -- the ghosts
    simp only [gsem] at hg
    rw [Option.ite_none_right_eq_some] at hg
    obtain ⟨hc, hg⟩ := hg
    · cases hg
      obtain ⟨c1, c2, c3⟩ := hc
      rw [← List.map_drop, hdrop, List.map_map] at c1 c2 c3
      have hgh : (Opd.gh γ ∘ Opd.s) = γ := rfl
      rw [hgh] at c1 c2 c3
      cases href : c.ref with
      | none =>
        have htin := f9 href
        have hm : c.mems = (c.new.map (·.2)).toList := by simp [CS.mems, href]
        rw [hm] at c1 c2 c3
        simp only [href, Option.map_none, Option.toList_none, List.length_nil, List.take_zero, Nat.add_zero, List.map_append] at c1 c2 c3
        have e1 : ((List.map γ (c.new.map (·.2)).toList ++ List.map γ c.lks).take (c.new.map (·.2)).toList.length) = List.map γ (c.new.map (·.2)).toList := List.take_left' (by simp)
        rw [e1] at c1 c3
        have e2 : ((List.map γ (c.new.map (·.2)).toList ++ List.map γ c.lks).drop (List.map γ (c.new.map (·.2)).toList).length) = List.map γ c.lks := List.drop_left' rfl
        rw [e2, htin] at c3
        simp only [CS.lks, htin, List.nil_append, List.map_nil, List.map_map, List.map_append] at c3
        have hnoall : ∀ t ∈ c.tout ++ c.own ++ c.tnew, γ (lk t.2.1) = .no := map_all (by simpa [Function.comp_def] using c3)
        have hins : c.ins (rs.map (Opd.ev C.E σ)) = (rs.take c.n).map (Opd.ev C.E σ) := by simp [CS.ins, href, List.map_take]
        rw [hins] at hG
        exact op_callA h rfl hl rfl hpf (hE f).1 hfit href hx hsm' hG hol (fun q hq => by
            have hqm : q.2 ∈ c.mems := by rw [hm, hq]; simp
            refine ⟨?_, hmems _ hqm⟩
            simp only [hq, Option.map_some, Option.toList_some, List.map_cons, List.map_nil, List.all_cons, List.all_nil, Bool.and_true, decide_eq_true_eq] at c1
            exact c1) (fun t ht => hnoall t (by
              rcases List.mem_append.1 ht with ht | ht
              · simp [ht]
              · simp [ht])) hK
      | some im =>
        obtain ⟨i, m⟩ := im
        have hnew : c.new = none := by
          rcases f11 with e | e
          · rw [href] at e; cases e
          · exact e
        have htnew := f10 hnew
        have hm : c.mems = [m] := by simp [CS.mems, href, hnew]
        rw [hm] at c1 c2 c3
        simp only [href, hnew, htnew, Option.map_none, Option.map_some, Option.toList_none, Option.toList_some, List.length_nil, List.take_zero, List.length_cons, Nat.zero_add, List.drop_zero, List.map_append, List.map_cons, List.map_nil, List.cons_append, List.nil_append, List.take_succ_cons, List.drop_succ_cons, List.append_nil] at c2 c3
        split at c2
        · rename_i i' m' ts e1 e2
          cases e1
          simp only [List.cons.injEq, and_true] at e2
          simp only [decide_eq_true_eq] at c2
          obtain ⟨d1, d2, d3⟩ := c2
          simp only [CS.lks, htnew, List.append_nil, List.map_append, List.map_map, List.append_assoc] at c3
          rw [← List.map_append, ← List.map_append (f := fun _ => Gh.no)] at c3
          obtain ⟨p1, p2⟩ := List.append_inj c3 (by simp)
          have hlive : ∀ t ∈ c.tin, γ (lk t.2.1) = .live t.2.2 := map_all (by simpa [Function.comp_def] using p1)
          have hno : ∀ t ∈ c.tout ++ c.own, γ (lk t.2.1) = .no := map_all (by simpa [Function.comp_def] using p2)
          rw [href] at hs0
          simp only at hs0
          have hpt : ((rs.take c.n).map (Opd.ev C.E σ))[i]? = some .pt := by
            rw [List.map_take, List.getElem?_take, if_pos d2]; exact hs0
          have hgp : ((rs.take c.n).map (Opd.gh γ))[i]? = some (.ptr m 0) := by
            rw [List.map_take, List.getElem?_take, if_pos d2]; exact d1
          have hins : c.ins (rs.map (Opd.ev C.E σ)) = ((rs.take c.n).map (Opd.ev C.E σ)).set i (σ m) := by
            simp only [CS.ins, href, hnew, Option.map_none, Option.toList_none, List.length_nil, Nat.add_zero, List.map_take]
            congr 1
            have : rs[c.n]? = some (.s m) := by
              rw [hrs, List.getElem?_append_right (by omega), htl, hm]; simp
            simp [List.getD, this, Opd.ev]
          rw [hins] at hG
          exact op_callB h rfl hl rfl hpf (hE f).1 hfit href hx hsm' hpt hgp e2 d3 hlive hG hol hno hK
        · rename_i e _; cases e
        · cases c2
  · cases ho

theorem kind_ok (hE : ∀ f, SpecOK C.P C.E.gl f (C.E.fs f) ∧ (C.E.fs f).sg = sg f) (k : K) : KindOK C sg k := by
  cases k with
  | mv => exact k_mv
  | pick => exact k_pick
  | bin b => exact k_bin
  | be n => exact k_be
  | un b => exact k_un
  | ci k => exact k_ci
  | cs => exact k_cs
  | sb => exact k_sb
  | sbt k => exact k_sbt
  | bs => exact k_bs
  | len => exact k_len
  | lns => exact k_lns
  | mn => exact k_mn
  | mx => exact k_mx
  | ix s => exact k_ix
  | si => exact k_si
  | ai n s a => exact k_ai
  | fe o n a => exact k_fe
  | sc s l h => exact k_sc
  | ss l h => exact k_ss
  | bl s n => exact k_bl
  | blt s n k => exact k_blt
  | bd z p => exact k_bd
  | al m z t => exact k_al
  | bx m => exact k_bx
  | ld m o n a => exact k_ld
  | st m o n => exact k_st
  | lr n a => exact k_lr
  | fa m o d => exact k_fa
  | fr o n a => exact k_fr
  | nc m o => exact k_nc
  | ncr => exact k_ncr
  | ex i => exact k_ex
  | ap k d s b => exact k_ap
  | aps k d b => exact k_aps
  | an d s b => exact k_an
  | ans d b => exact k_ans
  | mk d s b z => exact k_mk
  | nl d s => exact k_nl
  | pss k => exact k_pss
  | pln k => exact k_pln
  | pix k s => exact k_pix
  | pfa k o => exact k_pfa
  | pld k s n a => exact k_pld
  | pst k s n => exact k_pst
  | pfz k s => exact k_pfz
  | call f c => exact k_call hE
end
end Go.Eng
