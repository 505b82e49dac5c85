/- How a function's run ends; a checked function meets its contract (spec_ok). -/
import Derived.Test.YtenbejbhjgkibaaEngV
set_option linter.unusedVariables false
set_option linter.unusedSimpArgs false
namespace Go.Eng
open Go.RowKit

theorem allS_some {X : Type} : ∀ {l : List (Option X)} {r : List X}, allS l = some r → l = r.map some
  | [], _, h => by simp only [allS, Option.some.injEq] at h; subst h; rfl
  | none :: _, _, h => by simp [allS] at h
  | some x :: l, r, h => by
    simp only [allS, Option.map_eq_some_iff] at h
    obtain ⟨r', h1, rfl⟩ := h
    rw [allS_some h1]; rfl

theorem cellKey_spec {us : List (Nat × (Nat × Nat))} {q : Nat × Nat} {k : Nat} (h : cellKey us q = some k) : ∃ u ∈ us, u.1 = q.1 ∧ u.2.1 = k := by
  simp only [cellKey, Option.map_eq_some_iff] at h
  obtain ⟨u, h1, h2⟩ := h
  have := List.find?_some h1
  simp only [Bool.and_eq_true, beq_iff_eq] at this
  exact ⟨u, List.mem_of_find?_eq_some h1, this.1, h2⟩

def resM (tmps : Array Value) : ResultVar → Sem Value
  | .tmp t => pure (tmps.getD t undef)
  | .cell a t => do loadVar t (← asAddr (tmps.getD a undef))

theorem run_results {P : Program} {w : World} {fn : Func} {tmps : Array Value} {vs : List Value} (h : (fn.results.toList.mapM (resM tmps)).run P w = .ok vs w) :
    (results fn tmps).run P w = .ok (if vs.length = 1 then vs.headD undef else .tuple ⟨vs⟩) w := by
  have e : results fn tmps = (do
      let vs ← fn.results.mapM (resM tmps)
      pure (if h : vs.size = 1 then vs[0] else .tuple vs)) := by
    unfold results
    congr 2
  rw [e, Array.mapM_eq_mapM_toList]
  simp only [Sem.run_bind, Sem.run_map, h, Result.andThen_ok, Sem.run_pure]
  match vs with
  | [] => simp
  | [x] => simp
  | _ :: _ :: _ => simp

section
variable {C : Ctx} {D : Dyn} {σ : Sg} {a : Act} {w : World} {G : GL}

/-- What is known of a result's value. -/
def ResVal (D : Dyn) (G : GL) (σ : Sg) (a : Act) (r : RV) (x : AV) (v : Value) : Prop :=
  match r with
  | .t j => x = σ j ∧ v = a.tmps.getD j undef
  | .c _ m n agg => n = 1 → agg = false → ∀ us, G.get m = .cl us → ∀ u ∈ us, u.1 = 0 → v = D.τ (lk u.2.1)

theorem res_one (h : Sim C D σ G.get a w) {rv : ResultVar} {r : RV} {x : AV} (hr : resOK C.P C.nt rv r = true) (hg : r.okG G = true) (hx : r.get σ = some x) :
    ∃ v, (resM a.tmps rv).run C.P w = .ok v w ∧ Rep D.R w x v ∧ ResVal D G σ a r x v := by
  cases rv with
  | tmp t =>
    cases r with
    | c => simp [resOK] at hr
    | t j =>
      simp only [resOK, Bool.and_eq_true, beq_iff_eq, decide_eq_true_eq] at hr
      obtain ⟨rfl, ht⟩ := hr
      simp only [RV.get, Option.some.injEq] at hx
      subst hx
      refine ⟨_, rfl, ?_, rfl, rfl⟩
      rcases h.slot t ht with e | ⟨e, _⟩
      · rw [e]; exact .dead _
      · exact e
  | cell ad ty =>
    cases r with
    | t j => simp [resOK] at hr
    | c ad' m n agg =>
      simp only [resOK, Bool.and_eq_true, beq_iff_eq, decide_eq_true_eq] at hr
      obtain ⟨⟨rfl, ht⟩, hs⟩ := hr
      simp only [RV.okG, Bool.and_eq_true, beq_iff_eq] at hg
      obtain ⟨g1, g2⟩ := hg
      simp only [RV.get] at hx
      split at hx
      · rename_i cs e1 e2
        have hv := h.slot ad ht
        rw [e1, g1] at hv
        have hv : a.tmps.getD ad undef = .pointer (some ⟨D.β m, 0, none⟩) := by
          rcases hv with e | ⟨_, e⟩
          · cases e
          · exact e (by simp)
        cases hm : G.get m with
        | cl us =>
          obtain ⟨ws, hVA, hts0⟩ := h.mem m us hm
          rw [e2] at hVA
          obtain ⟨elem, hh, hL⟩ := hVA.ag
          have hws : ∀ (j : Nat) (y : Value), (ws.take cs.length)[j]? = some y → ws[j]? = some y := fun j y hj => by
            rw [List.getElem?_take] at hj; split at hj
            · exact hj
            · cases hj
          have hts : agg = false → ∀ t ∈ us, t.1 = 0 → (ws.take cs.length)[t.1]? = some (D.τ (lk t.2.1)) := fun ha t ht he => by
            have hlt : 0 < cs.length := by
              subst ha
              simp only [partAV, Bool.false_eq_true, if_false] at hx
              exact (List.getElem?_eq_some_iff.1 hx).1
            rw [List.getElem?_take, if_pos (by omega)]
            exact hts0 t ht
          generalize hvs : ws.take cs.length = vs at hL hts hws
          simp only [shapeOK, Bool.and_eq_true, beq_iff_eq, Bool.or_eq_true] at hs
          obtain ⟨⟨s1, s2⟩, s3⟩ := hs
          have h1 : agg = true ∨ n = 1 := s3
          simp only [sizeT, Option.map_eq_some_iff] at s1
          obtain ⟨inf, hi, hz⟩ := s1
          obtain ⟨hlen, hrep⟩ := part_rep hL hx h1
          have hc : ∀ j y, ((vs.drop 0).take n)[j]? = some y → w.cell? ⟨D.β m, 0 + j, none⟩ = some y := by
            intro j y hj
            rw [List.getElem?_take] at hj
            split at hj
            · rw [List.getElem?_drop] at hj
              have := hws _ _ hj
              simp only [World.cell?, hh]
              simpa using this
            · cases hj
          refine ⟨_, ?_, hrep, ?_⟩
          · simp only [resM, hv, asAddr, Sem.run_bind, Sem.run_pure, Result.andThen_ok]
            exact run_loadVar hi s2 (hz ▸ h1) (hlen.trans hz.symm) hc
          · intro n1 a1 us' hus u hu h0
            subst n1; subst a1
            rw [hm] at hus
            cases hus
            have := hts rfl u hu h0
            rw [h0] at this
            simp only [Bool.false_eq_true, if_false, List.drop_zero]
            cases vs with
            | nil => simp at this
            | cons y ys => simpa using this
        | _ => rw [hm] at g2; simp [Gh.isCl] at g2
      · cases hx

theorem res_all (h : Sim C D σ G.get a w) : ∀ {rvs : List ResultVar} {res : List RV} {xs : List AV}, all2 (resOK C.P C.nt) rvs res = true → res.all (RV.okG G) = true → outL σ res = some xs →
    ∃ vs, (rvs.mapM (resM a.tmps)).run C.P w = .ok vs w ∧ RepT D.R w xs vs ∧ vs.length = res.length ∧ ∀ (i : Nat) (r : RV), res[i]? = some r → ∃ x v, xs[i]? = some x ∧ vs[i]? = some v ∧ ResVal D G σ a r x v
  | [], [], xs, _, _, h3 => by
    simp only [outL, Option.some.injEq] at h3
    subst h3
    exact ⟨[], by simp [List.mapM_nil], .nil, rfl, fun i r e => by simp at e⟩
  | rv :: rvs, r :: res, xs, h1, h2, h3 => by
    simp only [all2, Bool.and_eq_true] at h1
    simp only [List.all_cons, Bool.and_eq_true] at h2
    simp only [outL, Option.bind_eq_some_iff, Option.map_eq_some_iff] at h3
    obtain ⟨x, hx, xs', hxs, rfl⟩ := h3
    obtain ⟨v, v1, v2, v3⟩ := res_one h h1.1 h2.1 hx
    obtain ⟨vs, q1, q2, q3, q4⟩ := res_all h h1.2 h2.2 hxs
    refine ⟨v :: vs, ?_, .cons v2 q2, by simp [q3], ?_⟩
    · simp only [List.mapM_cons, Sem.run_bind, v1, q1, Result.andThen_ok, Sem.run_pure]
    · intro i r' e
      cases i with
      | zero =>
        simp only [List.getElem?_cons_zero, Option.some.injEq] at e
        subst e
        exact ⟨x, v, rfl, rfl, v3⟩
      | succ i =>
        simp only [List.getElem?_cons_succ] at e ⊢
        exact q4 i r' e
  | [], _ :: _, _, h1, _, _ => by simp [all2] at h1
  | _ :: _, [], _, h1, _, _ => by simp [all2] at h1

theorem key_val (h : Sim C D σ G.get a w) {rv : ResultVar} {r : RV} {s k s' : Nat} {es : List AV} {v : Value} (hr : resOK C.P C.nt rv r = true) (hk : r.key G s = some k) (hv : ResVal D G σ a r (.sl s' es) v) : v = D.τ (lk k) := by
  cases r with
  | t j =>
    cases rv with
    | cell => simp [resOK] at hr
    | tmp t =>
    simp only [resOK, Bool.and_eq_true, beq_iff_eq, decide_eq_true_eq] at hr
    obtain ⟨rfl, ht⟩ := hr
    obtain ⟨e1, e2⟩ := hv
    simp only [RV.key] at hk
    split at hk
    · rename_i k' s'' hg
      split at hk
      · cases hk
        have := h.slot t ht
        rw [← e1, hg] at this
        rcases this with e | ⟨_, e⟩
        · cases e
        · rw [e2]; exact (e (by simp)).1
      · cases hk
    · cases hk
  | c ad m n agg =>
    simp only [RV.key] at hk
    split at hk
    · rename_i hc
      split at hk
      · rename_i us hus
        obtain ⟨u, hu, u1, u2⟩ := cellKey_spec hk
        rw [← u2]
        exact hv hc.1 hc.2 us hus u hu u1
      · cases hk
    · cases hk

theorem varKeys_spec (h : Sim C D σ G.get a w) {q : Option (Nat × Nat)} {ts : List (Nat × Nat)} {ks : List Nat} (hk : varKeys G q ts = some ks) {cs : List Value} {i m : Nat} (hq : q = some (i, m)) (hcs : ∀ us, G.get m = .cl us → ∀ t ∈ us, cs[t.1]? = some (D.τ (lk t.2.1))) :
    ∀ (p : Nat) (t : Nat × Nat) (v : Value), ts[p]? = some t → (ks.map fun k => D.τ (lk k))[p]? = some v → cs[t.1]? = some v := by
  subst hq
  intro p t v hp hv
  simp only [varKeys] at hk
  split at hk
  · rename_i us hus
    have e := allS_some hk
    rw [List.getElem?_map, Option.map_eq_some_iff] at hv
    obtain ⟨k, hkp, rfl⟩ := hv
    have e1 : (ts.map (cellKey us))[p]? = (ks.map some)[p]? := by rw [e]
    rw [List.getElem?_map, List.getElem?_map, hp, hkp] at e1
    simp only [Option.map_some, Option.some.injEq] at e1
    obtain ⟨u, hu, u1, u2⟩ := cellKey_spec e1
    have := hcs us hus u hu
    rw [u1, u2] at this
    exact this
  · cases hk

theorem live_get (h : Sim C D σ G.get a w) {ks : List Nat} {ts : List (Nat × Nat)} (hl : liveAll G ks ts = true) : ks.length = ts.length ∧ (∀ (p k : Nat), ks[p]? = some k → ∃ t, ts[p]? = some t ∧ G.get (lk k) = .live t.2) := by
  refine ⟨all2_len hl, fun p k hk => ?_⟩
  obtain ⟨t, h1, h2⟩ := all2_get hl hk
  exact ⟨t, h1, by simpa using h2⟩

theorem live_app : ∀ {A B : List Nat} {X Y : List (Nat × Nat)}, liveAll G A X = true → liveAll G B Y = true → liveAll G (A ++ B) (X ++ Y) = true
  | [], _, [], _, _, h2 => h2
  | [], _, _ :: _, _, h1, _ => by simp [liveAll, all2] at h1
  | _ :: _, _, [], _, h1, _ => by simp [liveAll, all2] at h1
  | a :: A, B, x :: X, Y, h1, h2 => by
    simp only [liveAll, all2, Bool.and_eq_true, List.cons_append] at h1 ⊢
    exact ⟨h1.1, live_app h1.2 h2⟩

theorem end_ok {d : FD} {fn : Func} {outs : List AV} {xs : List Value} (h : Sim C D σ G.get a w) (hb : d.begins C.nt = true) (hrt : d.rt G = true) (hres : all2 (resOK C.P C.nt) fn.results.toList d.res = true) (ho : d.OutS σ outs)
    (hfix : ∀ i, d.sg.ref = some i → ∃ b, xs[i]? = some (.pointer (some ⟨b, 0, none⟩)) ∧ C.fix = some b) :
    ∃ x, (results fn a.tmps).run C.P w = .ok x w ∧ OutOK d.sg D.R w C.mine xs outs x := by
  obtain ⟨rs, o1, o2, o3, rfl⟩ := ho
  simp only [FD.rt, Bool.and_eq_true] at hrt
  obtain ⟨⟨⟨r1, r2⟩, r3⟩, r4⟩ := hrt
  split at r4
  · rename_i Kr Ko Kn k1 k2 k3
    simp only [Bool.and_eq_true, decide_eq_true_eq] at r4
    obtain ⟨⟨⟨n1, l1⟩, l2⟩, l3⟩ := r4
    obtain ⟨vs, q1, q2, q3, q4⟩ := res_all h hres r1 o1
    simp only [FD.begins, Bool.and_eq_true, decide_eq_true_eq] at hb
    obtain ⟨⟨b1, b2, b3, b4, b5, b6⟩, b7⟩ := hb
    obtain ⟨lr1, lr2⟩ := live_get h l1
    obtain ⟨lo1, lo2⟩ := live_get h l2
    obtain ⟨ln1, ln2⟩ := live_get h l3
    have hrsl : rs.length = d.res.length := by rw [← q3, q2.length]
    have hsgn : d.sg.nres = d.res.length := rfl
    have href : d.sg.ref = d.ref.map (·.1) := rfl
    have hnew : d.sg.new = d.new.map (·.1) := rfl
    -- the variables
    have hcl : ∀ m, (G.get m).isCl = true → ∃ us cs, G.get m = .cl us ∧ VarAt D.R w (σ m) (D.β m) cs ∧ ∀ t ∈ us, cs[t.1]? = some (D.τ (lk t.2.1)) := by
      intro m hm
      cases hg : G.get m with
      | cl us => obtain ⟨cs, e1, e2⟩ := h.mem m us hg; exact ⟨us, cs, rfl, e1, e2⟩
      | _ => rw [hg] at hm; cases hm
    have hrefv : ∃ cr, ∀ i m, d.ref = some (i, m) → m = 999999 ∧ VarAt D.R w (σ m) (D.β m) cr ∧ ∀ us, G.get m = .cl us → ∀ t ∈ us, cr[t.1]? = some (D.τ (lk t.2.1)) := by
      cases hr : d.ref with
      | none => exact ⟨[], fun i m e => by cases e⟩
      | some im =>
        obtain ⟨i, m⟩ := im
        simp only [hr] at r2
        obtain ⟨us, cs, e1, e2, e3⟩ := hcl m r2
        simp only [hr, decide_eq_true_eq] at b7
        exact ⟨cs, fun i' m' e => by cases e; exact ⟨b7.2.2, e2, fun us' hu => by rw [e1] at hu; cases hu; exact e3⟩⟩
    have hnewv : ∃ cn, ∀ j m, d.new = some (j, m) → (G.get m).isCl = true ∧ vs[j]? = some (.pointer (some ⟨D.β m, 0, none⟩)) ∧ VarAt D.R w (σ m) (D.β m) cn ∧ ∀ us, G.get m = .cl us → ∀ t ∈ us, cn[t.1]? = some (D.τ (lk t.2.1)) := by
      cases hn : d.new with
      | none => exact ⟨[], fun i m e => by cases e⟩
      | some jm =>
        obtain ⟨j, m⟩ := jm
        simp only [hn, Bool.and_eq_true] at r3
        obtain ⟨us, cs, e1, e2, e3⟩ := hcl m r3.1
        refine ⟨cs, fun j' m' e => ?_⟩
        cases e
        refine ⟨r3.1, ?_, e2, fun us' hu => by rw [e1] at hu; cases hu; exact e3⟩
        have r5 := r3.2
        split at r5
        · rename_i t ht
          obtain ⟨x, v, p1, p2, p3, p4⟩ := q4 j _ ht
          rw [o3 (j, m) hn] at p1
          cases p1
          obtain ⟨rv, p5, p6⟩ : ∃ rv, fn.results.toList[j]? = some rv ∧ resOK C.P C.nt rv (.t t) = true := by
            have hlt := (List.getElem?_eq_some_iff.1 ht).1
            have hl := all2_len hres
            have e0 : fn.results.toList[j]? = some fn.results.toList[j] := List.getElem?_eq_getElem (by omega)
            obtain ⟨y, y1, y2⟩ := all2_get hres e0
            rw [ht] at y1
            cases y1
            exact ⟨_, e0, y2⟩
          have htl : t < C.nt := by
            cases rv with
            | cell => simp [resOK] at p6
            | tmp t' =>
              simp only [resOK, Bool.and_eq_true, beq_iff_eq, decide_eq_true_eq] at p6
              obtain ⟨rfl, p6⟩ := p6
              exact p6
          have := h.slot t htl
          rw [← p3] at this
          have r5' : G.get t = .ptr m 0 := by simpa using r5
          rw [r5'] at this
          rcases this with e | ⟨_, e⟩
          · cases e
          · rw [p2, p4]; exact congrArg some (e (by simp))
        · cases r5
    obtain ⟨cr, hrefv⟩ := hrefv
    obtain ⟨cn, hnewv⟩ := hnewv
    have hlall : liveAll G (Kr ++ Ko ++ Kn) (cut3 d.tips ++ d.own ++ d.tnew) = true := live_app (live_app l1 l2) l3
    have hlv : ∀ k ∈ Kr ++ Ko ++ Kn, ∃ s, G.get (lk k) = .live s := by
      intro k hk
      obtain ⟨p, hp⟩ := List.getElem?_of_mem hk
      obtain ⟨t, _, h2⟩ := (live_get h hlall).2 p k hp
      exact ⟨_, h2⟩
    have hown : owners d.sg (D.β ((d.new.map (·.2)).getD 0)) (D.β 999999) (Kr.map (fun k => D.τ (lk k)) ++ Ko.map (fun k => D.τ (lk k)) ++ Kn.map (fun k => D.τ (lk k))) =
        (d.new.toList.map (·.2) ++ d.ref.toList.map (·.2) ++ (Kr ++ Ko ++ Kn).map lk).map (blk D G.get) := by
      have e1 : (if d.sg.new.isSome then [some (D.β ((d.new.map (·.2)).getD 0))] else []) = (d.new.toList.map (·.2)).map (blk D G.get) := by
        rw [hnew]
        cases hn : d.new with
        | none => rfl
        | some jm =>
          obtain ⟨us, cs, e, _⟩ := hcl _ (hnewv jm.1 jm.2 hn).1
          simp [blk_cl e]
      have e2 : (if d.sg.ref.isSome then [some (D.β 999999)] else []) = (d.ref.toList.map (·.2)).map (blk D G.get) := by
        rw [href]
        cases hr : d.ref with
        | none => rfl
        | some im =>
          obtain ⟨p0, _⟩ := hrefv im.1 im.2 hr
          simp only [hr] at r2
          obtain ⟨us, cs, e, _⟩ := hcl _ r2
          simp only [Option.map_some, Option.isSome_some, if_true, Option.toList_some, List.map_cons, List.map_nil, blk_cl e]
          rw [p0]
      have e3 : (Kr.map (fun k => D.τ (lk k)) ++ Ko.map (fun k => D.τ (lk k)) ++ Kn.map (fun k => D.τ (lk k))).map Value.ownBlock = ((Kr ++ Ko ++ Kn).map lk).map (blk D G.get) := by
        rw [← List.map_append, ← List.map_append, List.map_map, List.map_map]
        apply List.map_congr_left
        intro k hk
        obtain ⟨s, hs⟩ := hlv k hk
        exact (blk_live hs).symm
      unfold owners
      rw [e1, e2, e3, ← List.map_append, ← List.map_append]
    have hclx : ∀ x ∈ d.new.toList.map (·.2) ++ d.ref.toList.map (·.2), (G.get x).isCl = true := by
      intro x hx
      rcases List.mem_append.1 hx with hx | hx
      · cases hn : d.new with
        | none => rw [hn] at hx; simp at hx
        | some jm =>
          rw [hn] at hx
          simp only [Option.toList_some, List.map_cons, List.map_nil, List.mem_singleton] at hx
          rw [hx]
          exact (hnewv jm.1 jm.2 hn).1
      · cases hr : d.ref with
        | none => rw [hr] at hx; simp at hx
        | some im =>
          rw [hr] at hx
          simp only [Option.toList_some, List.map_cons, List.map_nil, List.mem_singleton] at hx
          simp only [hr] at r2
          rw [hx]
          exact r2
    have hnP : ∀ x ∈ d.new.toList.map (·.2) ++ d.ref.toList.map (·.2) ++ (Kr ++ Ko ++ Kn).map lk, (G.get x).isP = false := by
      intro x hx
      rcases List.mem_append.1 hx with hx | hx
      · have := hclx x hx
        cases hg : G.get x <;> rw [hg] at this <;> first | rfl | cases this
      · obtain ⟨k, hk, rfl⟩ := List.mem_map.1 hx
        obtain ⟨p, hp⟩ := List.getElem?_of_mem hk
        obtain ⟨t, _, h2⟩ := (live_get h hlall).2 p k hp
        rw [h2]; rfl
    have hknd : (d.new.toList.map (·.2) ++ d.ref.toList.map (·.2) ++ (Kr ++ Ko ++ Kn).map lk).Nodup := by
      rw [List.nodup_append]
      refine ⟨?_, List.Pairwise.map _ (fun a b h e => h (lk_inj e)) n1, ?_⟩
      · rcases b6 with e | e
        · rw [e]; cases d.new <;> simp
        · rw [e]; cases d.ref <;> simp
      · intro x hx y hy e
        obtain ⟨k, _, rfl⟩ := List.mem_map.1 hy
        have h1 := lk_ge k
        have hx' : (G.get x).isCl = true := by
          rcases List.mem_append.1 hx with hx | hx
          · cases hn : d.new with
            | none => rw [hn] at hx; simp at hx
            | some jm =>
              rw [hn] at hx
              simp only [Option.toList_some, List.map_cons, List.map_nil, List.mem_singleton] at hx
              rw [hx]
              exact (hnewv jm.1 jm.2 hn).1
          · cases hr : d.ref with
            | none => rw [hr] at hx; simp at hx
            | some im =>
              rw [hr] at hx
              simp only [Option.toList_some, List.map_cons, List.map_nil, List.mem_singleton] at hx
              simp only [hr] at r2
              rw [hx]
              exact r2
        have := (h.rng x hx').2
        omega
    refine ⟨_, run_results q1, vs, Kr.map (fun k => D.τ (lk k)), Ko.map (fun k => D.τ (lk k)), Kn.map (fun k => D.τ (lk k)), D.β ((d.new.map (·.2)).getD 0), D.β 999999, cn, cr, ?_, ?_, ?_, ?_, ?_, ?_, ?_, ?_, ?_, ?_, ?_, ?_, ?_, ?_, ?_⟩
    · rw [q3, hsgn]
    · rw [hsgn, q3]
    · simp only [List.length_append, List.length_map, hsgn, href, hnew, hrsl]
      cases d.ref <;> cases d.new <;> simp
    · have e : (((rs ++ d.new.toList.map (fun q => σ q.2) ++ d.ref.toList.map (fun q => σ q.2)).take d.sg.nres).mapIdx fun i y => if d.sg.new = some i then AV.pt else y) = rs := by
        rw [List.append_assoc, List.take_left' (by rw [hrsl, hsgn])]
        apply List.ext_getElem?
        intro i
        rw [List.getElem?_mapIdx]
        cases hi : rs[i]? with
        | none => rfl
        | some y =>
          simp only [Option.map_some, Option.some.injEq]
          split
          · rename_i e
            rw [hnew, Option.map_eq_some_iff] at e
            obtain ⟨q, hq, e⟩ := e
            have := o3 q hq
            rw [e, hi] at this
            cases this; rfl
          · rfl
      rw [e]
      exact q2
    · intro j hj
      rw [hnew, Option.map_eq_some_iff] at hj
      obtain ⟨⟨j', m⟩, hn, e⟩ := hj
      simp only at e
      subst e
      obtain ⟨_, p1, p2, _⟩ := hnewv _ _ hn
      simp only [hn, Option.map_some, Option.getD_some]
      refine ⟨p1, ?_⟩
      have : (rs ++ (some (j', m)).toList.map (fun q => σ q.2) ++ d.ref.toList.map (fun q => σ q.2)).getD d.sg.nres .dead = σ m := by
        rw [List.append_assoc, List.getD_eq_getElem?_getD, List.getElem?_append_right (by rw [hrsl, hsgn]; exact Nat.le_refl _)]
        simp [hrsl, hsgn]
      rw [this]
      exact p2
    · intro i hi
      obtain ⟨b, x1, x2⟩ := hfix i hi
      rw [href, Option.map_eq_some_iff] at hi
      obtain ⟨⟨i', m⟩, hr, e⟩ := hi
      simp only at e
      subst e
      obtain ⟨p0, p1, _⟩ := hrefv _ _ hr
      subst p0
      refine ⟨by rw [x1, h.fix b x2], ?_⟩
      have hn : d.new = none := by
        rcases b6 with e | e
        · rw [hr] at e; cases e
        · exact e
      have : (rs ++ d.new.toList.map (fun q => σ q.2) ++ d.ref.toList.map (fun q => σ q.2)).getD (d.sg.nres + if d.sg.new.isSome = true then 1 else 0) .dead = σ 999999 := by
        rw [hr, hn, hnew, hn]
        simp only [Option.map_none, Option.toList_none, List.map_nil, List.append_nil, Option.toList_some, List.map_cons]
        rw [List.getD_eq_getElem?_getD, List.getElem?_append_right (by rw [hrsl, hsgn]; exact Nat.le_add_right _ _)]
        simp [hrsl, hsgn]
      rw [this]
      exact p1
    · rw [List.length_map, lr1]; rfl
    · rw [List.length_map, lo1]; rfl
    · rw [List.length_map, ln1]; rfl
    · intro p t v hp hv
      cases hr : d.ref with
      | none =>
        have := b4 hr
        simp [FD.sg, cut3, this] at hp
      | some im =>
        exact varKeys_spec h k1 hr (hrefv _ _ hr).2.2 p t v hp hv
    · intro p t v hp hv
      rw [List.getElem?_map, Option.map_eq_some_iff] at hv
      obtain ⟨k, hkp, rfl⟩ := hv
      have e := allS_some k2
      have e1 : (d.own.map fun q => (d.res[q.1]?).bind (RV.key G q.2))[p]? = (Ko.map some)[p]? := by rw [e]
      have hp' : d.own[p]? = some t := hp
      rw [List.getElem?_map, List.getElem?_map, hp', hkp] at e1
      simp only [Option.map_some, Option.some.injEq, Option.bind_eq_some_iff] at e1
      obtain ⟨r, hr, hk⟩ := e1
      obtain ⟨x, v, p1, p2, p3⟩ := q4 _ _ hr
      obtain ⟨s, es, hs⟩ := o2 t (List.mem_of_getElem? hp')
      rw [hs] at p1
      cases p1
      have hlt := (List.getElem?_eq_some_iff.1 hr).1
      have hl := all2_len hres
      have e0 : fn.results.toList[t.1]? = some fn.results.toList[t.1] := List.getElem?_eq_getElem (by omega)
      obtain ⟨y, y1, y2⟩ := all2_get hres e0
      rw [hr] at y1
      cases y1
      rw [p2, key_val h y2 hk p3]
    · intro p t v hp hv
      cases hn : d.new with
      | none =>
        have := b5 hn
        simp [FD.sg, this] at hp
      | some jm =>
        exact varKeys_spec h k3 hn (hnewv _ _ hn).2.2.2 p t v hp hv
    · intro p t v hp hv
      have hv' : ((Kr ++ Ko ++ Kn).map fun k => D.τ (lk k))[p]? = some v := by simpa using hv
      rw [List.getElem?_map, Option.map_eq_some_iff] at hv'
      obtain ⟨k, hkp, rfl⟩ := hv'
      obtain ⟨t', h1, h2⟩ := (live_get h hlall).2 p k hkp
      have hp' : (cut3 d.tips ++ d.own ++ d.tnew)[p]? = some t := hp
      rw [hp'] at h1
      cases h1
      exact h.tip _ _ h2
    · intro p q g hp hq
      rw [hown, List.getElem?_map, Option.map_eq_some_iff] at hp hq
      obtain ⟨x, x1, x2⟩ := hp
      obtain ⟨y, y1, y2⟩ := hq
      have := h.sepN (hnP x (List.mem_of_getElem? x1)) x2 y2
      subst this
      obtain ⟨hx, ex⟩ := List.getElem?_eq_some_iff.1 x1
      obtain ⟨hy, ey⟩ := List.getElem?_eq_some_iff.1 y1
      rcases Nat.lt_trichotomy p q with hlt | he | hlt
      · exact absurd (ex.trans ey.symm) (List.pairwise_iff_getElem.1 hknd p q hx hy hlt)
      · exact he
      · exact absurd (ey.trans ex.symm) (List.pairwise_iff_getElem.1 hknd q p hy hx hlt)
    · intro g hg
      rw [hown, List.mem_map] at hg
      obtain ⟨x, _, x2⟩ := hg
      exact h.own x g x2
  · cases r4
end

/-- A CHECKED FUNCTION MEETS ITS CONTRACT. -/
theorem spec_ok {P : Program} {E : Env} {sg : Nat → FSig} (hE : ∀ f, SpecOK P E.gl f (E.fs f) ∧ (E.fs f).sg = sg f) {f : Nat} {fn : Func} {d : FD} (hf : P.funcs[f]? = some fn) (hc : chkF P sg fn d = true)
    {S : FS} (hS : S.sg = d.sg) (hG : ∀ ins outs, S.G ins outs → ins.length = d.np ∧ d.runs E ins outs) : SpecOK P E.gl f S := by
  intro w R ins outs xs hg hR hgl ha
  obtain ⟨hlen, hrun⟩ := hG ins outs hg
  simp only [chkF, Bool.and_eq_true] at hc
  obtain ⟨⟨hb, hres⟩, hchk⟩ := hc
  cases hbody : fn.body with
  | none => simp [hbody] at hchk
  | some c =>
    simp only [hbody] at hchk
    cases hk : chk P sg fn.ntmps d.rt c d.m d.G0 with
    | none => simp [hk] at hchk
    | some r =>
      obtain ⟨n, ex⟩ := r
      simp only [hk, Bool.and_eq_true, List.isEmpty_iff] at hchk
      obtain ⟨rfl, hn⟩ := hchk
      rw [hS] at ha ⊢
      obtain ⟨D, hsim⟩ := begin_ok (P := P) (E := E) hb hlen hR hgl ha
      have hxs : (⟨xs⟩ : Array Value).size = xs.length := rfl
      refine calls_of_wp hf hbody ?_
      rw [hxs]
      have hfix : ∀ i, d.sg.ref = some i → ∃ b, xs[i]? = some (.pointer (some ⟨b, 0, none⟩)) ∧ fixOf d xs = some b := by
        intro i hi
        simp only [ArgsOK, hi] at ha
        obtain ⟨b, cs, x, tv, a1, _⟩ := ha
        exact ⟨b, a1, by simp [fixOf, hi, a1]⟩
      have hend : ∀ (G' : GL) D' σ' a' w', d.rt G' = true → d.OutS σ' outs → Sim ⟨P, E, fn.ntmps, w, R, ioOf d.sg w xs, fixOf d xs⟩ D' σ' G'.get a' w' →
          a'.defers = [] ∧ ∃ v, (results fn a'.tmps).run P w' = .ok v w' ∧ (fun e w' => ∃ x R', e = Ending.returned x ∧ Ext w R (ioOf d.sg w xs) w' R' ∧ (∀ b o, R' b o → b < w'.heap.size) ∧
            OutOK d.sg R' w' (fun b => ioOf d.sg w xs b ∨ w.heap.size ≤ b) xs outs x) (.returned v) w' := by
        intro G' D' σ' a' w' h1 h2 h3
        obtain ⟨x, e1, e2⟩ := end_ok h3 hb h1 hres h2 hfix
        exact ⟨h3.defers, x, e1, x, D'.R, rfl, h3.ext, h3.rlt, e2⟩
      refine chk_ok (C := ⟨P, E, fn.ntmps, w, R, ioOf d.sg w xs, fixOf d xs⟩) hE d.m hk hsim hrun { nrm := fun G' D' σ' a' w' e hq h' => ?_, exi := fun i G' D' σ' a' w' hi => (by cases hi), ret := fun G' D' σ' a' w' hr hq h' => ?_ }
      · simp only at e
        subst e
        exact hend G' D' σ' a' w' (by simpa using hn) hq h'
      · exact hend G' D' σ' a' w' hr hq h'
end Go.Eng
