/- Rounds and bodies of functions. No condition. -/
import Derived.Test.YtgbdopegfcphfaaGreatCtlc
namespace Go.Ideal

theorem setParams_sim {m nv S n} : ∀ {ps : List Tmp} {args : List IVal} {rs : List Value} {tm : Tm} {tmps : Array Value}, (ps.all fun p => Nat.blt p n && Nat.blt p 4000) = true → VRs m nv S args rs → TR m nv S n tm tmps →
    TR m nv S n (setParams tm ps args) ((ps.zip rs).foldl (fun (tmps : Array Value) (p : Tmp × Value) => tmps.setIfInBounds p.1 p.2) tmps)
  | [], args, rs, tm, tmps, _, _, ht => by simpa [setParams] using ht
  | p :: ps, [], rs, tm, tmps, _, hv, ht => by cases hv; simpa [setParams] using ht
  | p :: ps, v :: vs, rs, tm, tmps, hp, hv, ht => by
    obtain ⟨r, rs', rfl, h1, h2⟩ := hv.cons_inv
    simp only [List.all_cons, Bool.and_eq_true] at hp
    simp only [setParams, List.zip_cons_cons, List.foldl_cons]
    refine setParams_sim (by simpa using hp.2) h2 ⟨by rw [Array.size_setIfInBounds]; exact ht.size, fun i => ?_⟩
    have p1 : p < n := by simpa using hp.1.1
    have p2 : p < 4000 := by simpa using hp.1.2
    rw [Tm.get_set _ _ _ _ p2, getD_set _ _ _ _ (Nat.lt_of_lt_of_le p1 ht.size)]
    split
    · exact h1
    · exact ht.at_ i

theorem yield_at {A m S s w} (h : HR A m S s w) {id ver : Nat} {st : LoopState} {pend : Option Code} {n : Nat} {tm : Tm} {ps : List Tmp} {as bd : Code} (ho : s.obj id ver = some (.loop st pend n tm ps as bd)) {rg : Value} (hr : VR m s.nv S (.yield id ver) rg) :
    ∃ mi, m[id]? = some mi ∧ mi.ver = ver ∧ rg = .func (.yield mi.b) #[] #[] := by
  cases hr with
  | yield _ _ mi b h1 h2 h3 _ =>
    obtain ⟨mi', k1, k2, _⟩ := h.obj id ver _ (obj_at ho)
    rw [h2] at k1; cases k1
    exact ⟨mi, h2, k2, by rw [h3 k2]⟩

theorem endRound_run {P : Program} {w : World} {b : Nat} {r : Loop} (hr : w.heap[b]? = some (Obj.loop r)) (j : Option Code) :
    (Instr.endRound b j).run P w = .ok (.bool j.isNone) (putObj w b (Obj.loop { r with state := if j.isNone then .ready else .done, pending := j })) := by
  have hgl : (Instr.getLoop b).run P w = .ok r w := by simp [Instr.getLoop, getObj, Sem.run, hr]
  simp only [Instr.endRound, Sem.run_bind, hgl, Result.andThen_ok, run_setObj_putObj _ _ hr (by intro _ _ _ e; cases e), Sem.run_pure]

theorem round_sim {A} (hA : Par.OK A) {call : CallI} (hC : CallOK A call) {id ver : Nat} {args : List IVal} {s : ISt} {Q : IVal × ISt → Prop} (hx : (roundI A call id ver args s).All Q) {m S w rg rxs}
    (h : HR A m S s w) (hg : VR m s.nv S (.yield id ver) rg) (hxs : VRs m s.nv S args rxs) : RealCall A.P rg rxs w (PostC A m S s w Q) := by
  unfold roundI at hx
  split at hx
  case h_2 => exact hx.elim
  rename_i pend n tm ps as bd ho
  split at hx
  · exact hx.elim
  rename_i hc
  simp only [Bool.and_eq_true] at hc
  have hlen := Nat.eq_of_beq_eq_true hc.1
  obtain ⟨mi, m1, m2, rfl⟩ := yield_at h ho hg
  obtain ⟨lp, o1, o2, o3, o4, o5, o6, o7, o8⟩ := loop_at h ho m1
  refine .yield mi.b lp rfl o1 (by rw [← hxs.length, hlen, o4]; simp) ?_
  have hl0 : LoopAt (some mi.b) w := fun l e => by cases e; exact ⟨lp, o1⟩
  have tr := setParams_sim hc.2 hxs o7
  have hfold : ((lp.params.zip rxs.toArray).foldl (fun tmps (t, a) => tmps.setIfInBounds t a) lp.tmps) = (ps.zip rxs).foldl (fun (tmps : Array Value) (p : Tmp × Value) => tmps.setIfInBounds p.1 p.2) lp.tmps := by
    rw [o4, ← Array.foldl_toList]
    simp
  rw [hfold]
  refine roundIn_of_wpIn trivial ?_
  rw [o5]
  have hF : (FW none).inRound mi.b = FW (some mi.b) := rfl
  rw [hF]
  refine wpIn_mono (code_sim hA hC as (some mi.b) (a := { tmps := _, defers := [] }) (lo := 0) (Tree.bind_all hx) h tr (Nat.zero_le _) hl0) (fun e a1 w1 hp => ?_)
  obtain ⟨ie, tm1, s1, m1', S1, q, rfl, t1, h1, st1, d1⟩ := hp
  cases ie with
  | exit i => exact q.elim
  | ret => exact q.elim
  | normal =>
    simp only at q
    split at q
    case h_2 => exact q.elim
    rename_i pend' n' tm' ps' as' bd' ho1
    obtain ⟨mi1, e1, hmi1⟩ := st1.g.at_ id mi m1
    obtain ⟨lp1, p1, p2, p3, p4, p5, p6, p7, p8⟩ := loop_at h1 ho1 e1
    have hver : ver < s.nv := by
      obtain ⟨mi', k1, k2, k3, _⟩ := h.obj id ver _ (obj_at ho)
      exact k3
    have : mi1 = mi := by
      rcases hmi1 with hm | hm
      · exact hm
      · omega
    subst this
    obtain ⟨n1, n2, n3⟩ := loop_set h1 ho1 e1 p1 .busy pend'
    have hgl : (Instr.getLoop mi1.b).run A.P w1 = .ok lp1 w1 := by simp [Instr.getLoop, getObj, Sem.run, p1]
    refine ⟨putObj w1 mi1.b (Obj.loop { lp1 with state := .busy, pending := pend' }), ?_, ?_⟩
    · simp only [Instr.beginRound, Sem.run_bind, hgl, Result.andThen_ok, p2, p3]
      rw [n3]
      rfl
    · rw [o6]
      have st2 := st1.trans n2
      have hl1 : LoopAt (some mi1.b) (putObj w1 mi1.b (Obj.loop { lp1 with state := .busy, pending := pend' })) := hl0.step st2
      refine wpIn_mono (code_sim hA hC bd (some mi1.b) (a := ⟨a1.tmps, a1.defers⟩) (Tree.bind_all q) n1 (t1.mono n2.g) (d1.step n2) hl1) (fun e a2 w2 hp => ?_)
      obtain ⟨ie, tm2, s2, m2', S2, q2, rfl, t2, h2, st3, _⟩ := hp
      simp only at q2
      split at q2
      case h_2 => exact q2.elim
      rename_i st'' pend'' n'' tm'' ps'' as'' bd'' ho2
      obtain ⟨mi2, e2, hmi2⟩ := st3.g.at_ id mi1 e1
      obtain ⟨lp2, u1, u2, u3, u4, u5, u6, u7, u8⟩ := loop_at h2 ho2 e2
      have : mi2 = mi1 := by
        rcases hmi2 with hm | hm
        · exact hm
        · have := st1.g.nvle
          simp only [ISt.setObj] at hm
          omega
      subst this
      have stt := st2.trans st3
      have fin : ∀ (j : Option Code) (b : Bool), j.isNone = b → Q (vbool b, s2.setObj id ver (.loop (if b then .ready else .done) j n'' tm'' ps'' as'' bd'')) →
          ∃ v w', (Instr.endRound mi2.b j).run A.P w2 = .ok v w' ∧ PostC A m S s w Q (.returned v) w' := by
        intro j b hj hq
        subst hj
        obtain ⟨v1, v2, v3⟩ := loop_set h2 ho2 e2 u1 (if j.isNone then .ready else .done) j
        exact ⟨_, _, endRound_run u1 j, _, vbool j.isNone, _, _, _, rfl, hq, vb _, v1, stt.trans v2⟩
      cases ie with
      | normal => exact fin none true rfl q2
      | exit i => exact fin (some (.exit i)) false rfl q2
      | ret => exact fin (some .ret) false rfl q2

theorem resultI_sim {A} (hA : Par.OK A) {m S s w n tm tmps} (h : HR A m S s w) (ht : TR m s.nv S n tm tmps) {x : ResultVar} {v : IVal} (hv : resultI A tm s x = some v) :
    ∃ r, (match x with
      | .tmp t => pure (tmps.getD t undef)
      | .cell a t => do loadVar t (← asAddr (tmps.getD a undef)) : Sem Value).run A.P w = .ok r w ∧ VR m s.nv S v r := by
  cases x with
  | tmp t =>
    simp only [resultI, Option.some.injEq] at hv
    subst hv
    exact ⟨_, rfl, ht.at_ t⟩
  | cell a t =>
    simp only [resultI] at hv
    obtain ⟨r, r1, r2⟩ := load_sim hA h hv (ht.at_ a)
    refine ⟨r, ?_, r2⟩
    rw [← r1]
    have : ∀ rv : Value, (∃ ad, rv = .pointer (some ad)) → (do loadVar t (← asAddr rv) : Sem Value).run A.P w = (Instr.loadAt t rv).run A.P w := by
      rintro rv ⟨ad, rfl⟩
      simp [Instr.loadAt, Instr.sureAddr, asAddr]
    apply this
    have hp := ht.at_ a
    have hl := hv
    unfold ISt.load at hl
    split at hl
    · split at hl
      · rename_i cs hcs
        cases hta : tm.get a with
        | ptr id ver off => rw [hta] at hp; exact ptr_inv hp
        | rptr cs => rw [hta] at hp; exact rptr_inv hp
        | _ => rw [hta] at hcs; simp [ISt.cellsAt] at hcs
      · cases hl
    · cases hl

theorem resultsL_sim {A} (hA : Par.OK A) {m S s w n tm tmps} (h : HR A m S s w) (ht : TR m s.nv S n tm tmps) : ∀ {xs : List ResultVar} {vs : List IVal}, mapO (resultI A tm s) xs = some vs →
    ∃ rs : List Value, (xs.mapM fun x => (match x with
      | .tmp t => pure (tmps.getD t undef)
      | .cell a t => do loadVar t (← asAddr (tmps.getD a undef)) : Sem Value)).run A.P w = .ok rs w ∧ VRs m s.nv S vs rs
  | [], vs, hv => by
    simp only [mapO, Option.some.injEq] at hv
    subst hv
    exact ⟨[], by simp, .nil⟩
  | x :: xs, vs, hv => by
    simp only [mapO] at hv
    split at hv
    case h_2 => cases hv
    rename_i v e1
    split at hv
    case h_2 => cases hv
    rename_i vs' e2
    cases hv
    obtain ⟨r, r1, r2⟩ := resultI_sim hA h ht e1
    obtain ⟨rs, q1, q2⟩ := resultsL_sim hA h ht e2
    refine ⟨r :: rs, ?_, .cons r2 q2⟩
    rw [List.mapM_cons]
    simp only [Sem.run_bind]
    rw [r1]
    simp only [Result.andThen_ok]
    rw [q1]
    rfl

theorem results_sim {A} (hA : Par.OK A) {m S s w n tm tmps} (h : HR A m S s w) (ht : TR m s.nv S n tm tmps) {fn : Func} {v : IVal} (hv : resultsI A fn tm s = some v) :
    ∃ r, (results fn tmps).run A.P w = .ok r w ∧ VR m s.nv S v r := by
  unfold resultsI at hv
  have key : ∀ vs, mapO (resultI A tm s) fn.results.toList = some vs → ∃ rs : List Value, (results fn tmps).run A.P w = .ok (if h : rs.toArray.size = 1 then rs.toArray[0] else .tuple rs.toArray) w ∧ VRs m s.nv S vs rs := by
    intro vs hvs
    obtain ⟨rs, r1, r2⟩ := resultsL_sim hA h ht hvs
    refine ⟨rs, ?_, r2⟩
    unfold results
    rw [Array.mapM_eq_mapM_toList]
    simp only [Sem.run_bind, map_eq_pure_bind, Sem.run_pure]
    erw [r1]
    rfl
  split at hv
  · rename_i v' hvs
    cases hv
    obtain ⟨rs, r1, r2⟩ := key _ hvs
    obtain ⟨r, rs', rfl, h1, h2⟩ := r2.cons_inv
    cases h2
    exact ⟨r, by simpa using r1, h1⟩
  · rename_i vs hne hvs
    cases hv
    obtain ⟨rs, r1, r2⟩ := key _ hvs
    have hl := r2.length
    have : rs.toArray.size ≠ 1 := by
      intro h1
      simp only [List.size_toArray] at h1
      rw [h1] at hl
      match vs, hl with
      | [x], _ => exact hne x rfl
    rw [dif_neg this] at r1
    exact ⟨_, r1, .tuple _ _ r2 .nil⟩
  · cases hv
end Go.Ideal
