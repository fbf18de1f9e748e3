/- Bodies of functions. No condition. -/
import Derived.Test.YtgbdopegfcphfaaGreatCtld
namespace Go.Ideal

theorem Tm.get_fill : ∀ (xs : List IVal) (t : Tm) (k i : Nat), k + xs.length ≤ 4000 → (t.fill k xs).get i = if k ≤ i ∧ i < k + xs.length then xs.getD (i - k) iundef else t.get i
  | [], t, k, i, _ => by
    simp only [Tm.fill, List.length_nil, Nat.add_zero]
    rw [if_neg (by omega)]
  | x :: xs, t, k, i, h => by
    simp only [List.length_cons] at h
    simp only [Tm.fill, List.length_cons]
    rw [Tm.get_fill xs (t.set k x) (k + 1) i (by omega), Tm.get_set _ _ _ _ (by omega)]
    by_cases h1 : k + 1 ≤ i ∧ i < k + 1 + xs.length
    · rw [if_pos h1, if_pos (by omega)]
      rw [show i - k = (i - (k + 1)) + 1 by omega]
      rfl
    · rw [if_neg h1]
      by_cases h2 : i = k
      · subst h2
        rw [if_pos rfl, if_pos (by omega)]
        simp
      · rw [if_neg h2, if_neg (by omega)]

theorem args_TR {m nv S n} {args : List IVal} {rs : List Value} (hv : VRs m nv S args rs) (h1 : args.length ≤ n) (h2 : n ≤ 4000) :
    TR m nv S n (Tm.leaf.fill 0 args) (rs.toArray ++ Array.replicate (n - rs.toArray.size) undef) := by
  have hl := hv.length
  refine ⟨by simp; omega, fun i => ?_⟩
  rw [Tm.get_fill _ _ _ _ (by omega)]
  simp only [Nat.zero_le, true_and, Nat.zero_add, Nat.sub_zero]
  rw [Array.getD_eq_getD_getElem?, Array.getElem?_append]
  by_cases hi : i < args.length
  · rw [if_pos hi]
    have hi' : i < rs.toArray.size := by simpa [← hl] using hi
    rw [if_pos hi']
    obtain ⟨r, q1, q2⟩ := hv.get i args[i] (List.getElem?_eq_getElem hi)
    simp only [List.getElem?_toArray, q1, Option.getD_some]
    simpa [List.getD, hi] using q2
  · rw [if_neg hi]
    have hi' : ¬ i < rs.toArray.size := by simpa [← hl] using hi
    rw [if_neg hi']
    have e1 : Tm.leaf.get i = iundef := rfl
    rw [e1, Array.getElem?_replicate]
    split
    · exact undef_VR
    · exact undef_VR

theorem leaves_sim {A} (hA : Par.OK A) {fn : Func} {R : Ending → World → Prop} {m0 nv0 S0 w0} {m S s n tm tmps v} (hv : resultsI A fn tm s = some v) : ∀ {ds : List Deferred} {w : World}, DefOK w0.heap.size m w ds → HR A m S s w → TR m s.nv S n tm tmps →
    Step m0 nv0 S0 w0 m s.nv S w → (∀ r w', VR m s.nv S v r → HR A m S s w' → Step m0 nv0 S0 w0 m s.nv S w' → R (.returned r) w') → LeavesInM (FW none) 0 A.P fn tmps R ds .returning w
  | [], w, _, h, ht, st, hR => by
    obtain ⟨r, r1, r2⟩ := results_sim hA h ht hv
    exact ⟨r, r1, hR r w r2 h st⟩
  | d :: ds, w, hd, h, ht, st, hR => by
    obtain ⟨⟨r, r0, r1, r2, r3, r4⟩, r5⟩ := hd
    have hb := heap_lt r2
    have hk : (Instr.takeDeferred r).run A.P w = .ok [] (putObj w r (.deferred none)) := by
      have hg : (getObj r).run A.P w = .ok (.deferred (some [])) w := by simp [getObj, Sem.run, r2]
      simp only [Instr.takeDeferred, Sem.run_bind, hg, Result.andThen_ok, run_setObj_putObj _ _ r2 (by intro _ _ _ e; cases e), Sem.run_pure]
    have h' : HR A m S s (putObj w r (.deferred none)) := ⟨h.len, fun id ver o e => by
        obtain ⟨mi, h1, h2, h3, h4, h5⟩ := h.obj id ver o e
        exact ⟨mi, h1, h2, h3, by rw [putObj_other (r3 id mi h1)]; exact h4, h5⟩, h.inj,
      ⟨fun b i v e => by
          have := h.snap.sc b i v e
          by_cases hbr : b = r
          · subst hbr; simp [World.cell?, r2] at this
          · rw [cell_of_heap (putObj_other hbr)]; exact this,
       fun b i v e => by
          have := h.snap.sb b i v e
          by_cases hbr : b = r
          · subst hbr; simp [World.cell?, r2] at this
          · rw [cell_of_heap (putObj_other hbr)]; exact this,
       fun b es c e => by
          have := h.snap.sm b es c e
          by_cases hbr : b = r
          · subst hbr; rw [r2] at this; cases this
          · rw [putObj_other hbr]; exact this⟩⟩
    have hds : DefOK w0.heap.size m (putObj w r (.deferred none)) ds := by
      have : ∀ ds : List Deferred, (∀ d' ∈ ds, d'.target ≠ .collected r) → DefOK w0.heap.size m w ds → DefOK w0.heap.size m (putObj w r (.deferred none)) ds := by
        intro ds
        induction ds with
        | nil => intro _ hh; simp only [DefOK, putObj_size]; exact hh
        | cons d ds ih =>
          intro hne hdd
          obtain ⟨⟨r', q0, q1, q2, q3, q4⟩, q5⟩ := hdd
          have : r' ≠ r := fun e => hne d (by simp) (by rw [q1, e])
          exact ⟨⟨r', q0, q1, by rw [putObj_other this]; exact q2, q3, q4⟩, ih (fun d' hd' => hne d' (by simp [hd'])) q5⟩
      exact this ds r4 r5
    have st' : Step m0 nv0 S0 w0 m s.nv S (putObj w r (.deferred none)) := by
      refine ⟨st.g, ⟨by rw [putObj_size]; exact st.k.size, fun b hb' hn => ?_, fun b l hl => ?_, st.k.os, st.k.tape, st.k.output⟩, st.fresh, st.scNew⟩
      · rw [putObj_other (by omega)]; exact st.k.blk b hb' hn
      · obtain ⟨l', hl'⟩ := st.k.loop b l hl
        have : b ≠ r := fun e => by rw [e, r2] at hl'; cases hl'
        exact ⟨l', by rw [putObj_other this]; exact hl'⟩
    refine ⟨by simp, .inl ⟨r, _, r1, hk, leaves_sim hA hv hds h' ht st' hR⟩⟩

/-- A FUNCTION's BODY. -/
theorem body_sim {A} (hA : Par.OK A) {call : CallI} (hC : CallOK A call) {fn : Func} {args : List IVal} {s : ISt} {Q : IVal × ISt → Prop} (hx : (bodyI A call fn args s).All Q) {f : FuncId} (hf : A.P.funcs[f]? = some fn)
    {m S w rs} (h : HR A m S s w) (hv : VRs m s.nv S args rs) : fn.body.isSome = true ∧ CallsIn (FW none) 0 A.P f rs.toArray w (PostC A m S s w Q) := by
  unfold bodyI at hx
  split at hx
  · exact hx.elim
  rename_i c hb
  refine ⟨by rw [hb]; rfl, ?_⟩
  split at hx
  · exact hx.elim
  rename_i hc
  simp only [Bool.and_eq_true, Nat.ble_eq] at hc
  have ht := args_TR hv hc.1 hc.2
  refine callsIn_of_wp_marks hf hb trivial ?_
  refine wpIn_mono (code_sim hA hC c none (lo := w.heap.size) (a := { tmps := _, defers := [] }) (Tree.bind_all hx) h ht (Nat.le_refl _) (fun l e => by cases e)) (fun e a1 w1 hp => ?_)
  obtain ⟨ie, tm1, s1, m1, S1, q, rfl, t1, h1, st1, d1⟩ := hp
  have fin : ∀ v, resultsI A fn tm1 s1 = some v → Q (v, s1) → LeavesInM (FW none) 0 A.P fn a1.tmps (PostC A m S s w Q) a1.defers .returning w1 := by
    intro v hv hq
    exact leaves_sim hA hv d1 h1 t1 st1 (fun r w' a1 a2 a3 => ⟨r, v, s1, m1, S1, rfl, hq, a1, a2, a3⟩)
  cases ie with
  | exit i => exact q.elim
  | normal =>
    simp only at q
    split at q
    case h_2 => exact q.elim
    rename_i v hv
    exact fin v hv q
  | ret =>
    simp only at q
    split at q
    case h_2 => exact q.elim
    rename_i v hv
    exact fin v hv q
end Go.Ideal
