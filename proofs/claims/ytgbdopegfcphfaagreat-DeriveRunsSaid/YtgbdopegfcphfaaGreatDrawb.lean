/- Regions that leave their order open: the steps. No condition. -/
import Derived.Test.YtgbdopegfcphfaaGreatDraw
namespace Go.Ideal

theorem lst_set {listed : Array Bool} {i : Nat} (hi : i < listed.size) (j : Nat) : lst (listed.setIfInBounds i true) j = if j = i then true else lst listed j := by
  simp only [lst, Array.getD_eq_getD_getElem?, Array.getElem?_setIfInBounds]
  by_cases e : i = j
  · subst e; simp [hi]
  · rw [if_neg e, if_neg (fun x => e x.symm)]

theorem EOrd.mono {listed listed' : Array Bool} (hm : ∀ j, lst listed j = true → lst listed' j = true) : ∀ {E : List (Nat × Oper × IVal)}, EOrd listed E → EOrd listed' E
  | [], _ => trivial
  | (_, o, _) :: E, h => ⟨fun j hj => (h.1 j hj).imp (hm j) id, EOrd.mono hm h.2⟩

theorem EOrd.edge {listed : Array Bool} : ∀ {E : List (Nat × Oper × IVal)}, EOrd listed E → ∀ {i o v}, (i, o, v) ∈ E → ∀ j ∈ edgesOf o, lst listed j = true ∨ ∃ o' v', (j, o', v') ∈ E
  | [], _, _, _, _, hm, _, _ => by cases hm
  | (k, ok, vk) :: E, h, i, o, v, hm, j, hj => by
    rcases List.mem_cons.1 hm with e | hm
    · cases e
      rcases h.1 j hj with q | ⟨o', v', q⟩
      · exact .inl q
      · exact .inr ⟨o', v', List.mem_cons_of_mem _ q⟩
    · rcases EOrd.edge h.2 hm j hj with q | ⟨o', v', q⟩
      · exact .inl q
      · exact .inr ⟨o', v', List.mem_cons_of_mem _ q⟩

/-- of those that are ahead, the first is ready. -/
theorem EOrd.first {ops : Array Oper} {listed : Array Bool} (hsz : listed.size = ops.size) : ∀ {E : List (Nat × Oper × IVal)}, EOrd listed E → (∀ i o v, (i, o, v) ∈ E → ops[i]? = some o) → (∃ i o v, (i, o, v) ∈ E ∧ lst listed i = false) → ∃ i, i ∈ Region.ready .any ops listed
  | [], _, _, h => by obtain ⟨i, o, v, hm, _⟩ := h; cases hm
  | (k, ok, vk) :: E, h, ho, hx => by
    by_cases hE : ∃ i o v, (i, o, v) ∈ E ∧ lst listed i = false
    · exact EOrd.first hsz h.2 (fun i o v hm => ho i o v (List.mem_cons_of_mem _ hm)) hE
    · obtain ⟨i, o, v, hm, hl⟩ := hx
      rcases List.mem_cons.1 hm with e | hm
      · cases e
        refine ⟨k, ready_of hsz (ho k ok vk (by simp)) hl (fun j hj => ?_)⟩
        rcases h.1 j hj with q | ⟨o', v', q⟩
        · exact q
        · cases hq : lst listed j with
          | true => rfl
          | false => exact absurd ⟨j, o', v', q, hq⟩ hE
      · exact absurd ⟨i, o, v, hm, hl⟩ hE

theorem put_getD {tmps : Array Value} {ds : List Deferred} {dst : Option Tmp} {r : Value} (hd : ∀ d, dst = some d → d < tmps.size) (t : Nat) :
    (Act.put ⟨tmps, ds⟩ dst r).tmps.getD t undef = if dst = some t then r else tmps.getD t undef := by
  cases dst with
  | none => simp [Act.put]
  | some d =>
    simp only [Act.put]
    rw [getD_set _ _ _ _ (hd d rfl)]
    by_cases e : t = d
    · subst e; simp
    · rw [if_neg e, if_neg (fun x => e (Option.some.inj x).symm)]
theorem put_size {tmps : Array Value} {ds : List Deferred} {dst : Option Tmp} {r : Value} : (Act.put ⟨tmps, ds⟩ dst r).tmps.size = tmps.size := by
  cases dst <;> simp [Act.put]
theorem put_eq {tmps : Array Value} {ds : List Deferred} (dst : Option Tmp) (r : Value) : Act.put ⟨tmps, ds⟩ dst r = ⟨(Act.put ⟨tmps, ds⟩ dst r).tmps, ds⟩ := by cases dst <;> rfl
theorem put_defers {a : Act} {dst : Option Tmp} {r : Value} : (a.put dst r).defers = a.defers := by cases dst <;> rfl

theorem stable_not_defer {A : Par} {ρ : Operand → Option IVal} {o : Oper} {s : ISt} {v : IVal} (h : stableI A ρ o s = some v) : ∀ c, o.op ≠ .defer c := by
  intro c e
  unfold stableI at h
  simp only [e, isQuiet] at h
  cases h

section
variable {A : Par} {n : Nat} {ops : Array Oper} {L : Nat} {E : List (Nat × Oper × IVal)} {tm : Tm} {s : ISt} {listed : Array Bool} {tmps : Array Value} {m : List MI} {S : Snap} {w : World}

/-- the machine catches up by one. -/
theorem DInv.catchUp (hA : Par.OK A) (h : DInv A n ops L E tm s listed tmps m S w) {i : Nat} {o : Oper} {v : IVal} (hm : (i, o, v) ∈ E) (hr : i ∈ Region.ready .any ops listed) (ro : Option Nat) (ds : List Deferred)
    {QQ : Exit → Act → World → Prop} {K : Act → World → Prop}
    (hK : ∀ tmps' m' S' w', DInv A n ops L E tm s (listed.setIfInBounds i true) tmps' m' S' w' → Step m s.nv S w m' s.nv S' w' → K ⟨tmps', ds⟩ w') :
    wpOpIn (FW ro) 0 A.P ops QQ i K ⟨tmps, ds⟩ w := by
  obtain ⟨hi, hl, o', ho', he⟩ := ready_spec hr h.size
  obtain ⟨ho, hst, hL⟩ := h.ent i o v hm
  rw [ho] at ho'; cases ho'
  obtain ⟨hy, hd⟩ := h.yl i o v hm hl
  have hset := lst_set (listed := listed) (i := i) (by rw [h.size]; exact hi)
  -- the state behind
  have next : ∀ r w' m' S', VR m' s.nv S' v r → HR A m' S' s w' → Step m s.nv S w m' s.nv S' w' → DInv A n ops L E tm s (listed.setIfInBounds i true) (Act.put ⟨tmps, ds⟩ o.dst r).tmps m' S' w' := by
    intro r w' m' S' hv hh st
    refine ⟨by simp [h.size], h.lt, fun j hj => ?_, fun j h1 h2 h3 => ?_, h.ent, fun j o' v' h1 h2 => ?_, h.ord.mono (fun j hj => by rw [hset]; split <;> simp_all), fun j o' h1 h2 k hk => ?_, hh, by rw [put_size]; exact h.tsz, fun t ht => ?_⟩
    · rw [hset] at hj
      split at hj
      · rename_i e; rw [e]; exact hL
      · exact h.sub j hj
    · rw [hset] at h3
      split at h3
      · cases h3
      · exact h.pend j h1 h2 h3
    · rw [hset] at h2
      split at h2
      · cases h2
      · exact h.yl j o' v' h1 h2
    · rw [hset]
      split
      · rfl
      · rw [hset] at h1
        split at h1
        · rename_i e
          subst e
          rw [ho] at h2; cases h2
          exact he k hk
        · exact h.closed j o' h1 h2 k hk
    · rw [put_getD (fun d hdd => Nat.lt_of_lt_of_le (hd d hdd).2 h.tsz)]
      split
      · rename_i e
        rw [(hd t e).1]
        exact hv
      · rename_i e
        refine (h.tr t (fun j o' v' h1 h2 h3 => ?_)).mono st.g
        by_cases hji : j = i
        · subst hji
          have := (h.ent j o' v' h1).1
          rw [ho] at this; cases this
          exact e h3
        · exact ht j o' v' h1 (by rw [hset, if_neg hji]; exact h2) h3
  simp only [wpOpIn, ho]
  rw [h.wants ho he]
  unfold yieldsI at hy
  split at hy
  · rename_i hw
    rw [hw, if_pos rfl]
    refine ⟨about_FW _ _ _ _ _, ?_⟩
    rw [Oper.semAt_eq _ _ _ (stable_not_defer hy)]
    rw [stableI_congr (h.agree ho he)] at hy
    obtain ⟨nx, w', m', S', q1, q2, q3, q4⟩ := (stable_sim hA h.hr (h.rho ds) hy).ok
    rw [q1]
    rcases q2 with ⟨r, rfl, q2⟩ | ⟨rfl, rfl⟩
    · show K (Act.put ⟨tmps, ds⟩ o.dst r) w'
      rw [put_eq]
      exact hK _ m' S' w' (next r w' m' S' q2 q3 q4) q4
    · show K (Act.put ⟨tmps, ds⟩ o.dst undef) w'
      rw [put_eq]
      exact hK _ m' S' w' (next undef w' m' S' undef_VR q3 q4) q4
  · rename_i hw
    rw [hw, if_neg (by simp)]
    cases hy
    refine ⟨about_FW _ _ _ _ _, ?_⟩
    rw [put_eq]
    exact hK _ m S w (next undef w m S undef_VR h.hr (.refl _ _ _ _)) (.refl _ _ _ _)
end
end Go.Ideal
