/- Regions that leave their order open: together. No condition. -/
import Derived.Test.YtgbdopegfcphfaaGreatDrawc
namespace Go.Ideal

theorem foldl_mask (ms : List Nat) : ∀ (l : List Nat) (m0 j0 : Nat), (l.foldl (fun m j => m ||| (1 <<< j) ||| ms.getD j 0) m0).testBit j0 = true → m0.testBit j0 = true ∨ ∃ j ∈ l, j = j0 ∨ (ms.getD j 0).testBit j0 = true
  | [], m0, j0, h => .inl h
  | x :: l, m0, j0, h => by
    rcases foldl_mask ms l _ j0 h with q | ⟨j, hj, q⟩
    · rw [Nat.testBit_or, bit_set, Bool.or_eq_true, Bool.or_eq_true, decide_eq_true_eq] at q
      rcases q with (q | q) | q
      · exact .inl q
      · exact .inr ⟨x, by simp, .inl q⟩
      · exact .inr ⟨x, by simp, .inr q⟩
    · exact .inr ⟨j, by simp [hj], q⟩

theorem preMasks_spec {ops : Array Oper} {listed : Array Bool} (closed : ∀ i o, lst listed i = true → ops[i]? = some o → ∀ j ∈ edgesOf o, lst listed j = true) : ∀ (rest : List Oper) (ms : List Nat), ops.toList.drop ms.length = rest → ms.length ≤ ops.size →
    (∀ (idx : Nat) (o : Oper), idx < ms.length → ops[idx]? = some o → (∀ j ∈ edgesOf o, lst listed j = true) → ∀ j0, (ms.getD idx 0).testBit j0 = true → lst listed j0 = true) →
    ∀ (idx : Nat) (o : Oper), ops[idx]? = some o → (∀ j ∈ edgesOf o, lst listed j = true) → ∀ j0, ((preMasks rest ms).getD idx 0).testBit j0 = true → lst listed j0 = true
  | [], ms, hd, hle, h, idx, o, ho, he, j0, hj => by
    simp only [preMasks] at hj
    rcases Nat.lt_or_ge idx ms.length with hlt | hge
    · exact h idx o hlt ho he j0 hj
    · rw [List.getD_eq_getElem?_getD, List.getElem?_eq_none hge] at hj
      simp at hj
  | x :: rest, ms, hd, hle, h, idx, o, ho, he, j0, hj => by
    simp only [preMasks] at hj
    have hx : ops[ms.length]? = some x := by
      have := congrArg (fun l => l[0]?) hd
      simpa [List.getElem?_drop] using this
    have hlt := (Array.getElem?_eq_some_iff.1 hx).1
    refine preMasks_spec closed rest _ ?_ (by simp; omega) (fun idx2 o2 hi2 ho2 he2 j2 hj2 => ?_) idx o ho he j0 hj
    · have := congrArg (List.drop 1) hd
      simpa [List.drop_drop, Nat.add_comm] using this
    · simp only [List.length_append, List.length_cons, List.length_nil, Nat.zero_add] at hi2
      rcases Nat.lt_or_ge idx2 ms.length with hlt2 | hge2
      · rw [List.getD_eq_getElem?_getD, List.getElem?_append_left hlt2, ← List.getD_eq_getElem?_getD] at hj2
        exact h idx2 o2 hlt2 ho2 he2 j2 hj2
      · have e : idx2 = ms.length := by omega
        subst e
        rw [List.getD_eq_getElem?_getD, List.getElem?_append_right (Nat.le_refl _)] at hj2
        simp only [Nat.sub_self, List.getElem?_cons_zero, Option.getD_some] at hj2
        rw [hx] at ho2; cases ho2
        rcases foldl_mask ms _ _ _ hj2 with q | ⟨j, hj3, q⟩
        · simp at q
        · rcases q with q | q
          · subst q; exact he2 j hj3
          · rcases Nat.lt_or_ge j ms.length with hjl | hjl
            · have hoj : ops[j]? = some ops[j] := Array.getElem?_eq_getElem (by omega)
              exact h j _ hjl hoj (closed j _ (he2 j hj3) hoj) j2 q
            · rw [List.getD_eq_getElem?_getD, List.getElem?_eq_none hjl] at q
              simp at q

section
variable {A : Par} {n : Nat} {ops : Array Oper} {L : Nat} {E : List (Nat × Oper × IVal)} {tm : Tm} {s : ISt} {listed : Array Bool} {tmps : Array Value} {m : List MI} {S : Snap} {w : World}

/-- both take one. -/
theorem DInv.both (hA : Par.OK A) {call : CallI} (hC : CallOK A call) (h : DInv A n ops L E tm s listed tmps m S w) {i : Nat} {o : Oper} (ho : ops[i]? = some o) (hr : i ∈ Region.ready .any ops listed) (hnL : L.testBit i = false)
    {Qx : IVal × ISt → Prop} (hx : (match wantedI ops tm o with
            | true => execI A call (evalI tm) o s
            | false => Tree.ret (iundef, s)).All Qx) (ro : Option Nat) (ds : List Deferred) {QQ : Exit → Act → World → Prop} {K : Act → World → Prop}
    (hK : ∀ v s' tmps' m' S' w' , Qx (v, s') → Step m s.nv S w m' s'.nv S' w' → (∀ tm', putI n tm o.dst v = some tm' → (E.all (fun e => ((preMasks ops.toList []).getD i 0).testBit e.1 || match yieldsI A ops tm' s' e.2.1 with
              | some v' => IVal.same v' e.2.2
              | none => false)) = true → DInv A n ops (L ||| (1 <<< i)) E tm' s' (listed.setIfInBounds i true) tmps' m' S' w') → K ⟨tmps', ds⟩ w') :
    wpOpIn (FW ro) 0 A.P ops QQ i K ⟨tmps, ds⟩ w := by
  obtain ⟨hi, hl, o', ho', he⟩ := ready_spec hr h.size
  rw [ho] at ho'; cases ho'
  have hset := lst_set (listed := listed) (i := i) (by rw [h.size]; exact hi)
  have hnE : ∀ {oj vj}, (i, oj, vj) ∉ E := by
    intro oj vj hm
    rw [(h.ent _ _ _ hm).2.2] at hnL; cases hnL
  have next : ∀ v r s' w' m' S', VR m' s'.nv S' v r → HR A m' S' s' w' → Step m s.nv S w m' s'.nv S' w' → ∀ tm', putI n tm o.dst v = some tm' → (E.all (fun e => ((preMasks ops.toList []).getD i 0).testBit e.1 || match yieldsI A ops tm' s' e.2.1 with
              | some v' => IVal.same v' e.2.2
              | none => false)) = true → DInv A n ops (L ||| (1 <<< i)) E tm' s' (listed.setIfInBounds i true) (Act.put ⟨tmps, ds⟩ o.dst r).tmps m' S' w' := by
    intro v r s' w' m' S' hv hh st tm' hp hall
    refine ⟨by simp [h.size], fun j hj => ?_, fun j hj => ?_, fun j h1 h2 h3 => ?_, fun j oj vj hm => ?_, fun j oj vj hm hlj => ?_, h.ord.mono (fun j hj => by rw [hset]; split <;> simp_all), fun j oj h1 h2 k hk => ?_, hh, by rw [put_size]; exact h.tsz, fun t ht => ?_⟩
    · rw [bit_set, Bool.or_eq_true, decide_eq_true_eq] at hj
      rcases hj with hj | hj
      · exact h.lt j hj
      · omega
    · rw [bit_set]
      rw [hset] at hj
      split at hj
      · rename_i e; subst e; simp
      · rw [h.sub j hj]; rfl
    · rw [hset] at h3
      split at h3
      · cases h3
      · rename_i hne
        rw [bit_set, Bool.or_eq_true, decide_eq_true_eq] at h2
        rcases h2 with h2 | h2
        · exact h.pend j h1 h2 h3
        · exact absurd h2.symm hne
    · obtain ⟨q1, q2, q3⟩ := h.ent j oj vj hm
      exact ⟨q1, q2, by rw [bit_set, q3]; rfl⟩
    · rw [hset] at hlj
      split at hlj
      · cases hlj
      · rename_i hne
        obtain ⟨q1, q2⟩ := h.yl j oj vj hm hlj
        obtain ⟨p1, p2, p3⟩ := h.ent j oj vj hm
        have hpre : ((preMasks ops.toList []).getD i 0).testBit j = false := by
          cases hq : ((preMasks ops.toList []).getD i 0).testBit j with
          | false => rfl
          | true =>
            have := preMasks_spec h.closed ops.toList [] (by simp) (by simp) (fun idx o hidx => by simp at hidx) i o ho he j hq
            rw [hlj] at this; cases this
        have hchk := List.all_eq_true.1 hall _ hm
        simp only [hpre, Bool.false_or] at hchk
        refine ⟨?_, fun d hd => ⟨?_, (q2 d hd).2⟩⟩
        · split at hchk
          · rename_i v' hv'
            rw [hv', IVal.same_eq _ _ hchk]
          · cases hchk
        · rw [putI_get hp, if_neg (fun hd' => ?_)]
          · exact (q2 d hd).1
          · exact ((stableO_apart p2 hd).2 i o ho (fun e => hne e.symm)).1 hd'
    · rw [hset]
      split
      · rfl
      · rw [hset] at h1
        split at h1
        · rename_i e
          subst e
          rw [ho] at h2; cases h2
          exact he k hk
        · exact h.closed j oj h1 h2 k hk
    · have hdl : ∀ d, o.dst = some d → d < tmps.size := fun d hd => by rw [hd] at hp; exact Nat.lt_of_lt_of_le (putI_lt hp) h.tsz
      rw [put_getD hdl, putI_get hp]
      by_cases e : o.dst = some t
      · rw [if_pos e, if_pos e]; exact hv
      · rw [if_neg e, if_neg e]
        refine (h.tr t (fun j oj vj hm hlj hd => ?_)).mono st.g
        refine ht j oj vj hm ?_ hd
        rw [hset, if_neg (fun e2 => by subst e2; exact hnE hm)]
        exact hlj
  simp only [wpOpIn, ho]
  rw [h.wants ho he]
  cases hw : wantedI ops tm o with
  | true =>
    rw [hw] at hx
    simp only at hx
    rw [if_pos rfl]
    rw [execI_congr (h.agree ho he)] at hx
    refine exec_sim hA hC h.hr (h.rho ds) hx ro _ QQ (fun v s' m' S' w' r q hv hh st => ?_)
    rw [put_eq]
    exact hK v s' _ m' S' w' q st (next v r s' w' m' S' hv hh st)
  | false =>
    rw [hw] at hx
    rw [if_neg (by simp)]
    refine ⟨about_FW _ _ _ _ _, ?_⟩
    rw [put_eq]
    exact hK iundef s _ m S w hx (.refl _ _ _ _) (next iundef undef s w m S undef_VR h.hr (.refl _ _ _ _))
end
end Go.Ideal
