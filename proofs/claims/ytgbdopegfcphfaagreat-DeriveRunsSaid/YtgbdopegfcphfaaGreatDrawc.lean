/- Regions that leave their order open: the interpreter's steps. No condition. -/
import Derived.Test.YtgbdopegfcphfaaGreatDrawb
namespace Go.Ideal

theorem bit_set (L i j : Nat) : (L ||| (1 <<< i)).testBit j = (L.testBit j || decide (i = j)) := by
  rw [Nat.testBit_or, Nat.one_shiftLeft, Nat.testBit_two_pow]

theorem readyAt_spec {L i : Nat} {o : Oper} (h : readyAt L i o = true) : L.testBit i = false ∧ ∀ j ∈ edgesOf o, L.testBit j = true := by
  simp only [readyAt, Bool.and_eq_true, Bool.not_eq_true', List.all_eq_true] at h
  exact ⟨h.1, h.2⟩

theorem readyI_mem {L : Nat} : ∀ {l : List Oper} {i0 i : Nat} {o : Oper}, (i, o) ∈ readyI L i0 l ↔ (∃ k, i = i0 + k ∧ l[k]? = some o ∧ readyAt L i o = true)
  | [], i0, i, o => by simp [readyI]
  | x :: l, i0, i, o => by
    simp only [readyI]
    have ih := readyI_mem (L := L) (l := l) (i0 := i0 + 1) (i := i) (o := o)
    constructor
    · intro h
      split at h
      · rename_i hr
        rcases List.mem_cons.1 h with e | h
        · cases e; exact ⟨0, by simp, by simp, hr⟩
        · obtain ⟨k, e1, e2, e3⟩ := ih.1 h
          exact ⟨k + 1, by omega, by simpa using e2, e3⟩
      · obtain ⟨k, e1, e2, e3⟩ := ih.1 h
        exact ⟨k + 1, by omega, by simpa using e2, e3⟩
    · rintro ⟨k, e1, e2, e3⟩
      cases k with
      | zero =>
        simp only [List.getElem?_cons_zero, Option.some.injEq] at e2
        subst e2
        simp only [Nat.add_zero] at e1
        subst e1
        rw [if_pos e3]
        simp
      | succ k =>
        have := ih.2 ⟨k, by omega, by simpa using e2, e3⟩
        split
        · exact List.mem_cons_of_mem _ this
        · exact this

theorem readyI_at {ops : Array Oper} {L i : Nat} {o : Oper} : (i, o) ∈ readyI L 0 ops.toList ↔ (ops[i]? = some o ∧ readyAt L i o = true) := by
  rw [readyI_mem]
  constructor
  · rintro ⟨k, e1, e2, e3⟩
    simp only [Nat.zero_add] at e1
    subst e1
    exact ⟨by simpa using e2, e3⟩
  · rintro ⟨e1, e2⟩
    exact ⟨i, by simp, by simpa using e1, e2⟩

theorem yieldsI_congr {A : Par} {ops : Array Oper} {tm tm' : Tm} {s : ISt} {o : Oper} (h : ∀ t ∈ o.looksAt ops, tm'.get t = tm.get t) : yieldsI A ops tm' s o = yieldsI A ops tm s o := by
  have h1 : wantedI ops tm' o = wantedI ops tm o := by
    unfold wantedI
    cases hg : o.guard with
    | none => rfl
    | some g =>
      obtain ⟨j, want⟩ := g
      simp only
      cases hd : (ops[j]?).bind (·.dst) with
      | none => rfl
      | some d => simp only [h d (guard_looks hg hd)]
  have h2 : ∀ x ∈ o.op.operands.toList, evalI tm' x = evalI tm x := by
    intro x hx
    cases x with
    | tmp t => simp only [evalI, h t (operand_looks hx)]
    | _ => rfl
  unfold yieldsI
  rw [h1, stableI_congr h2]

section
variable {A : Par} {n : Nat} {ops : Array Oper} {L : Nat} {E : List (Nat × Oper × IVal)} {tm : Tm} {s : ISt} {listed : Array Bool} {tmps : Array Value} {m : List MI} {S : Snap} {w : World}

theorem putI_get {n : Nat} {tm tm' : Tm} {dst : Option Tmp} {v : IVal} (h : putI n tm dst v = some tm') (t : Nat) : tm'.get t = if dst = some t then v else tm.get t := by
  unfold putI at h
  split at h
  · cases h; simp
  · rename_i d
    obtain ⟨hc, rfl⟩ := ite_some h
    simp only [Bool.and_eq_true] at hc
    rw [Tm.get_set _ _ _ _ (by simpa using hc.2)]
    by_cases e : t = d
    · subst e; simp
    · rw [if_neg e, if_neg (fun x => e (Option.some.inj x).symm)]
theorem putI_lt {n : Nat} {tm tm' : Tm} {d : Tmp} {v : IVal} (h : putI n tm (some d) v = some tm') : d < n := by
  simp only [putI] at h
  obtain ⟨hc, _⟩ := ite_some h
  simp only [Bool.and_eq_true] at hc
  simpa using hc.1

/-- the interpreter takes one ahead. -/
theorem DInv.ahead (h : DInv A n ops L E tm s listed tmps m S w) {i : Nat} {o : Oper} (ho : ops[i]? = some o) (hr : readyAt L i o = true) (hs : stableO A ops i o = true) {v : IVal} (hy : yieldsI A ops tm s o = some v) {tm' : Tm} (hp : putI n tm o.dst v = some tm') :
    DInv A n ops (L ||| (1 <<< i)) ((i, o, v) :: E) tm' s listed tmps m S w := by
  obtain ⟨r1, r2⟩ := readyAt_spec hr
  have hi := (Array.getElem?_eq_some_iff.1 ho).1
  have hl : lst listed i = false := by
    cases hq : lst listed i with
    | false => rfl
    | true => rw [h.sub i hq] at r1; cases r1
  have hedge : ∀ {j oj vj}, (j, oj, vj) ∈ E → i ∉ edgesOf oj := by
    intro j oj vj hm he
    rcases h.ord.edge hm i he with q | ⟨o', v', q⟩
    · rw [hl] at q; cases q
    · rw [(h.ent _ _ _ q).2.2] at r1; cases r1
  have hne : ∀ {j oj vj}, (j, oj, vj) ∈ E → j ≠ i := by
    intro j oj vj hm e
    subst e
    rw [(h.ent _ _ _ hm).2.2] at r1; cases r1
  refine ⟨h.size, fun j hj => ?_, fun j hj => by rw [bit_set, h.sub j hj]; rfl, fun j h1 h2 h3 => ?_, fun j oj vj hm => ?_, fun j oj vj hm hlj => ?_, ⟨fun j hj => ?_, h.ord⟩, h.closed, h.hr, h.tsz, fun t ht => ?_⟩
  · rw [bit_set, Bool.or_eq_true, decide_eq_true_eq] at hj
    rcases hj with hj | hj
    · exact h.lt j hj
    · omega
  · rw [bit_set, Bool.or_eq_true, decide_eq_true_eq] at h2
    rcases h2 with h2 | h2
    · obtain ⟨o', v', q⟩ := h.pend j h1 h2 h3
      exact ⟨o', v', List.mem_cons_of_mem _ q⟩
    · subst h2; exact ⟨o, v, by simp⟩
  · rcases List.mem_cons.1 hm with e | hm
    · cases e
      exact ⟨ho, hs, by rw [bit_set]; simp⟩
    · obtain ⟨q1, q2, q3⟩ := h.ent j oj vj hm
      exact ⟨q1, q2, by rw [bit_set, q3]; rfl⟩
  · rcases List.mem_cons.1 hm with e | hm
    · cases e
      refine ⟨?_, fun d hd => ⟨by rw [putI_get hp, if_pos hd], by rw [hd] at hp; exact putI_lt hp⟩⟩
      rw [yieldsI_congr (tm := tm) (fun t ht => ?_)]
      · exact hy
      · rw [putI_get hp]
        refine if_neg (fun hd => ?_)
        exact (stableO_apart hs hd).1 ht
    · obtain ⟨q1, q2⟩ := h.yl j oj vj hm hlj
      obtain ⟨p1, p2, p3⟩ := h.ent j oj vj hm
      refine ⟨?_, fun d hd => ⟨?_, (q2 d hd).2⟩⟩
      · rw [yieldsI_congr (tm := tm) (fun t ht => ?_)]
        · exact q1
        · rw [putI_get hp]
          refine if_neg (fun hd => ?_)
          rcases ((stableO_apart hs hd).2 j oj p1 (hne hm)).2 with q | q
          · exact q ht
          · exact hedge hm q
      · rw [putI_get hp, if_neg (fun hd' => ?_)]
        · exact (q2 d hd).1
        · exact ((stableO_apart p2 hd).2 i o ho (fun e => hne hm e.symm)).1 hd'
  · have := r2 j hj
    cases hq : lst listed j with
    | true => exact .inl rfl
    | false => exact .inr (h.pend j (h.lt j this) this hq)
  · have hnd : o.dst ≠ some t := ht i o v (by simp) hl
    rw [putI_get hp, if_neg hnd]
    exact h.tr t (fun j oj vj hm hlj => ht j oj vj (List.mem_cons_of_mem _ hm) hlj)
end
end Go.Ideal
