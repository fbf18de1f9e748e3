/- Regions that leave their order open. No condition. -/
import Derived.Test.YtgbdopegfcphfaaGreatSame
namespace Go.Ideal

def lst (listed : Array Bool) (i : Nat) : Bool := listed.getD i false

theorem apart_at {ops : List Oper} {all : Array Oper} {k d : Nat} : ∀ {l : List Oper} {i0 : Nat}, apartFrom ops all k d i0 l = true → ∀ (j : Nat) (o : Oper), l[j]? = some o → i0 + j ≠ k →
    o.dst ≠ some d ∧ (d ∉ o.looksAt all ∨ k ∈ edgesOf o)
  | [], i0, h, j, o, hj, hk => by simp at hj
  | x :: l, i0, h, 0, o, hj, hk => by
    simp only [List.getElem?_cons_zero, Option.some.injEq] at hj
    subst hj
    simp only [apartFrom, Bool.and_eq_true, Bool.or_eq_true] at h
    rcases h.1 with h1 | h1
    · exact absurd (Nat.eq_of_beq_eq_true h1) hk
    · refine ⟨by simpa using h1.1, ?_⟩
      rcases h1.2 with h2 | h2
      · exact .inl (by simpa using h2)
      · exact .inr (by simpa using h2)
  | x :: l, i0, h, j + 1, o, hj, hk => by
    simp only [apartFrom, Bool.and_eq_true] at h
    exact apart_at h.2 j o (by simpa using hj) (by omega)

/-- what is stable is apart from all that does not wait for it. -/
theorem stableO_apart {A : Par} {ops : Array Oper} {k : Nat} {ok : Oper} (h : stableO A ops k ok = true) {d : Nat} (hd : ok.dst = some d) :
    d ∉ ok.looksAt ops ∧ ∀ (j : Nat) (o : Oper), ops[j]? = some o → j ≠ k → o.dst ≠ some d ∧ (d ∉ o.looksAt ops ∨ k ∈ edgesOf o) := by
  simp only [stableO, hd, Bool.and_eq_true] at h
  refine ⟨by simpa using h.2.1, fun j o hj hk => ?_⟩
  exact apart_at h.2.2 j o (by simpa using hj) (by omega)

def EOrd (listed : Array Bool) : List (Nat × Oper × IVal) → Prop
  | [] => True
  | (_, o, _) :: E => (∀ j ∈ edgesOf o, lst listed j = true ∨ ∃ o' v', (j, o', v') ∈ E) ∧ EOrd listed E

/-- the interpreter runs ahead of the machine by some operations that change nothing. -/
structure DInv (A : Par) (n : Nat) (ops : Array Oper) (L : Nat) (E : List (Nat × Oper × IVal)) (tm : Tm) (s : ISt) (listed : Array Bool) (tmps : Array Value) (m : List MI) (S : Snap) (w : World) : Prop where
  size : listed.size = ops.size
  lt : ∀ i, L.testBit i = true → i < ops.size
  sub : ∀ i, lst listed i = true → L.testBit i = true
  pend : ∀ i, i < ops.size → L.testBit i = true → lst listed i = false → ∃ o v, (i, o, v) ∈ E
  ent : ∀ i o v, (i, o, v) ∈ E → ops[i]? = some o ∧ stableO A ops i o = true ∧ L.testBit i = true
  yl : ∀ i o v, (i, o, v) ∈ E → lst listed i = false → yieldsI A ops tm s o = some v ∧ ∀ d, o.dst = some d → tm.get d = v ∧ d < n
  ord : EOrd listed E
  closed : ∀ i o, lst listed i = true → ops[i]? = some o → ∀ j ∈ edgesOf o, lst listed j = true
  hr : HR A m S s w
  tsz : n ≤ tmps.size
  tr : ∀ t, (∀ i o v, (i, o, v) ∈ E → lst listed i = false → o.dst ≠ some t) → VR m s.nv S (tm.get t) (tmps.getD t undef)

theorem ready_spec {ops : Array Oper} {listed : Array Bool} {i : Nat} (h : i ∈ Region.ready .any ops listed) (hsz : listed.size = ops.size) :
    i < ops.size ∧ lst listed i = false ∧ ∃ o, ops[i]? = some o ∧ ∀ j ∈ edgesOf o, lst listed j = true := by
  simp only [Region.ready, List.mem_filter, List.mem_range, Bool.and_eq_true, Bool.not_eq_true'] at h
  obtain ⟨h1, h2, h3⟩ := h
  have hi : i < listed.size := by omega
  refine ⟨h1, ?_, ops[i], Array.getElem?_eq_getElem h1, fun j hj => ?_⟩
  · simpa [lst, Array.getD, hi] using h2
  · rw [Array.getElem?_eq_getElem h1] at h3
    simp only [Option.map_some, Option.getD_some, Array.all_eq_true_iff_forall_mem] at h3
    simp only [edgesOf, List.mem_map, List.mem_filter] at hj
    obtain ⟨e, ⟨he1, he2⟩, rfl⟩ := hj
    have := h3 e (by simpa using he1)
    simpa [he2, lst] using this

theorem ready_of {ops : Array Oper} {listed : Array Bool} {i : Nat} {o : Oper} (hsz : listed.size = ops.size) (ho : ops[i]? = some o) (hl : lst listed i = false) (he : ∀ j ∈ edgesOf o, lst listed j = true) : i ∈ Region.ready .any ops listed := by
  have hi := (Array.getElem?_eq_some_iff.1 ho).1
  simp only [Region.ready, List.mem_filter, List.mem_range, Bool.and_eq_true, Bool.not_eq_true']
  have hi' : i < listed.size := by omega
  refine ⟨hi, by simpa [lst, Array.getD, hi'] using hl, ?_⟩
  rw [ho]
  simp only [Option.map_some, Option.getD_some, Array.all_eq_true_iff_forall_mem]
  intro e hem
  by_cases hb : Region.binds .any e = true
  · have := he e.on (by simp only [edgesOf, List.mem_map, List.mem_filter]; exact ⟨e, ⟨by simpa using hem, hb⟩, rfl⟩)
    simp only [lst] at this
    simp [this]
  · simp [hb]

section
variable {A : Par} {n : Nat} {ops : Array Oper} {L : Nat} {E : List (Nat × Oper × IVal)} {tm : Tm} {s : ISt} {listed : Array Bool} {tmps : Array Value} {m : List MI} {S : Snap} {w : World}

/-- a slot that is laid ahead of the machine. -/
def Ahead (E : List (Nat × Oper × IVal)) (listed : Array Bool) (t : Nat) : Prop := ∃ i o v, (i, o, v) ∈ E ∧ lst listed i = false ∧ o.dst = some t

open Classical in
noncomputable def maskI (E : List (Nat × Oper × IVal)) (listed : Array Bool) (tm : Tm) : Operand → Option IVal
  | .tmp t => if Ahead E listed t then none else some (tm.get t)
  | x => evalI tm x

theorem DInv.rho (h : DInv A n ops L E tm s listed tmps m S w) (ds : List Deferred) : RhoR m s.nv S (maskI E listed tm) (Act.eval ⟨tmps, ds⟩) := by
  intro x v hv
  cases x with
  | tmp t =>
    simp only [maskI] at hv
    split at hv
    · cases hv
    · rename_i hna
      cases hv
      exact h.tr t (fun i o v hm hl hd => hna ⟨i, o, v, hm, hl, hd⟩)
  | const c =>
    simp only [maskI, evalI] at hv
    split at hv
    · rename_i d hd; cases hv; exact .dat _ _ ((ofV_sim hd).up _) .nil
    · cases hv
  | global g => simp [maskI, evalI] at hv
  | func f => simp only [maskI, evalI] at hv; cases hv; exact .fn _ [] [] [] [] .nil .nil .nil

/-- what an operation looks at that is ready in the machine is not ahead. -/
theorem DInv.looks (h : DInv A n ops L E tm s listed tmps m S w) {i : Nat} {o : Oper} (ho : ops[i]? = some o) (he : ∀ j ∈ edgesOf o, lst listed j = true) {t : Nat} (ht : t ∈ o.looksAt ops) : ¬ Ahead E listed t := by
  rintro ⟨k, ok, v, hm, hl, hd⟩
  obtain ⟨e1, e2, _⟩ := h.ent k ok v hm
  obtain ⟨p1, p2⟩ := stableO_apart e2 hd
  by_cases hik : i = k
  · subst hik
    rw [ho] at e1; cases e1
    exact p1 ht
  · rcases (p2 i o ho hik).2 with q | q
    · exact q ht
    · rw [he k q] at hl; cases hl

theorem operand_looks {o : Oper} {t : Nat} (h : Operand.tmp t ∈ o.op.operands.toList) : t ∈ o.looksAt ops :=
  List.mem_append_left _ (List.mem_filterMap.2 ⟨.tmp t, h, rfl⟩)

theorem guard_looks {o : Oper} {j : Nat} {want : Bool} {d : Nat} (hg : o.guard = some (j, want)) (hd : (ops[j]?).bind (·.dst) = some d) : d ∈ o.looksAt ops := by
  refine List.mem_append_right _ ?_
  rw [hg]
  simp only
  rw [hd]
  simp

theorem DInv.agree (h : DInv A n ops L E tm s listed tmps m S w) {i : Nat} {o : Oper} (ho : ops[i]? = some o) (he : ∀ j ∈ edgesOf o, lst listed j = true) : ∀ x ∈ o.op.operands.toList, evalI tm x = maskI E listed tm x := by
  intro x hx
  cases x with
  | tmp t => simp only [evalI, maskI]; rw [if_neg (h.looks ho he (operand_looks hx))]
  | _ => rfl

theorem DInv.wants (h : DInv A n ops L E tm s listed tmps m S w) {i : Nat} {o : Oper} (ho : ops[i]? = some o) (he : ∀ j ∈ edgesOf o, lst listed j = true) : Region.wanted o (yielded ops tmps) = wantedI ops tm o :=
  wanted_slot (m := m) (nv := s.nv) (S := S) ops o (fun j want d hg hd => h.tr d (fun i o' v hm hl hd' => h.looks ho he (guard_looks hg hd) ⟨i, o', v, hm, hl, hd'⟩))
end
end Go.Ideal
