/- What an operation comes to hangs on its operands alone; sameness; operations that change nothing. No condition. -/
import Derived.Test.YtgbdopegfcphfaaGreatCtlb
namespace Go.Ideal

theorem evalParts_congr {ρ ρ' : Operand → Option IVal} : ∀ {ps : List (Nat × Operand)}, (∀ p ∈ ps, ρ p.2 = ρ' p.2) → evalParts ρ ps = evalParts ρ' ps
  | [], _ => rfl
  | (i, x) :: ps, h => by
    have h1 := h (i, x) (by simp)
    have h2 := evalParts_congr (ps := ps) (fun p hp => h p (by simp [hp]))
    simp only at h1
    simp only [evalParts, h1, h2]
theorem mapO_congr {ρ ρ' : Operand → Option IVal} : ∀ {xs : List Operand}, (∀ x ∈ xs, ρ x = ρ' x) → mapO ρ xs = mapO ρ' xs
  | [], _ => rfl
  | x :: xs, h => by
    have h1 := h x (by simp)
    have h2 := mapO_congr (xs := xs) (fun p hp => h p (by simp [hp]))
    simp only [mapO, h1, h2]
theorem evalOpt_congr {ρ ρ' : Operand → Option IVal} {x : Option Operand} (h : ∀ y, x = some y → ρ y = ρ' y) : evalOpt ρ x = evalOpt ρ' x := by
  cases x with
  | none => rfl
  | some y => simp only [evalOpt, h y rfl]

theorem quietI_congr {A : Par} {ρ ρ' : Operand → Option IVal} {o : Oper} {s : ISt} (h : ∀ x ∈ o.op.operands.toList, ρ x = ρ' x) : quietI A ρ o s = quietI A ρ' o s := by
  unfold quietI
  cases e : o.op <;> rw [e] at h <;> simp only [Op.operands, List.mem_cons, List.not_mem_nil, or_false, forall_eq, forall_eq_or_imp] at h ⊢ <;> try simp only [h]
  case build t parts =>
    rw [evalParts_congr (fun p hp => h p.2 (by simp; exact ⟨p.1, by simpa using hp⟩))]
  case makeFunc fn first captured =>
    cases fn <;> simp only
    rw [mapO_congr (fun x hx => h x (by simp; left; simpa using hx)), mapO_congr (fun x hx => h x (by simp; right; simpa using hx))]
  case slice t x lo hi mx =>
    rw [h x (by simp), evalOpt_congr (x := lo) (fun y hy => h y (by subst hy; simp)), evalOpt_congr (x := hi) (fun y hy => h y (by subst hy; simp)), evalOpt_congr (x := mx) (fun y hy => h y (by subst hy; simp))]

theorem loudI_congr {A : Par} {ρ ρ' : Operand → Option IVal} {o : Oper} {s : ISt} (h : ∀ x ∈ o.op.operands.toList, ρ x = ρ' x) : loudI A ρ o s = loudI A ρ' o s := by
  unfold loudI
  cases e : o.op <;> rw [e] at h <;> simp only [Op.operands, List.mem_cons, List.not_mem_nil, or_false, forall_eq, forall_eq_or_imp] at h ⊢ <;> try simp only [h]
  case buildSlice t len parts =>
    rw [evalParts_congr (fun p hp => h p.2 (by simp; exact ⟨p.1, by simpa using hp⟩))]
  case makeMap t r =>
    cases r with
    | none => rfl
    | some r => simp only; rw [h r (by simp)]
  case call c =>
    obtain ⟨callee, args, ts⟩ := c
    cases callee <;> simp only
    rw [mapO_congr (fun x hx => h x (by simpa [Call.operands] using hx))]

theorem execI_congr {A : Par} {call : CallI} {ρ ρ' : Operand → Option IVal} {o : Oper} {s : ISt} (h : ∀ x ∈ o.op.operands.toList, ρ x = ρ' x) : execI A call ρ o s = execI A call ρ' o s := by
  unfold execI
  rw [quietI_congr h, loudI_congr h]
  split
  · rfl
  · cases e : o.op <;> rw [e] at h <;> try simp only [Op.operands, List.mem_cons, List.not_mem_nil, or_false, forall_eq, forall_eq_or_imp] at h ⊢
    case next it isS =>
      have h1 : ρ it = ρ' it := by first | exact h | exact h it (by simp [Op.operands])
      cases isS <;> first | rfl | simp only [h1]
    case call c =>
      obtain ⟨callee, args, ts⟩ := c
      cases callee <;> try rfl
      rename_i f
      simp only
      rw [h f (by simp [Op.operands, Call.operands]), mapO_congr (fun x hx => h x (by simp [Op.operands, Call.operands]; right; simpa using hx))]

theorem stableI_congr {A : Par} {ρ ρ' : Operand → Option IVal} {o : Oper} {s : ISt} (h : ∀ x ∈ o.op.operands.toList, ρ x = ρ' x) : stableI A ρ o s = stableI A ρ' o s := by
  unfold stableI
  rw [quietI_congr h]
  split
  · rfl
  · cases e : o.op <;> rw [e] at h <;> simp only [Op.operands, List.mem_cons, List.not_mem_nil, or_false, forall_eq, forall_eq_or_imp] at h ⊢ <;> try simp only [h]
    case buildSlice t len parts =>
      rw [evalParts_congr (fun p hp => h p.2 (by simp; exact ⟨p.1, by simpa using hp⟩))]
    case call c =>
      obtain ⟨callee, args, ts⟩ := c
      cases callee <;> try rfl
      rename_i b
      have hm := mapO_congr (ρ := ρ) (ρ' := ρ') (xs := args.toList) (fun x hx => h x (by simpa [Call.operands] using hx))
      cases b <;> first | rfl | simp only [hm]
end Go.Ideal
