/- Tables as tries, and what is to be shown of them. No condition. -/
import Derived.Test.YtgbdopegfcphfaaGreatCtlg
namespace Go.Ideal

inductive Tr (α : Type) where
  | leaf
  | node (l : Tr α) (v : Option α) (r : Tr α)

def Tr.get {α : Type} : Tr α → Nat → Option α
  | .leaf, _ => none
  | .node _ v _, 0 => v
  | .node l _ r, j + 1 => match Nat.beq (j % 2) 0 with
    | true => l.get (j / 2)
    | false => r.get (j / 2)

/-- of each entry, at its place: the place of a subtree's entry k is f k. -/
def Tr.All {α : Type} (Q : Nat → α → Prop) : (Nat → Nat) → Tr α → Prop
  | _, .leaf => True
  | f, .node l v r => l.All Q (fun k => f (2 * k + 1)) ∧ (match v with
    | some a => Q (f 0) a
    | none => True) ∧ r.All Q (fun k => f (2 * k + 2))

theorem Tr.all_get {α : Type} {Q : Nat → α → Prop} : ∀ {t : Tr α} {f : Nat → Nat}, t.All Q f → ∀ (k : Nat) (a : α), t.get k = some a → Q (f k) a
  | .leaf, _, _, k, a, h => by simp [Tr.get] at h
  | .node l v r, f, h, 0, a, hg => by
    simp only [Tr.get] at hg
    subst hg
    exact h.2.1
  | .node l v r, f, h, j + 1, a, hg => by
    simp only [Tr.get] at hg
    split at hg
    · rename_i hb
      have := Tr.all_get h.1 (j / 2) a hg
      have e : 2 * (j / 2) + 1 = j + 1 := by have := Nat.eq_of_beq_eq_true hb; omega
      simpa only [e] using this
    · rename_i hb
      have := Tr.all_get h.2.2 (j / 2) a hg
      have e : 2 * (j / 2) + 2 = j + 1 := by
        have : j % 2 ≠ 0 := fun e => by rw [e] at hb; cases hb
        omega
      simpa only [e] using this

/-- what Par.OK asks of a type. -/
def TIok (P : Program) (ti : TypeId → Option TI) (t : TypeId) (i : TI) : Prop := ∃ info, P.info? t = some info ∧ info.size = i.sz ∧ info.bytes = i.bytes ∧ P.underlying t = some i.und ∧
    (∀ d, i.zero = some d → ∃ z, info.zero = some z ∧ VRD noFroz d z ∧ z.cells.size = i.sz ∧ VRDs noFroz d.cells z.cells.toList ∧ (∀ c ∈ z.cells.toList, c.oneCell' = true)) ∧
    (∀ fs, i.und = .struct fs → ∀ f ∈ fs.toList, ∃ j, ti f.type = some j)

theorem info_at {P : Program} {t : TypeId} {i : TypeInfo} (h : P.types[t]? = some i) : P.info? t = some i := by
  have hlt := (Array.getElem?_eq_some_iff.1 h).1
  unfold Tables.info?
  rw [if_pos hlt]
  exact h

theorem leafOfV_one {v : Value} {d : Dat} (h : leafOfV v = some d) : v.oneCell' = true ∧ d.cells = [d] ∧ v.cells = #[v] := by
  unfold leafOfV at h
  split at h <;> cases h <;> exact ⟨rfl, rfl, rfl⟩

theorem zero_ok {z : Value} {d : Dat} (h : ofV z = some d) (ht : ∀ vs, z ≠ .tuple vs) : VRD noFroz d z ∧ VRDs noFroz d.cells z.cells.toList ∧ ∀ c ∈ z.cells.toList, c.oneCell' = true := by
  refine ⟨ofV_sim h, ?_⟩
  unfold ofV at h
  split at h
  · rename_i cs
    cases e : mapO leafOfV cs.toList with
    | none => rw [e] at h; cases h
    | some ds =>
      rw [e] at h
      cases h
      refine ⟨mapO_leafOfV e, ?_⟩
      have : ∀ (vs : List Value) (ds : List Dat), mapO leafOfV vs = some ds → ∀ c ∈ vs, c.oneCell' = true := by
        intro vs
        induction vs with
        | nil => intro ds _ c hc; cases hc
        | cons v vs ih =>
          intro ds hm c hc
          simp only [mapO] at hm
          split at hm
          case h_2 => cases hm
          rename_i d' e1
          split at hm
          case h_2 => cases hm
          rename_i ds' e2
          rcases List.mem_cons.1 hc with rfl | hc
          · exact (leafOfV_one e1).1
          · exact ih ds' e2 c hc
      exact this _ _ e
  · rename_i cs; exact absurd rfl (ht cs)
  · obtain ⟨h1, h2, h3⟩ := leafOfV_one h
    rw [h2, h3]
    exact ⟨leafOfV_sim h, by simpa using h1⟩

theorem mk_ti {P : Program} {ti : TypeId → Option TI} {t : TypeId} {info : TypeInfo} {i : TI} (h1 : P.info? t = some info) (h2 : info.size = i.sz) (h3 : info.bytes = i.bytes) (h4 : P.underlying t = some i.und)
    (h5 : i.zero = none ∨ ∃ z d, info.zero = some z ∧ i.zero = some d ∧ ofV z = some d ∧ (∀ vs, z ≠ .tuple vs) ∧ z.cells.size = i.sz) (h6 : (match i.und with | .struct fs => fs.toList.all (fun f => (ti f.type).isSome) | _ => true) = true) : TIok P ti t i := by
  refine ⟨info, h1, h2, h3, h4, fun d hd => ?_, fun fs hfs f hf => Option.isSome_iff_exists.1 (by rw [hfs] at h6; exact List.all_eq_true.1 h6 f hf)⟩
  rcases h5 with h5 | ⟨z, d', a1, a2, a3, a4, a5⟩
  · rw [h5] at hd; cases hd
  · rw [a2] at hd; cases hd
    obtain ⟨b1, b2, b3⟩ := zero_ok a3 a4
    exact ⟨z, a1, b1, a5, b2, b3⟩
end Go.Ideal
