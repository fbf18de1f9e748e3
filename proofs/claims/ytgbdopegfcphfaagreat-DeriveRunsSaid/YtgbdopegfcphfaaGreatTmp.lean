/- Temporaries and operands. No condition. -/
import Derived.Test.YtgbdopegfcphfaaGreatLoudg
namespace Go.Ideal

theorem Tm.get_split (t : Tm) (j : Nat) : t.get (j + 1) = if j % 2 = 0 then t.left.get (j / 2) else t.right.get (j / 2) := by
  cases t with
  | leaf => simp [Tm.get, Tm.left, Tm.right]
  | node l v r =>
    simp only [Tm.get, Tm.left, Tm.right]
    by_cases h : j % 2 = 0
    · simp [h]
    · have : Nat.beq (j % 2) 0 = false := by
        rw [Bool.eq_false_iff]; intro hh; exact h (Nat.eq_of_beq_eq_true hh)
      simp [h, this]
theorem Tm.get_zero (t : Tm) : t.get 0 = t.val := by cases t <;> rfl

theorem Tm.node_left (l r : Tm) (v : IVal) : (Tm.node l v r).left = l := rfl
theorem Tm.node_right (l r : Tm) (v : IVal) : (Tm.node l v r).right = r := rfl

theorem Tm.get_setD (x : IVal) : ∀ (d : Nat) (t : Tm) (i j : Nat), i + 1 < 2 ^ d → (t.setD d i x).get j = if j = i then x else t.get j
  | 0, t, i, j, h => by simp at h
  | d + 1, t, 0, j, h => by
    simp only [Tm.setD]
    cases j with
    | zero => rfl
    | succ j => rw [Tm.get_split, Tm.get_split]; simp [Tm.left, Tm.right]
  | d + 1, t, i + 1, j, h => by
    have h2 : i / 2 + 1 < 2 ^ d := by rw [Nat.pow_succ] at h; omega
    simp only [Tm.setD]
    by_cases hi : i % 2 = 0
    · rw [hi]
      simp only [Nat.beq]
      cases j with
      | zero => simp [Tm.get_zero, Tm.val, Tm.get]
      | succ j =>
        rw [Tm.get_split, Tm.get_split t]
        simp only [Tm.node_left, Tm.node_right]
        rw [Tm.get_setD x d t.left (i / 2) (j / 2) h2]
        by_cases hj : j % 2 = 0
        · simp only [hj, if_true]
          have : (j / 2 = i / 2) ↔ (j + 1 = i + 1) := by omega
          simp only [this]
        · simp only [hj, if_false]
          rw [if_neg (by omega)]
    · have : Nat.beq (i % 2) 0 = false := by
        rw [Bool.eq_false_iff]; intro hh; exact hi (Nat.eq_of_beq_eq_true hh)
      rw [this]
      simp only []
      cases j with
      | zero => simp [Tm.get_zero, Tm.val, Tm.get]
      | succ j =>
        rw [Tm.get_split, Tm.get_split t]
        simp only [Tm.node_left, Tm.node_right]
        rw [Tm.get_setD x d t.right (i / 2) (j / 2) h2]
        by_cases hj : j % 2 = 0
        · simp only [hj, if_true]
          rw [if_neg (by omega)]
        · simp only [hj, if_false]
          have : (j / 2 = i / 2) ↔ (j + 1 = i + 1) := by omega
          simp only [this]

theorem Tm.get_set (t : Tm) (i : Nat) (x : IVal) (j : Nat) (h : i < 4000) : (t.set i x).get j = if j = i then x else t.get j := Tm.get_setD x 12 t i j (by omega)

theorem undef_VR {m nv S} : VR m nv S iundef undef := .dat _ _ (.tuple [] [] .nil .nil) .nil

theorem getD_set (a : Array Value) (d j : Nat) (v : Value) (h : d < a.size) : (a.setIfInBounds d v).getD j undef = if j = d then v else a.getD j undef := by
  simp only [Array.getD_eq_getD_getElem?, Array.getElem?_setIfInBounds]
  by_cases e : d = j
  · subst e; simp [h]
  · rw [if_neg e, if_neg (fun x => e x.symm)]

theorem TR.put {m nv S n tm a} (h : TR m nv S n tm a) {dst : Option Tmp} {v : IVal} {r : Value} {tm' : Tm} (hp : putI n tm dst v = some tm') (hv : VR m nv S v r) (ds : List Deferred) :
    TR m nv S n tm' (Act.put ⟨a, ds⟩ dst r).tmps := by
  unfold putI at hp
  split at hp
  · cases hp; exact h
  · rename_i d
    obtain ⟨hc, rfl⟩ := ite_some hp
    simp only [Bool.and_eq_true] at hc
    have h1 : d < n := by simpa using hc.1
    have h2 : d < 4000 := by simpa using hc.2
    refine ⟨by simp only [Act.put]; rw [Array.size_setIfInBounds]; exact h.size, fun i => ?_⟩
    rw [Tm.get_set _ _ _ _ h2]
    simp only [Act.put]
    rw [getD_set _ _ _ _ (Nat.lt_of_lt_of_le h1 h.size)]
    split
    · exact hv
    · exact h.at_ i

theorem leafOfV_sim {v : Value} {d : Dat} (h : leafOfV v = some d) : VRD noFroz d v := by
  unfold leafOfV at h
  split at h <;> cases h
  · exact .bool _ .nil
  · exact .int _ _ .nil
  · rename_i s
    have : (⟨s.data.toList.toArray⟩ : ByteArray) = s := by simp
    have hh : VRD noFroz (.str s.data.toList) (.string ⟨s.data.toList.toArray⟩) := .str _ .nil
    rwa [this] at hh
  · exact .nilp .nil
  · exact .nilm .nil
  · exact .nilf .nil
  · exact .nils .nil
  · exact .nili .nil

theorem mapO_leafOfV : ∀ {vs : List Value} {ds : List Dat}, mapO leafOfV vs = some ds → VRDs noFroz ds vs
  | [], ds, h => by simp only [mapO, Option.some.injEq] at h; subst h; exact .nil
  | v :: vs, ds, h => by
    simp only [mapO] at h
    split at h
    case h_2 => cases h
    rename_i d e1
    split at h
    case h_2 => cases h
    rename_i ds' e2
    cases h
    exact .cons (leafOfV_sim e1) (mapO_leafOfV e2)

theorem ofV_sim {v : Value} {d : Dat} (h : ofV v = some d) : VRD noFroz d v := by
  unfold ofV at h
  split at h
  · rename_i cs
    cases e : mapO leafOfV cs.toList with
    | none => rw [e] at h; cases h
    | some ds =>
      rw [e] at h
      cases h
      have := VRDs.agg ds cs.toList (mapO_leafOfV e) .nil
      show VRDs _ _ _
      simpa using this
  · rename_i cs
    cases e : mapO leafOfV cs.toList with
    | none => rw [e] at h; cases h
    | some ds =>
      rw [e] at h
      cases h
      have := VRDs.tuple ds cs.toList (mapO_leafOfV e) .nil
      show VRDs _ _ _
      simpa using this
  · exact leafOfV_sim h

theorem TR.rho {m nv S n tm a} (h : TR m nv S n tm a) (ds : List Deferred) : RhoR m nv S (evalI tm) (Act.eval ⟨a, ds⟩) := by
  intro x v hv
  unfold evalI at hv
  split at hv
  · cases hv; exact h.at_ _
  · split at hv
    · rename_i d hd; cases hv; exact .dat _ _ ((ofV_sim hd).up _) .nil
    · cases hv
  · cases hv
  · cases hv; exact .fn _ [] [] [] [] .nil .nil .nil
end Go.Ideal
