/- Calls on data alone. No condition. -/
import Derived.Test.YtgbdopegfcphfaaGreatCtle
namespace Go.Ideal

/-- all that there is, lent to a call. -/
def lent (S : Snap) (w : World) : Snap := { sc := S.sc, sb := fun b i => w.cell? ⟨b, i, none⟩, sm := fun b => match w.heap[b]? with
  | some (.map es c) => some (es.toList, c)
  | _ => none }

theorem lent_grows {S S' : Snap} {w : World} (h : ∀ b i v, S.sc b i = some v → S'.sc b i = some v) : Grows [] 0 (lent S w) [] 0 (lent S' w) :=
  ⟨Nat.le_refl _, h, rfl, rfl, fun id mi e => by simp at e⟩

def ist0 : ISt := { H := [], nv := 0 }

theorem lent_HR {A m S s w} (h : HR A m S s w) : HR A [] (lent S w) ist0 w :=
  ⟨rfl, fun id ver o e => by simp [ist0] at e, fun id id' mi mi' e => by simp at e, ⟨h.snap.sc, fun b i v e => e, fun b es c e => by
    simp only [lent] at e
    split at e
    · rename_i es' c' he
      cases e
      rw [he]
    · cases e⟩⟩

theorem mapSt_sim {A} {f : ISt → IVal → Option (IVal × ISt)} {m w} (hf : ∀ {S s v r v' s'}, HR A m S s w → f s v = some (v', s') → VR m s.nv S v r →
      ∃ S', HR A m S' s' w ∧ s'.nv = s.nv ∧ Step m s.nv S w m s.nv S' w ∧ VR [] 0 (lent S' w) v' r) :
    ∀ {vs vs' : List IVal} {rs : List Value} {S : Snap} {s s' : ISt}, HR A m S s w → mapSt f s vs = some (vs', s') → VRs m s.nv S vs rs →
      ∃ S', HR A m S' s' w ∧ s'.nv = s.nv ∧ Step m s.nv S w m s.nv S' w ∧ VRs [] 0 (lent S' w) vs' rs
  | [], vs', rs, S, s, s', h, hd, hv => by
    simp only [mapSt, Option.some.injEq, Prod.mk.injEq] at hd
    obtain ⟨rfl, rfl⟩ := hd
    cases hv
    exact ⟨S, h, rfl, .refl _ _ _ _, .nil⟩
  | v :: vs, vs', rs, S, s, s', h, hd, hv => by
    simp only [mapSt] at hd
    split at hd
    case h_2 => cases hd
    rename_i d s1 e1
    split at hd
    case h_2 => cases hd
    rename_i ds s2 e2
    cases hd
    obtain ⟨r, rs', rfl, h1, h2⟩ := hv.cons_inv
    obtain ⟨S1, a1, a2, a3, a4⟩ := hf h e1 h1
    obtain ⟨S2, b1, b2, b3, b4⟩ := mapSt_sim hf a1 e2 (by rw [a2]; exact h2.mono a3.g)
    rw [a2] at b3
    exact ⟨S2, b1, b2.trans a2, a3.trans b3, .cons (a4.mono (lent_grows b3.g.sc)) b4⟩

theorem mapO_flatD {m nv S} : ∀ {vs : List IVal} {ds : List Dat} {rs : List Value}, mapO flatD vs = some ds → VRs m nv S vs rs → VRDs S.sc ds rs
  | [], ds, rs, h, hv => by simp only [mapO, Option.some.injEq] at h; subst h; cases hv; exact .nil
  | v :: vs, ds, rs, h, hv => by
    simp only [mapO] at h
    split at h
    case h_2 => cases h
    rename_i d e1
    split at h
    case h_2 => cases h
    rename_i ds' e2
    cases h
    obtain ⟨r, rs', rfl, h1, h2⟩ := hv.cons_inv
    exact .cons (flatD_sim e1 h1) (mapO_flatD e2 h2)

theorem argLeaf_sim {A} : ∀ (d : Nat) {m w S s v r v' s'}, HR A m S s w → argLeaf A d s v = some (v', s') → VR m s.nv S v r →
      ∃ S', HR A m S' s' w ∧ s'.nv = s.nv ∧ Step m s.nv S w m s.nv S' w ∧ VR [] 0 (lent S' w) v' r
  | 0, m, w, S, s, v, r, v', s', h, ha, hv => by simp [argLeaf] at ha
  | d + 1, m, w, S, s, v, r, v', s', h, ha, hv => by
    have ih : ∀ {S s v r v' s'}, HR A m S s w → argLeaf A d s v = some (v', s') → VR m s.nv S v r →
      ∃ S', HR A m S' s' w ∧ s'.nv = s.nv ∧ Step m s.nv S w m s.nv S' w ∧ VR [] 0 (lent S' w) v' r := fun h ha hv => argLeaf_sim d h ha hv
    simp only [argLeaf] at ha
    split at ha
    · cases ha
      exact ⟨S, h, rfl, .refl _ _ _ _, VR.dat_iff.2 (show VRD S.sc _ r from VR.dat_iff.1 hv)⟩
    · split at ha
      case h_2 => cases ha
      rename_i x s1 e
      cases ha
      obtain ⟨S1, a1, a2, a3, a4⟩ := toDatLeaf_sim h e hv
      exact ⟨S1, a1, a2, a3, VR.dat_iff.2 (show VRD S1.sc _ r from a4)⟩
    · rename_i ks vs clock
      cases ha
      refine ⟨S, h, rfl, .refl _ _ _ _, ?_⟩
      cases hv with
      | vmap _ _ _ b kr vr h1 h2 h3 h4 _ =>
      have := h.snap.sm _ _ _ h4
      exact .vmap _ _ _ b kr vr h1 h2 h3 (by simp [lent, this]) .nil
    · rename_i cs
      split at ha
      case h_2 => cases ha
      rename_i ys s1 e
      cases ha
      cases hv with
      | rptr _ b o ss h1 h2 _ =>
      obtain ⟨S1, a1, a2, a3, a4⟩ := mapSt_sim ih h e h1
      refine ⟨S1, a1, a2, a3, .rptr ys b o ss a4 (fun j v hj => .inr ?_) .nil⟩
      show w.cell? _ = _
      rcases h2 j v hj with hh | hh
      · exact h.snap.sc _ _ _ hh
      · exact h.snap.sb _ _ _ hh
    · rename_i id ver
      split at ha
      case h_2 => cases ha
      rename_i ks vs clock ho
      split at ha
      case h_2 => cases ha
      rename_i ds e
      cases ha
      obtain ⟨mi, k1, k2, rfl, ⟨kr, vr, o1, o2, o3, o4⟩, k5⟩ := map_at h ho hv
      have hds := mapO_flatD e o3
      refine ⟨S, h, rfl, .refl _ _ _ _, .vmap ks ds clock mi.b kr vr o2 hds ?_ (by simp [lent, o1, entsR]) .nil⟩
      rw [o4, o3.length, hds.length]
    · rename_i id ver off
      split at ha
      case h_2 => cases ha
      rename_i t cs fz ho
      split at ha
      case h_2 => cases ha
      rename_i ys s1 e
      cases ha
      obtain ⟨mi, k1, k2, rfl, ⟨rc, et, fr, rs, o1, o2, o3, _⟩, k5⟩ := ptr_at h ho hv
      obtain ⟨S1, a1, a2, a3, a4⟩ := mapSt_sim ih h e (o2.drop off)
      refine ⟨S1, a1, a2, a3, .rptr ys mi.b off _ a4 (fun j v hj => .inr ?_) .nil⟩
      show w.cell? _ = _
      rw [List.getElem?_drop] at hj
      simp [World.cell?, o1, o3 _ _ hj]
    · rename_i cs
      split at ha
      case h_2 => cases ha
      rename_i ys s1 e
      cases ha
      cases hv with
      | agg _ ss h1 _ =>
      obtain ⟨S1, a1, a2, a3, a4⟩ := mapSt_sim ih h e h1
      exact ⟨S1, a1, a2, a3, .agg ys ss a4 .nil⟩
    · rename_i f a b
      split at ha
      case h_2 => cases ha
      rename_i ys s1 e1
      split at ha
      case h_2 => cases ha
      rename_i zs s2 e2
      cases ha
      cases hv with
      | fn _ _ _ ar br h1 h2 _ =>
      obtain ⟨S1, a1, a2, a3, a4⟩ := mapSt_sim ih h e1 h1
      obtain ⟨S2, b1, b2, b3, b4⟩ := mapSt_sim ih a1 e2 (by rw [a2]; exact h2.mono a3.g)
      rw [a2] at b3
      exact ⟨S2, b1, b2.trans a2, a3.trans b3, .fn f ys zs ar br (a4.mono (lent_grows b3.g.sc)) b4 .nil⟩
    · cases ha

theorem toDatAgg_sim {A} {m S s w} (h : HR A m S s w) {v : IVal} {r : Value} {d : Dat} {s' : ISt} (hd : toDatAgg A s v = some (d, s')) (hv : VR m s.nv S v r) :
    ∃ S', HR A m S' s' w ∧ s'.nv = s.nv ∧ Step m s.nv S w m s.nv S' w ∧ VRD S'.sc d r := by
  unfold toDatAgg at hd
  split at hd
  · split at hd
    case h_2 => cases hd
    rename_i cs ds s1 e
    cases hd
    cases hv with
    | agg _ ss h1 _ =>
    obtain ⟨S1, a1, a2, a3, a4⟩ := mapLeaf_sim h e h1
    exact ⟨S1, a1, a2, a3, .agg ds ss a4 .nil⟩
  · exact toDatLeaf_sim h hd hv

theorem mapAgg_sim {A} {m w} : ∀ {vs : List IVal} {rs : List Value} {S : Snap} {s s' : ISt} {ds : List Dat}, HR A m S s w → mapSt (toDatAgg A) s vs = some (ds, s') → VRs m s.nv S vs rs →
    ∃ S', HR A m S' s' w ∧ s'.nv = s.nv ∧ Step m s.nv S w m s.nv S' w ∧ VRDs S'.sc ds rs
  | [], rs, S, s, s', ds, h, hd, hv => by
    simp only [mapSt, Option.some.injEq, Prod.mk.injEq] at hd
    obtain ⟨rfl, rfl⟩ := hd
    cases hv
    exact ⟨S, h, rfl, .refl _ _ _ _, .nil⟩
  | v :: vs, rs, S, s, s', ds, h, hd, hv => by
    simp only [mapSt] at hd
    split at hd
    case h_2 => cases hd
    rename_i d s1 e1
    split at hd
    case h_2 => cases hd
    rename_i ds' s2 e2
    cases hd
    obtain ⟨r, rs', rfl, h1, h2⟩ := hv.cons_inv
    obtain ⟨S1, a1, a2, a3, a4⟩ := toDatAgg_sim h e1 h1
    obtain ⟨S2, b1, b2, b3, b4⟩ := mapAgg_sim a1 e2 (by rw [a2]; exact h2.mono a3.g)
    rw [a2] at b3
    exact ⟨S2, b1, b2.trans a2, a3.trans b3, .cons (a4.mono b3.g.sc) b4⟩

theorem toDat_sim {A} {m S s w} (h : HR A m S s w) {v : IVal} {r : Value} {d : Dat} {s' : ISt} (hd : toDat A s v = some (d, s')) (hv : VR m s.nv S v r) :
    ∃ S', HR A m S' s' w ∧ s'.nv = s.nv ∧ Step m s.nv S w m s.nv S' w ∧ VRD S'.sc d r := by
  unfold toDat at hd
  split at hd
  · split at hd
    case h_2 => cases hd
    rename_i cs ds s1 e
    cases hd
    cases hv with
    | tuple _ ss h1 _ =>
    obtain ⟨S1, a1, a2, a3, a4⟩ := mapAgg_sim h e h1
    exact ⟨S1, a1, a2, a3, .tuple ds ss a4 .nil⟩
  · exact toDatAgg_sim h hd hv
end Go.Ideal
