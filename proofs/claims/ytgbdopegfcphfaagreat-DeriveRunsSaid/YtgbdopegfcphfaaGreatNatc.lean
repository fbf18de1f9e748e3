/- maps.Clone as a function told to the interpreter. No condition. -/
import Derived.Test.YtgbdopegfcphfaaGreatLaidc
import Derived.Test.YtgbdopegfcphfaaGreatNaty
namespace Go.Ideal
open Go Go.Proofs Go.RowKit

theorem vrds_dats {m nv S} : ∀ {vs : List Dat} {vr : List Value}, VRDs S.sc vs vr → VRs m nv S (vs.map .dat) vr
  | [], _, h => by cases h; exact .nil
  | d :: ds, _, h => by
    obtain ⟨r, rs, rfl, h1, h2⟩ := h.cons_inv
    exact .dat d r h1 (vrds_dats h2)

theorem natClone_ok (pm ovr con) : OvrAt (base pm ovr con) 164 natClone := by
  intro args s Q hx m S w rs h hv
  unfold natClone at hx
  split at hx
  · obtain ⟨r1, _, rfl, v1, hv⟩ := hv.cons_inv
    cases hv.nil_inv
    cases v1 with
    | dat _ _ hd _ =>
      cases hd
      refine realFn_calls Tryz.func164 rfl (by kernel_rfl) ((AnyW.maps_Clone_nil Tryz.cloneM w).mono ?_)
      rintro e w' ⟨rfl, rfl⟩
      exact ⟨_, _, _, m, S, rfl, hx, .dat _ _ (.nilm .nil) .nil, h, .refl ..⟩
  · obtain ⟨r1, _, rfl, v1, hv⟩ := hv.cons_inv
    cases hv.nil_inv
    split at hx
    case h_2 => exact hx.elim
    rename_i id ver _ ks vs clock ho
    obtain ⟨mi, k1, k2, rfl, kO, k5⟩ := map_at h ho v1
    obtain ⟨kr, vr, e1, e2, e3, e4⟩ := kO
    refine realFn_calls Tryz.func164 rfl (by kernel_rfl) ((AnyW.maps_Clone Tryz.cloneM mi.b _ _ w e1).mono ?_)
    rintro e w' ⟨rfl, rfl⟩
    obtain ⟨n1, n2⟩ := h.new (.map ks vs clock) (.map (entsR kr (ks.map (·.2)) vr).toArray clock) 0 ⟨kr, vr, rfl, e2, e3, e4⟩
    exact ⟨_, _, _, _, S, rfl, hx, .map _ _ ⟨w.heap.size, s.nv, 0⟩ _ (Nat.lt_succ_self _) (by rw [← h.len]; simp) (fun _ => rfl) .nil, n1, n2⟩
  · rename_i ks vs clock
    obtain ⟨r1, _, rfl, v1, hv⟩ := hv.cons_inv
    cases hv.nil_inv
    cases v1 with
    | vmap _ _ _ b kr vr h1 h2 h3 h4 _ =>
      have e1 := h.snap.sm _ _ _ h4
      refine realFn_calls Tryz.func164 rfl (by kernel_rfl) ((AnyW.maps_Clone Tryz.cloneM b _ _ w e1).mono ?_)
      rintro e w' ⟨rfl, rfl⟩
      obtain ⟨n1, n2⟩ := h.new (.map ks (vs.map .dat) clock) (.map (entsR kr (ks.map (·.2)) vr).toArray clock) 0 ⟨kr, vr, rfl, h1, vrds_dats h2, by simp [h3]⟩
      exact ⟨_, _, _, _, S, rfl, hx, .map _ _ ⟨w.heap.size, s.nv, 0⟩ _ (Nat.lt_succ_self _) (by rw [← h.len]; simp) (fun _ => rfl) .nil, n1, n2⟩
  · exact hx.elim
end Go.Ideal
