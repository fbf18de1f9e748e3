/- The small built-ins; conversions; slice literals; all of them together. No condition. -/
import Derived.Test.YtgbdopegfcphfaaGreatLoude
namespace Go.Ideal

theorem min_sim {A : Par} {m nv S} (w : World) : ∀ {xs : List IVal} {x v : IVal} {rx : Value} {rs : List Value}, minI x xs = some v → VR m nv S x rx → VRs m nv S xs rs →
    ∃ r, (rs.foldlM Builtin.min2 rx).run A.P w = .ok r w ∧ VR m nv S v r
  | [], x, v, rx, rs, h, hx, hr => by
    simp only [minI, Option.some.injEq] at h
    subst h
    cases hr
    exact ⟨rx, rfl, hx⟩
  | y :: xs, x, v, rx, rs, h, hx, hr => by
    obtain ⟨ry, rs', rfl, h1, h2⟩ := hr.cons_inv
    unfold minI at h
    split at h
    · rename_i heq; cases heq
    · rename_i k a k' b xs' heq
      cases heq
      have := int_inv hx
      subst this
      have := int_inv h1
      subst this
      obtain ⟨r, r1, r2⟩ := min_sim w h (vi _ _) h2
      exact ⟨r, by simp only [List.foldlM_cons, Builtin.min2, Sem.run_bind, Sem.run_pure, Result.andThen_ok]; exact r1, r2⟩
    · cases h

theorem max_sim {A : Par} {m nv S} (w : World) : ∀ {xs : List IVal} {x v : IVal} {rx : Value} {rs : List Value}, maxI x xs = some v → VR m nv S x rx → VRs m nv S xs rs →
    ∃ r, (rs.foldlM Builtin.max2 rx).run A.P w = .ok r w ∧ VR m nv S v r
  | [], x, v, rx, rs, h, hx, hr => by
    simp only [maxI, Option.some.injEq] at h
    subst h
    cases hr
    exact ⟨rx, rfl, hx⟩
  | y :: xs, x, v, rx, rs, h, hx, hr => by
    obtain ⟨ry, rs', rfl, h1, h2⟩ := hr.cons_inv
    unfold maxI at h
    split at h
    · rename_i heq; cases heq
    · rename_i k a k' b xs' heq
      cases heq
      have := int_inv hx
      subst this
      have := int_inv h1
      subst this
      obtain ⟨r, r1, r2⟩ := max_sim w h (vi _ _) h2
      exact ⟨r, by simp only [List.foldlM_cons, Builtin.max2, Sem.run_bind, Sem.run_pure, Result.andThen_ok]; exact r1, r2⟩
    · cases h

theorem clear_sim {A} (hA : Par.OK A) {m S s w} (h : HR A m S s w) {t : TypeId} {ts : Array TypeId} (hts : ts[0]? = some t) {x v : IVal} {rx : Value} {s' : ISt} (hc : clearI A s t x = some (v, s')) (hx : VR m s.nv S x rx) (ty : TypeId) :
    ValOK A m S s w v s' ((Builtin.clear_ ts ty #[rx]).run A.P w) := by
  unfold clearI at hc
  split at hc
  case h_1 => cases hc
  rename_i e i he
  obtain ⟨it, hit, hu, hj⟩ := elemT_inv he
  have hun := run_underlying_ti hA hit w
  rw [hu] at hun
  have hunit : ∀ nv, VR m nv S (.tuple []) (.tuple #[]) := fun nv => .tuple [] [] .nil .nil
  split at hc
  · cases hc
    have := nils_inv hx
    subst this
    refine ValOK.same h (r := .tuple #[]) ?_ (hunit _)
    simp [Builtin.clear_, hts, hun]
  · rename_i id ver off len
    split at hc
    · cases hc
      obtain ⟨a, c, rfl⟩ := mref_inv hx
      refine ValOK.same h (r := .tuple #[]) ?_ (hunit _)
      simp [Builtin.clear_, hts, hun]
    · rename_i k
      split at hc
      case h_2 => cases hc
      rename_i z e' cs fz hz ho
      split at hc
      case h_2 => cases hc
      rename_i ys hb hp
      cases hc
      obtain ⟨zr, z1, z2, z3, z4, z5⟩ := run_zeroValue_ti hA hj w hz
      have hzl : VRs m s.nv S (z.cells.map IVal.dat) zr.cells.toList := VRs.of_dat (z4.up S.sc)
      have hrow : (Builtin.zeroCells zr.cells (k + 1)).toList = (List.replicate (k + 1) zr.cells.toList).flatten := rows_list zr.cells (k + 1)
      cases hx with
      | mref _ _ _ _ cap mi a q1 q2 q3 hsp q4 _ =>
      obtain ⟨mi', k1, k2, _⟩ := h.obj id ver _ (obj_at ho)
      rw [q2] at k1; cases k1
      obtain ⟨w', p1, p2, p3⟩ := putCells_sim h ho (by simpa using hb) hp (hzl.replicate_flatten (k + 1)) (fun v hv => by
        simp only [List.mem_flatten, List.mem_replicate] at hv
        obtain ⟨l, ⟨_, rfl⟩, hv⟩ := hv
        exact z5 v hv) q2
      have ha : a = ⟨mi.b, off, none⟩ := by
        rcases q4 k2 with ⟨z1, _⟩ | ⟨z1, _⟩
        · cases z1
        · exact z1
      subst ha
      refine ⟨.tuple #[], w', m, S, ?_, hunit _, p2, p3⟩
      simp [Builtin.clear_, hts, hun, z1, hrow, p1]
  · cases hc

theorem builtin_sim {A} (hA : Par.OK A) {m S s w} (h : HR A m S s w) {b : Builtin} {ts : Array TypeId} {args : List IVal} {rs : List Value} {v : IVal} {s' : ISt} (hb : builtinI A b ts args s = some (v, s')) (hv : VRs m s.nv S args rs) (ty : TypeId) (cs : Array Bool) :
    ∃ r w' m' S', (builtin b ts ty cs rs.toArray).run A.P w = .ok (.value r) w' ∧ VR m' s'.nv S' v r ∧ HR A m' S' s' w' ∧ Step m s.nv S w m' s'.nv S' w' := by
  unfold builtinI at hb
  split at hb
  · -- len
    rename_i x
    obtain ⟨rx, _, rfl, h1, h2⟩ := hv.cons_inv
    cases h2
    split at hb
    case h_2 => cases hb
    rename_i i hi
    cases ht : ts[0]? with
    | none => rw [ht] at hi; cases hi
    | some t =>
    rw [ht] at hi
    have hti : A.ti t = some i := hi
    have hu := run_underlying_ti hA hti w
    have fin : ∀ n : Nat, (Builtin.len_ ts ty #[rx]).run A.P w = .ok (goInt n) w → ∃ r w' m' S', (builtin .len ts ty cs [rx].toArray).run A.P w = .ok (.value r) w' ∧ VR m' s.nv S' (vint n) r ∧ HR A m' S' s w' ∧ Step m s.nv S w m' s.nv S' w' :=
      fun n hn => ⟨goInt n, w, m, S, by simp [builtin, hn], vi _ _, h, .refl _ _ _ _⟩
    split at hb
    · rename_i hund
      cases hb
      rw [hund] at hu
      apply fin
      simp only [Builtin.len_, ht, List.getElem?_toArray, List.getElem?_cons_zero, Sem.run_bind, hu, Result.andThen_ok, Sem.run_pure]
    · rename_i hund
      cases hb
      rw [hund] at hu
      have := str_inv h1
      subst this
      apply fin
      rename_i l
      have e1 : (ByteArray.mk l.toArray).size = l.length := by simp [ByteArray.size]
      simp only [Builtin.len_, ht, List.getElem?_toArray, List.getElem?_cons_zero, Sem.run_bind, hu, Result.andThen_ok, Sem.run_pure, e1]
    · rename_i hund
      cases hb
      rw [hund] at hu
      have := nils_inv h1
      subst this
      apply fin
      simp [Builtin.len_, ht, hu]
    · rename_i hund
      cases hb
      rw [hund] at hu
      obtain ⟨a, c, rfl⟩ := slc_inv h1
      apply fin
      simp [Builtin.len_, ht, hu]
    · rename_i hund
      cases hb
      rw [hund] at hu
      obtain ⟨a, c, rfl⟩ := mref_inv h1
      apply fin
      simp [Builtin.len_, ht, hu]
    · rename_i hund
      cases hb
      rw [hund] at hu
      have := nilm_inv h1
      subst this
      apply fin
      simp [Builtin.len_, ht, hu]
    · rename_i hund _
      split at hb
      case h_2 => cases hb
      rename_i ks vs c he
      cases hb
      rw [hund] at hu
      obtain ⟨b, kr, vr, rfl, o1, o2, o3, o4⟩ := mapEntries_sim h he h1
      have hg : (getObj b).run A.P w = .ok (.map (entsR kr (ks.map (·.2)) vr).toArray c) w := by simp [getObj, Sem.run, o1]
      have l1 : kr.length = (ks.map (·.2)).length := by rw [← o2.length]; simp
      have l2 : (ks.map (·.2)).length = vr.length := by rw [← o3.length, ← o4]; simp
      apply fin
      simp [Builtin.len_, ht, hu, hg, entsR_length l1 l2, ← o3.length, o4]
    · cases hb
  · -- append
    rename_i x y
    obtain ⟨rx, _, rfl, h1, h2⟩ := hv.cons_inv
    obtain ⟨ry, _, rfl, h3, h4⟩ := h2.cons_inv
    cases h4
    split at hb
    case h_2 => cases hb
    rename_i t t1 hts
    have hts' : ts = #[t, t1] := by apply Array.ext'; rw [hts]
    subst hts'
    split at hb
    case h_2 => cases hb
    rename_i j hj
    obtain ⟨_, _, _, _, hun, _⟩ := hA.ti t1 j hj
    have fin : ∀ {y'}, y = y' → ((∃ e', A.P.underlying t1 = some (.slice e')) ∨ A.P.underlying t1 = some .string) → appendI A s t x y' = some (v, s') →
        ∃ r w' m' S', (builtin .append #[t, t1] ty cs [rx, ry].toArray).run A.P w = .ok (.value r) w' ∧ VR m' s'.nv S' v r ∧ HR A m' S' s' w' ∧ Step m s.nv S w m' s'.nv S' w' := by
      intro y' e hk hc
      subst e
      obtain ⟨r, w', m', S', a1, a2, a3, a4⟩ := append_sim hA h hk hc h1 h3 ty
      exact ⟨r, w', m', S', by simp [builtin, a1], a2, a3, a4⟩
    split at hb
    · cases hb
    · rename_i hund _
      rw [hund] at hun
      exact fin rfl (.inl ⟨_, hun⟩) hb
    · rename_i hund
      rw [hund] at hun
      exact fin rfl (.inr hun) hb
    · cases hb
  · -- copy
    obtain ⟨rx, _, rfl, h1, h2⟩ := hv.cons_inv
    obtain ⟨ry, _, rfl, h3, h4⟩ := h2.cons_inv
    cases h4
    split at hb
    case h_2 => cases hb
    rename_i t ht
    obtain ⟨r, w', m', S', a1, a2, a3, a4⟩ := copy_sim hA h ht hb h1 h3 ty
    exact ⟨r, w', m', S', by simp [builtin, a1], a2, a3, a4⟩
  · -- delete
    obtain ⟨rx, _, rfl, h1, h2⟩ := hv.cons_inv
    obtain ⟨ry, _, rfl, h3, h4⟩ := h2.cons_inv
    cases h4
    split at hb
    case h_2 => cases hb
    rename_i t ht
    obtain ⟨r, w', m', S', a1, a2, a3, a4⟩ := del_sim hA h ht hb h1 h3 ty
    exact ⟨r, w', m', S', by simp [builtin, a1], a2, a3, a4⟩
  · -- min
    obtain ⟨rx, rs', rfl, h1, h2⟩ := hv.cons_inv
    split at hb
    case h_2 => cases hb
    rename_i v' hm
    cases hb
    obtain ⟨r, r1, r2⟩ := min_sim (A := A) w hm h1 h2
    exact ⟨r, w, m, S, by simp [builtin, Builtin.min_, r1], r2, h, .refl _ _ _ _⟩
  · -- max
    obtain ⟨rx, rs', rfl, h1, h2⟩ := hv.cons_inv
    split at hb
    case h_2 => cases hb
    rename_i v' hm
    cases hb
    obtain ⟨r, r1, r2⟩ := max_sim (A := A) w hm h1 h2
    exact ⟨r, w, m, S, by simp [builtin, Builtin.max_, r1], r2, h, .refl _ _ _ _⟩
  · -- cap
    obtain ⟨rx, _, rfl, h1, h2⟩ := hv.cons_inv
    cases h2
    split at hb
    case h_2 => cases hb
    rename_i t ht
    split at hb
    case h_2 => cases hb
    rename_i i hi
    have hun := run_underlying_ti hA hi w
    split at hb
    case h_2 => cases hb
    rename_i hu
    cases hb
    rw [hu] at hun
    have := nils_inv h1
    subst this
    exact ⟨goInt 0, w, m, S, by simp [builtin, Builtin.cap_, ht, hun], vi _ _, h, .refl _ _ _ _⟩
  · -- clear
    obtain ⟨rx, _, rfl, h1, h2⟩ := hv.cons_inv
    cases h2
    split at hb
    case h_2 => cases hb
    rename_i t ht
    obtain ⟨r, w', m', S', a1, a2, a3, a4⟩ := clear_sim hA h ht hb h1 ty
    exact ⟨r, w', m', S', by simp [builtin, a1], a2, a3, a4⟩
  · cases hb
end Go.Ideal
