/- The quiet operations together: what the interpreter answers the machine answers, and memory is as it was. No condition. -/
import Derived.Test.YtgbdopegfcphfaaGreatBin
namespace Go.Ideal

theorem asI_inv {m nv S v n r} (h : asI v = some n) (hv : VR m nv S v r) : ∃ k, r = .int k n := by
  unfold asI at h
  split at h
  · cases h; exact ⟨_, int_inv hv⟩
  · cases h

theorem bound_sim {P : Program} {m nv S} (w : World) {v : IVal} {r : Value} {y d i : Nat} (Y : Nat) (hy : y ≤ Y) (h : bound (some v) y d = some i) (hv : VR m nv S v r) (code : BoundsCode) :
    (Instr.sliceBound r Y code).run P w = .ok i w ∧ i ≤ y := by
  simp only [bound] at h
  split at h
  · rename_i j e
    obtain ⟨hj, rfl⟩ := ite_some h
    have hj := Nat.le_of_ble_eq_true hj
    obtain ⟨k, rfl⟩ := asI_inv e hv
    refine ⟨?_, hj⟩
    have hc : (0 : Int) ≤ Int.ofNat j ∧ Int.ofNat j ≤ (Y : Int) := by simp only [Int.ofNat_eq_natCast]; omega
    simp only [Instr.sliceBound, asIntOf, Sem.run_bind, Sem.run_pure, Result.andThen_ok]
    rw [if_pos hc]
    rfl
  · cases h

def OptR (m : List MI) (nv : Nat) (S : Snap) : Option IVal → Option Value → Prop
  | none, none => True
  | some v, some r => VR m nv S v r
  | _, _ => False

/-- the bounds of a slice expression. -/
theorem bounds_sim {P : Program} {m nv S} (w : World) {lo hi : Option IVal} {lr hr : Option Value} {len cap h l : Nat} (isSlice : Bool)
    (hl : OptR m nv S lo lr) (hh : OptR m nv S hi hr)
    (hlen : len ≤ cap) (eh : bound hi len len = some h) (el : bound lo h 0 = some l) :
    (Instr.sliceBounds isSlice len cap lr hr none).run P w = .ok (l, h, cap) w ∧ l ≤ h ∧ h ≤ len := by
  cases hi with
  | none =>
    cases hr with
    | some _ => exact hh.elim
    | none =>
      simp only [bound, Option.some.injEq] at eh; subst eh
      cases lo with
      | none =>
        cases lr with
        | some _ => exact hl.elim
        | none => simp only [bound, Option.some.injEq] at el; subst el; exact ⟨rfl, Nat.zero_le _, Nat.le_refl _⟩
      | some v =>
        cases lr with
        | none => exact hl.elim
        | some r =>
          obtain ⟨k1, k2⟩ := bound_sim (P := P) w len (Nat.le_refl _) el hl .sliceB
          exact ⟨by simp [Instr.sliceBounds, k1], k2, Nat.le_refl _⟩
  | some u =>
    cases hr with
    | none => exact hh.elim
    | some q =>
      obtain ⟨q1, q2⟩ := bound_sim (P := P) w cap hlen eh hh (if isSlice then .sliceAcap else .sliceAlen)
      cases lo with
      | none =>
        cases lr with
        | some _ => exact hl.elim
        | none => simp only [bound, Option.some.injEq] at el; subst el; exact ⟨by simp [Instr.sliceBounds, q1], Nat.zero_le _, q2⟩
      | some v =>
        cases lr with
        | none => exact hl.elim
        | some r =>
          obtain ⟨k1, k2⟩ := bound_sim (P := P) w h (Nat.le_refl _) el hl .sliceB
          exact ⟨by simp [Instr.sliceBounds, q1, k1], k2, q2⟩

theorem flat_length {n : Nat} : ∀ {ys : List Dat}, (∀ y ∈ ys, y.cells.length = n) → (ys.flatMap Dat.cells).length = ys.length * n
  | [], _ => by simp
  | y :: ys, h => by
    rw [List.flatMap_cons, List.length_append, flat_length (fun z hz => h z (by simp [hz])), h y (by simp), List.length_cons, Nat.succ_mul]; omega
theorem flat_drop {n : Nat} : ∀ {ys : List Dat} (l : Nat), (∀ y ∈ ys, y.cells.length = n) → (ys.drop l).flatMap Dat.cells = (ys.flatMap Dat.cells).drop (l * n)
  | ys, 0, _ => by simp
  | [], l + 1, _ => by simp
  | y :: ys, l + 1, h => by
    have e := h y (by simp)
    rw [List.drop_succ_cons, flat_drop l (fun z hz => h z (by simp [hz])), List.flatMap_cons]
    have e2 : (l + 1) * n = y.cells.length + l * n := by rw [Nat.succ_mul, e]; omega
    rw [e2, List.drop_length_add_append]
theorem flat_take {n : Nat} : ∀ {ys : List Dat} (l : Nat), (∀ y ∈ ys, y.cells.length = n) → (ys.take l).flatMap Dat.cells = (ys.flatMap Dat.cells).take (l * n)
  | ys, 0, _ => by simp
  | [], l + 1, _ => by simp
  | y :: ys, l + 1, h => by
    have e := h y (by simp)
    rw [List.take_succ_cons, List.flatMap_cons, flat_take l (fun z hz => h z (by simp [hz])), List.flatMap_cons]
    have e2 : (l + 1) * n = y.cells.length + l * n := by rw [Nat.succ_mul, e]; omega
    rw [e2, List.take_length_add_append]

theorem VRDs.drop {c : Froz} : ∀ {vs : List Dat} {rs : List Value} (n : Nat), VRDs c vs rs → VRDs c (vs.drop n) (rs.drop n)
  | _, _, 0, h => by simpa using h
  | [], _, n + 1, h => by cases h; exact .nil
  | _ :: _, _, n + 1, h => by obtain ⟨r, rs', rfl, h1, h2⟩ := h.cons_inv; simpa using h2.drop n
theorem VRDs.take {c : Froz} : ∀ {vs : List Dat} {rs : List Value} (n : Nat), VRDs c vs rs → VRDs c (vs.take n) (rs.take n)
  | _, _, 0, h => by simpa using VRDs.nil
  | [], _, n + 1, h => by cases h; exact .nil
  | _ :: _, _, n + 1, h => by obtain ⟨r, rs', rfl, h1, h2⟩ := h.cons_inv; simpa using VRDs.cons h1 (h2.take n)

theorem slice_sim {A} (hA : Par.OK A) {m nv S} (w : World) {t : TypeId} {x v : IVal} {lo hi mx : Option IVal} {rx : Value} {lr hr mr : Option Value} (h : sliceI A t x lo hi mx = some v) (hx : VR m nv S x rx)
    (hl : OptR m nv S lo lr) (hh : OptR m nv S hi hr) (hm : OptR m nv S mx mr) :
    ∃ r, (Instr.sliceAt t rx lr hr mr).run A.P w = .ok r w ∧ VR m nv S v r := by
  unfold sliceI at h
  split at h
  case h_2 => cases h
  rename_i ty ht
  cases mr with
  | some _ => exact hm.elim
  | none =>
  have hu := run_underlying_ti hA ht w
  split at h
  · -- a string
    rename_i b hund
    rw [hund] at hu
    cases str_inv hx
    split at h
    · rename_i hh' eh
      split at h
      · rename_i l el
        cases h
        have hsz : (ByteArray.mk b.toArray).size = b.length := by simp [ByteArray.size]
        obtain ⟨k1, k2, k3⟩ := bounds_sim (P := A.P) w (len := b.length) (cap := b.length) false hl hh (Nat.le_refl _) eh el
        refine ⟨.string ⟨((b.take hh').drop l).toArray⟩, ?_, vs' _⟩
        have hex : (ByteArray.mk b.toArray).extract l hh' = ⟨((b.take hh').drop l).toArray⟩ := by
          apply ByteArray.ext
          rw [ByteArray.data_extract]
          apply Array.ext'
          simp [List.extract_eq_take_drop, List.drop_take]
        simp only [Instr.sliceAt, Instr.slice, Sem.run_bind, hu, Result.andThen_ok, Option.isSome_none, Bool.false_eq_true, if_false, Sem.run_pure, hsz, k1, hex]
      · cases h
    · cases h
  · -- nil
    rename_i e hund
    rw [hund] at hu
    cases nils_inv hx
    split at h
    · rename_i hh' i eh ei
      split at h
      · rename_i l el
        cases h
        obtain ⟨k1, k2, k3⟩ := bounds_sim (P := A.P) w (len := 0) (cap := 0) true hl hh (Nat.le_refl _) eh el
        have hl0' : l = 0 := by omega
        have hh0' : hh' = 0 := by omega
        subst hl0' hh0'
        refine ⟨.slice none 0 0, ?_, hx⟩
        simp only [Instr.sliceAt, Instr.slice, Sem.run_bind, hu, Result.andThen_ok, k1, run_sizeOf_ti hA ei w]
        rfl
      · cases h
    · cases h
  · -- data
    rename_i e full n xs hund
    rw [hund] at hu
    split at h
    · rename_i hh' i eh ei
      split at h
      · rename_i l el
        obtain ⟨hn, rfl⟩ := ite_some h
        have hn := Nat.eq_of_beq_eq_true hn
        subst hn
        cases hx with
        | dat _ _ hd _ =>
        cases hd with
        | slc _ _ _ b o cap ss h0 h1 h2 h3 h4 _ =>
        obtain ⟨k1, k2, k3⟩ := bounds_sim (P := A.P) w (len := xs.length) (cap := cap) true hl hh h1 eh el
        have hlen : ((xs.take hh').drop l).length = hh' - l := by rw [List.length_drop, List.length_take]; omega
        have hrun : (Instr.sliceAt t (.slice (some ⟨b, o, none⟩) xs.length cap) lr hr none).run A.P w =
            .ok (.slice (some (if cap = l then ⟨b, o, none⟩ else ⟨b, o + l * i.sz, none⟩)) (hh' - l) (cap - l)) w := by
          simp only [Instr.sliceAt, Instr.slice, Sem.run_bind, hu, Result.andThen_ok, k1, run_sizeOf_ti hA ei w, Sem.run_pure]
          by_cases hc : cap = l
          · simp [hc]
          · simp [hc, addr_add]
        refine ⟨_, hrun, ?_⟩
        have hd0 : ∀ y ∈ (xs.take hh').drop l, y.cells.length = i.sz := fun y hy => h0 y (List.mem_of_mem_take (List.mem_of_mem_drop hy))
        have hss : VRDs S.sc (((xs.take hh').drop l).flatMap Dat.cells) ((ss.take (hh' * i.sz)).drop (l * i.sz)) := by
          rw [flat_drop l (fun y hy => h0 y (List.mem_of_mem_take hy)), flat_take hh' h0]
          exact (h3.take _).drop _
        have hfull : (full && Nat.beq hh' xs.length) = true → cap - l = ((xs.take hh').drop l).length := by
          intro hf
          simp only [Bool.and_eq_true] at hf
          have := h2 hf.1
          have := Nat.eq_of_beq_eq_true hf.2
          omega
        rw [← hlen]
        by_cases hc : cap = l
        · subst hc
          rw [if_pos rfl]
          have hnil : ((xs.take hh').drop cap) = [] := List.eq_nil_of_length_eq_zero (by omega)
          rw [hnil] at hss hfull hd0 ⊢
          exact .dat _ _ (.slc _ _ _ b o _ _ hd0 (by simp) (by intro e; have := hfull e; simp at this ⊢) hss (fun j v hj => by
            have := hss.length
            simp only [List.flatMap_nil, List.length_nil] at this
            rw [List.eq_nil_of_length_eq_zero this.symm] at hj
            simp at hj) .nil) .nil
        · rw [if_neg hc]
          refine .dat _ _ (.slc _ _ _ b (o + l * i.sz) _ _ hd0 (by omega) hfull hss (fun j v hj => ?_) .nil) .nil
          rw [List.getElem?_drop, List.getElem?_take] at hj
          split at hj
          · rw [Nat.add_assoc]; exact h4 _ _ hj
          · cases hj
      · cases h
    · cases h
  · -- a row under construction
    rename_i e id ver off len hund
    rw [hund] at hu
    split at h
    · rename_i hh' i eh ei
      split at h
      · rename_i l el
        cases h
        cases hx with
        | mref _ _ _ _ cap mi a h1 h2 h3 hsp h4 _ =>
        obtain ⟨k1, k2, k3⟩ := bounds_sim (P := A.P) w (len := len) (cap := cap) true hl hh h3 eh el
        refine ⟨.slice (some (if cap = l then a else a.add (l * i.sz))) (hh' - l) (cap - l), ?_, ?_⟩
        · simp only [Instr.sliceAt, Instr.slice, Sem.run_bind, hu, Result.andThen_ok, k1, run_sizeOf_ti hA ei w, Sem.run_pure]
          by_cases hc : cap = l
          · simp [hc]
          · simp [hc]
        · refine .mref id ver _ _ _ mi _ h1 h2 (by omega) (by split <;> simp [Addr.add, hsp]; split <;> simp [hsp]) (fun e => ?_) .nil
          by_cases hc : cap = l
          · rw [if_pos hc]
            by_cases hz : l * i.sz = 0
            · rw [hz]
              rcases h4 e with ⟨q1, q2⟩ | ⟨q1, q2⟩
              · exact .inl ⟨by omega, q2⟩
              · exact .inr ⟨q1, fun e => by have := q2 e; omega⟩
            · exact .inl ⟨by omega, by omega⟩
          · rw [if_neg hc]
            rcases h4 e with ⟨q1, q2⟩ | ⟨q1, q2⟩
            · exact .inl ⟨by omega, by omega⟩
            · refine .inr ⟨by rw [q1, addr_add], fun e => ?_⟩
              have := q2 (by omega)
              omega
      · cases h
    · cases h
  · cases h

theorem VRD.flat {c : Froz} {d : Dat} {r : Value} (h : VRD c d r) (hf : d.isFlat1 = true) : VRD noFroz d r := by
  have leaf : ∀ {d : Dat} {r : Value}, VRD c d r → d.isLeafFlat = true → VRD noFroz d r := by
    intro d r h hf
    cases h with
    | bool b _ => exact .bool b .nil
    | int k n _ => exact .int k n .nil
    | str s _ => exact .str s .nil
    | nilp _ => exact .nilp .nil
    | nilm _ => exact .nilm .nil
    | nilf _ => exact .nilf .nil
    | nils _ => exact .nils .nil
    | nili _ => exact .nili .nil
    | slc => simp [Dat.isLeafFlat] at hf
    | agg => simp [Dat.isLeafFlat] at hf
    | tuple => simp [Dat.isLeafFlat] at hf
  have leaves : ∀ {ds : List Dat} {rs : List Value}, VRDs c ds rs → ds.all Dat.isLeafFlat = true → VRDs noFroz ds rs := by
    intro ds
    induction ds with
    | nil => intro rs h _; cases h; exact .nil
    | cons x xs ih =>
      intro rs h hf
      obtain ⟨r, rs', rfl, h1, h2⟩ := h.cons_inv
      simp only [List.all_cons, Bool.and_eq_true] at hf
      exact .cons (leaf h1 hf.1) (ih h2 hf.2)
  cases d with
  | agg cs =>
    cases h with
    | agg _ ss h1 _ => exact .agg _ _ (leaves h1 (by simpa [Dat.isFlat1] using hf)) .nil
  | _ => exact leaf h (by simpa [Dat.isFlat1] using hf)

theorem flatD_sim {m nv S} {v : IVal} {d : Dat} {r : Value} (h : flatD v = some d) (hv : VR m nv S v r) : VRD S.sc d r := by
  cases v with
  | dat x => simp only [flatD, Option.some.injEq] at h; subst h; exact VR.dat_iff.1 hv
  | agg cs =>
    simp only [flatD] at h
    obtain ⟨ds, e, rfl⟩ := Option.map_eq_some_iff.1 h
    obtain ⟨rs, rfl, h1⟩ := agg_inv hv
    exact .agg _ _ (mapO_asDat e h1) .nil
  | _ => simp [flatD] at h

theorem keyOf_sim {A : Par} {m nv S} {t : TypeId} {k : IVal} {d : Dat} {r : Value} (h : keyOf A t k = some d) (hv : VR m nv S k r) : A.keyT t d = true ∧ VRD noFroz d r := by
  simp only [keyOf] at h
  split at h
  · rename_i d' e
    obtain ⟨h1, rfl⟩ := ite_some h
    simp only [Bool.and_eq_true] at h1
    exact ⟨h1.1, (flatD_sim e hv).flat h1.2⟩
  · cases h

/-- a map in the machine. -/
theorem mapEntries_sim {A m S s w} (h : HR A m S s w) {x : IVal} {r : Value} {ks : List (Dat × Nat)} {vs : List IVal} {clock : Nat} (he : mapEntries s x = some (ks, vs, clock)) (hx : VR m s.nv S x r) :
    ∃ b kr vr, r = .map (some b) ∧ w.heap[b]? = some (.map (entsR kr (ks.map (·.2)) vr).toArray clock) ∧ VRDs noFroz (ks.map (·.1)) kr ∧ VRs m s.nv S vs vr ∧ ks.length = vs.length := by
  cases hx with
  | map id ver mi b h1 h2 h3 _ =>
    simp only [mapEntries] at he
    split at he
    · rename_i ks' vs' c' e
      cases he
      obtain ⟨mi', k1, k2, k3, k4, _⟩ := h.obj id ver _ (obj_at e)
      rw [h2] at k1; cases k1
      obtain ⟨kr, vr, o1, o2, o3, o4⟩ := k4
      have := h3 k2
      subst this
      exact ⟨mi.b, kr, vr, rfl, o1, o2, o3, o4⟩
    · cases he
  | vmap ks' vs' clock' b kr vr h1 h2 h3 h4 _ =>
    simp only [mapEntries, Option.some.injEq, Prod.mk.injEq] at he
    obtain ⟨rfl, rfl, rfl⟩ := he
    exact ⟨b, kr, vr, rfl, h.snap.sm _ _ _ h4, h1, VRs.of_dat h2, by simpa using h3⟩
  | _ => simp [mapEntries] at he

theorem mapKT_run {A} (hA : Par.OK A) {t kt e : TypeId} (h : mapKT A t = some (kt, e)) (w : World) : (underlying t).run A.P w = .ok (.map kt e) w := by
  simp only [mapKT] at h
  split at h
  · rename_i i ht
    split at h
    · rename_i k' e' hund
      cases h
      have := run_underlying_ti hA ht w
      rwa [hund] at this
    · cases h
  · cases h

theorem entsR_length {kr : List Value} {bs : List Nat} {vr : List Value} (h1 : kr.length = bs.length) (h2 : bs.length = vr.length) : (entsR kr bs vr).length = vr.length := by
  simp [entsR, h1, h2]

theorem lookup_sim {A} (hA : Par.OK A) {m S s w} (h : HR A m S s w) {t : TypeId} {x k v : IVal} {ok : Bool} {rx rk : Value} (hl : lookupI A s t x k ok = some v) (hx : VR m s.nv S x rx) (hk : VR m s.nv S k rk) :
    ∃ r, (Instr.lookup t rx rk ok).run A.P w = .ok r w ∧ VR m s.nv S v r := by
  simp only [lookupI] at hl
  split at hl
  case h_2 => cases hl
  rename_i kt e hkt
  split at hl
  case h_2 => cases hl
  rename_i kv i hkv hti
  split at hl
  case h_2 => cases hl
  rename_i z hz
  obtain ⟨q1, q2⟩ := keyOf_sim hkv hk
  obtain ⟨f1, f2⟩ := hA.keyT kt kv q1 rk w q2
  obtain ⟨zr, z1, z2, _⟩ := run_zeroValue_ti hA hti w hz
  have hu := mapKT_run hA hkt w
  -- what is found
  have key : ∀ (ks : List (Dat × Nat)) (vs : List IVal) (kr vr : List Value), foundI (.dat z) ok ks vs kv = some v → VRDs noFroz (ks.map (·.1)) kr → VRs m s.nv S vs vr → ks.length = vs.length →
      (∃ j r', (Instr.findKey kt rk (entsR kr (ks.map (·.2)) vr)).run A.P w = .ok (some (j, r')) w ∧ VR m s.nv S v (if ok then .tuple #[r', .bool true] else r')) ∨
      ((Instr.findKey kt rk (entsR kr (ks.map (·.2)) vr)).run A.P w = .ok none w ∧ VR m s.nv S v (if ok then .tuple #[zr, .bool false] else zr)) := by
    intro ks vs kr vr hf h1 h2 h3
    simp only [foundI] at hf
    split at hf
    · rename_i j hj
      split at hf
      · rename_i v' hv'
        obtain ⟨r', g1, g2⟩ := h2.get j v' hv'
        have hfind := f1 ks kr vr (some j) hj h1 (by rw [h3, h2.length])
        simp only [Option.bind_some, g1, Option.map_some] at hfind
        cases hf
        refine .inl ⟨j, r', hfind, ?_⟩
        cases ok
        · exact g2
        · exact .tuple _ _ (.cons g2 (.cons (vb true) .nil)) .nil
      · cases hf
    · rename_i hj
      have hfind := f1 ks kr vr none hj h1 (by rw [h3, h2.length])
      simp only [Option.bind_none] at hfind
      cases hf
      refine .inr ⟨hfind, ?_⟩
      have hz' : VR m s.nv S (.dat z) zr := VR.dat_iff.2 (z2.up S.sc)
      cases ok
      · exact hz'
      · exact .tuple _ _ (.cons hz' (.cons (vb false) .nil)) .nil
    · cases hf
  split at hl
  · cases nilm_inv hx
    rcases key [] [] [] [] hl .nil .nil rfl with ⟨j, r', r1, r2⟩ | ⟨r1, r2⟩
    · refine ⟨_, ?_, r2⟩
      simp only [entsR, List.map_nil, List.zip_nil_left, List.zipWith_nil_left] at r1
      simp only [Instr.lookup, Sem.run_bind, hu, Result.andThen_ok, Sem.run_pure, f2, r1]
    · refine ⟨_, ?_, r2⟩
      simp only [entsR, List.map_nil, List.zip_nil_left, List.zipWith_nil_left] at r1
      simp only [Instr.lookup, Sem.run_bind, hu, Result.andThen_ok, Sem.run_pure, f2, r1, z1]
  · split at hl
    · rename_i ks vs c he
      obtain ⟨b, kr, vr, rfl, o1, o2, o3, o4⟩ := mapEntries_sim h he hx
      have hg : (getObj b).run A.P w = .ok (.map (entsR kr (ks.map (·.2)) vr).toArray c) w := by simp [getObj, Sem.run, o1]
      rcases key ks vs kr vr hl o2 o3 o4 with ⟨j, r', r1, r2⟩ | ⟨r1, r2⟩
      · refine ⟨_, ?_, r2⟩
        simp only [Instr.lookup, Sem.run_bind, hu, Result.andThen_ok, Sem.run_pure, hg, f2, r1]
      · refine ⟨_, ?_, r2⟩
        simp only [Instr.lookup, Sem.run_bind, hu, Result.andThen_ok, Sem.run_pure, hg, f2, r1, z1]
    · cases hl
end Go.Ideal
