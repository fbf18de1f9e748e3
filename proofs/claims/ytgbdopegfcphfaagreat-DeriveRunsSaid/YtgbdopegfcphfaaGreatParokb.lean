/- What the interpreter's tables say of the program is so: maps' keys; the tables as a whole. No condition. -/
import Derived.Test.YtgbdopegfcphfaaGreatParok
namespace Go.Ideal
open Go Go.Proofs

theorem bytes_beq (a b : List UInt8) : ((⟨a.toArray⟩ : ByteArray) == ⟨b.toArray⟩) = bytesEq a b := by
  rw [beq_toListBytes, toList_mk, toList_mk, bytesEq_eq]

theorem sameNow_leaf {u : TypeDesc} {a b : Dat} {e : Bool} (h : fitLeaf u a = true) (he : keqLeaf a b = some e) {c : Froz} {ra rb : Value} (ha : VRD c a ra) (hb : VRD c b rb) : Instr.sameNow u ra rb = some e := by
  unfold fitLeaf at h
  split at h
  · split at h
    · cases b <;> simp only [keqLeaf, Option.some.injEq, reduceCtorEq] at he
      subst he
      cases ha; cases hb
      simp [Instr.sameNow, bytes_beq]
    · cases h
  · split at h
    · cases b <;> simp only [keqLeaf, reduceCtorEq] at he
      split at he
      · rename_i hk
        subst hk
        cases he
        cases ha; cases hb
        simp [Instr.sameNow]
        rfl
      · cases he
    · cases h
  · split at h
    · cases b <;> simp only [keqLeaf, Option.some.injEq, reduceCtorEq] at he
      subst he
      cases ha; cases hb
      simp [Instr.sameNow]
    · cases h
  · cases h

theorem entsR_cons (k : Value) (ks : List Value) (b : Nat) (bs : List Nat) (v : Value) (vs : List Value) : entsR (k :: ks) (b :: bs) (v :: vs) = { key := k, val := v, born := b } :: entsR ks bs vs := rfl

theorem findK_cons {k d : Dat} {b : Nat} {ks : List (Dat × Nat)} {n : Nat} {i : Option Nat} (h : findK k ((d, b) :: ks) n = some i) : (keq k d = some true ∧ i = some n) ∨ (keq k d = some false ∧ findK k ks (n + 1) = some i) := by
  simp only [findK] at h
  split at h
  · rename_i e; cases h; exact .inl ⟨e, rfl⟩
  · rename_i e; exact .inr ⟨e, h⟩
  · cases h

theorem keq_leaf {k d : Dat} {e : Bool} (hk : ∀ ds, k ≠ .agg ds) (h : keq k d = some e) : keqLeaf k d = some e := by
  unfold keq at h
  split at h
  · rename_i a b; exact absurd rfl (hk a)
  · exact h

theorem findNow_leaf {u : TypeDesc} {k : Dat} {kr : Value} (hk : ∀ ds, k ≠ .agg ds) (hf : fitLeaf u k = true) (hv : VRD noFroz k kr) : ∀ (ks : List (Dat × Nat)) (krs vrs : List Value) (n : Nat) (i : Option Nat), findK k ks n = some i → VRDs noFroz (ks.map (·.1)) krs → ks.length = vrs.length →
    Instr.findNow u kr (entsR krs (ks.map (·.2)) vrs) n = some (i.bind fun j => (vrs[j - n]?).map fun v => (j, v))
  | [], krs, vrs, n, i, h, _, _ => by
    cases h
    cases krs <;> rfl
  | (d, b) :: ks, krs, vrs, n, i, h, hd, hl => by
    obtain ⟨r, rs, rfl, d1, d2⟩ := hd.cons_inv
    cases vrs with
    | nil => simp at hl
    | cons v vs =>
      simp only [List.map_cons, entsR_cons, Instr.findNow]
      rcases findK_cons h with ⟨e, rfl⟩ | ⟨e, h2⟩
      · rw [sameNow_leaf hf (keq_leaf hk e) hv d1]
        simp
      · rw [sameNow_leaf hf (keq_leaf hk e) hv d1]
        simp only []
        rw [findNow_leaf hk hf hv ks rs vs (n + 1) i h2 d2 (by simpa using hl)]
        cases i with
        | none => rfl
        | some j =>
          have hj : n + 1 ≤ j := (findK_lt h2).1
          have e2 : j - n = (j - (n + 1)) + 1 := by omega
          simp only [Option.bind_some, e2, List.getElem?_cons_succ]

theorem check_leaf {A : Par} (hA : ∀ t i, A.ti t = some i → TIok A.P A.ti t i) {t : TypeId} {k : Dat} (hf : fitU A t k = true) {c : Froz} {kr : Value} (hv : VRD c k kr) (e : Bool) (n : Nat) (w : World) : (Instr.checkKey e (n + 1) t kr).run A.P w = .ok () w := by
  obtain ⟨h1, _⟩ := fitU_kind hA hf
  rcases h1 with ⟨s, ⟨rfl, hu⟩ | ⟨k, n, ⟨rfl, k', hu⟩ | ⟨x, rfl, hu⟩⟩⟩ <;> (cases hv; simp only [Instr.checkKey, Sem.run_bind, run_underlying hu, Result.andThen_ok]; rfl)

theorem forIn_ok {P : Program} {w : World} {f : Nat → PUnit → Sem (ForInStep PUnit)} : ∀ (l : List Nat), (∀ i ∈ l, (f i PUnit.unit).run P w = .ok (.yield PUnit.unit) w) → (forIn l PUnit.unit f).run P w = .ok PUnit.unit w
  | [], _ => rfl
  | i :: l, h => by
    simp only [List.forIn_cons, Sem.run_bind, h i (by simp), Result.andThen_ok]
    exact forIn_ok l (fun j hj => h j (by simp [hj]))

theorem check_arr {A : Par} (hA : ∀ t i, A.ti t = some i → TIok A.P A.ti t i) {t e' : TypeId} {info : TypeInfo} {ds : List Dat} (hu : A.P.underlying t = some (.array ds.length e')) (hi : A.P.info? e' = some info) (hc : A.P.cellsOf e' = 1) (hall : ds.all (fitU A e') = true) {rk : List Value} {c : Froz} (h1 : VRDs c ds rk) (e : Bool) (n : Nat) (w : World) :
    (Instr.checkKey e (n + 1 + 1) t (.agg rk.toArray)).run A.P w = .ok () w := by
  have hsz : ∀ w, (sizeOf e').run A.P w = .ok 1 w := by
    intro w
    rw [run_sz hi w]
    have : A.P.cellsOf e' = info.size := by simp [Program.cellsOf, hi]
    rw [← this, hc]
  have hleaf : ∀ (d : Dat) (r : Value), fitU A e' d = true → VRD c d r → (Instr.checkKey e (n + 1) e' r).run A.P w = .ok () w := fun d r q1 q2 => check_leaf hA q1 q2 e n w
  generalize n + 1 = k at hleaf ⊢
  simp only [Instr.checkKey, Sem.run_bind, run_underlying hu, Result.andThen_ok]
  simp only [Std.Legacy.Range.forIn_eq_forIn_range', Std.Legacy.Range.size, Nat.sub_zero, Nat.add_one_sub_one, Nat.div_one]
  rw [forIn_ok]
  · rfl
  · intro i hm
    have hilt : i < ds.length := by simpa using hm
    obtain ⟨r, q1, q2⟩ := h1.get i ds[i] (List.getElem?_eq_getElem hilt)
    have hfi : fitU A e' ds[i] = true := List.all_eq_true.1 hall _ (List.getElem_mem hilt)
    have hp := part_one hA hfi (xs := rk.toArray) (off := i * 1) (v := r) (by simpa using q1) w
    simp only [Sem.run_bind, hsz, Result.andThen_ok, hp, hleaf _ _ hfi q2, Sem.run_pure]

theorem keyLeaf_run {A : Par} (hA : ∀ t i, A.ti t = some i → TIok A.P A.ti t i) {t : TypeId} {k : Dat} (hf : fitU A t k = true) {kr : Value} (w : World) (hv : VRD noFroz k kr) :
    (∀ (ks : List (Dat × Nat)) (krs vrs : List Value) (i : Option Nat), findK k ks 0 = some i → VRDs noFroz (ks.map (·.1)) krs → ks.length = vrs.length →
      (Instr.findKey t kr (entsR krs (ks.map (·.2)) vrs)).run A.P w = .ok (i.bind fun j => (vrs[j]?).map fun v => (j, v)) w) ∧
    (∀ e, (Instr.checkKey e 10000 t kr).run A.P w = .ok () w) := by
  have hfl : ∃ u, A.P.underlying t = some u ∧ fitLeaf u k = true := by
    unfold fitU at hf
    split at hf
    case h_2 => cases hf
    rename_i i hi
    rw [Bool.and_eq_true] at hf
    obtain ⟨info, _, _, _, h4, _⟩ := hA t i hi
    exact ⟨_, h4, hf.2⟩
  obtain ⟨u, hu, hfl⟩ := hfl
  have hk : ∀ ds, k ≠ .agg ds := by intro ds e; subst e; simp [fitLeaf] at hfl
  refine ⟨fun ks krs vrs i hi hd hl => ?_, fun e => ?_⟩
  · have := findNow_leaf hk hfl hv ks krs vrs 0 i hi hd hl
    simp only [Nat.sub_zero] at this
    simp [Instr.findKey, run_underlying hu, this]
  · exact check_leaf hA hf hv e 9999 w

/-- two texts. -/
theorem fits2 {A : Par} (hA : ∀ t i, A.ti t = some i → TIok A.P A.ti t i) {t e : TypeId} {n : Nat} (hu : A.P.underlying t = some (.array n e)) {ds : List Dat} (hf : fits A t ds = true) : n = ds.length ∧ ds.all (fitU A e) = true := by
  unfold fits at hf
  split at hf
  case h_2 => cases hf
  rename_i i hi
  obtain ⟨info, _, _, _, h4, _⟩ := hA t i hi
  rw [hu] at h4
  cases h4' : i.und <;> rw [h4'] at hf h4 <;> simp only [Option.some.injEq, TypeDesc.array.injEq, reduceCtorEq] at h4
  obtain ⟨rfl, rfl⟩ := h4
  simp only [Bool.and_eq_true] at hf
  exact ⟨Nat.eq_of_beq_eq_true hf.1, hf.2⟩

theorem eqItems_run {A : Par} (hA : ∀ t i, A.ti t = some i → TIok A.P A.ti t i) {c : Froz} (d : Nat) (e : TypeId) (w : World) (xs ys : Array Value) : ∀ (as' bs : List Dat) (ra rb : List Value) (j : Nat) (q : Bool), as'.all (fitU A e) = true → keqL as' bs = some q → VRDs c as' ra → VRDs c bs rb →
    (∀ (i : Nat) (v : Value), ra[i]? = some v → xs[j + i]? = some v) → (∀ (i : Nat) (v : Value), rb[i]? = some v → ys[j + i]? = some v) →
    (Op.eqItems (d + 1) e 1 xs ys (List.range' j as'.length)).run A.P w = .ok q w
  | [], bs, ra, rb, j, q, _, he, ha, hb, hx, hy => by
    cases bs with
    | cons b bs => simp [keqL] at he
    | nil =>
      simp only [keqL, Option.some.injEq] at he
      subst he
      simp [Op.eqItems]
  | a :: as', bs, ra, rb, j, q, hf, he, ha, hb, hx, hy => by
    cases bs with
    | nil => simp [keqL] at he
    | cons b bs =>
      simp only [List.all_cons, Bool.and_eq_true] at hf
      obtain ⟨p, q, k1, k2, rfl⟩ := keqL_cons he
      obtain ⟨r1, ra', rfl, a1, a2⟩ := ha.cons_inv
      obtain ⟨r2, rb', rfl, b1, b2⟩ := hb.cons_inv
      have x1 : xs[j * 1]? = some r1 := by simpa using hx 0 r1 rfl
      have y1 : ys[j * 1]? = some r2 := by simpa using hy 0 r2 rfl
      have ih := eqItems_run hA d e w xs ys as' bs ra' rb' (j + 1) q hf.2 k2 a2 b2 (fun i v hv => by rw [Nat.add_assoc, Nat.add_comm 1 i]; exact hx (i + 1) v (by simpa using hv)) (fun i v hv => by rw [Nat.add_assoc, Nat.add_comm 1 i]; exact hy (i + 1) v (by simpa using hv))
      have hkb : (part e ys (j * 1)).run A.P w = .ok r2 w := part_one hA hf.1 y1 w
      simp only [List.length_cons, List.range'_succ, Op.eqItems, Sem.run_bind, part_one hA hf.1 x1 w, hkb, Result.andThen_ok, eqLeaf_run hA hf.1 k1 a1 b1]
      cases p with
      | false => simp
      | true => simp [ih]

theorem agg_VRD {c : Froz} {ds : List Dat} {r : Value} (h : VRD c (.agg ds) r) : ∃ rs, r = .agg rs.toArray ∧ VRDs c ds rs := by
  cases h with
  | agg _ ss h1 _ => exact ⟨ss, rfl, h1⟩

theorem keyPair_run {A : Par} (hA : ∀ t i, A.ti t = some i → TIok A.P A.ti t i) {t e' : TypeId} {n : Nat} {info : TypeInfo} (hu : A.P.underlying t = some (.array n e')) (hi : A.P.info? e' = some info) (hc : A.P.cellsOf e' = 1) {ds : List Dat} (hf : fits A t ds = true) {kr : Value} (w : World) (hv : VRD noFroz (.agg ds) kr) :
    (∀ (ks : List (Dat × Nat)) (krs vrs : List Value) (i : Option Nat), findK (.agg ds) ks 0 = some i → VRDs noFroz (ks.map (·.1)) krs → ks.length = vrs.length →
      (Instr.findKey t kr (entsR krs (ks.map (·.2)) vrs)).run A.P w = .ok (i.bind fun j => (vrs[j]?).map fun v => (j, v)) w) ∧
    (∀ e, (Instr.checkKey e 10000 t kr).run A.P w = .ok () w) := by
  obtain ⟨rfl, hall⟩ := fits2 hA hu hf
  obtain ⟨rk, rfl, h1⟩ := agg_VRD hv
  have asking : ∀ (ks : List (Dat × Nat)) (krs vrs : List Value) (n : Nat) (i : Option Nat), findK (.agg ds) ks n = some i → VRDs noFroz (ks.map (·.1)) krs → ks.length = vrs.length →
      (Instr.findAsking t (.agg rk.toArray) (entsR krs (ks.map (·.2)) vrs) n).run A.P w = .ok (i.bind fun j => (vrs[j - n]?).map fun v => (j, v)) w := by
    intro ks
    induction ks with
    | nil =>
      intro krs vrs n i h _ _
      cases h
      cases krs <;> rfl
    | cons p ks ih =>
      obtain ⟨d, b⟩ := p
      intro krs vrs n i h hd hl
      obtain ⟨r, rs, rfl, d1, d2⟩ := hd.cons_inv
      cases vrs with
      | nil => simp at hl
      | cons v vs =>
        have heq : ∀ q, keq (.agg ds) d = some q → (Op.equal t (.agg rk.toArray) r).run A.P w = .ok q w := by
          intro q hq
          cases d <;> simp only [keq, keqLeaf, reduceCtorEq] at hq
          rename_i bs
          obtain ⟨rb, rfl, hb⟩ := agg_VRD d1
          have : Op.equal t (.agg rk.toArray) (.agg rb.toArray) = Op.equalIn (9999 + 1) t (.agg rk.toArray) (.agg rb.toArray) := rfl
          rw [this, run_equalIn_array w 9999 _ _ hu hi, hc, List.range_eq_range']
          exact eqItems_run hA 9998 e' w _ _ ds bs rk rb 0 q hall hq h1 hb (fun i v hv => by simpa using hv) (fun i v hv => by simpa using hv)
        simp only [List.map_cons, entsR_cons, Instr.findAsking, Sem.run_bind]
        rcases findK_cons h with ⟨e1, rfl⟩ | ⟨e1, h2⟩
        · simp [heq _ e1]
        · simp only [heq _ e1, Result.andThen_ok, Bool.false_eq_true, if_false]
          rw [ih rs vs (n + 1) i h2 d2 (by simpa using hl)]
          cases i with
          | none => rfl
          | some j =>
            have hj : n + 1 ≤ j := (findK_lt h2).1
            have e2 : j - n = (j - (n + 1)) + 1 := by omega
            simp only [Option.bind_some, e2, List.getElem?_cons_succ]
  refine ⟨fun ks krs vrs i hi' hd hl => ?_, fun e => ?_⟩
  · have := asking ks krs vrs 0 i hi' hd hl
    simp only [Nat.sub_zero] at this
    cases ks with
    | nil =>
      cases hi'
      have : entsR krs ([] : List Nat) vrs = [] := by cases krs <;> rfl
      simp [Instr.findKey, run_underlying hu, this, Instr.findNow]
    | cons p ks =>
      obtain ⟨r, rs, rfl, d1, d2⟩ := hd.cons_inv
      cases vrs with
      | nil => simp at hl
      | cons v vs =>
        have hn : Instr.findNow (.array ds.length e') (.agg rk.toArray) (entsR (r :: rs) ((p :: ks).map (·.2)) (v :: vs)) 0 = none := by
          simp [entsR_cons, Instr.findNow, Instr.sameNow]
        simp only [Instr.findKey, Sem.run_bind, run_underlying hu, Result.andThen_ok, hn]
        exact this
  · exact check_arr hA hu hi hc hall h1 e 9998 w

theorem mixed_ok : Tryz.prog.follows .mixedOrders = true := by kernel_rfl
theorem info9 : Tryz.prog.info? 9 = some Tryz.t9 := by kernel_rfl
theorem cells9 : Tryz.prog.cellsOf 9 = 1 := by kernel_rfl

/-- keys of maps: of a plain kind, or two texts. -/
noncomputable def keyOk (ti : TypeId → Option TI) (t : TypeId) (k : Dat) : Bool := match k with
  | .agg ds => Nat.beq t 167 && fits { P := Tryz.prog, ti := ti, fn := fun _ => none, pm := fun _ => false, ovr := fun _ => none, con := fun _ => none, eqT := fun _ => false, keyT := fun _ _ => false } t ds
  | k => fitU { P := Tryz.prog, ti := ti, fn := fun _ => none, pm := fun _ => false, ovr := fun _ => none, con := fun _ => none, eqT := fun _ => false, keyT := fun _ _ => false } t k

/-- the program of the seat, by its tables. -/
noncomputable def base (pm : FuncId → Bool) (ovr : FuncId → Option (List IVal → ISt → Tree (IVal × ISt))) (con : FuncId → Option (List IVal → Option Dat)) : Par :=
  { P := Tryz.prog, ti := Tz.tiT.get, fn := Tz.fnT.get, pm := pm, ovr := ovr, con := con, eqT := fun t => eqList.contains t, keyT := keyOk Tz.tiT.get }

theorem base_ok (pm ovr con) : Par.OK (base pm ovr con) := by
  refine ⟨Tz.tiOK, mixed_ok, Tz.fnOK, fun t ht a b ra rb e w hf he va vb => eqT_run (A := base pm ovr con) Tz.tiOK (eqList_ok t ht) a b ra rb e w hf he va vb, fun t k hk kr w hv => ?_⟩
  have hk : keyOk Tz.tiT.get t k = true := hk
  unfold keyOk at hk
  split at hk
  · rename_i ds
    rw [Bool.and_eq_true] at hk
    have : t = 167 := Nat.eq_of_beq_eq_true hk.1
    subst this
    exact keyPair_run (A := base pm ovr con) Tz.tiOK Tryz.underlying167 info9 cells9 hk.2 w hv
  · exact keyLeaf_run (A := base pm ovr con) Tz.tiOK hk w hv
end Go.Ideal
