/- All quiet operations: what the interpreter answers the machine answers, and memory is as it was. No condition. -/
import Derived.Test.YtgbdopegfcphfaaGreatQsim
import Derived.Laws.Tables
namespace Go.Ideal

/-- operands: what they are and what they are to the machine. -/
def RhoR (m : List MI) (nv : Nat) (S : Snap) (ρ : Operand → Option IVal) (ρr : Operand → Value) : Prop := ∀ x v, ρ x = some v → VR m nv S v (ρr x)

theorem leftOf_get {m nv S} (seen : List Nat) : ∀ {ks : List (Dat × Nat)} {vs : List IVal} {kr vr : List Value}, VRDs noFroz (ks.map (·.1)) kr → VRs m nv S vs vr → ks.length = vs.length →
    ∃ sel : List (Dat × Value × Nat × IVal × Value), leftOf seen ks vs = sel.map (fun q => (q.1, q.2.2.1, q.2.2.2.1)) ∧
      (entsR kr (ks.map (·.2)) vr).filter (fun e => !seen.contains e.born) = sel.map (fun q => ({ key := q.2.1, val := q.2.2.2.2, born := q.2.2.1 } : MapEntry)) ∧
      ∀ q ∈ sel, VRD noFroz q.1 q.2.1 ∧ VR m nv S q.2.2.2.1 q.2.2.2.2
  | [], [], kr, vr, h1, h2, _ => by cases h1; cases h2; exact ⟨[], rfl, rfl, by simp⟩
  | [], _ :: _, _, _, _, _, h => by simp at h
  | _ :: _, [], _, _, _, _, h => by simp at h
  | (k, b) :: ks, v :: vs, kr, vr, h1, h2, h3 => by
    rw [List.map_cons] at h1
    obtain ⟨r1, kr', rfl, a1, a2⟩ := h1.cons_inv
    obtain ⟨r2, vr', rfl, b1, b2⟩ := h2.cons_inv
    obtain ⟨sel, s1, s2, s3⟩ := leftOf_get seen a2 b2 (by simpa using h3)
    by_cases hb : seen.contains b = true
    · refine ⟨sel, ?_, ?_, s3⟩
      · simp only [leftOf, hb, if_true]; exact s1
      · simp only [entsR, List.map_cons, List.zip_cons_cons, List.zipWith_cons_cons, List.filter_cons, hb, Bool.not_true, Bool.false_eq_true, if_false]; exact s2
    · refine ⟨(k, r1, b, v, r2) :: sel, ?_, ?_, ?_⟩
      · simp only [leftOf, hb, if_false, Bool.false_eq_true, List.map_cons, s1]
      · have hb' : seen.contains b = false := by simpa using hb
        simp only [entsR, List.map_cons, List.zip_cons_cons, List.zipWith_cons_cons, List.filter_cons, hb', Bool.not_false, if_true]
        exact congrArg _ s2
      · intro q hq
        rcases List.mem_cons.1 hq with rfl | hq
        · exact ⟨a1, b1⟩
        · exact s3 q hq

theorem ptr_at {A m S s w} (h : HR A m S s w) {id ver off : Nat} {r : Value} {o : IObj} (ho : s.obj id ver = some o) (hr : VR m s.nv S (.ptr id ver off) r) :
    ∃ mi, m[id]? = some mi ∧ mi.ver = ver ∧ r = .pointer (some ⟨mi.b, off, none⟩) ∧ OR A m s.nv S mi o (w.heap[mi.b]?) ∧ Apart S mi.b o := by
  cases hr with
  | ptr _ _ _ mi a h1 h2 h3 _ =>
    obtain ⟨mi', k1, k2, k3, k4, k5⟩ := h.obj id ver o (obj_at ho)
    rw [h2] at k1; cases k1
    exact ⟨mi, h2, k2, by rw [h3 k2], k4, k5⟩

theorem find_map' {α β : Type} (f : α → β) (p : β → Bool) : ∀ (l : List α), (l.map f).find? p = (l.find? (fun a => p (f a))).map f
  | [] => rfl
  | a :: l => by
    simp only [List.map_cons, List.find?_cons]
    split
    · simp
    · simp [find_map' f p l]

theorem entry_sim {A m S s w} (h : HR A m S s w) {it v : IVal} {r : Value} (he : entryI s it = some v) (hr : VR m s.nv S it r) : ∃ x, (Instr.entry r).run A.P w = .ok x w ∧ VR m s.nv S v x := by
  unfold entryI at he
  split at he
  case h_2 => cases he
  rename_i id ver
  split at he
  case h_2 => cases he
  rename_i mv since seen stepped ho
  split at he
  case h_2 => cases he
  rename_i ks vs clock b e1 e2
  split at he
  · cases he
  rename_i hc
  have hc : clock = stepped := by
    simp only [Bool.not_eq_true', Bool.not_eq_false] at hc
    exact Nat.eq_of_beq_eq_true hc
  subst hc
  split at he
  case h_2 => cases he
  rename_i k b' v' hf
  cases he
  obtain ⟨mi, _, _, rfl, ⟨rm, o1, o2⟩, _⟩ := ptr_at h ho hr
  obtain ⟨bm, kr, vr, hrm, m1, m2, m3, m4⟩ := mapEntries_sim h e1 o2
  cases hrm
  obtain ⟨sel, s1, s2, s3⟩ := leftOf_get [] m2 m3 m4
  rw [s1, find_map'] at hf
  obtain ⟨q, hq, hq2⟩ := Option.map_eq_some_iff.1 hf
  cases hq2
  have hall : entsR kr (ks.map (·.2)) vr = sel.map (fun q => ({ key := q.2.1, val := q.2.2.2.2, born := q.2.2.1 } : MapEntry)) := by
    rw [← s2, List.filter_eq_self.2]
    intro a _; simp
  have hfind : (entsR kr (ks.map (·.2)) vr).find? (fun e => e.born == b) = some { key := q.2.1, val := q.2.2.2.2, born := q.2.2.1 } := by
    rw [hall, find_map']
    have : (fun a : Dat × Value × Nat × IVal × Value => a.2.2.1 == b) = fun a => Nat.beq a.2.2.1 b := by
      funext a; rw [Bool.eq_iff_iff]; simp
    simp only [this, hq, Option.map_some]
  have hmem := List.mem_of_find?_eq_some hq
  obtain ⟨t1, t2⟩ := s3 q hmem
  refine ⟨.tuple #[q.2.1, q.2.2.2.2], ?_, .tuple _ _ (.cons (VR.dat_iff.2 (t1.up S.sc)) (.cons t2 .nil)) .nil⟩
  have g1 : (getObj mi.b).run A.P w = .ok (.mapIter (some bm) since seen.toArray clock) w := by simp [getObj, Sem.run, o1]
  have g2 : (getObj bm).run A.P w = .ok (.map (entsR kr (ks.map (·.2)) vr).toArray clock) w := by simp [getObj, Sem.run, m1]
  have g3 : seen.toArray.back? = some b := by rw [Array.back?_eq_getElem?]; simp [List.getLast?_eq_getElem?] at e2 ⊢; exact e2
  simp only [Instr.entry, Sem.run_bind, g1, Result.andThen_ok, g3, g2]
  simp [hfind]

theorem fieldOf_sim {A} (hA : Par.OK A) {t : TypeId} {k : Nat} {f : Field} (h : fieldOf A t k = some f) (w : World) : ∃ fs, (underlying t).run A.P w = .ok (.struct fs) w ∧ fs[k]? = some f := by
  simp only [fieldOf] at h
  split at h
  · rename_i i ht
    split at h
    · rename_i fs hund
      have := run_underlying_ti hA ht w
      rw [hund] at this
      exact ⟨fs, this, h⟩
    · cases h
  · cases h

theorem VR.data_cells {m nv S} {d : Dat} {b o : Nat} {ss : List Value} (h : VRDs S.sc d.cells ss) (hs : ∀ (j : Nat) (v : Value), ss[j]? = some v → S.sc b (o + j) = some v) :
    VR m nv S (.rptr (d.cells.map .dat)) (.pointer (some ⟨b, o, none⟩)) := .rptr _ b o ss (VRs.of_dat h) (fun j v hj => .inl (hs j v hj)) .nil

theorem flat_get {n : Nat} : ∀ {ys : List Dat} {i : Nat} {d : Dat}, (∀ y ∈ ys, y.cells.length = n) → ys[i]? = some d → ((ys.flatMap Dat.cells).drop (i * n)).take n = d.cells
  | [], i, d, _, h => by simp at h
  | y :: ys, 0, d, h, hd => by
    simp at hd; subst hd
    have e := h y (by simp)
    simp [List.flatMap_cons, ← e]
  | y :: ys, i + 1, d, h, hd => by
    have e := h y (by simp)
    rw [List.flatMap_cons]
    have e2 : (i + 1) * n = y.cells.length + i * n := by rw [Nat.succ_mul, e]; omega
    rw [e2, List.drop_length_add_append]
    exact flat_get (fun z hz => h z (by simp [hz])) (by simpa using hd)

theorem idx_inv {ρ : Operand → Option IVal} {ρr : Operand → Value} {m nv S} (hρ : RhoR m nv S ρ ρr) {ix : Operand} {i : Nat} (h : (ρ ix).bind asI = some (Int.ofNat i)) : ∃ k, ρr ix = .int k i := by
  obtain ⟨v, h1, h2⟩ := Option.bind_eq_some_iff.1 h
  obtain ⟨k, hk⟩ := asI_inv h2 (hρ ix v h1)
  exact ⟨k, hk⟩

theorem mapO_sim {m nv S} {ρ : Operand → Option IVal} {ρr : Operand → Value} (hρ : RhoR m nv S ρ ρr) : ∀ {xs : List Operand} {vs : List IVal}, mapO ρ xs = some vs → VRs m nv S vs (xs.map ρr)
  | [], vs, h => by simp [mapO] at h; subst h; exact .nil
  | x :: xs, vs, h => by
    simp only [mapO] at h
    split at h
    · rename_i y e1
      split at h
      · rename_i ys e2
        cases h
        exact .cons (hρ x y e1) (mapO_sim hρ e2)
      · cases h
    · cases h

theorem evalOpt_sim {m nv S} {ρ : Operand → Option IVal} {ρr : Operand → Value} (hρ : RhoR m nv S ρ ρr) {x : Option Operand} {v : Option IVal} (h : evalOpt ρ x = some v) : OptR m nv S v (x.map ρr) := by
  cases x with
  | none => simp [evalOpt] at h; subst h; trivial
  | some x =>
    simp only [evalOpt] at h
    split at h
    · rename_i u e; cases h; exact hρ x u e
    · cases h

theorem places_of {A} (hA : Par.OK A) : ∀ (fs : List Field), (∀ f ∈ fs, ∃ j, A.ti f.type = some j) → ∃ places, fs.mapM (fun f => (A.P.info? f.type).map fun i => (f.offset, i.size)) = some places ∧
    ∀ (k : Nat) (f : Field) (j : TI), fs[k]? = some f → A.ti f.type = some j → places[k]? = some (f.offset, j.sz)
  | [], _ => ⟨[], rfl, by simp⟩
  | f :: fs, h => by
    obtain ⟨places, p1, p2⟩ := places_of hA fs (fun g hg => h g (by simp [hg]))
    obtain ⟨j, hj⟩ := h f (by simp)
    obtain ⟨info, i1, i2, _⟩ := hA.ti _ _ hj
    refine ⟨(f.offset, j.sz) :: places, by simp [List.mapM_cons, i1, p1, i2], fun k g j' hk hj' => ?_⟩
    cases k with
    | zero => simp at hk; subst hk; rw [hj] at hj'; cases hj'; rfl
    | succ k => exact p2 k g j' (by simpa using hk) hj'

theorem build_sim {A} (hA : Par.OK A) {m nv S} (w : World) {t : TypeId} {ps : List (Nat × IVal)} {pr : List (Nat × Value)} {v : IVal} (h : buildI A t ps = some v) (hp : PartsR m nv S ps pr) :
    ∃ x, (Instr.build t pr.toArray).run A.P w = .ok x w ∧ VR m nv S v x := by
  simp only [buildI] at h
  split at h
  case h_2 => cases h
  rename_i i ht
  split at h
  case h_2 => cases h
  rename_i z hz
  obtain ⟨info, i1, i2, i3, i4, i5, i6⟩ := hA.ti t i ht
  obtain ⟨zr, z1, _, _, z4, _⟩ := i5 z hz
  have hzc : VRs m nv S (z.cells.map .dat) zr.cells.toList := VRs.of_dat (z4.up S.sc)
  have hback : zr.cells.toList.toArray = zr.cells := by simp
  split at h
  · rename_i fs hund
    rw [hund] at i4
    split at h
    · rename_i cs e
      cases h
      obtain ⟨places, p1, p2⟩ := places_of hA fs.toList (i6 fs hund)
      obtain ⟨rs, r1, r2⟩ := fill_sim (plr := (places.toArray[·]?)) (fun k p hk => by
        split at hk
        · rename_i f hf
          split at hk
          · rename_i j hj
            cases hk
            simpa using p2 k f j (by simpa using hf) hj
          · cases hk
        · cases hk) e hp hzc
      refine ⟨.agg rs.toArray, run_build w t pr.toArray rs.toArray ?_, .agg _ _ r2 .nil⟩
      rw [hback] at r1
      simp only [Program.built, i1, i4, z1, p1]
      exact r1
    · cases h
  · rename_i n e hund
    rw [hund] at i4
    split at h
    · rename_i j hj
      obtain ⟨info', j1, j2, _⟩ := hA.ti _ _ hj
      split at h
      · rename_i cs e'
        cases h
        obtain ⟨rs, r1, r2⟩ := fill_sim (plr := fun k => some (k * info'.size, info'.size)) (fun k p hk => by rw [j2]; exact hk) e' hp hzc
        refine ⟨.agg rs.toArray, run_build w t pr.toArray rs.toArray ?_, .agg _ _ r2 .nil⟩
        rw [hback] at r1
        simp only [Program.built, i1, i4, z1, j1]
        exact r1
      · cases h
    · cases h
  · cases h

theorem quiet_sim {A} (hA : Par.OK A) {m S s w} (h : HR A m S s w) {ρ : Operand → Option IVal} {ρr : Operand → Value} (hρ : RhoR m s.nv S ρ ρr) {o : Oper} {v : IVal} (hv : quietI A ρ o s = some v) :
    ∃ r, (execOp ρr o).run A.P w = .ok (.value r) w ∧ VR m s.nv S v r := by
  unfold quietI at hv
  split at hv
  case h_1 x e => exact ⟨ρr x, by simp [execOp, e], hρ x v hv⟩
  case h_2 x e => exact ⟨ρr x, by simp [execOp, e], hρ x v hv⟩
  case h_3 c a b e =>
    split at hv
    · rename_i hc
      have := hρ _ _ hc
      have hb := bool_inv this
      exact ⟨ρr a, by simp [execOp, e, hb, asBool], hρ a v hv⟩
    · rename_i hc
      have hb := bool_inv (hρ _ _ hc)
      exact ⟨ρr b, by simp [execOp, e, hb, asBool], hρ b v hv⟩
    · cases hv
  case h_4 t parts e =>
    split at hv
    · rename_i ps hps
      obtain ⟨x, x1, x2⟩ := build_sim hA w hv (evalParts_sim hρ hps)
      refine ⟨x, ?_, x2⟩
      have : (parts.toList.map fun (i, x) => (i, ρr x)).toArray = parts.map fun (i, x) => (i, ρr x) := by apply Array.ext'; simp
      rw [this] at x1
      simp [execOp, e, x1]
    · cases hv
  case h_5 t a e =>
    split at hv
    · rename_i p hp
      obtain ⟨x, x1, x2⟩ := load_sim hA h hv (hρ a p hp)
      exact ⟨x, by simp [execOp, e, x1], x2⟩
    · cases hv
  case h_6 x e =>
    split at hv
    · rename_i id ver off hx
      cases hv
      obtain ⟨a, ha⟩ := ptr_inv (hρ _ _ hx)
      exact ⟨ρr x, by simp [execOp, e, ha], hρ _ _ hx⟩
    · rename_i cs hx
      cases hv
      obtain ⟨a, ha⟩ := rptr_inv (hρ _ _ hx)
      exact ⟨ρr x, by simp [execOp, e, ha], hρ _ _ hx⟩
    · rename_i f a b hx
      cases hv
      have hr := hρ _ _ hx
      refine ⟨ρr x, ?_, hr⟩
      generalize hq : ρr x = q at hr ⊢
      cases hr
      simp [execOp, e, hq]
    · rename_i id ver hx
      cases hv
      have hr := hρ _ _ hx
      refine ⟨ρr x, ?_, hr⟩
      generalize hq : ρr x = q at hr ⊢
      cases hr
      simp [execOp, e, hq]
    · cases hv
  case h_7 op t x y yt e =>
    split at hv
    · rename_i a b ha hb
      obtain ⟨r, r1, r2⟩ := binI_sim hA w hv (hρ _ _ ha) (hρ _ _ hb) x y
      refine ⟨r, ?_, r2⟩
      have : (execOp ρr o) = (do pure (.value (← guarded op t x y (ρr x) (ρr y)))) := by simp only [execOp, e, guarded]
      rw [this]
      simp only [Sem.run_bind, r1, Result.andThen_ok, Sem.run_pure]
    · cases hv
  case h_8 op t x e =>
    split at hv
    · rename_i a ha
      obtain ⟨r, r1, r2⟩ := unI_sim w hv (hρ _ _ ha)
      exact ⟨r, by simp [execOp, e, r1], r2⟩
    · cases hv
  case h_9 f first captured e =>
    split at hv
    · rename_i a b ha hb
      cases hv
      refine ⟨.func (.func f) (first.map ρr) (captured.map ρr), by simp [execOp, e, Instr.makeFunc], ?_⟩
      have e1 : first.map ρr = (first.toList.map ρr).toArray := by apply Array.ext'; simp
      have e2 : captured.map ρr = (captured.toList.map ρr).toArray := by apply Array.ext'; simp
      rw [e1, e2]
      exact .fn _ _ _ _ _ (mapO_sim hρ ha) (mapO_sim hρ hb) .nil
    · cases hv
  case h_10 t x lo hi mx e =>
    split at hv
    · rename_i a l hh mm h1 h2 h3 h4
      obtain ⟨r, r1, r2⟩ := slice_sim hA w hv (hρ _ _ h1) (evalOpt_sim hρ h2) (evalOpt_sim hρ h3) (evalOpt_sim hρ h4)
      exact ⟨r, by simp [execOp, e, r1], r2⟩
    · cases hv
  case h_11 t x f e =>
    split at hv
    · rename_i fd id ver off h1 h2
      split at hv
      · rename_i j hj
        obtain ⟨hsz, rfl⟩ := ite_some hv
        obtain ⟨fs, f1, f2⟩ := fieldOf_sim hA h1 w
        have hr := hρ _ _ h2
        generalize hq : ρr x = q at hr
        cases hr with
        | ptr _ _ _ mi a q1 q2 q3 _ =>
        refine ⟨.pointer (some (a.add fd.offset)), ?_, .ptr _ _ _ mi _ q1 q2 (fun e' => by rw [q3 e', addr_add]) .nil⟩
        have hsz' : j.sz ≠ 0 := by simp [Nat.blt] at hsz; omega
        simp [execOp, e, hq, Instr.fieldAt, f1, f2, Instr.sureAddr, fieldPlace, run_sizeOf_ti hA hj w, hsz']
      · cases hv
    · rename_i fd cs h1 h2
      split at hv
      · rename_i j hj
        obtain ⟨hsz, rfl⟩ := ite_some hv
        obtain ⟨fs, f1, f2⟩ := fieldOf_sim hA h1 w
        have hr := hρ _ _ h2
        generalize hq : ρr x = q at hr
        cases hr with
        | rptr _ b o' ss q1 q2 _ =>
        refine ⟨.pointer (some ⟨b, o' + fd.offset, none⟩), ?_, .rptr _ _ _ (ss.drop fd.offset) (q1.drop _) (fun k v hk => ?_) .nil⟩
        · have hsz' : j.sz ≠ 0 := by simp [Nat.blt] at hsz; omega
          simp [execOp, e, hq, Instr.fieldAt, f1, f2, Instr.sureAddr, fieldPlace, run_sizeOf_ti hA hj w, hsz', addr_add]
        · rw [List.getElem?_drop] at hk
          rw [Nat.add_assoc]
          exact q2 _ _ hk
      · cases hv
    · cases hv
  case h_12 t x f e =>
    split at hv
    · rename_i fd cs h1 h2
      obtain ⟨fs, f1, f2⟩ := fieldOf_sim hA h1 w
      obtain ⟨rs, hq, hrs⟩ := agg_inv (hρ _ _ h2)
      obtain ⟨y, y1, y2⟩ := part_sim hA w hv hrs
      exact ⟨y, by simp [execOp, e, hq, Instr.field, f1, f2, asAgg, y1], y2⟩
    · rename_i fd cs h1 h2
      obtain ⟨fs, f1, f2⟩ := fieldOf_sim hA h1 w
      obtain ⟨rs, hq, hrs⟩ := dagg_inv (hρ _ _ h2)
      obtain ⟨y, y1, y2⟩ := part_sim hA w hv (VRs.of_dat (m := m) (nv := s.nv) hrs)
      exact ⟨y, by simp [execOp, e, hq, Instr.field, f1, f2, asAgg, y1], y2⟩
    · cases hv
  case h_13 t x ix e =>
    split at hv
    case h_2 => cases hv
    rename_i ty a i ht ha hi
    obtain ⟨k, hk⟩ := idx_inv hρ hi
    have hu := run_underlying_ti hA ht w
    have hr := hρ _ _ ha
    generalize hq : ρr x = q at hr
    split at hv
    · rename_i el full n xs hund
      rw [hund] at hu
      split at hv
      · rename_i d j hd hj
        obtain ⟨hn, rfl⟩ := ite_some hv
        have hn := Nat.eq_of_beq_eq_true hn
        subst hn
        cases hr with
        | dat _ _ hr _ =>
        cases hr with
        | slc _ _ _ b o' cap ss h0 h1 h2 h3 h4 _ =>
        have hlt : i < xs.length := (List.getElem?_eq_some_iff.1 hd).1
        refine ⟨.pointer (some ⟨b, o' + i * j.sz, none⟩), ?_, VR.data_cells (ss := (ss.drop (i * j.sz)).take j.sz) ?_ (fun k v hk => ?_)⟩
        · have c1 : (0 : Int) ≤ (i : Int) ∧ (i : Int) < (xs.length : Int) := by omega
          simp [execOp, e, hq, hk, Instr.indexAt, asIntOf, hu, run_sizeOf_ti hA hj w, c1, addr_add]
          omega
        · rw [← flat_get h0 hd]
          exact (h3.drop _).take _
        · rw [List.getElem?_take] at hk
          split at hk
          · rw [List.getElem?_drop] at hk
            rw [Nat.add_assoc]
            exact h4 _ _ hk
          · cases hk
      · cases hv
    · rename_i el id ver off len hund
      rw [hund] at hu
      split at hv
      · rename_i j hj
        obtain ⟨hn, rfl⟩ := ite_some hv
        have hn : i < len := by simp [Nat.blt] at hn; omega
        cases hr with
        | mref _ _ _ _ cap mi a' q1 q2 q3 hsp q4 _ =>
        refine ⟨.pointer (some (a'.add (i * j.sz))), ?_, .ptr _ _ _ mi _ q1 q2 (fun e' => ?_) .nil⟩
        · have c1 : (0 : Int) ≤ (i : Int) ∧ (i : Int) < (len : Int) := by omega
          simp [execOp, e, hq, hk, Instr.indexAt, asIntOf, hu, run_sizeOf_ti hA hj w, c1]
          omega
        · rcases q4 e' with ⟨z1, _⟩ | ⟨z1, _⟩
          · omega
          · rw [z1, addr_add]
      · cases hv
    · rename_i n el id ver off hund
      rw [hund] at hu
      split at hv
      · rename_i j hj
        obtain ⟨hn, rfl⟩ := ite_some hv
        have hn : i < n := by simp [Nat.blt] at hn; omega
        cases hr with
        | ptr _ _ _ mi a' q1 q2 q3 _ =>
        refine ⟨.pointer (some (a'.add (i * j.sz))), ?_, .ptr _ _ _ mi _ q1 q2 (fun e' => by rw [q3 e', addr_add]) .nil⟩
        have c1 : (0 : Int) ≤ (i : Int) ∧ (i : Int) < (n : Int) := by omega
        simp [execOp, e, hq, hk, Instr.indexAt, asIntOf, hu, run_sizeOf_ti hA hj w, c1, Instr.sureAddr]
        omega
      · cases hv
    · rename_i n el cs hund
      rw [hund] at hu
      split at hv
      · rename_i j hj
        obtain ⟨hn, rfl⟩ := ite_some hv
        have hn : i < n := by simp [Nat.blt] at hn; omega
        cases hr with
        | rptr _ b o' ss q1 q2 _ =>
        refine ⟨.pointer (some ⟨b, o' + i * j.sz, none⟩), ?_, .rptr _ _ _ (ss.drop (i * j.sz)) (q1.drop _) (fun k v hk => ?_) .nil⟩
        · have c1 : (0 : Int) ≤ (i : Int) ∧ (i : Int) < (n : Int) := by omega
          simp [execOp, e, hq, hk, Instr.indexAt, asIntOf, hu, run_sizeOf_ti hA hj w, c1, Instr.sureAddr, addr_add]
          omega
        · rw [List.getElem?_drop] at hk
          rw [Nat.add_assoc]
          exact q2 _ _ hk
      · cases hv
    · cases hv
  case h_14 t x ix e =>
    split at hv
    case h_2 => cases hv
    rename_i ty a i ht ha hi
    obtain ⟨k, hk⟩ := idx_inv hρ hi
    have hu := run_underlying_ti hA ht w
    have hr := hρ _ _ ha
    generalize hq : ρr x = q at hr
    split at hv
    · rename_i b hund
      rw [hund] at hu
      split at hv
      · rename_i c hc
        cases hv
        cases str_inv hr
        have hb : (ByteArray.mk b.toArray)[i]? = some c := by
          have : i < (ByteArray.mk b.toArray).size := by simp [ByteArray.size]; exact (List.getElem?_eq_some_iff.1 hc).1
          rw [getElem?_pos (ByteArray.mk b.toArray) i this]
          have hlt := (List.getElem?_eq_some_iff.1 hc).1
          rw [List.getElem?_eq_getElem hlt] at hc
          simp [ByteArray.getElem_eq_getElem_data] at hc ⊢
          exact hc
        exact ⟨.int .u8 c.toNat, by simp [execOp, e, hq, hk, Instr.index, asIntOf, hu, hb], vi _ _⟩
      · cases hv
    · rename_i n el cs hund
      rw [hund] at hu
      split at hv
      · rename_i j hj
        split at hv
        · rename_i hn
          have hn : i < n := by simp [Nat.blt] at hn; omega
          obtain ⟨rs, rfl, hrs⟩ := agg_inv hr
          obtain ⟨y, y1, y2⟩ := part_sim hA w hv hrs
          have c1 : (0 : Int) ≤ (i : Int) ∧ (i : Int) < (n : Int) := by omega
          refine ⟨y, ?_, y2⟩
          simp [execOp, e, hq, hk, Instr.index, asIntOf, hu, run_sizeOf_ti hA hj w, c1, y1]
          omega
        · cases hv
      · cases hv
    · rename_i n el cs hund
      rw [hund] at hu
      split at hv
      · rename_i j hj
        split at hv
        · rename_i hn
          have hn : i < n := by simp [Nat.blt] at hn; omega
          obtain ⟨rs, rfl, hrs⟩ := dagg_inv hr
          obtain ⟨y, y1, y2⟩ := part_sim hA w hv (VRs.of_dat (m := m) (nv := s.nv) hrs)
          have c1 : (0 : Int) ≤ (i : Int) ∧ (i : Int) < (n : Int) := by omega
          refine ⟨y, ?_, y2⟩
          simp [execOp, e, hq, hk, Instr.index, asIntOf, hu, run_sizeOf_ti hA hj w, c1, y1]
          omega
        · cases hv
      · cases hv
    · cases hv
  case h_15 t x k ok e =>
    split at hv
    · rename_i a b ha hb
      obtain ⟨r, r1, r2⟩ := lookup_sim hA h hv (hρ _ _ ha) (hρ _ _ hb)
      exact ⟨r, by simp [execOp, e, r1], r2⟩
    · cases hv
  case h_16 it e =>
    split at hv
    · rename_i a ha
      obtain ⟨r, r1, r2⟩ := entry_sim h hv (hρ _ _ ha)
      exact ⟨r, by simp [execOp, e, r1], r2⟩
    · cases hv
  case h_17 x i e =>
    split at hv
    case h_2 => cases hv
    rename_i vs hvs
    obtain ⟨a, ha, hvs⟩ := Option.bind_eq_some_iff.1 hvs
    have hr := hρ _ _ ha
    generalize hq : ρr x = q at hr
    cases a with
    | tuple us =>
      simp only [isTup, Option.some.injEq] at hvs; subst hvs
      cases hr with
      | tuple _ ss h1 _ =>
      obtain ⟨r, g1, g2⟩ := h1.get i v hv
      exact ⟨r, by simp [execOp, e, hq, Instr.extract, g1], g2⟩
    | dat d =>
      cases d with
      | tuple us =>
        simp only [isTup, Option.some.injEq] at hvs; subst hvs
        cases hr with
        | dat _ _ hr _ =>
        cases hr with
        | tuple _ ss h1 _ =>
        obtain ⟨r, g1, g2⟩ := (VRs.of_dat (m := m) (nv := s.nv) (S := S) h1).get i v hv
        exact ⟨r, by simp [execOp, e, hq, Instr.extract, g1], g2⟩
      | _ => simp [isTup] at hvs
    | _ => simp [isTup] at hvs
  case h_18 => cases hv
end Go.Ideal
