/- Maps are written; walks begin; the small built-ins. No condition. -/
import Derived.Test.YtgbdopegfcphfaaGreatLoudc
import Derived.Laws.StructEq
namespace Go.Ideal

theorem map_at {A m S s w} (h : HR A m S s w) {id ver : Nat} {r : Value} {o : IObj} (ho : s.obj id ver = some o) (hr : VR m s.nv S (.map id ver) r) :
    ∃ mi, m[id]? = some mi ∧ mi.ver = ver ∧ r = .map (some mi.b) ∧ OR A m s.nv S mi o (w.heap[mi.b]?) ∧ Apart S mi.b o := by
  cases hr with
  | map _ _ mi b h1 h2 h3 _ =>
    obtain ⟨mi', k1, k2, k3, k4, k5⟩ := h.obj id ver o (obj_at ho)
    rw [h2] at k1; cases k1
    exact ⟨mi, h2, k2, by rw [h3 k2], k4, k5⟩

theorem run_setObj_putObj {P : Program} {w : World} {b : Nat} (o o' : Obj) (h : w.heap[b]? = some o') (hk : ∀ cs e fr, o' ≠ .cells cs e fr) : (setObj b o).run P w = .ok () (putObj w b o) := by
  simp only [setObj, Sem.run, putObj]
  rw [h]
  cases o' with
  | cells a b c => exact absurd rfl (hk a b c)
  | _ => rfl

theorem sameLeaf_bits {a b : Dat} {r q : Value} (h : sameLeaf a b = true) (ha : VRD noFroz a r) (hb : VRD noFroz b q) (n : Nat) : Instr.sameBits n r q = true := by
  unfold sameLeaf at h
  split at h
  · cases ha; cases hb
    simp only [Bool.and_eq_true, decide_eq_true_eq] at h
    obtain ⟨rfl, rfl⟩ := h
    cases n <;> simp [Instr.sameBits]
  · cases ha; cases hb
    rw [bytesEq_eq] at h
    have := eq_of_beq h
    subst this
    cases n <;> simp [Instr.sameBits, beq_toListBytes]
  · cases ha; cases hb
    cases n <;> simpa [Instr.sameBits] using h
  · cases h

theorem sameL_bits : ∀ {a b : List Dat} {r q : List Value}, sameL a b = true → VRDs noFroz a r → VRDs noFroz b q → ∀ n, r.length = q.length ∧ ((r.zip q).all fun (x, y) => Instr.sameBits n x y) = true
  | [], [], r, q, _, ha, hb, n => by cases ha; cases hb; simp
  | [], _ :: _, _, _, h, _, _, _ => by cases h
  | _ :: _, [], _, _, h, _, _, _ => by cases h
  | x :: a, y :: b, r, q, h, ha, hb, n => by
    simp only [sameL, Bool.and_eq_true] at h
    obtain ⟨r1, r', rfl, u1, u2⟩ := ha.cons_inv
    obtain ⟨q1, q', rfl, v1, v2⟩ := hb.cons_inv
    obtain ⟨e1, e2⟩ := sameL_bits h.2 u2 v2 n
    exact ⟨by simp [e1], by simp only [List.zip_cons_cons, List.all_cons, sameLeaf_bits h.1 u1 v1, e2, Bool.and_self]⟩

theorem same_bits {a b : Dat} {r q : Value} (h : sameK a b = true) (ha : VRD noFroz a r) (hb : VRD noFroz b q) (n : Nat) : Instr.sameBits (n + 1) r q = true := by
  unfold sameK at h
  split at h
  · cases ha with
    | agg _ ss h1 _ =>
    cases hb with
    | agg _ ts h2 _ =>
    obtain ⟨e1, e2⟩ := sameL_bits h h1 h2 n
    simp only [Instr.sameBits, List.size_toArray, e1, beq_self_eq_true, Bool.true_and]
    exact e2
  · exact sameLeaf_bits h ha hb _

theorem entsR_set {kr : List Value} {bs : List Nat} {vr : List Value} (j : Nat) (k v : Value) (h1 : kr.length = bs.length) (h2 : bs.length = vr.length) :
    (entsR kr bs vr).modify j (fun e => { e with key := k, val := v }) = entsR (kr.set j k) bs (vr.set j v) := by
  apply List.ext_getElem?
  intro i
  simp only [List.getElem?_modify, entsR, List.getElem?_zipWith, List.zip, List.getElem?_set]
  grind

theorem entsR_append {kr : List Value} {bs : List Nat} {vr : List Value} (k v : Value) (b : Nat) (h1 : kr.length = bs.length) (h2 : bs.length = vr.length) :
    entsR kr bs vr ++ [({ key := k, val := v, born := b } : MapEntry)] = entsR (kr ++ [k]) (bs ++ [b]) (vr ++ [v]) := by
  simp only [entsR]
  rw [List.zip_append h1, List.zipWith_append (by simp [h1, h2])]
  rfl

theorem entsR_erase {kr : List Value} {bs : List Nat} {vr : List Value} (j : Nat) (h1 : kr.length = bs.length) (h2 : bs.length = vr.length) :
    (entsR kr bs vr).eraseIdx j = entsR (kr.eraseIdx j) (bs.eraseIdx j) (vr.eraseIdx j) := by
  apply List.ext_getElem?
  intro i
  simp only [entsR, List.getElem?_eraseIdx, List.zip, List.getElem?_zipWith]
  split <;> simp_all

theorem VRs.set {m nv S} : ∀ {vs : List IVal} {rs : List Value} (j : Nat) {v : IVal} {r : Value}, VRs m nv S vs rs → VR m nv S v r → VRs m nv S (vs.set j v) (rs.set j r)
  | [], _, _, _, _, h, _ => by cases h; exact .nil
  | _ :: _, _, 0, _, _, h, k => by obtain ⟨r', rs', rfl, h1, h2⟩ := h.cons_inv; exact .cons k h2
  | _ :: _, _, j + 1, _, _, h, k => by obtain ⟨r', rs', rfl, h1, h2⟩ := h.cons_inv; exact .cons h1 (h2.set j k)
theorem VRDs.set {c} : ∀ {vs : List Dat} {rs : List Value} (j : Nat) {v : Dat} {r : Value}, VRDs c vs rs → VRD c v r → VRDs c (vs.set j v) (rs.set j r)
  | [], _, _, _, _, h, _ => by cases h; exact .nil
  | _ :: _, _, 0, _, _, h, k => by obtain ⟨r', rs', rfl, h1, h2⟩ := h.cons_inv; exact .cons k h2
  | _ :: _, _, j + 1, _, _, h, k => by obtain ⟨r', rs', rfl, h1, h2⟩ := h.cons_inv; exact .cons h1 (h2.set j k)
theorem VRs.erase {m nv S} : ∀ {vs : List IVal} {rs : List Value} (j : Nat), VRs m nv S vs rs → VRs m nv S (vs.eraseIdx j) (rs.eraseIdx j)
  | [], _, _, h => by cases h; exact .nil
  | _ :: _, _, 0, h => by obtain ⟨r', rs', rfl, h1, h2⟩ := h.cons_inv; exact h2
  | _ :: _, _, j + 1, h => by obtain ⟨r', rs', rfl, h1, h2⟩ := h.cons_inv; exact .cons h1 (h2.erase j)
theorem VRDs.erase {c} : ∀ {vs : List Dat} {rs : List Value} (j : Nat), VRDs c vs rs → VRDs c (vs.eraseIdx j) (rs.eraseIdx j)
  | [], _, _, h => by cases h; exact .nil
  | _ :: _, _, 0, h => by obtain ⟨r', rs', rfl, h1, h2⟩ := h.cons_inv; exact h2
  | _ :: _, _, j + 1, h => by obtain ⟨r', rs', rfl, h1, h2⟩ := h.cons_inv; exact .cons h1 (h2.erase j)
theorem VRDs.append {c} : ∀ {vs us : List Dat} {rs ss : List Value}, VRDs c vs rs → VRDs c us ss → VRDs c (vs ++ us) (rs ++ ss)
  | [], _, _, _, h, k => by cases h; exact k
  | _ :: _, _, _, _, h, k => by obtain ⟨r, rs', rfl, h1, h2⟩ := h.cons_inv; exact .cons h1 (h2.append k)
theorem VRDs.get {c} : ∀ {vs : List Dat} {rs : List Value} (_ : VRDs c vs rs) (i : Nat) (v : Dat), vs[i]? = some v → ∃ r, rs[i]? = some r ∧ VRD c v r
  | [], _, _, i, v, h => by simp at h
  | x :: xs, _, h, 0, v, hv => by obtain ⟨r, rs', rfl, h1, h2⟩ := h.cons_inv; simp at hv; subst hv; exact ⟨r, rfl, h1⟩
  | x :: xs, _, h, i + 1, v, hv => by obtain ⟨r, rs', rfl, h1, h2⟩ := h.cons_inv; simp at hv; obtain ⟨r', e, k⟩ := h2.get i v hv; exact ⟨r', by simpa using e, k⟩

theorem map_set {A m S s w} (h : HR A m S s w) {id ver : Nat} {ks ks' : List (Dat × Nat)} {vs vs' : List IVal} {c c' : Nat} (ho : s.obj id ver = some (.map ks vs c)) {mi : MI} (hm : m[id]? = some mi) {kr vr : List Value}
    (h1 : VRDs noFroz (ks'.map (·.1)) kr) (h2 : VRs m s.nv S vs' vr) (h3 : ks'.length = vs'.length) :
    HR A m S (s.setObj id ver (.map ks' vs' c')) (putObj w mi.b (.map (entsR kr (ks'.map (·.2)) vr).toArray c')) ∧ Step m s.nv S w m s.nv S (putObj w mi.b (.map (entsR kr (ks'.map (·.2)) vr).toArray c')) := by
  obtain ⟨mi', k1, k2, k3, ⟨kr0, vr0, e0, _⟩, k5⟩ := h.obj id ver _ (obj_at ho)
  rw [hm] at k1; cases k1
  refine h.set ho (.map ks' vs' c') _ hm ⟨kr, vr, rfl, h1, h2, h3⟩ (fun _ _ _ e => by cases e) (fun i v e => ?_) (fun l hl => by rw [e0] at hl; cases hl)
  have := h.snap.sc _ _ _ e
  simp [World.cell?, e0] at this

theorem findK_lt {k : Dat} : ∀ {ks : List (Dat × Nat)} {n i : Nat}, findK k ks n = some (some i) → n ≤ i ∧ i < n + ks.length
  | [], n, i, h => by cases h
  | (e, b) :: ks, n, i, h => by
    simp only [findK] at h
    split at h
    · cases h; simp
    · have := findK_lt h; simp only [List.length_cons]; omega
    · cases h

theorem map_erase {α β : Type} (f : α → β) : ∀ (l : List α) (j : Nat), (l.eraseIdx j).map f = (l.map f).eraseIdx j
  | [], _ => rfl
  | _ :: _, 0 => rfl
  | a :: l, j + 1 => by simp [map_erase f l j]

theorem modify_toArray (l : List MapEntry) (i : Nat) (f : MapEntry → MapEntry) : l.toArray.modify i f = (l.modify i f).toArray := by
  apply Array.ext'
  simp

theorem put_sim {A} (hA : Par.OK A) {m S s w} (h : HR A m S s w) {t : TypeId} {x k y : IVal} {rx rk ry : Value} {s' : ISt} (hp : mapPut A s t x k y = some s') (hx : VR m s.nv S x rx) (hk : VR m s.nv S k rk) (hy : VR m s.nv S y ry) :
    UnitOK A m S s w s' ((Instr.mapUpdate t rx rk ry).run A.P w) := by
  unfold mapPut at hp
  split at hp
  case h_2 => cases hp
  rename_i kt e id ver hkt
  split at hp
  case h_2 => cases hp
  rename_i kv ks vs clock hkv ho
  obtain ⟨q1, q2⟩ := keyOf_sim hkv hk
  obtain ⟨f1, f2⟩ := hA.keyT kt kv q1 rk w q2
  have hu := mapKT_run hA hkt w
  obtain ⟨mi, k1, k2, rfl, ⟨kr, vr, o1, o2, o3, o4⟩, k5⟩ := map_at h ho hx
  have hg : (getObj mi.b).run A.P w = .ok (.map (entsR kr (ks.map (·.2)) vr).toArray clock) w := by simp [getObj, Sem.run, o1]
  have l1 : kr.length = (ks.map (·.2)).length := by rw [← o2.length]; simp
  have l2 : (ks.map (·.2)).length = vr.length := by rw [← o3.length, ← o4]; simp
  have setrun : ∀ o, (setObj mi.b o).run A.P w = .ok () (putObj w mi.b o) := fun o => run_setObj_putObj o _ o1 (by intro _ _ _ e; cases e)
  split at hp
  · rename_i j hj
    split at hp
    case h_2 => cases hp
    rename_i k0 b hkj
    obtain ⟨hs, hv⟩ := ite_some hp
    cases hv
    have hlt := (List.getElem?_eq_some_iff.1 hkj).1
    have hfind := f1 ks kr vr (some j) hj o2 (by rw [← l2]; simp)
    obtain ⟨v0, g1, g2⟩ : ∃ v0, vr[j]? = some v0 ∧ True := ⟨vr[j]'(by rw [← l2]; simpa using hlt), List.getElem?_eq_getElem _, trivial⟩
    obtain ⟨r0, g3, g4⟩ := o2.get j k0 (by rw [List.getElem?_map, hkj]; rfl)
    have g5 : (ks.map (·.2))[j]? = some b := by rw [List.getElem?_map, hkj]; rfl
    have g6 : ((entsR kr (ks.map (·.2)) vr).toArray[j]?).map (·.key) = some r0 := by
      simp only [entsR, List.getElem?_toArray, List.zip, List.getElem?_zipWith, g3, g5, g1]; rfl
    simp only [Option.bind_some, g1, Option.map_some] at hfind
    have hsame : (Instr.keyThatStays r0 rk).run A.P w = .ok rk w := by simp [Instr.keyThatStays, same_bits hs g4 q2]
    have hks : (ks.set j (kv, b)).map (·.2) = ks.map (·.2) := by
      rw [List.map_set]
      apply List.ext_getElem?
      intro i
      rw [List.getElem?_set]
      split
      · rename_i e; subst e; simp [hlt, (List.getElem?_eq_some_iff.1 hkj).2]
      · rfl
    obtain ⟨n1, n2⟩ := map_set h (c' := clock) ho k1 (ks' := ks.set j (kv, b)) (vs' := vs.set j y) (kr := kr.set j rk) (vr := vr.set j ry) (by rw [List.map_set]; exact o2.set j q2) (o3.set j hy) (by simpa using o4)
    refine ⟨_, _, _, ?_, n1, n2⟩
    simp only [Instr.mapUpdate, Sem.run_bind, hu, Result.andThen_ok, hg, f2, hfind, g6, Option.getD_some, hsame, setrun]
    rw [modify_toArray, entsR_set j rk ry l1 l2, hks]
  · rename_i hj
    cases hp
    have hfind := f1 ks kr vr none hj o2 (by rw [← l2]; simp)
    simp only [Option.bind_none] at hfind
    obtain ⟨n1, n2⟩ := map_set h (c' := clock + 1) ho k1 (ks' := ks ++ [(kv, clock)]) (vs' := vs ++ [y]) (kr := kr ++ [rk]) (vr := vr ++ [ry]) (by rw [List.map_append]; exact o2.append (.cons q2 .nil)) (o3.append hy) (by simp [o4])
    refine ⟨_, _, _, ?_, n1, n2⟩
    simp only [Instr.mapUpdate, Sem.run_bind, hu, Result.andThen_ok, hg, f2, hfind, setrun]
    rw [List.push_toArray, entsR_append rk ry clock l1 l2, List.map_append]
    rfl
  · cases hp

theorem del_sim {A} (hA : Par.OK A) {m S s w} (h : HR A m S s w) {t : TypeId} {ts : Array TypeId} (hts : ts[0]? = some t) {x k v : IVal} {rx rk : Value} {s' : ISt} (hp : delI A s t x k = some (v, s')) (hx : VR m s.nv S x rx) (hk : VR m s.nv S k rk) (ty : TypeId) :
    ValOK A m S s w v s' ((Builtin.delete_ ts ty #[rx, rk]).run A.P w) := by
  unfold delI at hp
  split at hp
  case h_2 => cases hp
  rename_i kt e id ver hkt
  split at hp
  case h_2 => cases hp
  rename_i kv ks vs clock hkv ho
  obtain ⟨q1, q2⟩ := keyOf_sim hkv hk
  obtain ⟨f1, f2⟩ := hA.keyT kt kv q1 rk w q2
  have hu := mapKT_run hA hkt w
  obtain ⟨mi, k1, k2, rfl, ⟨kr, vr, o1, o2, o3, o4⟩, k5⟩ := map_at h ho hx
  have hg : (getObj mi.b).run A.P w = .ok (.map (entsR kr (ks.map (·.2)) vr).toArray clock) w := by simp [getObj, Sem.run, o1]
  have l1 : kr.length = (ks.map (·.2)).length := by rw [← o2.length]; simp
  have l2 : (ks.map (·.2)).length = vr.length := by rw [← o3.length, ← o4]; simp
  have setrun : ∀ o, (setObj mi.b o).run A.P w = .ok () (putObj w mi.b o) := fun o => run_setObj_putObj o _ o1 (by intro _ _ _ e; cases e)
  have hvu : ∀ m' nv' S', VR m' nv' S' iundef (.tuple #[]) := fun _ _ _ => .dat _ _ (.tuple [] [] .nil .nil) .nil
  split at hp
  · rename_i j hj
    cases hp
    have hlt := findK_lt hj
    have hfind := f1 ks kr vr (some j) hj o2 (by rw [← l2]; simp)
    obtain ⟨v0, g1, g2⟩ : ∃ v0, vr[j]? = some v0 ∧ True := ⟨vr[j]'(by rw [← l2]; simpa using hlt.2), List.getElem?_eq_getElem _, trivial⟩
    simp only [Option.bind_some, g1, Option.map_some] at hfind
    obtain ⟨n1, n2⟩ := map_set h (c' := clock) ho k1 (ks' := ks.eraseIdx j) (vs' := vs.eraseIdx j) (kr := kr.eraseIdx j) (vr := vr.eraseIdx j) (by rw [map_erase]; exact o2.erase j) (o3.erase j) (by simp only [List.length_eraseIdx]; split <;> split <;> omega)
    refine ⟨.tuple #[], _, _, _, ?_, hvu _ _ _, n1, n2⟩
    have her : (entsR kr (ks.map (·.2)) vr).toArray.eraseIdxIfInBounds j = ((entsR kr (ks.map (·.2)) vr).eraseIdx j).toArray := by simp
    simp only [Builtin.delete_, hts, List.getElem?_toArray, List.getElem?_cons_zero, List.getElem?_cons_succ, Sem.run_bind, hu, Result.andThen_ok, hg, f2, hfind, setrun, Sem.run_pure]
    rw [her, entsR_erase j l1 l2, map_erase]
  · rename_i hj
    cases hp
    have hfind := f1 ks kr vr none hj o2 (by rw [← l2]; simp)
    simp only [Option.bind_none] at hfind
    obtain ⟨n1, n2⟩ := map_set h (c' := clock) ho k1 o2 o3 o4
    have hsame : s.setObj id ver (.map ks vs clock) = s := by
      have hat := obj_at ho
      have hid := (List.getElem?_eq_some_iff.1 hat)
      obtain ⟨hid, he⟩ := hid
      simp only [ISt.setObj]
      have : s.H.set id (ver, .map ks vs clock) = s.H := by rw [← he]; exact List.set_getElem_self hid
      rw [this]
    rw [hsame] at n1
    refine ⟨.tuple #[], _, _, _, ?_, hvu _ _ _, n1, n2⟩
    simp only [Builtin.delete_, hts, List.getElem?_toArray, List.getElem?_cons_zero, List.getElem?_cons_succ, Sem.run_bind, hu, Result.andThen_ok, hg, f2, hfind, setrun, Sem.run_pure]
  · cases hp

theorem ent_sim {A} (hA : Par.OK A) {m S s w} (h : HR A m S s w) {t : TypeId} {x k v : IVal} {rx rk : Value} {s' : ISt} (hp : mapEnt A s t x k = some (v, s')) (hx : VR m s.nv S x rx) (hk : VR m s.nv S k rk) :
    ValOK A m S s w v s' ((Instr.mapEntry t rx rk).run A.P w) := by
  unfold mapEnt at hp
  split at hp
  case h_2 => cases hp
  rename_i kt e id ver hkt
  split at hp
  case h_2 => cases hp
  rename_i kv ks vs clock hkv ho
  obtain ⟨q1, q2⟩ := keyOf_sim hkv hk
  obtain ⟨f1, f2⟩ := hA.keyT kt kv q1 rk w q2
  have hu := mapKT_run hA hkt w
  obtain ⟨mi, k1, k2, rfl, ⟨kr, vr, o1, o2, o3, o4⟩, k5⟩ := map_at h ho hx
  have hg : (getObj mi.b).run A.P w = .ok (.map (entsR kr (ks.map (·.2)) vr).toArray clock) w := by simp [getObj, Sem.run, o1]
  have l1 : kr.length = (ks.map (·.2)).length := by rw [← o2.length]; simp
  have l2 : (ks.map (·.2)).length = vr.length := by rw [← o3.length, ← o4]; simp
  have setrun : ∀ o, (setObj mi.b o).run A.P w = .ok () (putObj w mi.b o) := fun o => run_setObj_putObj o _ o1 (by intro _ _ _ e; cases e)
  split at hp
  case h_2 => cases hp
  rename_i j hj hti
  split at hp
  case h_2 => cases hp
  rename_i z hz
  cases hp
  obtain ⟨zr, z1, z2, z3, z4, z5⟩ := run_zeroValue_ti hA hti w hz
  have hzv : VR m s.nv S (.dat z) zr := VR.dat_iff.2 (z2.up S.sc)
  have hfind := f1 ks kr vr none hj o2 (by rw [← l2]; simp)
  simp only [Option.bind_none] at hfind
  obtain ⟨n1, n2⟩ := map_set h (c' := clock + 1) ho k1 (ks' := ks ++ [(kv, clock)]) (vs' := vs ++ [.dat z]) (kr := kr ++ [rk]) (vr := vr ++ [zr]) (by rw [List.map_append]; exact o2.append (.cons q2 .nil)) (o3.append (show VRs m s.nv S [.dat z] [zr] from hzv)) (by simp [o4])
  refine ⟨.tuple #[zr, goInt clock], _, _, _, ?_, .tuple [.dat z, vint clock] [zr, goInt clock] (.cons hzv (.cons (.dat _ _ (.int .i64 clock .nil) .nil) .nil)) .nil, n1, n2⟩
  simp only [Instr.mapEntry, Sem.run_bind, hu, Result.andThen_ok, hg, f2, hfind, z1, setrun, Sem.run_pure]
  rw [List.push_toArray, entsR_append rk zr clock l1 l2, List.map_append]
  rfl

theorem findB_at {b : Nat} : ∀ {ks : List (Dat × Nat)} {n i : Nat}, findB b ks n = some i → ∃ j, i = n + j ∧ j < ks.length ∧ (ks.map (·.2))[j]? = some b ∧ ∀ j', j' < j → (ks.map (·.2))[j']? ≠ some b
  | [], n, i, h => by cases h
  | (e, c) :: ks, n, i, h => by
    simp only [findB] at h
    split at h
    · rename_i hb
      cases h
      exact ⟨0, rfl, by simp, by simp [Nat.eq_of_beq_eq_true hb], fun j' hj' => by omega⟩
    · rename_i hb
      obtain ⟨j, q1, q2, q3, q4⟩ := findB_at h
      refine ⟨j + 1, by omega, by simpa using q2, by simpa using q3, fun j' hj' => ?_⟩
      cases j' with
      | zero =>
        simp only [List.map_cons, List.getElem?_cons_zero]
        intro e; cases e
        rw [Nat.beq_refl] at hb; cases hb
      | succ j' => simpa using q4 j' (by omega)

theorem entPut_sim {A} {m S s w} (h : HR A m S s w) (t : TypeId) (k : IntKind) {x y : IVal} {b : Nat} {rx ry : Value} {s' : ISt} (hp : entPut s x b y = some s') (hx : VR m s.nv S x rx) (hy : VR m s.nv S y ry) :
    UnitOK A m S s w s' ((Instr.entryStore t rx (.int k b) ry).run A.P w) := by
  unfold entPut at hp
  split at hp
  case h_2 => cases hp
  rename_i id ver
  split at hp
  case h_2 => cases hp
  rename_i ks vs clock ho
  split at hp
  case h_2 => cases hp
  rename_i i hi
  cases hp
  obtain ⟨mi, k1, k2, rfl, ⟨kr, vr, o1, o2, o3, o4⟩, k5⟩ := map_at h ho hx
  have hg : (getObj mi.b).run A.P w = .ok (.map (entsR kr (ks.map (·.2)) vr).toArray clock) w := by simp [getObj, Sem.run, o1]
  have l1 : kr.length = (ks.map (·.2)).length := by rw [← o2.length]; simp
  have l2 : (ks.map (·.2)).length = vr.length := by rw [← o3.length, ← o4]; simp
  have setrun : ∀ o, (setObj mi.b o).run A.P w = .ok () (putObj w mi.b o) := fun o => run_setObj_putObj o _ o1 (by intro _ _ _ e; cases e)
  obtain ⟨j, q1, q2, q3, q4⟩ := findB_at hi
  have q1 : i = j := by omega
  subst q1
  have hget : ∀ j' : Nat, ((entsR kr (ks.map (·.2)) vr).toArray[j']?).map MapEntry.born = (ks.map (·.2))[j']? := by
    intro j'
    simp only [entsR, List.getElem?_toArray, List.zip, List.getElem?_zipWith]
    rcases Nat.lt_or_ge j' ks.length with hlt | hge
    · have e1 : kr[j']? = some (kr[j']'(by rw [l1]; simpa using hlt)) := List.getElem?_eq_getElem _
      have e2 : (ks.map (·.2))[j']? = some ((ks.map (·.2))[j']'(by simpa using hlt)) := List.getElem?_eq_getElem _
      have e3 : vr[j']? = some (vr[j']'(by rw [← l2]; simpa using hlt)) := List.getElem?_eq_getElem _
      rw [e1, e2, e3]; rfl
    · have e2 : (ks.map (·.2))[j']? = none := List.getElem?_eq_none (by simpa using hge)
      have e1 : kr[j']? = none := List.getElem?_eq_none (by rw [l1]; simpa using hge)
      rw [e1, e2]; rfl
  have hfind : (entsR kr (ks.map (·.2)) vr).toArray.findIdx? (fun (e : MapEntry) => (e.born : Int) == (b : Int)) = some i := by
    rw [Array.findIdx?_eq_some_iff_getElem]
    have hsz : i < (entsR kr (ks.map (·.2)) vr).toArray.size := by
      have := hget i
      rw [q3] at this
      rcases Nat.lt_or_ge i (entsR kr (ks.map (·.2)) vr).toArray.size with hh | hh
      · exact hh
      · rw [Array.getElem?_eq_none hh] at this; cases this
    refine ⟨hsz, ?_, fun j' hj' => ?_⟩
    · have := hget i
      rw [q3, Array.getElem?_eq_getElem hsz] at this
      have this := Option.some.inj this
      simp only [beq_iff_eq]
      exact congrArg Int.ofNat this
    · have h1 := hget j'
      rw [Array.getElem?_eq_getElem (by omega)] at h1
      have h2 := q4 j' hj'
      rw [← h1] at h2
      simp only [beq_iff_eq]
      intro e
      exact h2 (congrArg some (Int.ofNat.inj e))
  obtain ⟨v0, g1⟩ : ∃ v0, vr[i]? = some v0 := ⟨vr[i]'(by rw [← l2]; simpa using q2), List.getElem?_eq_getElem _⟩
  obtain ⟨r0, g3⟩ : ∃ r0, kr[i]? = some r0 := ⟨kr[i]'(by rw [l1]; simpa using q2), List.getElem?_eq_getElem _⟩
  obtain ⟨n1, n2⟩ := map_set h (c' := clock) ho k1 (ks' := ks) (vs' := vs.set i y) (kr := kr) (vr := vr.set i ry) o2 (o3.set i hy) (by simpa using o4)
  refine ⟨_, _, _, ?_, n1, n2⟩
  have hmod : ((entsR kr (ks.map (·.2)) vr).toArray.modify i fun (e : MapEntry) => { e with val := ry }) = (entsR kr (ks.map (·.2)) (vr.set i ry)).toArray := by
    rw [modify_toArray]
    congr 1
    apply List.ext_getElem?
    intro j'
    rw [List.getElem?_modify]
    simp only [entsR, List.zip, List.getElem?_zipWith, List.getElem?_set]
    by_cases hj : i = j'
    · subst hj
      have hlt : i < vr.length := by rw [← l2]; simpa using q2
      simp only [if_true, hlt, g1, g3, q3]
      rfl
    · simp only [hj, if_false]
      cases kr[j']? <;> cases (ks.map (·.2))[j']? <;> cases vr[j']? <;> rfl
  simp only [Instr.entryStore, Sem.run_bind, Result.andThen_ok, hg, asInt, asIntOf, Sem.run_pure, hfind, setrun, hmod]
end Go.Ideal
