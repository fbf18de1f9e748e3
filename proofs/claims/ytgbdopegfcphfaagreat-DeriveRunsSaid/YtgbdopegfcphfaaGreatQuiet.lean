/- The operations that leave memory as it is: what the interpreter answers the machine answers. No condition. -/
import Derived.Test.YtgbdopegfcphfaaGreatMem
namespace Go.Ideal

structure Par.OK (A : Par) : Prop where
  ti : ∀ t i, A.ti t = some i → ∃ info, A.P.info? t = some info ∧ info.size = i.sz ∧ info.bytes = i.bytes ∧ A.P.underlying t = some i.und ∧
    (∀ d, i.zero = some d → ∃ z, info.zero = some z ∧ VRD noFroz d z ∧ z.cells.size = i.sz ∧ VRDs noFroz d.cells z.cells.toList ∧ (∀ c ∈ z.cells.toList, c.oneCell' = true)) ∧
    (∀ fs, i.und = .struct fs → ∀ f ∈ fs.toList, ∃ j, A.ti f.type = some j)
  mixed : A.P.follows .mixedOrders = true
  fn : ∀ f x, A.fn f = some x → A.P.funcs[f]? = some x ∧ (x.name == "runtime.NumGoroutine") = false
  /-- the types of structs and arrays whose values are held against each other. -/
  eqT : ∀ t, A.eqT t = true → ∀ (a b : List Dat) (ra rb : List Value) (e : Bool) (w : World), fits A t a = true → keqL a b = some e → VRDs noFroz a ra → VRDs noFroz b rb →
    (Op.equal t (.agg ra.toArray) (.agg rb.toArray)).run A.P w = .ok e w ∧
    (A.P.eqGuardType A.P.depth t = false ∨ (Op.eqGuardIn Op.maxDepth t (.agg ra.toArray) (.agg rb.toArray)).run A.P w = .ok false w)
  /-- the types of maps' keys. -/
  keyT : ∀ t k, A.keyT t k = true → ∀ (kr : Value) (w : World), VRD noFroz k kr →
    (∀ (ks : List (Dat × Nat)) (krs vrs : List Value) (i : Option Nat), findK k ks 0 = some i → VRDs noFroz (ks.map (·.1)) krs → ks.length = vrs.length →
      (Instr.findKey t kr (entsR krs (ks.map (·.2)) vrs)).run A.P w = .ok (i.bind fun j => (vrs[j]?).map fun v => (j, v)) w) ∧
    (∀ e, (Instr.checkKey e 10000 t kr).run A.P w = .ok () w)

section runs
variable {A : Par} (hA : A.OK) {t : TypeId} {i : TI} (ht : A.ti t = some i) (w : World)
include hA ht

theorem run_typeInfo_ti : ∃ info, (typeInfo t).run A.P w = .ok info w ∧ info.size = i.sz ∧ info.bytes = i.bytes ∧
    (∀ d, i.zero = some d → ∃ z, info.zero = some z ∧ VRD noFroz d z ∧ z.cells.size = i.sz ∧ VRDs noFroz d.cells z.cells.toList ∧ (∀ c ∈ z.cells.toList, c.oneCell' = true)) := by
  obtain ⟨info, h1, h2, h3, _, h5, _⟩ := hA.ti t i ht
  exact ⟨info, by simp [typeInfo, h1], h2, h3, h5⟩
theorem run_sizeOf_ti : (sizeOf t).run A.P w = .ok i.sz w := by
  obtain ⟨info, h1, h2, _⟩ := run_typeInfo_ti hA ht w
  simp [sizeOf, h1, h2]
theorem run_underlying_ti : (underlying t).run A.P w = .ok i.und w := by
  obtain ⟨info, _, _, _, h4, _⟩ := hA.ti t i ht
  exact run_underlying h4 w
theorem run_isAgg_ti : (isAgg t).run A.P w = .ok (isAg i.und) w := by
  simp only [isAgg, Sem.run_bind, run_underlying_ti hA ht w, Result.andThen_ok]
  cases i.und <;> rfl
theorem run_zeroValue_ti {d : Dat} (hd : i.zero = some d) : ∃ z, (zeroValue t).run A.P w = .ok z w ∧ VRD noFroz d z ∧ z.cells.size = i.sz ∧ VRDs noFroz d.cells z.cells.toList ∧ (∀ c ∈ z.cells.toList, c.oneCell' = true) := by
  obtain ⟨info, h1, _, _, h5⟩ := run_typeInfo_ti hA ht w
  obtain ⟨z, h6, h7⟩ := h5 d hd
  exact ⟨z, by simp [zeroValue, h1, h6], h7⟩
end runs

theorem noFroz_le (c : Froz) : ∀ b i v, noFroz b i = some v → c b i = some v := fun _ _ _ h => by cases h
theorem VRD.up {d : Dat} {r : Value} (c : Froz) (h : VRD noFroz d r) : VRD c d r := h.mono (noFroz_le c)
theorem VRDs.up {ds : List Dat} {rs : List Value} (c : Froz) (h : VRDs noFroz ds rs) : VRDs c ds rs := h.mono (noFroz_le c)

theorem takeN_eq {α : Type} : ∀ {n : Nat} {xs ys : List α}, takeN n xs = some ys → ys = xs.take n ∧ n ≤ xs.length
  | 0, xs, ys, h => by simp [takeN] at h; simp [h]
  | n + 1, [], ys, h => by simp [takeN] at h
  | n + 1, x :: xs, ys, h => by
    simp only [takeN] at h
    split at h
    · rename_i zs e
      obtain ⟨h1, h2⟩ := takeN_eq e
      cases h
      simp [h1, h2]
    · cases h

theorem mkV_sim {m nv S} {ag : Bool} {cs : List IVal} {rs : List Value} {v : IVal} (h : mkV ag cs = some v) (hv : VRs m nv S cs rs) :
    (ag = true → VR m nv S v (.agg rs.toArray)) ∧ (ag = false → ∃ x, rs = [x] ∧ VR m nv S v x) := by
  cases ag with
  | true => simp only [mkV, Option.some.injEq] at h; subst h; exact ⟨fun _ => .agg cs rs hv .nil, fun h => by cases h⟩
  | false =>
    refine ⟨(fun h => by cases h), fun _ => ?_⟩
    match cs, h with
    | [x], h =>
      simp only [mkV, Option.some.injEq] at h
      subst h
      obtain ⟨r, rs', rfl, h1, h2⟩ := hv.cons_inv
      cases h2.nil_inv
      exact ⟨r, rfl, h1⟩

/-- reading cells. -/
theorem cellsAt_sim {A m S s w} (h : HR A m S s w) {a : IVal} {r : Value} {n : Nat} {cs : List IVal} (hc : s.cellsAt a n = some cs) (ha : VR m s.nv S a r) :
    ∃ b o rs, r = .pointer (some ⟨b, o, none⟩) ∧ VRs m s.nv S cs rs ∧ cs.length = n ∧ (∀ (j : Nat) (v : Value), rs[j]? = some v → w.cell? ⟨b, o + j, none⟩ = some v) := by
  have hs := h.snap
  cases ha with
  | ptr id ver off mi a h1 h2 h3 _ =>
    simp only [ISt.cellsAt] at hc
    split at hc
    · rename_i t cs0 fz e
      obtain ⟨e1, e2⟩ := takeN_eq hc
      obtain ⟨mi', k1, k2, k3, k4, _⟩ := h.obj id ver _ (obj_at e)
      rw [h2] at k1; cases k1
      obtain ⟨rc, e', fr, rs, ho, hv, hr, hN, hf, h1c⟩ := k4
      have := h3 k2
      subst this
      refine ⟨mi.b, off, (rs.drop off).take n, rfl, by rw [e1]; exact (hv.drop off).take n, by rw [e1, List.length_take, List.length_drop]; rw [List.length_drop] at e2; omega, fun j v hj => ?_⟩
      have hj' : rs[off + j]? = some v := by
        rw [List.getElem?_take] at hj
        split at hj
        · rw [List.getElem?_drop] at hj; exact hj
        · cases hj
      have := hr _ _ hj'
      simpa [World.cell?, ho] using this
    · cases hc
  | rptr cs0 b o ss h1 h2 _ =>
    simp only [ISt.cellsAt] at hc
    obtain ⟨e1, e2⟩ := takeN_eq hc
    refine ⟨b, o, ss.take n, rfl, by rw [e1]; exact h1.take n, by rw [e1, List.length_take]; omega, fun j v hj => ?_⟩
    have hj' : ss[j]? = some v := by
      rw [List.getElem?_take] at hj
      split at hj
      · exact hj
      · cases hj
    rcases h2 j v hj' with k | k
    · exact hs.sc _ _ _ k
    · exact hs.sb _ _ _ k
  | _ => simp [ISt.cellsAt] at hc

theorem addr_add (b o j : Nat) : (⟨b, o, none⟩ : Addr).add j = ⟨b, o + j, none⟩ := by
  unfold Addr.add
  split
  · rename_i h; subst h; rfl
  · rfl

theorem load_sim {A} (hA : Par.OK A) {m S s w} (h : HR A m S s w) {t : TypeId} {a v : IVal} {r : Value} (hl : s.load A t a = some v) (ha : VR m s.nv S a r) :
    ∃ x, (Instr.loadAt t r).run A.P w = .ok x w ∧ VR m s.nv S v x := by
  simp only [ISt.load] at hl
  split at hl
  · rename_i i ht
    split at hl
    · rename_i cs hc
      obtain ⟨b, o, rs, rfl, hv, hn, hcell⟩ := cellsAt_sim h hc ha
      obtain ⟨k1, k2⟩ := mkV_sim hl hv
      have hlen : rs.length = i.sz := by rw [← hv.length, hn]
      cases hag : isAg i.und with
      | true =>
        refine ⟨_, ?_, k1 hag⟩
        have hload : (loadCells ⟨b, o, none⟩ i.sz).run A.P w = .ok rs.toArray w := by
          rw [← hlen]
          exact run_loadCells_list w ⟨b, o, none⟩ rs fun j v hj => by rw [addr_add]; exact hcell j v hj
        simp [Instr.loadAt, Instr.sureAddr, loadVar, run_isAgg_ti hA ht w, hag, run_sizeOf_ti hA ht w, hload]
      | false =>
        obtain ⟨x, rfl, hx⟩ := k2 hag
        refine ⟨x, ?_, hx⟩
        have h0 : w.cell? ⟨b, o, none⟩ = some x := hcell 0 x rfl
        simp [Instr.loadAt, Instr.sureAddr, loadVar, run_isAgg_ti hA ht w, hag, run_load, h0]
    · cases hl
  · cases hl

theorem putAt_eq {α : Type} : ∀ {off : Nat} {xs vs ys : List α}, putAt off xs vs = some ys → ys = xs.take off ++ vs ++ xs.drop (off + vs.length) ∧ off + vs.length ≤ xs.length
  | 0, xs, [], ys, h => by
    have : ys = xs := by cases xs <;> simp [putAt] at h <;> simp [h]
    simp [this]
  | 0, [], _ :: _, _, h => by simp [putAt] at h
  | 0, x :: xs, v :: vs, ys, h => by
    simp only [putAt] at h
    split at h
    · rename_i zs e
      obtain ⟨h1, h2⟩ := putAt_eq e
      cases h
      simp only [List.take_zero, List.nil_append, Nat.zero_add] at h1 h2 ⊢
      simp [h1, h2]
    · cases h
  | n + 1, [], vs, _, h => by simp [putAt] at h
  | n + 1, x :: xs, vs, ys, h => by
    simp only [putAt] at h
    split at h
    · rename_i zs e
      obtain ⟨h1, h2⟩ := putAt_eq e
      cases h
      refine ⟨?_, by simp; omega⟩
      rw [h1]
      have : n + 1 + vs.length = (n + vs.length) + 1 := by omega
      simp [this]
    · cases h

theorem putAt_some {α : Type} : ∀ (off : Nat) (xs vs : List α), off + vs.length ≤ xs.length → putAt off xs vs = some (xs.take off ++ vs ++ xs.drop (off + vs.length))
  | 0, xs, [], _ => by cases xs <;> simp [putAt]
  | 0, [], v :: vs, h => by simp at h
  | 0, x :: xs, v :: vs, h => by
    simp only [putAt, putAt_some 0 xs vs (by simp at h ⊢; omega)]
    simp
  | n + 1, [], vs, h => by simp at h
  | n + 1, x :: xs, vs, h => by
    have e : n + 1 + vs.length = (n + vs.length) + 1 := by omega
    simp only [putAt, putAt_some n xs vs (by simp at h ⊢; omega)]
    simp [e]

/-- the machine writes cells one by one. -/
theorem foldl_set_list (off : Nat) : ∀ (vs : List Value) (k : Nat) (arr : Array Value), off + k + vs.length ≤ arr.size →
    ((vs.zipIdx k).foldl (fun (cs : Array Value) (p : Value × Nat) => cs.setIfInBounds (off + p.2) p.1) arr).toList = arr.toList.take (off + k) ++ vs ++ arr.toList.drop (off + k + vs.length)
  | [], k, arr, h => by simp
  | v :: vs, k, arr, h => by
    simp only [List.zipIdx_cons, List.foldl_cons]
    rw [foldl_set_list off vs (k + 1) _ (by simp at h ⊢; omega)]
    simp only [List.length_cons] at h
    apply List.ext_getElem?
    intro i
    simp only [Array.toList_setIfInBounds, List.getElem?_append, List.length_append, List.length_take, List.length_set, List.getElem?_take, List.getElem?_drop, List.getElem?_set, List.length_cons, Array.length_toList]
    have e1 : min (off + (k + 1)) arr.size = off + k + 1 := by omega
    have e2 : min (off + k) arr.size = off + k := by omega
    rw [e1, e2]
    grind

theorem foldl_set (off : Nat) (vs arr : Array Value) (h : off + vs.size ≤ arr.size) :
    (vs.zipIdx.foldl (fun (cs : Array Value) (p : Value × Nat) => cs.setIfInBounds (off + p.2) p.1) arr) = (arr.toList.take off ++ vs.toList ++ arr.toList.drop (off + vs.size)).toArray := by
  have h0 := foldl_set_list off vs.toList 0 arr (by simpa using h)
  apply Array.ext'
  rw [← Array.foldl_toList, Array.toList_zipIdx, h0]
  simp
end Go.Ideal
