/- The operations that make something new, and stores. No condition. -/
import Derived.Test.YtgbdopegfcphfaaGreatLoud
import Derived.Laws.BytesString
namespace Go.Ideal

/-- what an operation with a value comes to. -/
def ValOK (A : Par) (m : List MI) (S : Snap) (s : ISt) (w : World) (v : IVal) (s' : ISt) (q : Result Value) : Prop :=
  ∃ r w' m' S', q = .ok r w' ∧ VR m' s'.nv S' v r ∧ HR A m' S' s' w' ∧ Step m s.nv S w m' s'.nv S' w'
def UnitOK (A : Par) (m : List MI) (S : Snap) (s : ISt) (w : World) (s' : ISt) (q : Result Unit) : Prop :=
  ∃ w' m' S', q = .ok () w' ∧ HR A m' S' s' w' ∧ Step m s.nv S w m' s'.nv S' w'

theorem ValOK.same {A m S s w} (h : HR A m S s w) {v : IVal} {r : Value} {q : Result Value} (hq : q = .ok r w) (hv : VR m s.nv S v r) : ValOK A m S s w v s q :=
  ⟨r, w, m, S, hq, hv, h, .refl _ _ _ _⟩

/-- a new object for an ideal one. -/
theorem cells_new {A m S s w} (h : HR A m S s w) {t : TypeId} (i : TI) (ht : A.ti t = some i) {cs : List IVal} {us : List Value} (rest : List Value) (hv : VRs m s.nv S cs us) (h1 : ∀ v ∈ us, v.oneCell' = true) (N : Nat)
    (hN : us.length + rest.length = N * i.sz) (fr : Nat × Nat) (hfr : N * i.sz ≤ fr.1) :
    HR A (m ++ [⟨w.heap.size, s.nv, N⟩]) S (s.new (.cells t cs 0)) (w.alloc (.cells (us ++ rest).toArray t fr)) ∧ Step m s.nv S w (m ++ [⟨w.heap.size, s.nv, N⟩]) (s.nv + 1) S (w.alloc (.cells (us ++ rest).toArray t fr)) :=
  h.new (.cells t cs 0) _ N ⟨(us ++ rest).toArray, ⟨t, rfl⟩, fr, us, rfl, hv, fun j v hj => by simp only [List.getElem?_toArray]; rw [List.getElem?_append_left (List.getElem?_eq_some_iff.1 hj).1]; exact hj,
    fun i' hi' => by rw [ht] at hi'; cases hi'; simp [hN], fun j _ hj => by simp at hj; omega, fun j v hj => h1 v (List.mem_of_getElem? hj)⟩

theorem cells_new0 {A m S s w} (h : HR A m S s w) {t : TypeId} (i : TI) (ht : A.ti t = some i) {cs : List IVal} {us : List Value} (rest : List Value) (hv : VRs m s.nv S cs us) (h1 : ∀ v ∈ us, v.oneCell' = true) (N : Nat)
    (hN : us.length + rest.length = N * i.sz) :
    HR A (m ++ [⟨w.heap.size, s.nv, N⟩]) S (s.new (.cells t cs 0)) (w.alloc (.cells (us ++ rest).toArray t)) ∧ Step m s.nv S w (m ++ [⟨w.heap.size, s.nv, N⟩]) (s.nv + 1) S (w.alloc (.cells (us ++ rest).toArray t)) :=
  h.new (.cells t cs 0) _ N ⟨(us ++ rest).toArray, ⟨t, rfl⟩, (0, 0), us, rfl, hv, fun j v hj => by simp only [List.getElem?_toArray]; rw [List.getElem?_append_left (List.getElem?_eq_some_iff.1 hj).1]; exact hj,
    fun i' hi' => by rw [ht] at hi'; cases hi'; simp [hN], fun j _ hj => by simp, fun j v hj => h1 v (List.mem_of_getElem? hj)⟩

theorem alloc_sim {A} (hA : Par.OK A) {m S s w} (h : HR A m S s w) {t : TypeId} {i : TI} {z : Dat} (ht : A.ti t = some i) (hz : i.zero = some z) :
    ValOK A m S s w (.ptr s.H.length s.nv 0) (s.new (.cells t (z.cells.map .dat) 0)) ((Instr.alloc t true (.tuple #[])).run A.P w) := by
  obtain ⟨zr, z1, z2, z3, z4, z5⟩ := run_zeroValue_ti hA ht w hz
  obtain ⟨n1, n2⟩ := cells_new0 h i ht [] (VRs.of_dat (z4.up S.sc)) z5 1 (by simp [z3])
  refine ⟨.pointer (some ⟨w.heap.size, 0, none⟩), _, _, _, ?_, newVar_ptr h 1, n1, n2⟩
  simp [Instr.alloc, newVar, newRow, z1]

theorem box_sim {A} {m S s w} (h : HR A m S s w) {t : TypeId} {i : TI} (ht : A.ti t = some i) {v : IVal} {r : Value} (hv : VR m s.nv S v r) (hl : v.cells.all IVal.leaf = true) (hn : v.cells.length = i.sz) :
    ValOK A m S s w (.ptr s.H.length s.nv 0) (s.new (.cells t v.cells 0)) ((Instr.box t r).run A.P w) := by
  have hc := cells_sim hv
  have h1 := leaf_oneCells hc hl
  obtain ⟨n1, n2⟩ := cells_new0 h i ht [] hc (fun v hv => by obtain ⟨j, hj⟩ := List.getElem?_of_mem hv; exact h1 j v hj) 1 (by simp [← hc.length, hn])
  refine ⟨.pointer (some ⟨w.heap.size, 0, none⟩), _, _, _, ?_, newVar_ptr h 1, n1, n2⟩
  simp [Instr.box, newVar, newRow]

theorem store_sim {A} (hA : Par.OK A) {m S s w} (h : HR A m S s w) {t : TypeId} {a x : IVal} {ra rx : Value} {s' : ISt} (hs : s.store A t a x = some s') (ha : VR m s.nv S a ra) (hx : VR m s.nv S x rx) :
    UnitOK A m S s w s' ((Instr.storeAt t ra rx).run A.P w) := by
  unfold ISt.store at hs
  split at hs
  case h_2 => cases hs
  rename_i i id ver off ht
  simp only at hs
  split at hs
  case h_2 => cases hs
  rename_i e cs fz hc ho
  split at hs
  case h_2 => cases hs
  rename_i ys hfz hp
  cases hs
  simp only [Bool.and_eq_true] at hc
  have hc1 : x.cells.length = i.sz := Nat.eq_of_beq_eq_true hc.1
  obtain ⟨mi, k1, k2, rfl, k4, k5⟩ := ptr_at h ho ha
  have hcs := cells_sim hx
  have h1 := leaf_oneCells hcs hc.2
  obtain ⟨w', p1, p2, p3⟩ := putCells_sim h ho (by simpa using hfz) hp hcs (fun v hv => by obtain ⟨j, hj⟩ := List.getElem?_of_mem hv; exact h1 j v hj) k1
  refine ⟨w', m, S, ?_, p2, p3⟩
  have hsz : rx.cells.size = i.sz := by rw [← Array.length_toList, ← hcs.length, hc1]
  simp only [Instr.storeAt, Instr.sureAddr, Sem.run_bind, Sem.run_pure, Result.andThen_ok, storeVar, run_sizeOf_ti hA ht, hsz, ne_eq, not_true_eq_false, if_false, p1]

theorem makeMap_sim {A m S s w} (h : HR A m S s w) (t : TypeId) : ValOK A m S s w (.map s.H.length s.nv) (s.new (.map [] [] 0)) ((Instr.makeMap t none).run A.P w) := by
  obtain ⟨n1, n2⟩ := h.new (.map [] [] 0) (.map #[] 0) 0 ⟨[], [], rfl, .nil, .nil, rfl⟩
  exact ⟨.map (some w.heap.size), _, _, _, by simp [Instr.makeMap], .map _ _ ⟨w.heap.size, s.nv, 0⟩ _ (Nat.lt_succ_self _) (by rw [← h.len]; simp) (fun _ => rfl) .nil, n1, n2⟩

theorem rows_list (z : Array Value) : ∀ n, ((Array.range (n * z.size)).map fun i => z[i % z.size]!).toList = (List.replicate n z.toList).flatten
  | 0 => by simp
  | n + 1 => by
    have ih := rows_list z n
    have e1 : (n + 1) * z.size = z.size + n * z.size := by rw [Nat.succ_mul]; omega
    simp only [Array.toList_map, Array.toList_range, e1] at ih ⊢
    rw [List.range_add, List.map_append, List.map_map, List.replicate_succ, List.flatten_cons, ← ih]
    congr 1
    · apply List.ext_getElem
      · simp
      · intro j h1 h2
        simp only [List.length_map, List.length_range] at h1
        simp [Nat.mod_eq_of_lt h1, h1]
    · apply List.map_congr_left
      intro j _
      simp

theorem makeSlice_sim {A} (hA : Par.OK A) {m S s w} (h : HR A m S s w) {t e : TypeId} {i : TI} {z : Dat} (he : elemT A t = some (e, i)) (hz : i.zero = some z) {n : Nat} (hn : roomE i n = true) (k k' : IntKind) :
    ValOK A m S s w (.mref s.H.length s.nv 0 n) (s.new (.cells e (List.replicate n (z.cells.map IVal.dat)).flatten 0)) ((Instr.makeSlice t (.int k n) (.int k' n)).run A.P w) := by
  unfold elemT at he
  split at he
  case h_2 => cases he
  rename_i it hit
  split at he
  case h_2 => cases he
  rename_i e' hu
  split at he
  case h_2 => cases he
  rename_i j hj
  cases he
  simp only [roomE, Bool.and_eq_true, Nat.ble_eq] at hn
  obtain ⟨info, i1, i2, i3, _⟩ := run_typeInfo_ti hA hj w
  obtain ⟨zr, z1, z2, z3, z4, z5⟩ := run_zeroValue_ti hA hj w hz
  have hw : IntKind.wrap .i64 (n : Int) = n := wrap64_in _ (by omega) (by omega)
  have hb : ¬ ((info.bytes : Int) * (n : Int) > 2 ^ 48) := by
    have : info.bytes * n ≤ 70368744177664 := by rw [i3, Nat.mul_comm]; exact hn.1
    have h2 : ((info.bytes * n : Nat) : Int) ≤ ((70368744177664 : Nat) : Int) := Int.ofNat_le.2 this
    rw [Int.natCast_mul] at h2
    omega
  have hzl : VRs m s.nv S (z.cells.map IVal.dat) zr.cells.toList := VRs.of_dat (z4.up S.sc)
  have hrow : ((Array.range (n * i.sz)).map fun i => zr.cells[i % zr.cells.size]!).toList = (List.replicate n zr.cells.toList).flatten := by rw [← z3]; exact rows_list _ n
  obtain ⟨n1, n2⟩ := cells_new0 h i hj (us := (List.replicate n zr.cells.toList).flatten) [] (hzl.replicate_flatten n) (fun v hv => by
      simp only [List.mem_flatten, List.mem_replicate] at hv
      obtain ⟨l, ⟨_, rfl⟩, hv⟩ := hv
      exact z5 v hv) n (by simp [z3])
  refine ⟨.slice (some ⟨w.heap.size, 0, none⟩) n n, _, _, _, ?_, .mref _ _ _ _ _ ⟨w.heap.size, s.nv, n⟩ _ (Nat.lt_succ_self _) (by rw [← h.len]; simp) (Nat.le_refl _) rfl (fun _ => .inr ⟨rfl, fun _ => Nat.le_refl _⟩) .nil, n1, n2⟩
  have hun := run_underlying_ti hA hit w
  rw [hu] at hun
  have hneg : ¬ ((n : Int) < 0) := by omega
  have harr : ((Array.range (n * i.sz)).map fun i => zr.cells[i % zr.cells.size]!) = (List.replicate n zr.cells.toList).flatten.toArray := by apply Array.ext'; rw [hrow]
  simp only [Instr.makeSlice, Sem.run_bind, hun, Result.andThen_ok, asInt, asIntOf, Sem.run_pure, i1, hw, hb, hneg, decide_false, Bool.or_false, Bool.false_or, Bool.or_self, Int.lt_irrefl, gt_iff_lt, Bool.false_eq_true, if_false, run_askRoom, Int.toNat_natCast, run_sizeOf_ti hA hj]
  by_cases h0 : n * i.sz = 0
  · have he : (List.replicate n zr.cells.toList).flatten.toArray = (#[] : Array Value) := by rw [← harr, h0]; simp
    have he' : (List.replicate n zr.cells.toList).flatten = [] := by simpa using he
    have hr : (Array.range 0).map (fun _ => (default : Value)) = #[] := Array.eq_empty_of_size_eq_zero (by simp)
    simp [h0, newRow, he', hr]
  · simp [h0, z1, newRow, harr]
end Go.Ideal
