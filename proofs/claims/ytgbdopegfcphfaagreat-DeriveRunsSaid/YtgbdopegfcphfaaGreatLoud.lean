/- The operations that turn memory: what the interpreter answers the machine answers. No condition. -/
import Derived.Test.YtgbdopegfcphfaaGreatQall
namespace Go.Ideal

theorem leafD_cells {d : Dat} (h : d.leaf = true) : d.cells = [d] := by cases d <;> simp_all [Dat.leaf, Dat.cells]

theorem chunkD_sim {c : Froz} {ag : Bool} {n : Nat} : ∀ {k : Nat} {xs ds : List Dat} {rs : List Value}, chunkD ag n k xs = some ds → VRDs c xs rs →
    ds.length = k ∧ (∀ d ∈ ds, d.cells.length = n) ∧ VRDs c (ds.flatMap Dat.cells) (rs.take (k * n)) ∧ (k = 0 ∨ k * n ≤ xs.length)
  | 0, xs, ds, rs, h, hv => by simp [chunkD] at h; subst h; simp; exact .nil
  | k + 1, xs, ds, rs, h, hv => by
    simp only [chunkD] at h
    split at h
    case h_2 => cases h
    rename_i ys e
    split at h
    case h_2 => cases h
    rename_i ds' e'
    obtain ⟨t1, t2⟩ := takeN_eq e
    obtain ⟨c1, c2, c3, c4⟩ := chunkD_sim e' (hv.drop n)
    have hys : VRDs c ys (rs.take n) := by rw [t1]; exact hv.take n
    have hyl : ys.length = n := by rw [t1, List.length_take]; omega
    have happ : ∀ {a b : List Dat} {p q : List Value}, VRDs c a p → VRDs c b q → VRDs c (a ++ b) (p ++ q) := by
      intro a
      induction a with
      | nil => intro b p q h1 h2; cases h1; exact h2
      | cons x a ih => intro b p q h1 h2; obtain ⟨r, p', rfl, u1, u2⟩ := h1.cons_inv; exact .cons u1 (ih u2 h2)
    have hk : (k + 1) * n = n + k * n := by rw [Nat.succ_mul]; omega
    have htake : rs.take ((k + 1) * n) = rs.take n ++ (rs.drop n).take (k * n) := by rw [hk, List.take_add]
    have hlen : (k + 1) * n ≤ xs.length := by
      rcases c4 with rfl | c4
      · simpa using t2
      · rw [List.length_drop] at c4; omega
    split at h
    · cases h
      refine ⟨by simp [c1], fun d hd => ?_, ?_, .inr hlen⟩
      · rcases List.mem_cons.1 hd with rfl | hd
        · exact hyl
        · exact c2 d hd
      · rw [List.flatMap_cons, htake]; exact happ hys c3
    · obtain ⟨hl, rfl⟩ := ite_some h
      refine ⟨by simp [c1], fun d hd => ?_, ?_, .inr hlen⟩
      · rcases List.mem_cons.1 hd with rfl | hd
        · rw [leafD_cells hl]; exact hyl
        · exact c2 d hd
      · rw [List.flatMap_cons, htake, leafD_cells hl]; exact happ hys c3
    · cases h


/-- data out of a leaf. -/
theorem toDatLeaf_sim {A} {m S s w} (h : HR A m S s w) {v : IVal} {r : Value} {d : Dat} {s' : ISt} (hd : toDatLeaf A s v = some (d, s')) (hv : VR m s.nv S v r) :
    ∃ S', HR A m S' s' w ∧ s'.nv = s.nv ∧ Step m s.nv S w m s.nv S' w ∧ VRD S'.sc d r := by
  unfold toDatLeaf at hd
  split at hd
  · cases hd; exact ⟨S, h, rfl, .refl _ _ _ _, VR.dat_iff.1 hv⟩
  · rename_i id ver off len
    split at hd
    case h_2 => cases hd
    rename_i t cs fz ho
    split at hd
    case h_2 => cases hd
    rename_i i ht
    split at hd
    case h_2 => cases hd
    rename_i ys e1
    split at hd
    case h_2 => cases hd
    rename_i zs e2
    split at hd
    case h_2 => cases hd
    rename_i xs e3
    cases hd
    cases hv with
    | mref _ _ _ _ cap mi a q1 q2 q3 hsp q4 _ =>
    obtain ⟨mi', k1, k2, _⟩ := h.obj id ver _ (obj_at ho)
    rw [q2] at k1; cases k1
    obtain ⟨t1, t2⟩ := takeN_eq e1
    obtain ⟨rs, rc, e, fr, f1, f2, f3, f4, f5⟩ := h.freeze ho q2 off (off + len * i.sz) (fun hlt => by rw [List.length_drop] at t2; omega)
    refine ⟨_, f4, rfl, f5, ?_⟩
    have hz : VRDs S.sc zs ((rs.drop off).take (len * i.sz)) := mapO_asDat e2 (by rw [t1]; exact (f2.drop off).take _)
    have hz' := hz.mono f5.g.sc
    obtain ⟨c1, c2, c3, c4⟩ := chunkD_sim e3 hz'
    rw [List.take_take, Nat.min_self] at c3
    obtain ⟨ab, ao, as⟩ := a
    simp only at hsp
    subst hsp
    subst c1
    refine .slc false i.sz xs ab ao cap _ c2 (by omega) (by simp) c3 (fun j v hj => ?_) .nil
    rcases q4 k2 with ⟨z1, _⟩ | ⟨z1, _⟩
    · rw [z1] at hj; simp at hj
    · cases z1
      have hlt : j < xs.length * i.sz := by
        rw [List.getElem?_take] at hj
        split at hj
        · assumption
        · cases hj
      simp only [Snap.froz]
      rw [List.getElem?_take, if_pos hlt, List.getElem?_drop] at hj
      rw [← hj]
      have c1 : off ≤ off + j := by omega
      have c2 : off + j < off + xs.length * i.sz := by omega
      simp [c2]
  · cases hd

theorem mapLeaf_sim {A} {m w} : ∀ {vs : List IVal} {rs : List Value} {S : Snap} {s s' : ISt} {ds : List Dat}, HR A m S s w → mapSt (toDatLeaf A) s vs = some (ds, s') → VRs m s.nv S vs rs →
    ∃ S', HR A m S' s' w ∧ s'.nv = s.nv ∧ Step m s.nv S w m s.nv S' w ∧ VRDs S'.sc ds rs
  | [], rs, S, s, s', ds, h, hd, hv => by
    simp only [mapSt, Option.some.injEq, Prod.mk.injEq] at hd
    obtain ⟨rfl, rfl⟩ := hd
    cases hv
    exact ⟨S, h, rfl, .refl _ _ _ _, .nil⟩
  | v :: vs, rs, S, s, s', ds, h, hd, hv => by
    simp only [mapSt] at hd
    split at hd
    case h_2 => cases hd
    rename_i d s1 e1
    split at hd
    case h_2 => cases hd
    rename_i ds' s2 e2
    cases hd
    obtain ⟨r, rs', rfl, h1, h2⟩ := hv.cons_inv
    obtain ⟨S1, a1, a2, a3, a4⟩ := toDatLeaf_sim h e1 h1
    obtain ⟨S2, b1, b2, b3, b4⟩ := mapLeaf_sim a1 e2 (by rw [a2]; exact h2.mono a3.g)
    rw [a2] at b3
    exact ⟨S2, b1, b2.trans a2, a3.trans b3, .cons (a4.mono b3.g.sc) b4⟩

theorem agg_cells_size {A : Par} {m S s w} (h : HR A m S s w) {t : TypeId} {i : TI} (ht : A.ti t = some i) {cs : List IVal} {rc : Array Value} (hv : VRs m s.nv S cs rc.toList)
    (h1 : ∀ (j : Nat) (v : Value), rc[j]? = some v → v.oneCell' = true) (N : Nat) (hN : rc.size = N * i.sz) :
    HR A (m ++ [⟨w.heap.size, s.nv, N⟩]) S (s.new (.cells t cs 0)) (w.alloc (.cells rc t)) ∧ Step m s.nv S w (m ++ [⟨w.heap.size, s.nv, N⟩]) (s.nv + 1) S (w.alloc (.cells rc t)) :=
  h.new (.cells t cs 0) (.cells rc t) N ⟨rc, ⟨t, rfl⟩, (0, 0), rc.toList, rfl, hv, fun j v hj => by simpa using hj, fun i' hi' => by rw [ht] at hi'; cases hi'; exact hN, fun j _ _ => by omega, fun j v hj => h1 j v (by simpa using hj)⟩

/-- a pointer to a new variable. -/
theorem newVar_ptr {A m S s w} (h : HR A m S s w) (N : Nat) : VR (m ++ [⟨w.heap.size, s.nv, N⟩]) (s.nv + 1) S (.ptr s.H.length s.nv 0) (.pointer (some ⟨w.heap.size, 0, none⟩)) :=
  .ptr _ _ _ ⟨w.heap.size, s.nv, N⟩ _ (Nat.lt_succ_self _) (by rw [← h.len]; simp) (fun _ => rfl) .nil

/-- what a loud operation comes to in the machine. -/
structure LoudOK (A : Par) (m : List MI) (S : Snap) (s : ISt) (w : World) (v : IVal) (s' : ISt) (q : Result Next) : Prop where
  ok : ∃ (nx : Next) (w' : World) (m' : List MI) (S' : Snap), q = .ok nx w' ∧ ((∃ r, nx = .value r ∧ VR m' s'.nv S' v r) ∨ (nx = .skip ∧ v = iundef)) ∧ HR A m' S' s' w' ∧ Step m s.nv S w m' s'.nv S' w'

/-- a row of cells is overwritten. -/
theorem run_storeCells_obj {P : Program} (b off : Nat) (e : TypeId) (fr : Nat × Nat) : ∀ (vs : List Value) (i : Nat) (w : World) (rc : Array Value), w.heap[b]? = some (.cells rc e fr) → off + i + vs.length ≤ rc.size →
    (∀ j, j < vs.length → ¬ (fr.1 ≤ off + i + j ∧ off + i + j < fr.2)) → (∀ v ∈ vs, v.oneCell' = true) →
    (storeCells ⟨b, off, none⟩ vs i).run P w = .ok () (putObj w b (.cells ((vs.zipIdx i).foldl (fun (cs : Array Value) (p : Value × Nat) => cs.setIfInBounds (off + p.2) p.1) rc) e fr))
  | [], i, w, rc, h, _, _, _ => by
    simp only [storeCells, Sem.run_pure, List.zipIdx_nil, List.foldl_nil]
    congr 1
    unfold putObj
    have hb := heap_lt h
    have : w.heap.setIfInBounds b (.cells rc e fr) = w.heap := by
      apply Array.ext
      · simp
      · intro k h1 h2
        by_cases hk : k = b
        · subst hk
          rw [Array.getElem?_eq_getElem h2] at h
          simp [Option.some.inj h]
        · rw [Array.getElem_setIfInBounds (hj := h2)]
          rw [if_neg (fun x => hk x.symm)]
    rw [this]
  | v :: vs, i, w, rc, h, hle, hf, h1 => by
    simp only [List.length_cons] at hle hf
    have hb := heap_lt h
    have hc : w.cell? ⟨b, off + i, none⟩ = some rc[off + i] := by
      have : off + i < rc.size := by omega
      simp [World.cell?, h, this]
    have hfz : w.frozen? ⟨b, off + i, none⟩ = false := by
      have := hf 0 (by omega)
      simp only [World.frozen?, h]
      simp only [Nat.add_zero] at this
      simp; omega
    have hset : w.setCell ⟨b, off + i, none⟩ v = putObj w b (.cells (rc.setIfInBounds (off + i) v) e fr) := by
      simp only [World.setCell, putObj]
      congr 1
      apply Array.ext
      · simp
      · intro k h1 h2
        simp only [Array.getElem_modify, Array.getElem_setIfInBounds]
        by_cases hk : b = k
        · subst hk
          rw [Array.getElem?_eq_getElem hb] at h
          simp [Option.some.inj h]
        · have h0 : k < w.heap.size := by simpa using h2
          rw [Array.getElem_setIfInBounds (hj := h0)]
          simp [hk]
    have hrun := run_store P w ⟨b, off + i, none⟩ v .plain (h1 v (by simp))
    rw [hc] at hrun
    simp only [hfz, Bool.false_eq_true, if_false, hset] at hrun
    have hb' : (putObj w b (.cells (rc.setIfInBounds (off + i) v) e fr)).heap[b]? = some (.cells (rc.setIfInBounds (off + i) v) e fr) := putObj_same hb
    have ih := run_storeCells_obj (P := P) b off e fr vs (i + 1) _ (rc.setIfInBounds (off + i) v) hb' (by simp; omega) (fun j hj => by have := hf (j + 1) (by omega); rw [show off + i + (j + 1) = off + (i + 1) + j by omega] at this; exact this) (fun u hu => h1 u (by simp [hu]))
    simp only [storeCells, Sem.run_bind, addr_add]
    rw [show (store ⟨b, off + i, none⟩ v : Sem Unit) = store ⟨b, off + i, none⟩ v .plain from rfl, hrun]
    simp only [Result.andThen_ok, ih, List.zipIdx_cons, List.foldl_cons]
    congr 1
    simp [putObj, Array.setIfInBounds_setIfInBounds]

/-- writing cells into an ideal object. -/
theorem putCells_sim {A} {m S s w} (h : HR A m S s w) {id ver : Nat} {t : TypeId} {cs ys vs : List IVal} {fz off : Nat} {us : List Value} (ho : s.obj id ver = some (.cells t cs fz)) (hfz : fz ≤ off) (hp : putAt off cs vs = some ys)
    (hv : VRs m s.nv S vs us) (h1 : ∀ v ∈ us, v.oneCell' = true) {mi : MI} (hm : m[id]? = some mi) :
    ∃ w', (storeCells ⟨mi.b, off, none⟩ us).run A.P w = .ok () w' ∧ HR A m S (s.setObj id ver (.cells t ys fz)) w' ∧ Step m s.nv S w m s.nv S w' := by
  obtain ⟨mi', k1, k2, k3, ⟨rc, e, fr, rs, o1, o2, o3, o4, o5, o6⟩, k5⟩ := h.obj id ver _ (obj_at ho)
  rw [hm] at k1; cases k1
  obtain ⟨p1, p2⟩ := putAt_eq hp
  have hl := hv.length
  have hrl : rs.length ≤ rc.size := by
    rcases Nat.eq_zero_or_pos rs.length with h0 | h0
    · omega
    · have hlt : rs.length - 1 < rs.length := by omega
      have := o3 (rs.length - 1) rs[rs.length - 1] (List.getElem?_eq_getElem hlt)
      have := (Array.getElem?_eq_some_iff.1 this).1
      omega
  have hcl := o2.length
  have hle : off + us.length ≤ rc.size := by omega
  have hrun := run_storeCells_obj (P := A.P) mi.b off e fr us 0 w rc o1 (by omega) (fun j hj => by rw [Nat.add_zero]; exact o5 (off + j) (by omega) (by omega)) h1
  have hfold := foldl_set_list off us 0 rc (by omega)
  simp only [Nat.add_zero] at hfold
  generalize hrc : (us.zipIdx.foldl (fun (cs : Array Value) (p : Value × Nat) => cs.setIfInBounds (off + p.2) p.1) rc) = rc' at hrun hfold
  refine ⟨_, hrun, ?_⟩
  have hsz : rc'.size = rc.size := by
    rw [← Array.length_toList, hfold]; simp; omega
  have hget : ∀ (j : Nat), rc'[j]? = if j < off then rc[j]? else if j < off + us.length then us[j - off]? else rc[j]? := by
    intro j
    rw [← Array.getElem?_toList, hfold]
    simp only [List.getElem?_append, List.length_append, List.length_take, List.getElem?_take, List.getElem?_drop, Array.length_toList, Array.getElem?_toList]
    have : min off rc.size = off := by omega
    rw [this]
    grind
  have hnew : VRs m s.nv S ys (rs.take off ++ us ++ rs.drop (off + vs.length)) := by rw [p1]; exact o2.take_append_drop off _ hv
  have hnewget : ∀ (j : Nat) (v : Value), (rs.take off ++ us ++ rs.drop (off + vs.length))[j]? = some v → (j < off ∧ rs[j]? = some v) ∨ (off ≤ j ∧ j < off + us.length ∧ us[j - off]? = some v) ∨ (off + us.length ≤ j ∧ rs[j]? = some v) := by
    intro j v hj
    simp only [List.getElem?_append, List.length_append, List.length_take, List.getElem?_take, List.getElem?_drop] at hj
    have : min off rs.length = off := by omega
    rw [this] at hj
    grind
  refine h.set ho (.cells t ys fz) _ hm ⟨rc', e, fr, _, rfl, hnew, fun j v hj => ?_, fun i hi => by rw [hsz]; exact o4 i hi, fun j hj hj2 => o5 j hj (by omega), fun j v hj => ?_⟩ (fun t' cs' fz' eq j hj => by cases eq; exact k5.sc _ _ _ rfl j hj)
    (fun i v hv' => ?_) (fun l hl' => by rw [o1] at hl'; cases hl')
  · rw [hget]
    rcases hnewget j v hj with ⟨q1, q2⟩ | ⟨q1, q2, q3⟩ | ⟨q1, q2⟩
    · rw [if_pos q1]; exact o3 j v q2
    · rw [if_neg (by omega), if_pos q2]; exact q3
    · rw [if_neg (by omega), if_neg (by omega)]; exact o3 j v q2
  · rcases hnewget j v hj with ⟨_, q2⟩ | ⟨_, _, q3⟩ | ⟨_, q2⟩
    · exact o6 j v q2
    · exact h1 v (List.mem_of_getElem? q3)
    · exact o6 j v q2
  · have hi : i < fz := by
      rcases Nat.lt_or_ge i fz with hlt | hge
      · exact hlt
      · rw [k5.sc _ _ _ rfl i hge] at hv'; cases hv'
    have := h.snap.sc _ _ _ hv'
    have hb := h.lt hm
    simp only [World.cell?, putObj_same hb]
    simp only [World.cell?, o1] at this
    simp only [Option.isSome_none, Bool.false_eq_true, if_false] at this ⊢
    rw [hget, if_pos (by omega)]
    exact this
end Go.Ideal
