/- append, copy. No condition. -/
import Derived.Test.YtgbdopegfcphfaaGreatLoudb
import Derived.Deep.AppendSrc
namespace Go.Ideal

theorem bytesD_sim {m nv S} : ∀ (b : List UInt8), VRs m nv S (bytesD b) (b.map fun c => Value.int .u8 c.toNat)
  | [] => .nil
  | c :: b => .cons (vi _ _) (bytesD_sim b)

/-- what is appended or copied. -/
theorem src_sim {A : Par} {m S s w} (h : HR A m S s w) {y : IVal} {ry : Value} {n : Nat} {ys : List IVal} (hs : srcCells s n y = some ys) (hy : VR m s.nv S y ry) :
    ∃ us cnt, VRs m s.nv S ys us ∧ us.length = cnt * n ∧ (∀ w' : World, (Builtin.lenOf ry).run A.P w' = .ok cnt w') ∧
      (∀ k, k ≤ cnt → ∀ w' : World, (w' = w ∨ w' = w.drew) → (Builtin.firstCells n k ry).run A.P w' = .ok (us.take (k * n)).toArray w') := by
  unfold srcCells at hs
  split at hs
  · cases hs
    have := nils_inv hy
    subst this
    exact ⟨[], 0, .nil, by simp, fun _ => rfl, fun k hk w' _ => by simp [Builtin.firstCells]⟩
  · rename_i f k xs
    obtain ⟨hk, rfl⟩ := ite_some hs
    have hk := Nat.eq_of_beq_eq_true hk
    subst hk
    cases hy with
    | dat _ _ hd _ =>
    cases hd with
    | slc _ _ _ b o cap ss h0 h1 h2 h3 h4 _ =>
    have hl : ss.length = xs.length * k := by rw [← h3.length]; exact flat_length h0
    refine ⟨ss, xs.length, .of_dat h3, hl, fun _ => rfl, fun j hj w' hw' => run_firstCells_some w' k j _ _ _ _ ?_ fun i v hv => ?_⟩
    · rw [List.length_take, hl]; exact Nat.min_eq_left (Nat.mul_le_mul_right _ hj)
    · have hv' : ss[i]? = some v := by
        rw [List.getElem?_take] at hv
        split at hv
        · exact hv
        · cases hv
      have := h.snap.sc _ _ _ (h4 i v hv')
      rw [addr_add]
      rcases hw' with rfl | rfl
      · exact this
      · exact this
  · rename_i b
    obtain ⟨hk, rfl⟩ := ite_some hs
    have hk := Nat.eq_of_beq_eq_true hk
    subst hk
    have := str_inv hy
    subst this
    refine ⟨_, b.length, bytesD_sim b, by simp, fun _ => by simp [Builtin.lenOf, ByteArray.size], fun j hj w' _ => ?_⟩
    simp only [Builtin.firstCells, Sem.run_pure, Nat.mul_one]
    congr 1
    apply Array.ext'
    simp [ByteArray.extract, ByteArray.copySlice, List.map_take]
  · rename_i id ver off len
    split at hs
    case h_2 => cases hs
    rename_i t cs fz ho
    cases hy with
    | mref _ _ _ _ cap mi a q1 q2 q3 hsp q4 _ =>
    obtain ⟨mi', k1, k2, _, ⟨rc, e, fr, rs, o1, o2, o3, _⟩, _⟩ := h.obj id ver _ (obj_at ho)
    rw [q2] at k1; cases k1
    obtain ⟨t1, t2⟩ := takeN_eq hs
    have hl := o2.length
    have hul : ((rs.drop off).take (len * n)).length = len * n := by
      rw [List.length_take, List.length_drop]
      rw [List.length_drop] at t2
      omega
    refine ⟨(rs.drop off).take (len * n), len, by rw [t1]; exact (o2.drop off).take _, hul, fun _ => rfl, fun j hj w' hw' => run_firstCells_some w' n j _ _ _ _ ?_ fun i v hv => ?_⟩
    · rw [List.length_take, hul]; exact Nat.min_eq_left (Nat.mul_le_mul_right _ hj)
    · obtain ⟨hi1, hi2⟩ : i < j * n ∧ rs[off + i]? = some v := by
        rw [List.getElem?_take] at hv
        split at hv
        · rename_i hlt
          rw [List.getElem?_take] at hv
          split at hv
          · rw [List.getElem?_drop] at hv; exact ⟨hlt, hv⟩
          · cases hv
        · cases hv
      have hlen : len ≠ 0 := by
        intro h0
        have : j = 0 := by omega
        subst this
        simp at hi1
      rcases q4 k2 with ⟨z1, _⟩ | ⟨z1, _⟩
      · exact absurd z1 hlen
      · subst z1
        rw [addr_add]
        have : w.cell? ⟨mi.b, off + i, none⟩ = some v := by simp [World.cell?, o1, o3 _ _ hi2]
        rcases hw' with rfl | rfl
        · exact this
        · exact this
  · cases hs

theorem leaf_all {m nv S} {vs : List IVal} {rs : List Value} (h : VRs m nv S vs rs) (hl : vs.all IVal.leaf = true) : ∀ v ∈ rs, v.oneCell' = true := by
  intro v hv
  obtain ⟨j, hj⟩ := List.getElem?_of_mem hv
  exact leaf_oneCells h hl j v hj

theorem elemT_inv {A : Par} {t e : TypeId} {i : TI} (h : elemT A t = some (e, i)) : ∃ it, A.ti t = some it ∧ it.und = .slice e ∧ A.ti e = some i := by
  unfold elemT at h
  split at h
  case h_2 => cases h
  rename_i it hit
  split at h
  case h_2 => cases h
  rename_i e' hu
  split at h
  case h_2 => cases h
  rename_i j hj
  cases h
  exact ⟨it, hit, hu, hj⟩

theorem copy_sim {A} (hA : Par.OK A) {m S s w} (h : HR A m S s w) {t : TypeId} {ts : Array TypeId} (hts : ts[0]? = some t) {x y v : IVal} {rx ry : Value} {s' : ISt} (hc : copyI A s t x y = some (v, s')) (hx : VR m s.nv S x rx) (hy : VR m s.nv S y ry) (ty : TypeId) :
    ValOK A m S s w v s' ((Builtin.copy_ ts ty #[rx, ry]).run A.P w) := by
  unfold copyI at hc
  split at hc
  case h_1 => cases hc
  rename_i e i he
  obtain ⟨it, hit, hu, hj⟩ := elemT_inv he
  have hun := run_underlying_ti hA hit w
  rw [hu] at hun
  split at hc
  case h_3 => cases hc
  case h_2 zs hpos hys =>
    cases hc
    obtain ⟨us, cnt, u1, u2, u3, u4⟩ := src_sim h hys hy
    have := nils_inv hx
    subst this
    refine ValOK.same h (r := goInt 0) ?_ (vi _ _)
    have := u4 0 (Nat.zero_le _) w (.inl rfl)
    simp [Builtin.copy_, hts, hun, u3, run_sizeOf_ti hA hj, this]
  rename_i ys id ver off len hpos hys
  split at hc
  case h_2 => cases hc
  rename_i e' cs fz ho
  simp only at hc
  split at hc
  case h_2 => cases hc
  rename_i zs hb hp
  cases hc
  simp only [Bool.and_eq_true] at hb
  have hpos : 0 < i.sz := by simpa using hpos
  obtain ⟨us, cnt, u1, u2, u3, u4⟩ := src_sim h hys hy
  have hq : ys.length / i.sz = cnt := by rw [u1.length, u2]; exact Nat.mul_div_cancel _ hpos
  rw [hq] at hp ⊢
  have hcells := u4 (Nat.min cnt len) (Nat.min_le_left _ _) w (.inl rfl)
  cases hx with
  | mref _ _ _ _ cap mi a q1 q2 q3 hsp q4 _ =>
  obtain ⟨mi', k1, k2, _⟩ := h.obj id ver _ (obj_at ho)
  rw [q2] at k1; cases k1
  have hone := leaf_all u1 hb.2
  obtain ⟨w', p1, p2, p3⟩ := putCells_sim h ho (by simpa using hb.1) hp (u1.take (Nat.min cnt len * i.sz)) (fun v hv => hone v (List.mem_of_mem_take hv)) q2
  have hst : (storeCells a (us.take (Nat.min cnt len * i.sz))).run A.P w = .ok () w' := by
    rcases q4 k2 with ⟨z1, _⟩ | ⟨z1, _⟩
    · rw [show Nat.min cnt len * i.sz = 0 by rw [z1]; simp] at p1 ⊢
      simpa [storeCells] using p1
    · subst z1; exact p1
  refine ⟨goInt (Nat.min cnt len), w', m, S, ?_, vi _ _, p2, p3⟩
  simp [Builtin.copy_, hts, hun, u3, run_sizeOf_ti hA hj, hcells, hst]

theorem cap_small {need cap bytes : Nat} (h0 : cap < need) (h1 : need * bytes ≤ 70368744177664) : Builtin.nextslicecap need cap * bytes ≤ 281474976710656 := by
  have key : Builtin.nextslicecap need cap ≤ 2 * need := by
    unfold Builtin.nextslicecap
    split
    · omega
    · split
      · omega
      · rename_i h2 h3
        have : ∀ k c, 256 ≤ c → c ≤ 2 * need → Builtin.growBy need k c ≤ 2 * need := by
          intro k
          induction k with
          | zero => intro c _ hc; simpa [Builtin.growBy] using hc
          | succ k ih =>
            intro c h4 hc
            simp only [Builtin.growBy]
            split
            · exact hc
            · rename_i h5
              exact ih _ (by omega) (by omega)
        exact this 4 cap (by omega) (by omega)
  calc Builtin.nextslicecap need cap * bytes ≤ 2 * need * bytes := Nat.mul_le_mul_right _ key
    _ = 2 * (need * bytes) := by rw [Nat.mul_assoc]
    _ ≤ 281474976710656 := by omega

theorem overlay_get {rc rc' : Array Value} {off : Nat} {us : List Value} (hle : off + us.length ≤ rc.size) (hfold : rc'.toList = rc.toList.take off ++ us ++ rc.toList.drop (off + us.length)) :
    rc'.size = rc.size ∧ ∀ (j : Nat), rc'[j]? = if j < off then rc[j]? else if j < off + us.length then us[j - off]? else rc[j]? := by
  refine ⟨by rw [← Array.length_toList, hfold]; simp; omega, fun j => ?_⟩
  rw [← Array.getElem?_toList, hfold]
  simp only [List.getElem?_append, List.length_append, List.length_take, List.getElem?_take, List.getElem?_drop, Array.length_toList, Array.getElem?_toList]
  have : min off rc.size = off := by omega
  rw [this]
  grind

theorem grown_ge (w : World) (need old : Nat) (e : TypeId) : need ≤ grownCap w need old e := by
  simp [grownCap, Question.cut]

/-- a new row for what is appended. -/
theorem row_new {z : Value} {olds news : List Value} {need cap : Nat} {i : TI} (hz : z.cells.size = i.sz) (hl : olds.length + news.length = need * i.sz) (hc : need ≤ cap) :
    ∃ rest : List Value, ((olds ++ news).toArray ++ Builtin.zeroCells z.cells (cap - need)) = ((olds ++ news) ++ rest).toArray ∧ (olds ++ news).length + rest.length = cap * i.sz := by
  refine ⟨(Builtin.zeroCells z.cells (cap - need)).toList, by apply Array.ext'; simp, ?_⟩
  simp only [Builtin.zeroCells, Array.length_toList, Array.size_map, Array.size_range, hz, List.length_append, hl]
  rw [← Nat.add_mul]
  congr 1
  omega

theorem append_sim {A} (hA : Par.OK A) {m S s w} (h : HR A m S s w) {t t1 : TypeId} (ht1 : (∃ e', A.P.underlying t1 = some (.slice e')) ∨ A.P.underlying t1 = some .string) {x y v : IVal} {rx ry : Value} {s' : ISt}
    (hc : appendI A s t x y = some (v, s')) (hx : VR m s.nv S x rx) (hy : VR m s.nv S y ry) (ty : TypeId) :
    ValOK A m S s w v s' ((Builtin.append_ #[t, t1] ty #[rx, ry]).run A.P w) := by
  unfold appendI at hc
  split at hc
  case h_1 => cases hc
  rename_i e i he
  obtain ⟨it, hit, hu, hj⟩ := elemT_inv he
  obtain ⟨_, _, _, _, hun, _⟩ := hA.ti t it hit
  rw [hu] at hun
  obtain ⟨info, f1, f2, f3, _, f5, _⟩ := hA.ti e i hj
  split at hc
  case h_2 => cases hc
  rename_i ys hpz hys
  simp only [Bool.and_eq_true] at hpz
  have hpos : 0 < i.sz := by simpa using hpz.1
  obtain ⟨zd, hzd⟩ := Option.isSome_iff_exists.1 hpz.2
  obtain ⟨zr, z1, z2, z3, z4, z5⟩ := f5 zd hzd
  split at hc
  case h_1 => cases hc
  rename_i hleaf
  obtain ⟨us, cnt, u1, u2, u3, u4⟩ := src_sim h hys hy
  have hone := leaf_all u1 hleaf
  have htk : us.take (cnt * i.sz) = us := List.take_of_length_le (by omega)
  have hc1 := u4 cnt (Nat.le_refl _) w (.inl rfl)
  have hc2 := u4 cnt (Nat.le_refl _) w.drew (.inr rfl)
  rw [htk, ← f2] at hc1 hc2
  have hsrc : Src A.P info.size t1 ry cnt us w := ⟨ht1, u3, hc1, hc2, by rw [f2]; exact u2, hone⟩
  split at hc
  · -- nothing is appended
    have hus : us = [] := by have := u1.length; simpa using this.symm
    subst hus
    have hcnt : cnt = 0 := by
      have : cnt * i.sz = 0 := by simpa using u2.symm
      rcases Nat.mul_eq_zero.1 this with h0 | h0
      · exact h0
      · omega
    subst hcnt
    have room : ∀ b o n c, (n ≤ c) → (Builtin.append_ #[t, t1] ty #[.slice (some ⟨b, o, none⟩) n c, ry]).run A.P w = .ok (.slice (some ⟨b, o, none⟩) n c) w := by
      intro b o n c hnc
      have := run_append_room_src w t t1 ty e info hun f1 b o n c ry 0 [] hsrc (by omega) (by simp) (by simp)
      simpa [World.setCells] using this
    split at hc
    · cases hc
      have := nils_inv hx
      subst this
      refine ValOK.same h (r := .slice none 0 0) ?_ hx
      rw [f2] at hc1
      rcases ht1 with ⟨e', hk⟩ | hk <;> simp [Builtin.append_, run_underlying hun, run_underlying hk, sizeOf, typeInfo, f1, u3, f2, hc1]
    · cases hc
      cases hx with
      | dat _ _ hd _ =>
      cases hd with
      | slc full n xs b o cap ss h0 h1 h2 h3 h4 hh =>
      exact ValOK.same h (room b o _ cap h1) (.dat _ _ (.slc _ _ _ b o cap ss h0 h1 h2 h3 h4 .nil) .nil)
    · cases hc
      cases hx with
      | mref id ver off len cap mi a q1 q2 q3 hsp q4 hh =>
      obtain ⟨ab, ao, as⟩ := a
      simp only at hsp
      subst hsp
      exact ValOK.same h (room ab ao _ cap q3) (.mref _ _ _ _ cap mi _ q1 q2 q3 rfl q4 .nil)
    · cases hc
  · rename_i hne
    have hyl : 0 < ys.length := by
      cases ys with
      | nil => exact absurd rfl (hne)
      | cons _ _ => simp
    have hq : ys.length / i.sz = cnt := by rw [u1.length, u2]; exact Nat.mul_div_cancel _ hpos
    have hcp : 0 < cnt := by
      rcases Nat.eq_zero_or_pos cnt with h0 | h0
      · rw [u1.length, u2, h0] at hyl; simp at hyl
      · exact h0
    simp only [hq] at hc
    have hd := h.drew
    have sd := Step.drew m s.nv S w
    -- the arm that grows
    have grow : ∀ (base : Option Addr) (len cap : Nat) (os : List IVal) (olds : List Value), VRs m s.nv S os olds → (∀ u ∈ olds, u.oneCell' = true) → olds.length = len * i.sz →
        (Builtin.firstCells info.size len (.slice base len cap)).run A.P w.drew = .ok olds.toArray w.drew → cap < len + cnt → roomE i (len + cnt) = true →
        ∃ rest, (olds ++ us).length + rest.length = (grownCap w (len + cnt) cap e) * i.sz ∧
        (Builtin.append_ #[t, t1] ty #[.slice base len cap, ry]).run A.P w = .ok (.slice (some ⟨w.heap.size, 0, none⟩) (len + cnt) (grownCap w (len + cnt) cap e)) (w.drew.alloc (.cells ((olds ++ us) ++ rest).toArray e)) := by
      intro base len cap os olds ho1 ho2 hol hfc hg hroom
      simp only [roomE, Bool.and_eq_true, Nat.ble_eq] at hroom
      have hgr := run_append_grow_src w t t1 ty e info zr hun f1 z1 base len cap olds hfc ry cnt us hsrc hg (by omega) (by rw [f3]; exact cap_small hg hroom.1)
      obtain ⟨rest, r1, r2⟩ := row_new (z := zr) (olds := olds) (news := us) (i := i) z3 (by rw [hol, u2, ← Nat.add_mul]) (grown_ge w (len + cnt) cap e)
      exact ⟨rest, r2, by rw [hgr, r1]⟩
    split at hc
    · obtain ⟨hroom, hv⟩ := ite_some hc
      cases hv
      have := nils_inv hx
      subst this
      obtain ⟨rest, r1, r2⟩ := grow none 0 0 [] [] .nil (by simp) (by simp) (run_firstCells_none _ _ _ _ _) (by omega) (by rw [Nat.zero_add]; exact hroom)
      obtain ⟨n1, n2⟩ := cells_new0 hd i hj rest u1 hone (grownCap w (0 + cnt) 0 e) (by simpa using r1)
      refine ⟨_, _, _, _, r2, ?_, n1, sd.trans n2⟩
      rw [Nat.zero_add]
      refine .mref _ _ _ _ _ ⟨w.heap.size, s.nv, grownCap w (0 + cnt) 0 e⟩ _ (Nat.lt_succ_self _) ?_ ?_ rfl (fun _ => .inr ⟨rfl, fun _ => ?_⟩) .nil
      · rw [← h.len]; simp
      · exact grown_ge _ _ _ _
      · simp
    · rename_i k xs
      obtain ⟨hroom, hv⟩ := ite_some hc
      cases hv
      simp only [Bool.and_eq_true] at hroom
      obtain ⟨⟨hk, hroom⟩, hol⟩ := hroom
      have hk := Nat.eq_of_beq_eq_true hk
      subst hk
      cases hx with
      | dat _ _ hd' _ =>
      cases hd' with
      | slc _ _ _ b o cap ss h0 h1 h2 h3 h4 hh =>
      have hcap := h2 rfl
      subst hcap
      have hl : ss.length = xs.length * i.sz := by rw [← h3.length]; exact flat_length h0
      have hos : VRs m s.nv S ((xs.flatMap Dat.cells).map IVal.dat) ss := .of_dat h3
      have ho2 := leaf_all hos hol
      obtain ⟨rest, r1, r2⟩ := grow (some ⟨b, o, none⟩) xs.length xs.length _ ss hos ho2 hl (run_firstCells_some _ _ _ _ _ _ _ (by rw [hl, f2]) (fun j v hj => by rw [addr_add]; exact hd.snap.sc _ _ _ (h4 j v hj))) (by omega) hroom
      obtain ⟨n1, n2⟩ := cells_new0 hd i hj rest (hos.append u1) (fun v hv => by rcases List.mem_append.1 hv with hv | hv; exact ho2 v hv; exact hone v hv) (grownCap w (xs.length + cnt) xs.length e) r1
      refine ⟨_, _, _, _, r2, ?_, n1, sd.trans n2⟩
      refine .mref _ _ _ _ _ ⟨w.heap.size, s.nv, grownCap w (xs.length + cnt) xs.length e⟩ _ (Nat.lt_succ_self _) ?_ (grown_ge _ _ _ _) rfl (fun _ => .inr ⟨rfl, fun _ => Nat.le_refl _⟩) .nil
      rw [← h.len]; simp
    · rename_i id ver len
      split at hc
      case h_2 => cases hc
      rename_i e' cs fz ho
      obtain ⟨hroom, hv⟩ := ite_some hc
      cases hv
      simp only [Bool.and_eq_true] at hroom
      obtain ⟨⟨⟨hroom, he'⟩, hcl⟩, hfz⟩ := hroom
      have he' := Nat.eq_of_beq_eq_true he'
      subst he'
      have hcl := Nat.eq_of_beq_eq_true hcl
      have hfz : fz ≤ cs.length := by simpa using hfz
      cases hx with
      | mref _ _ _ _ cap mi a q1 q2 q3 hsp q4 _ =>
      obtain ⟨mi', k1, k2, k3, ⟨rc, e2, fr, rs, o1, o2, o3, o4, o5, o6⟩, k5⟩ := h.obj id ver _ (obj_at ho)
      rw [q2] at k1; cases k1
      rcases q4 k2 with ⟨_, z1⟩ | ⟨z1, hcN⟩
      · exact absurd rfl z1
      subst z1
      have hcN := hcN rfl
      have hrl := o2.length
      have hone2 : ∀ v ∈ rs, v.oneCell' = true := fun v hv => by obtain ⟨j, hj⟩ := List.getElem?_of_mem hv; exact o6 j v hj
      have hnew : VRs m s.nv S (cs ++ ys) (rs ++ us) := o2.append u1
      have hone3 : ∀ (j : Nat) (v : Value), (rs ++ us)[j]? = some v → v.oneCell' = true := fun j v hj => by rcases List.mem_append.1 (List.mem_of_getElem? hj) with hv | hv; exact hone2 v hv; exact hone v hv
      have hb := h.lt q2
      by_cases hrm : len + cnt ≤ cap
      · -- there is room
        have hsz := o4 i hj
        have hbig : len * i.sz + us.length ≤ rc.size := by
          rw [hsz, u2, ← Nat.add_mul]
          exact Nat.mul_le_mul_right _ (Nat.le_trans hrm hcN)
        have hcell : ∀ j, j < us.length → (w.cell? ⟨mi.b, 0 + len * info.size + j, none⟩).isSome = true := by
          intro j hj
          have : len * i.sz + j < rc.size := by omega
          simp [World.cell?, o1, f2, this]
        have hfro : ∀ j, j < us.length → w.frozen? ⟨mi.b, 0 + len * info.size + j, none⟩ = false := by
          intro j hj
          have := o5 (len * i.sz + j) (by omega) (by omega)
          simp only [World.frozen?, o1, f2, Nat.zero_add]
          simp; omega
        have hap := run_append_room_src w t t1 ty e' info hun f1 mi.b 0 len cap ry cnt us hsrc hrm hcell hfro
        have hst1 := run_storeCells_cells (P := A.P) mi.b (len * i.sz) us 0 w (by simpa [f2] using hcell) (by simpa [f2] using hfro) hone
        have hst2 := run_storeCells_obj (P := A.P) mi.b (len * i.sz) e2 fr us 0 w rc o1 (by omega) (fun j hj => by rw [Nat.add_zero]; exact o5 (len * i.sz + j) (by omega) (by omega)) hone
        rw [hst1] at hst2
        have hweq := (Result.ok.inj hst2).2
        rw [Nat.add_zero] at hweq
        rw [f2, Nat.zero_add, hweq] at hap
        have hfold := foldl_set_list (len * i.sz) us 0 rc (by omega)
        simp only [Nat.add_zero] at hfold
        generalize hrc : (us.zipIdx.foldl (fun (cs : Array Value) (p : Value × Nat) => cs.setIfInBounds (len * i.sz + p.2) p.1) rc) = rc' at hap hfold
        obtain ⟨hsz', hget⟩ := overlay_get hbig hfold
        obtain ⟨n1, n2⟩ := h.growHere ho (.cells e' (cs ++ ys) fz) (.cells rc' e2 fr) q2 ⟨rc', e2, fr, rs ++ us, rfl, hnew, fun j v hj => by
            rw [hget, List.getElem?_append] at *
            rw [← hrl, hcl] at hj
            split at hj
            · rename_i hlt; rw [if_pos hlt]; exact o3 j v hj
            · rename_i hlt
              rw [if_neg hlt]
              have := (List.getElem?_eq_some_iff.1 hj).1
              rw [if_pos (by omega)]
              exact hj, fun i' hi' => by rw [hsz']; exact o4 i' hi', fun j hj1 hj2 => o5 j hj1 (by omega), hone3⟩
          (fun t' cs' fz' eq j hj => by cases eq; exact k5.sc _ _ _ rfl j hj)
          (fun j v hv' => by
            have hi : j < fz := by
              rcases Nat.lt_or_ge j fz with hlt | hge
              · exact hlt
              · rw [k5.sc _ _ _ rfl j hge] at hv'; cases hv'
            have := h.snap.sc _ _ _ hv'
            simp only [World.cell?, putObj_same hb]
            simp only [World.cell?, o1] at this
            simp only [Option.isSome_none, Bool.false_eq_true, if_false] at this ⊢
            rw [hget, if_pos (by omega)]
            exact this)
          (fun l hl' => by rw [o1] at hl'; cases hl')
        refine ⟨_, _, _, _, hap, ?_, n1, n2⟩
        refine .mref _ _ _ _ _ ⟨mi.b, s.nv, mi.N⟩ _ (Nat.lt_succ_self _) (by rw [List.getElem?_set_self (List.getElem?_eq_some_iff.1 q2).1]) hrm rfl (fun _ => .inr ⟨rfl, fun _ => hcN⟩) .nil
      · -- there is none
        obtain ⟨rest, r1, r2⟩ := grow (some ⟨mi.b, 0, none⟩) len cap cs rs o2 hone2 (by omega) (run_firstCells_some _ _ _ _ _ _ _ (by rw [f2]; omega) (fun j v hj => by
            rw [addr_add, Nat.zero_add]
            have := o3 j v hj
            show World.cell? w _ = _
            simp [World.cell?, o1, this])) (by omega) hroom
        obtain ⟨n1, n2⟩ := hd.growNew ho (.cells e' (cs ++ ys) fz) (.cells ((rs ++ us) ++ rest).toArray e') (grownCap w (len + cnt) cap e') q2
          ⟨((rs ++ us) ++ rest).toArray, ⟨e', rfl⟩, (0, 0), rs ++ us, rfl, hnew, fun j v hj => by simp only [List.getElem?_toArray]; rw [List.getElem?_append_left (List.getElem?_eq_some_iff.1 hj).1]; exact hj,
            fun i' hi' => by rw [hj] at hi'; cases hi'; (have := r1; simp only [List.length_append, List.size_toArray] at this ⊢; omega), fun j _ hj => by simp, hone3⟩
        refine ⟨_, _, _, _, r2, ?_, n1, sd.trans n2⟩
        refine .mref _ _ _ _ _ ⟨w.heap.size, s.nv, grownCap w (len + cnt) cap e'⟩ _ (Nat.lt_succ_self _) ?_ (grown_ge _ _ _ _) rfl (fun _ => .inr ⟨rfl, fun _ => Nat.le_refl _⟩) .nil
        rw [List.getElem?_set_self (List.getElem?_eq_some_iff.1 q2).1]; rfl
    · cases hc
end Go.Ideal
