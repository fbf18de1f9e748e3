/- Conversions; slice literals; all loud operations together. No condition. -/
import Derived.Test.YtgbdopegfcphfaaGreatLoudf
namespace Go.Ideal

theorem bytesOf_sim {m nv S} : ∀ {cs : List IVal} {us : List Value} {b : List UInt8}, bytesOf cs = some b → VRs m nv S cs us → ∃ ns : List Int, us = ns.map (Value.int .u8) ∧ ns.map (fun n => UInt8.ofNat n.toNat) = b
  | [], us, b, h, hv => by
    simp only [bytesOf, Option.some.injEq] at h
    subst h
    cases hv
    exact ⟨[], rfl, rfl⟩
  | c :: cs, us, b, h, hv => by
    obtain ⟨r, us', rfl, h1, h2⟩ := hv.cons_inv
    unfold bytesOf at h
    split at h
    · rename_i heq; cases heq
    · rename_i n xs heq
      cases heq
      split at h
      case h_2 => cases h
      rename_i l hl
      cases h
      have := int_inv h1
      subst this
      obtain ⟨ns, n1, n2⟩ := bytesOf_sim hl h2
      exact ⟨n :: ns, by simp [n1], by simp [n2]⟩
    · cases h

theorem foldl_push (ns : List Int) : ∀ (acc : List UInt8), ns.foldl (fun (r : ByteArray) n => r.push (UInt8.ofNat n.toNat)) ⟨acc.toArray⟩ = ⟨(acc ++ ns.map (fun n => UInt8.ofNat n.toNat)).toArray⟩ := by
  induction ns with
  | nil => intro acc; simp
  | cons n ns ih =>
    intro acc
    have := ih (acc ++ [UInt8.ofNat n.toNat])
    simp only [List.foldl_cons, List.map_cons]
    rw [show (ByteArray.push ⟨acc.toArray⟩ (UInt8.ofNat n.toNat)) = ⟨(acc ++ [UInt8.ofNat n.toNat]).toArray⟩ by simp [ByteArray.push], this]
    simp

theorem isBytes_inv {A : Par} (hA : Par.OK A) {t : TypeId} (h : isBytes A t = true) (w : World) : ∃ e, (underlying t).run A.P w = .ok (.slice e) w ∧ (underlying e).run A.P w = .ok (.int .u8) w := by
  unfold isBytes at h
  split at h
  case h_2 => cases h
  rename_i i hi
  split at h
  case h_2 => cases h
  rename_i e hu
  split at h
  case h_2 => cases h
  rename_i j hj
  split at h
  case h_2 => cases h
  rename_i hv
  have a := run_underlying_ti hA hi w
  have b := run_underlying_ti hA hj w
  rw [hu] at a
  rw [hv] at b
  exact ⟨e, a, b⟩

theorem toBytes_str {A} (hA : Par.OK A) {m S s w} (h : HR A m S s w) {src dst : TypeId} (hd : (underlying dst).run A.P w = .ok .string w) (hb : isBytes A src = true) {y : IVal} {ry : Value} {cs : List IVal} {b : List UInt8} (hs : srcCells s 1 y = some cs)
    (hc : bytesOf cs = some b) (hy : VR m s.nv S y ry) {a : Addr} {n c : Nat} (hr : ry = .slice (some a) n c) : (convert src dst ry).run A.P w = .ok (.string ⟨b.toArray⟩) w := by
  obtain ⟨e, e1, e2⟩ := isBytes_inv hA hb w
  obtain ⟨us, cnt, u1, u2, u3, u4⟩ := src_sim h hs hy
  subst hr
  have hcnt : n = cnt := by
    have := u3 w
    simp only [Builtin.lenOf, Sem.run_pure] at this
    cases this
    rfl
  subst hcnt
  obtain ⟨ns, n1, n2⟩ := bytesOf_sim hc u1
  have h4 := u4 n (Nat.le_refl _) w (.inl rfl)
  rw [List.take_of_length_le (by omega)] at h4
  simp only [Builtin.firstCells, Nat.mul_one, n1] at h4
  have hrun := run_bytesToString w a n c ns h4
  have := foldl_push ns []
  rw [n2] at this
  simp only [convert, Sem.run_bind, e1, hd, Result.andThen_ok, e2, hrun]
  congr 2

theorem push_modify (a : Array Obj) (o : Obj) (f : Obj → Obj) : (a.push o).modify a.size f = a.push (f o) := by
  apply Array.ext
  · simp
  · intro i h1 h2
    simp only [Array.getElem_modify, Array.getElem_push]
    grind

theorem strToBytes {A} {m S s w} (h : HR A m S s w) {e : TypeId} {j : TI} (hj : A.ti e = some j) (hsz : j.sz = 1) (b : List UInt8) :
    ValOK A m S s w (.mref s.H.length s.nv 0 b.length) (s.new (.cells e (bytesD b) 0)) ((Conv.stringToBytes e ⟨b.toArray⟩).run A.P w) := by
  have hs : (ByteArray.mk b.toArray).size = b.length := by simp [ByteArray.size]
  generalize hcap : (Question.appendCap b.length 0 e).cut (w.tape w.drawn (.appendCap b.length 0 e)) = cap
  have hge : b.length ≤ cap := by rw [← hcap]; simp [Question.cut]
  have hd := h.drew
  have hone : ∀ v ∈ (b.map fun c => Value.int .u8 c.toNat), v.oneCell' = true := by
    intro v hv
    obtain ⟨c, _, rfl⟩ := List.mem_map.1 hv
    rfl
  obtain ⟨n1, n2⟩ := cells_new hd j hj (List.replicate (cap - b.length) (.int .u8 0)) (bytesD_sim b) hone cap (by simp [hsz]; omega) (cap, cap + 1) (by simp [hsz])
  refine ⟨.slice (some ⟨w.heap.size, 0, none⟩) b.length cap, _, _, _, ?_, .mref _ _ _ _ _ ⟨w.heap.size, s.nv, cap⟩ _ (Nat.lt_succ_self _) (by rw [← h.len]; simp) hge rfl (fun _ => .inr ⟨rfl, fun _ => Nat.le_refl _⟩) .nil, n1, (Step.drew m s.nv S w).trans n2⟩
  have hch : (choose (.appendCap b.length 0 e)).run A.P w = .ok cap w.drew := by rw [run_choose_drew]; simp [Question.forced, hcap]
  have harr : (b.toArray.map fun (c : UInt8) => Value.int .u8 c.toNat) ++ Array.replicate (cap - b.length) (Value.int .u8 0) = ((b.map fun (c : UInt8) => Value.int .u8 c.toNat) ++ List.replicate (cap - b.length) (Value.int .u8 0)).toArray := by
    apply Array.ext'; simp
  simp only [Conv.stringToBytes, hs, Sem.run_bind, hch, Result.andThen_ok, newRow, harr, run_newObj_alloc, Sem.run_pure, markStringish, run_shape]
  have hsh : ∀ o, (w.drew.alloc o).heap[w.drew.heap.size]? = some o := fun o => alloc_new _ _
  simp only [World.shape?, hsh, run_freeze, Sem.run_bind, Result.andThen_ok, Sem.run_pure]
  have hlen : ((b.map fun (c : UInt8) => Value.int .u8 c.toNat) ++ List.replicate (cap - b.length) (Value.int .u8 0)).toArray.size = cap := by simp; omega
  rw [hlen]
  congr 1
  simp only [World.freeze, World.alloc, Nat.succ_ne_zero, if_false, Nat.one_ne_zero]
  rw [push_modify]
  simp

theorem conv_sim {A} (hA : Par.OK A) {m S s w} (h : HR A m S s w) {src dst : TypeId} {x v : IVal} {rx : Value} {s' : ISt} (hc : convI A s src dst x = some (v, s')) (hx : VR m s.nv S x rx) :
    ValOK A m S s w v s' ((convert src dst rx).run A.P w) := by
  unfold convI at hc
  split at hc
  case h_1 => cases hc
  rename_i i hi
  have hd := run_underlying_ti hA hi w
  have hsrc : (A.ti src).isSome = true → ∃ d, (underlying src).run A.P w = .ok d w := by
    intro hs
    obtain ⟨j, hj⟩ := Option.isSome_iff_exists.1 hs
    exact ⟨_, run_underlying_ti hA hj w⟩
  split at hc
  · rename_i k k' n hund
    rw [hund] at hd
    obtain ⟨h1, h2⟩ := ite_some hc
    cases h2
    have := int_inv hx
    subst this
    obtain ⟨d, hs⟩ := hsrc h1
    rw [wrapI_eq]
    exact ValOK.same h (r := .int k (k.wrap n)) (by simp [convert, hs, hd, Conv.intToInt]) (vi _ _)
  · rename_i b hund
    rw [hund] at hd
    obtain ⟨h1, h2⟩ := ite_some hc
    cases h2
    have := str_inv hx
    subst this
    obtain ⟨d, hs⟩ := hsrc h1
    exact ValOK.same h (by simp [convert, hs, hd]) hx
  · rename_i hund
    rw [hund] at hd
    obtain ⟨h1, h2⟩ := ite_some hc
    cases h2
    have := nils_inv hx
    subst this
    obtain ⟨e, e1, e2⟩ := isBytes_inv hA h1 w
    exact ValOK.same h (r := .string .empty) (by simp [convert, e1, hd, e2, Conv.bytesToString]) (.dat _ _ (.str [] .nil) .nil)
  · rename_i f k xs hund
    rw [hund] at hd
    split at hc
    case h_2 => cases hc
    rename_i cs hcs
    split at hc
    case h_2 => cases hc
    rename_i b hb
    obtain ⟨h1, h2⟩ := ite_some hc
    cases h2
    obtain ⟨a, c, hr⟩ := slc_inv hx
    exact ValOK.same h (toBytes_str hA h hd h1 hcs hb hx hr) (vs' b)
  · rename_i id ver off len hund
    rw [hund] at hd
    split at hc
    case h_2 => cases hc
    rename_i cs hcs
    split at hc
    case h_2 => cases hc
    rename_i b hb
    obtain ⟨h1, h2⟩ := ite_some hc
    cases h2
    obtain ⟨a, c, hr⟩ := mref_inv hx
    exact ValOK.same h (toBytes_str hA h hd h1 hcs hb hx hr) (vs' b)
  · rename_i e b hund
    rw [hund] at hd
    split at hc
    case h_2 => cases hc
    rename_i j hj
    split at hc
    case h_2 => cases hc
    rename_i hju
    obtain ⟨h1, h2⟩ := ite_some hc
    cases h2
    simp only [Bool.and_eq_true] at h1
    have := str_inv hx
    subst this
    obtain ⟨d, hs⟩ := hsrc h1.2
    have he := run_underlying_ti hA hj w
    rw [hju] at he
    obtain ⟨r, w', m', S', a1, a2, a3, a4⟩ := strToBytes h hj (Nat.eq_of_beq_eq_true h1.1.2) b
    exact ⟨r, w', m', S', by simp [convert, hs, hd, he, a1], a2, a3, a4⟩
  · cases hc

/-- A ROW THAT IS FROZEN FROM THE START. -/
theorem HR.newFroz {A m S s w} (h : HR A m S s w) (e : TypeId) (rs : List Value) :
    HR A m (S.froz w.heap.size 0 rs.length rs) s (w.alloc (.cells rs.toArray e)) ∧ Step m s.nv S w m s.nv (S.froz w.heap.size 0 rs.length rs) (w.alloc (.cells rs.toArray e)) := by
  obtain ⟨n1, n2, n3⟩ := h.snap.none_new
  have gsc : ∀ b i v, S.sc b i = some v → (S.froz w.heap.size 0 rs.length rs).sc b i = some v := by
    intro b i v e
    simp only [Snap.froz]
    split
    · rename_i hc
      obtain ⟨rfl, _, _⟩ := hc
      rw [n3] at e; cases e
    · exact e
  have g : Grows m s.nv S m s.nv (S.froz w.heap.size 0 rs.length rs) := ⟨Nat.le_refl _, gsc, rfl, rfl, fun id mi h => ⟨mi, h, .inl rfl⟩⟩
  have sa := h.snap.alloc (.cells rs.toArray e)
  refine ⟨⟨h.len, fun id ver o e' => ?_, h.inj, ⟨fun b i v e' => ?_, sa.sb, sa.sm⟩⟩, g,
    ⟨by simp, fun b hb _ => alloc_lt w _ hb, fun b l hl => ⟨l, by rw [alloc_lt w _ (heap_lt hl)]; exact hl⟩, rfl, rfl, rfl⟩, fun id mi e => .inl ⟨id, mi, e, rfl⟩, fun b i hb _ => ?_⟩
  · obtain ⟨mi, h1, h2, h3, h4, h5⟩ := h.obj id ver o e'
    refine ⟨mi, h1, h2, h3, by rw [alloc_lt w _ (h.lt h1)]; exact h4.mono g, ⟨h5.sb, h5.sm, fun t cs fz eq j hj => ?_⟩⟩
    have := h.lt h1
    simp only [Snap.froz]
    rw [if_neg (by omega)]
    exact h5.sc t cs fz eq j hj
  · simp only [Snap.froz] at e'
    split at e'
    · rename_i hc
      obtain ⟨rfl, _, _⟩ := hc
      simp only [World.cell?, alloc_new]
      simpa using e'
    · exact sa.sc b i v e'
  · simp only [Snap.froz]
    rw [if_neg (by omega)]

theorem buildSlice_sim {A} (hA : Par.OK A) {m S s w} (h : HR A m S s w) {t : TypeId} {len : Nat} {ps : List (Nat × IVal)} {pr : List (Nat × Value)} {v : IVal} {s' : ISt} (hb : buildSliceI A t len ps s = some (v, s')) (hp : PartsR m s.nv S ps pr) :
    ValOK A m S s w v s' ((Instr.buildSlice t len pr.toArray).run A.P w) := by
  unfold buildSliceI at hb
  split at hb
  case h_2 => cases hb
  rename_i e i he
  obtain ⟨it, hit, hu, hj⟩ := elemT_inv he
  have hun := run_underlying_ti hA hit w
  rw [hu] at hun
  split at hb
  case h_2 => cases hb
  rename_i z hz
  split at hb
  case h_2 => cases hb
  rename_i cs hc hput
  split at hb
  case h_2 => cases hb
  rename_i ds s1 hds
  split at hb
  case h_2 => cases hb
  rename_i xs hxs
  cases hb
  simp only [Bool.and_eq_true, Nat.ble_eq] at hc
  have hpos : 0 < i.sz := by simpa using hc.1
  obtain ⟨zr, z1, z2, z3, z4, z5⟩ := run_zeroValue_ti hA hj w hz
  have hz0 : VRs m s.nv S (List.replicate len (z.cells.map IVal.dat)).flatten (List.replicate len zr.cells.toList).flatten := (VRs.of_dat (z4.up S.sc)).replicate_flatten len
  obtain ⟨rs, r1, r2⟩ := fill_sim (plr := fun k => some (k * i.sz, i.sz)) (fun k p hk => hk) hput hp hz0
  obtain ⟨S1, a1, a2, a3, a4⟩ := mapLeaf_sim h hds r2
  obtain ⟨b1, b2⟩ := a1.newFroz e rs
  rw [a2] at b2
  obtain ⟨c1, c2, c3, c4⟩ := chunkD_sim hxs (a4.mono b2.g.sc)
  have hrl : rs.length = len * i.sz := by
    have e1 := r2.length
    have e2 : cs.length = (List.replicate len (z.cells.map IVal.dat)).flatten.length := by
      have : ∀ (ps : List (Nat × IVal)) (c c' : List IVal), putParts (fun k => some (k * i.sz, i.sz)) c ps = some c' → c'.length = c.length := by
        intro ps
        induction ps with
        | nil => intro c c' hh; simp only [putParts, Option.some.injEq] at hh; rw [hh]
        | cons p ps ih =>
          intro c c' hh
          obtain ⟨k, v⟩ := p
          simp only [putParts] at hh
          split at hh
          · rename_i c1 _ hpa
            obtain ⟨p1, p2⟩ := putAt_eq hpa
            rw [ih _ _ hh, p1]
            simp; omega
          · cases hh
      exact this _ _ _ hput
    rw [← e1, e2, hz0.length]
    simp [z3]
  rw [List.take_of_length_le (by omega)] at c3
  refine ⟨.slice (some ⟨w.heap.size, 0, none⟩) len len, _, m, _, ?_, ?_, b1, by rw [a2]; exact a3.trans b2⟩
  · have hrow : ((Array.range (len * i.sz)).map fun k => zr.cells[k % zr.cells.size]!) = (List.replicate len zr.cells.toList).flatten.toArray := by
      apply Array.ext'
      have := rows_list zr.cells len
      rw [z3] at this
      rw [z3, this]
    have hbig : ¬ (len * i.sz > 2 ^ 24) := by have := hc.2; omega
    simp only [Instr.buildSlice, Sem.run_bind, hun, Result.andThen_ok, run_sizeOf_ti hA hj, hbig, if_false]
    by_cases h0 : len * i.sz = 0
    · have h00 : len = 0 := by
        rcases Nat.mul_eq_zero.1 h0 with h1 | h1
        · exact h1
        · omega
      subst h00
      simp only [List.replicate_zero, List.flatten_nil] at r1
      have hr : ∀ f : Nat → Value, (Array.range 0).map f = #[] := fun f => Array.eq_empty_of_size_eq_zero (by simp)
      simp [h0, hr, r1, newRow]
    · simp [h0, z1, hrow, r1, newRow]
  · subst c1
    exact .dat _ _ (.slc true i.sz xs w.heap.size 0 xs.length rs c2 (Nat.le_refl _) (fun _ => rfl) c3 (fun j v hj => by
      have hlt := (List.getElem?_eq_some_iff.1 hj).1
      simp only [Snap.froz, Nat.zero_add]
      rw [if_pos ⟨trivial, by omega, hlt⟩]
      exact hj) .nil) .nil

theorem opt_val {α : Type} {x y : α} (h : some x = some y) : x = y := Option.some.inj h

theorem loud_sim {A} (hA : Par.OK A) {m S s w} (h : HR A m S s w) {ρ : Operand → Option IVal} {ρr : Operand → Value} (hρ : RhoR m s.nv S ρ ρr) {o : Oper} {v : IVal} {s' : ISt} (hv : loudI A ρ o s = some (v, s')) :
    LoudOK A m S s w v s' ((execOp ρr o).run A.P w) := by
  have val : ∀ {q : Sem Value}, ValOK A m S s w v s' (q.run A.P w) → (execOp ρr o = do pure (.value (← q))) → LoudOK A m S s w v s' ((execOp ρr o).run A.P w) := by
    intro q hq he
    obtain ⟨r, w', m', S', a1, a2, a3, a4⟩ := hq
    exact ⟨.value r, w', m', S', by rw [he]; simp [a1], .inl ⟨r, rfl, a2⟩, a3, a4⟩
  have unit : ∀ {q : Sem Unit}, UnitOK A m S s w s' (q.run A.P w) → v = iundef → (execOp ρr o = do q; pure .skip) → LoudOK A m S s w v s' ((execOp ρr o).run A.P w) := by
    intro q hq hu he
    obtain ⟨w', m', S', a1, a3, a4⟩ := hq
    exact ⟨.skip, w', m', S', by rw [he]; simp [a1], .inr ⟨rfl, hu⟩, a3, a4⟩
  unfold loudI at hv
  split at hv
  · rename_i t e
    split at hv
    case h_2 => cases hv
    rename_i i hi
    split at hv
    case h_2 => cases hv
    rename_i z hz
    cases hv
    exact val (alloc_sim hA h hi hz) (by simp only [execOp, e])
  · rename_i t x e
    split at hv
    case h_2 => cases hv
    rename_i vx i hx hi
    simp only at hv
    obtain ⟨hc, hv⟩ := ite_some hv
    cases hv
    simp only [Bool.and_eq_true] at hc
    exact val (box_sim h hi (hρ _ _ hx) hc.1 (Nat.eq_of_beq_eq_true hc.2)) (by simp only [execOp, e])
  · rename_i t len parts e
    split at hv
    case h_2 => cases hv
    rename_i ps hps
    have hp := evalParts_sim hρ hps
    have := buildSlice_sim hA h hv hp
    have e1 : (parts.toList.map fun (i, x) => (i, ρr x)).toArray = parts.map fun (i, x) => (i, ρr x) := by apply Array.ext'; simp
    rw [e1] at this
    exact val this (by simp only [execOp, e])
  · rename_i t a x e
    split at hv
    case h_2 => cases hv
    rename_i p vx hp hx
    split at hv
    case h_2 => cases hv
    rename_i s1 hs
    cases hv
    exact unit (store_sim hA h hs (hρ _ _ hp) (hρ _ _ hx)) rfl (by simp only [execOp, e])
  · rename_i src dst x e
    split at hv
    case h_2 => cases hv
    rename_i vx hx
    exact val (conv_sim hA h hv (hρ _ _ hx)) (by simp only [execOp, e])
  · rename_i t e
    cases hv
    exact val (makeMap_sim h t) (by simp only [execOp, e]; rfl)
  · rename_i t r e
    split at hv
    case h_2 => cases hv
    rename_i kt i hkt hi
    cases hv
    obtain ⟨kt, et⟩ := kt
    obtain ⟨n, hn⟩ : ∃ k, ρr r = .int k i := by
      cases hr : ρ r with
      | none => rw [hr] at hi; cases hi
      | some u =>
        rw [hr] at hi
        simp only [Option.bind_some] at hi
        unfold asI at hi
        split at hi
        · cases hi
          exact ⟨_, int_inv (hρ _ _ hr)⟩
        · cases hi
    obtain ⟨r', w', m', S', a1, a2⟩ := makeMap_sim h t
    refine val (q := Instr.makeMap t (some (ρr r))) ⟨r', w', m', S', ?_, a2⟩ (by simp only [execOp, e]; rfl)
    rw [← a1]
    simp [Instr.makeMap, mapKT_run hA hkt w, hn, asInt, asIntOf]
  · rename_i t l c e
    split at hv
    case h_2 => cases hv
    rename_i e' i n mm he hl hc
    split at hv
    case h_2 => cases hv
    rename_i z hz
    obtain ⟨hh, hv⟩ := ite_some hv
    cases hv
    simp only [Bool.and_eq_true] at hh
    have := Nat.eq_of_beq_eq_true hh.1
    subst this
    obtain ⟨k1, e1⟩ := idx_inv hρ hl
    obtain ⟨k2, e2⟩ := idx_inv hρ hc
    refine val (q := Instr.makeSlice t (ρr l) (ρr c)) ?_ (by simp only [execOp, e])
    rw [e1, e2]
    exact makeSlice_sim hA h he hz hh.2 k1 k2
  · rename_i t mo k x e
    split at hv
    case h_2 => cases hv
    rename_i mv kv vx hm hk hx
    split at hv
    case h_2 => cases hv
    rename_i s1 hs
    cases hv
    exact unit (put_sim hA h hs (hρ _ _ hm) (hρ _ _ hk) (hρ _ _ hx)) rfl (by simp only [execOp, e])
  · rename_i t mo k x e
    split at hv
    case h_2 => cases hv
    rename_i mv kv vx hm hk hx
    split at hv
    case h_2 => cases hv
    rename_i s1 hs
    cases hv
    exact unit (put_sim hA h hs (hρ _ _ hm) (hρ _ _ hk) (hρ _ _ hx)) rfl (by simp only [execOp, e])
  · rename_i t x e
    split at hv
    · rename_i kt hkt hx
      cases hv
      obtain ⟨kt, et⟩ := kt
      exact val (range_nil hA h hkt (hρ _ _ hx)) (by simp only [execOp, e])
    · rename_i kt vx _ hkt hx
      split at hv
      case h_2 => cases hv
      rename_i ks vs clock he
      cases hv
      obtain ⟨kt, et⟩ := kt
      exact val (range_map hA h hkt he (hρ _ _ hx)) (by simp only [execOp, e])
    · cases hv
  · rename_i b args ts e
    split at hv
    case h_2 => cases hv
    rename_i vs hvs
    obtain ⟨r, w', m', S', a1, a2, a3, a4⟩ := builtin_sim hA h hv (mapO_sim hρ hvs) o.type (args.map fun | .const _ => true | _ => false)
    have e1 : (args.toList.map ρr).toArray = args.map ρr := by apply Array.ext'; simp
    rw [e1] at a1
    refine ⟨.value r, w', m', S', ?_, .inl ⟨r, rfl, a2⟩, a3, a4⟩
    simp only [execOp, e, resolve, Sem.run_bind, Sem.run_pure, Result.andThen_ok, invoke]
    exact a1
  · rename_i t mo k e
    split at hv
    case h_2 => cases hv
    rename_i mv kv hm hk
    exact val (ent_sim hA h hv (hρ _ _ hm) (hρ _ _ hk)) (by simp only [execOp, e])
  · rename_i t mo g x e
    split at hv
    case h_2 => cases hv
    rename_i mv b vx hm hg hx
    split at hv
    case h_2 => cases hv
    rename_i s1 hs
    cases hv
    obtain ⟨k1, e1⟩ := idx_inv hρ hg
    exact unit (q := Instr.entryStore t (ρr mo) (ρr g) (ρr x)) (by rw [e1]; exact entPut_sim h t k1 hs (hρ _ _ hm) (hρ _ _ hx)) rfl (by simp only [execOp, e])
  · cases hv
end Go.Ideal
