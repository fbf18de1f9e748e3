/- What the interpreter is told of strings.Builder, maps.Clone is so. No condition. -/
import Derived.Test.YtgbdopegfcphfaaGreatNatv
import Derived.Test.YtgbdopegfcphfaaGreatNatw
import Derived.Test.YtgbdopegfcphfaaGreatParokb
namespace Go.Ideal
open Go Go.Proofs Go.RowKit

theorem fw_wide : FW none = Fence.wide := rfl
theorem realFn_calls {P : Program} {f : FuncId} {fn : Func} {args : Array Value} {w : World} {R : Ending → World → Prop} (hf : P.funcs[f]? = some fn) (hb : fn.body.isSome = true) (hn : (fn.name == "runtime.NumGoroutine") = false) (h : Calls P f args w R) : RealFn P f args w R :=
  .fn fn hf hb hn (by rw [fw_wide]; exact callsIn_wide.2 h)

theorem modify_set {a : Array Obj} {b : Nat} {x y : Obj} {f : Obj → Obj} (h : a[b]? = some x) (hf : f x = y) : a.modify b f = a.setIfInBounds b y := by
  apply Array.ext_getElem?
  intro i
  rw [Array.getElem?_modify, Array.getElem?_setIfInBounds]
  by_cases hi : b = i
  · subst hi
    have hlt := (Array.getElem?_eq_some_iff.1 h).1
    have e : a[b] = x := by rw [Array.getElem?_eq_getElem hlt] at h; exact Option.some.inj h
    simp [hlt, e, hf]
  · simp [hi]

theorem setCell_putObj {w : World} {b off : Nat} {rc : Array Value} {e : TypeId} {fr : Nat × Nat} (h : w.heap[b]? = some (.cells rc e fr)) (v : Value) : w.setCell ⟨b, off, none⟩ v = putObj w b (.cells (rc.setIfInBounds off v) e fr) := by
  simp only [World.setCell, putObj]
  rw [modify_set h]
  rfl

theorem ti305 : Tz.tiT.get 305 = some Tz.i305 := by kernel_rfl
theorem ti5 : Tz.tiT.get 5 = some Tz.i5 := by kernel_rfl

/-- one cell of an object is written. -/
theorem cell_set {A m S s w} (h : HR A m S s w) {id ver : Nat} {t : TypeId} {cs : List IVal} {mi : MI} (ho : s.obj id ver = some (.cells t cs 0)) (hm : m[id]? = some mi) {off : Nat} (hoff : off < cs.length) {v : IVal} {r : Value} (hv : VR m s.nv S v r) (h1 : r.oneCell' = true) :
    HR A m S (s.setObj id ver (.cells t (cs.set off v) 0)) (w.setCell ⟨mi.b, off, none⟩ r) ∧ Step m s.nv S w m s.nv S (w.setCell ⟨mi.b, off, none⟩ r) := by
  obtain ⟨mi', k1, k2, k3, ⟨rc, e, fr, rs, o1, o2, o3, o4, o5, o6⟩, k5⟩ := h.obj id ver _ (obj_at ho)
  rw [hm] at k1; cases k1
  have hlen := o2.length
  have hoffr : off < rs.length := by omega
  have hoffc : off < rc.size := by
    have := o3 off rs[off] (List.getElem?_eq_getElem hoffr)
    exact (Array.getElem?_eq_some_iff.1 this).1
  rw [setCell_putObj o1]
  refine h.set ho _ _ hm ⟨rc.setIfInBounds off r, e, fr, rs.set off r, rfl, o2.set off hv, fun j x hj => ?_, fun i hi => by simpa using o4 i hi, fun j hj hj2 => o5 j hj (by simpa using hj2), fun j x hj => ?_⟩ (fun t' cs' fz' eq j hj => by cases eq; exact k5.sc _ _ _ rfl j hj) (fun i x hx => ?_) (fun l hl => by rw [o1] at hl; cases hl)
  · rw [List.getElem?_set] at hj
    rw [Array.getElem?_setIfInBounds]
    by_cases e1 : off = j
    · subst e1
      simp only [if_true, hoffr] at hj
      simp [hoffc, Option.some.inj hj]
    · rw [if_neg e1] at hj ⊢
      exact o3 j x hj
  · rw [List.getElem?_set] at hj
    by_cases e1 : off = j
    · subst e1
      simp only [if_true, hoffr] at hj
      cases hj
      exact h1
    · rw [if_neg e1] at hj
      exact o6 j x hj
  · exact absurd hx (by rw [k5.sc _ _ _ rfl i (Nat.zero_le _)]; simp)

/-- what lies in the first cells. -/
theorem cells_at {A m S s w} (h : HR A m S s w) {id ver : Nat} {t : TypeId} {cs : List IVal} {fz : Nat} {mi : MI} (ho : s.obj id ver = some (.cells t cs fz)) (hm : m[id]? = some mi) :
    ∃ (rc : Array Value) (fr : Nat × Nat) (rs : List Value), w.heap[mi.b]? = some (.cells rc t fr) ∧ VRs m s.nv S cs rs ∧ (∀ (j : Nat) (v : Value), rs[j]? = some v → w.cell? ⟨mi.b, j, none⟩ = some v) ∧ (∀ i, A.ti t = some i → rc.size = mi.N * i.sz) ∧ cs.length ≤ rc.size ∧
      (∀ j, fz ≤ j → w.frozen? ⟨mi.b, j, none⟩ = false ∨ rc.size ≤ j) := by
  obtain ⟨mi', k1, k2, k3, ⟨rc, ⟨e, he⟩, fr, rs, o1, o2, o3, o4, o5, o6⟩, k5⟩ := h.obj id ver _ (obj_at ho)
  subst he
  rw [hm] at k1; cases k1
  refine ⟨rc, fr, rs, o1, o2, fun j v hj => by simp [World.cell?, o1, o3 j v hj], o4, ?_, fun j hj => ?_⟩
  · have hlen := o2.length
    rcases Nat.eq_zero_or_pos rs.length with h0 | h0
    · omega
    · have hlt : rs.length - 1 < rs.length := by omega
      have := o3 (rs.length - 1) rs[rs.length - 1] (List.getElem?_eq_getElem hlt)
      have := (Array.getElem?_eq_some_iff.1 this).1
      omega
  · rcases Nat.lt_or_ge j rc.size with hlt | hge
    · left
      have := o5 j hj hlt
      simp only [World.frozen?, o1]
      rw [Bool.eq_false_iff]
      intro hh
      simp only [Bool.and_eq_true, decide_eq_true_eq] at hh
      exact this hh
    · exact .inr hge

theorem natCheck_ok (pm ovr con) : OvrAt (base pm ovr con) 300 natCheck := by
  intro args s Q hx m S w rs h hv
  unfold natCheck at hx
  split at hx
  case h_2 => exact hx.elim
  rename_i id ver
  obtain ⟨rp, _, rfl, v1, hv⟩ := hv.cons_inv
  cases hv.nil_inv
  split at hx
  case h_2 => exact hx.elim
  rename_i a b ho
  obtain ⟨mi, k1, k2, rfl, kO, k5⟩ := ptr_at h ho v1
  obtain ⟨rc, fr, rs, o1, o2, o3, o4, o5, o6⟩ := cells_at h ho k1
  obtain ⟨ra, rs', rfl, a1, o2'⟩ := o2.cons_inv
  have hsz : rc.size = mi.N * 2 := o4 Tz.i305 ti305
  have hN : 1 ≤ mi.N := by simp only [List.length_cons, List.length_nil] at o5; omega
  have hunit : ∀ nv S, VR m nv S (.tuple []) (.tuple #[]) := fun nv S => .tuple [] [] .nil .nil
  refine realFn_calls Tryz.func300 rfl (by kernel_rfl) ?_
  split at hx
  · have := nilp_inv a1
    subst this
    refine (walkCheck_fresh mi.b mi.N hN w (o3 0 _ rfl) (by simp [World.shape?, o1, hsz]) ((o6 0 (Nat.zero_le _)).resolve_right (by omega))).mono ?_
    rintro e w' ⟨rfl, rfl⟩
    have hp : VR m s.nv S (.ptr id ver 0) (.pointer (some ⟨mi.b, 0, none⟩)) := v1
    obtain ⟨n1, n2⟩ := cell_set h ho k1 (off := 0) (by simp) hp rfl
    exact ⟨_, _, _, m, S, rfl, hx, hunit _ _, n1, n2⟩
  · rename_i id' ver'
    split at hx
    case h_2 => exact hx.elim
    rename_i hb
    rw [Bool.and_eq_true] at hb
    have e1 : id = id' := Nat.eq_of_beq_eq_true hb.1
    have e2 : ver = ver' := Nat.eq_of_beq_eq_true hb.2
    subst e1; subst e2
    obtain ⟨mi2, q1, q2, rfl, _⟩ := ptr_at h ho a1
    rw [k1] at q1; cases q1
    refine (walkCheck_used mi.b w (o3 0 _ rfl)).mono ?_
    rintro e w' ⟨rfl, rfl⟩
    exact ⟨_, _, _, m, S, rfl, hx, hunit _ _, h, .refl ..⟩
  · exact hx.elim

theorem bytesN_sim {m nv S} : ∀ {cs : List IVal} {us : List Value} {b : List UInt8}, bytesN cs = some b → VRs m nv S cs us → us = b.map fun x => Value.int .u8 x.toNat
  | [], us, b, h, hv => by
    simp only [bytesN, Option.some.injEq] at h
    subst h
    cases hv
    rfl
  | c :: cs, us, b, h, hv => by
    obtain ⟨r, us', rfl, h1, h2⟩ := hv.cons_inv
    unfold bytesN at h
    split at h
    · rename_i heq; cases heq
    · rename_i k xs heq
      cases heq
      split at h
      case h_2 => cases h
      rename_i hk
      split at h
      case h_2 => cases h
      rename_i l hl
      cases h
      have := int_inv h1
      subst this
      have hk : k < 256 := by simpa using hk
      rw [bytesN_sim hl h2]
      have e : (UInt8.ofNat k).toNat = k := by simp [Nat.mod_eq_of_lt hk]
      simp [e]
    · cases h

theorem natString_ok (pm ovr con) : OvrAt (base pm ovr con) 234 natString := by
  intro args s Q hx m S w rs h hv
  unfold natString at hx
  split at hx
  case h_2 => exact hx.elim
  rename_i id ver
  obtain ⟨rp, _, rfl, v1, hv⟩ := hv.cons_inv
  cases hv.nil_inv
  split at hx
  case h_2 => exact hx.elim
  rename_i t a b fz ho
  obtain ⟨mi, k1, k2, rfl, kO, k5⟩ := ptr_at h ho v1
  obtain ⟨rc, fr, rs, o1, o2, o3, o4, o5, o6⟩ := cells_at h ho k1
  obtain ⟨ra, rs', rfl, a1, o2'⟩ := o2.cons_inv
  obtain ⟨rb, rs', rfl, b1, o2'⟩ := o2'.cons_inv
  refine realFn_calls Tryz.func234 rfl (by kernel_rfl) ?_
  split at hx
  · have := nils_inv b1
    subst this
    refine (walkString_nil mi.b w (o3 1 _ rfl)).mono ?_
    rintro e w' ⟨rfl, rfl⟩
    exact ⟨_, _, _, m, S, rfl, hx, vs' [], h.drew, .drew ..⟩
  · rename_i i v len
    split at hx
    case h_2 => exact hx.elim
    rename_i cs fz2 ho2
    split at hx
    · exact hx.elim
    rename_i k
    split at hx
    case h_2 => exact hx.elim
    rename_i ys hys
    split at hx
    case h_2 => exact hx.elim
    rename_i l hl
    split at hx
    case h_2 => exact hx.elim
    rename_i h63
    rw [forceS_eq] at hx
    cases b1 with
    | mref _ _ _ _ cap mj ad q1 q2 q3 hsp q4 _ =>
    obtain ⟨mj', j1, j2, j3, _, j5⟩ := h.obj i v _ (obj_at ho2)
    rw [q2] at j1; cases j1
    rcases q4 j2 with ⟨z, _⟩ | ⟨rfl, _⟩
    · cases z
    obtain ⟨rc2, fr2, rs2, p1, p2, p3, p4, p5, p6⟩ := cells_at h ho2 q2
    obtain ⟨t1, t2⟩ := takeN_eq hys
    have hvs := bytesN_sim hl (by rw [t1]; exact p2.take (Nat.succ k))
    have hll : l.length = k + 1 := by
      have := congrArg List.length hvs
      have l2 := p2.length
      simp only [List.length_take, List.length_map] at this
      omega
    have hcells : ∀ j x, l[j]? = some x → w.cell? ⟨mj.b, j, none⟩ = some (.int .u8 x.toNat) := by
      intro j x hj
      apply p3
      have : (rs2.take (Nat.succ k))[j]? = some (.int .u8 x.toNat) := by rw [hvs]; simp [hj]
      rw [List.getElem?_take] at this
      split at this
      · exact this
      · cases this
    have hlen0 : l ≠ [] := by intro e; rw [e] at hll; cases hll
    have h63 := Nat.le_of_ble_eq_true h63
    refine (walkString_row mi.b mj.b cap rc2.size l w hlen0 (by omega) (by omega) (by omega) (by rw [hll]; exact o3 1 _ rfl) (by simp [World.shape?, p1]) hcells).mono ?_
    rintro e w' ⟨rfl, rfl⟩
    have hfr : w.drew.freeze ⟨mj.b, 0, none⟩ l.length = putObj w.drew mj.b (.cells rc2 5 (if fr2.1 == fr2.2 then (0, 0 + l.length) else (min fr2.1 0, max fr2.2 (0 + l.length)))) := by
      have p1' : w.drew.heap[mj.b]? = some (.cells rc2 5 fr2) := p1
      have hlt := heap_lt p1'
      simp only [World.freeze, hll, Nat.succ_ne_zero, if_false, putObj]
      rw [modify_set p1']
      rfl
    have p1' : w.drew.heap[mj.b]? = some (.cells rc2 5 fr2) := p1
    obtain ⟨n1, n2⟩ := h.drew.set ho2 .dead (.cells rc2 5 (if fr2.1 == fr2.2 then (0, 0 + l.length) else (min fr2.1 0, max fr2.2 (0 + l.length)))) q2 ⟨_, rfl⟩ (fun _ _ _ e => by cases e)
      (fun i v hv => by
        have := h.drew.snap.sc _ _ _ hv
        simp only [World.cell?, p1'] at this
        simp only [World.cell?, putObj_same (heap_lt p1')]
        exact this)
      (fun l hl => by rw [p1'] at hl; cases hl)
    refine ⟨_, _, _, m, S, rfl, hx, vs' l, ?_, ?_⟩
    · rw [hfr]; exact n1
    · rw [hfr]; exact (Step.drew m s.nv S w).trans n2
  · exact hx.elim

theorem ist_ext {H H' : List (Nat × IObj)} {n n' : Nat} (h1 : H = H') (h2 : n = n') : (⟨H, n⟩ : ISt) = ⟨H', n'⟩ := by subst h1; subst h2; rfl

theorem natGrow_ok (pm ovr con) : OvrAt (base pm ovr con) 301 natGrow := by
  intro args s Q hx m S w rs h hv
  unfold natGrow at hx
  split at hx
  case h_2 => exact hx.elim
  rename_i id ver n
  obtain ⟨rp, _, rfl, v1, hv⟩ := hv.cons_inv
  obtain ⟨rn, _, rfl, v2, hv⟩ := hv.cons_inv
  cases hv.nil_inv
  cases int_inv v2
  split at hx
  case h_2 => exact hx.elim
  rename_i a ho
  obtain ⟨mi, k1, k2, rfl, kO, k5⟩ := ptr_at h ho v1
  obtain ⟨rc, fr, rs, o1, o2, o3, o4, o5, o6⟩ := cells_at h ho k1
  obtain ⟨ra, rs', rfl, a1, o2'⟩ := o2.cons_inv
  obtain ⟨rb, rs', rfl, b1, o2'⟩ := o2'.cons_inv
  have := nils_inv b1
  subst this
  split at hx
  case h_2 => exact hx.elim
  rename_i hn
  have hn := Nat.le_of_ble_eq_true hn
  simp only [List.length_cons, List.length_nil] at o5
  refine realFn_calls Tryz.func301 rfl (by kernel_rfl) ?_
  refine (walkgrow mi.b n w (o3 1 _ rfl) ((o6 1 (Nat.zero_le _)).resolve_right (by omega)) (heap_lt o1) (by omega)).mono ?_
  rintro e w' ⟨rfl, cs, hcs, rfl⟩
  have hunit : ∀ m nv S, VR m nv S (.tuple []) (.tuple #[]) := fun m nv S => .tuple [] [] .nil .nil
  -- a new row; the field that refers to it
  obtain ⟨n1, n2⟩ := h.new (.cells 5 [] 0) (.cells cs 5) cs.size ⟨cs, ⟨5, rfl⟩, (0, 0), [], rfl, .nil, fun j v hj => by simp at hj, fun i hi => by
    have hi : Tz.tiT.get 5 = some i := hi
    rw [ti5] at hi; cases hi
    show cs.size = cs.size * 1
    omega, fun j _ _ => by omega, fun j v hj => by simp at hj⟩
  have ho1 : (s.new (.cells 5 [] 0)).obj id ver = some (.cells 305 [a, .dat .nils] 0) := by
    have hat := obj_at ho
    have hlt := (List.getElem?_eq_some_iff.1 hat).1
    simp only [ISt.obj, ISt.new, List.getElem?_append_left hlt, hat, Nat.beq_refl]
  have hk1 : (m ++ [(⟨w.heap.size, s.nv, cs.size⟩ : MI)])[id]? = some mi := by
    rw [List.getElem?_append_left (List.getElem?_eq_some_iff.1 k1).1]; exact k1
  have hvr : VR (m ++ [⟨w.heap.size, s.nv, cs.size⟩]) (s.new (.cells 5 [] 0)).nv S (.mref s.H.length s.nv 0 0) (.slice (some ⟨w.heap.size, 0, none⟩) 0 cs.size) :=
    .mref _ _ _ _ _ ⟨w.heap.size, s.nv, cs.size⟩ _ (Nat.lt_succ_self _) (by rw [← h.len]; simp) (Nat.zero_le _) rfl (fun _ => .inr ⟨rfl, fun _ => Nat.le_refl _⟩) .nil
  obtain ⟨p1, p2⟩ := cell_set n1 ho1 hk1 (off := 1) (by simp) hvr rfl
  have hcomm : (w.alloc (.cells cs 5)).setCell ⟨mi.b, 1, none⟩ (.slice (some ⟨w.heap.size, 0, none⟩) 0 cs.size) = (w.setCell ⟨mi.b, 1, none⟩ (.slice (some ⟨w.heap.size, 0, none⟩) 0 cs.size)).alloc (.cells cs 5) := by
    have hlt := heap_lt o1
    have e1 : (w.alloc (.cells cs 5)).heap[mi.b]? = some (.cells rc 305 fr) := by rw [alloc_lt w _ hlt]; exact o1
    rw [setCell_putObj e1, setCell_putObj o1]
    simp only [putObj, World.alloc]
    congr 1
    apply Array.ext_getElem?
    intro i
    simp only [Array.getElem?_setIfInBounds, Array.getElem?_push, Array.size_push, Array.size_setIfInBounds]
    by_cases h1 : mi.b = i
    · subst h1
      simp only [if_true]
      rw [if_pos (by omega), if_neg (by omega), if_pos hlt]
    · simp [h1]
  rw [hcomm] at p1 p2
  have hst : (s.new (.cells 5 [] 0)).setObj id ver (.cells 305 [a, .mref s.H.length s.nv 0 0] 0) = (s.setObj id ver (.cells 305 [a, .mref s.H.length s.nv 0 0] 0)).new (.cells 5 [] 0) := by
    have hlt := (List.getElem?_eq_some_iff.1 (obj_at ho)).1
    simp only [ISt.setObj, ISt.new]
    refine ist_ext ?_ rfl
    rw [List.set_append_left _ _ hlt]
  have p1 : HR _ _ _ ((s.new (.cells 5 [] 0)).setObj id ver (.cells 305 [a, .mref s.H.length s.nv 0 0] 0)) _ := p1
  rw [hst] at p1
  have d := p1.drew.drew.drew
  have st := ((n2.trans p2).trans ((Step.drew _ _ _ _).trans ((Step.drew _ _ _ _).trans (Step.drew _ _ _ _))))
  exact ⟨_, _, _, _, S, rfl, hx, hunit _ _ _, d, st⟩
end Go.Ideal
