/- The operations that leave memory as it is, one by one. No condition. -/
import Derived.Test.YtgbdopegfcphfaaGreatQuiet
namespace Go.Ideal

theorem cells_sim {m nv S} {v : IVal} {r : Value} (h : VR m nv S v r) : VRs m nv S v.cells r.cells.toList := by
  cases h with
  | dat d r hd _ =>
    cases hd with
    | agg cs ss h1 _ => simpa [IVal.cells, Dat.cells, Value.cells] using VRs.of_dat h1
    | bool b _ => exact .dat _ _ (.bool b .nil) .nil
    | int k n _ => exact .dat _ _ (.int k n .nil) .nil
    | str s _ => exact .dat _ _ (.str s .nil) .nil
    | nilp _ => exact .dat _ _ (.nilp .nil) .nil
    | nilm _ => exact .dat _ _ (.nilm .nil) .nil
    | nilf _ => exact .dat _ _ (.nilf .nil) .nil
    | nils _ => exact .dat _ _ (.nils .nil) .nil
    | nili _ => exact .dat _ _ (.nili .nil) .nil
    | slc full n ys b o cap ss h0 h1 h2 h3 h4 _ => exact .dat _ _ (.slc full n ys b o cap ss h0 h1 h2 h3 h4 .nil) .nil
    | tuple cs ss h1 _ => exact .dat _ _ (.tuple cs ss h1 .nil) .nil
  | ptr id ver off mi a h1 h2 h3 _ => exact .ptr id ver off mi a h1 h2 h3 .nil
  | rptr cs b o ss h1 h2 _ => exact .rptr cs b o ss h1 h2 .nil
  | mref id ver off len cap mi a h1 h2 h3 h4 h5 _ => exact .mref id ver off len cap mi a h1 h2 h3 h4 h5 .nil
  | map id ver mi b h1 h2 h3 _ => exact .map id ver mi b h1 h2 h3 .nil
  | vmap ks vs clock b kr vr h1 h2 h3 h4 _ => exact .vmap ks vs clock b kr vr h1 h2 h3 h4 .nil
  | fn f as bs ar br h1 h2 _ => exact .fn f as bs ar br h1 h2 .nil
  | yield id ver mi b h1 h2 h3 _ => exact .yield id ver mi b h1 h2 h3 .nil
  | agg cs ss h1 _ => simpa [IVal.cells, Value.cells] using h1
  | tuple cs ss h1 _ => exact .tuple cs ss h1 .nil

theorem leaf_oneCell {m nv S} {v : IVal} {r : Value} (h : VR m nv S v r) (hl : v.leaf = true) : r.oneCell' = true := by
  cases h with
  | dat d r hd _ => cases hd <;> simp_all [IVal.leaf, Value.oneCell']
  | agg cs ss h1 _ => simp [IVal.leaf] at hl
  | tuple cs ss h1 _ => simp [IVal.leaf] at hl
  | _ => rfl

theorem leaf_oneCells {m nv S} : ∀ {vs : List IVal} {rs : List Value}, VRs m nv S vs rs → vs.all IVal.leaf = true → ∀ (j : Nat) (v : Value), rs[j]? = some v → v.oneCell' = true
  | [], _, h, _, j, v, hj => by cases h; simp at hj
  | x :: xs, _, h, hl, j, v, hj => by
    obtain ⟨r, rs', rfl, h1, h2⟩ := h.cons_inv
    simp only [List.all_cons, Bool.and_eq_true] at hl
    cases j with
    | zero => simp at hj; subst hj; exact leaf_oneCell h1 hl.1
    | succ j => exact leaf_oneCells h2 hl.2 j v (by simpa using hj)

theorem part_sim {A} (hA : Par.OK A) {m nv S} (w : World) {t : TypeId} {cs : List IVal} {rs : List Value} {off : Nat} {v : IVal} (hp : partI A t cs off = some v) (hv : VRs m nv S cs rs) :
    ∃ x, (part t rs.toArray off).run A.P w = .ok x w ∧ VR m nv S v x := by
  simp only [partI] at hp
  split at hp
  · rename_i i ht
    split at hp
    · rename_i ys e
      obtain ⟨e1, e2⟩ := takeN_eq e
      obtain ⟨k1, k2⟩ := mkV_sim hp (by rw [e1]; exact (hv.drop off).take i.sz)
      cases hag : isAg i.und with
      | true =>
        refine ⟨_, ?_, k1 hag⟩
        simp [part, run_isAgg_ti hA ht w, hag, run_sizeOf_ti hA ht w]
      | false =>
        obtain ⟨x, hx, hr⟩ := k2 hag
        refine ⟨x, ?_, hr⟩
        have : rs[off]? = some x := by
          have h0 : ((rs.drop off).take i.sz)[0]? = some x := by rw [hx]; rfl
          rw [List.getElem?_take] at h0
          split at h0
          · simpa using h0
          · cases h0
        simp [part, run_isAgg_ti hA ht w, hag, this]
    · cases hp
  · cases hp

/-- parts of a literal, evaluated. -/
def PartsR (m : List MI) (nv : Nat) (S : Snap) : List (Nat × IVal) → List (Nat × Value) → Prop
  | [], rs => rs = []
  | (i, v) :: ps, rs => ∃ r rs', rs = (i, r) :: rs' ∧ VR m nv S v r ∧ PartsR m nv S ps rs'

theorem evalParts_sim {m nv S} {ρ : Operand → Option IVal} {ρr : Operand → Value} (hρ : ∀ x v, ρ x = some v → VR m nv S v (ρr x)) :
    ∀ {ps : List (Nat × Operand)} {vs : List (Nat × IVal)}, evalParts ρ ps = some vs → PartsR m nv S vs (ps.map fun (i, x) => (i, ρr x))
  | [], vs, h => by simp [evalParts] at h; subst h; rfl
  | (i, x) :: ps, vs, h => by
    simp only [evalParts] at h
    split at h
    · rename_i v vs' e1 e2
      cases h
      exact ⟨ρr x, _, rfl, hρ x v e1, evalParts_sim hρ e2⟩
    · cases h

theorem VRs.take_append_drop {m nv S} {cs vs : List IVal} {rs us : List Value} (off n : Nat) (h : VRs m nv S cs rs) (k : VRs m nv S vs us) :
    VRs m nv S (cs.take off ++ vs ++ cs.drop n) (rs.take off ++ us ++ rs.drop n) := ((h.take off).append k).append (h.drop n)

theorem fill_sim {m nv S} {pl plr : Nat → Option (Nat × Nat)} (hpl : ∀ k p, pl k = some p → plr k = some p) : ∀ {ps : List (Nat × IVal)} {pr : List (Nat × Value)} {cs cs' : List IVal} {rs : List Value}, putParts pl cs ps = some cs' → PartsR m nv S ps pr → VRs m nv S cs rs →
    ∃ rs', Instr.fill plr rs.toArray pr = some rs'.toArray ∧ VRs m nv S cs' rs'
  | [], pr, cs, cs', rs, h, hp, hv => by
    cases hp
    simp only [putParts, Option.some.injEq] at h
    subst h
    exact ⟨rs, rfl, hv⟩
  | (i, v) :: ps, pr, cs, cs', rs, h, hp, hv => by
    obtain ⟨r, pr', rfl, h1, h2⟩ := hp
    simp only [putParts] at h
    split at h
    · rename_i off n e
      split at h
      · rename_i cs1 e1 e2
        obtain ⟨k1, k2⟩ := putAt_eq e2
        have hc := cells_sim h1
        have hl := hc.length
        simp only [Bool.and_eq_true] at e1
        have e3 := Nat.eq_of_beq_eq_true e1.1
        have hsz : r.cells.size = n := by rw [← Array.length_toList, ← hl]; exact e3
        have hle : off + r.cells.size ≤ rs.toArray.size := by
          rw [hsz, List.size_toArray, ← hv.length, ← e3]; exact k2
        have hnew : VRs m nv S cs1 (rs.take off ++ r.cells.toList ++ rs.drop (off + r.cells.size)) := by
          rw [k1, hsz, ← e3]
          exact hv.take_append_drop off _ hc
        obtain ⟨rs', q1, q2⟩ := fill_sim hpl h h2 hnew
        refine ⟨rs', ?_, q2⟩
        simp only [Instr.fill, hpl _ _ e]
        rw [if_neg (by rw [hsz]; simp; rw [hsz] at hle; simpa using hle)]
        have := foldl_set off r.cells rs.toArray hle
        rw [show (r.cells.zipIdx.foldl (fun (cs : Array Value) (x : Value × Nat) => match x with | (c, j) => cs.setIfInBounds (off + j) c) rs.toArray) = _ from this]
        exact q1
      · cases h
    · cases h

theorem VRs.replicate_flatten {m nv S} {z : List IVal} {zr : List Value} (h : VRs m nv S z zr) : ∀ n, VRs m nv S (List.replicate n z).flatten (List.replicate n zr).flatten
  | 0 => .nil
  | n + 1 => by simpa [List.replicate_succ] using h.append (VRs.replicate_flatten h n)
end Go.Ideal
