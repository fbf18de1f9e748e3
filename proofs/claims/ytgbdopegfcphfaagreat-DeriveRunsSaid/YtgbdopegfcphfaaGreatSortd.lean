/- slices.Sorted over the keys of a map: the keys in order. No condition. -/
import Derived.Test.YtgbdopegfcphfaaGreatKeysz
import Derived.Test.YtgbdopegfcphfaaGreatMemo
namespace Go.Ideal
open Go Go.Proofs Go.RowKit Go.Maps Go.Sort

/-! ### a sort that the kernel reckons -/
def leqB : List UInt8 → List UInt8 → Bool
  | [], _ => true
  | _ :: _, [] => false
  | a :: x, b :: y => match Nat.blt a.toNat b.toNat with
    | true => true
    | false => match Nat.beq a.toNat b.toNat with
      | true => leqB x y
      | false => false
theorem leqB_eq : ∀ a b : List UInt8, leqB a b = true ↔ a ≤ b
  | [], b => by simp [leqB]
  | a :: x, [] => by simp [leqB]
  | a :: x, b :: y => by
    rw [List.cons_le_cons_iff, ← leqB_eq x y]
    simp only [leqB]
    split
    · rename_i h
      have h : a.toNat < b.toNat := Nat.le_of_ble_eq_true h
      simp [UInt8.lt_iff_toNat_lt, h]
    · rename_i h
      have h : ¬ a.toNat < b.toNat := fun hl => by rw [Nat.blt, Nat.ble_eq_true_of_le hl] at h; cases h
      split
      · rename_i h2
        have h2 : a = b := UInt8.toNat_inj.1 (Nat.eq_of_beq_eq_true h2)
        simp [h2]
      · rename_i h2
        have h2 : a ≠ b := fun e => by rw [e, Nat.beq_refl] at h2; cases h2
        simp [UInt8.lt_iff_toNat_lt, h, h2]

def insB (x : List UInt8) : List (List UInt8) → List (List UInt8)
  | [] => [x]
  | y :: r => match leqB x y with
    | true => x :: y :: r
    | false => y :: insB x r
def sortB : List (List UInt8) → List (List UInt8)
  | [] => []
  | x :: r => insB x (sortB r)
theorem insB_perm (x) : ∀ l, (insB x l).Perm (x :: l)
  | [] => .refl _
  | y :: r => by
    simp only [insB]
    split
    · exact .refl _
    · exact ((insB_perm x r).cons y).trans (.swap ..)
theorem sortB_perm : ∀ l, (sortB l).Perm l
  | [] => .refl _
  | x :: r => (insB_perm x _).trans ((sortB_perm r).cons x)
theorem insB_pw (x) : ∀ l : List (List UInt8), l.Pairwise (· ≤ ·) → (insB x l).Pairwise (· ≤ ·)
  | [], _ => by simp [insB]
  | y :: r, h => by
    simp only [insB]
    rw [List.pairwise_cons] at h
    split
    · rename_i e
      rw [leqB_eq] at e
      exact .cons (fun z hz => by
        rcases List.mem_cons.1 hz with rfl | hz
        · exact e
        · exact List.le_trans e (h.1 z hz)) (.cons h.1 h.2)
    · rename_i e
      have e : y ≤ x := by
        rcases List.le_total x y with h1 | h1
        · rw [← leqB_eq] at h1; rw [h1] at e; cases e
        · exact h1
      exact .cons (fun z hz => by
        rcases List.mem_cons.1 ((insB_perm x r).mem_iff.1 hz) with rfl | hz
        · exact e
        · exact h.1 z hz) (insB_pw x r h.2)
theorem sortB_pw : ∀ l, (sortB l).Pairwise (· ≤ ·)
  | [] => .nil
  | x :: r => insB_pw x _ (sortB_pw r)
theorem sortB_eq {l l' : List (List UInt8)} (h : l.Perm l') : l.mergeSort leB = sortB l' := by
  rw [mergeSort_of_perm h]
  have tr : ∀ a b c : List UInt8, leB a b = true → leB b c = true → leB a c = true := fun a b c h1 h2 => by simp only [leB, decide_eq_true_eq] at *; exact List.le_trans h1 h2
  have to : ∀ a b : List UInt8, (leB a b || leB b a) = true := fun a b => by simp only [leB, Bool.or_eq_true, decide_eq_true_eq]; exact List.le_total a b
  refine List.Perm.eq_of_pairwise (le := fun a b => leB a b = true) (fun a b _ _ h1 h2 => ?_) (List.pairwise_mergeSort tr to l') ((sortB_pw l').imp (fun h => by simpa [leB] using h)) ((List.mergeSort_perm l' leB).trans (sortB_perm l').symm)
  simp only [leB, decide_eq_true_eq] at h1 h2
  exact List.le_antisymm h1 h2

/-! ### a row of strings handed back -/
def strRow : List (List UInt8) → Dat
  | [] => .nils
  | x :: r => .slc false 1 ((x :: r).map .str)

theorem strs_cells : ∀ l : List (List UInt8), (l.map Dat.str).flatMap Dat.cells = l.map .str
  | [] => rfl
  | x :: r => by simp only [List.map_cons, List.flatMap_cons, strs_cells r]; rfl
theorem strs_vrds (c) : ∀ l : List (List UInt8), VRDs c (l.map .str) (l.map encStr)
  | [] => .nil
  | x :: r => .str x (strs_vrds c r)

theorem post_strs {A : Par} {S : Snap} {w w' : World} {Q : Dat → Prop} {v : Value} {l : List (List UInt8)} (hR : HR A [] S ist0 w) (hB : Below w.heap.size w w')
    (hrow : w'.ownsRow w.heap.size 9 1 v l.length (l.map encStr)) (hnil : v = .slice none 0 0 ↔ l = []) (hQ : Q (strRow l)) : PostD A S w Q (.returned v) w' := by
  have keep : Keep [] w w' := ⟨hB.size, fun b hb _ => hB.block b hb, fun b l hl => ⟨l, (hB.block b (heap_lt hl)).trans hl⟩, hB.os, hB.tape, hB.output⟩
  have snap : SnapOK S w' := ⟨fun b i v e => (cell_of_heap (hB.block b (cell_lt (hR.snap.sc b i v e)))).trans (hR.snap.sc b i v e), fun b i v e => (cell_of_heap (hB.block b (cell_lt (hR.snap.sb b i v e)))).trans (hR.snap.sb b i v e),
    fun b es c e => (hB.block b (heap_lt (hR.snap.sm b es c e))).trans (hR.snap.sm b es c e)⟩
  cases l with
  | nil =>
    have e := hnil.2 rfl
    subst e
    exact ⟨_, .nils, S, rfl, hQ, .nils .nil, ⟨rfl, fun id ver o e => by simp [ist0] at e, fun id id' mi mi' e => by simp at e, snap⟩, .refl _ _ _, keep, fun id mi' e => by simp at e, fun _ _ _ _ => rfl⟩
  | cons x r =>
    rcases hrow.2 with ⟨_, h0⟩ | ⟨g, cap, cur, rfl, hg, hb, h1, h2, h3, h4⟩
    · simp at h0
    have hn : S.sc = fun b i => if b = g then none else S.sc b i := by
      funext b i
      split
      · rename_i e
        cases hs : S.sc b i with
        | none => rfl
        | some v =>
          have := cell_lt (hR.snap.sc b i v hs)
          omega
      · rfl
    have grow : ∀ b i v, S.sc b i = some v → (if b = g then ((x :: r).map encStr)[i]? else S.sc b i) = some v := by
      intro b i v e
      rw [hn] at e
      dsimp only at e
      split at e
      · cases e
      · rename_i hne
        rw [if_neg hne, e]
    refine ⟨_, .slc false 1 ((x :: r).map .str), { S with sc := fun b i => if b = g then ((x :: r).map encStr)[i]? else S.sc b i }, rfl, hQ, ?_, ⟨rfl, fun id ver o e => by simp [ist0] at e, fun id id' mi mi' e => by simp at e, ⟨fun b i v e => ?_, snap.sb, snap.sm⟩⟩,
      ⟨Nat.le_refl _, grow, rfl, rfl, fun id mi e => by simp at e⟩, keep, fun id mi' e => by simp at e, fun b i hb _ => ?_⟩
    · have := VRDs.slc (c := fun b i => if b = g then ((x :: r).map encStr)[i]? else S.sc b i) false 1 ((x :: r).map .str) g 0 cap ((x :: r).map encStr) (xs := []) (rs := [])
        (fun y hy => by obtain ⟨s, _, rfl⟩ := List.mem_map.1 hy; rfl) (by simpa using h1) (fun h => by cases h) (by rw [strs_cells]; exact strs_vrds _ _) (fun j v hj => by simp only [if_pos, Nat.zero_add]; exact hj) .nil
      simpa [VRD] using this
    · dsimp only at e
      split at e
      · rename_i hbg
        subst hbg
        have h5 : cur[i]? = some v := by
          rw [← h4, List.getElem?_take] at e
          split at e
          · rw [← Array.getElem?_toList]; exact e
          · cases e
        simp [World.cell?, hb, h5]
      · exact snap.sc b i v e
    · show (if b = g then _ else S.sc b i) = S.sc b i
      rw [if_neg (by omega)]

/-! ### the contract -/
def anyElem : Value → Option (DataW Unit × List MemPlace) := fun _ => some (.nil, [])

theorem entsR_keys : ∀ (kr : List Value) (bs : List Nat) (vr : List Value), kr.length = bs.length → kr.length = vr.length → (entsR kr bs vr).map (·.key) = kr ∧ (entsR kr bs vr).map (·.born) = bs
  | [], [], [], _, _ => ⟨rfl, rfl⟩
  | k :: kr, b :: bs, v :: vr, h1, h2 => by
    obtain ⟨e1, e2⟩ := entsR_keys kr bs vr (by simpa using h1) (by simpa using h2)
    constructor
    · show k :: (entsR kr bs vr).map (·.key) = _
      rw [e1]
    · show b :: (entsR kr bs vr).map (·.born) = _
      rw [e2]

theorem strs_inv {c} : ∀ {l : List (List UInt8)} {rs}, VRDs c (l.map .str) rs → rs = l.map encStr
  | [], _, h => by cases h; rfl
  | x :: r, _, h => by
    cases h with
    | str s h => rw [strs_inv h]; rfl

/-- what is asked of a map's entries. -/
structure KeysOK (ks : List (Dat × Nat)) (ss : List (List UInt8)) (clock : Nat) : Prop where
  strs : ks.map (·.1) = ss.map .str
  short : ∀ s ∈ ss, s.length ≤ maxLen
  nodup : ss.Nodup
  born : (ks.map (·.2)).Nodup
  clock : ∀ b ∈ ks.map (·.2), b < clock
  few : ks.length ≤ 1000000000000

theorem ownsMap_of {w : World} {b : Nat} {ks : List (Dat × Nat)} {ss : List (List UInt8)} {vs : List Dat} {clock : Nat} {kr vr : List Value} {c : Froz} (hk : KeysOK ks ss clock) (h1 : VRDs (fun _ _ => none) (ks.map (·.1)) kr) (h2 : VRDs c vs vr) (h3 : ks.length = vs.length)
    (hb : w.heap[b]? = some (.map (entsR kr (ks.map (·.2)) vr).toArray clock)) :
    ∃ D0 : DataW Unit, w.ownsMap Tryz.prog 9 anyElem b ks.length D0 ∧ (strKeys D0).Perm ss ∧ Maps.size D0 = ks.length := by
  rw [hk.strs] at h1
  have hkr := strs_inv h1
  have hlen : ss.length = ks.length := by simpa using (congrArg List.length hk.strs).symm
  have hvr := h2.length
  obtain ⟨e1, e2⟩ := entsR_keys kr (ks.map (·.2)) vr (by simp [hkr, hlen]) (by simp [hkr, hlen]; omega)
  generalize hE : entsR kr (ks.map (·.2)) vr = E at *
  have hEl : E.length = ks.length := by simpa using congrArg List.length e2
  have hrd : ∀ x ∈ E, ∃ s, s ∈ ss ∧ x.key = encStr s ∧ WideElems.rd Tryz.prog 9 anyElem x = some (.string s, .nil) := by
    intro x hx
    have : x.key ∈ E.map (·.key) := List.mem_map_of_mem hx
    rw [e1, hkr] at this
    obtain ⟨s, hs, he⟩ := List.mem_map.1 this
    refine ⟨s, hs, he.symm, ?_⟩
    have hsz : s.length ≤ maxLen := hk.short s hs
    simp [WideElems.rd, ← he, Go.keyOf, Tryz.underlying9, mapKey, anyElem, ByteArray.size, hsz]
  have hkeys : ((E.map (WideElems.rg Tryz.prog 9 anyElem)).map fun p => strOf p.1) = ss := by
    have hx : ∀ (E : List MapEntry) (ss : List (List UInt8)), E.map (·.key) = ss.map encStr → (∀ x ∈ E, ∃ s, x.key = encStr s ∧ WideElems.rd Tryz.prog 9 anyElem x = some (.string s, .nil)) → ((E.map (WideElems.rg Tryz.prog 9 anyElem)).map fun p => strOf p.1) = ss := by
      intro E
      induction E with
      | nil => intro ss h _; cases ss with
        | nil => rfl
        | cons _ _ => simp at h
      | cons x E ih =>
        intro ss h hr
        cases ss with
        | nil => simp at h
        | cons s ss =>
          simp only [List.map_cons, List.cons.injEq] at h
          obtain ⟨s', hs', hrd⟩ := hr x (by simp)
          have : s' = s := encStr_inj (hs'.symm.trans h.1)
          subst this
          simp only [List.map_cons, ih ss h.2 (fun y hy => hr y (by simp [hy])), WideElems.rg, hrd]
          rfl
    exact hx E ss (by rw [e1, hkr]) (fun x hx => by obtain ⟨s, _, h1, h2⟩ := hrd x hx; exact ⟨s, h1, h2⟩)
  refine ⟨.map ((E.map (WideElems.rg Tryz.prog 9 anyElem)).foldr DataW.insert []), ⟨E.toArray, clock, hb, ⟨?_, ⟨?_, ?_, ?_⟩, ?_⟩, by simp [hEl], rfl⟩, ?_, ?_⟩
  · have := hk.few
    simp only [List.size_toArray, hEl, maxLen]
    omega
  · intro x hx
    exact hk.clock _ (by rw [← e2]; exact List.mem_map_of_mem hx)
  · show (E.map (·.born)).Nodup
    rw [e2]; exact hk.born
  · show (E.map (·.key)).Nodup
    rw [e1, hkr]
    exact List.Pairwise.map _ (fun a b hne e => hne (encStr_inj e)) hk.nodup
  · intro x hx
    obtain ⟨s, _, _, h⟩ := hrd x hx
    exact ⟨_, h⟩
  · show (((E.map (WideElems.rg Tryz.prog 9 anyElem)).foldr DataW.insert []).map fun p => strOf p.1).Perm ss
    rw [← hkeys]
    exact (Go.WideShapes.sorted_perm _).map _
  · show ((E.map (WideElems.rg Tryz.prog 9 anyElem)).foldr DataW.insert []).length = _
    rw [(Go.WideShapes.sorted_perm _).length_eq]
    simp [hEl]

theorem sorted_pure {g : Nat} (hg : g = 214 ∨ g = 172) {ks ss vs clock cs} (hk : KeysOK ks ss clock) : PureP 100 [.fn g [] [.rptr (.vmap ks vs clock :: cs)]] (· = strRow (sortB ss)) := by
  intro S w rs hR hv
  obtain ⟨rf, _, rfl, v1, hv⟩ := hv.cons_inv
  cases hv.nil_inv
  cases v1 with
  | fn f a1 b1 ar br ha hb _ =>
    cases ha.nil_inv
    obtain ⟨rp, _, rfl, v2, hb⟩ := hb.cons_inv
    cases hb.nil_inv
    cases v2 with
    | rptr cs Bm o ss' hc hs _ =>
      obtain ⟨rm, rs', rfl, v3, _⟩ := hc.cons_inv
      cases v3 with
      | vmap _ _ _ b kr vr h1 h2 h3 h4 _ =>
        have hcell : w.cell? ⟨Bm, o, none⟩ = some (.map (some b)) := by
          rcases hs 0 _ rfl with h | h
          · exact hR.snap.sc _ _ _ h
          · exact hR.snap.sb _ _ _ h
        obtain ⟨D0, hown, hperm, hsize⟩ := ownsMap_of hk h1 h2 h3 (hR.snap.sm _ _ _ h4)
        have hfew := hk.few
        have hS : AnyZ.SortsIn Tryz.prog Tryz.sorted100_ren Fence.wide 4 :=
          ⟨fun blk off cap ss W hH hblk hsz => callsIn_wide.2 (AnyM.slices_Sort_string Tryz.sort155 blk off cap ss W hH hblk hsz),
           fun p cap W => callsIn_wide.2 (AnyM.slices_Sort_string_none Tryz.sort155 p cap W)⟩
        have main : CallsIn Fence.wide 5 Tryz.prog 100 #[.func (.func g) #[] #[.pointer (some ⟨Bm, o, none⟩)]] w fun e w' => ∃ (v : Value) (ss : List (List UInt8)), e = .returned v ∧ ss.Perm (strKeys D0) ∧
            w'.ownsRow w.heap.size 9 1 v ss.length ((ss.mergeSort (fun x y => decide (x ≤ y))).map encStr) ∧ (v = .slice none 0 0 ↔ ss = []) ∧ Below w.heap.size w w' := by
          have hm : Maps.size D0 ≤ maxLen := by rw [hsize, maxLen]; omega
          have hm2 : Maps.size D0 * 16 ≤ 140737488355328 := by rw [hsize]; omega
          rcases hg with rfl | rfl
          · exact AnyZ.sorted_in Tryz.sorted100 Fence.wide 5 trivial trivial trivial trivial rfl (by omega) hS (enters_of Tryz.func155 (by kernel_rfl) rfl) 214 #[.pointer (some ⟨Bm, o, none⟩)] trivial (enters_of Tryz.func214 (by kernel_rfl) rfl) _ _ hm hm2 _
              (keysS_gives Fence.wide _ trivial rfl (by omega) Bm o b _ D0 w (cell_lt hcell) hcell hown)
          · exact AnyZ.sorted_in Tryz.sorted100 Fence.wide 5 trivial trivial trivial trivial rfl (by omega) hS (enters_of Tryz.func155 (by kernel_rfl) rfl) 172 #[.pointer (some ⟨Bm, o, none⟩)] trivial (enters_of Tryz.func172 (by kernel_rfl) rfl) _ _ hm hm2 _
              (keysC_gives Fence.wide _ trivial rfl (by omega) Bm o b _ D0 w (cell_lt hcell) hcell hown)
        refine realFn_calls Tryz.func100 rfl (by kernel_rfl) ((callsIn_wide.1 main).mono ?_)
        rintro e w' ⟨v, ss', rfl, hp, hrow, hnil, hB⟩
        have hps : ss'.Perm ss := hp.trans hperm
        have hsort : ss'.mergeSort (fun x y => decide (x ≤ y)) = sortB ss := sortB_eq hps
        rw [hsort] at hrow
        have hl : ss'.length = (sortB ss).length := by rw [(sortB_perm ss).length_eq, hps.length_eq]
        rw [hl] at hrow
        refine post_strs (l := sortB ss) hR hB hrow (hnil.trans ?_) rfl
        rw [← List.length_eq_zero_iff, ← List.length_eq_zero_iff, hl]

theorem sorted_nil {g : Nat} (hg : g = 214 ∨ g = 172) {cs} : PureP 100 [.fn g [] [.rptr (.dat .nilm :: cs)]] (· = .nils) := by
  intro S w rs hR hv
  obtain ⟨rf, _, rfl, v1, hv⟩ := hv.cons_inv
  cases hv.nil_inv
  cases v1 with
  | fn f a1 b1 ar br ha hb _ =>
    cases ha.nil_inv
    obtain ⟨rp, _, rfl, v2, hb⟩ := hb.cons_inv
    cases hb.nil_inv
    cases v2 with
    | rptr cs Bm o ss' hc hs _ =>
      obtain ⟨rm, rs', rfl, v3, _⟩ := hc.cons_inv
      cases v3 with
      | dat d r hd _ =>
        cases hd
        have hcell : w.cell? ⟨Bm, o, none⟩ = some (.map none) := by
          rcases hs 0 _ rfl with h | h
          · exact hR.snap.sc _ _ _ h
          · exact hR.snap.sb _ _ _ h
        have hS : AnyZ.SortsIn Tryz.prog Tryz.sorted100_ren Fence.wide 4 :=
          ⟨fun blk off cap ss W hH hblk hsz => callsIn_wide.2 (AnyM.slices_Sort_string Tryz.sort155 blk off cap ss W hH hblk hsz),
           fun p cap W => callsIn_wide.2 (AnyM.slices_Sort_string_none Tryz.sort155 p cap W)⟩
        have main : CallsIn Fence.wide 5 Tryz.prog 100 #[.func (.func g) #[] #[.pointer (some ⟨Bm, o, none⟩)]] w fun e w' => ∃ (v : Value) (ss : List (List UInt8)), e = .returned v ∧ ss = [] ∧
            w'.ownsRow w.heap.size 9 1 v ss.length ((ss.mergeSort (fun x y => decide (x ≤ y))).map encStr) ∧ (v = .slice none 0 0 ↔ ss = []) ∧ Below w.heap.size w w' := by
          rcases hg with rfl | rfl
          · exact AnyZ.sorted_in Tryz.sorted100 Fence.wide 5 trivial trivial trivial trivial rfl (by omega) hS (enters_of Tryz.func155 (by kernel_rfl) rfl) 214 #[.pointer (some ⟨Bm, o, none⟩)] trivial (enters_of Tryz.func214 (by kernel_rfl) rfl) _ 0 (Nat.zero_le _) (by omega) _
              (keysS_gives_nil Fence.wide _ trivial rfl Bm o w (cell_lt hcell) hcell)
          · exact AnyZ.sorted_in Tryz.sorted100 Fence.wide 5 trivial trivial trivial trivial rfl (by omega) hS (enters_of Tryz.func155 (by kernel_rfl) rfl) 172 #[.pointer (some ⟨Bm, o, none⟩)] trivial (enters_of Tryz.func172 (by kernel_rfl) rfl) _ 0 (Nat.zero_le _) (by omega) _
              (keysC_gives_nil Fence.wide _ trivial rfl Bm o w (cell_lt hcell) hcell)
        refine realFn_calls Tryz.func100 rfl (by kernel_rfl) ((callsIn_wide.1 main).mono ?_)
        rintro e w' ⟨v, ss', rfl, rfl, hrow, hnil, hB⟩
        have hrow' : w'.ownsRow w.heap.size 9 1 v ([] : List (List UInt8)).length (([] : List (List UInt8)).map encStr) := by simpa using hrow
        exact post_strs (l := []) hR hB hrow' hnil rfl

/-! ### as a check -/
def keyStrs : List (Dat × Nat) → Option (List (List UInt8))
  | [] => some []
  | (.str s, _) :: r => match Nat.ble s.length 1000000000000, keyStrs r with
    | true, some ss => some (s :: ss)
    | _, _ => none
  | _ => none
def rises : List Nat → Nat → Bool
  | [], _ => true
  | [b], c => Nat.blt b c
  | b :: b' :: r, c => match Nat.blt b b' with
    | true => rises (b' :: r) c
    | false => false
def risesB : List (List UInt8) → Bool
  | [] => true
  | [_] => true
  | x :: y :: r => match leqB y x with
    | true => false
    | false => risesB (y :: r)
def born2 : List (Dat × Nat) → List Nat
  | [] => []
  | (_, b) :: r => b :: born2 r
theorem born2_eq : ∀ l, born2 l = l.map (·.2)
  | [] => rfl
  | (_, b) :: r => by simp [born2, born2_eq r]
def sortC : List IVal → Option Dat
  | [.fn g [] [.rptr (.vmap ks _ clock :: _)]] => match Nat.beq g 214 || Nat.beq g 172, keyStrs ks, rises (born2 ks) clock, Nat.ble ks.length 1000000000000 with
    | true, some ss, true, true => match sortB ss with
      | l => match risesB l with
        | true => some (strRow l)
        | false => none
    | _, _, _, _ => none
  | [.fn g [] [.rptr (.dat .nilm :: _)]] => match Nat.beq g 214 || Nat.beq g 172 with
    | true => some .nils
    | false => none
  | _ => none

theorem keyStrs_ok : ∀ {ks ss}, keyStrs ks = some ss → ks.map (·.1) = ss.map .str ∧ ∀ s ∈ ss, s.length ≤ 1000000000000
  | [], ss, h => by cases h; simp
  | (d, b) :: r, ss, h => by
    unfold keyStrs at h
    split at h
    · rename_i heq; cases heq
    · rename_i s _ r' heq
      cases heq
      split at h
      · rename_i ss' h1 h2
        cases h
        obtain ⟨e1, e2⟩ := keyStrs_ok h2
        refine ⟨by simp [e1], fun s' hs' => ?_⟩
        rcases List.mem_cons.1 hs' with rfl | hs'
        · exact Nat.le_of_ble_eq_true h1
        · exact e2 s' hs'
      · cases h
    · cases h
theorem rises_ok : ∀ {l c}, rises l c = true → l.Pairwise (· < ·) ∧ ∀ b ∈ l, b < c
  | [], c, _ => ⟨.nil, fun b hb => by cases hb⟩
  | [b], c, h => ⟨by simp, fun b' hb => by cases List.mem_singleton.1 hb; exact Nat.le_of_ble_eq_true h⟩
  | b :: b' :: r, c, h => by
    simp only [rises] at h
    split at h
    · rename_i hb
      have hb : b < b' := Nat.le_of_ble_eq_true hb
      obtain ⟨h1, h2⟩ := rises_ok h
      refine ⟨.cons (fun x hx => ?_) h1, fun x hx => ?_⟩
      · rcases List.mem_cons.1 hx with rfl | hx'
        · exact hb
        · exact Nat.lt_trans hb ((List.pairwise_cons.1 h1).1 x hx')
      · rcases List.mem_cons.1 hx with rfl | hx
        · exact Nat.lt_trans hb (h2 b' (by simp))
        · exact h2 x hx
    · cases h
theorem risesB_ok : ∀ {l : List (List UInt8)}, risesB l = true → l.Pairwise (· < ·)
  | [], _ => .nil
  | [b], _ => by simp
  | x :: y :: r, h => by
    simp only [risesB] at h
    split at h
    · cases h
    · rename_i hb
      have hb : x < y := by
        rcases Classical.em (x < y) with h | h
        · exact h
        · have : y ≤ x := List.not_lt.1 h
          rw [(leqB_eq y x).2 this] at hb
          cases hb
      have h1 := risesB_ok h
      refine .cons (fun z hz => ?_) h1
      rcases List.mem_cons.1 hz with rfl | hz'
      · exact hb
      · exact List.lt_trans hb ((List.pairwise_cons.1 h1).1 z hz')

theorem sortC_ok (xs d) (h : sortC xs = some d) : PureP 100 xs (· = d) := by
  unfold sortC at h
  split at h
  · rename_i g ks vs clock cs
    split at h
    · rename_i ss hg hs hr hl
      dsimp only at h
      split at h
      · rename_i hrb
        cases h
        have hg : g = 214 ∨ g = 172 := by
          rcases Bool.or_eq_true_iff.1 hg with h | h
          · exact .inl (Nat.eq_of_beq_eq_true h)
          · exact .inr (Nat.eq_of_beq_eq_true h)
        obtain ⟨h1, h2⟩ := keyStrs_ok hs
        obtain ⟨h3, h4⟩ := rises_ok hr
        rw [born2_eq] at h3 h4
        exact sorted_pure hg ⟨h1, fun s hs => Nat.le_trans (h2 s hs) (by rw [maxLen]; omega), ((sortB_perm ss).nodup_iff.1 ((risesB_ok hrb).imp fun h e => by subst e; exact List.lt_irrefl _ h)), h3.imp (fun h => Nat.ne_of_lt h), h4, Nat.le_of_ble_eq_true hl⟩
      · cases h
    · cases h
  · rename_i g cs
    split at h
    · rename_i hg
      cases h
      have hg : g = 214 ∨ g = 172 := by
        rcases Bool.or_eq_true_iff.1 hg with h | h
        · exact .inl (Nat.eq_of_beq_eq_true h)
        · exact .inr (Nat.eq_of_beq_eq_true h)
      exact sorted_nil hg
    · cases h
  · cases h
end Go.Ideal
