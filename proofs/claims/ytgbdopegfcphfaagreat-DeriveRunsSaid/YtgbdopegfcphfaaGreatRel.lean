/- How ideal values and ideal memory stand to the machine's: definitions, and that they abide what is only added. No condition. -/
import Derived.Test.YtgbdopegfcphfaaGreatIdeal
namespace Go.Ideal

/-- Where an ideal object lies, of which version, for how many elements there is room. -/
structure MI where
  b : Nat
  ver : Nat
  N : Nat

/-- What is frozen for good; what is lent to this call: cells, maps. -/
structure Snap where
  sc : Nat → Nat → Option Value
  sb : Nat → Nat → Option Value
  sm : Nat → Option (List MapEntry × Nat)

abbrev Froz := Nat → Nat → Option Value

/-- data against the machine's values, a list at a time. -/
inductive VRDs (c : Froz) : List Dat → List Value → Prop
  | nil : VRDs c [] []
  | bool (b : Bool) {xs rs} : VRDs c xs rs → VRDs c (.bool b :: xs) (.bool b :: rs)
  | int (k : IntKind) (n : Int) {xs rs} : VRDs c xs rs → VRDs c (.int k n :: xs) (.int k n :: rs)
  | str (s : List UInt8) {xs rs} : VRDs c xs rs → VRDs c (.str s :: xs) (.string ⟨s.toArray⟩ :: rs)
  | nilp {xs rs} : VRDs c xs rs → VRDs c (.nilp :: xs) (.pointer none :: rs)
  | nilm {xs rs} : VRDs c xs rs → VRDs c (.nilm :: xs) (.map none :: rs)
  | nilf {xs rs} : VRDs c xs rs → VRDs c (.nilf :: xs) (.nilFunc :: rs)
  | nils {xs rs} : VRDs c xs rs → VRDs c (.nils :: xs) (.slice none 0 0 :: rs)
  | nili {xs rs} : VRDs c xs rs → VRDs c (.nili :: xs) (.nilIface :: rs)
  | slc (full : Bool) (n : Nat) (ys : List Dat) (b o cap : Nat) (ss : List Value) {xs rs} : (∀ y ∈ ys, y.cells.length = n) → ys.length ≤ cap → (full = true → cap = ys.length) →
      VRDs c (ys.flatMap Dat.cells) ss → (∀ j v, ss[j]? = some v → c b (o + j) = some v) → VRDs c xs rs →
      VRDs c (.slc full n ys :: xs) (.slice (some ⟨b, o, none⟩) ys.length cap :: rs)
  | agg (cs : List Dat) (ss : List Value) {xs rs} : VRDs c cs ss → VRDs c xs rs → VRDs c (.agg cs :: xs) (.agg ss.toArray :: rs)
  | tuple (cs : List Dat) (ss : List Value) {xs rs} : VRDs c cs ss → VRDs c xs rs → VRDs c (.tuple cs :: xs) (.tuple ss.toArray :: rs)

def VRD (c : Froz) (d : Dat) (r : Value) : Prop := VRDs c [d] [r]

theorem VRDs.mono {c c' : Froz} (h : ∀ b i v, c b i = some v → c' b i = some v) {ds : List Dat} {rs : List Value} (hd : VRDs c ds rs) : VRDs c' ds rs := by
  induction hd with
  | nil => exact .nil
  | bool b _ ih => exact .bool b ih
  | int k n _ ih => exact .int k n ih
  | str s _ ih => exact .str s ih
  | nilp _ ih => exact .nilp ih
  | nilm _ ih => exact .nilm ih
  | nilf _ ih => exact .nilf ih
  | nils _ ih => exact .nils ih
  | nili _ ih => exact .nili ih
  | slc full n ys b o cap ss h0 h1 h2 _ h4 _ ih1 ih2 => exact .slc full n ys b o cap ss h0 h1 h2 ih1 (fun j v hj => h _ _ _ (h4 j v hj)) ih2
  | agg cs ss _ _ ih1 ih2 => exact .agg cs ss ih1 ih2
  | tuple cs ss _ _ ih1 ih2 => exact .tuple cs ss ih1 ih2

theorem VRD.mono {c c' : Froz} (h : ∀ b i v, c b i = some v → c' b i = some v) {d : Dat} {r : Value} (hd : VRD c d r) : VRD c' d r := VRDs.mono h hd

theorem VRDs.cons_iff {c : Froz} {d : Dat} {ds : List Dat} {r : Value} {rs : List Value} : VRDs c (d :: ds) (r :: rs) ↔ VRD c d r ∧ VRDs c ds rs := by
  constructor
  · intro h
    cases h with
    | bool b h => exact ⟨.bool b .nil, h⟩
    | int k n h => exact ⟨.int k n .nil, h⟩
    | str s h => exact ⟨.str s .nil, h⟩
    | nilp h => exact ⟨.nilp .nil, h⟩
    | nilm h => exact ⟨.nilm .nil, h⟩
    | nilf h => exact ⟨.nilf .nil, h⟩
    | nils h => exact ⟨.nils .nil, h⟩
    | nili h => exact ⟨.nili .nil, h⟩
    | slc full n ys b o cap ss h0 h1 h2 h3 h4 h => exact ⟨.slc full n ys b o cap ss h0 h1 h2 h3 h4 .nil, h⟩
    | agg cs ss h1 h => exact ⟨.agg cs ss h1 .nil, h⟩
    | tuple cs ss h1 h => exact ⟨.tuple cs ss h1 .nil, h⟩
  · rintro ⟨h1, h⟩
    cases h1 with
    | bool b _ => exact .bool b h
    | int k n _ => exact .int k n h
    | str s _ => exact .str s h
    | nilp _ => exact .nilp h
    | nilm _ => exact .nilm h
    | nilf _ => exact .nilf h
    | nils _ => exact .nils h
    | nili _ => exact .nili h
    | slc full n ys b o cap ss h0 h1 h2 h3 h4 _ => exact .slc full n ys b o cap ss h0 h1 h2 h3 h4 h
    | agg cs ss h1 _ => exact .agg cs ss h1 h
    | tuple cs ss h1 _ => exact .tuple cs ss h1 h

theorem VRDs.cons {c : Froz} {d : Dat} {ds : List Dat} {r : Value} {rs : List Value} (h1 : VRD c d r) (h2 : VRDs c ds rs) : VRDs c (d :: ds) (r :: rs) := cons_iff.2 ⟨h1, h2⟩

theorem VRDs.cons_inv {c : Froz} {d : Dat} {ds : List Dat} {rs : List Value} (h : VRDs c (d :: ds) rs) : ∃ r rs', rs = r :: rs' ∧ VRD c d r ∧ VRDs c ds rs' := by
  cases rs with
  | nil => cases h
  | cons r rs => exact ⟨r, rs, rfl, cons_iff.1 h⟩

theorem VRDs.length {c : Froz} : ∀ {ds : List Dat} {rs : List Value}, VRDs c ds rs → ds.length = rs.length
  | [], _, h => by cases h; rfl
  | _ :: _, _, h => by obtain ⟨r, rs', rfl, _, h2⟩ := h.cons_inv; simp [h2.length]

/-- values against the machine's: m where ideal objects lie, nv the next version, S what is frozen or lent. -/
inductive VRs (m : List MI) (nv : Nat) (S : Snap) : List IVal → List Value → Prop
  | nil : VRs m nv S [] []
  | dat (d : Dat) (r : Value) {xs rs} : VRD S.sc d r → VRs m nv S xs rs → VRs m nv S (.dat d :: xs) (r :: rs)
  | ptr (id ver off : Nat) (mi : MI) (a : Addr) {xs rs} : ver < nv → m[id]? = some mi → (mi.ver = ver → a = ⟨mi.b, off, none⟩) → VRs m nv S xs rs → VRs m nv S (.ptr id ver off :: xs) (.pointer (some a) :: rs)
  | rptr (cs : List IVal) (b o : Nat) (ss : List Value) {xs rs} : VRs m nv S cs ss → (∀ j v, ss[j]? = some v → S.sc b (o + j) = some v ∨ S.sb b (o + j) = some v) → VRs m nv S xs rs →
      VRs m nv S (.rptr cs :: xs) (.pointer (some ⟨b, o, none⟩) :: rs)
  | mref (id ver off len cap : Nat) (mi : MI) (a : Addr) {xs rs} : ver < nv → m[id]? = some mi → len ≤ cap → a.spot = none → (mi.ver = ver → (len = 0 ∧ off ≠ 0) ∨ (a = ⟨mi.b, off, none⟩ ∧ (off = 0 → cap ≤ mi.N))) → VRs m nv S xs rs →
      VRs m nv S (.mref id ver off len :: xs) (.slice (some a) len cap :: rs)
  | map (id ver : Nat) (mi : MI) (b : Nat) {xs rs} : ver < nv → m[id]? = some mi → (mi.ver = ver → b = mi.b) → VRs m nv S xs rs → VRs m nv S (.map id ver :: xs) (.map (some b) :: rs)
  | vmap (ks : List (Dat × Nat)) (vs : List Dat) (clock b : Nat) (kr vr : List Value) {xs rs} : VRDs (fun _ _ => none) (ks.map (·.1)) kr → VRDs S.sc vs vr → ks.length = vs.length →
      S.sm b = some (List.zipWith (fun (p : Value × Nat) v => ({ key := p.1, val := v, born := p.2 } : MapEntry)) (kr.zip (ks.map (·.2))) vr, clock) → VRs m nv S xs rs →
      VRs m nv S (.vmap ks vs clock :: xs) (.map (some b) :: rs)
  | fn (f : FuncId) (as bs : List IVal) (ar br : List Value) {xs rs} : VRs m nv S as ar → VRs m nv S bs br → VRs m nv S xs rs → VRs m nv S (.fn f as bs :: xs) (.func (.func f) ar.toArray br.toArray :: rs)
  | yield (id ver : Nat) (mi : MI) (b : Nat) {xs rs} : ver < nv → m[id]? = some mi → (mi.ver = ver → b = mi.b) → VRs m nv S xs rs → VRs m nv S (.yield id ver :: xs) (.func (.yield b) #[] #[] :: rs)
  | agg (cs : List IVal) (ss : List Value) {xs rs} : VRs m nv S cs ss → VRs m nv S xs rs → VRs m nv S (.agg cs :: xs) (.agg ss.toArray :: rs)
  | tuple (cs : List IVal) (ss : List Value) {xs rs} : VRs m nv S cs ss → VRs m nv S xs rs → VRs m nv S (.tuple cs :: xs) (.tuple ss.toArray :: rs)

def VR (m : List MI) (nv : Nat) (S : Snap) (v : IVal) (r : Value) : Prop := VRs m nv S [v] [r]

/-- what a stretch of the run may do to the places of ideal objects, and to what is frozen. -/
structure Grows (m : List MI) (nv : Nat) (S : Snap) (m' : List MI) (nv' : Nat) (S' : Snap) : Prop where
  nvle : nv ≤ nv'
  sc : ∀ b i v, S.sc b i = some v → S'.sc b i = some v
  sb : S'.sb = S.sb
  sm : S'.sm = S.sm
  at_ : ∀ (id : Nat) (mi : MI), m[id]? = some mi → ∃ mi', m'[id]? = some mi' ∧ (mi' = mi ∨ nv ≤ mi'.ver)

theorem Grows.refl (m : List MI) (nv : Nat) (S : Snap) : Grows m nv S m nv S := ⟨Nat.le_refl _, fun _ _ _ h => h, rfl, rfl, fun _ mi h => ⟨mi, h, .inl rfl⟩⟩
theorem Grows.trans {m nv S m1 nv1 S1 m2 nv2 S2} (h : Grows m nv S m1 nv1 S1) (k : Grows m1 nv1 S1 m2 nv2 S2) : Grows m nv S m2 nv2 S2 := by
  refine ⟨Nat.le_trans h.nvle k.nvle, fun b i v e => k.sc b i v (h.sc b i v e), k.sb.trans h.sb, k.sm.trans h.sm, fun id mi e => ?_⟩
  obtain ⟨m1', h1, h2⟩ := h.at_ id mi e
  obtain ⟨m2', k1, k2⟩ := k.at_ id m1' h1
  refine ⟨m2', k1, ?_⟩
  rcases k2 with rfl | k2
  · exact h2
  · exact .inr (Nat.le_trans h.nvle k2)

theorem VRs.mono {m nv S m' nv' S'} (g : Grows m nv S m' nv' S') {vs : List IVal} {rs : List Value} (h : VRs m nv S vs rs) : VRs m' nv' S' vs rs := by
  induction h with
  | nil => exact .nil
  | dat d r hd _ ih => exact .dat d r (hd.mono g.sc) ih
  | ptr id ver off mi a hv hm ha _ ih =>
    obtain ⟨mi', h1, h2⟩ := g.at_ id mi hm
    refine .ptr id ver off mi' a (Nat.lt_of_lt_of_le hv g.nvle) h1 (fun e => ?_) ih
    rcases h2 with rfl | h2
    · exact ha e
    · omega
  | rptr cs b o ss _ hs _ ih1 ih2 =>
    refine .rptr cs b o ss ih1 (fun j v hj => ?_) ih2
    rcases hs j v hj with h | h
    · exact .inl (g.sc _ _ _ h)
    · exact .inr (by rw [g.sb]; exact h)
  | mref id ver off len cap mi a hv hm hl hsp ha _ ih =>
    obtain ⟨mi', h1, h2⟩ := g.at_ id mi hm
    refine .mref id ver off len cap mi' a (Nat.lt_of_lt_of_le hv g.nvle) h1 hl hsp (fun e => ?_) ih
    rcases h2 with rfl | h2
    · exact ha e
    · omega
  | map id ver mi b hv hm ha _ ih =>
    obtain ⟨mi', h1, h2⟩ := g.at_ id mi hm
    refine .map id ver mi' b (Nat.lt_of_lt_of_le hv g.nvle) h1 (fun e => ?_) ih
    rcases h2 with rfl | h2
    · exact ha e
    · omega
  | vmap ks vs clock b kr vr h1 h2 h3 h4 _ ih => exact .vmap ks vs clock b kr vr h1 (h2.mono g.sc) h3 (by rw [g.sm]; exact h4) ih
  | fn f as bs ar br _ _ _ ih1 ih2 ih3 => exact .fn f as bs ar br ih1 ih2 ih3
  | yield id ver mi b hv hm ha _ ih =>
    obtain ⟨mi', h1, h2⟩ := g.at_ id mi hm
    refine .yield id ver mi' b (Nat.lt_of_lt_of_le hv g.nvle) h1 (fun e => ?_) ih
    rcases h2 with rfl | h2
    · exact ha e
    · omega
  | agg cs ss _ _ ih1 ih2 => exact .agg cs ss ih1 ih2
  | tuple cs ss _ _ ih1 ih2 => exact .tuple cs ss ih1 ih2

theorem VR.mono {m nv S m' nv' S'} (g : Grows m nv S m' nv' S') {v : IVal} {r : Value} (h : VR m nv S v r) : VR m' nv' S' v r := VRs.mono g h

theorem VRs.cons_iff {m nv S} {v : IVal} {vs : List IVal} {r : Value} {rs : List Value} : VRs m nv S (v :: vs) (r :: rs) ↔ VR m nv S v r ∧ VRs m nv S vs rs := by
  constructor
  · intro h
    cases h with
    | dat d r hd h => exact ⟨.dat d r hd .nil, h⟩
    | ptr id ver off mi a h1 h2 h3 h => exact ⟨.ptr id ver off mi a h1 h2 h3 .nil, h⟩
    | rptr cs b o ss h1 h2 h => exact ⟨.rptr cs b o ss h1 h2 .nil, h⟩
    | mref id ver off len cap mi a h1 h2 h3 h4 h5 h => exact ⟨.mref id ver off len cap mi a h1 h2 h3 h4 h5 .nil, h⟩
    | map id ver mi b h1 h2 h3 h => exact ⟨.map id ver mi b h1 h2 h3 .nil, h⟩
    | vmap ks vs clock b kr vr h1 h2 h3 h4 h => exact ⟨.vmap ks vs clock b kr vr h1 h2 h3 h4 .nil, h⟩
    | fn f as bs ar br h1 h2 h => exact ⟨.fn f as bs ar br h1 h2 .nil, h⟩
    | yield id ver mi b h1 h2 h3 h => exact ⟨.yield id ver mi b h1 h2 h3 .nil, h⟩
    | agg cs ss h1 h => exact ⟨.agg cs ss h1 .nil, h⟩
    | tuple cs ss h1 h => exact ⟨.tuple cs ss h1 .nil, h⟩
  · rintro ⟨h1, h⟩
    cases h1 with
    | dat d r hd _ => exact .dat d r hd h
    | ptr id ver off mi a h1 h2 h3 _ => exact .ptr id ver off mi a h1 h2 h3 h
    | rptr cs b o ss h1 h2 _ => exact .rptr cs b o ss h1 h2 h
    | mref id ver off len cap mi a h1 h2 h3 h4 h5 _ => exact .mref id ver off len cap mi a h1 h2 h3 h4 h5 h
    | map id ver mi b h1 h2 h3 _ => exact .map id ver mi b h1 h2 h3 h
    | vmap ks vs clock b kr vr h1 h2 h3 h4 _ => exact .vmap ks vs clock b kr vr h1 h2 h3 h4 h
    | fn f as bs ar br h1 h2 _ => exact .fn f as bs ar br h1 h2 h
    | yield id ver mi b h1 h2 h3 _ => exact .yield id ver mi b h1 h2 h3 h
    | agg cs ss h1 _ => exact .agg cs ss h1 h
    | tuple cs ss h1 _ => exact .tuple cs ss h1 h

theorem VRs.cons {m nv S} {v : IVal} {vs : List IVal} {r : Value} {rs : List Value} (h1 : VR m nv S v r) (h2 : VRs m nv S vs rs) : VRs m nv S (v :: vs) (r :: rs) := cons_iff.2 ⟨h1, h2⟩
theorem VRs.cons_inv {m nv S} {v : IVal} {vs : List IVal} {rs : List Value} (h : VRs m nv S (v :: vs) rs) : ∃ r rs', rs = r :: rs' ∧ VR m nv S v r ∧ VRs m nv S vs rs' := by
  cases rs with
  | nil => cases h
  | cons r rs => exact ⟨r, rs, rfl, cons_iff.1 h⟩
theorem VRs.nil_inv {m nv S} {rs : List Value} (h : VRs m nv S [] rs) : rs = [] := by cases h; rfl
theorem VRs.length {m nv S} : ∀ {vs : List IVal} {rs : List Value}, VRs m nv S vs rs → vs.length = rs.length
  | [], _, h => by cases h; rfl
  | _ :: _, _, h => by obtain ⟨r, rs', rfl, _, h2⟩ := h.cons_inv; simp [h2.length]
theorem VRs.append {m nv S} : ∀ {vs us : List IVal} {rs ss : List Value}, VRs m nv S vs rs → VRs m nv S us ss → VRs m nv S (vs ++ us) (rs ++ ss)
  | [], _, _, _, h, k => by cases h; exact k
  | _ :: _, _, _, _, h, k => by obtain ⟨r, rs', rfl, h1, h2⟩ := h.cons_inv; exact .cons h1 (h2.append k)
theorem VRs.get {m nv S} : ∀ {vs : List IVal} {rs : List Value} (_ : VRs m nv S vs rs) (i : Nat) (v : IVal), vs[i]? = some v → ∃ r, rs[i]? = some r ∧ VR m nv S v r
  | [], _, _, i, v, h => by simp at h
  | x :: xs, _, h, 0, v, hv => by obtain ⟨r, rs', rfl, h1, h2⟩ := h.cons_inv; simp at hv; subst hv; exact ⟨r, rfl, h1⟩
  | x :: xs, _, h, i + 1, v, hv => by obtain ⟨r, rs', rfl, h1, h2⟩ := h.cons_inv; simp at hv; obtain ⟨r', e, k⟩ := h2.get i v hv; exact ⟨r', by simpa using e, k⟩
theorem VRs.drop {m nv S} : ∀ {vs : List IVal} {rs : List Value} (n : Nat), VRs m nv S vs rs → VRs m nv S (vs.drop n) (rs.drop n)
  | _, _, 0, h => by simpa using h
  | [], _, n + 1, h => by cases h; exact .nil
  | _ :: _, _, n + 1, h => by obtain ⟨r, rs', rfl, h1, h2⟩ := h.cons_inv; simpa using h2.drop n
theorem VRs.take {m nv S} : ∀ {vs : List IVal} {rs : List Value} (n : Nat), VRs m nv S vs rs → VRs m nv S (vs.take n) (rs.take n)
  | _, _, 0, h => by simpa using VRs.nil
  | [], _, n + 1, h => by cases h; exact .nil
  | _ :: _, _, n + 1, h => by obtain ⟨r, rs', rfl, h1, h2⟩ := h.cons_inv; simpa using VRs.cons h1 (h2.take n)
theorem VRs.of_dat {m nv S} : ∀ {ds : List Dat} {rs : List Value}, VRDs S.sc ds rs → VRs m nv S (ds.map .dat) rs
  | [], _, h => by cases h; exact .nil
  | _ :: _, _, h => by obtain ⟨r, rs', rfl, h1, h2⟩ := h.cons_inv; exact .dat _ _ h1 (VRs.of_dat h2)
theorem VRs.to_dat {m nv S} : ∀ {ds : List Dat} {rs : List Value}, VRs m nv S (ds.map .dat) rs → VRDs S.sc ds rs
  | [], _, h => by cases h; exact .nil
  | _ :: _, _, h => by
    cases h with
    | dat d r h1 h2 => exact .cons h1 (VRs.to_dat h2)
theorem VR.dat_iff {m nv S} {d : Dat} {r : Value} : VR m nv S (.dat d) r ↔ VRD S.sc d r :=
  ⟨fun h => by cases h with | dat _ _ h _ => exact h, fun h => .dat d r h .nil⟩
end Go.Ideal
