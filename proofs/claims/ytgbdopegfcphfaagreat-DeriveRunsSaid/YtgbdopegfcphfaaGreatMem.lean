/- Ideal memory against the machine's: what holds between them, and the four ways in which both turn. No condition. -/
import Derived.Test.YtgbdopegfcphfaaGreatRel
import Derived.Laws.Cells
import Derived.Laws.Entries
import Derived.Below
namespace Go.Ideal

def noFroz : Froz := fun _ _ => none

def entsR (kr : List Value) (bs : List Nat) (vr : List Value) : List MapEntry :=
  List.zipWith (fun (p : Value × Nat) v => ({ key := p.1, val := v, born := p.2 } : MapEntry)) (kr.zip bs) vr

/-- the temporaries. -/
structure TR (m : List MI) (nv : Nat) (S : Snap) (n : Nat) (tm : Tm) (tmps : Array Value) : Prop where
  size : n ≤ tmps.size
  at_ : ∀ i, VR m nv S (tm.get i) (tmps.getD i undef)

theorem TR.mono {m nv S m' nv' S' n tm tmps} (g : Grows m nv S m' nv' S') (h : TR m nv S n tm tmps) : TR m' nv' S' n tm tmps := ⟨h.size, fun i => (h.at_ i).mono g⟩

/-- an ideal object against the machine's block. -/
def OR (A : Par) (m : List MI) (nv : Nat) (S : Snap) (mi : MI) : IObj → Option Obj → Prop
  | .cells t cs fz, o => ∃ (rc : Array Value) (e : { x : TypeId // x = t }) (fr : Nat × Nat) (rs : List Value), o = some (.cells rc e fr) ∧ VRs m nv S cs rs ∧ (∀ (j : Nat) (v : Value), rs[j]? = some v → rc[j]? = some v) ∧
      (∀ i, A.ti t = some i → rc.size = mi.N * i.sz) ∧ (∀ j, fz ≤ j → j < rc.size → ¬ (fr.1 ≤ j ∧ j < fr.2)) ∧ (∀ (j : Nat) (v : Value), rs[j]? = some v → v.oneCell' = true)
  | .map ks vs clock, o => ∃ kr vr, o = some (.map (entsR kr (ks.map (·.2)) vr).toArray clock) ∧ VRDs noFroz (ks.map (·.1)) kr ∧ VRs m nv S vs vr ∧ ks.length = vs.length
  | .iter mv since seen stepped, o => ∃ rm, o = some (.mapIter rm since seen.toArray stepped) ∧ VR m nv S mv (.map rm)
  | .loop st pend n tm ps as bd, o => ∃ r : Loop, o = some (.loop r) ∧ r.state = st ∧ r.pending = pend ∧ r.params = ps.toArray ∧ r.assign = as ∧ r.body = bd ∧ TR m nv S n tm r.tmps
  | .dead, o => ∃ x, o = some x

theorem OR.mono {A m nv S m' nv' S' mi o ob} (g : Grows m nv S m' nv' S') (h : OR A m nv S mi o ob) : OR A m' nv' S' mi o ob := by
  cases o with
  | cells t cs fz => obtain ⟨rc, e, fr, rs, h1, h2, h3, h4, h5, h6⟩ := h; exact ⟨rc, e, fr, rs, h1, h2.mono g, h3, h4, h5, h6⟩
  | map ks vs clock => obtain ⟨kr, vr, h1, h2, h3, h4⟩ := h; exact ⟨kr, vr, h1, h2, h3.mono g, h4⟩
  | iter mv since seen stepped => obtain ⟨rm, h1, h2⟩ := h; exact ⟨rm, h1, h2.mono g⟩
  | loop st pend n tm ps as bd => obtain ⟨r, h1, h2, h3, h4, h5, h6, h7⟩ := h; exact ⟨r, h1, h2, h3, h4, h5, h6, h7.mono g⟩
  | dead => exact h

theorem OR.some {A m nv S mi o ob} (h : OR A m nv S mi o ob) : ∃ x, ob = some x := by
  cases o with
  | cells t cs fz => obtain ⟨rc, e, fr, rs, h1, _⟩ := h; exact ⟨_, h1⟩
  | map ks vs clock => obtain ⟨kr, vr, h1, _⟩ := h; exact ⟨_, h1⟩
  | iter mv since seen stepped => obtain ⟨rm, h1, _⟩ := h; exact ⟨_, h1⟩
  | loop st pend n tm ps as bd => obtain ⟨r, h1, _⟩ := h; exact ⟨_, h1⟩
  | dead => exact h

/-- what is frozen or lent lies elsewhere. -/
structure Apart (S : Snap) (b : Nat) (o : IObj) : Prop where
  sb : ∀ j, S.sb b j = none
  sm : S.sm b = none
  sc : ∀ t cs fz, o = .cells t cs fz → ∀ j, fz ≤ j → S.sc b j = none

structure SnapOK (S : Snap) (w : World) : Prop where
  sc : ∀ b i v, S.sc b i = some v → w.cell? ⟨b, i, none⟩ = some v
  sb : ∀ b i v, S.sb b i = some v → w.cell? ⟨b, i, none⟩ = some v
  sm : ∀ b es c, S.sm b = some (es, c) → w.heap[b]? = some (.map es.toArray c)

structure HR (A : Par) (m : List MI) (S : Snap) (s : ISt) (w : World) : Prop where
  len : m.length = s.H.length
  obj : ∀ (id ver : Nat) (o : IObj), s.H[id]? = some (ver, o) → ∃ mi, m[id]? = some mi ∧ mi.ver = ver ∧ ver < s.nv ∧ OR A m s.nv S mi o (w.heap[mi.b]?) ∧ Apart S mi.b o
  inj : ∀ (id id' : Nat) (mi mi' : MI), m[id]? = some mi → m[id']? = some mi' → mi.b = mi'.b → id = id'
  snap : SnapOK S w

/-- what a stretch of the run leaves of the machine's memory: all blocks but those of ideal objects. -/
structure Keep (m : List MI) (w w' : World) : Prop where
  size : w.heap.size ≤ w'.heap.size
  blk : ∀ b, b < w.heap.size → (∀ (id : Nat) (mi : MI), m[id]? = some mi → mi.b ≠ b) → w'.heap[b]? = w.heap[b]?
  loop : ∀ (b : Nat) (l : Loop), w.heap[b]? = some (Obj.loop l) → ∃ l' : Loop, w'.heap[b]? = some (Obj.loop l')
  os : w'.os = w.os
  tape : w'.tape = w.tape
  output : w'.output = w.output

theorem Keep.refl (m : List MI) (w : World) : Keep m w w := ⟨Nat.le_refl _, fun _ _ _ => rfl, fun _ l h => ⟨l, h⟩, rfl, rfl, rfl⟩

structure Step (m : List MI) (nv : Nat) (S : Snap) (w : World) (m' : List MI) (nv' : Nat) (S' : Snap) (w' : World) : Prop where
  g : Grows m nv S m' nv' S'
  k : Keep m w w'
  fresh : ∀ (id : Nat) (mi' : MI), m'[id]? = some mi' → (∃ (id0 : Nat) (mi : MI), m[id0]? = some mi ∧ mi.b = mi'.b) ∨ w.heap.size ≤ mi'.b
  scNew : ∀ b i, b < w.heap.size → (∀ (id : Nat) (mi : MI), m[id]? = some mi → mi.b ≠ b) → S'.sc b i = S.sc b i

theorem Step.refl (m nv S w) : Step m nv S w m nv S w := ⟨.refl _ _ _, .refl _ _, fun id mi h => .inl ⟨id, mi, h, rfl⟩, fun _ _ _ _ => rfl⟩

theorem Step.trans {m nv S w m1 nv1 S1 w1 m2 nv2 S2 w2} (h : Step m nv S w m1 nv1 S1 w1) (k : Step m1 nv1 S1 w1 m2 nv2 S2 w2) : Step m nv S w m2 nv2 S2 w2 := by
  have out : ∀ b, b < w.heap.size → (∀ (id : Nat) (mi : MI), m[id]? = some mi → mi.b ≠ b) → ∀ (id : Nat) (mi : MI), m1[id]? = some mi → mi.b ≠ b := by
    intro b hb hn id mi hm e
    rcases h.fresh id mi hm with ⟨id0, mi0, h0, h1⟩ | h1
    · exact hn id0 mi0 h0 (h1.trans e)
    · omega
  refine ⟨h.g.trans k.g, ⟨Nat.le_trans h.k.size k.k.size, fun b hb hn => ?_, fun b l hl => ?_, k.k.os.trans h.k.os, k.k.tape.trans h.k.tape, k.k.output.trans h.k.output⟩, fun id mi hm => ?_, fun b i hb hn => ?_⟩
  · rw [k.k.blk b (Nat.lt_of_lt_of_le hb h.k.size) (out b hb hn), h.k.blk b hb hn]
  · obtain ⟨l', hl'⟩ := h.k.loop b l hl
    exact k.k.loop b l' hl'
  · rcases k.fresh id mi hm with ⟨id0, mi0, h0, h1⟩ | h1
    · rcases h.fresh id0 mi0 h0 with ⟨id1, mi1, h2, h3⟩ | h2
      · exact .inl ⟨id1, mi1, h2, h3.trans h1⟩
      · exact .inr (by omega)
    · exact .inr (Nat.le_trans h.k.size h1)
  · rw [k.scNew b i (Nat.lt_of_lt_of_le hb h.k.size) (out b hb hn), h.scNew b i hb hn]

theorem cell_of_heap {w w' : World} {b i : Nat} (h : w'.heap[b]? = w.heap[b]?) : w'.cell? ⟨b, i, none⟩ = w.cell? ⟨b, i, none⟩ := by
  simp [World.cell?, h]

/-- the machine draws: nothing turns. -/
theorem HR.drew {A m S s w} (h : HR A m S s w) : HR A m S s w.drew := ⟨h.len, h.obj, h.inj, ⟨h.snap.sc, h.snap.sb, h.snap.sm⟩⟩
theorem Step.drew (m nv S w) : Step m nv S w m nv S w.drew := ⟨.refl _ _ _, ⟨Nat.le_refl _, fun _ _ _ => rfl, fun _ l h => ⟨l, h⟩, rfl, rfl, rfl⟩, fun id mi h => .inl ⟨id, mi, h, rfl⟩, fun _ _ _ _ => rfl⟩

theorem alloc_lt (w : World) (o : Obj) {b : Nat} (h : b < w.heap.size) : (w.alloc o).heap[b]? = w.heap[b]? := by
  show (w.heap.push o)[b]? = _
  rw [Array.getElem?_push, if_neg (by omega)]
theorem alloc_new (w : World) (o : Obj) : (w.alloc o).heap[w.heap.size]? = some o := by
  show (w.heap.push o)[w.heap.size]? = _
  simp

theorem heap_lt {w : World} {b : Nat} {x : Obj} (h : w.heap[b]? = some x) : b < w.heap.size := (Array.getElem?_eq_some_iff.1 h).1

theorem cell_lt {w : World} {b i : Nat} {v : Value} (h : w.cell? ⟨b, i, none⟩ = some v) : b < w.heap.size := by
  simp only [World.cell?] at h
  split at h
  · rename_i c _ _ e; exact heap_lt e
  · cases h

theorem SnapOK.alloc {S : Snap} {w : World} (h : SnapOK S w) (o : Obj) : SnapOK S (w.alloc o) :=
  ⟨fun b i v e => by rw [cell_of_heap (alloc_lt w o (cell_lt (h.sc b i v e)))]; exact h.sc b i v e,
   fun b i v e => by rw [cell_of_heap (alloc_lt w o (cell_lt (h.sb b i v e)))]; exact h.sb b i v e,
   fun b es c e => by rw [alloc_lt w o (heap_lt (h.sm b es c e))]; exact h.sm b es c e⟩

theorem SnapOK.none_new {S : Snap} {w : World} (h : SnapOK S w) : (∀ j, S.sb w.heap.size j = none) ∧ S.sm w.heap.size = none ∧ ∀ j, S.sc w.heap.size j = none := by
  refine ⟨fun j => ?_, ?_, fun j => ?_⟩
  · cases e : S.sb w.heap.size j with
    | none => rfl
    | some v => exact absurd (cell_lt (h.sb _ _ _ e)) (Nat.lt_irrefl _)
  · cases e : S.sm w.heap.size with
    | none => rfl
    | some v => exact absurd (heap_lt (h.sm _ _ _ e)) (Nat.lt_irrefl _)
  · cases e : S.sc w.heap.size j with
    | none => rfl
    | some v => exact absurd (cell_lt (h.sc _ _ _ e)) (Nat.lt_irrefl _)

theorem HR.lt {A m S s w} (h : HR A m S s w) {id : Nat} {mi : MI} (hm : m[id]? = some mi) : mi.b < w.heap.size := by
  have hid : id < s.H.length := by
    have := (List.getElem?_eq_some_iff.1 hm).1
    rw [h.len] at this; exact this
  obtain ⟨ver, o⟩ : Nat × IObj := s.H[id]
  have hg : s.H[id]? = some s.H[id] := List.getElem?_eq_getElem hid
  obtain ⟨mi', h1, _, _, h4, _⟩ := h.obj id s.H[id].1 s.H[id].2 hg
  rw [hm] at h1
  cases h1
  obtain ⟨x, hx⟩ := h4.some
  exact heap_lt hx

theorem grows_new {m : List MI} {nv S} (mi : MI) : Grows m nv S (m ++ [mi]) (nv + 1) S :=
  ⟨Nat.le_succ _, fun _ _ _ h => h, rfl, rfl, fun id x h => ⟨x, by rw [List.getElem?_append_left (List.getElem?_eq_some_iff.1 h).1]; exact h, .inl rfl⟩⟩

/-- A NEW OBJECT. -/
theorem HR.new {A m S s w} (h : HR A m S s w) (o : IObj) (ob : Obj) (N : Nat)
    (hO : OR A m s.nv S ⟨w.heap.size, s.nv, N⟩ o (some ob)) :
    HR A (m ++ [⟨w.heap.size, s.nv, N⟩]) S (s.new o) (w.alloc ob) ∧ Step m s.nv S w (m ++ [⟨w.heap.size, s.nv, N⟩]) (s.nv + 1) S (w.alloc ob) := by
  have g := grows_new (m := m) (nv := s.nv) (S := S) ⟨w.heap.size, s.nv, N⟩
  obtain ⟨n1, n2, n3⟩ := h.snap.none_new
  refine ⟨⟨by simp [ISt.new, h.len], fun id ver o' e => ?_, fun id id' mi mi' e e' hb => ?_, h.snap.alloc ob⟩,
    g, ⟨by simp, fun b hb _ => alloc_lt w ob hb, fun b l hl => ⟨l, by rw [alloc_lt w ob (heap_lt hl)]; exact hl⟩, rfl, rfl, rfl⟩, fun id mi e => ?_, fun _ _ _ _ => rfl⟩
  · simp only [ISt.new] at e
    rcases Nat.lt_or_ge id s.H.length with hid | hid
    · rw [List.getElem?_append_left hid] at e
      obtain ⟨mi, h1, h2, h3, h4, h5⟩ := h.obj id ver o' e
      refine ⟨mi, by rw [List.getElem?_append_left (by rw [h.len]; exact hid)]; exact h1, h2, Nat.lt_succ_of_lt h3, ?_, h5⟩
      rw [alloc_lt w ob (h.lt h1)]
      exact h4.mono g
    · rw [List.getElem?_append_right hid] at e
      have : id - s.H.length = 0 := by
        rcases Nat.eq_zero_or_pos (id - s.H.length) with h0 | h0
        · exact h0
        · rw [List.getElem?_eq_none (by simp; omega)] at e; cases e
      rw [this] at e
      simp only [List.getElem?_cons_zero, Option.some.injEq, Prod.mk.injEq] at e
      obtain ⟨rfl, rfl⟩ := e
      have hid' : id = s.H.length := by omega
      subst hid'
      refine ⟨⟨w.heap.size, s.nv, N⟩, by rw [← h.len]; simp, rfl, Nat.lt_succ_self _, ?_, ⟨n1, n2, fun _ _ _ _ j _ => n3 j⟩⟩
      simp only []
      rw [alloc_new]
      exact hO.mono g
  · have key : ∀ (id : Nat) (mi : MI), (m ++ [(⟨w.heap.size, s.nv, N⟩ : MI)])[id]? = some mi → (m[id]? = some mi ∧ mi.b < w.heap.size) ∨ (id = m.length ∧ mi.b = w.heap.size) := by
      intro id mi e
      rcases Nat.lt_or_ge id m.length with hid | hid
      · rw [List.getElem?_append_left hid] at e
        exact .inl ⟨e, h.lt e⟩
      · rw [List.getElem?_append_right hid] at e
        have : id - m.length = 0 := by
          rcases Nat.eq_zero_or_pos (id - m.length) with h0 | h0
          · exact h0
          · rw [List.getElem?_eq_none (by simp; omega)] at e; cases e
        rw [this] at e
        simp only [List.getElem?_cons_zero, Option.some.injEq] at e
        subst e
        exact .inr ⟨by omega, rfl⟩
    rcases key id mi e with ⟨a1, a2⟩ | ⟨a1, a2⟩ <;> rcases key id' mi' e' with ⟨b1, b2⟩ | ⟨b1, b2⟩
    · exact h.inj id id' mi mi' a1 b1 hb
    · omega
    · omega
    · omega
  · rcases Nat.lt_or_ge id m.length with hid | hid
    · rw [List.getElem?_append_left hid] at e
      exact .inl ⟨id, mi, e, rfl⟩
    · rw [List.getElem?_append_right hid] at e
      have : id - m.length = 0 := by
        rcases Nat.eq_zero_or_pos (id - m.length) with h0 | h0
        · exact h0
        · rw [List.getElem?_eq_none (by simp; omega)] at e; cases e
      rw [this] at e
      simp only [List.getElem?_cons_zero, Option.some.injEq] at e
      subst e
      exact .inr (Nat.le_refl _)

theorem obj_at {s : ISt} {id ver : Nat} {o : IObj} (h : s.obj id ver = some o) : s.H[id]? = some (ver, o) := by
  simp only [ISt.obj] at h
  split at h
  · rename_i v o' e
    split at h
    · rename_i hb
      have : v = ver := by simpa using hb
      subst this
      cases h
      exact e
    · cases h
  · cases h

/-- a block of an ideal object is written anew. -/
def putObj (w : World) (b : Nat) (ob : Obj) : World := { w with heap := w.heap.setIfInBounds b ob }

theorem putObj_same {w : World} {b : Nat} {ob : Obj} (h : b < w.heap.size) : (putObj w b ob).heap[b]? = some ob := by simp [putObj, h]
theorem putObj_other {w : World} {b k : Nat} {ob : Obj} (h : k ≠ b) : (putObj w b ob).heap[k]? = w.heap[k]? := by
  simp only [putObj, Array.getElem?_setIfInBounds]
  rw [if_neg (by omega)]
theorem putObj_size (w : World) (b : Nat) (ob : Obj) : (putObj w b ob).heap.size = w.heap.size := by simp [putObj]

/-- AN OBJECT IS WRITTEN. -/
theorem HR.set {A m S s w} (h : HR A m S s w) {id ver : Nat} {o0 : IObj} (h0 : s.obj id ver = some o0) (o : IObj) (ob : Obj) {mi : MI} (hm : m[id]? = some mi)
    (hO : OR A m s.nv S mi o (some ob)) (hA : ∀ t cs fz, o = .cells t cs fz → ∀ j, fz ≤ j → S.sc mi.b j = none)
    (hS : ∀ i v, S.sc mi.b i = some v → (putObj w mi.b ob).cell? ⟨mi.b, i, none⟩ = some v)
    (hl : ∀ l : Loop, w.heap[mi.b]? = some (Obj.loop l) → ∃ l' : Loop, ob = Obj.loop l') :
    HR A m S (s.setObj id ver o) (putObj w mi.b ob) ∧ Step m s.nv S w m s.nv S (putObj w mi.b ob) := by
  have hat := obj_at h0
  obtain ⟨mi', h1, h2, h3, h4, h5⟩ := h.obj id ver o0 hat
  rw [hm] at h1
  cases h1
  have hb := h.lt hm
  refine ⟨⟨by simp [ISt.setObj, h.len], fun id' ver' o' e => ?_, h.inj, ⟨fun b i v e => ?_, fun b i v e => ?_, fun b es c e => ?_⟩⟩,
    .refl _ _ _, ⟨by rw [putObj_size]; exact Nat.le_refl _, fun b hb hn => putObj_other (fun e => hn id mi hm e.symm), fun b l hl' => ?_, rfl, rfl, rfl⟩, fun id mi e => .inl ⟨id, mi, e, rfl⟩, fun _ _ _ _ => rfl⟩
  · simp only [ISt.setObj] at e
    by_cases hid : id' = id
    · subst hid
      have hlt : id' < s.H.length := (List.getElem?_eq_some_iff.1 hat).1
      rw [List.getElem?_set_self hlt] at e
      simp only [Option.some.injEq, Prod.mk.injEq] at e
      obtain ⟨rfl, rfl⟩ := e
      exact ⟨mi, hm, h2, h3, by rw [putObj_same hb]; exact hO, ⟨h5.sb, h5.sm, hA⟩⟩
    · rw [List.getElem?_set_ne (fun e => hid e.symm)] at e
      obtain ⟨mi2, k1, k2, k3, k4, k5⟩ := h.obj id' ver' o' e
      have : mi2.b ≠ mi.b := fun e => hid (h.inj id' id mi2 mi k1 hm e)
      exact ⟨mi2, k1, k2, k3, by rw [putObj_other this]; exact k4, k5⟩
  · by_cases hbb : b = mi.b
    · subst hbb; exact hS i v e
    · rw [cell_of_heap (putObj_other hbb)]; exact h.snap.sc b i v e
  · by_cases hbb : b = mi.b
    · subst hbb; rw [h5.sb] at e; cases e
    · rw [cell_of_heap (putObj_other hbb)]; exact h.snap.sb b i v e
  · by_cases hbb : b = mi.b
    · subst hbb; rw [h5.sm] at e; cases e
    · rw [putObj_other hbb]; exact h.snap.sm b es c e
  · by_cases hbb : b = mi.b
    · subst hbb
      obtain ⟨l', rfl⟩ := hl l hl'
      exact ⟨l', putObj_same hb⟩
    · exact ⟨l, by rw [putObj_other hbb]; exact hl'⟩

theorem grows_set {m : List MI} {nv S} (id : Nat) (mi' : MI) (hv : nv ≤ mi'.ver) : Grows m nv S (m.set id mi') (nv + 1) S := by
  refine ⟨Nat.le_succ _, fun _ _ _ h => h, rfl, rfl, fun id' x h => ?_⟩
  have hlt := (List.getElem?_eq_some_iff.1 h).1
  by_cases e : id' = id
  · subst e
    exact ⟨mi', by rw [List.getElem?_set_self hlt], .inr hv⟩
  · exact ⟨x, by rw [List.getElem?_set_ne (fun x => e x.symm)]; exact h, .inl rfl⟩

theorem getElem?_set_cases {α : Type} {l : List α} {i j : Nat} {x y : α} (h : (l.set i x)[j]? = some y) : (j = i ∧ y = x ∧ i < l.length) ∨ (j ≠ i ∧ l[j]? = some y) := by
  by_cases e : j = i
  · subst e
    have hlt : j < (l.set j x).length := (List.getElem?_eq_some_iff.1 h).1
    rw [List.length_set] at hlt
    rw [List.getElem?_set_self hlt] at h
    exact .inl ⟨rfl, (Option.some.inj h).symm, hlt⟩
  · rw [List.getElem?_set_ne (fun x => e x.symm)] at h
    exact .inr ⟨e, h⟩

/-- AN OBJECT GROWS WHERE IT LIES. -/
theorem HR.growHere {A m S s w} (h : HR A m S s w) {id ver : Nat} {o0 : IObj} (h0 : s.obj id ver = some o0) (o : IObj) (ob : Obj) {mi : MI} (hm : m[id]? = some mi)
    (hO : OR A m s.nv S ⟨mi.b, s.nv, mi.N⟩ o (some ob)) (hA : ∀ t cs fz, o = .cells t cs fz → ∀ j, fz ≤ j → S.sc mi.b j = none)
    (hS : ∀ i v, S.sc mi.b i = some v → (putObj w mi.b ob).cell? ⟨mi.b, i, none⟩ = some v)
    (hl : ∀ l : Loop, w.heap[mi.b]? = some (Obj.loop l) → ∃ l' : Loop, ob = Obj.loop l') :
    HR A (m.set id ⟨mi.b, s.nv, mi.N⟩) S (s.grow id o) (putObj w mi.b ob) ∧ Step m s.nv S w (m.set id ⟨mi.b, s.nv, mi.N⟩) (s.nv + 1) S (putObj w mi.b ob) := by
  have g := grows_set (m := m) (nv := s.nv) (S := S) id ⟨mi.b, s.nv, mi.N⟩ (Nat.le_refl _)
  have hat := obj_at h0
  obtain ⟨mi', h1, h2, h3, h4, h5⟩ := h.obj id ver o0 hat
  rw [hm] at h1
  cases h1
  have hb := h.lt hm
  have hidm : id < m.length := (List.getElem?_eq_some_iff.1 hm).1
  refine ⟨⟨by simp [ISt.grow, h.len], fun id' ver' o' e => ?_, fun i j mi1 mi2 e1 e2 hbb => ?_, ⟨fun b i v e => ?_, fun b i v e => ?_, fun b es c e => ?_⟩⟩,
    g, ⟨by rw [putObj_size]; exact Nat.le_refl _, fun b hb hn => putObj_other (fun e => hn id mi hm e.symm), fun b l hl' => ?_, rfl, rfl, rfl⟩, fun i mi1 e => ?_, fun _ _ _ _ => rfl⟩
  · simp only [ISt.grow] at e
    rcases getElem?_set_cases e with ⟨rfl, e2, _⟩ | ⟨hid, e2⟩
    · simp only [Prod.mk.injEq] at e2
      obtain ⟨rfl, rfl⟩ := e2
      exact ⟨⟨mi.b, s.nv, mi.N⟩, by rw [List.getElem?_set_self hidm], rfl, Nat.lt_succ_self _, by rw [putObj_same hb]; exact hO.mono g, ⟨h5.sb, h5.sm, hA⟩⟩
    · obtain ⟨mi2, k1, k2, k3, k4, k5⟩ := h.obj id' ver' o' e2
      have : mi2.b ≠ mi.b := fun e => hid (h.inj id' id mi2 mi k1 hm e)
      exact ⟨mi2, by rw [List.getElem?_set_ne (fun x => hid x.symm)]; exact k1, k2, Nat.lt_succ_of_lt k3, by rw [putObj_other this]; exact k4.mono g, k5⟩
  · rcases getElem?_set_cases e1 with ⟨rfl, rfl, _⟩ | ⟨n1, e1'⟩ <;> rcases getElem?_set_cases e2 with ⟨rfl, rfl, _⟩ | ⟨n2, e2'⟩
    · rfl
    · exact absurd (h.inj _ _ _ _ hm e2' hbb) (fun x => n2 x.symm)
    · exact absurd (h.inj _ _ _ _ e1' hm hbb) n1
    · exact h.inj _ _ _ _ e1' e2' hbb
  · by_cases hbb : b = mi.b
    · subst hbb; exact hS i v e
    · rw [cell_of_heap (putObj_other hbb)]; exact h.snap.sc b i v e
  · by_cases hbb : b = mi.b
    · subst hbb; rw [h5.sb] at e; cases e
    · rw [cell_of_heap (putObj_other hbb)]; exact h.snap.sb b i v e
  · by_cases hbb : b = mi.b
    · subst hbb; rw [h5.sm] at e; cases e
    · rw [putObj_other hbb]; exact h.snap.sm b es c e
  · by_cases hbb : b = mi.b
    · subst hbb
      obtain ⟨l', rfl⟩ := hl l hl'
      exact ⟨l', putObj_same hb⟩
    · exact ⟨l, by rw [putObj_other hbb]; exact hl'⟩
  · rcases getElem?_set_cases e with ⟨rfl, rfl, _⟩ | ⟨_, e'⟩
    · exact .inl ⟨_, mi, hm, rfl⟩
    · exact .inl ⟨i, mi1, e', rfl⟩

/-- AN OBJECT GROWS INTO A NEW BLOCK. -/
theorem HR.growNew {A m S s w} (h : HR A m S s w) {id ver : Nat} {o0 : IObj} (h0 : s.obj id ver = some o0) (o : IObj) (ob : Obj) (N : Nat) {mi : MI} (hm : m[id]? = some mi)
    (hO : OR A m s.nv S ⟨w.heap.size, s.nv, N⟩ o (some ob)) :
    HR A (m.set id ⟨w.heap.size, s.nv, N⟩) S (s.grow id o) (w.alloc ob) ∧ Step m s.nv S w (m.set id ⟨w.heap.size, s.nv, N⟩) (s.nv + 1) S (w.alloc ob) := by
  have g := grows_set (m := m) (nv := s.nv) (S := S) id ⟨w.heap.size, s.nv, N⟩ (Nat.le_refl _)
  obtain ⟨n1, n2, n3⟩ := h.snap.none_new
  have hidm : id < m.length := (List.getElem?_eq_some_iff.1 hm).1
  refine ⟨⟨by simp [ISt.grow, h.len], fun id' ver' o' e => ?_, fun i j mi1 mi2 e1 e2 hbb => ?_, h.snap.alloc ob⟩,
    g, ⟨by simp, fun b hb _ => alloc_lt w ob hb, fun b l hl => ⟨l, by rw [alloc_lt w ob (heap_lt hl)]; exact hl⟩, rfl, rfl, rfl⟩, fun i mi1 e => ?_, fun _ _ _ _ => rfl⟩
  · simp only [ISt.grow] at e
    rcases getElem?_set_cases e with ⟨rfl, e2, _⟩ | ⟨hid, e2⟩
    · simp only [Prod.mk.injEq] at e2
      obtain ⟨rfl, rfl⟩ := e2
      exact ⟨⟨w.heap.size, s.nv, N⟩, by rw [List.getElem?_set_self hidm], rfl, Nat.lt_succ_self _, by simp only []; rw [alloc_new]; exact hO.mono g, ⟨n1, n2, fun _ _ _ _ j _ => n3 j⟩⟩
    · obtain ⟨mi2, k1, k2, k3, k4, k5⟩ := h.obj id' ver' o' e2
      exact ⟨mi2, by rw [List.getElem?_set_ne (fun x => hid x.symm)]; exact k1, k2, Nat.lt_succ_of_lt k3, by rw [alloc_lt w ob (h.lt k1)]; exact k4.mono g, k5⟩
  · rcases getElem?_set_cases e1 with ⟨rfl, rfl, _⟩ | ⟨_, e1'⟩ <;> rcases getElem?_set_cases e2 with ⟨rfl, rfl, _⟩ | ⟨_, e2'⟩
    · rfl
    · have := h.lt e2'; simp only [] at hbb; omega
    · have := h.lt e1'; simp only [] at hbb; omega
    · exact h.inj _ _ _ _ e1' e2' hbb
  · rcases getElem?_set_cases e with ⟨rfl, rfl, _⟩ | ⟨_, e'⟩
    · exact .inr (Nat.le_refl _)
    · exact .inl ⟨i, mi1, e', rfl⟩

/-- cells lo .. hi of a block are frozen, as they are. -/
def Snap.froz (S : Snap) (b lo hi : Nat) (rs : List Value) : Snap :=
  { S with sc := fun b' j => if b' = b ∧ lo ≤ j ∧ j < hi then rs[j]? else S.sc b' j }

/-- CELLS ARE FROZEN. -/
theorem HR.freeze {A m S s w} (h : HR A m S s w) {id ver : Nat} {t : TypeId} {cs : List IVal} {fz : Nat} (h0 : s.obj id ver = some (.cells t cs fz)) {mi : MI} (hm : m[id]? = some mi) (lo hi : Nat)
    (hle : lo < hi → hi ≤ cs.length) :
    ∃ rs rc e fr, w.heap[mi.b]? = some (.cells rc e fr) ∧ VRs m s.nv S cs rs ∧ (∀ (j : Nat) (v : Value), rs[j]? = some v → rc[j]? = some v) ∧
      HR A m (S.froz mi.b lo hi rs) (s.setObj id ver (.cells t cs (Nat.max fz hi))) w ∧ Step m s.nv S w m s.nv (S.froz mi.b lo hi rs) w := by
  have hat := obj_at h0
  obtain ⟨mi', h1, h2, h3, h4, h5⟩ := h.obj id ver _ hat
  rw [hm] at h1
  cases h1
  have hO := h4
  obtain ⟨rc, e, fr, rs, ho, hv, hr, hN, hf, h1c⟩ := h4
  have hlen := hv.length
  have cellrc : ∀ j v, w.cell? ⟨mi.b, j, none⟩ = some v → rc[j]? = some v := by
    intro j v e; simpa [World.cell?, ho] using e
  have rccell : ∀ (j : Nat) (v : Value), rc[j]? = some v → w.cell? ⟨mi.b, j, none⟩ = some v := by
    intro j v e; simpa [World.cell?, ho] using e
  have gsc : ∀ b i v, S.sc b i = some v → (S.froz mi.b lo hi rs).sc b i = some v := by
    intro b i v e
    simp only [Snap.froz]
    split
    · rename_i hc
      obtain ⟨rfl, hi1, hi2⟩ := hc
      have hle := hle (by omega)
      have e1 := cellrc i v (h.snap.sc _ _ _ e)
      have hlt : i < rs.length := by omega
      have e2 := hr i rs[i] (List.getElem?_eq_getElem hlt)
      rw [e1] at e2
      rw [List.getElem?_eq_getElem hlt, Option.some.inj e2]
    · exact e
  have g : Grows m s.nv S m s.nv (S.froz mi.b lo hi rs) := ⟨Nat.le_refl _, gsc, rfl, rfl, fun id mi h => ⟨mi, h, .inl rfl⟩⟩
  refine ⟨rs, rc, e, fr, ho, hv, hr, ⟨by simp [ISt.setObj, h.len], fun id' ver' o' e' => ?_, h.inj, ⟨fun b i v e' => ?_, h.snap.sb, h.snap.sm⟩⟩,
    g, .refl _ _, fun id mi e => .inl ⟨id, mi, e, rfl⟩, fun b i hb hn => ?_⟩
  · simp only [ISt.setObj] at e'
    rcases getElem?_set_cases e' with ⟨rfl, e2, _⟩ | ⟨hid, e2⟩
    · simp only [Prod.mk.injEq] at e2
      obtain ⟨rfl, rfl⟩ := e2
      refine ⟨mi, hm, h2, h3, ⟨rc, e, fr, rs, ho, hv.mono g, hr, hN, fun j hj hj2 => hf j (Nat.le_trans (Nat.le_max_left _ _) hj) hj2, h1c⟩, ⟨h5.sb, h5.sm, fun t' cs' fz' eq j hj => ?_⟩⟩
      cases eq
      simp only [Snap.froz]
      have : hi ≤ j := Nat.le_trans (Nat.le_max_right _ _) hj
      rw [if_neg (by omega)]
      exact h5.sc _ _ _ rfl j (Nat.le_trans (Nat.le_max_left _ _) hj)
    · obtain ⟨mi2, k1, k2, k3, k4, k5⟩ := h.obj id' ver' o' e2
      have hne : mi2.b ≠ mi.b := fun e => hid (h.inj id' id mi2 mi k1 hm e)
      refine ⟨mi2, k1, k2, k3, k4.mono g, ⟨k5.sb, k5.sm, fun t' cs' fz' eq j hj => ?_⟩⟩
      simp only [Snap.froz]
      rw [if_neg (fun x => hne x.1)]
      exact k5.sc _ _ _ eq j hj
  · simp only [Snap.froz] at e'
    split at e'
    · rename_i hc
      obtain ⟨rfl, _, _⟩ := hc
      exact rccell i v (hr i v e')
    · exact h.snap.sc b i v e'
  · simp only [Snap.froz]
    rw [if_neg (fun x => hn id mi hm x.1.symm)]
end Go.Ideal
