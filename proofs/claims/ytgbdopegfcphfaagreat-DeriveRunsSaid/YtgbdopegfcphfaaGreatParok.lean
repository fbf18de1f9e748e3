/- What the interpreter's tables say of the program is so: types held against each other, maps' keys. No condition. -/
import Derived.Test.YtgbdopegfcphfaaGreatTabf
import Derived.Laws.StructEq
import Derived.ChangeKeysEq
namespace Go.Ideal
open Go Go.Proofs

theorem run_info {P : Program} {t : TypeId} {info : TypeInfo} (h : P.info? t = some info) (w : World) : (typeInfo t).run P w = .ok info w := by
  simp [typeInfo, h]
theorem run_sz {P : Program} {t : TypeId} {info : TypeInfo} (h : P.info? t = some info) (w : World) : (sizeOf t).run P w = .ok info.size w := by
  simp [sizeOf, run_info h w]

/-- a plain kind. -/
theorem fitU_kind {A : Par} (hA : ∀ t i, A.ti t = some i → TIok A.P A.ti t i) {t : TypeId} {d : Dat} (h : fitU A t d = true) :
    (∃ s, d = .str s ∧ A.P.underlying t = some .string ∨ ∃ k n, d = .int k n ∧ (∃ k', A.P.underlying t = some (.int k')) ∨ ∃ b, d = .bool b ∧ A.P.underlying t = some .bool) ∧ ∃ info, A.P.info? t = some info ∧ info.size = 1 := by
  unfold fitU at h
  split at h
  case h_2 => cases h
  rename_i i hi
  rw [Bool.and_eq_true] at h
  obtain ⟨info, h1, h2, _, h4, _⟩ := hA t i hi
  refine ⟨?_, info, h1, by rw [h2]; exact Nat.eq_of_beq_eq_true h.1⟩
  have h := h.2
  unfold fitLeaf at h
  split at h
  · split at h
    · rename_i hu
      exact ⟨_, .inl ⟨rfl, by rw [h4, hu]⟩⟩
    · cases h
  · split at h
    · rename_i k' hu
      exact ⟨[], .inr ⟨_, _, .inl ⟨rfl, k', by rw [h4, hu]⟩⟩⟩
    · cases h
  · split at h
    · rename_i hu
      exact ⟨[], .inr ⟨.i64, 0, .inr ⟨_, rfl, by rw [h4, hu]⟩⟩⟩
    · cases h
  · cases h

theorem part_one {A : Par} (hA : ∀ t i, A.ti t = some i → TIok A.P A.ti t i) {t : TypeId} {d : Dat} (h : fitU A t d = true) {xs : Array Value} {off : Nat} {v : Value} (hx : xs[off]? = some v) (w : World) : (part t xs off).run A.P w = .ok v w := by
  obtain ⟨h1, _⟩ := fitU_kind hA h
  have : (isAgg t).run A.P w = .ok false w := by
    rcases h1 with ⟨s, ⟨_, hu⟩ | ⟨k, n, ⟨_, k', hu⟩ | ⟨b, _, hu⟩⟩⟩ <;> simp [isAgg, run_underlying hu]
  simp [part, this, hx]

theorem eqLeaf_run {A : Par} (hA : ∀ t i, A.ti t = some i → TIok A.P A.ti t i) {t : TypeId} {a b : Dat} {e : Bool} (h : fitU A t a = true) (he : keqLeaf a b = some e) {c : Froz} {ra rb : Value} (ha : VRD c a ra) (hb : VRD c b rb) (d : Nat) (w : World) :
    (Op.equalIn (d + 1) t ra rb).run A.P w = .ok e w := by
  obtain ⟨h1, _⟩ := fitU_kind hA h
  rcases h1 with ⟨s, ⟨rfl, hu⟩ | ⟨k, n, ⟨rfl, k', hu⟩ | ⟨x, rfl, hu⟩⟩⟩
  · cases b <;> simp only [keqLeaf, Option.some.injEq, reduceCtorEq] at he
    subst he
    cases ha; cases hb
    rw [run_equalIn_string w d t _ _ hu, bytesEq_eq, toList_mk, toList_mk]
  · cases b <;> simp only [keqLeaf, reduceCtorEq] at he
    split at he
    · rename_i hk
      subst hk
      cases he
      cases ha; cases hb
      rw [run_equalIn_int w d t _ _ _ _ hu]
      rfl
    · cases he
  · cases b <;> simp only [keqLeaf, Option.some.injEq, reduceCtorEq] at he
    subst he
    cases ha; cases hb
    rw [run_equalIn_bool' w d t _ _ hu]

theorem keqL_cons {a b : Dat} {as' bs : List Dat} {e : Bool} (h : keqL (a :: as') (b :: bs) = some e) : ∃ p q, keqLeaf a b = some p ∧ keqL as' bs = some q ∧ e = (p && q) := by
  simp only [keqL] at h
  split at h
  · rename_i p q h1 h2
    cases h
    exact ⟨p, q, h1, h2, rfl⟩
  · cases h

theorem eqFields_run {A : Par} (hA : ∀ t i, A.ti t = some i → TIok A.P A.ti t i) {c : Froz} (d : Nat) (w : World) (xs ys : Array Value) : ∀ (fs : List Field) (j : Nat) (as' bs : List Dat) (ra rb : List Value) (e : Bool), (∀ f ∈ fs, f.name ≠ "_") →
    fitF A j fs as' = true → keqL as' bs = some e → VRDs c as' ra → VRDs c bs rb → (∀ (i : Nat) (v : Value), ra[i]? = some v → xs[j + i]? = some v) → (∀ (i : Nat) (v : Value), rb[i]? = some v → ys[j + i]? = some v) →
    (Op.eqFields (d + 1) xs ys fs).run A.P w = .ok e w
  | [], j, as', bs, ra, rb, e, _, hf, he, ha, hb, hx, hy => by
    cases as' with
    | cons a as' => simp [fitF] at hf
    | nil =>
      cases bs with
      | cons b bs => simp [keqL] at he
      | nil =>
        simp only [keqL, Option.some.injEq] at he
        subst he
        simp [Op.eqFields]
  | f :: fs, j, as', bs, ra, rb, e, hn, hf, he, ha, hb, hx, hy => by
    cases as' with
    | nil => simp [fitF] at hf
    | cons a as' =>
      cases bs with
      | nil => simp [keqL] at he
      | cons b bs =>
        simp only [fitF, Bool.and_eq_true] at hf
        obtain ⟨⟨f1, f2⟩, f3⟩ := hf
        have f1 : f.offset = j := Nat.eq_of_beq_eq_true f1
        obtain ⟨p, q, k1, k2, rfl⟩ := keqL_cons he
        obtain ⟨r1, ra', rfl, a1, a2⟩ := ha.cons_inv
        obtain ⟨r2, rb', rfl, b1, b2⟩ := hb.cons_inv
        have x1 : xs[f.offset]? = some r1 := by rw [f1]; simpa using hx 0 r1 rfl
        have y1 : ys[f.offset]? = some r2 := by rw [f1]; simpa using hy 0 r2 rfl
        have hkb : (part f.type ys f.offset).run A.P w = .ok r2 w := part_one hA f2 y1 w
        have ih := eqFields_run hA d w xs ys fs (j + 1) as' bs ra' rb' q (fun f hf => hn f (by simp [hf])) f3 k2 a2 b2 (fun i v hv => by rw [Nat.add_assoc, Nat.add_comm 1 i]; exact hx (i + 1) v (by simpa using hv)) (fun i v hv => by rw [Nat.add_assoc, Nat.add_comm 1 i]; exact hy (i + 1) v (by simpa using hv))
        have hname := hn f (by simp)
        simp only [Op.eqFields, hname, ne_eq, not_false_eq_true, if_true, Sem.run_bind, part_one hA f2 x1 w, hkb, Result.andThen_ok, eqLeaf_run hA f2 k1 a1 b1]
        cases p with
        | false => simp
        | true => simp [ih]

def eqList : List Nat := [23, 33, 59, 96, 102, 104, 125]
def EqOk (P : Program) (t : Nat) : Prop := ∃ fs : Array Field, P.underlying t = some (.struct fs) ∧ P.stoodInHeld t = false ∧ P.eqGuardType P.depth t = false ∧ ∀ f ∈ fs.toList, f.name ≠ "_"
theorem eqList_ok : ∀ t, eqList.contains t = true → EqOk Tryz.prog t := by
  intro t ht
  have : t = 23 ∨ t = 33 ∨ t = 59 ∨ t = 96 ∨ t = 102 ∨ t = 104 ∨ t = 125 := by simpa [eqList] using ht
  rcases this with rfl | rfl | rfl | rfl | rfl | rfl | rfl
  · exact ⟨_, Tryz.underlying23, by kernel_rfl, by kernel_rfl, by decide⟩
  · exact ⟨_, Tryz.underlying33, by kernel_rfl, by kernel_rfl, by decide⟩
  · exact ⟨_, Tryz.underlying59, by kernel_rfl, by kernel_rfl, by decide⟩
  · exact ⟨_, Tryz.underlying96, by kernel_rfl, by kernel_rfl, by decide⟩
  · exact ⟨_, Tryz.underlying102, by kernel_rfl, by kernel_rfl, by decide⟩
  · exact ⟨_, Tryz.underlying104, by kernel_rfl, by kernel_rfl, by decide⟩
  · exact ⟨_, Tryz.underlying125, by kernel_rfl, by kernel_rfl, by decide⟩

theorem eqT_run {A : Par} (hA : ∀ t i, A.ti t = some i → TIok A.P A.ti t i) {t : TypeId} (ht : EqOk A.P t) (a b : List Dat) (ra rb : List Value) (e : Bool) (w : World) (hf : fits A t a = true) (he : keqL a b = some e) (va : VRDs noFroz a ra) (vb : VRDs noFroz b rb) :
    (Op.equal t (.agg ra.toArray) (.agg rb.toArray)).run A.P w = .ok e w ∧
    (A.P.eqGuardType A.P.depth t = false ∨ (Op.eqGuardIn Op.maxDepth t (.agg ra.toArray) (.agg rb.toArray)).run A.P w = .ok false w) := by
  obtain ⟨fs, hu, hs, hg, hn⟩ := ht
  refine ⟨?_, .inl hg⟩
  have hfo : A.P.fieldsOf t = fs := by simp [Program.fieldsOf, hu]
  have : Op.equal t (.agg ra.toArray) (.agg rb.toArray) = Op.equalIn (9999 + 1) t (.agg ra.toArray) (.agg rb.toArray) := rfl
  rw [this, run_equalIn_struct w 9999 t _ _ (by rw [hfo]; exact hu) hs, hfo]
  have hff : fitF A 0 fs.toList a = true := by
    unfold fits at hf
    split at hf
    case h_2 => cases hf
    rename_i i hi
    obtain ⟨info, _, _, _, h4, _⟩ := hA t i hi
    rw [hu] at h4
    cases h4' : i.und <;> rw [h4'] at hf h4 <;> simp only [Option.some.injEq, TypeDesc.struct.injEq, reduceCtorEq] at h4
    subst h4
    exact hf
  exact eqFields_run hA 9998 w _ _ _ 0 a b ra rb e hn hff he va vb (fun i v hv => by simpa using hv) (fun i v hv => by simpa using hv)
end Go.Ideal
