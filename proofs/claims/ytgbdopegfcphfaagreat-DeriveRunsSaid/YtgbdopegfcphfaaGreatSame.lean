/- Sameness; operations that change nothing. No condition. -/
import Derived.Test.YtgbdopegfcphfaaGreatCong
namespace Go.Ideal

mutual
theorem Dat.same_eq : ∀ (a b : Dat), Dat.same a b = true → a = b
  | .bool a, b, h => by cases b <;> simp_all [Dat.same]
  | .int k a, b, h => by cases b <;> simp_all [Dat.same]
  | .str a, b, h => by cases b <;> simp_all [Dat.same, bytesEq_eq]
  | .nilp, b, h => by cases b <;> simp_all [Dat.same]
  | .nilm, b, h => by cases b <;> simp_all [Dat.same]
  | .nilf, b, h => by cases b <;> simp_all [Dat.same]
  | .nils, b, h => by cases b <;> simp_all [Dat.same]
  | .nili, b, h => by cases b <;> simp_all [Dat.same]
  | .slc f n xs, b, h => by
    cases b <;> simp only [Dat.same, Bool.and_eq_true, Bool.false_eq_true] at h
    rename_i g m ys
    have e1 := Nat.eq_of_beq_eq_true h.1.2
    have e2 := Dat.sameL_eq xs ys h.2
    have e3 : f = g := by simpa using h.1.1
    rw [e1, e2, e3]
  | .agg xs, b, h => by
    cases b <;> simp only [Dat.same, Bool.false_eq_true] at h
    rename_i ys
    rw [Dat.sameL_eq xs ys h]
  | .tuple xs, b, h => by
    cases b <;> simp only [Dat.same, Bool.false_eq_true] at h
    rename_i ys
    rw [Dat.sameL_eq xs ys h]
theorem Dat.sameL_eq : ∀ (xs ys : List Dat), Dat.sameL xs ys = true → xs = ys
  | [], ys, h => by cases ys <;> simp_all [Dat.sameL]
  | x :: xs, ys, h => by
    cases ys <;> simp only [Dat.sameL, Bool.and_eq_true, Bool.false_eq_true] at h
    rename_i y ys
    rw [Dat.same_eq x y h.1, Dat.sameL_eq xs ys h.2]
end

mutual
theorem IVal.same_eq : ∀ (a b : IVal), IVal.same a b = true → a = b
  | .dat a, b, h => by
    cases b <;> simp only [IVal.same, Bool.false_eq_true] at h
    rename_i b
    rw [Dat.same_eq a b h]
  | .ptr i v o, b, h => by
    cases b <;> simp only [IVal.same, Bool.and_eq_true, Bool.false_eq_true] at h
    rw [Nat.eq_of_beq_eq_true h.1.1, Nat.eq_of_beq_eq_true h.1.2, Nat.eq_of_beq_eq_true h.2]
  | .rptr xs, b, h => by
    cases b <;> simp only [IVal.same, Bool.false_eq_true] at h
    rename_i ys
    rw [IVal.sameL_eq xs ys h]
  | .mref i v o l, b, h => by
    cases b <;> simp only [IVal.same, Bool.and_eq_true, Bool.false_eq_true] at h
    rw [Nat.eq_of_beq_eq_true h.1.1.1, Nat.eq_of_beq_eq_true h.1.1.2, Nat.eq_of_beq_eq_true h.1.2, Nat.eq_of_beq_eq_true h.2]
  | .map i v, b, h => by
    cases b <;> simp only [IVal.same, Bool.and_eq_true, Bool.false_eq_true] at h
    rw [Nat.eq_of_beq_eq_true h.1, Nat.eq_of_beq_eq_true h.2]
  | .vmap _ _ _, b, h => by cases b <;> simp [IVal.same] at h
  | .fn _ _ _, b, h => by cases b <;> simp [IVal.same] at h
  | .yield _ _, b, h => by cases b <;> simp [IVal.same] at h
  | .agg xs, b, h => by
    cases b <;> simp only [IVal.same, Bool.false_eq_true] at h
    rename_i ys
    rw [IVal.sameL_eq xs ys h]
  | .tuple xs, b, h => by
    cases b <;> simp only [IVal.same, Bool.false_eq_true] at h
    rename_i ys
    rw [IVal.sameL_eq xs ys h]
theorem IVal.sameL_eq : ∀ (xs ys : List IVal), IVal.sameL xs ys = true → xs = ys
  | [], ys, h => by cases ys <;> simp_all [IVal.sameL]
  | x :: xs, ys, h => by
    cases ys <;> simp only [IVal.sameL, Bool.and_eq_true, Bool.false_eq_true] at h
    rename_i y ys
    rw [IVal.same_eq x y h.1, IVal.sameL_eq xs ys h.2]
end

theorem mapSt_asDat {A} {s : ISt} : ∀ {cs : List IVal} {ds : List Dat}, mapO asDat cs = some ds → mapSt (toDatLeaf A) s cs = some (ds, s)
  | [], ds, h => by simp only [mapO, Option.some.injEq] at h; subst h; rfl
  | c :: cs, ds, h => by
    simp only [mapO] at h
    split at h
    case h_2 => cases h
    rename_i d e1
    split at h
    case h_2 => cases h
    rename_i ds' e2
    cases h
    have : c = .dat d := by
      unfold asDat at e1
      split at e1
      · cases e1; rfl
      · cases e1
    subst this
    simp [mapSt, toDatLeaf, mapSt_asDat e2]

theorem buildSliceD_I {A} {t : TypeId} {len : Nat} {ps : List (Nat × IVal)} {v : IVal} (h : buildSliceD A t len ps = some v) (s : ISt) : buildSliceI A t len ps s = some (v, s) := by
  unfold buildSliceD at h
  split at h
  case h_2 => cases h
  rename_i e i he
  split at h
  case h_2 => cases h
  rename_i z hz
  split at h
  case h_2 => cases h
  rename_i cs h1 h2
  split at h
  case h_2 => cases h
  rename_i ds hds
  split at h
  case h_2 => cases h
  rename_i xs hxs
  cases h
  simp only [buildSliceI, he, hz, h1, h2, mapSt_asDat hds, hxs]

theorem conv_dat {A} {s s' : ISt} {src dst : TypeId} {x : IVal} {d : Dat} (h : convI A s src dst x = some (.dat d, s')) : s' = s := by
  unfold convI at h
  split at h
  · cases h
  split at h
  · have := ite_some h; cases this.2; rfl
  · have := ite_some h; cases this.2; rfl
  · have := ite_some h; cases this.2; rfl
  · split at h
    · split at h
      · have := ite_some h; cases this.2; rfl
      · cases h
    · cases h
  · split at h
    · split at h
      · have := ite_some h; cases this.2; rfl
      · cases h
    · cases h
  · split at h
    · split at h
      · have := ite_some h; cases this.2
      · cases h
    · cases h
  · cases h

theorem len_st {A} {s s' : ISt} {b : Builtin} (hb : b = .len ∨ b = .min ∨ b = .max) {ts : Array TypeId} {vs : List IVal} {v : IVal} (h : builtinI A b ts vs s = some (v, s')) : s' = s := by
  unfold builtinI at h
  split at h
  · split at h
    · split at h <;> (try (cases h; rfl)) <;> (try (cases h; done))
      split at h
      · cases h; rfl
      · cases h
    · cases h
  · rcases hb with hb | hb | hb <;> cases hb
  · rcases hb with hb | hb | hb <;> cases hb
  · rcases hb with hb | hb | hb <;> cases hb
  · split at h
    · cases h; rfl
    · cases h
  · split at h
    · cases h; rfl
    · cases h
  · simp at hb
  · simp at hb
  · cases h

/-- an operation that changes nothing. -/
theorem stable_sim {A} (hA : Par.OK A) {m S s w} (h : HR A m S s w) {ρ : Operand → Option IVal} {ρr : Operand → Value} (hρ : RhoR m s.nv S ρ ρr) {o : Oper} {v : IVal} (hv : stableI A ρ o s = some v) :
    LoudOK A m S s w v s ((execOp ρr o).run A.P w) := by
  unfold stableI at hv
  split at hv
  · obtain ⟨r, r1, r2⟩ := quiet_sim hA h hρ hv
    exact ⟨_, w, m, S, r1, .inl ⟨r, rfl, r2⟩, h, .refl _ _ _ _⟩
  · have fin : loudI A ρ o s = some (v, s) → LoudOK A m S s w v s ((execOp ρr o).run A.P w) := loud_sim hA h hρ
    apply fin
    unfold loudI
    split at hv
    · rename_i t len parts e
      rw [e]
      split at hv
      case h_2 => cases hv
      rename_i ps hps
      simp only [hps]
      exact buildSliceD_I hv s
    · rename_i src dst x e
      rw [e]
      split at hv
      case h_2 => cases hv
      rename_i vx hx
      simp only [hx]
      split at hv
      case h_2 => cases hv
      rename_i d s' hc
      cases hv
      rw [hc, conv_dat hc]
    · rename_i args ts e
      rw [e]
      split at hv
      case h_2 => cases hv
      rename_i vs hvs
      simp only [hvs]
      split at hv
      case h_2 => cases hv
      rename_i v' s' hb
      cases hv
      rw [hb, len_st (.inl rfl) hb]
    · rename_i args ts e
      rw [e]
      split at hv
      case h_2 => cases hv
      rename_i vs hvs
      simp only [hvs]
      split at hv
      case h_2 => cases hv
      rename_i v' s' hb
      cases hv
      rw [hb, len_st (.inr (.inl rfl)) hb]
    · rename_i args ts e
      rw [e]
      split at hv
      case h_2 => cases hv
      rename_i vs hvs
      simp only [hvs]
      split at hv
      case h_2 => cases hv
      rename_i v' s' hb
      cases hv
      rw [hb, len_st (.inr (.inr rfl)) hb]
    · cases hv
end Go.Ideal
