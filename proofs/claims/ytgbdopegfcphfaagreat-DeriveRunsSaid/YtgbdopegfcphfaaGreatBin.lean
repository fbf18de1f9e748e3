/- Operators: what the interpreter answers the machine answers. No condition. -/
import Derived.Test.YtgbdopegfcphfaaGreatQuiett
import Derived.Laws.Strings
namespace Go.Ideal

theorem pureRun_run {α : Type} (P : Program) (w : World) : ∀ {s : Sem α} {a : α}, pureRun P s = some a → s.run P w = .ok a w
  | .pure _, _, h => by simp [pureRun] at h; simp [Sem.run, h]
  | .program k, _, h => by simp only [pureRun] at h; simp only [Sem.run]; exact pureRun_run P w h
  | .mark _ k, _, h => by simp only [pureRun] at h; simp only [Sem.run]; exact pureRun_run P w h
  | .load .., _, h => by simp [pureRun] at h
  | .store .., _, h => by simp [pureRun] at h
  | .new .., _, h => by simp [pureRun] at h
  | .shape .., _, h => by simp [pureRun] at h
  | .freeze .., _, h => by simp [pureRun] at h
  | .frozen .., _, h => by simp [pureRun] at h
  | .getObj .., _, h => by simp [pureRun] at h
  | .setObj .., _, h => by simp [pureRun] at h
  | .choose .., _, h => by simp [pureRun] at h
  | .sys .., _, h => by simp [pureRun] at h
  | .halt _, _, h => by simp [pureRun] at h

theorem wrap64_in (n : Int) (h0 : -9223372036854775808 ≤ n) (h1 : n ≤ 9223372036854775807) : IntKind.wrap .i64 n = n := by
  have e1 : (2 ^ IntKind.bits .i64 : Int) = 18446744073709551616 := by decide
  have e2 : (2 ^ (IntKind.bits .i64 - 1) : Int) = 9223372036854775808 := by decide
  simp only [IntKind.wrap, e1, e2, IntKind.signed, Bool.true_and, decide_eq_true_eq]
  split <;> omega

theorem wrapI_eq (k : IntKind) (n : Int) : wrapI k n = k.wrap n := by
  cases k with
  | i64 =>
    cases n with
    | ofNat m =>
      simp only [wrapI]
      split
      · rename_i h
        have h := Nat.le_of_ble_eq_true h
        exact (wrap64_in _ (by simp only [Int.ofNat_eq_natCast]; omega) (by simp only [Int.ofNat_eq_natCast]; omega)).symm
      · rfl
    | negSucc m =>
      simp only [wrapI]
      split
      · rename_i h
        have h := Nat.le_of_ble_eq_true h
        exact (wrap64_in _ (by omega) (by omega)).symm
      · rfl
  | _ => cases n <;> rfl

theorem toList_mk (l : List UInt8) : (ByteArray.mk l.toArray).toList = l := by
  rw [ByteArray.toList_eq]

theorem bytesEq_eq : ∀ (a b : List UInt8), bytesEq a b = (a == b)
  | [], [] => rfl
  | [], _ :: _ => rfl
  | _ :: _, [] => rfl
  | x :: xs, y :: ys => by
    simp only [bytesEq, bytesEq_eq xs ys]
    have : Nat.beq x.toNat y.toNat = (x == y) := by
      rw [Bool.eq_iff_iff]
      simp [UInt8.toNat_inj]
    rw [this]
    simp [List.cons_beq_cons]

theorem keqLeaf_noFroz {c : Froz} {a b : Dat} {e : Bool} {r : Value} (h : keqLeaf a b = some e) : (VRD c a r → VRD noFroz a r) ∧ (VRD c b r → VRD noFroz b r) := by
  constructor
  · intro hv
    cases hv with
    | bool b _ => exact .bool b .nil
    | int k n _ => exact .int k n .nil
    | str s _ => exact .str s .nil
    | _ => cases b <;> simp [keqLeaf] at h
  · intro hv
    cases hv with
    | bool b _ => exact .bool b .nil
    | int k n _ => exact .int k n .nil
    | str s _ => exact .str s .nil
    | _ => cases a <;> simp [keqLeaf] at h

theorem keqL_noFroz {c : Froz} : ∀ {a b : List Dat} {e : Bool}, keqL a b = some e → (∀ r, VRDs c a r → VRDs noFroz a r) ∧ (∀ r, VRDs c b r → VRDs noFroz b r)
  | [], [], _, _ => ⟨fun r h => by cases h; exact .nil, fun r h => by cases h; exact .nil⟩
  | [], _ :: _, _, h => by simp [keqL] at h
  | _ :: _, [], _, h => by simp [keqL] at h
  | x :: xs, y :: ys, e, h => by
    simp only [keqL] at h
    split at h
    · rename_i p q e1 e2
      obtain ⟨h1, h2⟩ := keqL_noFroz (c := c) e2
      refine ⟨fun r hr => ?_, fun r hr => ?_⟩
      · obtain ⟨r0, rs, rfl, k1, k2⟩ := hr.cons_inv
        exact .cons ((keqLeaf_noFroz e1).1 k1) (h1 _ k2)
      · obtain ⟨r0, rs, rfl, k1, k2⟩ := hr.cons_inv
        exact .cons ((keqLeaf_noFroz e1).2 k1) (h2 _ k2)
    · cases h

theorem mapO_asDat {m nv S} : ∀ {vs : List IVal} {ds : List Dat} {rs : List Value}, mapO asDat vs = some ds → VRs m nv S vs rs → VRDs S.sc ds rs
  | [], ds, rs, h, hv => by simp [mapO] at h; subst h; cases hv; exact .nil
  | x :: xs, ds, rs, h, hv => by
    simp only [mapO] at h
    split at h
    · rename_i y e1
      split at h
      · rename_i ys e2
        cases h
        obtain ⟨r, rs', rfl, h1, h2⟩ := hv.cons_inv
        cases x with
        | dat d => simp [asDat] at e1; subst e1; exact .cons (VR.dat_iff.1 h1) (mapO_asDat e2 h2)
        | _ => simp [asDat] at e1
      · cases h
    · cases h

/-- the machine's equality of two aggregates of data, guarded. -/
theorem eqAgg_sim {A} (hA : Par.OK A) {t : TypeId} (ht : A.eqT t = true) {S : Snap} {a b : List Dat} {ra rb : List Value} {e : Bool} (he0 : keqT A t a b = some e) (w : World)
    (h1 : VRDs S.sc a ra) (h2 : VRDs S.sc b rb) (x y : Operand) :
    (eqGuard .eql t x y (.agg ra.toArray) (.agg rb.toArray)).run A.P w = .ok () w ∧ (eqGuard .neq t x y (.agg ra.toArray) (.agg rb.toArray)).run A.P w = .ok () w ∧
    (binOp .eql t (.agg ra.toArray) (.agg rb.toArray)).run A.P w = .ok (.bool e) w ∧ (binOp .neq t (.agg ra.toArray) (.agg rb.toArray)).run A.P w = .ok (.bool (!e)) w := by
  have hft : fits A t a = true := by
    unfold keqT at he0
    split at he0
    · assumption
    · cases he0
  have he : keqL a b = some e := by
    unfold keqT at he0
    rw [hft] at he0
    exact he0
  obtain ⟨k1, k2⟩ := keqL_noFroz (c := S.sc) he
  obtain ⟨q1, q2⟩ := hA.eqT t ht a b ra rb e w hft he (k1 _ h1) (k2 _ h2)
  refine ⟨?_, ?_, ?_, ?_⟩
  · rcases q2 with q2 | q2
    · simp [eqGuard, q2]
    · simp only [eqGuard]; cases hg : A.P.eqGuardType A.P.depth t <;> simp [hg, q2]
  · rcases q2 with q2 | q2
    · simp [eqGuard, q2]
    · simp only [eqGuard]; cases hg : A.P.eqGuardType A.P.depth t <;> simp [hg, q2]
  · simp [binOp, q1]
  · simp [binOp, q1]

theorem vb {m nv S} (b : Bool) : VR m nv S (vbool b) (.bool b) := .dat _ _ (.bool b .nil) .nil
theorem vi {m nv S} (k : IntKind) (n : Int) : VR m nv S (.dat (.int k n)) (.int k n) := .dat _ _ (.int k n .nil) .nil
theorem vs' {m nv S} (l : List UInt8) : VR m nv S (.dat (.str l)) (.string ⟨l.toArray⟩) := .dat _ _ (.str l .nil) .nil
theorem int_inv {m nv S k n r} (h : VR m nv S (.dat (.int k n)) r) : r = .int k n := by cases h with | dat _ _ h _ => cases h; rfl
theorem str_inv {m nv S l r} (h : VR m nv S (.dat (.str l)) r) : r = .string ⟨l.toArray⟩ := by cases h with | dat _ _ h _ => cases h; rfl
theorem bool_inv {m nv S b r} (h : VR m nv S (.dat (.bool b)) r) : r = .bool b := by cases h with | dat _ _ h _ => cases h; rfl

theorem nilp_inv {m nv S r} (h : VR m nv S (.dat .nilp) r) : r = .pointer none := by cases h with | dat _ _ h _ => cases h; rfl
theorem nils_inv {m nv S r} (h : VR m nv S (.dat .nils) r) : r = .slice none 0 0 := by cases h with | dat _ _ h _ => cases h; rfl
theorem nilm_inv {m nv S r} (h : VR m nv S (.dat .nilm) r) : r = .map none := by cases h with | dat _ _ h _ => cases h; rfl
theorem ptr_inv {m nv S id ver off r} (h : VR m nv S (.ptr id ver off) r) : ∃ a, r = .pointer (some a) := by cases h; exact ⟨_, rfl⟩
theorem rptr_inv {m nv S cs r} (h : VR m nv S (.rptr cs) r) : ∃ a, r = .pointer (some a) := by cases h; exact ⟨_, rfl⟩
theorem mref_inv {m nv S id ver off len r} (h : VR m nv S (.mref id ver off len) r) : ∃ a c, r = .slice (some a) len c := by cases h; exact ⟨_, _, rfl⟩
theorem slc_inv {m nv S f n xs r} (h : VR m nv S (.dat (.slc f n xs)) r) : ∃ a c, r = .slice (some a) xs.length c := by cases h with | dat _ _ h _ => cases h; exact ⟨_, _, rfl⟩
theorem map_inv {m nv S id ver r} (h : VR m nv S (.map id ver) r) : ∃ b, r = .map (some b) := by cases h; exact ⟨_, rfl⟩

section
variable {P : Program} {t : TypeId} (w : World) (px py : Operand)
theorem eqG_ptr (op : BinOp) (a b : Option Addr) : (eqGuard op t px py (.pointer a) (.pointer b)).run P w = .ok () w := by
  simp only [eqGuard]; split <;> rfl
theorem eqG_slice (op : BinOp) (a b : Option Addr) (n c n' c' : Nat) : (eqGuard op t px py (.slice a n c) (.slice b n' c')).run P w = .ok () w := by
  simp only [eqGuard]; split <;> rfl
theorem eqG_map (op : BinOp) (a b : Option Nat) : (eqGuard op t px py (.map a) (.map b)).run P w = .ok () w := by
  simp only [eqGuard]; split <;> rfl
theorem eqG_bool (op : BinOp) (a b : Bool) : (eqGuard op t px py (.bool a) (.bool b)).run P w = .ok () w := by
  simp only [eqGuard]; split <;> rfl
theorem eqG_int (op : BinOp) (k k' : IntKind) (a b : Int) : (eqGuard op t px py (.int k a) (.int k' b)).run P w = .ok () w := by
  simp only [eqGuard]; split <;> rfl
theorem eqG_str (op : BinOp) (a b : ByteArray) : (eqGuard op t px py (.string a) (.string b)).run P w = .ok () w := by
  simp only [eqGuard]; split <;> rfl
end

section
variable {P : Program} {t : TypeId} {w : World} {u : TypeDesc}
theorem eqI_ptr1 (d : Nat) {e : TypeId} (hu : (underlying t).run P w = .ok (.pointer e) w) (b : Option Addr) : (Op.equalIn (d + 1) t (.pointer none) (.pointer b)).run P w = .ok b.isNone w := by
  simp only [Op.equalIn, Sem.run_bind, hu, Result.andThen_ok]; rfl
theorem eqI_ptr2 (d : Nat) {e : TypeId} (hu : (underlying t).run P w = .ok (.pointer e) w) (a : Addr) : (Op.equalIn (d + 1) t (.pointer (some a)) (.pointer none)).run P w = .ok false w := by
  simp only [Op.equalIn, Sem.run_bind, hu, Result.andThen_ok]; rfl
theorem eqI_slice1 (d : Nat) {e : TypeId} (hu : (underlying t).run P w = .ok (.slice e) w) (b : Option Addr) (n c n' c' : Nat) : (Op.equalIn (d + 1) t (.slice none n c) (.slice b n' c')).run P w = .ok b.isNone w := by
  simp only [Op.equalIn, Sem.run_bind, hu, Result.andThen_ok]; rfl
theorem eqI_slice2 (d : Nat) {e : TypeId} (hu : (underlying t).run P w = .ok (.slice e) w) (a : Addr) (n c n' c' : Nat) : (Op.equalIn (d + 1) t (.slice (some a) n c) (.slice none n' c')).run P w = .ok false w := by
  simp only [Op.equalIn, Sem.run_bind, hu, Result.andThen_ok]; rfl
theorem eqI_map1 (d : Nat) {k e : TypeId} (hu : (underlying t).run P w = .ok (.map k e) w) (b : Option Nat) : (Op.equalIn (d + 1) t (.map none) (.map b)).run P w = .ok b.isNone w := by
  simp only [Op.equalIn, Sem.run_bind, hu, Result.andThen_ok]; rfl
theorem eqI_map2 (d : Nat) {k e : TypeId} (hu : (underlying t).run P w = .ok (.map k e) w) (a : Nat) : (Op.equalIn (d + 1) t (.map (some a)) (.map none)).run P w = .ok false w := by
  simp only [Op.equalIn, Sem.run_bind, hu, Result.andThen_ok]; rfl
theorem eqI_bool (d : Nat) (hu : (underlying t).run P w = .ok .bool w) (a b : Bool) : (Op.equalIn (d + 1) t (.bool a) (.bool b)).run P w = .ok (a == b) w := by
  simp only [Op.equalIn, Sem.run_bind, hu, Result.andThen_ok]; rfl
theorem eqn {a b : Value} {e : Bool} (h : (Op.equalIn (9999 + 1) t a b).run P w = .ok e w) (h1 : binOp .eql t a b = (do pure (.bool (← Op.equal t a b))) := by rfl) (h2 : binOp .neq t a b = (do pure (.bool (!(← Op.equal t a b)))) := by rfl) :
    (binOp .eql t a b).run P w = .ok (.bool e) w ∧ (binOp .neq t a b).run P w = .ok (.bool (!e)) w := by
  have h' : (Op.equal t a b).run P w = .ok e w := h
  rw [h1, h2]
  simp only [Sem.run_bind, h', Result.andThen_ok, Sem.run_pure, and_self]
end

theorem nilEq_sim {A} (hA : Par.OK A) {m nv S} (w : World) {t : TypeId} {i : TI} (ht : A.ti t = some i) {x y : IVal} {rx ry : Value} {b : Bool} (h : nilEq i.und x y = some b) (hx : VR m nv S x rx) (hy : VR m nv S y ry) (px py : Operand) :
    (eqGuard .eql t px py rx ry).run A.P w = .ok () w ∧ (eqGuard .neq t px py rx ry).run A.P w = .ok () w ∧
    (binOp .eql t rx ry).run A.P w = .ok (.bool b) w ∧ (binOp .neq t rx ry).run A.P w = .ok (.bool (!b)) w := by
  have hu := run_underlying_ti hA ht w
  unfold nilEq at h
  split at h
  case h_1 e hund => cases h; cases nilp_inv hx; cases nilp_inv hy; rw [hund] at hu; exact ⟨eqG_ptr .., eqG_ptr .., eqn (eqI_ptr1 _ hu _)⟩
  case h_2 e _ _ _ hund => cases h; cases nilp_inv hx; obtain ⟨a, rfl⟩ := ptr_inv hy; rw [hund] at hu; exact ⟨eqG_ptr .., eqG_ptr .., eqn (eqI_ptr1 _ hu _)⟩
  case h_3 e _ hund => cases h; cases nilp_inv hx; obtain ⟨a, rfl⟩ := rptr_inv hy; rw [hund] at hu; exact ⟨eqG_ptr .., eqG_ptr .., eqn (eqI_ptr1 _ hu _)⟩
  case h_4 e _ _ _ hund => cases h; cases nilp_inv hy; obtain ⟨a, rfl⟩ := ptr_inv hx; rw [hund] at hu; exact ⟨eqG_ptr .., eqG_ptr .., eqn (eqI_ptr2 _ hu _)⟩
  case h_5 e _ hund => cases h; cases nilp_inv hy; obtain ⟨a, rfl⟩ := rptr_inv hx; rw [hund] at hu; exact ⟨eqG_ptr .., eqG_ptr .., eqn (eqI_ptr2 _ hu _)⟩
  case h_6 e hund => cases h; cases nils_inv hx; cases nils_inv hy; rw [hund] at hu; exact ⟨eqG_slice .., eqG_slice .., eqn (eqI_slice1 _ hu _ _ _ _ _)⟩
  case h_7 e _ _ hund => cases h; cases nils_inv hx; obtain ⟨a, c, rfl⟩ := slc_inv hy; rw [hund] at hu; exact ⟨eqG_slice .., eqG_slice .., eqn (eqI_slice1 _ hu _ _ _ _ _)⟩
  case h_8 e _ _ _ _ hund => cases h; cases nils_inv hx; obtain ⟨a, c, rfl⟩ := mref_inv hy; rw [hund] at hu; exact ⟨eqG_slice .., eqG_slice .., eqn (eqI_slice1 _ hu _ _ _ _ _)⟩
  case h_9 e _ _ hund => cases h; cases nils_inv hy; obtain ⟨a, c, rfl⟩ := slc_inv hx; rw [hund] at hu; exact ⟨eqG_slice .., eqG_slice .., eqn (eqI_slice2 _ hu _ _ _ _ _)⟩
  case h_10 e _ _ _ _ hund => cases h; cases nils_inv hy; obtain ⟨a, c, rfl⟩ := mref_inv hx; rw [hund] at hu; exact ⟨eqG_slice .., eqG_slice .., eqn (eqI_slice2 _ hu _ _ _ _ _)⟩
  case h_11 e _ hund => cases h; cases nilm_inv hx; cases nilm_inv hy; rw [hund] at hu; exact ⟨eqG_map .., eqG_map .., eqn (eqI_map1 _ hu _)⟩
  case h_12 e _ _ _ hund => cases h; cases nilm_inv hx; obtain ⟨a, rfl⟩ := map_inv hy; rw [hund] at hu; exact ⟨eqG_map .., eqG_map .., eqn (eqI_map1 _ hu _)⟩
  case h_13 e _ _ _ hund => cases h; cases nilm_inv hy; obtain ⟨a, rfl⟩ := map_inv hx; rw [hund] at hu; exact ⟨eqG_map .., eqG_map .., eqn (eqI_map2 _ hu _)⟩
  case h_14 a' b' hund => cases h; cases bool_inv hx; cases bool_inv hy; rw [hund] at hu; exact ⟨eqG_bool .., eqG_bool .., eqn (eqI_bool _ hu _ _)⟩
  case h_15 => cases h

theorem ite_some {α : Type} {c : Prop} [Decidable c] {x v : α} (h : (if c then some x else none) = some v) : c ∧ x = v := by
  split at h
  · rename_i e; exact ⟨e, Option.some.inj h⟩
  · cases h

theorem agg_inv {m nv S cs r} (h : VR m nv S (.agg cs) r) : ∃ rs, r = .agg rs.toArray ∧ VRs m nv S cs rs := by cases h with | agg _ ss h1 _ => exact ⟨ss, rfl, h1⟩
theorem dagg_inv {m nv S cs r} (h : VR m nv S (.dat (.agg cs)) r) : ∃ rs, r = .agg rs.toArray ∧ VRDs S.sc cs rs := by cases h with | dat _ _ h _ => cases h with | agg _ ss h1 _ => exact ⟨ss, rfl, h1⟩

abbrev guarded (op : BinOp) (t : TypeId) (px py : Operand) (rx ry : Value) : Sem Value := do eqGuard op t px py rx ry; binOp op t rx ry

theorem guarded_run {P : Program} {w : World} {op : BinOp} {t : TypeId} {px py : Operand} {rx ry r : Value} (h1 : (eqGuard op t px py rx ry).run P w = .ok () w) (h2 : (binOp op t rx ry).run P w = .ok r w) :
    (guarded op t px py rx ry).run P w = .ok r w := by
  simp only [guarded, Sem.run_bind, h1, Result.andThen_ok, h2]

theorem binI_sim {A} (hA : Par.OK A) {m nv S} (w : World) {op : BinOp} {t : TypeId} {x y v : IVal} {rx ry : Value} (h : binI A op t x y = some v) (hx : VR m nv S x rx) (hy : VR m nv S y ry) (px py : Operand) :
    ∃ r, (guarded op t px py rx ry).run A.P w = .ok r w ∧ VR m nv S v r := by
  unfold binI at h
  split at h
  case h_1 => obtain ⟨rfl, rfl⟩ := ite_some h; cases int_inv hx; cases int_inv hy; exact ⟨_, guarded_run (eqG_int ..) (by simp [binOp, Op.intArith]; rfl), by rw [wrapI_eq]; exact vi _ _⟩
  case h_2 => obtain ⟨rfl, rfl⟩ := ite_some h; cases int_inv hx; cases int_inv hy; exact ⟨_, guarded_run (eqG_int ..) (by simp [binOp, Op.intArith]; rfl), by rw [wrapI_eq]; exact vi _ _⟩
  case h_3 => obtain ⟨rfl, rfl⟩ := ite_some h; cases int_inv hx; cases int_inv hy; exact ⟨_, guarded_run (eqG_int ..) (by simp [binOp, Op.intArith]; rfl), by rw [wrapI_eq]; exact vi _ _⟩
  case h_4 k a k' b => obtain ⟨rfl, rfl⟩ := ite_some h; cases int_inv hx; cases int_inv hy; refine ⟨.bool (a == b), guarded_run (eqG_int ..) (by simp [binOp, Op.intCmp]), ?_⟩; have e : (a == b) = _ := (by first | rfl | (simp only [bne, BEq.beq])); exact e ▸ vb _
  case h_5 k a k' b => obtain ⟨rfl, rfl⟩ := ite_some h; cases int_inv hx; cases int_inv hy; refine ⟨.bool (a != b), guarded_run (eqG_int ..) (by simp [binOp, Op.intCmp]), ?_⟩; have e : (a != b) = _ := (by first | rfl | (simp only [bne, BEq.beq])); exact e ▸ vb _
  case h_6 k a k' b => obtain ⟨rfl, rfl⟩ := ite_some h; cases int_inv hx; cases int_inv hy; refine ⟨.bool (decide (a < b)), guarded_run (eqG_int ..) (by simp [binOp, Op.intCmp]), ?_⟩; have e : (decide (a < b)) = _ := (by first | rfl | (simp only [bne, BEq.beq])); exact e ▸ vb _
  case h_7 k a k' b => obtain ⟨rfl, rfl⟩ := ite_some h; cases int_inv hx; cases int_inv hy; refine ⟨.bool (decide (a ≤ b)), guarded_run (eqG_int ..) (by simp [binOp, Op.intCmp]), ?_⟩; have e : (decide (a ≤ b)) = _ := (by first | rfl | (simp only [bne, BEq.beq])); exact e ▸ vb _
  case h_8 k a k' b => obtain ⟨rfl, rfl⟩ := ite_some h; cases int_inv hx; cases int_inv hy; refine ⟨.bool (decide (a > b)), guarded_run (eqG_int ..) (by simp [binOp, Op.intCmp]), ?_⟩; have e : (decide (a > b)) = _ := (by first | rfl | (simp only [bne, BEq.beq])); exact e ▸ vb _
  case h_9 k a k' b => obtain ⟨rfl, rfl⟩ := ite_some h; cases int_inv hx; cases int_inv hy; refine ⟨.bool (decide (a ≥ b)), guarded_run (eqG_int ..) (by simp [binOp, Op.intCmp]), ?_⟩; have e : (decide (a ≥ b)) = _ := (by first | rfl | (simp only [bne, BEq.beq])); exact e ▸ vb _
  case h_10 a b =>
    obtain ⟨h1, rfl⟩ := ite_some h
    cases str_inv hx; cases str_inv hy
    have h1 := Nat.le_of_ble_eq_true h1
    refine ⟨.string ⟨(a ++ b).toArray⟩, guarded_run (eqG_str ..) ?_, vs' _⟩
    have hle : ¬ ((((ByteArray.mk a.toArray).size + (ByteArray.mk b.toArray).size : Nat) : Int) > IntKind.i64.max) := by
      have e0 : IntKind.i64.max = 9223372036854775807 := by decide
      have e1 : (ByteArray.mk a.toArray).size = a.length := by simp [ByteArray.size]
      have e2 : (ByteArray.mk b.toArray).size = b.length := by simp [ByteArray.size]
      rw [e0, e1, e2]; omega
    have e3 : (ByteArray.mk a.toArray ++ ByteArray.mk b.toArray) = ByteArray.mk (a ++ b).toArray := by
      apply ByteArray.ext; apply Array.ext'; simp [ByteArray.data_append]
    simp only [binOp, Op.stringOp]
    rw [if_neg hle, e3]; rfl
  case h_11 a b => cases h; cases str_inv hx; cases str_inv hy; exact ⟨.bool (bytesEq a b), guarded_run (eqG_str ..) (by simp only [binOp, Op.stringOp, toList_mk, bytesEq_eq]; rfl), vb _⟩
  case h_12 a b => cases h; cases str_inv hx; cases str_inv hy; exact ⟨.bool (!bytesEq a b), guarded_run (eqG_str ..) (by simp only [binOp, Op.stringOp, toList_mk, bytesEq_eq]; rfl), vb _⟩
  case h_13 a b => cases h; cases str_inv hx; cases str_inv hy; exact ⟨.bool (Op.bytesLess a b), guarded_run (eqG_str ..) (by simp only [binOp, Op.stringOp, toList_mk]; rfl), vb _⟩
  case h_14 a b => cases h; cases str_inv hx; cases str_inv hy; exact ⟨.bool (Op.bytesLess a b || bytesEq a b), guarded_run (eqG_str ..) (by simp only [binOp, Op.stringOp, toList_mk, bytesEq_eq]; rfl), vb _⟩
  case h_15 a b => cases h; cases str_inv hx; cases str_inv hy; exact ⟨.bool (!(Op.bytesLess a b || bytesEq a b)), guarded_run (eqG_str ..) (by simp only [binOp, Op.stringOp, toList_mk, bytesEq_eq]; rfl), vb _⟩
  case h_16 a b => cases h; cases str_inv hx; cases str_inv hy; exact ⟨.bool (!Op.bytesLess a b), guarded_run (eqG_str ..) (by simp only [binOp, Op.stringOp, toList_mk]; rfl), vb _⟩
  case h_17 k a k' b h1 h2 h3 h4 h5 h6 h7 h8 h9 =>
    cases int_inv hx; cases int_inv hy
    split at h
    · rename_i e; cases h; exact ⟨_, guarded_run (eqG_int ..) (pureRun_run A.P w e), vi _ _⟩
    · rename_i e; cases h; exact ⟨_, guarded_run (eqG_int ..) (pureRun_run A.P w e), vb _⟩
    · cases h
  case h_18 =>
    split at h
    · rename_i i ht
      split at h
      · rename_i b e
        cases h
        obtain ⟨h1, _, h3, _⟩ := nilEq_sim hA w ht e hx hy px py
        exact ⟨_, guarded_run h1 h3, vb _⟩
      · split at h
        · have he : A.eqT t = true := by assumption
          split at h
          · rename_i a' b' e1 e2
            obtain ⟨ra, rfl, va⟩ := agg_inv hx
            obtain ⟨rb, rfl, vb'⟩ := agg_inv hy
            obtain ⟨e, hk, rfl⟩ := Option.map_eq_some_iff.1 h
            obtain ⟨q1, _, q3, _⟩ := eqAgg_sim hA he hk w (mapO_asDat e1 va) (mapO_asDat e2 vb') px py
            exact ⟨_, guarded_run q1 q3, vb _⟩
          · cases h
        · have he : A.eqT t = true := by assumption
          split at h
          · rename_i a' e1
            obtain ⟨ra, rfl, va⟩ := agg_inv hx
            obtain ⟨rb, rfl, vb'⟩ := dagg_inv hy
            obtain ⟨e, hk, rfl⟩ := Option.map_eq_some_iff.1 h
            obtain ⟨q1, _, q3, _⟩ := eqAgg_sim hA he hk w (mapO_asDat e1 va) vb' px py
            exact ⟨_, guarded_run q1 q3, vb _⟩
          · cases h
        · have he : A.eqT t = true := by assumption
          split at h
          · rename_i b' e2
            obtain ⟨ra, rfl, va⟩ := dagg_inv hx
            obtain ⟨rb, rfl, vb'⟩ := agg_inv hy
            obtain ⟨e, hk, rfl⟩ := Option.map_eq_some_iff.1 h
            obtain ⟨q1, _, q3, _⟩ := eqAgg_sim hA he hk w va (mapO_asDat e2 vb') px py
            exact ⟨_, guarded_run q1 q3, vb _⟩
          · cases h
        · have he : A.eqT t = true := by assumption
          obtain ⟨ra, rfl, va⟩ := dagg_inv hx
          obtain ⟨rb, rfl, vb'⟩ := dagg_inv hy
          obtain ⟨e, hk, rfl⟩ := Option.map_eq_some_iff.1 h
          obtain ⟨q1, _, q3, _⟩ := eqAgg_sim hA he hk w va vb' px py
          exact ⟨_, guarded_run q1 q3, vb _⟩
        · cases h
    · cases h
  case h_19 =>
    split at h
    · rename_i i ht
      split at h
      · rename_i b e
        cases h
        obtain ⟨_, h2, _, h4⟩ := nilEq_sim hA w ht e hx hy px py
        exact ⟨_, guarded_run h2 h4, vb _⟩
      · split at h
        · have he : A.eqT t = true := by assumption
          split at h
          · rename_i a' b' e1 e2
            obtain ⟨ra, rfl, va⟩ := agg_inv hx
            obtain ⟨rb, rfl, vb'⟩ := agg_inv hy
            obtain ⟨e, hk, rfl⟩ := Option.map_eq_some_iff.1 h
            obtain ⟨_, q2, _, q4⟩ := eqAgg_sim hA he hk w (mapO_asDat e1 va) (mapO_asDat e2 vb') px py
            exact ⟨_, guarded_run q2 q4, vb _⟩
          · cases h
        · have he : A.eqT t = true := by assumption
          split at h
          · rename_i a' e1
            obtain ⟨ra, rfl, va⟩ := agg_inv hx
            obtain ⟨rb, rfl, vb'⟩ := dagg_inv hy
            obtain ⟨e, hk, rfl⟩ := Option.map_eq_some_iff.1 h
            obtain ⟨_, q2, _, q4⟩ := eqAgg_sim hA he hk w (mapO_asDat e1 va) vb' px py
            exact ⟨_, guarded_run q2 q4, vb _⟩
          · cases h
        · have he : A.eqT t = true := by assumption
          split at h
          · rename_i b' e2
            obtain ⟨ra, rfl, va⟩ := dagg_inv hx
            obtain ⟨rb, rfl, vb'⟩ := agg_inv hy
            obtain ⟨e, hk, rfl⟩ := Option.map_eq_some_iff.1 h
            obtain ⟨_, q2, _, q4⟩ := eqAgg_sim hA he hk w va (mapO_asDat e2 vb') px py
            exact ⟨_, guarded_run q2 q4, vb _⟩
          · cases h
        · have he : A.eqT t = true := by assumption
          obtain ⟨ra, rfl, va⟩ := dagg_inv hx
          obtain ⟨rb, rfl, vb'⟩ := dagg_inv hy
          obtain ⟨e, hk, rfl⟩ := Option.map_eq_some_iff.1 h
          obtain ⟨_, q2, _, q4⟩ := eqAgg_sim hA he hk w va vb' px py
          exact ⟨_, guarded_run q2 q4, vb _⟩
        · cases h
    · cases h
  case h_20 => cases h

theorem unI_sim {A : Par} {m nv S} (w : World) {op : UnOp} {x v : IVal} {rx : Value} (h : unI A op x = some v) (hx : VR m nv S x rx) : ∃ r, (Op.unary op rx).run A.P w = .ok r w ∧ VR m nv S v r := by
  unfold unI at h
  split at h
  · cases h; cases bool_inv hx; exact ⟨_, rfl, vb _⟩
  · cases int_inv hx
    split at h
    · rename_i e; cases h; exact ⟨_, pureRun_run A.P w e, vi _ _⟩
    · cases h
  · cases h
end Go.Ideal
