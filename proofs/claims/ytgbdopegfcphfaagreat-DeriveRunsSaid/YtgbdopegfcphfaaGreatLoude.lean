/- Walks of maps begin; the small built-ins; conversions; slice literals. No condition. -/
import Derived.Test.YtgbdopegfcphfaaGreatLoudd
import Derived.Laws.NewFold
namespace Go.Ideal

theorem iter_new {A m S s w} (h : HR A m S s w) (x : IVal) (rm : Option Nat) (since : Nat) (st : Nat) (hx : VR m s.nv S x (.map rm)) :
    HR A (m ++ [⟨w.heap.size, s.nv, 1⟩]) S (s.new (.iter x since [] st)) (w.alloc (.mapIter rm since #[] st)) ∧ Step m s.nv S w (m ++ [⟨w.heap.size, s.nv, 1⟩]) (s.nv + 1) S (w.alloc (.mapIter rm since #[] st)) :=
  h.new _ _ 1 ⟨rm, rfl, hx⟩

theorem range_nil {A} (hA : Par.OK A) {m S s w} (h : HR A m S s w) {t : TypeId} {kt e : TypeId} (hkt : mapKT A t = some (kt, e)) {rx : Value} (hx : VR m s.nv S (.dat .nilm) rx) :
    ValOK A m S s w (.ptr s.H.length s.nv 0) (s.new (.iter (.dat .nilm) 0 [] 0)) ((Instr.range t rx).run A.P w) := by
  have := nilm_inv hx
  subst this
  obtain ⟨n1, n2⟩ := iter_new h _ none 0 0 hx
  refine ⟨_, _, _, _, ?_, newVar_ptr h 1, n1, n2⟩
  simp [Instr.range, mapKT_run hA hkt w]

theorem range_map {A} (hA : Par.OK A) {m S s w} (h : HR A m S s w) {t : TypeId} {kt e : TypeId} (hkt : mapKT A t = some (kt, e)) {x : IVal} {rx : Value} {ks : List (Dat × Nat)} {vs : List IVal} {clock : Nat}
    (he : mapEntries s x = some (ks, vs, clock)) (hx : VR m s.nv S x rx) :
    ValOK A m S s w (.ptr s.H.length s.nv 0) (s.new (.iter x clock [] clock)) ((Instr.range t rx).run A.P w) := by
  obtain ⟨b, kr, vr, rfl, o1, _⟩ := mapEntries_sim h he hx
  have hg : (getObj b).run A.P w = .ok (.map (entsR kr (ks.map (·.2)) vr).toArray clock) w := by simp [getObj, Sem.run, o1]
  obtain ⟨n1, n2⟩ := iter_new h _ (some b) clock clock hx
  refine ⟨_, _, _, _, ?_, newVar_ptr h 1, n1, n2⟩
  simp [Instr.range, mapKT_run hA hkt w, hg]

/-- A STEP OF A MAP'S WALK. -/
theorem next_sim {A} {m S s w} (h : HR A m S s w) {it : IVal} {rit : Value} {Q : IVal × ISt → Prop} (hn : (nextI s it).All Q) (hit : VR m s.nv S it rit) (t : TypeId) :
    ∃ v s', Q (v, s') ∧ ValOK A m S s w v s' ((Instr.next rit false t).run A.P w) := by
  unfold nextI at hn
  split at hn
  case h_2 => exact hn.elim
  rename_i id ver
  split at hn
  · rename_i since seen stepped ho
    obtain ⟨mi, k1, k2, rfl, ⟨rm, o1, o2⟩, k5⟩ := ptr_at h ho hit
    have := nilm_inv o2
    cases this
    refine ⟨_, _, hn, ValOK.same h (r := .tuple #[.bool false]) ?_ (.tuple _ _ (.cons (vb _) .nil) .nil)⟩
    have hg : (getObj mi.b).run A.P w = .ok (.mapIter none since seen.toArray stepped) w := by simp [getObj, Sem.run, o1]
    simp [Instr.next, hg]
  · rename_i mv since seen stepped hne ho
    obtain ⟨mi, k1, k2, rfl, ⟨rm, o1, o2⟩, k5⟩ := ptr_at h ho hit
    have hg : (getObj mi.b).run A.P w = .ok (.mapIter rm since seen.toArray stepped) w := by simp [getObj, Sem.run, o1]
    split at hn
    case h_2 => exact hn.elim
    rename_i ks vs clock he
    obtain ⟨b, kr, vr, e1, p1, p2, p3, p4⟩ := mapEntries_sim h he o2
    cases e1
    have hg2 : (getObj b).run A.P w = .ok (.map (entsR kr (ks.map (·.2)) vr).toArray clock) w := by simp [getObj, Sem.run, p1]
    split at hn
    · exact hn.elim
    rename_i hc
    simp only [Bool.not_eq_true', Bool.not_eq_false, Bool.and_eq_true] at hc
    obtain ⟨⟨c1, c2⟩, c3⟩ := hc
    have c1 := Nat.eq_of_beq_eq_true c1
    have c2 := Nat.eq_of_beq_eq_true c2
    subst c1
    subst c2
    obtain ⟨sel, s1, s2, s3⟩ := leftOf_get (m := m) (nv := s.nv) (S := S) seen p2 p3 p4
    have born : ∀ e ∈ entsR kr (ks.map (·.2)) vr, e.born < stepped := by
      intro e hem
      obtain ⟨j, hj⟩ := List.getElem?_of_mem hem
      simp only [entsR, List.zip, List.getElem?_zipWith] at hj
      have : ∃ p, ks[j]? = some p ∧ e.born = p.2 := by
        cases hk : ks[j]? with
        | none => simp [hk] at hj
        | some p =>
          refine ⟨p, rfl, ?_⟩
          simp only [List.getElem?_map, hk, Option.map_some] at hj
          cases h1 : kr[j]? <;> cases h2 : vr[j]? <;> simp [h1, h2] at hj
          exact hj ▸ rfl
      obtain ⟨p, q1, q2⟩ := this
      rw [q2]
      have := List.all_eq_true.1 c3 p (List.mem_of_getElem? q1)
      simpa using this
    have f1 : (!seen.toArray.isEmpty && !(entsR kr (ks.map (·.2)) vr).toArray.isEmpty && (entsR kr (ks.map (·.2)) vr).toArray.all (fun e => decide (e.born ≥ stepped))) = false := by
      cases hE : entsR kr (ks.map (·.2)) vr with
      | nil => simp
      | cons e l =>
        have := born e (by rw [hE]; simp)
        have : ¬ (stepped ≤ e.born) := by omega
        simp [this]
    have f2 : (entsR kr (ks.map (·.2)) vr).toArray.filter (fun e => !seen.toArray.contains e.born) = ((entsR kr (ks.map (·.2)) vr).filter (fun e => !seen.contains e.born)).toArray := by
      rw [List.filter_toArray]; simp
    generalize hL : (entsR kr (ks.map (·.2)) vr).filter (fun e => !seen.contains e.born) = L at f2 s2
    have bornL : ∀ e ∈ L, e.born < stepped := fun e he => born e (by rw [← hL] at he; exact (List.mem_filter.1 he).1)
    have f3 : L.toArray.filter (fun e => decide (e.born < stepped)) = L.toArray := by
      rw [List.filter_toArray, List.filter_eq_self.2 (fun e he => by simpa using bornL e he)]
    have f4 : L.toArray.filter (fun e => decide (e.born ≥ stepped)) = #[] := by
      rw [List.filter_toArray, List.filter_eq_nil_iff.2 (fun e he => by have := bornL e he; simp; omega)]
    have pre : (Instr.next (.pointer (some ⟨mi.b, 0, none⟩)) false t).run A.P w =
        (((if L.toArray.isEmpty then choose (.mapNext 1) else choose (.mapNext L.length)).run A.P w).andThen fun d w' =>
          ((match ((if L.toArray.isEmpty then #[none] else #[]) ++ L.toArray.map some)[d]? with
            | some (some e) => do setObj mi.b (.mapIter (some b) stepped (seen.toArray.push e.born) stepped); pure (.tuple #[.bool true, e.key, e.val])
            | some none => pure (.tuple #[.bool false])
            | none => stuck "Next: no such candidate" : Sem Value)).run A.P w') := by
      simp only [Instr.next, Sem.run_bind, hg, hg2, Result.andThen_ok, f1, Bool.false_eq_true, if_false, f2, f3, f4]
      cases L with
      | nil => simp; rfl
      | cons e l => simp; rfl
    rw [s1] at hn
    cases sel with
    | nil =>
      simp only [List.map_nil] at hn s2
      subst s2
      refine ⟨_, _, hn, ValOK.same h (r := .tuple #[.bool false]) ?_ (.tuple _ _ (.cons (vb _) .nil) .nil)⟩
      rw [pre]
      simp [Question.forced]
    | cons q0 sel =>
      simp only [List.map_cons] at hn
      rw [← List.map_cons (f := fun q : Dat × Value × Nat × IVal × Value => (q.1, q.2.2.1, q.2.2.2.1))] at hn
      have hLe : L.toArray.isEmpty = false := by rw [s2]; simp
      obtain ⟨d, w1, hd1, hd2, hd3, hd4⟩ : ∃ d w1, (choose (.mapNext L.length)).run A.P w = .ok d w1 ∧ d < L.length ∧ HR A m S s w1 ∧ Step m s.nv S w m s.nv S w1 ∧ True := by
        have hpos : 0 < L.length := by rw [s2]; simp
        rw [run_choose_drew]
        split
        · exact ⟨0, w, rfl, hpos, h, .refl _ _ _ _, trivial⟩
        · exact ⟨_, _, rfl, Nat.mod_lt _ hpos, h.drew, .drew _ _ _ _, trivial⟩
      have hh := hd3
      obtain ⟨hd4, _⟩ := hd4
      have hlen : L.length = (q0 :: sel).length := by rw [s2]; simp
      obtain ⟨q, hq⟩ : ∃ q, (q0 :: sel)[d]? = some q := ⟨_, List.getElem?_eq_getElem (by omega)⟩
      have hn' := hn d (by simpa [hlen] using hd2)
      simp only [List.getElem?_map, hq, Option.map_some] at hn'
      obtain ⟨v1, v2⟩ := s3 q (List.mem_of_getElem? hq)
      have hLd : L[d]? = some { key := q.2.1, val := q.2.2.2.2, born := q.2.2.1 } := by rw [s2, List.getElem?_map, hq]; rfl
      have o1' : w1.heap[mi.b]? = some (.mapIter (some b) stepped seen.toArray stepped) := by
        rw [run_choose_drew] at hd1
        split at hd1 <;> cases hd1 <;> exact o1
      obtain ⟨n1, n2⟩ := hh.set ho (.iter mv stepped (seen ++ [q.2.2.1]) stepped) (.mapIter (some b) stepped (seen.toArray.push q.2.2.1) stepped) k1 ⟨some b, by simp, o2⟩ (fun _ _ _ e => by cases e)
        (fun i v e => by have := hh.snap.sc _ _ _ e; simp [World.cell?, o1'] at this) (fun l hl => by rw [o1'] at hl; cases hl)
      refine ⟨_, _, hn', .tuple #[.bool true, q.2.1, q.2.2.2.2], _, m, S, ?_, .tuple _ _ (.cons (vb _) (.cons (VR.dat_iff.2 (v1.up _)) (.cons v2 .nil))) .nil, n1, hd4.trans n2⟩
      rw [pre, hLe]
      simp only [Bool.false_eq_true, if_false, hd1, Result.andThen_ok]
      have : ((#[] : Array (Option MapEntry)) ++ L.toArray.map some)[d]? = some (some { key := q.2.1, val := q.2.2.2.2, born := q.2.2.1 }) := by simp [hLd]
      rw [this]
      simp only [Sem.run_bind, run_setObj_putObj _ _ o1' (by intro _ _ _ e; cases e), Result.andThen_ok, Sem.run_pure]
  · exact hn.elim
end Go.Ideal
