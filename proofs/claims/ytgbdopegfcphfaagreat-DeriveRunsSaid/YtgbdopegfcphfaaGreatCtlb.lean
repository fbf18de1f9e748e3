/- Regions and code. No condition. -/
import Derived.Test.YtgbdopegfcphfaaGreatCtl
namespace Go.Ideal

theorem wanted_slot {m nv S tm tmps} (ops : Array Oper) (o : Oper) (h : ∀ j want d, o.guard = some (j, want) → (ops[j]?).bind (·.dst) = some d → VR m nv S (tm.get d) (tmps.getD d undef)) : Region.wanted o (yielded ops tmps) = wantedI ops tm o := by
  unfold Region.wanted wantedI
  cases hg : o.guard with
  | none => rfl
  | some g =>
    obtain ⟨j, want⟩ := g
    simp only [yielded]
    cases hd : (ops[j]?).bind (·.dst) with
    | none => simp
    | some d =>
      simp only [Option.bind_some]
      have hv := h j want d hg hd
      have key : ∀ b, tm.get d = .dat (.bool b) ↔ tmps[d]? = some (.bool b) := by
        intro b
        constructor
        · intro e
          rw [e] at hv
          have := bool_inv hv
          rw [Array.getD_eq_getD_getElem?] at this
          cases ht : tmps[d]? with
          | none => rw [ht] at this; cases this
          | some x => rw [ht] at this; simpa using this
        · intro e
          rw [Array.getD_eq_getD_getElem?, e, Option.getD_some] at hv
          generalize tm.get d = v at hv
          cases hv with
          | dat x _ hx _ => cases hx; rfl
      by_cases hb : ∃ b, tm.get d = .dat (.bool b)
      · obtain ⟨b, hb⟩ := hb
        rw [hb, (key b).1 hb]
        rfl
      · refine Eq.trans (b := false) ?_ (Eq.symm ?_)
        · split
          · rename_i b e; exact absurd ⟨b, (key b).2 e⟩ hb
          · rfl
        · split
          · rename_i b e; exact absurd ⟨b, e⟩ hb
          · rfl

theorem wanted_eq {m nv S n tm tmps} (h : TR m nv S n tm tmps) (ops : Array Oper) (o : Oper) : Region.wanted o (yielded ops tmps) = wantedI ops tm o := wanted_slot ops o (fun _ _ d _ _ => h.at_ d)

theorem ops_sim {A} (hA : Par.OK A) {call : CallI} (hC : CallOK A call) (ro : Option Nat) {n : Nat} {ops : Array Oper} {QQ : Exit → Act → World → Prop} : ∀ (rest : List Oper) (i : Nat), ops.toList.drop i = rest →
    ∀ {m S s w tm a} {Q : Tm × ISt → Prop}, (opsI A call n ops rest tm s).All Q → HR A m S s w → TR m s.nv S n tm a.tmps →
    (∀ tm' s' m' S' w' tmps', Q (tm', s') → TR m' s'.nv S' n tm' tmps' → HR A m' S' s' w' → Step m s.nv S w m' s'.nv S' w' → QQ .normal ⟨tmps', a.defers⟩ w') →
    wpOpsIn (FW ro) 0 A.P ops QQ ((List.range ops.size).drop i) a w
  | [], i, hd, m, S, s, w, tm, a, Q, hx, h, ht, hq => by
    have : ops.size ≤ i := by
      have := congrArg List.length hd
      simp at this; omega
    rw [List.drop_eq_nil_of_le (by simpa using this)]
    exact hq tm s m S w a.tmps hx ht h (.refl _ _ _ _)
  | o :: rest, i, hd, m, S, s, w, tm, a, Q, hx, h, ht, hq => by
    have hi : i < ops.size := by
      rcases Nat.lt_or_ge i ops.size with h0 | h0
      · exact h0
      · rw [List.drop_eq_nil_of_le (by simpa using h0)] at hd; cases hd
    have hdrop : (List.range ops.size).drop i = i :: (List.range ops.size).drop (i + 1) := by
      rw [List.drop_eq_getElem_cons (by simpa using hi)]
      simp
    have ho : ops[i]? = some o := by
      have := congrArg (fun l => l[0]?) hd
      simpa [List.getElem?_drop] using this
    have hrest : ops.toList.drop (i + 1) = rest := by
      have := congrArg (List.drop 1) hd
      simpa [List.drop_drop, Nat.add_comm] using this
    rw [hdrop]
    simp only [wpOpsIn, ho]
    rw [wanted_eq ht ops o]
    simp only [opsI] at hx
    split at hx
    · rename_i hw
      rw [hw, if_pos rfl]
      refine exec_sim hA hC h (ht.rho a.defers) (Tree.bind_all hx) ro _ QQ (fun v s' m' S' w' r q hv hh hs => ?_)
      simp only at q
      split at q
      case h_2 => exact q.elim
      rename_i tm' hp
      have ht' := (ht.mono hs.g).put hp hv a.defers
      have hdef : (a.put o.dst r).defers = a.defers := by cases hdst : o.dst <;> simp [Act.put]
      refine ops_sim hA hC ro rest (i + 1) hrest q hh ht' (fun tm2 s2 m2 S2 w2 tmps2 q2 t2 h2 st2 => ?_)
      rw [hdef]
      exact hq tm2 s2 m2 S2 w2 tmps2 q2 t2 h2 (hs.trans st2)
    · rename_i hw
      rw [hw, if_neg (by simp)]
      split at hx
      case h_2 => exact hx.elim
      rename_i tm' hp
      refine ⟨about_FW _ _ _ _ _, ?_⟩
      have ht' := ht.put hp undef_VR a.defers
      have hdef : (a.put o.dst undef).defers = a.defers := by cases hdst : o.dst <;> simp [Act.put]
      refine ops_sim hA hC ro rest (i + 1) hrest hx h ht' (fun tm2 s2 m2 S2 w2 tmps2 q2 t2 h2 st2 => ?_)
      rw [hdef]
      exact hq tm2 s2 m2 S2 w2 tmps2 q2 t2 h2 st2

/-- the marks that loops over functions leave among the deferred calls. -/
def DefOK (lo : Nat) (m : List MI) (w : World) : List Deferred → Prop
  | [] => lo ≤ w.heap.size
  | d :: ds => (∃ r, lo ≤ r ∧ d.target = .collected r ∧ w.heap[r]? = some (.deferred (some [])) ∧ (∀ (id : Nat) (mi : MI), m[id]? = some mi → mi.b ≠ r) ∧ ∀ d' ∈ ds, d'.target ≠ .collected r) ∧ DefOK lo m w ds

theorem DefOK.step {lo m nv S w m' nv' S' w'} (st : Step m nv S w m' nv' S' w') : ∀ {ds : List Deferred}, DefOK lo m w ds → DefOK lo m' w' ds
  | [], h => Nat.le_trans h st.k.size
  | d :: ds, ⟨⟨r, h0, h1, h2, h3, h4⟩, h5⟩ => by
    have hlt := heap_lt h2
    refine ⟨⟨r, h0, h1, by rw [st.k.blk r hlt h3]; exact h2, fun id mi e => ?_, h4⟩, DefOK.step st h5⟩
    rcases st.fresh id mi e with ⟨id0, mi0, e0, e1⟩ | e1
    · rw [← e1]; exact h3 id0 mi0 e0
    · omega

theorem DefOK.lo {lo m w} : ∀ {ds : List Deferred}, DefOK lo m w ds → lo ≤ w.heap.size
  | [], h => h
  | _ :: _, h => DefOK.lo h.2

def LoopAt (ro : Option Nat) (w : World) : Prop := ∀ l, ro = some l → ∃ lp : Loop, w.heap[l]? = some (Obj.loop lp)
theorem LoopAt.step {ro m nv S w m' nv' S' w'} (h : LoopAt ro w) (st : Step m nv S w m' nv' S' w') : LoopAt ro w' := fun l e => by
  obtain ⟨lp, hl⟩ := h l e
  exact st.k.loop l lp hl

def exitOf : IExit → Exit
  | .normal => .normal
  | .exit i => .exit i
  | .ret => .ret

/-- the state of both after a piece of code. -/
def PostX (A : Par) (lo n : Nat) (m : List MI) (S : Snap) (s : ISt) (w : World) (Q : IExit × Tm × ISt → Prop) : Exit → Act → World → Prop := fun e a' w' =>
  ∃ ie tm' s' m' S', Q (ie, tm', s') ∧ e = exitOf ie ∧ TR m' s'.nv S' n tm' a'.tmps ∧ HR A m' S' s' w' ∧ Step m s.nv S w m' s'.nv S' w' ∧ DefOK lo m' w' a'.defers

/-- A NEW BLOCK THAT IS NO IDEAL OBJECT. -/
theorem HR.allocOut {A m S s w} (h : HR A m S s w) (o : Obj) : HR A m S s (w.alloc o) ∧ Step m s.nv S w m s.nv S (w.alloc o) :=
  ⟨⟨h.len, fun id ver o' e => by
      obtain ⟨mi, h1, h2, h3, h4, h5⟩ := h.obj id ver o' e
      exact ⟨mi, h1, h2, h3, by rw [alloc_lt w _ (h.lt h1)]; exact h4, h5⟩, h.inj, h.snap.alloc o⟩,
   .refl _ _ _, ⟨by simp, fun b hb _ => alloc_lt w _ hb, fun b l hl => ⟨l, by rw [alloc_lt w _ (heap_lt hl)]; exact hl⟩, rfl, rfl, rfl⟩, fun id mi e => .inl ⟨id, mi, e, rfl⟩, fun _ _ _ _ => rfl⟩

theorem loop_at {A m S s w} (h : HR A m S s w) {id ver : Nat} {st : LoopState} {pend : Option Code} {n : Nat} {tm : Tm} {ps : List Tmp} {as bd : Code} (ho : s.obj id ver = some (.loop st pend n tm ps as bd)) {mi : MI} (hm : m[id]? = some mi) :
    ∃ r : Loop, w.heap[mi.b]? = some (Obj.loop r) ∧ r.state = st ∧ r.pending = pend ∧ r.params = ps.toArray ∧ r.assign = as ∧ r.body = bd ∧ TR m s.nv S n tm r.tmps ∧ mi.ver = ver := by
  obtain ⟨mi', k1, k2, k3, ⟨r, o1, o2⟩, k5⟩ := h.obj id ver _ (obj_at ho)
  rw [hm] at k1; cases k1
  exact ⟨r, o1, o2.1, o2.2.1, o2.2.2.1, o2.2.2.2.1, o2.2.2.2.2.1, o2.2.2.2.2.2, k2⟩

/-- a loop's record is written. -/
theorem loop_set {A m S s w} (h : HR A m S s w) {id ver : Nat} {st : LoopState} {pend : Option Code} {n : Nat} {tm : Tm} {ps : List Tmp} {as bd : Code} (ho : s.obj id ver = some (.loop st pend n tm ps as bd)) {mi : MI} (hm : m[id]? = some mi)
    {r : Loop} (hr : w.heap[mi.b]? = some (Obj.loop r)) (st' : LoopState) (pend' : Option Code) :
    HR A m S (s.setObj id ver (.loop st' pend' n tm ps as bd)) (putObj w mi.b (Obj.loop { r with state := st', pending := pend' })) ∧
      Step m s.nv S w m s.nv S (putObj w mi.b (Obj.loop { r with state := st', pending := pend' })) ∧
      (setObj mi.b (Obj.loop { r with state := st', pending := pend' })).run A.P w = .ok () (putObj w mi.b (Obj.loop { r with state := st', pending := pend' })) := by
  obtain ⟨r', o1, o2, o3, o4, o5, o6, o7, o8⟩ := loop_at h ho hm
  rw [hr] at o1; cases o1
  obtain ⟨n1, n2⟩ := h.set ho (.loop st' pend' n tm ps as bd) (Obj.loop { r with state := st', pending := pend' }) hm ⟨_, rfl, rfl, rfl, o4, o5, o6, o7⟩ (fun _ _ _ e => by cases e)
    (fun i v e => by have := h.snap.sc _ _ _ e; simp [World.cell?, hr] at this) (fun l hl => ⟨_, rfl⟩)
  exact ⟨n1, n2, run_setObj_putObj _ _ hr (by intro _ _ _ e; cases e)⟩
end Go.Ideal
