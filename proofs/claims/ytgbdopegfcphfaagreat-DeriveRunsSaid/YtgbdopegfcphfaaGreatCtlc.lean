/- Code: what the interpreter answers the machine answers. No condition. -/
import Derived.Test.YtgbdopegfcphfaaGreatDrawe
namespace Go.Ideal

theorem wpIn_loop_fuel {F : Fence} {n : Nat} {P : Program} {Q : Exit → Act → World → Prop} {c : Code} (Inv : Nat → Act → World → Prop)
    (round : ∀ k a w, Inv k a w → c.wpIn F n P (Exit.then (fun a' w' => ∃ k', k' < k ∧ Inv k' a' w') Q) a w) {k : Nat} {a : Act} {w : World} (h₀ : Inv k a w) : (Code.loop c).wpIn F n P Q a w := by
  intro b kk cs hro hb hr
  have key : ∀ j a w, Inv j a w →
      ∃ e a' w', Q e a' w' ∧ ArrivesIn (Machine.fenced P F) P (lone (b.atR a (.code c :: .inLoop c :: kk)) cs w) b kk cs e a' w' := by
    intro j
    induction j using Nat.strongRecOn with
    | _ j ih =>
      intro a w hI
      obtain ⟨e, a₁, w₁, hq, harr⟩ := round j a w hI b (.inLoop c :: kk) cs hro hb hr
      cases e with
      | normal =>
        obtain ⟨k', hlt, hI₁⟩ := hq
        obtain ⟨e₂, a₂, w₂, hq₂, harr₂⟩ := ih k' hlt a₁ w₁ hI₁
        exact ⟨e₂, a₂, w₂, hq₂, .of_steps (StepsIn.trans harr (.one (fenced_calm hb hr rfl) stepR_inLoop)) harr₂⟩
      | exit id => exact ⟨_, a₁, w₁, hq, .pass (x := .inLoop c) rfl (fun _ _ => .inl (by simp)) harr⟩
      | goto l => exact ⟨_, a₁, w₁, hq, .pass (x := .inLoop c) rfl (fun _ _ => .inl (by simp)) harr⟩
      | ret => exact ⟨_, a₁, w₁, hq, .pass (x := .inLoop c) rfl (fun _ _ => .inl (by simp)) harr⟩
      | panic ch => exact ⟨_, a₁, w₁, hq, .pass (x := .inLoop c) rfl (fun _ _ => .inl (by simp)) harr⟩
      | outgrown => exact ⟨_, a₁, w₁, hq, .pass (x := .inLoop c) rfl (fun _ _ => .inl (by simp)) harr⟩
  obtain ⟨e, a', w', hq, harr⟩ := key _ a w h₀
  exact ⟨e, a', w', hq, .of_steps (.one (fenced_calm hb hr rfl) stepR_loop) harr⟩

theorem stepR_scope {P : Program} {b : Frame} {a : Act} {k : List Item} {cs : List Frame} {w : World} {c : Code} : step P (lone (b.atR a (.code (.scope c) :: k)) cs w) = .next (lone (b.atR a (.code c :: .inScope c :: k)) cs w) :=
  step_lone_go (by simp [stepG, stepG.exec, Frame.atR])
theorem stepR_inScope {P : Program} {b : Frame} {a : Act} {k : List Item} {cs : List Frame} {w : World} {c : Code} : step P (lone (b.atR a (.inScope c :: k)) cs w) = .next (lone (b.atR a k) cs w) :=
  step_lone_go (by simp [stepG, stepG.exec, Frame.atR])

theorem wpIn_scope {F : Fence} {n : Nat} {P : Program} {Q : Exit → Act → World → Prop} {c : Code} {a : Act} {w : World} (h : c.wpIn F n P Q a w) (hng : ∀ l a w, ¬ Q (.goto l) a w) : (Code.scope c).wpIn F n P Q a w := by
  intro b k cs hro hb hr
  have h0 : (lone (b.atR a (.code (.scope c) :: k)) cs w).fenced P F := fenced_calm hb hr rfl
  obtain ⟨e, a₁, w₁, hq, harr⟩ := h b (.inScope c :: k) cs hro hb hr
  cases e with
  | normal => exact ⟨.normal, a₁, w₁, hq, .head h0 stepR_scope (StepsIn.trans harr (.one (fenced_calm hb hr rfl) stepR_inScope))⟩
  | exit id =>
    refine ⟨.exit id, a₁, w₁, hq, .of_steps (.one h0 stepR_scope) ⟨fun k' hk => harr.1 k' (by simp [exitTo, hk]), fun hrr hk => harr.2 hrr (by simp [exitTo, hk])⟩⟩
  | goto l => exact absurd hq (hng _ _ _)
  | ret => exact ⟨_, a₁, w₁, hq, .of_steps (.one h0 stepR_scope) harr⟩
  | panic ch => exact ⟨_, a₁, w₁, hq, .of_steps (.one h0 stepR_scope) harr⟩
  | outgrown => exact ⟨_, a₁, w₁, hq, .of_steps (.one h0 stepR_scope) harr⟩

theorem PostX.from {A lo n m S s w} {m1 S1 s1 w1} (st : Step m s.nv S w m1 s1.nv S1 w1) {Q : IExit × Tm × ISt → Prop} {e a' w'} (h : PostX A lo n m1 S1 s1 w1 Q e a' w') : PostX A lo n m S s w Q e a' w' := by
  obtain ⟨ie, tm', s', m', S', q, e1, t, hh, st2, d⟩ := h
  exact ⟨ie, tm', s', m', S', q, e1, t, hh, st.trans st2, d⟩

theorem callFunc_body {P : Program} {f : FuncId} {fn : Func} (hf : P.funcs[f]? = some fn) (hb : fn.body.isSome = true) (hn : (fn.name == "runtime.NumGoroutine") = false) (args : Array Value) (w : World) :
    (callFunc f args).run P w = .ok (.enter f args) w := by
  have hb' : fn.body ≠ none := by intro hbb; rw [hbb] at hb; cases hb
  have hn' : fn.name ≠ "runtime.NumGoroutine" := by simpa using hn
  simp [callFunc, hf, hn', hb']

theorem code_sim {A} (hA : Par.OK A) {call : CallI} (hC : CallOK A call) {lo n : Nat} : ∀ (c : Code) (ro : Option Nat) {m S s w tm a} {Q : IExit × Tm × ISt → Prop}, (codeI A call n c tm s).All Q → HR A m S s w → TR m s.nv S n tm a.tmps → DefOK lo m w a.defers → LoopAt ro w →
    c.wpIn (FW ro) 0 A.P (PostX A lo n m S s w Q) a w := by
  intro c
  induction c with
  | skip => intro ro m S s w tm a Q hx h ht hd hl; exact wpIn_skip ⟨.normal, tm, s, m, S, hx, rfl, ht, h, .refl _ _ _ _, hd⟩
  | label l => intro ro m S s w tm a Q hx h ht hd hl; exact wpIn_label ⟨.normal, tm, s, m, S, hx, rfl, ht, h, .refl _ _ _ _, hd⟩
  | exit i => intro ro m S s w tm a Q hx h ht hd hl; exact wpIn_exit ⟨.exit i, tm, s, m, S, hx, rfl, ht, h, .refl _ _ _ _, hd⟩
  | ret => intro ro m S s w tm a Q hx h ht hd hl; exact wpIn_ret ⟨.ret, tm, s, m, S, hx, rfl, ht, h, .refl _ _ _ _, hd⟩
  | goto l => intro ro m S s w tm a Q hx h ht hd hl; exact hx.elim
  | refuse l => intro ro m S s w tm a Q hx h ht hd hl; exact hx.elim
  | region id ops draw =>
    intro ro m S s w tm a Q hx h ht hd hl
    cases draw with
    | true =>
      simp only [codeI] at hx
      refine wpIn_region_any hA.mixed ?_
      have hd0 := Step.drew m s.nv S w
      exact draw_sim hA hC ro a.defers (m0 := m) (nv0 := s.nv) (S0 := S) (w0 := w) (QQ := PostX A lo n m S s w Q)
        (fun tm' s' m' S' w' tmps' q t' h' st => ⟨.normal, tm', s', m', S', q, rfl, t', h', st, hd.step st⟩)
        (ops.size + 1) (Tree.bind_all hx) (draw_start h.drew ht) (by
          unfold unl
          exact Nat.le_trans (List.length_filter_le _ _) (by simp)) hd0
    | false =>
      simp only [codeI] at hx
      refine wpIn_region ?_
      have := ops_sim hA hC ro (QQ := PostX A lo n m S s w Q) ops.toList 0 rfl (Tree.bind_all hx) h ht (a := a) (fun tm' s' m' S' w' tmps' q t' h' st => ⟨.normal, tm', s', m', S', q, rfl, t', h', st, hd.step st⟩)
      simpa using this
  | seq x y ihx ihy =>
    intro ro m S s w tm a Q hx h ht hd hl
    simp only [codeI] at hx
    refine wpIn_seq (wpIn_mono (ihx ro (Tree.bind_all hx) h ht hd hl) (fun e a1 w1 hp => ?_))
    obtain ⟨ie, tm1, s1, m1, S1, q, rfl, t1, h1, st, d1⟩ := hp
    cases ie with
    | normal => exact wpIn_mono (ihy ro q h1 t1 d1 (hl.step st)) (fun e a2 w2 hp => hp.from st)
    | exit i => exact ⟨.exit i, tm1, s1, m1, S1, q, rfl, t1, h1, st, d1⟩
    | ret => exact ⟨.ret, tm1, s1, m1, S1, q, rfl, t1, h1, st, d1⟩
  | cond c x y ihx ihy =>
    intro ro m S s w tm a Q hx h ht hd hl
    simp only [codeI] at hx
    split at hx
    · rename_i hc
      have := bool_inv ((ht.rho a.defers) c _ hc)
      exact wpIn_cond_true this (ihx ro hx h ht hd hl)
    · rename_i hc
      have := bool_inv ((ht.rho a.defers) c _ hc)
      exact wpIn_cond_false this (ihy ro hx h ht hd hl)
    · exact hx.elim
  | block id c ih =>
    intro ro m S s w tm a Q hx h ht hd hl
    simp only [codeI] at hx
    refine wpIn_block (wpIn_mono (ih ro (Tree.bind_all hx) h ht hd hl) (fun e a1 w1 hp => ?_))
    obtain ⟨ie, tm1, s1, m1, S1, q, rfl, t1, h1, st, d1⟩ := hp
    cases ie with
    | normal => exact ⟨.normal, tm1, s1, m1, S1, q, rfl, t1, h1, st, d1⟩
    | exit i =>
      simp only [exitOf, Exit.inBlock]
      simp only at q
      split at q
      · rename_i hb
        rw [if_pos (Nat.eq_of_beq_eq_true hb)]
        exact ⟨.normal, tm1, s1, m1, S1, q, rfl, t1, h1, st, d1⟩
      · rename_i hb
        rw [if_neg (fun e => by rw [e] at hb; simp at hb)]
        exact ⟨.exit i, tm1, s1, m1, S1, q, rfl, t1, h1, st, d1⟩
    | ret => exact ⟨.ret, tm1, s1, m1, S1, q, rfl, t1, h1, st, d1⟩
  | loop c ih =>
    intro ro m S s w tm a Q hx h ht hd hl
    simp only [codeI] at hx
    refine wpIn_loop_fuel (fun k a1 w1 => ∃ tm1 s1 m1 S1, (loopI (codeI A call n c) k tm1 s1).All Q ∧ HR A m1 S1 s1 w1 ∧ TR m1 s1.nv S1 n tm1 a1.tmps ∧ DefOK lo m1 w1 a1.defers ∧ LoopAt ro w1 ∧ Step m s.nv S w m1 s1.nv S1 w1)
      (fun k a1 w1 hI => ?_) ⟨tm, s, m, S, hx, h, ht, hd, hl, .refl _ _ _ _⟩
    obtain ⟨tm1, s1, m1, S1, hx1, h1, t1, d1, l1, st1⟩ := hI
    cases k with
    | zero => exact hx1.elim
    | succ k =>
      simp only [loopI] at hx1
      refine wpIn_mono (ih ro (Tree.bind_all hx1) h1 t1 d1 l1) (fun e a2 w2 hp => ?_)
      obtain ⟨ie, tm2, s2, m2, S2, q, rfl, t2, h2, st2, d2⟩ := hp
      cases ie with
      | normal => exact ⟨k, Nat.lt_succ_self _, tm2, s2, m2, S2, q, h2, t2, d2, l1.step st2, st1.trans st2⟩
      | exit i => exact ⟨.exit i, tm2, s2, m2, S2, q, rfl, t2, h2, st1.trans st2, d2⟩
      | ret => exact ⟨.ret, tm2, s2, m2, S2, q, rfl, t2, h2, st1.trans st2, d2⟩
  | scope c ih =>
    intro ro m S s w tm a Q hx h ht hd hl
    simp only [codeI] at hx
    refine wpIn_scope (ih ro hx h ht hd hl) (fun l a1 w1 hp => ?_)
    obtain ⟨ie, _, _, _, _, _, e1, _⟩ := hp
    cases ie <;> cases e1
  | rangeFunc f ps as bd iha ihb =>
    intro ro m S s w tm a Q hx h ht hd hl
    simp only [codeI] at hx
    split at hx
    case h_2 => exact hx.elim
    rename_i g hg
    -- the function that is ranged over
    obtain ⟨fid, fa, fb, x, rfl, hgf, hfn, hbody⟩ : ∃ fid fa fb x, g = .fn fid fa fb ∧ evalI tm f = some (.fn fid fa fb) ∧ A.fn fid = some x ∧ x.body.isSome = true := by
      unfold rangeG at hg
      split at hg
      case h_2 => cases hg
      rename_i fid fa fb he
      split at hg
      case h_2 => cases hg
      rename_i x' hx'
      obtain ⟨hb, hg'⟩ := ite_some hg
      cases hg'
      exact ⟨_, _, _, x', rfl, he, hx', hb⟩
    obtain ⟨hfP, hnm⟩ := hA.fn fid x hfn
    have hv := (ht.rho a.defers) f _ hgf
    obtain ⟨ar, br, hgr⟩ : ∃ ar br, a.eval f = .func (.func fid) ar br := by
      have hv' : VR m s.nv S (.fn fid fa fb) (a.eval f) := hv
      generalize a.eval f = rg at hv'
      cases hv'
      exact ⟨_, _, rfl⟩
    -- the record is laid
    have lay : ∀ fnid, ∃ (w0 : World) (mark : List Deferred) (lp : Loop), HR A m S s w0 ∧ Step m s.nv S w m s.nv S w0 ∧ DefOK lo m w0 (mark ++ a.defers) ∧
        (Instr.enterLoop fnid a.tmps ps as bd (FW ro).round).run A.P w = .ok (w0.heap.size, mark) (w0.alloc (Obj.loop lp)) ∧
        lp.state = .ready ∧ lp.pending = none ∧ lp.params = ps ∧ lp.assign = as ∧ lp.body = bd ∧ lp.tmps = a.tmps := by
      intro fnid
      cases ro with
      | none =>
        obtain ⟨h1, s1⟩ := h.allocOut (.deferred (some []))
        refine ⟨_, [{ target := .collected w.heap.size, args := #[] }], { state := .ready, pending := none, fn := fnid, tmps := a.tmps, params := ps, assign := as, body := bd, defers := w.heap.size }, h1, s1, ?_, ?_, rfl, rfl, rfl, rfl, rfl, rfl⟩
        · refine ⟨⟨w.heap.size, hd.lo, rfl, alloc_new _ _, fun id mi e => ?_, fun d' hd' => ?_⟩, hd.step s1⟩
          · have := h.lt e; omega
          · intro e
            have : ∀ ds, DefOK lo m w ds → ∀ d' ∈ ds, d'.target ≠ .collected w.heap.size := by
              intro ds
              induction ds with
              | nil => intro _ d' hm; cases hm
              | cons d ds ih =>
                intro hdd d' hm
                obtain ⟨⟨r, _, r1, r2, _⟩, r3⟩ := hdd
                rcases List.mem_cons.1 hm with rfl | hm
                · rw [r1]; intro e; cases e; have := heap_lt r2; omega
                · exact ih r3 d' hm
            exact this _ hd d' (by simpa using hd') e
        · simp [Instr.enterLoop, FW]
      | some l =>
        obtain ⟨lp0, hl0⟩ := hl l rfl
        refine ⟨w, [], { state := .ready, pending := none, fn := fnid, tmps := a.tmps, params := ps, assign := as, body := bd, defers := lp0.defers }, h, .refl _ _ _ _, hd, ?_, rfl, rfl, rfl, rfl, rfl, rfl⟩
        have hgl : (Instr.getLoop l).run A.P w = .ok lp0 w := by simp [Instr.getLoop, getObj, Sem.run, hl0]
        simp [Instr.enterLoop, FW, hgl]
    refine wpIn_rangeFunc (fun fnid _ => ?_)
    obtain ⟨w0, mark, lp, h0, st0, d0, hent, l1, l2, l3, l4, l5, l6⟩ := lay fnid
    have t0 : TR m s.nv S n tm lp.tmps := by rw [l6]; exact ht
    obtain ⟨h1, st1⟩ := h0.new (.loop .ready none n tm ps.toList as bd) (Obj.loop lp) 0 ⟨lp, rfl, l1, l2, by rw [l3], l4, l5, t0⟩
    have hy : VR (m ++ [⟨w0.heap.size, s.nv, 0⟩]) (s.nv + 1) S (.yield s.H.length s.nv) (.func (.yield w0.heap.size) #[] #[]) :=
      .yield _ _ ⟨w0.heap.size, s.nv, 0⟩ _ (Nat.lt_succ_self _) (by rw [← h.len]; simp) (fun _ => rfl) .nil
    have hcall := hC _ _ _ _ (Tree.bind_all hx) _ S _ (a.eval f) [.func (.yield w0.heap.size) #[] #[]] h1 (hv.mono (st0.trans st1).g) (.cons hy .nil)
    refine ⟨w0.heap.size, mark, _, { target := .fn (.func fid) br, args := ar ++ #[.func (.yield w0.heap.size) #[] #[]] }, w0.alloc (Obj.loop lp), fid, ar ++ #[.func (.yield w0.heap.size) #[] #[]] ++ br, w0.alloc (Obj.loop lp), hent, ?_, fun _ _ => trivial, ?_, fun h0 => (by cases h0), ?_⟩
    · have e0 : (#[Operand.const (.func (.yield w0.heap.size) #[] #[])]).map a.eval = #[.func (.yield w0.heap.size) #[] #[]] := by simp [Act.eval]
      simp only [resolve, e0, hgr, Deferred.ofValue, Sem.run_pure]
    · simp only [invoke]
      exact callFunc_body hfP hbody hnm _ _
    · have toCalls : ∀ R, RealCall A.P (a.eval f) [.func (.yield w0.heap.size) #[] #[]] (w0.alloc (Obj.loop lp)) R → CallsIn (FW none) 0 A.P fid (ar ++ #[.func (.yield w0.heap.size) #[] #[]] ++ br) (w0.alloc (Obj.loop lp)) R := by
        intro R hcall
        cases hcall with
        | fn f' ar' br' fn' hg' _ _ _ hc =>
          rw [hgr] at hg'
          cases hg'
          exact hc
        | now f' ar' br' r w' hg' hr _ =>
          rw [hgr] at hg'
          cases hg'
          rw [callFunc_body hfP hbody hnm] at hr
          cases hr
        | yield b lp hg' _ _ _ =>
          rw [hgr] at hg'
          cases hg'
      refine CallsIn.mono (F := FW ro) (n := 0) (toCalls _ hcall) (fun e w3 hp => ?_)
      obtain ⟨r, v, s2, m2, S2, rfl, q, _, h2, st2⟩ := hp
      simp only at q
      split at q
      case h_2 => exact q.elim
      rename_i stt pend n' tm' ps' as' bd' ho
      have hid : (m ++ [(⟨w0.heap.size, s.nv, 0⟩ : MI)])[s.H.length]? = some ⟨w0.heap.size, s.nv, 0⟩ := by rw [← h.len]; simp
      obtain ⟨mi2, e2, hmi⟩ := st2.g.at_ _ _ hid
      obtain ⟨lp2, o1, o2, o3, o4, o5, o6, o7, o8⟩ := loop_at h2 ho e2
      have hmi' : mi2 = ⟨w0.heap.size, s.nv, 0⟩ := by
        rcases hmi with hmi | hmi
        · exact hmi
        · simp only [ISt.new] at hmi; omega
      subst hmi'
      obtain ⟨n1, n2, n3⟩ := loop_set h2 ho e2 o1 .exhausted pend
      have stt' : Step m s.nv S w m2 s2.nv S2 (putObj w3 w0.heap.size (Obj.loop { lp2 with state := .exhausted, pending := pend })) := ((st0.trans st1).trans st2).trans n2
      have dd : DefOK lo m2 (putObj w3 w0.heap.size (Obj.loop { lp2 with state := .exhausted, pending := pend })) (mark ++ a.defers) := ((d0.step st1).step st2).step n2
      have tt : TR m2 s2.nv S2 n tm a.tmps := ht.mono stt'.g
      have fin : ∀ e, ofJump pend = some e → stt ≠ .busy → Q (e, tm, s2.setObj s.H.length s.nv (.loop .exhausted pend n' tm' ps' as' bd')) →
          rangePost (FW ro) 0 A.P w0.heap.size (PostX A lo n m S s w Q) { a with defers := mark ++ a.defers } (.returned r) w3 := by
        intro e he hne hq
        refine ⟨pend, putObj w3 w0.heap.size (Obj.loop { lp2 with state := .exhausted, pending := pend }), ?_, ?_⟩
        · have hgl : (Instr.getLoop w0.heap.size).run A.P w3 = .ok lp2 w3 := by simp [Instr.getLoop, getObj, Sem.run, o1]
          have hnb : (lp2.state == LoopState.busy) = false := by
            rw [o2]; cases stt <;> first | rfl | exact absurd rfl hne
          simp only [Instr.endLoop, Sem.run_bind, hgl, Result.andThen_ok, hnb, Bool.false_eq_true, if_false, Sem.run_pure, o3]
          rw [n3]
          rfl
        · have px : ∀ e', e' = exitOf e → PostX A lo n m S s w Q e' { a with defers := mark ++ a.defers } (putObj w3 w0.heap.size (Obj.loop { lp2 with state := .exhausted, pending := pend })) :=
            fun e' he' => ⟨e, tm, _, m2, S2, hq, he', tt, n1, stt', dd⟩
          unfold ofJump at he
          split at he
          · cases he; exact px _ rfl
          · cases he; exact wpIn_exit (px _ rfl)
          · cases he; exact wpIn_ret (px _ rfl)
          · cases he
      split at q
      · exact q.elim
      · rename_i e hne he
        exact fin e he (fun hb => hne hb) q
      · exact q.elim
end Go.Ideal
