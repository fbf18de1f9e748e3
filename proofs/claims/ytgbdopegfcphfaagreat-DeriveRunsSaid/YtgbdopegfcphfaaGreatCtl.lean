/- The walk of code: what the interpreter answers the machine answers. No condition. -/
import Derived.Test.YtgbdopegfcphfaaGreatTmp
namespace Go.Ideal

theorem Tree.bind_all {α β : Type} {Q : β → Prop} : ∀ {t : Tree α} {f : α → Tree β}, (t.bind f).All Q → t.All fun a => (f a).All Q
  | .ret _, _, h => h
  | .fail _, _, h => h
  | .pick _ _, _, h => fun i hi => Tree.bind_all (h i hi)
theorem Tree.All.mono {α : Type} {Q Q' : α → Prop} (hq : ∀ a, Q a → Q' a) : ∀ {t : Tree α}, t.All Q → t.All Q'
  | .ret _, h => hq _ h
  | .fail _, h => h
  | .pick _ _, h => fun i hi => (h i hi).mono hq

/-- the fence that lets all in, in a round or not. -/
def FW (ro : Option Nat) : Fence := { fn := fun _ => True, depth := none, alive := false, round := ro }

/-- a call has come to an end that the interpreter foresaw. -/
def PostC (A : Par) (m : List MI) (S : Snap) (s : ISt) (w : World) (Q : IVal × ISt → Prop) : Ending → World → Prop := fun e w' =>
  ∃ r v s' m' S', e = .returned r ∧ Q (v, s') ∧ VR m' s'.nv S' v r ∧ HR A m' S' s' w' ∧ Step m s.nv S w m' s'.nv S' w'

/-- what a call of a value comes to in the machine. -/
inductive RealCall (P : Program) (rg : Value) (rxs : List Value) (w : World) (R : Ending → World → Prop) : Prop
  | fn (f : FuncId) (ar br : Array Value) (fn : Func) (hg : rg = .func (.func f) ar br) (hf : P.funcs[f]? = some fn) (hb : fn.body.isSome = true) (hn : (fn.name == "runtime.NumGoroutine") = false)
      (hc : CallsIn (FW none) 0 P f (ar ++ rxs.toArray ++ br) w R)
  | now (f : FuncId) (ar br : Array Value) (r : Value) (w' : World) (hg : rg = .func (.func f) ar br) (hr : (callFunc f (ar ++ rxs.toArray ++ br)).run P w = .ok (.value r) w') (hR : R (.returned r) w')
  | yield (b : Nat) (lp : Loop) (hg : rg = .func (.yield b) #[] #[]) (hb : w.heap[b]? = some (Obj.loop lp)) (hn : rxs.length = lp.params.size)
      (hc : RoundIn (FW none) 0 P b lp.fn ((lp.params.zip rxs.toArray).foldl (fun tmps (t, a) => tmps.setIfInBounds t a) lp.tmps) lp.assign lp.body w R)

/-- the interpreter's calls answer as the machine's. -/
def CallOK (A : Par) (call : CallI) : Prop := ∀ (g : IVal) (xs : List IVal) (s : ISt) (Q : IVal × ISt → Prop), (call g xs s).All Q → ∀ (m : List MI) (S : Snap) (w : World) (rg : Value) (rxs : List Value),
  HR A m S s w → VR m s.nv S g rg → VRs m s.nv S xs rxs → RealCall A.P rg rxs w (PostC A m S s w Q)

theorem about_FW (ro : Option Nat) (P : Program) (o : Oper) (w : World) (ρ : Operand → Value) : ∀ f, o.about P w ρ = some f → (FW ro).fn f := fun _ _ => trivial

theorem not_defer_quiet {o : Oper} (h : isQuiet o.op = true) : ∀ c, o.op ≠ .defer c := by
  intro c e; rw [e] at h; cases h

theorem exec_sim {A} (hA : Par.OK A) {call : CallI} (hC : CallOK A call) {m S s w} (h : HR A m S s w) {ρ : Operand → Option IVal} {a : Act} (hρ : RhoR m s.nv S ρ a.eval) {o : Oper} {Q : IVal × ISt → Prop}
    (hx : (execI A call ρ o s).All Q) (ro : Option Nat) (next : Act → World → Prop) (QQ : Exit → Act → World → Prop)
    (hnext : ∀ v s' m' S' w' r, Q (v, s') → VR m' s'.nv S' v r → HR A m' S' s' w' → Step m s.nv S w m' s'.nv S' w' → next (a.put o.dst r) w') :
    o.wpIn (FW ro) 0 A.P a w next QQ := by
  refine ⟨about_FW _ _ _ _ _, ?_⟩
  unfold execI at hx
  split at hx
  · rename_i hq
    split at hx
    case h_2 => exact hx.elim
    rename_i v hv
    obtain ⟨r, r1, r2⟩ := quiet_sim hA h hρ hv
    rw [Oper.semAt_eq _ _ _ (not_defer_quiet hq), r1]
    exact hnext v s m S w r hx r2 h (.refl _ _ _ _)
  · split at hx
    · rename_i f args ts e
      have hsem : o.semAt (FW ro).round a.eval = execOp a.eval o := Oper.semAt_eq _ _ _ (by intro c ec; rw [e] at ec; cases ec)
      rw [hsem]
      split at hx
      case h_2 => exact hx.elim
      rename_i g xs hg hxs
      have hv := hρ _ _ hg
      have hvs := mapO_sim hρ hxs
      have hc := hC g xs s Q hx m S w (a.eval f) (args.toList.map a.eval) h hv hvs
      have e1 : (args.toList.map a.eval).toArray = args.map a.eval := by apply Array.ext'; simp
      cases hc with
      | fn fid ar br fn hg' hf hb hn hc =>
        rw [e1] at hc
        have hrun : (execOp a.eval o).run A.P w = .ok (.enter fid (ar ++ args.map a.eval ++ br)) w := by
          have hb' : fn.body ≠ none := by intro hbb; rw [hbb] at hb; cases hb
          have hn' : fn.name ≠ "runtime.NumGoroutine" := by simpa using hn
          simp [execOp, e, resolve, Deferred.ofValue, hg', invoke, callFunc, hf, hn', hb']
        rw [hrun]
        exact ⟨fun h0 => (by cases h0), hc.mono (fun e' w' hp => by
          obtain ⟨r, v, s', m', S', rfl, q1, q2, q3, q4⟩ := hp
          exact hnext v s' m' S' w' r q1 q2 q3 q4)⟩
      | now fid ar br r w' hg' hr hR =>
        rw [e1, Array.append_assoc] at hr
        have hrun : (execOp a.eval o).run A.P w = .ok (.value r) w' := by
          simp [execOp, e, resolve, Deferred.ofValue, hg', invoke, hr]
        rw [hrun]
        obtain ⟨r', v, s', m', S', er, q1, q2, q3, q4⟩ := hR
        cases er
        exact hnext v s' m' S' w' r q1 q2 q3 q4
      | yield b lp hg' hb hn hc =>
        rw [e1] at hc
        have hrun : (execOp a.eval o).run A.P w = .ok (.round b lp.fn ((lp.params.zip (args.map a.eval)).foldl (fun tmps (t, a) => tmps.setIfInBounds t a) lp.tmps) lp.assign lp.body) w := by
          have hgl : (Instr.getLoop b).run A.P w = .ok lp w := by simp [Instr.getLoop, getObj, Sem.run, hb]
          have hsz : args.size = lp.params.size := by simpa using hn
          simp [execOp, e, resolve, Deferred.ofValue, hg', invoke, Instr.yield, hgl, hsz]
        rw [hrun]
        exact ⟨fun h0 => (by cases h0), hc.mono (fun e' w' hp => by
          obtain ⟨r, v, s', m', S', rfl, q1, q2, q3, q4⟩ := hp
          exact hnext v s' m' S' w' r q1 q2 q3 q4)⟩
    · rename_i it e
      have hsem : o.semAt (FW ro).round a.eval = execOp a.eval o := Oper.semAt_eq _ _ _ (by intro c ec; rw [e] at ec; cases ec)
      rw [hsem]
      split at hx
      case h_2 => exact hx.elim
      rename_i v hv
      obtain ⟨v', s', q, r, w', m', S', r1, r2, r3, r4⟩ := next_sim h hx (hρ _ _ hv) o.type
      have hrun : (execOp a.eval o).run A.P w = .ok (.value r) w' := by simp [execOp, e, r1]
      rw [hrun]
      exact hnext v' s' m' S' w' r q r2 r3 r4
    · split at hx
      case h_2 => exact hx.elim
      rename_i rr hl
      obtain ⟨v, s'⟩ := rr
      have hnd : ∀ c, o.op ≠ .defer c := by
        intro c ec
        unfold loudI at hl
        rw [ec] at hl
        cases hl
      rw [Oper.semAt_eq _ _ _ hnd]
      obtain ⟨nx, w', m', S', q1, q2, q3, q4⟩ := (loud_sim hA h hρ hl).ok
      rw [q1]
      rcases q2 with ⟨r, rfl, q2⟩ | ⟨rfl, rfl⟩
      · exact hnext v s' m' S' w' r hx q2 q3 q4
      · exact hnext iundef s' m' S' w' undef hx undef_VR q3 q4
end Go.Ideal
