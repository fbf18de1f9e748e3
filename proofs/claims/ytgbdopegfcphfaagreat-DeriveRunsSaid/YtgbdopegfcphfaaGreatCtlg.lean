/- All calls. No condition. -/
import Derived.Test.YtgbdopegfcphfaaGreatCtlf
namespace Go.Ideal

/-- what a call of a function comes to in the machine. -/
inductive RealFn (P : Program) (f : FuncId) (args : Array Value) (w : World) (R : Ending → World → Prop) : Prop
  | fn (fn : Func) (hf : P.funcs[f]? = some fn) (hb : fn.body.isSome = true) (hn : (fn.name == "runtime.NumGoroutine") = false) (hc : CallsIn (FW none) 0 P f args w R)
  | now (r : Value) (w' : World) (hr : (callFunc f args).run P w = .ok (.value r) w') (hR : R (.returned r) w')

theorem RealFn.mono {P f args w} {R R' : Ending → World → Prop} (h : RealFn P f args w R) (hr : ∀ e w', R e w' → R' e w') : RealFn P f args w R' := by
  cases h with
  | fn fn hf hb hn hc => exact .fn fn hf hb hn (hc.mono hr)
  | now r w' h1 h2 => exact .now r w' h1 (hr _ _ h2)

/-- the end of a call on data alone. -/
def PostD (A : Par) (S : Snap) (w : World) (Q : Dat → Prop) : Ending → World → Prop := fun e w' =>
  ∃ r d S', e = .returned r ∧ Q d ∧ VRD S'.sc d r ∧ HR A [] S' ist0 w' ∧ Step [] 0 S w [] 0 S' w'

/-- A CALL ON DATA ALONE. -/
def PureC (A : Par) (f : FuncId) (as : List IVal) (Q : Dat → Prop) : Prop := ∀ (S : Snap) (w : World) (rs : List Value), HR A [] S ist0 w → VRs [] 0 S as rs → RealFn A.P f rs.toArray w (PostD A S w Q)

def ConOK (A : Par) : Prop := ∀ f h, A.con f = some h → ∀ as d, h as = some d → PureC A f as (· = d)
def OvrOK (A : Par) : Prop := ∀ f h, A.ovr f = some h → ∀ (args : List IVal) (s : ISt) (Q : IVal × ISt → Prop), (h args s).All Q → ∀ (m : List MI) (S : Snap) (w : World) (rs : List Value), HR A m S s w → VRs m s.nv S args rs →
  RealFn A.P f rs.toArray w (PostC A m S s w Q)

theorem pcall_sim {A} (hA : Par.OK A) {call : CallI} (hC : CallOK A call) {f : FuncId} {fn : Func} (hf : A.fn f = some fn) {as : List IVal} {Q : Dat → Prop} (hx : (pcallI A call fn as).All Q) : PureC A f as Q := by
  intro S w rs h hv
  obtain ⟨hfP, hn⟩ := hA.fn f fn hf
  unfold pcallI at hx
  obtain ⟨hb, hc⟩ := body_sim hA hC (Tree.bind_all hx) hfP (s := ist0) h hv
  refine .fn fn hfP hb hn (hc.mono (fun e w' hp => ?_))
  obtain ⟨r, v, s', m', S', rfl, q, hv', hh, st⟩ := hp
  simp only at q
  split at q
  case h_2 => exact q.elim
  rename_i d s2 hd
  obtain ⟨S2, a1, a2, a3, a4⟩ := toDat_sim hh hd hv'
  have st2 := st.trans a3
  refine ⟨r, d, S2, rfl, q, a4, ⟨rfl, fun id ver o e => by simp [ist0] at e, fun id id' mi mi' e => by simp at e, a1.snap⟩, ⟨⟨Nat.le_refl _, st2.g.sc, st2.g.sb, st2.g.sm, fun id mi e => by simp at e⟩, st2.k, fun id mi e => by simp at e, st2.scNew⟩⟩

theorem VRD.flatAll {c : Froz} {d : Dat} {r : Value} (h : VRD c d r) (hf : d.isFlat = true) : VRD noFroz d r := by
  cases d with
  | tuple vs =>
    cases h with
    | tuple _ ss h1 _ =>
    simp only [Dat.isFlat] at hf
    have : ∀ {vs : List Dat} {ss : List Value}, vs.all Dat.isFlat1 = true → VRDs c vs ss → VRDs noFroz vs ss := by
      intro vs
      induction vs with
      | nil => intro ss _ h; cases h; exact .nil
      | cons v vs ih =>
        intro ss hf h
        obtain ⟨r, rs', rfl, h1, h2⟩ := h.cons_inv
        simp only [List.all_cons, Bool.and_eq_true] at hf
        exact .cons (h1.flat hf.1) (ih hf.2 h2)
    exact .tuple vs ss (this hf h1) .nil
  | _ => exact h.flat hf

/-- a call on data alone, out of a call with a memory of its own. -/
theorem pure_call {A} {m S s w} (h : HR A m S s w) {f : FuncId} {args as : List IVal} {s1 : ISt} (ha : argList A s args = some (as, s1)) {rs : List Value} (hv : VRs m s.nv S args rs) {Qd : Dat → Prop} (hp : PureC A f as Qd) {Q : IVal × ISt → Prop}
    (hq : ∀ d, Qd d → Q (.dat d, if d.isFlat then s else s1)) : RealFn A.P f rs.toArray w (PostC A m S s w Q) := by
  obtain ⟨S1, a1, a2, a3, a4⟩ := mapSt_sim (fun h ha hv => argLeaf_sim 8 h ha hv) h ha hv
  refine (hp (lent S1 w) w rs (lent_HR a1) a4).mono (fun e w' hpd => ?_)
  obtain ⟨r, d, S', rfl, q, hd, hh, st⟩ := hpd
  have blk : ∀ b, b < w.heap.size → w'.heap[b]? = w.heap[b]? := fun b hb => st.k.blk b hb (fun id mi e => by simp at e)
  have scn : ∀ b i, b < w.heap.size → S'.sc b i = S1.sc b i := fun b i hb => st.scNew b i hb (fun id mi e => by simp at e)
  by_cases hf : d.isFlat = true
  · have hq' := hq d q
    rw [if_pos hf] at hq'
    have hH : HR A m S s w' := by
      refine ⟨h.len, fun id ver o e => ?_, h.inj, ⟨fun b i v e => ?_, fun b i v e => ?_, fun b es c e => ?_⟩⟩
      · obtain ⟨mi, h1, h2, h3, h4, h5⟩ := h.obj id ver o e
        exact ⟨mi, h1, h2, h3, by rw [blk _ (h.lt h1)]; exact h4, h5⟩
      · have := h.snap.sc b i v e; rw [cell_of_heap (blk b (cell_lt this))]; exact this
      · have := h.snap.sb b i v e; rw [cell_of_heap (blk b (cell_lt this))]; exact this
      · have := h.snap.sm b es c e; rw [blk b (heap_lt this)]; exact this
    exact ⟨r, .dat d, s, m, S, rfl, hq', .dat _ _ ((hd.flatAll hf).up _) .nil, hH, .refl _ _ _, ⟨st.k.size, fun b hb _ => blk b hb, st.k.loop, st.k.os, st.k.tape, st.k.output⟩, fun id mi e => .inl ⟨id, mi, e, rfl⟩, fun _ _ _ _ => rfl⟩
  · have hq' := hq d q
    rw [if_neg hf] at hq'
    have g2 : Grows m s.nv S1 m s.nv { sc := S'.sc, sb := S1.sb, sm := S1.sm } := ⟨Nat.le_refl _, st.g.sc, rfl, rfl, fun id mi e => ⟨mi, e, .inl rfl⟩⟩
    have hH : HR A m { sc := S'.sc, sb := S1.sb, sm := S1.sm } s1 w' := by
      refine ⟨a1.len, fun id ver o e => ?_, a1.inj, ⟨hh.snap.sc, fun b i v e => ?_, fun b es c e => ?_⟩⟩
      · obtain ⟨mi, h1, h2, h3, h4, h5⟩ := a1.obj id ver o e
        have hlt := a1.lt h1
        refine ⟨mi, h1, h2, h3, ?_, ⟨h5.sb, h5.sm, fun t cs fz eq j hj => ?_⟩⟩
        · rw [blk _ hlt]
          rw [a2] at h4 ⊢
          exact h4.mono g2
        · show S'.sc mi.b j = none
          rw [scn _ _ hlt]
          exact h5.sc t cs fz eq j hj
      · have := a1.snap.sb b i v e; rw [cell_of_heap (blk b (cell_lt this))]; exact this
      · have := a1.snap.sm b es c e; rw [blk b (heap_lt this)]; exact this
    have s2 : Step m s.nv S1 w m s.nv { sc := S'.sc, sb := S1.sb, sm := S1.sm } w' :=
      ⟨g2, ⟨st.k.size, fun b hb _ => blk b hb, st.k.loop, st.k.os, st.k.tape, st.k.output⟩, fun id mi e => .inl ⟨id, mi, e, rfl⟩, fun b i hb _ => scn b i hb⟩
    exact ⟨r, .dat d, s1, m, { sc := S'.sc, sb := S1.sb, sm := S1.sm }, rfl, hq', VR.dat_iff.2 hd, hH, by rw [a2]; exact a3.trans s2⟩

/-- ALL CALLS. -/
theorem call_ok {A} (hA : Par.OK A) (hO : OvrOK A) (hK : ConOK A) : ∀ k, CallOK A (callI A k)
  | 0 => fun g xs s Q hx => hx.elim
  | k + 1 => by
    have ih := call_ok hA hO hK k
    intro g xs s Q hx m S w rg rxs h hg hxs
    unfold callI at hx
    split at hx
    · exact round_sim hA ih hx h hg hxs
    · rename_i f first captured
      cases hg with
      | fn _ _ _ ar br h1 h2 _ =>
      have hv : VRs m s.nv S (first ++ xs ++ captured) (ar ++ rxs ++ br) := (h1.append hxs).append h2
      have fin : RealFn A.P f (ar ++ rxs ++ br).toArray w (PostC A m S s w Q) → RealCall A.P (.func (.func f) ar.toArray br.toArray) rxs w (PostC A m S s w Q) := by
        intro hr
        have e1 : ar.toArray ++ rxs.toArray ++ br.toArray = (ar ++ rxs ++ br).toArray := by simp
        cases hr with
        | fn fn hf hb hn hc => exact .fn f ar.toArray br.toArray fn rfl hf hb hn (by rw [e1]; exact hc)
        | now r w' hr hR => exact .now f ar.toArray br.toArray r w' rfl (by rw [e1]; exact hr) hR
      apply fin
      simp only at hx
      split at hx
      · rename_i hh e
        exact hO f hh e _ s Q hx m S w _ h hv
      · split at hx
        · rename_i hh e
          split at hx
          case h_2 => exact hx.elim
          rename_i as s1 ha
          split at hx
          case h_2 => exact hx.elim
          rename_i d hd
          exact pure_call h ha hv (hK f _ e as d hd) (fun d' e' => by subst e'; exact hx)
        · split at hx
          · exact hx.elim
          rename_i fn hfn
          split at hx
          · split at hx
            case h_2 => exact hx.elim
            rename_i as s1 ha
            exact pure_call h ha hv (pcall_sim hA ih hfn (Tree.bind_all hx)) (fun d q => q)
          · obtain ⟨hfP, hn⟩ := hA.fn f fn hfn
            obtain ⟨hb, hc⟩ := body_sim hA ih hx hfP h hv
            exact .fn fn hfP hb hn hc
    · exact hx.elim
end Go.Ideal
