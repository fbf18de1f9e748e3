/- From what the interpreter answers to the given rows: a run leaves all that was there as it was. No condition. -/
import Derived.Test.YtgbdopegfcphfaaGreatMemo
import Derived.Test.YtgbdopegfcphfaaGreatRows
import Derived.ProofKit
namespace Go.Proofs.YtgbdopegfcphfaaGreat
open Go.ChangeShapes Go.WideShapes Go.ChangeAt Go.RowKit Go.Ideal

theorem Tryz.own : ownKnob Tryz.prog.godebug = none := by kernel_rfl
theorem Tryz.laidOut : laidOutB Tryz.prog = true := by kernel_rfl

def snap0 : Snap := { sc := fun _ _ => none, sb := fun _ _ => none, sm := fun _ => none }
theorem start_HR (A : Par) (w : World) : HR A [] snap0 ist0 w :=
  ⟨rfl, fun id ver o e => by simp [ist0] at e, fun id id' mi mi' e => by simp at e, ⟨fun _ _ _ e => (by cases e), fun _ _ _ e => (by cases e), fun _ _ _ e => (by cases e)⟩⟩

theorem kept_of_step {S nv w m' nv' S' w'} (h : Step [] nv S w m' nv' S' w') (may : MemPlace → Prop) : w.keptBut w' may := by
  refine ⟨h.k.os, h.k.output, fun i hi => ?_⟩
  rw [h.k.blk i hi (fun id mi e => by simp at e)]
  rw [Array.getElem?_eq_getElem hi]
  cases w.heap[i] with
  | cells c t fr => exact ⟨rfl, rfl, rfl, fun _ _ => rfl⟩
  | map es clock => exact .inr ⟨rfl, rfl⟩
  | _ => rfl

/-- the interpreter's answer to a law. -/
def saysTrue : IVal × ISt → Bool
  | (.dat (.bool b), _) => b
  | _ => false

theorem law_calls {pm con} (hK : ConOK (base pm ovrN con)) {f : FuncId} {fn : Func} (hf : Tz.fnT.get f = some fn) {k : Nat} {xs : List IVal} {s : ISt} (hx : (bodyF (base pm ovrN con) (callF (base pm ovrN con) k) fn xs s).chk saysTrue = true)
    {m : List MI} {S : Snap} {w : World} {rs : List Value} (h : HR (base pm ovrN con) m S s w) (hv : VRs m s.nv S xs rs) :
    Calls Tryz.prog f rs.toArray w fun e w' => e = .returned (.bool true) ∧ ∃ nv' m' S', Step m s.nv S w m' nv' S' w' := by
  rw [bodyF_eq, callF_eq] at hx
  obtain ⟨hfP, _⟩ := Tz.fnOK f fn hf
  obtain ⟨_, hc⟩ := body_sim (A := base pm ovrN con) (base_ok pm ovrN con) (call_ok (base_ok pm ovrN con) (ovrN_ok pm con) hK k) (Tree.chk_all hx) hfP h hv
  rw [fw_wide] at hc
  refine (callsIn_wide.1 hc).mono ?_
  rintro e w' ⟨r, v, s', m', S', rfl, q, q1, q2, q3⟩
  refine ⟨?_, _, m', S', q3⟩
  unfold saysTrue at q
  split at q
  · rename_i b _ heq
    cases heq
    subst q
    rw [bool_inv q1]
  · cases q
end Go.Proofs.YtgbdopegfcphfaaGreat
