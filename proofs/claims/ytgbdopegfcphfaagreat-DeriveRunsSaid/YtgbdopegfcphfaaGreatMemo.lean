/- Answers that were worked out once; how a check in the kernel shows a call on data. No condition. -/
import Derived.Test.YtgbdopegfcphfaaGreatNatc
namespace Go.Ideal
open Go Go.Proofs

/-- what the interpreter is told of functions. -/
def ovrN (f : FuncId) : Option (List IVal → ISt → Tree (IVal × ISt)) := match f with
  | 300 => some natCheck
  | 234 => some natString
  | 301 => some natGrow
  | 306 => some natIdx
  | 340 => some natCmp
  | 164 => some natClone
  | _ => none
theorem ovrN_ok (pm con) : OvrOK (base pm ovrN con) := by
  intro f h hf
  have hf : ovrN f = some h := hf
  unfold ovrN at hf
  split at hf <;> cases hf
  · exact natCheck_ok pm ovrN con
  · exact natString_ok pm ovrN con
  · exact natGrow_ok pm ovrN con
  · exact natIdx_ok rfl
  · exact natCmp_ok rfl
  · exact natClone_ok pm ovrN con

/-- a table of answers. -/
def memo : List (List IVal × Dat) → List IVal → Option Dat
  | [], _ => none
  | (k, d) :: r, xs => match IVal.sameL k xs with
    | true => some d
    | false => memo r xs

theorem OR.cast {A B : Par} (h : A.ti = B.ti) {m nv S mi o ob} (hO : OR A m nv S mi o ob) : OR B m nv S mi o ob := by
  cases o with
  | cells t cs fz =>
    obtain ⟨rc, e, fr, rs, h1, h2, h3, h4, h5, h6⟩ := hO
    exact ⟨rc, e, fr, rs, h1, h2, h3, by rw [← h]; exact h4, h5, h6⟩
  | map ks vs clock => exact hO
  | iter mv since seen stepped => exact hO
  | loop st pend n tm ps ax bd => exact hO
  | dead => exact hO
theorem HR.cast {A B : Par} (h : A.ti = B.ti) {m S s w} (hR : HR A m S s w) : HR B m S s w :=
  ⟨hR.len, fun id ver o e => by
    obtain ⟨mi, h1, h2, h3, h4, h5⟩ := hR.obj id ver o e
    exact ⟨mi, h1, h2, h3, h4.cast h, h5⟩, hR.inj, hR.snap⟩
/-- what a call on data comes to hangs on the program and its types alone. -/
theorem PureC.cast {A B : Par} (hP : A.P = B.P) (h : A.ti = B.ti) {f as' Q} (hp : PureC A f as' Q) : PureC B f as' Q := by
  intro S w rs hR hv
  rw [← hP]
  exact (hp S w rs (hR.cast h.symm) hv).mono (fun e w' ⟨r, d, S', h1, h2, h3, h4, h5⟩ => ⟨r, d, S', h1, h2, h3, h4.cast h, h5⟩)

/-- a call on data of the program. -/
def PureP (f : FuncId) (xs : List IVal) (Q : Dat → Prop) : Prop := PureC (base (fun _ => false) (fun _ => none) (fun _ => none)) f xs Q
theorem PureP.at_ {f xs Q} (h : PureP f xs Q) (pm ovr con) : PureC (base pm ovr con) f xs Q := PureC.cast (A := base (fun _ => false) (fun _ => none) (fun _ => none)) (B := base pm ovr con) rfl rfl h

theorem memo_ok {f : FuncId} : ∀ {tab : List (List IVal × Dat)}, (∀ e ∈ tab, PureP f e.1 (· = e.2)) → ∀ xs d, memo tab xs = some d → PureP f xs (· = d)
  | [], _, xs, d, h => by cases h
  | (k, d0) :: r, hh, xs, d, h => by
    simp only [memo] at h
    split at h
    · rename_i e
      cases h
      have := IVal.sameL_eq _ _ e
      subst this
      exact hh (k, d0) (by simp)
    · exact memo_ok (fun e he => hh e (by simp [he])) xs d h

/-- a call on data, by a check. -/
theorem pure_chk {pm con} (hK : ConOK (base pm ovrN con)) {f : FuncId} {fn : Func} (hf : Tz.fnT.get f = some fn) {k : Nat} {xs : List IVal} {d : Dat}
    (h : (pcallF (base pm ovrN con) (callF (base pm ovrN con) k) fn xs).chk (Dat.same d) = true) : PureP f xs (· = d) := by
  rw [callF_eq, pcallF_eq] at h
  refine PureC.cast (A := base pm ovrN con) (B := base (fun _ => false) (fun _ => none) (fun _ => none)) rfl rfl ?_
  exact pcall_sim (base_ok pm ovrN con) (call_ok (base_ok pm ovrN con) (ovrN_ok pm con) hK k) hf ((Tree.chk_all h).mono (fun a ha => (Dat.same_eq _ _ ha).symm))

theorem con_none (pm) : ConOK (base pm ovrN fun _ => none) := by
  intro f h hf
  cases hf
end Go.Ideal
