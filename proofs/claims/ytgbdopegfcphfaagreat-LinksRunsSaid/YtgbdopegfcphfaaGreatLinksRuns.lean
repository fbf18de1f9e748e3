/- 'ammonitelaw17.LinksRuns' is true. No condition. -/
import Derived.Test.YtgbdopegfcphfaaGreatSumsa
import Derived.Test.YtgbdopegfcphfaaGreatRowk
import Derived.Test.YtgbdopegfcphfaaGreatFacts
namespace Go.Proofs.YtgbdopegfcphfaaGreat
open Go.ChangeShapes Go.WideShapes Go.ChangeAt Go.RowKit Go.Ideal

/-- names of texts, from the table. -/
def con12 (f : FuncId) : Option (List IVal → Option Dat) := match f with
  | 27 => some (memo Sumsa.tab27)
  | 47 => some (memo Sumsa.tab47)
  | _ => none
theorem con12_ok (pm) : ConOK (base pm ovrN con12) := by
  intro f h hf xs d hd
  have hf : con12 f = some h := hf
  unfold con12 at hf
  split at hf <;> cases hf
  · exact (memo_ok Sumsa.ok27 xs d hd).at_ _ _ _
  · exact (memo_ok Sumsa.ok47 xs d hd).at_ _ _ _
/-- functions that are called on data alone. -/
def pm12 (f : FuncId) : Bool := match f with
  | 133 => true
  | 26 => true
  | 106 => true
  | _ => false

theorem linksRuns_run : (bodyF (base pm12 ovrN con12) (callF (base pm12 ovrN con12) 40) Tryz.f12 [] ist0).chk saysTrue = true := by kernel_rfl

set_option maxRecDepth 100000 in
theorem linksRuns_lifted (os : Os) (started : os.Started) (H : Type) (enc : TypeId × Value → H) :
    ReturnsInHanded {} Tryz.checked os 12 .any (Rows.linksRunsSpec.pre6 enc Tryz.prog Tryz.f12 Rows.linksRunsRow.domain false) (Rows.linksRunsSpec.post enc Tryz.prog Tryz.f12 false true false false) := by
  refine returnsInHanded_of_change (C := Tryz.checked) Tryz.own started (by kernel_rfl) Tryz.func12
    (ChangeSpec.witness6 (enc := enc) (C := Tryz.checked) false ⟨#[], #[], []⟩ 8 (by kernel_rfl) (by kernel_rfl) (by kernel_rfl) (by kernel_rfl)) ?_
  intro W base0 args ds gs before _ hW _ _
  have hW' := hW
  obtain ⟨p, q, hA0, hV, rfl, hfz, hnd⟩ := hW
  have hA : DataW.TrodAll enc Tryz.prog W 0 (fun _ => true) true Tryz.f12.params.toList args.toList ds p := hA0
  rw [Tryz.params12] at hA
  obtain ⟨h1, rfl, rfl⟩ := trodAll_nil hA
  obtain ⟨rfl, rfl⟩ := trodVars_none hV
  have h1 : args = #[] := by simpa using h1
  subst h1
  have hc := law_calls (con12_ok pm12) (f := 12) (fn := Tryz.f12) (by kernel_rfl) linksRuns_run (m := []) (S := snap0) (w := W) (start_HR _ W) .nil
  refine hc.mono ?_
  rintro e W' ⟨rfl, nv', m', S', st⟩
  exact ⟨_, rfl, [], [], _, [], [], [], hW', trodAll_mk1 (shut_bool Tryz.underlying4 true), hA, rfl, kept_of_step st _, fun h => by cases h⟩

theorem linksRuns_in : (Rows.linksRunsRow.inPlace == Tryz.prog.inPlace 12) = true := by kernel_rfl
theorem linksRuns_un : (Rows.linksRunsRow.unfollowed == Tryz.prog.unfollowed 12) = true := by kernel_rfl
theorem linksRuns_re : (Rows.linksRunsRow.recurses == Tryz.prog.recurses 12) = true := by kernel_rfl
theorem linksRuns_na : (Rows.linksRunsRow.named == Tryz.prog.varsNamed 12) = true := by kernel_rfl
theorem linksRuns_fn : Tryz.pinned.checked.prog.funcNamed Rows.linksRunsRow.func = some 12 := by kernel_rfl
theorem linksRuns_joined : joinedFacts Tryz.pinned.checked.prog 12 Tryz.f12 Rows.linksRunsSpec Rows.linksRunsRow = true :=
  joined_of (P := Tryz.prog) (by kernel_rfl) laidOut_ok mapsRowed_ok (by kernel_rfl) (by kernel_rfl) (by kernel_rfl) stops_ok linksRuns_in linksRuns_un linksRuns_re linksRuns_na (by kernel_rfl) plainKeys_ok rfl rfl stopsHeard_ok mayEnter_ok liftsFinal_ok rfl make_ok rfl rfl (by kernel_rfl) (by kernel_rfl) (by kernel_rfl)
theorem linksRuns_inst : Tryz.f12.isInstance Tryz.pinned.checked.prog Rows.linksRunsRow.origin Rows.linksRunsRow.targs := of_decide_eq_true (by kernel_rfl)
theorem linksRuns_wrap : Tryz.f12.isWrapper Tryz.pinned.checked.prog Rows.linksRunsRow.wrapper Rows.linksRunsRow.mainSum := by
  unfold Func.isWrapper; first | (rw [if_pos (by decide +kernel)]; kernel_rfl) | (rw [if_neg (by decide +kernel)]; exact ⟨rfl, rfl⟩)

theorem linksRuns_holds : Rows.LinksRunsSaid :=
  OpenClaim.holds_of_wide 12 Tryz.f12 rfl rfl rfl rfl rfl rfl rfl ⟨rfl, rfl, rfl, rfl, rfl⟩ rfl rfl rfl rfl rfl linksRuns_fn Tryz.func12 linksRuns_joined linksRuns_inst linksRuns_wrap
    (fun os started H enc _ => linksRuns_lifted os started H enc)
#print axioms linksRuns_holds
end Go.Proofs.YtgbdopegfcphfaaGreat
