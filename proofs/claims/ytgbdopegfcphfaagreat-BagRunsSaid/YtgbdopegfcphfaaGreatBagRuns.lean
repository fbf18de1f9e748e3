/- 'BagRuns' is true. No condition. -/
import Derived.Test.YtgbdopegfcphfaaGreatMemob
import Derived.Test.YtgbdopegfcphfaaGreatRowk
import Derived.Test.YtgbdopegfcphfaaGreatFacts
namespace Go.Proofs.YtgbdopegfcphfaaGreat
open Go.ChangeShapes Go.WideShapes Go.ChangeAt Go.RowKit Go.Ideal

theorem bagRuns_run : (bodyF (base Memob.pm2 ovrN Memob.con2) (callF (base Memob.pm2 ovrN Memob.con2) 60) Tryz.f5 [] ist0).chk saysTrue = true := by kernel_rfl

set_option maxRecDepth 100000 in
theorem bagRuns_lifted (os : Os) (started : os.Started) (H : Type) (enc : TypeId × Value → H) :
    ReturnsInHanded {} Tryz.checked os 5 .any (Rows.bagRunsSpec.pre6 enc Tryz.prog Tryz.f5 Rows.bagRunsRow.domain false) (Rows.bagRunsSpec.post enc Tryz.prog Tryz.f5 false true false false) := by
  refine returnsInHanded_of_change (C := Tryz.checked) Tryz.own started (by kernel_rfl) Tryz.func5
    (ChangeSpec.witness6 (enc := enc) (C := Tryz.checked) false ⟨#[], #[], []⟩ 8 (by kernel_rfl) (by kernel_rfl) (by kernel_rfl) (by kernel_rfl)) ?_
  intro W base0 args ds gs before _ hW _ _
  have hW' := hW
  obtain ⟨p, q, hA0, hV, rfl, hfz, hnd⟩ := hW
  have hA : DataW.TrodAll enc Tryz.prog W 0 (fun _ => true) true Tryz.f5.params.toList args.toList ds p := hA0
  rw [Tryz.params5] at hA
  obtain ⟨h1, rfl, rfl⟩ := trodAll_nil hA
  obtain ⟨rfl, rfl⟩ := trodVars_none hV
  have h1 : args = #[] := by simpa using h1
  subst h1
  have hc := law_calls (Memob.con2_ok Memob.pm2) (f := 5) (fn := Tryz.f5) (by kernel_rfl) bagRuns_run (m := []) (S := snap0) (w := W) (start_HR _ W) .nil
  refine hc.mono ?_
  rintro e W' ⟨rfl, nv', m', S', st⟩
  exact ⟨_, rfl, [], [], _, [], [], [], hW', trodAll_mk1 (shut_bool Tryz.underlying4 true), hA, rfl, kept_of_step st _, fun h => by cases h⟩

theorem bagRuns_in : (Rows.bagRunsRow.inPlace == Tryz.prog.inPlace 5) = true := by kernel_rfl
theorem bagRuns_un : (Rows.bagRunsRow.unfollowed == Tryz.prog.unfollowed 5) = true := by kernel_rfl
theorem bagRuns_re : (Rows.bagRunsRow.recurses == Tryz.prog.recurses 5) = true := by kernel_rfl
theorem bagRuns_na : (Rows.bagRunsRow.named == Tryz.prog.varsNamed 5) = true := by kernel_rfl
theorem bagRuns_fn : Tryz.pinned.checked.prog.funcNamed Rows.bagRunsRow.func = some 5 := by kernel_rfl
theorem bagRuns_joined : joinedFacts Tryz.pinned.checked.prog 5 Tryz.f5 Rows.bagRunsSpec Rows.bagRunsRow = true :=
  joined_of (P := Tryz.prog) (by kernel_rfl) laidOut_ok mapsRowed_ok (by kernel_rfl) (by kernel_rfl) (by kernel_rfl) stops_ok bagRuns_in bagRuns_un bagRuns_re bagRuns_na (by kernel_rfl) plainKeys_ok rfl rfl stopsHeard_ok mayEnter_ok liftsFinal_ok rfl make_ok rfl rfl (by kernel_rfl) (by kernel_rfl) (by kernel_rfl)
theorem bagRuns_inst : Tryz.f5.isInstance Tryz.pinned.checked.prog Rows.bagRunsRow.origin Rows.bagRunsRow.targs := of_decide_eq_true (by kernel_rfl)
theorem bagRuns_wrap : Tryz.f5.isWrapper Tryz.pinned.checked.prog Rows.bagRunsRow.wrapper Rows.bagRunsRow.mainSum := by
  unfold Func.isWrapper; first | (rw [if_pos (by decide +kernel)]; kernel_rfl) | (rw [if_neg (by decide +kernel)]; exact ⟨rfl, rfl⟩)

theorem bagRuns_holds : Rows.BagRunsSaid :=
  OpenClaim.holds_of_wide 5 Tryz.f5 rfl rfl rfl rfl rfl rfl rfl ⟨rfl, rfl, rfl, rfl, rfl⟩ rfl rfl rfl rfl rfl bagRuns_fn Tryz.func5 bagRuns_joined bagRuns_inst bagRuns_wrap
    (fun os started H enc _ => bagRuns_lifted os started H enc)
#print axioms bagRuns_holds
end Go.Proofs.YtgbdopegfcphfaaGreat
