/- 'HeadsRuns' is true. No condition. -/
import Derived.Test.YtgbdopegfcphfaaGreatMemoh
import Derived.Test.YtgbdopegfcphfaaGreatRowk
import Derived.Test.YtgbdopegfcphfaaGreatFacts
namespace Go.Proofs.YtgbdopegfcphfaaGreat
open Go.ChangeShapes Go.WideShapes Go.ChangeAt Go.RowKit Go.Ideal

theorem headsRuns_run : (bodyF (base Memoh.pm2 ovrN Memoh.con2) (callF (base Memoh.pm2 ovrN Memoh.con2) 60) Tryz.f17 [] ist0).chk saysTrue = true := by kernel_rfl

set_option maxRecDepth 100000 in
theorem headsRuns_lifted (os : Os) (started : os.Started) (H : Type) (enc : TypeId × Value → H) :
    ReturnsInHanded {} Tryz.checked os 17 .any (Rows.headsRunsSpec.pre6 enc Tryz.prog Tryz.f17 Rows.headsRunsRow.domain false) (Rows.headsRunsSpec.post enc Tryz.prog Tryz.f17 false true false false) := by
  refine returnsInHanded_of_change (C := Tryz.checked) Tryz.own started (by kernel_rfl) Tryz.func17
    (ChangeSpec.witness6 (enc := enc) (C := Tryz.checked) false ⟨#[], #[], []⟩ 8 (by kernel_rfl) (by kernel_rfl) (by kernel_rfl) (by kernel_rfl)) ?_
  intro W base0 args ds gs before _ hW _ _
  have hW' := hW
  obtain ⟨p, q, hA0, hV, rfl, hfz, hnd⟩ := hW
  have hA : DataW.TrodAll enc Tryz.prog W 0 (fun _ => true) true Tryz.f17.params.toList args.toList ds p := hA0
  rw [Tryz.params17] at hA
  obtain ⟨h1, rfl, rfl⟩ := trodAll_nil hA
  obtain ⟨rfl, rfl⟩ := trodVars_none hV
  have h1 : args = #[] := by simpa using h1
  subst h1
  have hc := law_calls (Memoh.con2_ok Memoh.pm2) (f := 17) (fn := Tryz.f17) (by kernel_rfl) headsRuns_run (m := []) (S := snap0) (w := W) (start_HR _ W) .nil
  refine hc.mono ?_
  rintro e W' ⟨rfl, nv', m', S', st⟩
  exact ⟨_, rfl, [], [], _, [], [], [], hW', trodAll_mk1 (shut_bool Tryz.underlying4 true), hA, rfl, kept_of_step st _, fun h => by cases h⟩

theorem headsRuns_in : (Rows.headsRunsRow.inPlace == Tryz.prog.inPlace 17) = true := by kernel_rfl
theorem headsRuns_un : (Rows.headsRunsRow.unfollowed == Tryz.prog.unfollowed 17) = true := by kernel_rfl
theorem headsRuns_re : (Rows.headsRunsRow.recurses == Tryz.prog.recurses 17) = true := by kernel_rfl
theorem headsRuns_na : (Rows.headsRunsRow.named == Tryz.prog.varsNamed 17) = true := by kernel_rfl
theorem headsRuns_fn : Tryz.pinned.checked.prog.funcNamed Rows.headsRunsRow.func = some 17 := by kernel_rfl
theorem headsRuns_joined : joinedFacts Tryz.pinned.checked.prog 17 Tryz.f17 Rows.headsRunsSpec Rows.headsRunsRow = true :=
  joined_of (P := Tryz.prog) (by kernel_rfl) laidOut_ok mapsRowed_ok (by kernel_rfl) (by kernel_rfl) (by kernel_rfl) stops_ok headsRuns_in headsRuns_un headsRuns_re headsRuns_na (by kernel_rfl) plainKeys_ok rfl rfl stopsHeard_ok mayEnter_ok liftsFinal_ok rfl make_ok rfl rfl (by kernel_rfl) (by kernel_rfl) (by kernel_rfl)
theorem headsRuns_inst : Tryz.f17.isInstance Tryz.pinned.checked.prog Rows.headsRunsRow.origin Rows.headsRunsRow.targs := of_decide_eq_true (by kernel_rfl)
theorem headsRuns_wrap : Tryz.f17.isWrapper Tryz.pinned.checked.prog Rows.headsRunsRow.wrapper Rows.headsRunsRow.mainSum := by
  unfold Func.isWrapper; first | (rw [if_pos (by decide +kernel)]; kernel_rfl) | (rw [if_neg (by decide +kernel)]; exact ⟨rfl, rfl⟩)

theorem headsRuns_holds : Rows.HeadsRunsSaid :=
  OpenClaim.holds_of_wide 17 Tryz.f17 rfl rfl rfl rfl rfl rfl rfl ⟨rfl, rfl, rfl, rfl, rfl⟩ rfl rfl rfl rfl rfl headsRuns_fn Tryz.func17 headsRuns_joined headsRuns_inst headsRuns_wrap
    (fun os started H enc _ => headsRuns_lifted os started H enc)
#print axioms headsRuns_holds
end Go.Proofs.YtgbdopegfcphfaaGreat
