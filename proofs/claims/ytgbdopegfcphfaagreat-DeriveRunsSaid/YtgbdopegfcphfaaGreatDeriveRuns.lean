/- 'DeriveRuns' is true. No condition. -/
import Derived.Test.YtgbdopegfcphfaaGreatMemod
import Derived.Test.YtgbdopegfcphfaaGreatRowk
import Derived.Test.YtgbdopegfcphfaaGreatFacts
namespace Go.Proofs.YtgbdopegfcphfaaGreat
open Go.ChangeShapes Go.WideShapes Go.ChangeAt Go.RowKit Go.Ideal

theorem deriveRuns_run : (bodyF (base Memod.pm2 ovrN Memod.con2) (callF (base Memod.pm2 ovrN Memod.con2) 60) Tryz.f22 [] ist0).chk saysTrue = true := by kernel_rfl

set_option maxRecDepth 100000 in
theorem deriveRuns_lifted (os : Os) (started : os.Started) (H : Type) (enc : TypeId × Value → H) :
    ReturnsInHanded {} Tryz.checked os 22 .any (Rows.deriveRunsSpec.pre6 enc Tryz.prog Tryz.f22 Rows.deriveRunsRow.domain false) (Rows.deriveRunsSpec.post enc Tryz.prog Tryz.f22 false true false false) := by
  refine returnsInHanded_of_change (C := Tryz.checked) Tryz.own started (by kernel_rfl) Tryz.func22
    (ChangeSpec.witness6 (enc := enc) (C := Tryz.checked) false ⟨#[], #[], []⟩ 8 (by kernel_rfl) (by kernel_rfl) (by kernel_rfl) (by kernel_rfl)) ?_
  intro W base0 args ds gs before _ hW _ _
  have hW' := hW
  obtain ⟨p, q, hA0, hV, rfl, hfz, hnd⟩ := hW
  have hA : DataW.TrodAll enc Tryz.prog W 0 (fun _ => true) true Tryz.f22.params.toList args.toList ds p := hA0
  rw [Tryz.params22] at hA
  obtain ⟨h1, rfl, rfl⟩ := trodAll_nil hA
  obtain ⟨rfl, rfl⟩ := trodVars_none hV
  have h1 : args = #[] := by simpa using h1
  subst h1
  have hc := law_calls (Memod.con2_ok Memod.pm2) (f := 22) (fn := Tryz.f22) (by kernel_rfl) deriveRuns_run (m := []) (S := snap0) (w := W) (start_HR _ W) .nil
  refine hc.mono ?_
  rintro e W' ⟨rfl, nv', m', S', st⟩
  exact ⟨_, rfl, [], [], _, [], [], [], hW', trodAll_mk1 (shut_bool Tryz.underlying4 true), hA, rfl, kept_of_step st _, fun h => by cases h⟩

theorem deriveRuns_in : (Rows.deriveRunsRow.inPlace == Tryz.prog.inPlace 22) = true := by kernel_rfl
theorem deriveRuns_un : (Rows.deriveRunsRow.unfollowed == Tryz.prog.unfollowed 22) = true := by kernel_rfl
theorem deriveRuns_re : (Rows.deriveRunsRow.recurses == Tryz.prog.recurses 22) = true := by kernel_rfl
theorem deriveRuns_na : (Rows.deriveRunsRow.named == Tryz.prog.varsNamed 22) = true := by kernel_rfl
theorem deriveRuns_fn : Tryz.pinned.checked.prog.funcNamed Rows.deriveRunsRow.func = some 22 := by kernel_rfl
theorem deriveRuns_joined : joinedFacts Tryz.pinned.checked.prog 22 Tryz.f22 Rows.deriveRunsSpec Rows.deriveRunsRow = true :=
  joined_of (P := Tryz.prog) (by kernel_rfl) laidOut_ok mapsRowed_ok (by kernel_rfl) (by kernel_rfl) (by kernel_rfl) stops_ok deriveRuns_in deriveRuns_un deriveRuns_re deriveRuns_na (by kernel_rfl) plainKeys_ok rfl rfl stopsHeard_ok mayEnter_ok liftsFinal_ok rfl make_ok rfl rfl (by kernel_rfl) (by kernel_rfl) (by kernel_rfl)
theorem deriveRuns_inst : Tryz.f22.isInstance Tryz.pinned.checked.prog Rows.deriveRunsRow.origin Rows.deriveRunsRow.targs := of_decide_eq_true (by kernel_rfl)
theorem deriveRuns_wrap : Tryz.f22.isWrapper Tryz.pinned.checked.prog Rows.deriveRunsRow.wrapper Rows.deriveRunsRow.mainSum := by
  unfold Func.isWrapper; first | (rw [if_pos (by decide +kernel)]; kernel_rfl) | (rw [if_neg (by decide +kernel)]; exact ⟨rfl, rfl⟩)

theorem deriveRuns_holds : Rows.DeriveRunsSaid :=
  OpenClaim.holds_of_wide 22 Tryz.f22 rfl rfl rfl rfl rfl rfl rfl ⟨rfl, rfl, rfl, rfl, rfl⟩ rfl rfl rfl rfl rfl deriveRuns_fn Tryz.func22 deriveRuns_joined deriveRuns_inst deriveRuns_wrap
    (fun os started H enc _ => deriveRuns_lifted os started H enc)
#print axioms deriveRuns_holds
end Go.Proofs.YtgbdopegfcphfaaGreat
