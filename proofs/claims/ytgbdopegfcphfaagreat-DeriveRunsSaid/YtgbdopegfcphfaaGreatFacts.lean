/- Closed facts of the program that every row asks, each by itself. No condition. -/
import Derived.Test.YtgbdopegfcphfaaGreatHead
namespace Go.Proofs.YtgbdopegfcphfaaGreat
open Go.ChangeShapes Go.WideShapes Go.ChangeAt Go.RowKit

theorem mapsRowed_ok : mapsRowed Tryz.prog = true := by kernel_rfl
theorem laidOut_ok : laidOutB Tryz.prog = true := by kernel_rfl
theorem stops_ok : ((Tryz.prog.stops == []) && (Tryz.prog.stopKnobs == [])) = true := by kernel_rfl
theorem plainKeys_ok : Tryz.prog.plainKeys = false := by kernel_rfl
theorem stopsHeard_ok : Tryz.prog.stopsHeard = true := by kernel_rfl

theorem joined_of {P : Program} {f : FuncId} {fn : Func} {s : ChangeSpec} {c : OpenClaim}
    (h1 : c.wf (OpenSpec.ofChange s) = true) (h2 : laidOutB P = true) (h3 : mapsRowed P = true) (h4 : fn.params.all (P.readableRec ·) = true) (h5 : namedTie P c.named s.vars = true)
    (h6 : ((c.stops == []) && (c.knobs == [])) = true) (h6' : ((P.stops == []) && (P.stopKnobs == [])) = true)
    (h7 : (c.inPlace == P.inPlace f) = true) (h8 : (c.unfollowed == P.unfollowed f) = true) (h9 : (c.recurses == P.recurses f) = true) (h10 : (c.named == P.varsNamed f) = true)
    (h11 : ((c.maps == (fn.params.toList ++ s.plain.varTypes P).any (P.mapsRec ·)) && (c.ifaces == (fn.params.toList ++ s.plain.varTypes P).any (P.ifacesRec ·)) && (c.mapsOut == P.mapsAmong fn.resultTypes.toList) &&
      (c.loops == (fn.params.toList ++ s.plain.varTypes P).any (P.loopsFrom ·)) && (c.wideKeys == (fn.params.toList ++ s.plain.varTypes P ++ fn.resultTypes.toList).any (P.wideKeysFrom ·)) &&
      s.vars.all (P.varReadable ·) && fn.resultTypes.all (fun t => P.readableRec t && decide (t < P.types.size)) && (c.ifacesOut == fn.resultTypes.toList.any (P.ifacesRec ·)) && (c.loopsOut == fn.resultTypes.toList.any (P.loopsFrom ·))) = true)
    (h12 : P.plainKeys = false) (h12' : c.plainKeys = false) (h13 : c.shortTexts.isNone = true) (h14 : P.stopsHeard = true) (h15 : P.mayEnter = true) (h16 : P.liftsFinal = false) (h16' : c.lifted = false) (h17 : P.make = some .cut) (h17' : c.make = .cut)
    (h18 : c.domain = []) (h19 : (c.kinds == []) = true) (h20 : (c.pinned == c.pinnedBy) = true)
    (h21 : ((c.veiled == (fn.params.toList ++ s.plain.varTypes P ++ fn.resultTypes.toList).any (P.veiledRec ·)) && c.veiledFits P fn.params.toList (fn.params.toList ++ s.plain.varTypes P ++ fn.resultTypes.toList)) = true) :
    joinedFacts P f fn s c = true := by
  simp only [Bool.and_eq_true] at h6 h6' h11 h21
  obtain ⟨⟨⟨⟨⟨⟨⟨⟨a1, a2⟩, a3⟩, a4⟩, a5⟩, a6⟩, a7⟩, a8⟩, a9⟩ := h11
  have e17 : (P.make == some c.make) = true := by rw [h17, h17']; rfl
  have e12 : (c.plainKeys == P.plainKeys) = true := by rw [h12, h12']; rfl
  have e16 : (c.lifted == P.liftsFinal) = true := by rw [h16, h16']; rfl
  have e19 : (c.kinds == (if c.domain.isEmpty then [] else fn.params.toList.map fun t => match P.underlying t with | some (.int k) => some k | _ => none)) = true := by rw [h18]; exact h19
  unfold joinedFacts
  simp only [Bool.and_eq_true]
  exact ⟨⟨⟨⟨⟨⟨⟨⟨⟨⟨⟨⟨⟨⟨⟨⟨⟨⟨⟨⟨⟨⟨⟨⟨⟨⟨⟨⟨⟨⟨⟨h1, h2⟩, h3⟩, h4⟩, h5⟩, h6.1⟩, h6'.1⟩, h6.2⟩, h6'.2⟩, h7⟩, h8⟩, h9⟩, h10⟩, a1⟩, a2⟩, a3⟩, a4⟩, a5⟩, a6⟩, a7⟩, a8⟩, a9⟩, e12⟩, h13⟩, h14⟩, h15⟩, e16⟩, e17⟩, e19⟩, h20⟩, h21.1⟩, h21.2⟩
end Go.Proofs.YtgbdopegfcphfaaGreat
