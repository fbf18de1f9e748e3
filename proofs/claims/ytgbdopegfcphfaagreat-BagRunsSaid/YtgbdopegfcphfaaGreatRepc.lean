/- strings.Repeat as a call on data. No condition. -/
import Derived.Test.YtgbdopegfcphfaaGreatLaidr
import Derived.Test.YtgbdopegfcphfaaGreatSortd
namespace Go.Ideal
open Go Go.Proofs Go.RowKit

theorem post_below {A : Par} {S : Snap} {w w' : World} {Q : Dat → Prop} {d : Dat} {r : Value} (hR : HR A [] S ist0 w) (hB : Below w.heap.size w w') (hv : VRD S.sc d r) (hQ : Q d) : PostD A S w Q (.returned r) w' := by
  have keep : Keep [] w w' := ⟨hB.size, fun b hb _ => hB.block b hb, fun b l hl => ⟨l, (hB.block b (heap_lt hl)).trans hl⟩, hB.os, hB.tape, hB.output⟩
  have snap : SnapOK S w' := ⟨fun b i v e => (cell_of_heap (hB.block b (cell_lt (hR.snap.sc b i v e)))).trans (hR.snap.sc b i v e), fun b i v e => (cell_of_heap (hB.block b (cell_lt (hR.snap.sb b i v e)))).trans (hR.snap.sb b i v e),
    fun b es c e => (hB.block b (heap_lt (hR.snap.sm b es c e))).trans (hR.snap.sm b es c e)⟩
  exact ⟨_, d, S, rfl, hQ, hv, ⟨rfl, fun id ver o e => by simp [ist0] at e, fun id id' mi mi' e => by simp at e, snap⟩, .refl _ _ _, keep, fun id mi' e => by simp at e, fun _ _ _ _ => rfl⟩

theorem repeat_pure (s : List UInt8) (c : Nat) (hc : c ≤ 9223372036854775807) (hl : s.length * c ≤ 140737488355328) : PureP 174 [.dat (.str s), .dat (.int .i64 (.ofNat c))] (· = .str (Lib.repeatL s c)) := by
  intro S w rs hR hv
  obtain ⟨r1, _, rfl, v1, hv⟩ := hv.cons_inv
  obtain ⟨r2, _, rfl, v2, hv⟩ := hv.cons_inv
  cases hv.nil_inv
  cases str_inv v1
  cases int_inv v2
  refine realFn_calls Tryz.func174 rfl (by kernel_rfl) ((Tryz.strings_Repeat ⟨s.toArray⟩ c w hc (by simpa [ByteArray.size] using hl)).mono ?_)
  rintro e w' ⟨rfl, hB⟩
  exact post_below hR hB (.str _ .nil) rfl

def repC : List IVal → Option Dat
  | [.dat (.str s), .dat (.int .i64 (.ofNat c))] => match Nat.ble c 1000000000, Nat.ble (Nat.mul s.length c) 1000000000 with
    | true, true => some (.str (Lib.repeatL s c))
    | _, _ => none
  | _ => none
theorem repC_ok (xs d) (h : repC xs = some d) : PureP 174 xs (· = d) := by
  unfold repC at h
  split at h
  · rename_i s c
    split at h
    · rename_i h1 h2
      cases h
      have h1 := Nat.le_of_ble_eq_true h1
      have h2 : s.length * c ≤ 1000000000 := Nat.le_of_ble_eq_true h2
      exact repeat_pure s c (by omega) (by omega)
    · cases h
  · cases h
end Go.Ideal
