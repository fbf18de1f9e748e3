/- The head of the dump, as a list; what hangs on it. No condition. -/
import Derived.Test.YtgbdopegfcphfaaGreatRows
import Derived.ProofKit
namespace Go.Proofs.YtgbdopegfcphfaaGreat
open Go.ChangeShapes Go.WideShapes Go.ChangeAt Go.RowKit

def headSigns : List Char := List.map Char.ofNat [104, 97, 114, 110, 101, 115, 115, 32, 56, 97, 54, 52, 57, 51, 97, 48, 51, 54, 57, 97, 48, 48, 55, 51, 55, 101, 97, 53, 99, 53, 99, 52, 100, 49, 102, 52, 102, 53, 49, 51, 52, 57, 52, 55, 48, 53, 53, 50, 53, 99, 55, 102, 99, 50, 55, 49, 101, 49, 49, 48, 99, 48, 97, 53, 97, 57, 101, 49, 55, 48, 99, 49, 32, 99, 117, 116, 32, 97, 116, 32, 97, 109, 109, 111, 110, 105, 116, 101, 47, 97, 109, 109, 111, 110, 105, 116, 101, 108, 97, 119, 49, 56, 46, 84, 97, 103, 115, 77, 101, 114, 103, 101, 32, 97, 109, 109, 111, 110, 105, 116, 101, 47, 97, 109, 109, 111, 110, 105, 116, 101, 108, 97, 119, 49, 56, 46, 84, 97, 103, 115, 77, 111, 114, 101, 32, 97, 109, 109, 111, 110, 105, 116, 101, 47, 97, 109, 109, 111, 110, 105, 116, 101, 108, 97, 119, 57, 46, 66, 97, 103, 82, 117, 110, 115, 32, 97, 109, 109, 111, 110, 105, 116, 101, 47, 97, 109, 109, 111, 110, 105, 116, 101, 108, 97, 119, 57, 46, 66, 97, 103, 79, 114, 100, 101, 114, 32, 97, 109, 109, 111, 110, 105, 116, 101, 47, 97, 109, 109, 111, 110, 105, 116, 101, 108, 97, 119, 57, 46, 66, 97, 103, 70, 117, 108, 108, 32, 97, 109, 109, 111, 110, 105, 116, 101, 47, 97, 109, 109, 111, 110, 105, 116, 101, 108, 97, 119, 57, 46, 66, 97, 103, 66, 97, 115, 101, 115, 32, 97, 109, 109, 111, 110, 105, 116, 101, 47, 97, 109, 109, 111, 110, 105, 116, 101, 108, 97, 119, 57, 46, 66, 97, 103, 87, 97, 110, 116, 115, 32, 97, 109, 109, 111, 110, 105, 116, 101, 47, 97, 109, 109, 111, 110, 105, 116, 101, 108, 97, 119, 57, 46, 66, 97, 103, 77, 97, 114, 107, 115, 32, 97, 109, 109, 111, 110, 105, 116, 101, 47, 97, 109, 109, 111, 110, 105, 116, 101, 108, 97, 119, 57, 46, 66, 97, 103, 80, 108, 97, 121, 115, 32, 97, 109, 109, 111, 110, 105, 116, 101, 47, 97, 109, 109, 111, 110, 105, 116, 101, 108, 97, 119, 49, 55, 46, 76, 105, 110, 107, 115, 82, 117, 110, 115, 32, 97, 109, 109, 111, 110, 105, 116, 101, 47, 97, 109, 109, 111, 110, 105, 116, 101, 108, 97, 119, 49, 55, 46, 76, 105, 110, 107, 115, 84, 101, 108, 108, 115, 32, 97, 109, 109, 111, 110, 105, 116, 101, 47, 97, 109, 109, 111, 110, 105, 116, 101, 108, 97, 119, 49, 55, 46, 76, 105, 110, 107, 115, 87, 104, 111, 108, 101, 32, 97, 109, 109, 111, 110, 105, 116, 101, 47, 97, 109, 109, 111, 110, 105, 116, 101, 108, 97, 119, 49, 55, 46, 76, 105, 110, 107, 115, 76, 97, 116, 101, 32, 97, 109, 109, 111, 110, 105, 116, 101, 47, 97, 109, 109, 111, 110, 105, 116, 101, 108, 97, 119, 49, 55, 46, 76, 105, 110, 107, 115, 80, 114, 105, 109, 97, 114, 121, 32, 97, 109, 109, 111, 110, 105, 116, 101, 47, 97, 109, 109, 111, 110, 105, 116, 101, 108, 97, 119, 49, 57, 46, 72, 101, 97, 100, 115, 82, 117, 110, 115, 32, 97, 109, 109, 111, 110, 105, 116, 101, 47, 97, 109, 109, 111, 110, 105, 116, 101, 108, 97, 119, 49, 57, 46, 72, 101, 97, 100, 115, 71, 114, 111, 119, 32, 97, 109, 109, 111, 110, 105, 116, 101, 47, 97, 109, 109, 111, 110, 105, 116, 101, 108, 97, 119, 49, 57, 46, 72, 101, 97, 100, 115, 77, 111, 118, 101, 115, 32, 97, 109, 109, 111, 110, 105, 116, 101, 47, 97, 109, 109, 111, 110, 105, 116, 101, 108, 97, 119, 49, 57, 46, 72, 101, 97, 100, 115, 84, 101, 108, 108, 115, 32, 97, 109, 109, 111, 110, 105, 116, 101, 47, 97, 109, 109, 111, 110, 105, 116, 101, 108, 97, 119, 49, 57, 46, 72, 101, 97, 100, 115, 65, 108, 108, 32, 97, 109, 109, 111, 110, 105, 116, 101, 47, 97, 109, 109, 111, 110, 105, 116, 101, 108, 97, 119, 50, 48, 46, 68, 101, 114, 105, 118, 101, 82, 117, 110, 115, 32, 97, 109, 109, 111, 110, 105, 116, 101, 47, 97, 109, 109, 111, 110, 105, 116, 101, 108, 97, 119, 50, 48, 46, 68, 101, 114, 105, 118, 101, 84, 101, 120, 116, 115, 32, 97, 109, 109, 111, 110, 105, 116, 101, 47, 97, 109, 109, 111, 110, 105, 116, 101, 108, 97, 119, 50, 48, 46, 68, 101, 114, 105, 118, 101, 84, 101, 108, 108, 115, 32, 97, 109, 109, 111, 110, 105, 116, 101, 47, 97, 109, 109, 111, 110, 105, 116, 101, 108, 97, 119, 50, 48, 46, 68, 101, 114, 105, 118, 101, 68, 114, 111, 112]
theorem head_is : Tryz.prog.initOrder = String.ofList headSigns := by kernel_rfl
theorem head_list : Tryz.prog.initOrder.toList = headSigns := by rw [head_is, String.toList_ofList]
theorem head_words : behindMainWord (wordsSigns Tryz.prog.initOrder.toList) = behindMainWord (wordsSigns headSigns) := by rw [head_list]

noncomputable def headW : List (List Char) := behindMainWord (wordsSigns headSigns)
theorem w1 : (headW.head? == some "cut".toList) = true := by kernel_rfl
theorem w2 : (stripLifts liftWords headW).1.isEmpty = true := by kernel_rfl
theorem w3 : ((stripLifts liftWords headW).2.head? == some "cut".toList) = true := by kernel_rfl
theorem w4 : Tryz.prog.laysLater = false := by kernel_rfl
theorem w5 : Tryz.prog.bearsReflect = false := by kernel_rfl
theorem w6 : Tryz.prog.doorFits [] = true := by kernel_rfl
theorem w7 : ("cut".toList == "gc".toList) = false := by kernel_rfl
theorem w8 : ("cut".toList == "spec".toList) = false := by kernel_rfl
theorem w9 : ("cut".toList == "carried".toList) = false := by kernel_rfl
theorem w10 : ("cut".toList == "cut".toList) = true := by kernel_rfl
theorem headW_cons : ∃ rest, headW = "cut".toList :: rest := by
  have h := w1
  cases e : headW with
  | nil => rw [e] at h; simp at h
  | cons c rest =>
    rw [e] at h
    simp only [List.head?_cons, Option.some_beq_some, beq_iff_eq] at h
    exact ⟨rest, by rw [h]⟩
theorem headLifts_ok : Tryz.prog.headLifts = [] := by
  unfold Program.headLifts
  rw [head_list]
  rw [show behindMainWord (wordsSigns headSigns) = headW from rfl]
  simp only [w3, if_true]
  exact List.isEmpty_iff.1 w2
theorem liftsFinal_ok : Tryz.prog.liftsFinal = false := by
  unfold Program.liftsFinal
  rw [headLifts_ok, head_list]
  rw [show behindMainWord (wordsSigns headSigns) = headW from rfl]
  obtain ⟨rest, hr⟩ := headW_cons
  rw [hr]
  have : ((some "cut".toList : Option (List Char)) == some "carried".toList) = false := by rw [Option.some_beq_some]; exact w9
  simp only [List.head?_cons, this, Bool.false_and, List.contains_nil, Bool.or_self]

/-- the forms, of any words. -/
def mkOf (ws : List (List Char)) (lifts : List String) : Option Make := match ws with
  | c :: rest => if c == "gc".toList || c == "spec".toList then some .whole else if c == "cut".toList || (c == "finals".toList && rest.head? == some "cut".toList) then some .cut else if c == "carried".toList then some .carried else if lifts.isEmpty then none else some (.lifted lifts)
  | [] => none
theorem make_eq (P : Program) : P.make = mkOf (behindMainWord (wordsSigns P.initOrder.toList)) P.headLifts := rfl
theorem mkOf_cut (c : List Char) (rest : List (List Char)) (lifts : List String) (h1 : (c == "gc".toList) = false) (h2 : (c == "spec".toList) = false) (h3 : (c == "cut".toList) = true) : mkOf (c :: rest) lifts = some .cut := by
  simp only [mkOf, h1, h2, h3, Bool.or_self, Bool.false_eq_true, if_false, Bool.true_or, if_true]
theorem make_ok : Tryz.prog.make = some .cut := by
  obtain ⟨rest, hr⟩ := headW_cons
  have h : behindMainWord (wordsSigns Tryz.prog.initOrder.toList) = "cut".toList :: rest := by rw [head_list]; exact hr
  exact (make_eq _).trans ((congrArg (fun ws => mkOf ws Tryz.prog.headLifts) h).trans (mkOf_cut _ _ _ w7 w8 w10))

def meOf (ws : List (List Char)) (ll br : Bool) (df : List String → Bool) : Bool := match ws with
  | c :: rest =>
    ((c == "gc".toList || c == "spec".toList) && (rest.isEmpty || rest.head? == some "stop".toList)) ||
    (c == "carried".toList && rest.take 2 == ["gc".toList, "cut".toList] && !ll && !br) ||
    ((stripLifts liftWords (c :: rest)).2.head? == some "cut".toList &&
      ((stripLifts liftWords (c :: rest)).1.contains "finals" || !ll) && ((stripLifts liftWords (c :: rest)).1.contains "reflectrows" || !br) &&
      ((stripLifts liftWords (c :: rest)).1.contains "reflectrows" || !(stripLifts liftWords (c :: rest)).1.contains "leanrows") &&
      df (stripLifts liftWords (c :: rest)).1)
  | [] => false
theorem mayEnter_eq (P : Program) : P.mayEnter = meOf (behindMainWord (wordsSigns P.initOrder.toList)) P.laysLater P.bearsReflect P.doorFits := rfl
theorem meOf_cut (c : List Char) (rest : List (List Char)) (df : List String → Bool) (h2 : (stripLifts liftWords (c :: rest)).1 = []) (h3 : ((stripLifts liftWords (c :: rest)).2.head? == some "cut".toList) = true) (h4 : df [] = true) : meOf (c :: rest) false false df = true := by
  simp only [meOf, h2, h3, h4, List.contains_nil, Bool.not_false, Bool.or_true, Bool.and_self, Bool.and_true, Bool.true_and]
theorem mayEnter_ok : Tryz.prog.mayEnter = true := by
  obtain ⟨rest, hr⟩ := headW_cons
  have h : behindMainWord (wordsSigns Tryz.prog.initOrder.toList) = "cut".toList :: rest := by rw [head_list]; exact hr
  have w2' : (stripLifts liftWords ("cut".toList :: rest)).1 = [] := by rw [← hr]; exact List.isEmpty_iff.1 w2
  have w3' : ((stripLifts liftWords ("cut".toList :: rest)).2.head? == some "cut".toList) = true := by rw [← hr]; exact w3
  have e1 : meOf (behindMainWord (wordsSigns Tryz.prog.initOrder.toList)) Tryz.prog.laysLater Tryz.prog.bearsReflect Tryz.prog.doorFits = meOf ("cut".toList :: rest) false false Tryz.prog.doorFits := by rw [h, w4, w5]
  exact (mayEnter_eq _).trans (e1.trans (meOf_cut _ _ _ w2' w3' w6))
end Go.Proofs.YtgbdopegfcphfaaGreat
