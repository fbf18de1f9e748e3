/- MADE BY memo2.py: answers of some calls on data. No condition. -/
import Derived.Test.YtgbdopegfcphfaaGreatRepc
namespace Go.Ideal.Memob
open Go Go.Proofs
set_option maxRecDepth 100000
def s0 : List UInt8 := [120]
def s1 : List UInt8 := [49, 49, 102, 54, 97, 100, 56, 101, 99, 53, 50, 97, 50, 57, 56, 52, 97, 98, 97, 97, 102, 100, 55, 99, 51, 98, 53, 49, 54, 53, 48, 51, 55, 56, 53, 99, 50, 48, 55, 50]
def pm1 : FuncId → Bool := fun _ => false
def x0 : List IVal := [.dat (.str s0)]
def d0 : Dat := .str s1
theorem t0 : PureP 47 x0 (· = d0) := pure_chk (pm := pm1) (con_none _) (f := 47) (fn := Tryz.f47) (by kernel_rfl) (k := 40) (by kernel_rfl)
def tab27 : List (List IVal × Dat) := []
theorem ok27 : ∀ e ∈ tab27, PureP 27 e.1 (· = e.2) := fun e he => by cases he
def tab47 : List (List IVal × Dat) := [(x0, d0)]
theorem ok47 : ∀ e ∈ tab47, PureP 47 e.1 (· = e.2) := by
  intro e he
  simp only [tab47, List.mem_cons, List.not_mem_nil, or_false] at he
  rcases he with rfl
  · exact t0
def con1 (f : FuncId) : Option (List IVal → Option Dat) := match f with
  | 27 => some (memo tab27)
  | 47 => some (memo tab47)
  | 100 => some sortC
  | 174 => some repC
  | _ => none
theorem con1_ok (pm) : ConOK (base pm ovrN con1) := by
  intro f h hf xs d hd
  have hf : con1 f = some h := hf
  unfold con1 at hf
  split at hf <;> cases hf
  · exact (memo_ok ok27 xs d hd).at_ _ _ _
  · exact (memo_ok ok47 xs d hd).at_ _ _ _
  · exact (sortC_ok xs d hd).at_ _ _ _
  · exact (repC_ok xs d hd).at_ _ _ _
def pm2 (f : FuncId) : Bool := match f with
  | 106 => true
  | 26 => true
  | 68 => true
  | 32 => true
  | 288 => true
  | _ => false
def con2 (f : FuncId) : Option (List IVal → Option Dat) := match f with
  | 27 => some (memo tab27)
  | 47 => some (memo tab47)
  | 100 => some sortC
  | 174 => some repC
  | _ => none
theorem con2_ok (pm) : ConOK (base pm ovrN con2) := by
  intro f h hf xs d hd
  have hf : con2 f = some h := hf
  unfold con2 at hf
  split at hf <;> cases hf
  · exact (memo_ok ok27 xs d hd).at_ _ _ _
  · exact (memo_ok ok47 xs d hd).at_ _ _ _
  · exact (sortC_ok xs d hd).at_ _ _ _
  · exact (repC_ok xs d hd).at_ _ _ _
end Go.Ideal.Memob
