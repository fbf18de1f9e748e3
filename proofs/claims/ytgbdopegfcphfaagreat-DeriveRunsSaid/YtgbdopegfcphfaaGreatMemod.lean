/- MADE BY memo2.py: answers of some calls on data. No condition. -/
import Derived.Test.YtgbdopegfcphfaaGreatSortd
namespace Go.Ideal.Memod
open Go Go.Proofs
set_option maxRecDepth 100000
def s0 : List UInt8 := [102]
def s1 : List UInt8 := [52, 97, 48, 97, 49, 57, 50, 49, 56, 101, 48, 56, 50, 97, 51, 52, 51, 97, 49, 98, 49, 55, 101, 53, 51, 51, 51, 52, 48, 57, 97, 102, 57, 100, 57, 56, 102, 48, 102, 53]
def s2 : List UInt8 := [67, 32, 46, 10, 68, 32, 48, 10, 85, 32, 109, 101, 10]
def s3 : List UInt8 := [49, 51, 48, 53, 97, 52, 97, 102, 101, 100, 51, 53, 49, 99, 54, 55, 52, 54, 52, 101, 56, 49, 52, 50, 49, 55, 56, 51, 101, 97, 98, 50, 55, 52, 97, 48, 97, 56, 57, 56]
def s4 : List UInt8 := [67, 32, 46, 10, 68, 32, 48, 10, 85, 32, 109, 101, 10, 90, 32, 49, 51, 48, 53, 97, 52, 97, 102, 101, 100, 51, 53, 49, 99, 54, 55, 52, 54, 52, 101, 56, 49, 52, 50, 49, 55, 56, 51, 101, 97, 98, 50, 55, 52, 97, 48, 97, 56, 57, 56, 10]
def s5 : List UInt8 := [99, 52, 97, 54, 54, 52, 54, 99, 49, 57, 48, 48, 98, 101, 100, 51, 101, 54, 48, 50, 52, 53, 100, 56, 51, 52, 50, 56, 100, 97, 100, 50, 97, 52, 50, 53, 55, 51, 48, 53]
def s6 : List UInt8 := [67, 32, 46, 10, 68, 32, 48, 10, 70, 32, 102, 32, 52, 97, 48, 97, 49, 57, 50, 49, 56, 101, 48, 56, 50, 97, 51, 52, 51, 97, 49, 98, 49, 55, 101, 53, 51, 51, 51, 52, 48, 57, 97, 102, 57, 100, 57, 56, 102, 48, 102, 53, 10, 80, 32, 99, 52, 97, 54, 54, 52, 54, 99, 49, 57, 48, 48, 98, 101, 100, 51, 101, 54, 48, 50, 52, 53, 100, 56, 51, 52, 50, 56, 100, 97, 100, 50, 97, 52, 50, 53, 55, 51, 48, 53, 10, 85, 32, 109, 101, 10]
def s7 : List UInt8 := [55, 101, 48, 57, 53, 49, 98, 51, 54, 101, 56, 56, 51, 101, 99, 50, 55, 51, 98, 50, 97, 54, 53, 98, 97, 99, 53, 48, 55, 99, 100, 53, 101, 57, 54, 55, 99, 97, 100, 55]
def s8 : List UInt8 := [67, 32, 46, 10, 68, 32, 48, 10, 70, 32, 102, 32, 52, 97, 48, 97, 49, 57, 50, 49, 56, 101, 48, 56, 50, 97, 51, 52, 51, 97, 49, 98, 49, 55, 101, 53, 51, 51, 51, 52, 48, 57, 97, 102, 57, 100, 57, 56, 102, 48, 102, 53, 10, 80, 32, 99, 52, 97, 54, 54, 52, 54, 99, 49, 57, 48, 48, 98, 101, 100, 51, 101, 54, 48, 50, 52, 53, 100, 56, 51, 52, 50, 56, 100, 97, 100, 50, 97, 52, 50, 53, 55, 51, 48, 53, 10, 85, 32, 109, 101, 10, 90, 32, 55, 101, 48, 57, 53, 49, 98, 51, 54, 101, 56, 56, 51, 101, 99, 50, 55, 51, 98, 50, 97, 54, 53, 98, 97, 99, 53, 48, 55, 99, 100, 53, 101, 57, 54, 55, 99, 97, 100, 55, 10]
def s9 : List UInt8 := []
def s10 : List UInt8 := [109, 101]
def s11 : List UInt8 := [98]
def pm1 : FuncId → Bool := fun _ => false
def x0 : List IVal := [.dat (.str s0)]
def d0 : Dat := .str s1
theorem t0 : PureP 27 x0 (· = d0) := pure_chk (pm := pm1) (con_none _) (f := 27) (fn := Tryz.f27) (by kernel_rfl) (k := 40) (by kernel_rfl)
def x1 : List IVal := [.dat (.str s2)]
def d1 : Dat := .str s3
theorem t1 : PureP 27 x1 (· = d1) := pure_chk (pm := pm1) (con_none _) (f := 27) (fn := Tryz.f27) (by kernel_rfl) (k := 40) (by kernel_rfl)
def x2 : List IVal := [.dat (.str s4)]
def d2 : Dat := .str s5
theorem t2 : PureP 27 x2 (· = d2) := pure_chk (pm := pm1) (con_none _) (f := 27) (fn := Tryz.f27) (by kernel_rfl) (k := 40) (by kernel_rfl)
def x3 : List IVal := [.dat (.str s6)]
def d3 : Dat := .str s7
theorem t3 : PureP 27 x3 (· = d3) := pure_chk (pm := pm1) (con_none _) (f := 27) (fn := Tryz.f27) (by kernel_rfl) (k := 40) (by kernel_rfl)
def x4 : List IVal := [.dat (.str s6)]
def d4 : Dat := .str s7
theorem t4 : PureP 47 x4 (· = d4) := pure_chk (pm := pm1) (con_none _) (f := 47) (fn := Tryz.f47) (by kernel_rfl) (k := 40) (by kernel_rfl)
def x8 : List IVal := [.dat (.str s2)]
def d8 : Dat := .str s3
theorem t8 : PureP 47 x8 (· = d8) := pure_chk (pm := pm1) (con_none _) (f := 47) (fn := Tryz.f47) (by kernel_rfl) (k := 40) (by kernel_rfl)
def tab27 : List (List IVal × Dat) := [(x0, d0), (x1, d1), (x2, d2), (x3, d3)]
theorem ok27 : ∀ e ∈ tab27, PureP 27 e.1 (· = e.2) := by
  intro e he
  simp only [tab27, List.mem_cons, List.not_mem_nil, or_false] at he
  rcases he with rfl | rfl | rfl | rfl
  · exact t0
  · exact t1
  · exact t2
  · exact t3
def tab47 : List (List IVal × Dat) := [(x4, d4), (x8, d8)]
theorem ok47 : ∀ e ∈ tab47, PureP 47 e.1 (· = e.2) := by
  intro e he
  simp only [tab47, List.mem_cons, List.not_mem_nil, or_false] at he
  rcases he with rfl | rfl
  · exact t4
  · exact t8
def con1 (f : FuncId) : Option (List IVal → Option Dat) := match f with
  | 27 => some (memo tab27)
  | 47 => some (memo tab47)
  | 100 => some sortC
  | _ => none
theorem con1_ok (pm) : ConOK (base pm ovrN con1) := by
  intro f h hf xs d hd
  have hf : con1 f = some h := hf
  unfold con1 at hf
  split at hf <;> cases hf
  · exact (memo_ok ok27 xs d hd).at_ _ _ _
  · exact (memo_ok ok47 xs d hd).at_ _ _ _
  · exact (sortC_ok xs d hd).at_ _ _ _
def pm2 (f : FuncId) : Bool := match f with
  | 106 => true
  | 26 => true
  | 68 => true
  | 32 => true
  | 288 => true
  | _ => false
def x5 : List IVal := [(.dat (.str s8))]
def d5 : Dat := (.tuple [(.agg [(.str s9), (.str s9), (.int .i64 (0)), (.slc false 2 [(.agg [(.str s0), (.str s1)])]), (.slc false 1 [(.str s5)]), .nils, (.str s10)]), (.bool true)])
theorem t5 : PureP 133 x5 (· = d5) := pure_chk (pm := pm2) (con1_ok _) (f := 133) (fn := Tryz.f133) (by kernel_rfl) (k := 40) (by kernel_rfl)
def x6 : List IVal := [(.dat (.str s9))]
def d6 : Dat := (.tuple [(.agg [(.str s9), (.str s9), (.int .i64 (0)), .nils, .nils, .nils, (.str s9)]), (.bool false)])
theorem t6 : PureP 133 x6 (· = d6) := pure_chk (pm := pm2) (con1_ok _) (f := 133) (fn := Tryz.f133) (by kernel_rfl) (k := 40) (by kernel_rfl)
def x7 : List IVal := [(.dat (.str s11)), (.dat (.str s8))]
def d7 : Dat := (.tuple [.nils, (.int .i64 (0))])
theorem t7 : PureP 226 x7 (· = d7) := pure_chk (pm := pm2) (con1_ok _) (f := 226) (fn := Tryz.f226) (by kernel_rfl) (k := 40) (by kernel_rfl)
def x9 : List IVal := [(.dat (.str s4))]
def d9 : Dat := (.tuple [(.agg [(.str s9), (.str s9), (.int .i64 (0)), .nils, .nils, .nils, (.str s10)]), (.bool true)])
theorem t9 : PureP 133 x9 (· = d9) := pure_chk (pm := pm2) (con1_ok _) (f := 133) (fn := Tryz.f133) (by kernel_rfl) (k := 40) (by kernel_rfl)
def x10 : List IVal := [(.dat (.str s5)), (.dat (.str s4))]
def d10 : Dat := (.tuple [.nils, (.int .i64 (0))])
theorem t10 : PureP 226 x10 (· = d10) := pure_chk (pm := pm2) (con1_ok _) (f := 226) (fn := Tryz.f226) (by kernel_rfl) (k := 40) (by kernel_rfl)
def tab133 : List (List IVal × Dat) := [(x5, d5), (x6, d6), (x9, d9)]
theorem ok133 : ∀ e ∈ tab133, PureP 133 e.1 (· = e.2) := by
  intro e he
  simp only [tab133, List.mem_cons, List.not_mem_nil, or_false] at he
  rcases he with rfl | rfl | rfl
  · exact t5
  · exact t6
  · exact t9
def tab226 : List (List IVal × Dat) := [(x7, d7), (x10, d10)]
theorem ok226 : ∀ e ∈ tab226, PureP 226 e.1 (· = e.2) := by
  intro e he
  simp only [tab226, List.mem_cons, List.not_mem_nil, or_false] at he
  rcases he with rfl | rfl
  · exact t7
  · exact t10
def con2 (f : FuncId) : Option (List IVal → Option Dat) := match f with
  | 27 => some (memo tab27)
  | 47 => some (memo tab47)
  | 133 => some (memo tab133)
  | 226 => some (memo tab226)
  | 100 => some sortC
  | _ => none
theorem con2_ok (pm) : ConOK (base pm ovrN con2) := by
  intro f h hf xs d hd
  have hf : con2 f = some h := hf
  unfold con2 at hf
  split at hf <;> cases hf
  · exact (memo_ok ok27 xs d hd).at_ _ _ _
  · exact (memo_ok ok47 xs d hd).at_ _ _ _
  · exact (memo_ok ok133 xs d hd).at_ _ _ _
  · exact (memo_ok ok226 xs d hd).at_ _ _ _
  · exact (sortC_ok xs d hd).at_ _ _ _
end Go.Ideal.Memod
