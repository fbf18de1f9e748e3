/- MADE BY sums.py: names of some texts. No condition. -/
import Derived.Test.YtgbdopegfcphfaaGreatMemo
namespace Go.Ideal.Sumsa
open Go Go.Proofs
set_option maxRecDepth 100000
def a0 : List UInt8 := [67, 32, 46, 10, 68, 32, 48, 10, 70, 32, 97, 32, 49, 49, 102, 54, 97, 100, 56, 101, 99, 53, 50, 97, 50, 57, 56, 52, 97, 98, 97, 97, 102, 100, 55, 99, 51, 98, 53, 49, 54, 53, 48, 51, 55, 56, 53, 99, 50, 48, 55, 50, 10, 80, 32, 49, 49, 102, 54, 97, 100, 56, 101, 99, 53, 50, 97, 50, 57, 56, 52, 97, 98, 97, 97, 102, 100, 55, 99, 51, 98, 53, 49, 54, 53, 48, 51, 55, 56, 53, 99, 50, 48, 55, 50, 10, 85, 32, 109, 101, 10]
def h0 : List UInt8 := [49, 50, 50, 51, 99, 48, 55, 100, 49, 54, 51, 57, 101, 98, 48, 56, 100, 54, 97, 51, 102, 54, 50, 49, 98, 51, 54, 101, 56, 52, 54, 102, 49, 102, 98, 54, 56, 52, 55, 100]
theorem t0 : PureP 27 [.dat (.str a0)] (· = .str h0) := pure_chk (pm := fun _ => false) (con_none _) (f := 27) (fn := Tryz.f27) (by kernel_rfl) (k := 20) (by kernel_rfl)
def a1 : List UInt8 := [67, 32, 46, 10, 68, 32, 48, 10, 70, 32, 97, 32, 49, 49, 102, 54, 97, 100, 56, 101, 99, 53, 50, 97, 50, 57, 56, 52, 97, 98, 97, 97, 102, 100, 55, 99, 51, 98, 53, 49, 54, 53, 48, 51, 55, 56, 53, 99, 50, 48, 55, 50, 10, 85, 32, 109, 101, 10]
def h1 : List UInt8 := [54, 51, 56, 97, 56, 52, 52, 55, 53, 100, 101, 101, 56, 98, 100, 53, 100, 51, 56, 48, 48, 54, 50, 57, 51, 48, 48, 48, 99, 99, 56, 55, 51, 51, 102, 55, 101, 100, 53, 50]
theorem t1 : PureP 27 [.dat (.str a1)] (· = .str h1) := pure_chk (pm := fun _ => false) (con_none _) (f := 27) (fn := Tryz.f27) (by kernel_rfl) (k := 20) (by kernel_rfl)
def a2 : List UInt8 := [120]
def h2 : List UInt8 := [49, 49, 102, 54, 97, 100, 56, 101, 99, 53, 50, 97, 50, 57, 56, 52, 97, 98, 97, 97, 102, 100, 55, 99, 51, 98, 53, 49, 54, 53, 48, 51, 55, 56, 53, 99, 50, 48, 55, 50]
theorem t2 : PureP 27 [.dat (.str a2)] (· = .str h2) := pure_chk (pm := fun _ => false) (con_none _) (f := 27) (fn := Tryz.f27) (by kernel_rfl) (k := 20) (by kernel_rfl)
def a3 : List UInt8 := [67, 32, 46, 10, 68, 32, 48, 10, 70, 32, 97, 32, 49, 49, 102, 54, 97, 100, 56, 101, 99, 53, 50, 97, 50, 57, 56, 52, 97, 98, 97, 97, 102, 100, 55, 99, 51, 98, 53, 49, 54, 53, 48, 51, 55, 56, 53, 99, 50, 48, 55, 50, 10, 80, 32, 49, 49, 102, 54, 97, 100, 56, 101, 99, 53, 50, 97, 50, 57, 56, 52, 97, 98, 97, 97, 102, 100, 55, 99, 51, 98, 53, 49, 54, 53, 48, 51, 55, 56, 53, 99, 50, 48, 55, 50, 10, 85, 32, 109, 101, 10]
def h3 : List UInt8 := [49, 50, 50, 51, 99, 48, 55, 100, 49, 54, 51, 57, 101, 98, 48, 56, 100, 54, 97, 51, 102, 54, 50, 49, 98, 51, 54, 101, 56, 52, 54, 102, 49, 102, 98, 54, 56, 52, 55, 100]
theorem t3 : PureP 47 [.dat (.str a3)] (· = .str h3) := pure_chk (pm := fun _ => false) (con_none _) (f := 47) (fn := Tryz.f47) (by kernel_rfl) (k := 20) (by kernel_rfl)
def a4 : List UInt8 := [67, 32, 46, 10, 68, 32, 48, 10, 70, 32, 97, 32, 49, 49, 102, 54, 97, 100, 56, 101, 99, 53, 50, 97, 50, 57, 56, 52, 97, 98, 97, 97, 102, 100, 55, 99, 51, 98, 53, 49, 54, 53, 48, 51, 55, 56, 53, 99, 50, 48, 55, 50, 10, 85, 32, 109, 101, 10]
def h4 : List UInt8 := [54, 51, 56, 97, 56, 52, 52, 55, 53, 100, 101, 101, 56, 98, 100, 53, 100, 51, 56, 48, 48, 54, 50, 57, 51, 48, 48, 48, 99, 99, 56, 55, 51, 51, 102, 55, 101, 100, 53, 50]
theorem t4 : PureP 47 [.dat (.str a4)] (· = .str h4) := pure_chk (pm := fun _ => false) (con_none _) (f := 47) (fn := Tryz.f47) (by kernel_rfl) (k := 20) (by kernel_rfl)
def tab27 : List (List IVal × Dat) := [([.dat (.str a0)], .str h0), ([.dat (.str a1)], .str h1), ([.dat (.str a2)], .str h2)]
theorem ok27 : ∀ e ∈ tab27, PureP 27 e.1 (· = e.2) := by
  intro e he
  simp only [tab27, List.mem_cons, List.not_mem_nil, or_false] at he
  rcases he with rfl | rfl | rfl
  · exact t0
  · exact t1
  · exact t2
def tab47 : List (List IVal × Dat) := [([.dat (.str a3)], .str h3), ([.dat (.str a4)], .str h4)]
theorem ok47 : ∀ e ∈ tab47, PureP 47 e.1 (· = e.2) := by
  intro e he
  simp only [tab47, List.mem_cons, List.not_mem_nil, or_false] at he
  rcases he with rfl | rfl
  · exact t3
  · exact t4
end Go.Ideal.Sumsa
