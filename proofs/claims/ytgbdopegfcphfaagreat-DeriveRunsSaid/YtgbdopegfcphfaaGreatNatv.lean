/- What the interpreter is told of functions that the library leaves to the machine, or that take memory apart. No condition. -/
import Derived.Test.YtgbdopegfcphfaaGreatTabf
import Derived.Test.YtgbdopegfcphfaaGreatFastb
import Derived.Lib.Bytealg
import Derived.Laws.Externs
namespace Go.Ideal
open Go Go.Proofs

/-- what OvrOK asks of a function's answer. -/
def OvrAt (A : Par) (f : FuncId) (h : List IVal → ISt → Tree (IVal × ISt)) : Prop := ∀ (args : List IVal) (s : ISt) (Q : IVal × ISt → Prop), (h args s).All Q → ∀ (m : List MI) (S : Snap) (w : World) (rs : List Value), HR A m S s w → VRs m s.nv S args rs →
  RealFn A.P f rs.toArray w (PostC A m S s w Q)

def idxB : List UInt8 → Nat → Nat → Int
  | [], _, _ => .negSucc 0
  | x :: xs, c, i => match Nat.beq x.toNat c with
    | true => .ofNat i
    | false => idxB xs c (Nat.succ i)

theorem idxB_eq (c : UInt8) : ∀ (l : List UInt8) (i : Nat), (Lib.indexByte l c = -1 → idxB l c.toNat i = -1) ∧ (Lib.indexByte l c ≠ -1 → idxB l c.toNat i = Lib.indexByte l c + i)
  | [], i => ⟨fun _ => rfl, fun h => absurd rfl h⟩
  | x :: xs, i => by
    have hb : Nat.beq x.toNat c.toNat = (x == c) := by
      rw [Bool.eq_iff_iff]
      simp [UInt8.toNat_inj]
    by_cases h : (x == c) = true
    · have e1 : Lib.indexByte (x :: xs) c = 0 := by simp [Lib.indexByte, h]
      have e2 : idxB (x :: xs) c.toNat i = i := by simp [idxB, hb, h]
      rw [e1, e2]
      exact ⟨fun h => by omega, fun _ => by omega⟩
    · have h : (x == c) = false := by simpa using h
      have e1 : Lib.indexByte (x :: xs) c = if Lib.indexByte xs c = -1 then -1 else Lib.indexByte xs c + 1 := by simp [Lib.indexByte, h]
      have e2 : idxB (x :: xs) c.toNat i = idxB xs c.toNat (i + 1) := by simp [idxB, hb, h]
      have ih := idxB_eq c xs (i + 1)
      have := Lib.indexByte_ge xs c
      rw [e1, e2]
      by_cases q : Lib.indexByte xs c = -1
      · rw [if_pos q]
        exact ⟨fun _ => ih.1 q, fun h => absurd rfl h⟩
      · rw [if_neg q, ih.2 q]
        exact ⟨fun h => by omega, fun _ => by omega⟩

def natIdx : List IVal → ISt → Tree (IVal × ISt)
  | [.dat (.str b), .dat (.int .u8 c)], s => .ret (vint (idxB b (Nat.mod c.toNat 256) 0), s)
  | _, _ => .fail "n306"

theorem natIdx_ok {A : Par} (hP : A.P = Tryz.prog) : OvrAt A 306 natIdx := by
  intro args s Q hx m S w rs h hv
  unfold natIdx at hx
  split at hx
  case h_2 => exact hx.elim
  rename_i b c
  obtain ⟨r1, rs1, rfl, v1, hv⟩ := hv.cons_inv
  obtain ⟨r2, rs2, rfl, v2, hv⟩ := hv.cons_inv
  cases hv.nil_inv
  cases str_inv v1
  cases int_inv v2
  have e : idxB b (Nat.mod c.toNat 256) 0 = Lib.indexByte b c.toNat.toUInt8 := by
    have := idxB_eq c.toNat.toUInt8 b 0
    have e1 : (c.toNat.toUInt8).toNat = Nat.mod c.toNat 256 := by simp; rfl
    rw [e1] at this
    by_cases q : Lib.indexByte b c.toNat.toUInt8 = -1
    · rw [this.1 q, q]
    · rw [this.2 q]; simp
  refine .now (.int .i64 (Lib.indexByte b c.toNat.toUInt8)) w ?_ ⟨_, _, s, m, S, rfl, hx, by rw [e]; exact vi .., h, .refl ..⟩
  rw [hP]
  show (callFunc 306 #[.string ⟨b.toArray⟩, .int .u8 c]).run Tryz.prog w = _
  rw [run_callFunc_extern Tryz.func306 (by kernel_rfl) (by kernel_rfl) (by kernel_rfl) (e := Extern.BytealgIndexByte.indexByte) (by kernel_rfl), Lib.run_indexByteString]
  rfl

def cmpB : List UInt8 → List UInt8 → Int
  | [], [] => .ofNat 0
  | [], _ :: _ => .negSucc 0
  | _ :: _, [] => .ofNat 1
  | a :: x, b :: y => match Nat.blt a.toNat b.toNat with
    | true => .negSucc 0
    | false => match Nat.blt b.toNat a.toNat with
      | true => .ofNat 1
      | false => cmpB x y
theorem cmpB_eq : ∀ (a b : List UInt8), cmpB a b = Lib.compareBytes a b
  | [], [] => rfl
  | [], _ :: _ => rfl
  | _ :: _, [] => rfl
  | a :: x, b :: y => by
    have h1 : Nat.blt a.toNat b.toNat = decide (a < b) := by
      rw [Bool.eq_iff_iff, decide_eq_true_iff, Nat.blt_eq]; exact UInt8.lt_iff_toNat_lt.symm
    have h2 : Nat.blt b.toNat a.toNat = decide (b < a) := by
      rw [Bool.eq_iff_iff, decide_eq_true_iff, Nat.blt_eq]; exact UInt8.lt_iff_toNat_lt.symm
    simp only [cmpB, Lib.compareBytes, h1, h2, cmpB_eq x y]
    by_cases q1 : a < b
    · simp [q1]
    · by_cases q2 : b < a
      · simp [q1, q2]
      · simp [q1, q2]

def natCmp : List IVal → ISt → Tree (IVal × ISt)
  | [.dat (.str a), .dat (.str b)], s => .ret (vint (cmpB a b), s)
  | _, _ => .fail "n340"

theorem natCmp_ok {A : Par} (hP : A.P = Tryz.prog) : OvrAt A 340 natCmp := by
  intro args s Q hx m S w rs h hv
  unfold natCmp at hx
  split at hx
  case h_2 => exact hx.elim
  rename_i a b
  obtain ⟨r1, rs1, rfl, v1, hv⟩ := hv.cons_inv
  obtain ⟨r2, rs2, rfl, v2, hv⟩ := hv.cons_inv
  cases hv.nil_inv
  cases str_inv v1
  cases str_inv v2
  refine .now (.int .i64 (Lib.compareBytes a b)) w ?_ ⟨_, _, s, m, S, rfl, hx, by rw [cmpB_eq]; exact vi .., h, .refl ..⟩
  rw [hP]
  show (callFunc 340 #[.string ⟨a.toArray⟩, .string ⟨b.toArray⟩]).run Tryz.prog w = _
  rw [run_callFunc_extern Tryz.func340 (by kernel_rfl) (by kernel_rfl) (by kernel_rfl) (e := Extern.BytealgCompare.compare) (by kernel_rfl), Lib.run_compareString]
  rfl
/-- (*strings.Builder).copyCheck -/
def natCheck : List IVal → ISt → Tree (IVal × ISt)
  | [.ptr id ver 0], s => match s.obj id ver with
    | some (.cells 305 [a, b] 0) => match a with
      | .dat .nilp => .ret (.tuple [], s.setObj id ver (.cells 305 [.ptr id ver 0, b] 0))
      | .ptr id' ver' 0 => match Nat.beq id id' && Nat.beq ver ver' with
        | true => .ret (.tuple [], s)
        | false => .fail "n300"
      | _ => .fail "n300"
    | _ => .fail "n300"
  | _, _ => .fail "n300"

/-- bytes that are their own. -/
def bytesN : List IVal → Option (List UInt8)
  | [] => some []
  | .dat (.int .u8 (.ofNat k)) :: xs => match Nat.blt k 256 with
    | true => match bytesN xs with
      | some l => some (UInt8.ofNat k :: l)
      | none => none
    | false => none
  | _ => none
/-- (*strings.Builder).String: its buffer is not touched any more behind it. -/
def natString : List IVal → ISt → Tree (IVal × ISt)
  | [.ptr id ver 0], s => match s.obj id ver with
    | some (.cells _ [_, b] _) => match b with
      | .dat .nils => .ret (.dat (.str []), s)
      | .mref i v 0 len => match s.obj i v with
        | some (.cells 5 cs _) => match len with
          | 0 => .fail "n234"
          | k + 1 => match takeN (Nat.succ k) cs with
            | some ys => match bytesN ys with
              | some l => match Nat.ble (Nat.succ k) 9223372036854775807 with
                | true => forceS l fun l => .ret (.dat (.str l), s.setObj i v .dead)
                | false => .fail "n234"
              | none => .fail "n234"
            | none => .fail "n234"
        | _ => .fail "n234"
      | _ => .fail "n234"
    | _ => .fail "n234"
  | _, _ => .fail "n234"

/-- (*strings.Builder).grow of one without a buffer -/
def natGrow : List IVal → ISt → Tree (IVal × ISt)
  | [.ptr id ver 0, .dat (.int .i64 (.ofNat n))], s => match s.obj id ver with
    | some (.cells 305 [a, .dat .nils] 0) => match Nat.ble n 70368744177664 with
      | true => .ret (.tuple [], (s.setObj id ver (.cells 305 [a, .mref s.H.length s.nv 0 0] 0)).new (.cells 5 [] 0))
      | false => .fail "n301"
    | _ => .fail "n301"
  | _, _ => .fail "n301"

/-- maps.Clone -/
def natClone : List IVal → ISt → Tree (IVal × ISt)
  | [.dat .nilm], s => .ret (.dat .nilm, s)
  | [.map id ver], s => match s.obj id ver with
    | some (.map ks vs clock) => .ret (.map s.H.length s.nv, s.new (.map ks vs clock))
    | _ => .fail "n164"
  | [.vmap ks vs clock], s => .ret (.map s.H.length s.nv, s.new (.map ks (vs.map .dat) clock))
  | _, _ => .fail "n164"

/-- slices.Grow of the nil slice, files -/
def natGrowS : List IVal → ISt → Tree (IVal × ISt)
  | [.dat .nils, .dat (.int .i64 (.ofNat n))], s => match Nat.ble n 70368744177664 with
    | true => match n with
      | 0 => .ret (.dat .nils, s)
      | _ + 1 => .ret (.mref s.H.length s.nv 0 0, s.new (.cells 96 [] 0))
    | false => .fail "n264"
  | _, _ => .fail "n264"

def strsOf : List IVal → Option (List (List UInt8))
  | [] => some []
  | .dat (.str l) :: xs => match strsOf xs with
    | some ls => some (l :: ls)
    | none => none
  | _ => none
def insT (x : List UInt8) : List (List UInt8) → List (List UInt8)
  | [] => [x]
  | y :: ys => match Op.bytesLess y x with
    | true => y :: insT x ys
    | false => x :: y :: ys
def sortT : List (List UInt8) → List (List UInt8)
  | [] => []
  | x :: xs => insT x (sortT xs)
/-- slices.Sort of texts -/
def natSort : List IVal → ISt → Tree (IVal × ISt)
  | [.dat .nils], s => .ret (.tuple [], s)
  | [.mref id ver off len], s => match s.obj id ver with
    | some (.cells t cs fz) => match takeN len (cs.drop off), Nat.ble fz off with
      | some ys, true => match strsOf ys with
        | some l => match putAt off cs ((sortT l).map fun l => IVal.dat (.str l)) with
          | some zs => .ret (.tuple [], s.setObj id ver (.cells t zs fz))
          | none => .fail "n155"
        | none => .fail "n155"
      | _, _ => .fail "n155"
    | _ => .fail "n155"
  | _, _ => .fail "n155"

end Go.Ideal
