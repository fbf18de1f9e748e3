/- An interpreter of the loaded program over ideal values, without a tape: what it answers the machine answers (Sim). This text only defines it; no condition. -/
import Derived.RangeFuncIn
import Derived.RangeFuncLeaves
import Derived.OrdersIn
namespace Go.Ideal

/-- What the walks of maps, and orders that are left open, leave to choose. -/
inductive Tree (α : Type) where
  | ret (a : α)
  | fail (why : String)
  | pick (n : Nat) (k : Nat → Tree α)

def Tree.bind {α β : Type} : Tree α → (α → Tree β) → Tree β
  | .ret a, f => f a
  | .fail n, _ => .fail n
  | .pick n k, f => .pick n fun i => (k i).bind f

def Tree.ofOption {α : Type} (n : String) : Option α → Tree α
  | some a => .ret a
  | none => .fail n

def Tree.All {α : Type} (Q : α → Prop) : Tree α → Prop
  | .ret a => Q a
  | .fail _ => False
  | .pick n k => ∀ i, i < n → (k i).All Q

/-- Data: nothing in it can be written any more. -/
inductive Dat where
  | bool (b : Bool)
  | int (k : IntKind) (n : Int)
  | str (s : List UInt8)
  | nilp | nilm | nilf | nils | nili
  | slc (full : Bool) (n : Nat) (xs : List Dat)
  | agg (cs : List Dat)
  | tuple (vs : List Dat)
  deriving Inhabited

inductive IVal where
  | dat (d : Dat)
  | ptr (id ver off : Nat)
  | rptr (cs : List IVal)
  | mref (id ver off len : Nat)
  | map (id ver : Nat)
  | vmap (ks : List (Dat × Nat)) (vs : List Dat) (clock : Nat)
  | fn (f : FuncId) (first captured : List IVal)
  | yield (id ver : Nat)
  | agg (cs : List IVal)
  | tuple (vs : List IVal)

def iundef : IVal := .dat (.tuple [])
instance : Inhabited IVal := ⟨iundef⟩

/-- The temporaries of an activation: a trie by slots. -/
inductive Tm where
  | leaf
  | node (l : Tm) (v : IVal) (r : Tm)

def Tm.get : Tm → Nat → IVal
  | .leaf, _ => iundef
  | .node _ v _, 0 => v
  | .node l _ r, j + 1 => match Nat.beq (j % 2) 0 with
    | true => l.get (j / 2)
    | false => r.get (j / 2)

def Tm.left : Tm → Tm
  | .leaf => .leaf
  | .node l _ _ => l
def Tm.right : Tm → Tm
  | .leaf => .leaf
  | .node _ _ r => r
def Tm.val : Tm → IVal
  | .leaf => iundef
  | .node _ v _ => v

def Tm.setD : Nat → Tm → Nat → IVal → Tm
  | 0, t, _, _ => t
  | d + 1, t, i, x => match i with
    | 0 => .node t.left x t.right
    | j + 1 => match Nat.beq (j % 2) 0 with
      | true => .node (t.left.setD d (j / 2) x) t.val t.right
      | false => .node t.left t.val (t.right.setD d (j / 2) x)

def Tm.set (t : Tm) (i : Nat) (x : IVal) : Tm := t.setD 12 i x

def Tm.fill : Tm → Nat → List IVal → Tm
  | t, _, [] => t
  | t, i, x :: xs => (t.set i x).fill (i + 1) xs

inductive IObj where
  | cells (t : TypeId) (cs : List IVal) (fz : Nat)
  | map (ks : List (Dat × Nat)) (vs : List IVal) (clock : Nat)
  | iter (m : IVal) (since : Nat) (seen : List Nat) (stepped : Nat)
  | loop (state : LoopState) (pending : Option Code) (n : Nat) (tm : Tm) (params : List Tmp) (assign body : Code)
  | dead

structure ISt where
  H : List (Nat × IObj)
  nv : Nat

inductive IExit where
  | normal
  | exit (id : Nat)
  | ret

/-- What is known of a type. -/
structure TI where
  sz : Nat
  bytes : Nat
  zero : Option Dat
  und : TypeDesc

/-- The parts of the interpreter that are parameters: the program by tables, which functions are called on data alone, summaries. -/
structure Par where
  P : Program
  ti : TypeId → Option TI
  fn : FuncId → Option Func
  pm : FuncId → Bool
  ovr : FuncId → Option (List IVal → ISt → Tree (IVal × ISt))
  con : FuncId → Option (List IVal → Option Dat)
  eqT : TypeId → Bool
  keyT : TypeId → Dat → Bool

def mapO {α β : Type} (f : α → Option β) : List α → Option (List β)
  | [] => some []
  | x :: xs => match f x with
    | some y => match mapO f xs with
      | some ys => some (y :: ys)
      | none => none
    | none => none

/-- a step of the model's own that asks nothing of memory. -/
def pureRun {α : Type} (P : Program) : Sem α → Option α
  | .pure a => some a
  | .program k => pureRun P (k P)
  | .mark _ k => pureRun P k
  | _ => none

def leafOfV : Value → Option Dat
  | .bool b => some (.bool b)
  | .int k n => some (.int k n)
  | .string s => some (.str s.data.toList)
  | .pointer none => some .nilp
  | .map none => some .nilm
  | .nilFunc => some .nilf
  | .slice none 0 0 => some .nils
  | .nilIface => some .nili
  | _ => none
def ofV : Value → Option Dat
  | .agg cs => (mapO leafOfV cs.toList).map .agg
  | .tuple vs => (mapO leafOfV vs.toList).map .tuple
  | v => leafOfV v
def leafToV : Dat → Option Value
  | .bool b => some (.bool b)
  | .int k n => some (.int k n)
  | .str s => some (.string ⟨s.toArray⟩)
  | .nilp => some (.pointer none)
  | .nilm => some (.map none)
  | .nilf => some .nilFunc
  | .nils => some (.slice none 0 0)
  | .nili => some .nilIface
  | _ => none

def Dat.cells : Dat → List Dat
  | .agg cs => cs
  | d => [d]
def IVal.cells : IVal → List IVal
  | .dat d => d.cells.map .dat
  | .agg cs => cs
  | v => [v]
def IVal.leaf : IVal → Bool
  | .dat (.agg _) | .dat (.tuple _) | .agg _ | .tuple _ => false
  | _ => true
def asDat : IVal → Option Dat
  | .dat d => some d
  | _ => none
/-- data, or an aggregate of data. -/
def flatD : IVal → Option Dat
  | .dat d => some d
  | .agg cs => (mapO asDat cs).map .agg
  | _ => none

def isAg : TypeDesc → Bool
  | .struct _ | .array _ _ => true
  | _ => false

def ISt.obj (s : ISt) (id ver : Nat) : Option IObj :=
  match s.H[id]? with
  | some (v, o) => match Nat.beq v ver with
    | true => some o
    | false => none
  | none => none
def ISt.setObj (s : ISt) (id ver : Nat) (o : IObj) : ISt := { s with H := s.H.set id (ver, o) }
def ISt.new (s : ISt) (o : IObj) : ISt := { H := s.H ++ [(s.nv, o)], nv := s.nv + 1 }
/-- an object grows: its elder handles are stale. -/
def ISt.grow (s : ISt) (id : Nat) (o : IObj) : ISt := { H := s.H.set id (s.nv, o), nv := s.nv + 1 }

/-- the first n cells, if there are as many. -/
def takeN {α : Type} : Nat → List α → Option (List α)
  | 0, _ => some []
  | n + 1, x :: xs => match takeN n xs with
    | some ys => some (x :: ys)
    | none => none
  | _ + 1, [] => none

/-- n cells written over from a place on, if they lie there. -/
def putAt {α : Type} : Nat → List α → List α → Option (List α)
  | 0, ys, [] => some ys
  | 0, _ :: ys, x :: xs => match putAt 0 ys xs with
    | some zs => some (x :: zs)
    | none => none
  | 0, [], _ :: _ => none
  | n + 1, y :: ys, xs => match putAt n ys xs with
    | some zs => some (y :: zs)
    | none => none
  | _ + 1, [], _ => none

def ISt.cellsAt (s : ISt) : IVal → Nat → Option (List IVal)
  | .ptr id ver off, n => match s.obj id ver with
    | some (.cells _ cs _) => takeN n (cs.drop off)
    | _ => none
  | .rptr cs, n => takeN n cs
  | _, _ => none

def mkV (ag : Bool) (cs : List IVal) : Option IVal :=
  match ag, cs with
  | true, _ => some (.agg cs)
  | false, [x] => some x
  | false, _ => none

section
variable (A : Par)

def elemT (t : TypeId) : Option (TypeId × TI) := match A.ti t with
  | some i => match i.und with
    | .slice e => match A.ti e with
      | some j => some (e, j)
      | none => none
    | _ => none
  | none => none

def ISt.load (s : ISt) (t : TypeId) (a : IVal) : Option IVal :=
  match A.ti t with
  | some i => match s.cellsAt a i.sz with
    | some cs => mkV (isAg i.und) cs
    | none => none
  | none => none

def ISt.store (s : ISt) (t : TypeId) (a x : IVal) : Option ISt :=
  match A.ti t, a with
  | some i, .ptr id ver off =>
    let xs := x.cells
    match Nat.beq xs.length i.sz && xs.all IVal.leaf, s.obj id ver with
    | true, some (.cells e cs fz) => match Nat.ble fz off, putAt off cs xs with
      | true, some ys => some (s.setObj id ver (.cells e ys fz))
      | _, _ => none
    | _, _ => none
  | _, _ => none

def Dat.leaf : Dat → Bool
  | .agg _ | .tuple _ => false
  | _ => true

/-- so many elements of n cells each. -/
def chunkD (ag : Bool) (n : Nat) : Nat → List Dat → Option (List Dat)
  | 0, _ => some []
  | k + 1, xs => match takeN n xs with
    | some ys => match chunkD ag n k (xs.drop n) with
      | some ds => match ag, ys with
        | true, ys => some (.agg ys :: ds)
        | false, [d] => if d.leaf then some (d :: ds) else none
        | false, _ => none
      | none => none
    | none => none

/-- data out of a value: what it refers to is frozen. -/
def toDatLeaf (s : ISt) : IVal → Option (Dat × ISt)
  | .dat d => some (d, s)
  | .mref id ver off len =>
    match s.obj id ver with
    | some (.cells t cs fz) => match A.ti t with
      | some i => match takeN (len * i.sz) (cs.drop off) with
        | some ys => match mapO asDat ys with
          | some zs => match chunkD (isAg i.und) i.sz len zs with
            | some xs => some (.slc false i.sz xs, s.setObj id ver (.cells t cs (Nat.max fz (off + len * i.sz))))
            | none => none
          | none => none
        | none => none
      | none => none
    | _ => none
  | _ => none
def mapSt {α : Type} (f : ISt → IVal → Option (α × ISt)) : ISt → List IVal → Option (List α × ISt)
  | s, [] => some ([], s)
  | s, x :: xs => match f s x with
    | some (d, s1) => match mapSt f s1 xs with
      | some (ds, s2) => some (d :: ds, s2)
      | none => none
    | none => none
def toDatAgg (s : ISt) : IVal → Option (Dat × ISt)
  | .agg cs => match mapSt (toDatLeaf A) s cs with
    | some (ds, s1) => some (.agg ds, s1)
    | none => none
  | v => toDatLeaf A s v
def toDat (s : ISt) : IVal → Option (Dat × ISt)
  | .tuple vs => match mapSt (toDatAgg A) s vs with
    | some (ds, s1) => some (.tuple ds, s1)
    | none => none
  | v => toDatAgg A s v

/-- an argument of a call on data: maps are lent as they are; pointers to cells too. -/
def argLeaf : Nat → ISt → IVal → Option (IVal × ISt)
  | 0, _, _ => none
  | d + 1, s, v => match v with
    | .dat x => some (.dat x, s)
    | .mref .. => match toDatLeaf A s v with
      | some (x, s1) => some (.dat x, s1)
      | none => none
    | .vmap .. => some (v, s)
    | .rptr cs => match mapSt (argLeaf d) s cs with
      | some (ys, s1) => some (.rptr ys, s1)
      | none => none
    | .map id ver =>
      match s.obj id ver with
      | some (.map ks vs clock) => match mapO flatD vs with
        | some ds => some (.vmap ks ds clock, s)
        | none => none
      | _ => none
    | .ptr id ver off =>
      match s.obj id ver with
      | some (.cells _ cs _) => match mapSt (argLeaf d) s (cs.drop off) with
        | some (ys, s1) => some (.rptr ys, s1)
        | none => none
      | _ => none
    | .agg cs => match mapSt (argLeaf d) s cs with
      | some (ys, s1) => some (.agg ys, s1)
      | none => none
    | .fn f a b => match mapSt (argLeaf d) s a with
      | some (ys, s1) => match mapSt (argLeaf d) s1 b with
        | some (zs, s2) => some (.fn f ys zs, s2)
        | none => none
      | none => none
    | _ => none
def argList (s : ISt) (xs : List IVal) : Option (List IVal × ISt) := mapSt (argLeaf A 8) s xs

def Dat.isLeafFlat : Dat → Bool
  | .slc .. | .agg _ | .tuple _ => false
  | _ => true
def Dat.isFlat1 : Dat → Bool
  | .agg cs => cs.all Dat.isLeafFlat
  | d => d.isLeafFlat
/-- nothing in it leads to memory. -/
def Dat.isFlat : Dat → Bool
  | .tuple vs => vs.all Dat.isFlat1
  | d => d.isFlat1

def asI : IVal → Option Int
  | .dat (.int _ n) => some n
  | _ => none
def asB : IVal → Option Bool
  | .dat (.bool b) => some b
  | _ => none
def vint (n : Int) : IVal := .dat (.int .i64 n)
def vbool (b : Bool) : IVal := .dat (.bool b)

def bytesEq : List UInt8 → List UInt8 → Bool
  | [], [] => true
  | a :: x, b :: y => Nat.beq a.toNat b.toNat && bytesEq x y
  | _, _ => false
/-- are two flat data alike? -/
def keqLeaf : Dat → Dat → Option Bool
  | .int k a, .int k' b => if k = k' then some (decide (a = b)) else none
  | .str a, .str b => some (bytesEq a b)
  | .bool a, .bool b => some (a == b)
  | _, _ => none
def keqL : List Dat → List Dat → Option Bool
  | [], [] => some true
  | a :: x, b :: y => match keqLeaf a b, keqL x y with
    | some p, some q => some (p && q)
    | _, _ => none
  | _, _ => none
def keq : Dat → Dat → Option Bool
  | .agg a, .agg b => keqL a b
  | a, b => keqLeaf a b
def findK (k : Dat) : List (Dat × Nat) → Nat → Option (Option Nat)
  | [], _ => some none
  | (e, _) :: es, i => match keq k e with
    | some true => some (some i)
    | some false => findK k es (i + 1)
    | none => none

def bytesD (s : List UInt8) : List IVal := s.map fun b => .dat (.int .u8 b.toNat)

/-- the cells of what is appended or copied. -/
def srcCells (s : ISt) (n : Nat) : IVal → Option (List IVal)
  | .dat .nils => some []
  | .dat (.slc _ k xs) => if Nat.beq k n then some ((xs.flatMap Dat.cells).map .dat) else none
  | .dat (.str b) => if Nat.beq n 1 then some (bytesD b) else none
  | .mref id ver off len => match s.obj id ver with
    | some (.cells _ cs _) => takeN (len * n) (cs.drop off)
    | _ => none
  | _ => none

def lenOf (s : ISt) : IVal → Option Nat
  | .dat .nils | .dat .nilm => some 0
  | .dat (.slc _ _ xs) => some xs.length
  | .dat (.str b) => some b.length
  | .mref _ _ _ len => some len
  | .map id ver => match s.obj id ver with
    | some (.map ks _ _) => some ks.length
    | _ => none
  | .vmap ks _ _ => some ks.length
  | _ => none

/-- so many bytes may be asked for -/
def roomE (i : TI) (n : Nat) : Bool := Nat.ble (n * i.bytes) 70368744177664 && Nat.ble n 70368744177664

def appendI (s : ISt) (t : TypeId) (x y : IVal) : Option (IVal × ISt) :=
  match elemT A t with
  | none => none
  | some (e, i) =>
    match Nat.blt 0 i.sz && i.zero.isSome, srcCells s i.sz y with
    | true, some ys =>
      match ys.all IVal.leaf with
      | false => none
      | true => match ys with
        | [] => match x with
          | .dat .nils | .dat (.slc ..) | .mref .. => some (x, s)
          | _ => none
        | _ =>
          let m := ys.length / i.sz
          match x with
          | .dat .nils => if roomE i m then some (.mref s.H.length s.nv 0 m, s.new (.cells e ys 0)) else none
          | .dat (.slc true k xs) =>
            let os := (xs.flatMap Dat.cells).map IVal.dat
            if Nat.beq k i.sz && roomE i (xs.length + m) && os.all IVal.leaf then some (.mref s.H.length s.nv 0 (xs.length + m), s.new (.cells e (os ++ ys) 0)) else none
          | .mref id ver 0 len => match s.obj id ver with
            | some (.cells e' cs fz) =>
              if roomE i (len + m) && Nat.beq e' e && Nat.beq cs.length (len * i.sz) && Nat.ble fz cs.length then some (.mref id s.nv 0 (len + m), s.grow id (.cells e (cs ++ ys) fz)) else none
            | _ => none
          | _ => none
    | _, _ => none

def copyI (s : ISt) (t : TypeId) (x y : IVal) : Option (IVal × ISt) :=
  match elemT A t with
  | none => none
  | some (_, i) => match Nat.blt 0 i.sz, srcCells s i.sz y, x with
    | true, some ys, .mref id ver off len => match s.obj id ver with
      | some (.cells e' cs fz) =>
        let m := Nat.min (ys.length / i.sz) len
        match Nat.ble fz off && ys.all IVal.leaf, putAt off cs (ys.take (m * i.sz)) with
        | true, some zs => some (vint m, s.setObj id ver (.cells e' zs fz))
        | _, _ => none
      | _ => none
    | true, some _, .dat .nils => some (vint 0, s)
    | _, _, _ => none

def mapKT (t : TypeId) : Option (TypeId × TypeId) := match A.ti t with
  | some i => match i.und with
    | .map k e => some (k, e)
    | _ => none
  | none => none

def keyOf (t : TypeId) (k : IVal) : Option Dat := match flatD k with
  | some d => if A.keyT t d && d.isFlat1 then some d else none
  | none => none

def delI (s : ISt) (t : TypeId) (m k : IVal) : Option (IVal × ISt) :=
  match mapKT A t, m with
  | some (kt, _), .map id ver => match keyOf A kt k, s.obj id ver with
    | some kv, some (.map ks vs clock) => match findK kv ks 0 with
      | some (some i) => some (iundef, s.setObj id ver (.map (ks.eraseIdx i) (vs.eraseIdx i) clock))
      | some none => some (iundef, s)
      | none => none
    | _, _ => none
  | _, _ => none

def minI : IVal → List IVal → Option IVal
  | x, [] => some x
  | .dat (.int k a), .dat (.int _ b) :: xs => minI (.dat (.int k (if b < a then b else a))) xs
  | _, _ => none
def maxI : IVal → List IVal → Option IVal
  | x, [] => some x
  | .dat (.int k a), .dat (.int _ b) :: xs => maxI (.dat (.int k (if b > a then b else a))) xs
  | _, _ => none

/-- a map's keys and values, as they are found. -/
def mapEntries (s : ISt) : IVal → Option (List (Dat × Nat) × List IVal × Nat)
  | .map id ver => match s.obj id ver with
    | some (.map ks vs clock) => some (ks, vs, clock)
    | _ => none
  | .vmap ks vs clock => some (ks, vs.map .dat, clock)
  | _ => none

/-- the built-in clear, of a slice -/
def clearI (s : ISt) (t : TypeId) (x : IVal) : Option (IVal × ISt) :=
  match elemT A t with
  | none => none
  | some (_, i) => match x with
    | .dat .nils => some (.tuple [], s)
    | .mref id ver off len => match len with
      | 0 => some (.tuple [], s)
      | k + 1 => match i.zero, s.obj id ver with
        | some z, some (.cells e' cs fz) => match Nat.ble fz off, putAt off cs (List.replicate (k + 1) (z.cells.map IVal.dat)).flatten with
          | true, some ys => some (.tuple [], s.setObj id ver (.cells e' ys fz))
          | _, _ => none
        | _, _ => none
    | _ => none

def builtinI (b : Builtin) (ts : Array TypeId) (args : List IVal) (s : ISt) : Option (IVal × ISt) :=
  match b, args with
  | .len, [x] =>
    match (ts[0]?).bind A.ti with
    | some i => match i.und, x with
      | .array n _, _ => some (vint n, s)
      | .string, .dat (.str b) => some (vint b.length, s)
      | .slice _, .dat .nils => some (vint 0, s)
      | .slice _, .dat (.slc _ _ xs) => some (vint xs.length, s)
      | .slice _, .mref _ _ _ len => some (vint len, s)
      | .map _ _, .dat .nilm => some (vint 0, s)
      | .map _ _, m => match mapEntries s m with
        | some (ks, _, _) => some (vint ks.length, s)
        | none => none
      | _, _ => none
    | none => none
  | .append, [x, y] => match ts.toList with
    | [t, t1] => match A.ti t1 with
      | some j => match j.und, y with
        | .slice _, .dat (.str _) => none
        | .slice _, y => appendI A s t x y
        | .string, .dat (.str b) => appendI A s t x (.dat (.str b))
        | _, _ => none
      | none => none
    | _ => none
  | .copy, [x, y] => match ts[0]? with
    | some t => copyI A s t x y
    | none => none
  | .delete, [m, k] => match ts[0]? with
    | some t => delI A s t m k
    | none => none
  | .min, x :: xs => match minI x xs with
    | some v => some (v, s)
    | none => none
  | .max, x :: xs => match maxI x xs with
    | some v => some (v, s)
    | none => none
  | .cap, [x] => match ts[0]? with
    | some t => match A.ti t with
      | some i => match i.und, x with
        | .slice _, .dat .nils => some (vint 0, s)
        | _, _ => none
      | none => none
    | none => none
  | .clear, [x] => match ts[0]? with
    | some t => clearI A s t x
    | none => none
  | _, _ => none

def bound (x : Option IVal) (y : Nat) (d : Nat) : Option Nat :=
  match x with
  | none => some d
  | some v => match asI v with
    | some (.ofNat i) => if Nat.ble i y then some i else none
    | _ => none

def sliceI (t : TypeId) (x : IVal) (lo hi mx : Option IVal) : Option IVal :=
  match mx, A.ti t with
  | none, some ty => match ty.und, x with
    | .string, .dat (.str b) => match bound hi b.length b.length with
      | some h => match bound lo h 0 with
        | some l => some (.dat (.str ((b.take h).drop l)))
        | none => none
      | none => none
    | .slice e, .dat .nils => match bound hi 0 0, A.ti e with
      | some h, some _ => match bound lo h 0 with
        | some _ => some x
        | none => none
      | _, _ => none
    | .slice e, .dat (.slc full n xs) => match bound hi xs.length xs.length, A.ti e with
      | some h, some i => match bound lo h 0 with
        | some l => if Nat.beq n i.sz then some (.dat (.slc (full && Nat.beq h xs.length) n ((xs.take h).drop l))) else none
        | none => none
      | _, _ => none
    | .slice e, .mref id ver off len => match bound hi len len, A.ti e with
      | some h, some i => match bound lo h 0 with
        | some l => some (.mref id ver (off + l * i.sz) (h - l))
        | none => none
      | _, _ => none
    | _, _ => none
  | _, _ => none

def partI (t : TypeId) (cs : List IVal) (off : Nat) : Option IVal := match A.ti t with
  | some i => match takeN i.sz (cs.drop off) with
    | some ys => mkV (isAg i.und) ys
    | none => none
  | none => none

def fieldOf (t : TypeId) (k : Nat) : Option Field := match A.ti t with
  | some i => match i.und with
    | .struct fs => fs[k]?
    | _ => none
  | none => none

def isTup : IVal → Option (List IVal)
  | .tuple vs => some vs
  | .dat (.tuple vs) => some (vs.map .dat)
  | _ => none

def putParts (place : Nat → Option (Nat × Nat)) (cells : List IVal) : List (Nat × IVal) → Option (List IVal)
  | [] => some cells
  | (i, v) :: rest => match place i with
    | some (off, n) =>
      let vs := v.cells
      match Nat.beq vs.length n && vs.all IVal.leaf, putAt off cells vs with
      | true, some cs => putParts place cs rest
      | _, _ => none
    | none => none

def buildI (t : TypeId) (parts : List (Nat × IVal)) : Option IVal := match A.ti t with
  | some i => match i.zero with
    | some z =>
      let zs := z.cells.map IVal.dat
      match i.und with
      | .struct fs => match putParts (fun k => match fs[k]? with
          | some f => match A.ti f.type with
            | some j => some (f.offset, j.sz)
            | none => none
          | none => none) zs parts with
        | some cs => some (.agg cs)
        | none => none
      | .array _ e => match A.ti e with
        | some j => match putParts (fun k => some (k * j.sz, j.sz)) zs parts with
          | some cs => some (.agg cs)
          | none => none
        | none => none
      | _ => none
    | none => none
  | none => none

def buildSliceI (t : TypeId) (len : Nat) (parts : List (Nat × IVal)) (s : ISt) : Option (IVal × ISt) := match elemT A t with
  | some (_, i) => match i.zero with
    | some z => match Nat.blt 0 i.sz && Nat.ble (len * i.sz) 16777216, putParts (fun k => some (k * i.sz, i.sz)) (List.replicate len (z.cells.map IVal.dat)).flatten parts with
      | true, some cs => match mapSt (toDatLeaf A) s cs with
        | some (ds, s1) => match chunkD (isAg i.und) i.sz len ds with
          | some xs => some (.dat (.slc true i.sz xs), s1)
          | none => none
        | none => none
      | _, _ => none
    | none => none
  | none => none

def foundI (z : IVal) (ok : Bool) (ks : List (Dat × Nat)) (vs : List IVal) (kv : Dat) : Option IVal := match findK kv ks 0 with
  | some (some i) => match vs[i]? with
    | some v => some (if ok then .tuple [v, vbool true] else v)
    | none => none
  | some none => some (if ok then .tuple [z, vbool false] else z)
  | none => none

def lookupI (s : ISt) (t : TypeId) (x k : IVal) (ok : Bool) : Option IVal :=
  match mapKT A t with
  | some (kt, e) => match keyOf A kt k, A.ti e with
    | some kv, some i => match i.zero with
      | some z => match x with
        | .dat .nilm => foundI (.dat z) ok [] [] kv
        | _ => match mapEntries s x with
          | some (ks, vs, _) => foundI (.dat z) ok ks vs kv
          | none => none
      | none => none
    | _, _ => none
  | none => none

def sameLeaf : Dat → Dat → Bool
  | .int j a, .int k b => decide (j = k) && decide (a = b)
  | .str a, .str b => bytesEq a b
  | .bool a, .bool b => a == b
  | _, _ => false
def sameL : List Dat → List Dat → Bool
  | [], [] => true
  | a :: x, b :: y => sameLeaf a b && sameL x y
  | _, _ => false
/-- the same to the bit -/
def sameK : Dat → Dat → Bool
  | .agg a, .agg b => sameL a b
  | a, b => sameLeaf a b

def mapPut (s : ISt) (t : TypeId) (m k x : IVal) : Option ISt :=
  match mapKT A t, m with
  | some (kt, _), .map id ver => match keyOf A kt k, s.obj id ver with
    | some kv, some (.map ks vs clock) => match findK kv ks 0 with
      | some (some i) => match ks[i]? with
        | some (k0, b) => if sameK k0 kv then some (s.setObj id ver (.map (ks.set i (kv, b)) (vs.set i x) clock)) else none
        | none => none
      | some none => some (s.setObj id ver (.map (ks ++ [(kv, clock)]) (vs ++ [x]) (clock + 1)))
      | none => none
    | _, _ => none
  | _, _ => none

def leftOf (seen : List Nat) : List (Dat × Nat) → List IVal → List (Dat × Nat × IVal)
  | (k, b) :: ks, v :: vs => if seen.contains b then leftOf seen ks vs else (k, b, v) :: leftOf seen ks vs
  | _, _ => []

def nextI (s : ISt) (it : IVal) : Tree (IVal × ISt) :=
  match it with
  | .ptr id ver 0 => match s.obj id ver with
    | some (.iter (.dat .nilm) _ _ _) => .ret (.tuple [vbool false], s)
    | some (.iter m since seen stepped) => match mapEntries s m with
      | some (ks, vs, clock) =>
        if !(Nat.beq clock since && Nat.beq stepped clock && ks.all (fun p => Nat.blt p.2 clock)) then .fail "71" else
        match leftOf seen ks vs with
        | [] => .ret (.tuple [vbool false], s)
        | l => .pick l.length fun i => match l[i]? with
          | some (k, b, v) => .ret (.tuple [vbool true, .dat k, v], s.setObj id ver (.iter m since (seen ++ [b]) clock))
          | none => .fail "73"
      | none => .fail "74"
    | _ => .fail "75"
  | _ => .fail "76"

def entryI (s : ISt) (it : IVal) : Option IVal :=
  match it with
  | .ptr id ver 0 => match s.obj id ver with
    | some (.iter m _ seen stepped) => match mapEntries s m, seen.getLast? with
      | some (ks, vs, clock), some b =>
        if !(Nat.beq clock stepped) then none else
        match (leftOf [] ks vs).find? fun e => Nat.beq e.2.1 b with
        | some (k, _, v) => some (.tuple [.dat k, v])
        | none => none
      | _, _ => none
    | _ => none
  | _ => none

/-- a value against nil, both of a type of that kind. -/
def nilEq : TypeDesc → IVal → IVal → Option Bool
  | .pointer _, .dat .nilp, .dat .nilp => some true
  | .pointer _, .dat .nilp, .ptr .. => some false
  | .pointer _, .dat .nilp, .rptr _ => some false
  | .pointer _, .ptr .., .dat .nilp => some false
  | .pointer _, .rptr _, .dat .nilp => some false
  | .slice _, .dat .nils, .dat .nils => some true
  | .slice _, .dat .nils, .dat (.slc ..) => some false
  | .slice _, .dat .nils, .mref .. => some false
  | .slice _, .dat (.slc ..), .dat .nils => some false
  | .slice _, .mref .., .dat .nils => some false
  | .map _ _, .dat .nilm, .dat .nilm => some true
  | .map _ _, .dat .nilm, .map .. => some false
  | .map _ _, .map .., .dat .nilm => some false
  | .bool, .dat (.bool a), .dat (.bool b) => some (a == b)
  | _, _, _ => none

def wrapI (k : IntKind) (n : Int) : Int := match k, n with
  | .i64, .ofNat m => if Nat.ble m 9223372036854775807 then n else IntKind.wrap .i64 n
  | .i64, .negSucc m => if Nat.ble m 9223372036854775807 then n else IntKind.wrap .i64 n
  | _, _ => k.wrap n

/-- a value of a plain kind, of a type's kind -/
def fitLeaf (u : TypeDesc) (d : Dat) : Bool := match d with
  | .str _ => (match u with | .string => true | _ => false)
  | .int _ _ => (match u with | .int _ => true | _ => false)
  | .bool _ => (match u with | .bool => true | _ => false)
  | _ => false
def fitU (t : TypeId) (d : Dat) : Bool := match A.ti t with
  | some i => Nat.beq i.sz 1 && fitLeaf i.und d
  | none => false
def fitF : Nat → List Field → List Dat → Bool
  | _, [], [] => true
  | j, f :: fs, d :: ds => Nat.beq f.offset j && fitU A f.type d && fitF (j + 1) fs ds
  | _, _, _ => false
def fits (t : TypeId) (ds : List Dat) : Bool := match A.ti t with
  | some i => match i.und with
    | .struct fs => fitF A 0 fs.toList ds
    | .array n e => Nat.beq n ds.length && ds.all (fitU A e)
    | _ => false
  | none => false
def keqT (t : TypeId) (a b : List Dat) : Option Bool := match fits A t a with
  | true => keqL a b
  | false => none

def binI (op : BinOp) (t : TypeId) (x y : IVal) : Option IVal :=
  match op, x, y with
  | .add, .dat (.int k a), .dat (.int k' b) => if k = k' then some (.dat (.int k (wrapI k (a + b)))) else none
  | .sub, .dat (.int k a), .dat (.int k' b) => if k = k' then some (.dat (.int k (wrapI k (a - b)))) else none
  | .mul, .dat (.int k a), .dat (.int k' b) => if k = k' then some (.dat (.int k (wrapI k (a * b)))) else none
  | .eql, .dat (.int k a), .dat (.int k' b) => if k = k' then some (vbool (decide (a = b))) else none
  | .neq, .dat (.int k a), .dat (.int k' b) => if k = k' then some (vbool (!decide (a = b))) else none
  | .lss, .dat (.int k a), .dat (.int k' b) => if k = k' then some (vbool (decide (a < b))) else none
  | .leq, .dat (.int k a), .dat (.int k' b) => if k = k' then some (vbool (decide (a ≤ b))) else none
  | .gtr, .dat (.int k a), .dat (.int k' b) => if k = k' then some (vbool (decide (b < a))) else none
  | .geq, .dat (.int k a), .dat (.int k' b) => if k = k' then some (vbool (decide (b ≤ a))) else none
  | .add, .dat (.str a), .dat (.str b) => if Nat.ble (a.length + b.length) 70368744177664 then some (.dat (.str (a ++ b))) else none
  | .eql, .dat (.str a), .dat (.str b) => some (vbool (bytesEq a b))
  | .neq, .dat (.str a), .dat (.str b) => some (vbool (!bytesEq a b))
  | .lss, .dat (.str a), .dat (.str b) => some (vbool (Op.bytesLess a b))
  | .leq, .dat (.str a), .dat (.str b) => some (vbool (Op.bytesLess a b || bytesEq a b))
  | .gtr, .dat (.str a), .dat (.str b) => some (vbool (!(Op.bytesLess a b || bytesEq a b)))
  | .geq, .dat (.str a), .dat (.str b) => some (vbool (!Op.bytesLess a b))
  | _, .dat (.int k a), .dat (.int k' b) => match pureRun A.P (binOp op t (.int k a) (.int k' b)) with
    | some (.int k n) => some (.dat (.int k n))
    | some (.bool b) => some (vbool b)
    | _ => none
  | .eql, _, _ => match A.ti t with
    | some i => match nilEq i.und x y with
      | some b => some (vbool b)
      | none => match A.eqT t, x, y with
        | true, .agg a, .agg b => match mapO asDat a, mapO asDat b with
          | some a', some b' => (keqT A t a' b').map vbool
          | _, _ => none
        | true, .agg a, .dat (.agg b) => match mapO asDat a with
          | some a' => (keqT A t a' b).map vbool
          | none => none
        | true, .dat (.agg a), .agg b => match mapO asDat b with
          | some b' => (keqT A t a b').map vbool
          | none => none
        | true, .dat (.agg a), .dat (.agg b) => (keqT A t a b).map vbool
        | _, _, _ => none
    | none => none
  | .neq, _, _ => match A.ti t with
    | some i => match nilEq i.und x y with
      | some b => some (vbool (!b))
      | none => match A.eqT t, x, y with
        | true, .agg a, .agg b => match mapO asDat a, mapO asDat b with
          | some a', some b' => (keqT A t a' b').map fun e => vbool (!e)
          | _, _ => none
        | true, .agg a, .dat (.agg b) => match mapO asDat a with
          | some a' => (keqT A t a' b).map fun e => vbool (!e)
          | none => none
        | true, .dat (.agg a), .agg b => match mapO asDat b with
          | some b' => (keqT A t a b').map fun e => vbool (!e)
          | none => none
        | true, .dat (.agg a), .dat (.agg b) => (keqT A t a b).map fun e => vbool (!e)
        | _, _, _ => none
    | none => none
  | _, _, _ => none

def unI (op : UnOp) (x : IVal) : Option IVal :=
  match op, x with
  | .not, .dat (.bool b) => some (vbool (!b))
  | _, .dat (.int k a) => match pureRun A.P (Op.unary op (.int k a)) with
    | some (.int k n) => some (.dat (.int k n))
    | _ => none
  | _, _ => none

def bytesOf : List IVal → Option (List UInt8)
  | [] => some []
  | .dat (.int .u8 n) :: xs => match bytesOf xs with
    | some l => some (UInt8.ofNat n.toNat :: l)
    | none => none
  | _ => none

def isBytes (t : TypeId) : Bool := match A.ti t with
  | some i => match i.und with
    | .slice e => match A.ti e with
      | some j => match j.und with
        | .int .u8 => true
        | _ => false
      | none => false
    | _ => false
  | none => false

def convI (s : ISt) (src dst : TypeId) (x : IVal) : Option (IVal × ISt) := match A.ti dst with
  | none => none
  | some i => match i.und, x with
    | .int k, .dat (.int _ n) => if (A.ti src).isSome then some (.dat (.int k (wrapI k n)), s) else none
    | .string, .dat (.str b) => if (A.ti src).isSome then some (.dat (.str b), s) else none
    | .string, .dat .nils => if isBytes A src then some (.dat (.str []), s) else none
    | .string, .dat (.slc f k xs) => match srcCells s 1 (.dat (.slc f k xs)) with
      | some cs => match bytesOf cs with
        | some b => if isBytes A src then some (.dat (.str b), s) else none
        | none => none
      | none => none
    | .string, .mref id ver off len => match srcCells s 1 (.mref id ver off len) with
      | some cs => match bytesOf cs with
        | some b => if isBytes A src then some (.dat (.str b), s) else none
        | none => none
      | none => none
    | .slice e, .dat (.str b) => match A.ti e with
      | some j => match j.und with
        | .int .u8 => if Nat.ble b.length 70368744177664 && Nat.beq j.sz 1 && (A.ti src).isSome then some (.mref s.H.length s.nv 0 b.length, s.new (.cells e (bytesD b) 0)) else none
        | _ => none
      | none => none
    | _, _ => none

def evalI (tm : Tm) : Operand → Option IVal
  | .tmp t => some (tm.get t)
  | .const v => match ofV v with
    | some d => some (.dat d)
    | none => none
  | .global _ => none
  | .func f => some (.fn f [] [])

def evalParts (ρ : Operand → Option IVal) : List (Nat × Operand) → Option (List (Nat × IVal))
  | [] => some []
  | (i, x) :: ps => match ρ x, evalParts ρ ps with
    | some v, some vs => some ((i, v) :: vs)
    | _, _ => none
def evalOpt (ρ : Operand → Option IVal) : Option Operand → Option (Option IVal)
  | none => some none
  | some x => match ρ x with
    | some v => some (some v)
    | none => none

/-- the operations that leave the ideal memory as it is. -/
def quietI (ρ : Operand → Option IVal) (o : Oper) (s : ISt) : Option IVal :=
  match o.op with
  | .move x | .assign x => ρ x
  | .pick c a b => match ρ c with
    | some (.dat (.bool true)) => ρ a
    | some (.dat (.bool false)) => ρ b
    | _ => none
  | .build t parts => match evalParts ρ parts.toList with
    | some ps => buildI A t ps
    | none => none
  | .load t a => match ρ a with
    | some v => s.load A t v
    | none => none
  | .nilCheck x => match ρ x with
    | some (.ptr id ver off) => some (.ptr id ver off)
    | some (.rptr cs) => some (.rptr cs)
    | some (.fn f a b) => some (.fn f a b)
    | some (.yield id ver) => some (.yield id ver)
    | _ => none
  | .binOp op t x y _ => match ρ x, ρ y with
    | some a, some b => binI A op t a b
    | _, _ => none
  | .unOp op _ x => match ρ x with
    | some a => unI A op a
    | none => none
  | .makeFunc (.func f) first captured => match mapO ρ first.toList, mapO ρ captured.toList with
    | some a, some b => some (.fn f a b)
    | _, _ => none
  | .slice t x lo hi mx => match ρ x, evalOpt ρ lo, evalOpt ρ hi, evalOpt ρ mx with
    | some v, some l, some h, some m => sliceI A t v l h m
    | _, _, _, _ => none
  | .fieldAddr t x f => match fieldOf A t f, ρ x with
    | some fd, some (.ptr id ver off) => match A.ti fd.type with
      | some j => if Nat.blt 0 j.sz then some (.ptr id ver (off + fd.offset)) else none
      | none => none
    | some fd, some (.rptr cs) => match A.ti fd.type with
      | some j => if Nat.blt 0 j.sz then some (.rptr (cs.drop fd.offset)) else none
      | none => none
    | _, _ => none
  | .field t x f => match fieldOf A t f, ρ x with
    | some fd, some (.agg cs) => partI A fd.type cs fd.offset
    | some fd, some (.dat (.agg cs)) => partI A fd.type (cs.map .dat) fd.offset
    | _, _ => none
  | .indexAddr t x ix => match A.ti t, ρ x, (ρ ix).bind asI with
    | some ty, some v, some (.ofNat i) => match ty.und, v with
      | .slice e, .dat (.slc _ n xs) => match xs[i]?, A.ti e with
        | some d, some j => if Nat.beq n j.sz then some (.rptr (d.cells.map .dat)) else none
        | _, _ => none
      | .slice e, .mref id ver off len => match A.ti e with
        | some j => if Nat.blt i len then some (.ptr id ver (off + i * j.sz)) else none
        | none => none
      | .array n e, .ptr id ver off => match A.ti e with
        | some j => if Nat.blt i n then some (.ptr id ver (off + i * j.sz)) else none
        | none => none
      | .array n e, .rptr cs => match A.ti e with
        | some j => if Nat.blt i n then some (.rptr (cs.drop (i * j.sz))) else none
        | none => none
      | _, _ => none
    | _, _, _ => none
  | .index t x ix => match A.ti t, ρ x, (ρ ix).bind asI with
    | some ty, some v, some (.ofNat i) => match ty.und, v with
      | .string, .dat (.str b) => match b[i]? with
        | some c => some (.dat (.int .u8 c.toNat))
        | none => none
      | .array n e, .agg cs => match A.ti e with
        | some j => if Nat.blt i n then partI A e cs (i * j.sz) else none
        | none => none
      | .array n e, .dat (.agg cs) => match A.ti e with
        | some j => if Nat.blt i n then partI A e (cs.map .dat) (i * j.sz) else none
        | none => none
      | _, _ => none
    | _, _, _ => none
  | .lookup t x k ok => match ρ x, ρ k with
    | some v, some kv => lookupI A s t v kv ok
    | _, _ => none
  | .entry it => match ρ it with
    | some v => entryI s v
    | none => none
  | .extract x i => match (ρ x).bind isTup with
    | some vs => vs[i]?
    | none => none
  | _ => none

def isQuiet : Op → Bool
  | .move _ | .assign _ | .pick .. | .build .. | .load .. | .nilCheck _ | .binOp .. | .unOp .. | .makeFunc .. | .slice .. | .fieldAddr .. | .field ..
  | .indexAddr .. | .index .. | .lookup .. | .entry _ | .extract .. => true
  | _ => false

/-- a new entry of a map, for a value that comes later: what it holds, its stamp -/
def mapEnt (s : ISt) (t : TypeId) (m k : IVal) : Option (IVal × ISt) :=
  match mapKT A t, m with
  | some (kt, e), .map id ver => match keyOf A kt k, s.obj id ver with
    | some kv, some (.map ks vs clock) => match findK kv ks 0, A.ti e with
      | some none, some j => match j.zero with
        | some z => some (.tuple [.dat z, vint clock], s.setObj id ver (.map (ks ++ [(kv, clock)]) (vs ++ [.dat z]) (clock + 1)))
        | none => none
      | _, _ => none
    | _, _ => none
  | _, _ => none
def findB (b : Nat) : List (Dat × Nat) → Nat → Option Nat
  | [], _ => none
  | (_, c) :: ks, i => match Nat.beq c b with
    | true => some i
    | false => findB b ks (i + 1)
def entPut (s : ISt) (m : IVal) (b : Nat) (x : IVal) : Option ISt := match m with
  | .map id ver => match s.obj id ver with
    | some (.map ks vs clock) => match findB b ks 0 with
      | some i => some (s.setObj id ver (.map ks (vs.set i x) clock))
      | none => none
    | _ => none
  | _ => none

/-- the others, but calls of functions and steps of a map's walk. -/
def loudI (ρ : Operand → Option IVal) (o : Oper) (s : ISt) : Option (IVal × ISt) :=
  match o.op with
  | .alloc t => match A.ti t with
    | some i => match i.zero with
      | some z => some (.ptr s.H.length s.nv 0, s.new (.cells t (z.cells.map .dat) 0))
      | none => none
    | none => none
  | .box t x => match ρ x, A.ti t with
    | some v, some i =>
      let cs := v.cells
      if cs.all IVal.leaf && Nat.beq cs.length i.sz then some (.ptr s.H.length s.nv 0, s.new (.cells t cs 0)) else none
    | _, _ => none
  | .buildSlice t len parts => match evalParts ρ parts.toList with
    | some ps => buildSliceI A t len ps s
    | none => none
  | .store t a x => match ρ a, ρ x with
    | some p, some v => match s.store A t p v with
      | some s1 => some (iundef, s1)
      | none => none
    | _, _ => none
  | .convert src dst x => match ρ x with
    | some v => convI A s src dst v
    | none => none
  | .makeMap _ none => some (.map s.H.length s.nv, s.new (.map [] [] 0))
  | .makeMap t (some r) => match mapKT A t, (ρ r).bind asI with
    | some _, some _ => some (.map s.H.length s.nv, s.new (.map [] [] 0))
    | _, _ => none
  | .makeSlice t l c => match elemT A t, (ρ l).bind asI, (ρ c).bind asI with
    | some (e, i), some (.ofNat n), some (.ofNat m) => match i.zero with
      | some z => if Nat.beq n m && roomE i n then
          some (.mref s.H.length s.nv 0 n, s.new (.cells e (List.replicate n (z.cells.map IVal.dat)).flatten 0)) else none
      | none => none
    | _, _, _ => none
  | .mapUpdate t m k x | .insert t m k x => match ρ m, ρ k, ρ x with
    | some mv, some kv, some v => match mapPut A s t mv kv v with
      | some s1 => some (iundef, s1)
      | none => none
    | _, _, _ => none
  | .range t x => match mapKT A t, ρ x with
    | some _, some (.dat .nilm) => some (.ptr s.H.length s.nv 0, s.new (.iter (.dat .nilm) 0 [] 0))
    | some _, some v => match mapEntries s v with
      | some (_, _, clock) => some (.ptr s.H.length s.nv 0, s.new (.iter v clock [] clock))
      | none => none
    | _, _ => none
  | .call { callee := .builtin b, args, argTypes } => match mapO ρ args.toList with
    | some vs => builtinI A b argTypes vs s
    | none => none
  | .mapEntry t m k => match ρ m, ρ k with
    | some mv, some kv => mapEnt A s t mv kv
    | _, _ => none
  | .entryStore _ m g x => match ρ m, (ρ g).bind asI, ρ x with
    | some mv, some (.ofNat b), some v => match entPut s mv b v with
      | some s1 => some (iundef, s1)
      | none => none
    | _, _, _ => none
  | _ => none

/-- a call's answer -/
abbrev CallI := IVal → List IVal → ISt → Tree (IVal × ISt)

def putI (n : Nat) (tm : Tm) (dst : Option Tmp) (v : IVal) : Option Tm :=
  match dst with
  | none => some tm
  | some d => if Nat.blt d n && Nat.blt d 4000 then some (tm.set d v) else none

def execI (call : CallI) (ρ : Operand → Option IVal) (o : Oper) (s : ISt) : Tree (IVal × ISt) :=
  if isQuiet o.op then match quietI A ρ o s with
    | some v => .ret (v, s)
    | none => .fail ("op " ++ o.pos)
  else match o.op with
    | .call { callee := .value f, args, .. } =>
      match ρ f, mapO ρ args.toList with
      | some g, some xs => call g xs s
      | _, _ => .fail "10"
    | .next it false => match ρ it with
      | some v => nextI s v
      | none => .fail "11"
    | _ => match loudI A ρ o s with
      | some r => .ret r
      | none => .fail ("op " ++ o.pos)

mutual
/-- the same data? -/
def Dat.same : Dat → Dat → Bool
  | .bool a, .bool b => a == b
  | .int j a, .int k b => decide (j = k) && decide (a = b)
  | .str a, .str b => bytesEq a b
  | .nilp, .nilp => true
  | .nilm, .nilm => true
  | .nilf, .nilf => true
  | .nils, .nils => true
  | .nili, .nili => true
  | .slc f n xs, .slc g m ys => (f == g) && Nat.beq n m && Dat.sameL xs ys
  | .agg xs, .agg ys => Dat.sameL xs ys
  | .tuple xs, .tuple ys => Dat.sameL xs ys
  | _, _ => false
def Dat.sameL : List Dat → List Dat → Bool
  | [], [] => true
  | x :: xs, y :: ys => Dat.same x y && Dat.sameL xs ys
  | _, _ => false
end
mutual
/-- the same value? (no function values, no maps of callers) -/
def IVal.same : IVal → IVal → Bool
  | .dat a, .dat b => Dat.same a b
  | .ptr i v o, .ptr j u p => Nat.beq i j && Nat.beq v u && Nat.beq o p
  | .rptr xs, .rptr ys => IVal.sameL xs ys
  | .mref i v o l, .mref j u p k => Nat.beq i j && Nat.beq v u && Nat.beq o p && Nat.beq l k
  | .map i v, .map j u => Nat.beq i j && Nat.beq v u
  | .agg xs, .agg ys => IVal.sameL xs ys
  | .tuple xs, .tuple ys => IVal.sameL xs ys
  | _, _ => false
def IVal.sameL : List IVal → List IVal → Bool
  | [], [] => true
  | x :: xs, y :: ys => IVal.same x y && IVal.sameL xs ys
  | _, _ => false
end

/-- a slice literal of data. -/
def buildSliceD (t : TypeId) (len : Nat) (parts : List (Nat × IVal)) : Option IVal := match elemT A t with
  | some (_, i) => match i.zero with
    | some z => match Nat.blt 0 i.sz && Nat.ble (len * i.sz) 16777216, putParts (fun k => some (k * i.sz, i.sz)) (List.replicate len (z.cells.map IVal.dat)).flatten parts with
      | true, some cs => match mapO asDat cs with
        | some ds => match chunkD (isAg i.und) i.sz len ds with
          | some xs => some (.dat (.slc true i.sz xs))
          | none => none
        | none => none
      | _, _ => none
    | none => none
  | none => none

/-- operations that make nothing and change nothing: of those kinds. -/
def stableK (o : Oper) : Bool := isQuiet o.op || match o.op with
  | .buildSlice .. => true
  | .convert _ dst _ => match A.ti dst with
    | some i => match i.und with
      | .slice _ => false
      | _ => true
    | none => true
  | .call { callee := .builtin .len, .. } => true
  | .call { callee := .builtin .min, .. } => true
  | .call { callee := .builtin .max, .. } => true
  | _ => false

def stableI (ρ : Operand → Option IVal) (o : Oper) (s : ISt) : Option IVal :=
  if isQuiet o.op then quietI A ρ o s else match o.op with
  | .buildSlice t len parts => match evalParts ρ parts.toList with
    | some ps => buildSliceD A t len ps
    | none => none
  | .convert src dst x => match ρ x with
    | some v => match convI A s src dst v with
      | some (.dat d, _) => some (.dat d)
      | _ => none
    | none => none
  | .call { callee := .builtin .len, args, argTypes } => match mapO ρ args.toList with
    | some vs => match builtinI A .len argTypes vs s with
      | some (v, _) => some v
      | none => none
    | none => none
  | .call { callee := .builtin .min, args, argTypes } => match mapO ρ args.toList with
    | some vs => match builtinI A .min argTypes vs s with
      | some (v, _) => some v
      | none => none
    | none => none
  | .call { callee := .builtin .max, args, argTypes } => match mapO ρ args.toList with
    | some vs => match builtinI A .max argTypes vs s with
      | some (v, _) => some v
      | none => none
    | none => none
  | _ => none

def wantedI (ops : Array Oper) (tm : Tm) (o : Oper) : Bool :=
  match o.guard with
  | none => true
  | some (j, want) => match (ops[j]?).bind (·.dst) with
    | some d => match tm.get d with
      | .dat (.bool b) => b == want
      | _ => false
    | none => false

def edgesOf (o : Oper) : List Nat := (o.after.toList.filter (Region.binds .any)).map (·.on)

/-- what an operation looks at is laid by those that it waits for. -/
def apartFrom (ops : List Oper) (all : Array Oper) (k d : Nat) : Nat → List Oper → Bool
  | _, [] => true
  | i, o :: rest => (Nat.beq i k || (o.dst != some d && (!(o.looksAt all).contains d || (edgesOf o).contains k))) && apartFrom ops all k d (i + 1) rest

def stableO (ops : Array Oper) (k : Nat) (o : Oper) : Bool := stableK A o && match o.dst with
  | none => true
  | some d => !(o.looksAt ops).contains d && apartFrom ops.toList ops k d 0 ops.toList

def readyAt (L : Nat) (i : Nat) (o : Oper) : Bool := !(L.testBit i) && (edgesOf o).all (fun j => L.testBit j)

/-- those that may be done now. -/
def readyI (L : Nat) : Nat → List Oper → List (Nat × Oper)
  | _, [] => []
  | i, o :: rest => if readyAt L i o then (i, o) :: readyI L (i + 1) rest else readyI L (i + 1) rest

/-- all that an operation waits for, and what these wait for. -/
def preMasks : List Oper → List Nat → List Nat
  | [], ms => ms
  | o :: rest, ms => preMasks rest (ms ++ [(edgesOf o).foldl (fun m j => m ||| (1 <<< j) ||| ms.getD j 0) 0])

def yieldsI (ops : Array Oper) (tm : Tm) (s : ISt) (o : Oper) : Option IVal := match wantedI ops tm o with
  | true => stableI A (evalI tm) o s
  | false => some iundef

/-- operations in any order that the region lets in. -/
def drawI (call : CallI) (n : Nat) (ops : Array Oper) (pre : List Nat) : Nat → Nat → List (Nat × Oper × IVal) → Tm → ISt → Tree (Tm × ISt)
  | 0, _, _, _, _ => .fail "60"
  | k + 1, L, E, tm, s =>
    let rs := readyI L 0 ops.toList
    match rs.find? (fun p => stableO A ops p.1 p.2) with
    | some (i, o) => match yieldsI A ops tm s o with
      | some v => match putI n tm o.dst v with
        | some tm' => drawI call n ops pre k (L ||| (1 <<< i)) ((i, o, v) :: E) tm' s
        | none => .fail "61"
      | none => .fail ("62 " ++ o.pos)
    | none => match rs with
      | [] => .ret (tm, s)
      | rs => .pick rs.length fun q => match rs[q]? with
        | some (j, o) => (match wantedI ops tm o with
            | true => execI A call (evalI tm) o s
            | false => .ret (iundef, s)).bind fun (v, s') => match putI n tm o.dst v with
          | some tm' => match E.all (fun e => (pre.getD j 0).testBit e.1 || match yieldsI A ops tm' s' e.2.1 with
              | some v' => IVal.same v' e.2.2
              | none => false) with
            | true => drawI call n ops pre k (L ||| (1 <<< j)) E tm' s'
            | false => .fail ("63 " ++ o.pos)
          | none => .fail "64"
        | none => .fail "65"

/-- operations in the order of the text. -/
def opsI (call : CallI) (n : Nat) (ops : Array Oper) : List Oper → Tm → ISt → Tree (Tm × ISt)
  | [], tm, s => .ret (tm, s)
  | o :: rest, tm, s =>
      match wantedI ops tm o with
      | true => (execI A call (evalI tm) o s).bind fun (v, s') => match putI n tm o.dst v with
        | some tm' => opsI call n ops rest tm' s'
        | none => .fail "13"
      | false => match putI n tm o.dst iundef with
        | some tm' => opsI call n ops rest tm' s
        | none => .fail "15"

def loopI (f : Tm → ISt → Tree (IExit × Tm × ISt)) : Nat → Tm → ISt → Tree (IExit × Tm × ISt)
  | 0, _, _ => .fail "16"
  | k + 1, tm, s => (f tm s).bind fun (e, tm', s') => match e with
    | .normal => loopI f k tm' s'
    | _ => .ret (e, tm', s')

def fuelN : Nat := 4611686018427387904

def jumpOf : IExit → Option Code
  | .normal => none
  | .exit i => some (.exit i)
  | .ret => some .ret
def ofJump : Option Code → Option IExit
  | none => some .normal
  | some (.exit i) => some (.exit i)
  | some .ret => some .ret
  | _ => none

/-- a function with a body, as a value. -/
def rangeG : Option IVal → Option IVal
  | some (.fn f a b) => match A.fn f with
    | some x => if x.body.isSome then some (.fn f a b) else none
    | none => none
  | _ => none

def codeI (call : CallI) (n : Nat) : Code → Tm → ISt → Tree (IExit × Tm × ISt)
  | .skip, tm, s => .ret (.normal, tm, s)
  | .label _, tm, s => .ret (.normal, tm, s)
  | .region _ ops false, tm, s => (opsI A call n ops ops.toList tm s).bind fun (tm', s') => .ret (.normal, tm', s')
  | .region _ ops true, tm, s => (drawI A call n ops (preMasks ops.toList []) (ops.size + 1) 0 [] tm s).bind fun (tm', s') => .ret (.normal, tm', s')
  | .seq a b, tm, s => (codeI call n a tm s).bind fun (e, tm', s') => match e with
    | .normal => codeI call n b tm' s'
    | _ => .ret (e, tm', s')
  | .cond c a b, tm, s => match evalI tm c with
    | some (.dat (.bool true)) => codeI call n a tm s
    | some (.dat (.bool false)) => codeI call n b tm s
    | _ => .fail "20"
  | .block id body, tm, s => (codeI call n body tm s).bind fun (e, tm', s') => match e with
    | .exit i => match Nat.beq i id with
      | true => .ret (.normal, tm', s')
      | false => .ret (.exit i, tm', s')
    | _ => .ret (e, tm', s')
  | .loop body, tm, s => loopI (codeI call n body) fuelN tm s
  | .scope body, tm, s => codeI call n body tm s
  | .exit id, tm, s => .ret (.exit id, tm, s)
  | .ret, tm, s => .ret (.ret, tm, s)
  | .rangeFunc f params assign body, tm, s => match rangeG A (evalI tm f) with
    | some g =>
      let s1 := s.new (.loop .ready none n tm params.toList assign body)
      (call g [.yield s.H.length s.nv] s1).bind fun (_, s2) => match s2.obj s.H.length s.nv with
        | some (.loop st pend n' tm' ps as bd) => match st, ofJump pend with
          | .busy, _ => .fail "21"
          | _, some e => .ret (e, tm, s2.setObj s.H.length s.nv (.loop .exhausted pend n' tm' ps as bd))
          | _, none => .fail "22"
        | _ => .fail "23"
    | none => .fail "24"
  | .goto _, _, _ => .fail "25"
  | .refuse _, _, _ => .fail "26"

def resultI (tm : Tm) (s : ISt) : ResultVar → Option IVal
  | .tmp t => some (tm.get t)
  | .cell a t => s.load A t (tm.get a)

def resultsI (fn : Func) (tm : Tm) (s : ISt) : Option IVal := match mapO (resultI A tm s) fn.results.toList with
  | some [v] => some v
  | some vs => some (.tuple vs)
  | none => none

def bodyI (call : CallI) (fn : Func) (args : List IVal) (s : ISt) : Tree (IVal × ISt) :=
  match fn.body with
  | none => .fail "30"
  | some c => match Nat.ble args.length fn.ntmps && Nat.ble fn.ntmps 4000 with
    | false => .fail "31"
    | true => (codeI A call fn.ntmps c (Tm.leaf.fill 0 args) s).bind fun (e, tm, s') => match e with
      | .exit _ => .fail "32"
      | _ => match resultsI A fn tm s' with
        | some v => .ret (v, s')
        | none => .fail "33"

def setParams : Tm → List Tmp → List IVal → Tm
  | tm, p :: ps, v :: vs => setParams (tm.set p v) ps vs
  | tm, _, _ => tm

def roundI (call : CallI) (id ver : Nat) (args : List IVal) (s : ISt) : Tree (IVal × ISt) :=
  match s.obj id ver with
  | some (.loop .ready _ n tm ps as bd) => match Nat.beq args.length ps.length && ps.all (fun p => Nat.blt p n && Nat.blt p 4000) with
    | false => .fail "40"
    | true => (codeI A call n as (setParams tm ps args) s).bind fun (e, tm1, s1) => match e with
      | .normal => match s1.obj id ver with
        | some (.loop .ready pend' n' tm' ps' as' bd') =>
          (codeI A call n bd tm1 (s1.setObj id ver (.loop .busy pend' n' tm' ps' as' bd'))).bind fun (e, _, s2) =>
            match s2.obj id ver with
            | some (.loop _ _ n' tm' ps' as' bd') => match jumpOf e with
              | none => .ret (vbool true, s2.setObj id ver (.loop .ready none n' tm' ps' as' bd'))
              | some j => .ret (vbool false, s2.setObj id ver (.loop .done (some j) n' tm' ps' as' bd'))
            | _ => .fail "41"
        | _ => .fail "42"
      | _ => .fail "43"
  | _ => .fail "44"

/-- a call on data alone: in a memory of its own. -/
def pcallI (call : CallI) (fn : Func) (args : List IVal) : Tree Dat :=
  (bodyI A call fn args { H := [], nv := 0 }).bind fun (v, s) => match toDat A s v with
    | some (d, _) => .ret d
    | none => .fail ("54 " ++ fn.name)

def callI : Nat → CallI
  | 0, _, _, _ => .fail "50"
  | k + 1, g, xs, s => match g with
    | .yield id ver => roundI A (callI k) id ver xs s
    | .fn f first captured =>
      let args := first ++ xs ++ captured
      match A.ovr f with
      | some h => h args s
      | none => match A.con f with
        | some h => match argList A s args with
          | some (as, s1) => match h as with
            | some d => .ret (.dat d, if d.isFlat then s else s1)
            | none => .fail ("51 " ++ toString f)
          | none => .fail ("52 " ++ toString f)
        | none => match A.fn f with
          | none => .fail ("53 " ++ toString f)
          | some fn => match A.pm f with
            | true => match argList A s args with
              | some (as, s1) => (pcallI A (callI k) fn as).bind fun d => .ret (.dat d, if d.isFlat then s else s1)
              | none => .fail ("55 " ++ toString f)
            | false => bodyI A (callI k) fn args s
    | _ => .fail "56"
end
end Go.Ideal
