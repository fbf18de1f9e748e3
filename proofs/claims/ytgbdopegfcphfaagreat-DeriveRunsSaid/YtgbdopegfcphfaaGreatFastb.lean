/- A quicker form of the interpreter for the kernel, second part: operations, code, calls. No condition. -/
import Derived.Test.YtgbdopegfcphfaaGreatFast
namespace Go.Ideal

/-- the way to a temporary in the trie -/
def pathD : Nat → Nat → List Bool
  | 0, _ => []
  | d + 1, i => match i with
    | 0 => []
    | j + 1 => match Nat.beq (Nat.mod j 2) 0 with
      | true => true :: pathD d (Nat.div j 2)
      | false => false :: pathD d (Nat.div j 2)
noncomputable def getP (t : Tm) : List Bool → IVal :=
  Tm.rec (motive := fun _ => List Bool → IVal) (fun _ => iundef)
    (fun _ v _ gl gr p => List.rec (motive := fun _ => IVal) v (fun b bs _ => Bool.rec (motive := fun _ => IVal) (gr bs) (gl bs) b) p) t
noncomputable def mkP (p : List Bool) (x : IVal) : Tm :=
  List.rec (motive := fun _ => Tm) (.node .leaf x .leaf) (fun b _ ih => Bool.rec (motive := fun _ => Tm) (.node .leaf iundef ih) (.node ih iundef .leaf) b) p
noncomputable def setP (t : Tm) : List Bool → IVal → Tm :=
  Tm.rec (motive := fun _ => List Bool → IVal → Tm) mkP
    (fun l v r sl sr p x => List.rec (motive := fun _ => Tm) (.node l x r) (fun b bs _ => Bool.rec (motive := fun _ => Tm) (.node l v (sr bs x)) (.node (sl bs x) v r) b) p) t

theorem getP_eq : ∀ (t : Tm) (d i : Nat), i < 2 ^ d → getP t (pathD d i) = t.get i
  | .leaf, d, i, _ => by cases i <;> rfl
  | .node l v r, 0, i, h => by
    have : i = 0 := by simpa using h
    subst this; rfl
  | .node l v r, d + 1, 0, _ => rfl
  | .node l v r, d + 1, j + 1, h => by
    have hj : j / 2 < 2 ^ d := by rw [Nat.pow_succ] at h; omega
    simp only [Tm.get, pathD]
    show getP (.node l v r) (match Nat.beq (j % 2) 0 with | true => true :: pathD d (j / 2) | false => false :: pathD d (j / 2)) = _
    cases Nat.beq (j % 2) 0
    · exact getP_eq r d (j / 2) hj
    · exact getP_eq l d (j / 2) hj
theorem setP_eq (x : IVal) : ∀ (d : Nat) (t : Tm) (i : Nat), i + 1 < 2 ^ d → setP t (pathD d i) x = Tm.setD d t i x
  | 0, t, i, h => by simp at h
  | d + 1, t, 0, _ => by cases t <;> rfl
  | d + 1, t, j + 1, h => by
    have hj : j / 2 + 1 < 2 ^ d := by rw [Nat.pow_succ] at h; omega
    simp only [Tm.setD, pathD]
    show setP t (match Nat.beq (j % 2) 0 with | true => true :: pathD d (j / 2) | false => false :: pathD d (j / 2)) x = _
    cases t with
    | leaf =>
      cases Nat.beq (j % 2) 0
      · show Tm.node .leaf iundef (setP .leaf (pathD d (j / 2)) x) = _
        rw [setP_eq x d .leaf (j / 2) hj]; rfl
      · show Tm.node (setP .leaf (pathD d (j / 2)) x) iundef .leaf = _
        rw [setP_eq x d .leaf (j / 2) hj]; rfl
    | node l v r =>
      cases Nat.beq (j % 2) 0
      · show Tm.node l v (setP r (pathD d (j / 2)) x) = _
        rw [setP_eq x d r (j / 2) hj]; rfl
      · show Tm.node (setP l (pathD d (j / 2)) x) v r = _
        rw [setP_eq x d l (j / 2) hj]; rfl

/-- an operand, by way of the trie -/
inductive Src where
  | tmp (p : List Bool) | far (t : Nat) | val (v : IVal) | bad
def srcOf : Operand → Src
  | .tmp t => match Nat.blt t 4096 with
    | true => .tmp (pathD 12 t)
    | false => .far t
  | .const v => match ofV v with
    | some d => .val (.dat d)
    | none => .bad
  | .global _ => .bad
  | .func f => .val (.fn f [] [])
noncomputable def evalF (tm : Tm) (o : Operand) : Option IVal :=
  Src.rec (motive := fun _ => Option IVal) (fun p => some (getP tm p)) (fun t => some (tm.get t)) (fun v => some v) none (srcOf o)
theorem evalF_eq (tm : Tm) : evalF tm = evalI tm := by
  funext o
  cases o with
  | tmp t =>
    have e : srcOf (.tmp t) = match Nat.blt t 4096 with
      | true => .tmp (pathD 12 t)
      | false => .far t := rfl
    unfold evalF
    rw [e]
    cases h : Nat.blt t 4096 with
    | false => rfl
    | true =>
      show some (getP tm (pathD 12 t)) = some (tm.get t)
      rw [getP_eq tm 12 t (Nat.le_of_ble_eq_true h)]
  | const v =>
    unfold evalF srcOf evalI
    simp only []
    cases ofV v <;> rfl
  | _ => rfl
noncomputable def putF (n : Nat) (tm : Tm) (dst : Option Tmp) (v : IVal) : Option Tm := match dst with
  | none => some tm
  | some d => match Nat.blt d n && Nat.blt d 4000 with
    | true => some (setP tm (pathD 12 d) v)
    | false => none
theorem putF_eq (n : Nat) (tm : Tm) (dst : Option Tmp) (v : IVal) : putF n tm dst v = putI n tm dst v := by
  unfold putF putI
  cases dst with
  | none => rfl
  | some d =>
    simp only []
    cases h : Nat.blt d n && Nat.blt d 4000 with
    | false => rfl
    | true =>
      have h2 : Nat.lt d 4000 := by
        rw [Bool.and_eq_true] at h
        exact Nat.le_of_ble_eq_true h.2
      simp only [if_true]
      rw [setP_eq v 12 tm d (Nat.lt_of_lt_of_le (Nat.succ_lt_succ h2) (by decide))]
      rfl

section
variable (A : Par)

noncomputable def qBin (tm : Tm) (op : BinOp) (t : TypeId) (x y : Operand) : Option IVal := match evalF tm x with
  | some a => (match evalF tm y with
    | some b => binF A op t a b
    | none => none)
  | none => none
noncomputable def qLoad (tm : Tm) (s : ISt) (t : TypeId) (a : Operand) : Option IVal := match evalF tm a with
  | some v => s.load A t v
  | none => none
noncomputable def qUn (tm : Tm) (op : UnOp) (x : Operand) : Option IVal := match evalF tm x with
  | some a => unI A op a
  | none => none

def nthF {α : Type} : List α → Nat → Option α
  | [], _ => none
  | x :: xs, i => match i with
    | 0 => some x
    | j + 1 => nthF xs j
theorem nthF_eq {α : Type} : ∀ (l : List α) (i : Nat), nthF l i = l[i]?
  | [], i => by simp [nthF]
  | x :: xs, 0 => by simp [nthF]
  | x :: xs, i + 1 => by simp [nthF, nthF_eq xs i]

def byteAt (b : List UInt8) (i : Nat) : Option IVal := match nthF b i with
  | some c => sNat c.toNat fun n => some (.dat (.int .u8 (.ofNat n)))
  | none => none

noncomputable def qIndex (tm : Tm) (t : TypeId) (x ix : Operand) : Option IVal := match evalF tm x with
  | some v => (match v with
    | .dat d => (match d with
      | .str b => (match A.ti t with
        | some ty => (match ty.und with
          | .string => (match (evalF tm ix).bind asI with
            | some n => (match n with
              | .ofNat i => byteAt b i
              | _ => none)
            | none => none)
          | _ => none)
        | none => none)
      | _ => quietI A (evalI tm) { (default : Oper) with op := .index t x ix } { H := [], nv := 0 })
    | _ => quietI A (evalI tm) { (default : Oper) with op := .index t x ix } { H := [], nv := 0 })
  | none => none

theorem qIndex_eq (tm : Tm) (s : ISt) (t : TypeId) (x ix : Operand) (o : Oper) (ho : o.op = .index t x ix) : qIndex A tm t x ix = quietI A (evalI tm) o s := by
  unfold qIndex
  simp only [evalF_eq]
  split
  · rename_i v hv
    split
    · split
      · rename_i b
        unfold quietI
        rw [ho]
        simp only [hv]
        cases A.ti t with
        | none => simp
        | some ty =>
          cases h2 : (evalI tm ix).bind asI with
          | none => cases hu : ty.und <;> simp [hu]
          | some n =>
            cases n with
            | negSucc m => cases hu : ty.und <;> simp [hu]
            | ofNat i =>
              cases hu : ty.und <;> simp only [hu, byteAt, nthF_eq, sNat_eq]
              cases b[i]? <;> rfl
      · unfold quietI
        rw [ho]
    · unfold quietI
      rw [ho]
  · rename_i hv
    unfold quietI
    rw [ho]
    simp only [hv]
    cases A.ti t <;> rfl

noncomputable def quietF (tm : Tm) (o : Oper) (s : ISt) : Option IVal := match o.op with
  | .move x => evalF tm x
  | .assign x => evalF tm x
  | .binOp op t x y _ => qBin A tm op t x y
  | .load t a => qLoad A tm s t a
  | .unOp op _ x => qUn A tm op x
  | .index t x ix => qIndex A tm t x ix
  | _ => quietI A (evalI tm) o s

theorem quietF_eq (tm : Tm) (o : Oper) (s : ISt) : quietF A tm o s = quietI A (evalI tm) o s := by
  cases ho : o.op
  case index t x ix =>
    simp only [quietF, ho]
    exact qIndex_eq A tm s t x ix o ho
  case binOp op t x y u =>
    simp only [quietF, ho, qBin, binF_eq, quietI, evalF_eq]
    cases evalI tm x <;> simp only []
    cases evalI tm y <;> rfl
  all_goals first | (simp only [quietF, ho, evalF_eq]; done) | (simp only [quietF, ho, evalF_eq]; rfl) | (simp only [quietF, ho, evalF_eq]; unfold quietI; rw [ho]; done) | (simp only [quietF, ho, qLoad, qUn, evalF_eq]; unfold quietI; rw [ho]; done) | (simp only [quietF, ho, qLoad, qUn, evalF_eq]; unfold quietI; rw [ho]; rfl)

/-- quiet, or a call of a value, or another one -/
inductive Sort3 where
  | quiet | call (f : Operand) (args : List Operand) | next (it : Operand) | loud
def sort3 (o : Oper) : Sort3 := match isQuiet o.op with
  | true => .quiet
  | false => match o.op with
    | .call { callee := .value f, args, .. } => .call f args.toList
    | .next it false => .next it
    | _ => .loud

noncomputable def execF (call : CallI) (tm : Tm) (o : Oper) (s : ISt) : Tree (IVal × ISt) := match sort3 o with
  | .quiet => (match quietF A tm o s with
    | some v => .ret (v, s)
    | none => .fail ("op " ++ o.pos))
  | .call f args => (match evalF tm f with
    | some g => (match mapO (evalF tm) args with
      | some xs => call g xs s
      | none => .fail "10")
    | none => .fail "10")
  | .next it => (match evalF tm it with
    | some v => nextI s v
    | none => .fail "11")
  | .loud => (match loudI A (evalI tm) o s with
    | some r => .ret r
    | none => .fail ("op " ++ o.pos))

theorem execF_eq (call : CallI) (tm : Tm) (o : Oper) (s : ISt) : execF A call tm o s = execI A call (evalI tm) o s := by
  unfold execF execI sort3
  simp only [evalF_eq]
  cases hq : isQuiet o.op with
  | true =>
    simp only [quietF_eq, if_true]
    cases quietI A (evalI tm) o s <;> rfl
  | false =>
    simp only [Bool.false_eq_true, if_false]
    cases ho : o.op
    case call c =>
      obtain ⟨callee, args, ts⟩ := c
      cases callee
      case value f =>
        simp only []
        cases evalI tm f <;> simp only []
        cases mapO (evalI tm) args.toList <;> rfl
      all_goals (simp only []; cases loudI A (evalI tm) o s <;> rfl)
    case next it b =>
      cases b
      · simp only []
        cases evalI tm it <;> rfl
      · simp only []
        cases loudI A (evalI tm) o s <;> rfl
    all_goals (simp only []; cases loudI A (evalI tm) o s <;> rfl)

noncomputable def stableF (tm : Tm) (o : Oper) (s : ISt) : Option IVal := match isQuiet o.op with
  | true => quietF A tm o s
  | false => stableI A (evalI tm) o s
theorem stableF_eq (tm : Tm) (o : Oper) (s : ISt) : stableF A tm o s = stableI A (evalI tm) o s := by
  unfold stableF
  cases hq : isQuiet o.op with
  | true => simp [stableI, hq, quietF_eq]
  | false => rfl
noncomputable def yieldsF (ops : Array Oper) (tm : Tm) (s : ISt) (o : Oper) : Option IVal := match wantedI ops tm o with
  | true => stableF A tm o s
  | false => some iundef
theorem yieldsF_eq (ops : Array Oper) (tm : Tm) (s : ISt) (o : Oper) : yieldsF A ops tm s o = yieldsI A ops tm s o := by
  unfold yieldsF yieldsI
  simp only [stableF_eq]
  rfl
/-- the next stable one; else those that are ready -/
def nextO (ops : Array Oper) (L : Nat) : (Nat × Oper) ⊕ List (Nat × Oper) :=
  match (readyI L 0 ops.toList).find? (fun p => stableO A ops p.1 p.2) with
  | some p => .inl p
  | none => .inr (readyI L 0 ops.toList)
def allE (p : (Nat × Oper × IVal) → Bool) : List (Nat × Oper × IVal) → Bool
  | [] => true
  | e :: es => match p e with
    | true => allE p es
    | false => false
theorem allE_eq (p : (Nat × Oper × IVal) → Bool) : ∀ (l : List (Nat × Oper × IVal)), allE p l = l.all p
  | [] => rfl
  | e :: es => by
    simp only [allE, List.all_cons, allE_eq p es]
    cases p e <;> rfl
noncomputable def stillF (ops : Array Oper) (m : Nat) (tm : Tm) (s : ISt) (e : Nat × Oper × IVal) : Bool := match m.testBit e.1 with
  | true => true
  | false => match yieldsF A ops tm s e.2.1 with
    | some v' => IVal.same v' e.2.2
    | none => false
theorem stillF_eq (ops : Array Oper) (m : Nat) (tm : Tm) (s : ISt) (e : Nat × Oper × IVal) : stillF A ops m tm s e = (m.testBit e.1 || match yieldsI A ops tm s e.2.1 with
              | some v' => IVal.same v' e.2.2
              | none => false) := by
  unfold stillF
  rw [yieldsF_eq]
  cases m.testBit e.1 <;> rfl

noncomputable def drawF (call : CallI) (n : Nat) (ops : Array Oper) (pre : List Nat) : Nat → Nat → List (Nat × Oper × IVal) → Tm → ISt → Tree (Tm × ISt)
  | 0, _, _, _, _ => .fail "60"
  | k + 1, L, E, tm, s => match nextO A ops L with
    | .inl p => match yieldsF A ops tm s p.2 with
      | some v => match putF n tm p.2.dst v with
        | some tm' => drawF call n ops pre k (L ||| (1 <<< p.1)) ((p.1, p.2, v) :: E) tm' s
        | none => .fail "61"
      | none => .fail ("62 " ++ p.2.pos)
    | .inr rs => match rs with
      | [] => .ret (tm, s)
      | rs => .pick rs.length fun q => match rs[q]? with
        | some (j, o) => (match wantedI ops tm o with
            | true => execF A call tm o s
            | false => .ret (iundef, s)).bind fun (v, s') => match putF n tm o.dst v with
          | some tm' => match allE (stillF A ops (pre.getD j 0) tm' s') E with
            | true => drawF call n ops pre k (L ||| (1 <<< j)) E tm' s'
            | false => .fail ("63 " ++ o.pos)
          | none => .fail "64"
        | none => .fail "65"
theorem drawF_eq (call : CallI) (n : Nat) (ops : Array Oper) (pre : List Nat) : ∀ (k L : Nat) (E : List (Nat × Oper × IVal)) (tm : Tm) (s : ISt), drawF A call n ops pre k L E tm s = drawI A call n ops pre k L E tm s
  | 0, _, _, _, _ => rfl
  | k + 1, L, E, tm, s => by
    simp only [drawF, drawI, nextO, putF_eq]
    cases (readyI L 0 ops.toList).find? (fun p => stableO A ops p.1 p.2) with
    | some p =>
      obtain ⟨i, o⟩ := p
      simp only [yieldsF_eq, drawF_eq call n ops pre k]
      rfl
    | none =>
      simp only []
      cases readyI L 0 ops.toList with
      | nil => rfl
      | cons r rs =>
        simp only [execF_eq, allE_eq, drawF_eq call n ops pre k]
        have : ∀ m tm s, stillF A ops m tm s = fun e => (m.testBit e.1 || match yieldsI A ops tm s e.2.1 with
              | some v' => IVal.same v' e.2.2
              | none => false) := fun m tm s => funext fun e => stillF_eq A ops m tm s e
        simp only [this]
        rfl

noncomputable def opsF (call : CallI) (n : Nat) (ops : Array Oper) : List Oper → Tm → ISt → Tree (Tm × ISt)
  | [], tm, s => .ret (tm, s)
  | o :: rest, tm, s =>
      match wantedI ops tm o with
      | true => match isQuiet o.op with
        | true => match quietF A tm o s with
          | some v => match putF n tm o.dst v with
            | some tm' => opsF call n ops rest tm' s
            | none => .fail "13"
          | none => .fail ("op " ++ o.pos)
        | false => (execF A call tm o s).bind fun (v, s') => match putF n tm o.dst v with
          | some tm' => opsF call n ops rest tm' s'
          | none => .fail "13"
      | false => match putF n tm o.dst iundef with
        | some tm' => opsF call n ops rest tm' s
        | none => .fail "15"
theorem opsF_eq (call : CallI) (n : Nat) (ops : Array Oper) : ∀ (l : List Oper) (tm : Tm) (s : ISt), opsF A call n ops l tm s = opsI A call n ops l tm s
  | [], tm, s => rfl
  | o :: rest, tm, s => by
    simp only [opsF, opsI, execF_eq, opsF_eq call n ops rest, putF_eq]
    cases wantedI ops tm o with
    | false => rfl
    | true =>
      simp only []
      cases hq : isQuiet o.op with
      | false => rfl
      | true =>
        simp only [quietF_eq, execI, hq, if_true]
        cases quietI A (evalI tm) o s <;> rfl

noncomputable def codeF (call : CallI) (n : Nat) : Code → Tm → ISt → Tree (IExit × Tm × ISt)
  | .skip, tm, s => .ret (.normal, tm, s)
  | .label _, tm, s => .ret (.normal, tm, s)
  | .region _ ops draw, tm, s => match draw with
    | false => (opsF A call n ops ops.toList tm s).bind fun (tm', s') => .ret (.normal, tm', s')
    | true => (drawF A call n ops (preMasks ops.toList []) (ops.size + 1) 0 [] tm s).bind fun (tm', s') => .ret (.normal, tm', s')
  | .seq a b, tm, s => (codeF call n a tm s).bind fun (e, tm', s') => match e with
    | .normal => codeF call n b tm' s'
    | _ => .ret (e, tm', s')
  | .cond c a b, tm, s => match evalF tm c with
    | some (.dat (.bool true)) => codeF call n a tm s
    | some (.dat (.bool false)) => codeF call n b tm s
    | _ => .fail "20"
  | .block id body, tm, s => (codeF call n body tm s).bind fun (e, tm', s') => match e with
    | .exit i => match Nat.beq i id with
      | true => .ret (.normal, tm', s')
      | false => .ret (.exit i, tm', s')
    | _ => .ret (e, tm', s')
  | .loop body, tm, s => loopI (codeF call n body) fuelN tm s
  | .scope body, tm, s => codeF call n body tm s
  | .exit id, tm, s => .ret (.exit id, tm, s)
  | .ret, tm, s => .ret (.ret, tm, s)
  | .rangeFunc f params assign body, tm, s => codeI A call n (.rangeFunc f params assign body) tm s
  | .goto _, _, _ => .fail "25"
  | .refuse _, _, _ => .fail "26"

theorem codeF_eq (call : CallI) (n : Nat) : ∀ (c : Code), codeF A call n c = codeI A call n c
  | .skip => rfl
  | .label _ => rfl
  | .region _ ops draw => by
    funext tm s
    cases draw
    · simp only [codeF, codeI, opsF_eq]
    · simp only [codeF, codeI, drawF_eq]
  | .seq a b => by
    funext tm s
    simp only [codeF, codeI, codeF_eq call n a, codeF_eq call n b]
    rfl
  | .cond c a b => by
    funext tm s
    simp only [codeF, codeI, codeF_eq call n a, codeF_eq call n b, evalF_eq]
    rfl
  | .block id body => by
    funext tm s
    simp only [codeF, codeI, codeF_eq call n body]
    rfl
  | .loop body => by
    funext tm s
    simp only [codeF, codeI, codeF_eq call n body]
  | .scope body => by
    funext tm s
    simp only [codeF, codeI, codeF_eq call n body]
  | .exit _ => rfl
  | .ret => rfl
  | .rangeFunc .. => rfl
  | .goto _ => rfl
  | .refuse _ => rfl

noncomputable def bodyF (call : CallI) (fn : Func) (args : List IVal) (s : ISt) : Tree (IVal × ISt) :=
  match fn.body with
  | none => .fail "30"
  | some c => match Nat.ble args.length fn.ntmps && Nat.ble fn.ntmps 4000 with
    | false => .fail "31"
    | true => (codeF A call fn.ntmps c (Tm.leaf.fill 0 args) s).bind fun (e, tm, s') => match e with
      | .exit _ => .fail "32"
      | _ => match resultsI A fn tm s' with
        | some v => .ret (v, s')
        | none => .fail "33"
theorem bodyF_eq (call : CallI) (fn : Func) (args : List IVal) (s : ISt) : bodyF A call fn args s = bodyI A call fn args s := by
  unfold bodyF bodyI
  simp only [codeF_eq]
  rfl

noncomputable def pcallF (call : CallI) (fn : Func) (args : List IVal) : Tree Dat :=
  (bodyF A call fn args { H := [], nv := 0 }).bind fun (v, s) => match toDat A s v with
    | some (d, _) => .ret d
    | none => .fail ("54 " ++ fn.name)
theorem pcallF_eq (call : CallI) (fn : Func) (args : List IVal) : pcallF A call fn args = pcallI A call fn args := by
  unfold pcallF pcallI
  simp only [bodyF_eq]
  rfl

noncomputable def callF : Nat → CallI
  | 0, _, _, _ => .fail "50"
  | k + 1, g, xs, s => match g with
    | .yield id ver => roundI A (callF k) id ver xs s
    | .fn f first captured =>
      let args := first ++ xs ++ captured
      match A.ovr f with
      | some h => h args s
      | none => match A.con f with
        | some h => match argList A s args with
          | some (as, s1) => match h as with
            | some d => .ret (.dat d, if d.isFlat then s else s1)
            | none => .fail ("51 " ++ toString f)
          | none => .fail ("52 " ++ toString f)
        | none => match A.fn f with
          | none => .fail ("53 " ++ toString f)
          | some fn => match A.pm f with
            | true => match argList A s args with
              | some (as, s1) => (pcallF A (callF k) fn as).bind fun d => .ret (.dat d, if d.isFlat then s else s1)
              | none => .fail ("55 " ++ toString f)
            | false => bodyF A (callF k) fn args s
    | _ => .fail "56"
theorem callF_eq : ∀ (k : Nat), callF A k = callI A k
  | 0 => rfl
  | k + 1 => by
    funext g xs s
    simp only [callF, callI, callF_eq k, pcallF_eq, bodyF_eq]
    rfl
end

/-- all leaves pass a test. -/
def belowB : Nat → (Nat → Bool) → Bool
  | 0, _ => true
  | n + 1, p => match p n with
    | true => belowB n p
    | false => false
theorem belowB_all : ∀ {n : Nat} {p : Nat → Bool}, belowB n p = true → ∀ i, i < n → p i = true
  | 0, _, _, i, hi => absurd hi (Nat.not_lt_zero i)
  | n + 1, p, h, i, hi => by
    simp only [belowB] at h
    split at h
    · rename_i hp
      rcases Nat.lt_succ_iff_lt_or_eq.1 hi with h1 | rfl
      · exact belowB_all h i h1
      · exact hp
    · cases h
def Tree.chk {α : Type} (q : α → Bool) : Tree α → Bool
  | .ret a => q a
  | .fail _ => false
  | .pick n k => belowB n fun i => (k i).chk q
theorem Tree.chk_all {α : Type} {q : α → Bool} : ∀ {t : Tree α}, t.chk q = true → t.All fun a => q a = true
  | .ret _, h => h
  | .fail _, h => by cases h
  | .pick n k, h => fun i hi => Tree.chk_all (belowB_all h i hi)
end Go.Ideal
