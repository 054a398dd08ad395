/- The abstract machine: what it holds, and what it does. -/
import Derived.Test.YtmpokdnpkjcnbaaDoorAmBase
import GoSem.Builtin.Clear
import Derived.Laws.CopyRow
namespace Go.Am
noncomputable section

structure LoopRec where
  fn : FuncId
  nt : Nat
  tm : Tr Value
  params : Array Tmp
  assign : Code
  body : Code
  state : LoopState
  pending : Option Code

inductive AObj where
  | cells (cs : Array Value) (sz : Nat) (spare : Bool)
  | map (es : List (Value × Value))
  | loop (r : LoopRec)

structure St where
  heap : Tr AObj
  next : Nat

structure Fr where
  fn : FuncId
  nt : Nat
  /-- slots that hold values -/
  tm : Tr Value
  /-- slots that hold places in the function's own variables -/
  pt : Tr (Nat × Nat)
  loc : Tr (Array Value)
  round : Option Nat

inductive Outc where
  | ret (v : Value)
  | pan (v : Value)

inductive Ex where
  | normal
  | exit (id : Nat)
  | ret
  | pan (v : Value)

/-- What is known of a function. -/
structure FnI where
  body : Code
  nt : Nat
  results : List ResultVar
  pure : Bool

/-- A call that is reckoned by other means. -/
abbrev Hand := Array Value → Ctx → St → Option (Outc × St)

structure Cfg where
  P : Program
  /-- how many package variables are known -/
  ng : Nat
  fns : FuncId → Option FnI
  hand : FuncId → Option Hand
  /-- is the variable that an operation of a function makes, into a slot, the function's own alone? -/
  loc : FuncId → Tmp → Bool
  /-- slots that mean nothing at the head of a loop (by the loop's key) -/
  drop : FuncId → Nat → Tmp → Bool

def chk (b : Bool) : Option Unit := if b then some () else none
theorem chk_some {b : Bool} {u : Unit} : chk b = some u ↔ b = true := by unfold chk; cases b <;> simp

def local? : Value → Bool
  | .pointer (some ⟨_, _, some _⟩) => true
  | _ => false

def nLim : Nat := 4294967296

section
variable (g : Cfg)

def sizeOf? (t : TypeId) : Option Nat := (g.P.info? t).map (·.size)
def bytesOf? (t : TypeId) : Option Nat := (g.P.info? t).map (·.bytes)
def aggT (t : TypeId) : Option Bool :=
  match g.P.underlying t with
  | some (.struct _) | some (.array _ _) => some true
  | some _ => some false
  | none => none

def St.look (c : Ctx) (s : St) (id : Nat) : Option AObj := if c.vis id then s.heap.get id else none
def St.rowAt (c : Ctx) (s : St) (id : Nat) : Option (Array Value) :=
  match s.look c id with
  | some (.cells cs _ _) => some cs
  | _ => none

def Fr.ev (fr : Fr) : Operand → Option Value
  | .tmp t => (match fr.pt.get t with | some p => some (.pointer (some ⟨p.1, p.2, some 0⟩)) | none => fr.tm.get t)
  | .const v => if plainN 8 v then some v else none
  | .global i => if i < g.ng then some (.pointer (some ⟨i, 0, none⟩)) else none
  | .func f => some (.func (.func f) #[] #[])

def Fr.gev (fr : Fr) (x : Operand) : Option Value := do
  let v ← fr.ev g x
  chk (!local? v)
  pure v

def evL (fr : Fr) : List Operand → Option (List Value)
  | [] => some []
  | x :: r => do
    let v ← fr.gev g x
    let vs ← evL fr r
    pure (v :: vs)

/-- The row of cells in which an address lies. -/
def rowOf (c : Ctx) (loc : Tr (Array Value)) (s : St) (a : Addr) : Option (Array Value) :=
  match a.spot with
  | some _ => loc.get a.block
  | none => s.rowAt c a.block

def readVar0 (t : TypeId) (cs : Array Value) (o : Nat) : Option Value := do
  let agg ← aggT g t
  if agg then do
    let n ← sizeOf? g t
    chk (decide (o + n ≤ cs.size))
    pure (.agg (cs.extract o (o + n)))
  else cs[o]?

/-- Is a value one of a type, as far as that is looked at? -/
def tyOk : Option TypeDesc → Value → Bool
  | some (.int k), .int k' _ => decide (k' = k)
  | some (.int _), _ => false
  | some .string, .string _ => true
  | some .string, _ => false
  | some .bool, .bool _ => true
  | some .bool, _ => false
  | _, _ => true
def readVar (t : TypeId) (cs : Array Value) (o : Nat) : Option Value :=
  match readVar0 g t cs o with
  | some v => cond (tyOk (g.P.underlying t) v) (some v) none
  | none => none
theorem readVar_old {t : TypeId} {cs : Array Value} {o : Nat} {v : Value} (h : readVar g t cs o = some v) : readVar0 g t cs o = some v := by
  unfold readVar at h
  split at h
  · rename_i v' hv'
    cases ht : tyOk (g.P.underlying t) v' with
    | true => rw [ht] at h; rw [hv']; exact h
    | false => rw [ht] at h; cases h
  · cases h

def blit (cs : Array Value) (o : Nat) : List Value → Array Value
  | [] => cs
  | v :: r => blit (cs.setIfInBounds o v) (o + 1) r

def St.write (c : Ctx) (s : St) (id : Nat) (o : Nat) (vs : List Value) : Option St :=
  match s.look c id with
  | some (.cells cs sz sp) => do
    chk (c.wr id && decide (o + vs.length ≤ cs.size) && vs.all Value.oneCell')
    pure { s with heap := s.heap.put id (.cells (blit cs o vs) sz sp) }
  | _ => none

def St.new (s : St) (o : AObj) : St := { heap := s.heap.put s.next o, next := s.next + 1 }

/-- Operations that touch no memory, on plain values. -/
def quietOp (fr : Fr) (o : Oper) : Option Value := do
  let vs ← evL g fr o.op.operands.toList
  chk (vs.all (plainN 8))
  let n ← purely g.P (execOp (fun x => (fr.ev g x).getD undef) o)
  match n with
  | .value v => do
    chk (plainN 9 v)
    pure v
  | _ => none

def doLoad (c : Ctx) (fr : Fr) (s : St) (t : TypeId) (x : Operand) : Option Value := do
  let v ← fr.ev g x
  match v with
  | .pointer (some a) => do
    let cs ← rowOf c fr.loc s a
    readVar g t cs a.off
  | .func (.methodOf _ _) X ⟨[.slice none o _]⟩ => readVar g t X o
  | _ => none

def doStore (c : Ctx) (fr : Fr) (s : St) (t : TypeId) (x y : Operand) : Option (Tr (Array Value) × St) := do
  let p ← fr.ev g x
  let v ← fr.gev g y
  let n ← sizeOf? g t
  chk (v.cells.size == n)
  match p with
  | .pointer (some ⟨d, o, some _⟩) => do
    let cs ← fr.loc.get d
    chk (decide (o + n ≤ cs.size) && v.cells.toList.all Value.oneCell')
    pure (fr.loc.put d (blit cs o v.cells.toList), s)
  | .pointer (some ⟨id, o, none⟩) => do
    let s' ← s.write c id o v.cells.toList
    pure (fr.loc, s')
  | _ => none

/-- A new variable: the function's own, or on the heap. -/
def doNew (fr : Fr) (s : St) (dst : Option Tmp) (cells : Array Value) : Option (Value × Tr (Array Value) × St) :=
  match dst with
  | some d =>
    if g.loc fr.fn d then
      (match fr.loc.get d with
       | none => some (.pointer (some ⟨d, 0, some 0⟩), fr.loc.put d cells, s)
       | some _ => none)
    else some (.pointer (some ⟨s.next, 0, none⟩), fr.loc, s.new (.cells cells 1 false))
  | none => none

def moved (a : Addr) (n : Nat) : Addr := { a with off := a.off + n }

def doFieldAddr (fr : Fr) (t : TypeId) (x : Operand) (f : Nat) : Option Value := do
  let v ← fr.ev g x
  match v, g.P.underlying t with
  | .pointer (some a), some (.struct fields) => do
    let fd ← fields[f]?
    let n ← sizeOf? g fd.type
    chk (n != 0)
    pure (.pointer (some (moved a fd.offset)))
  | .func (.methodOf _ _) X ⟨[.slice none o _]⟩, some (.struct fields) => do
    let fd ← fields[f]?
    let n ← sizeOf? g fd.type
    chk (n != 0)
    pure (VP X (o + fd.offset))
  | _, _ => none

def intV : Value → Option Int
  | .int _ n => some n
  | _ => none

def doIndexAddr (fr : Fr) (t : TypeId) (x ix : Operand) : Option Value := do
  let v ← fr.ev g x
  let i ← (← fr.gev g ix) |> intV
  match g.P.underlying t, v with
  | some (.array len elem), .pointer (some a) => do
    let n ← sizeOf? g elem
    chk (decide (0 ≤ i) && decide (i < len))
    pure (.pointer (some (moved a (i.toNat * n))))
  | some (.slice elem), .slice (some ⟨id, o, none⟩) len _ => do
    let n ← sizeOf? g elem
    chk (decide (0 ≤ i) && decide (i < len))
    pure (.pointer (some ⟨id, o + i.toNat * n, none⟩))
  | some (.array len elem), .func (.methodOf _ _) X ⟨[.slice none o _]⟩ => do
    let n ← sizeOf? g elem
    chk (decide (0 ≤ i) && decide (i < len))
    pure (VP X (o + i.toNat * n))
  | some (.slice elem), .func (.method _) X ⟨[.slice none o len]⟩ => do
    let n ← sizeOf? g elem
    chk (decide (0 ≤ i) && decide (i < len))
    pure (VP X (o + i.toNat * n))
  | _, _ => none

/-- a slice's bound: the one that is given, or what stands for it -/
def bound (fr : Fr) (x : Option Operand) (other : Nat) : Option Nat :=
  match x with
  | none => some other
  | some x => do
    let i ← (← fr.gev g x) |> intV
    chk (decide (0 ≤ i))
    pure i.toNat

def doSlice (c : Ctx) (fr : Fr) (s : St) (t : TypeId) (x : Operand) (lo hi mx : Option Operand) : Option (Value × St) := do
  let v ← fr.gev g x
  match g.P.underlying t, v with
  | some (.array n elem), .pointer (some ⟨id, o, none⟩) => do
    chk mx.isNone
    let size ← sizeOf? g elem
    let l ← bound g fr lo 0
    let h ← bound g fr hi n
    chk (decide (l ≤ h) && decide (h ≤ n))
    match s.look c id with
    | some (.cells _ _ false) => pure (.slice (some ⟨id, if n = l then o else o + l * size, none⟩) (h - l) (n - l), s)
    | _ => none
  | some (.slice elem), .slice (some ⟨id, o, none⟩) len cap => do
    let size ← sizeOf? g elem
    let l ← bound g fr lo 0
    let h ← bound g fr hi len
    match mx with
    | some m => do
      let m ← bound g fr (some m) 0
      chk (decide (l ≤ h) && decide (h ≤ m) && decide (m ≤ cap) && hi.isSome)
      if m = 0 then pure (.slice (some ⟨s.next, 0, none⟩) 0 0, s.new (.cells #[] size false))
      else pure (.slice (some ⟨s.next, 0, none⟩) (h - l) (m - l), { s with next := s.next + 1 })
    | none => do
      chk (decide (l ≤ h) && decide (h ≤ cap))
      if l < cap then pure (.slice (some ⟨id, o + l * size, none⟩) (h - l) (cap - l), s)
      else
        match s.look c id with
        | some (.cells _ _ false) => pure (.slice (some ⟨id, o, none⟩) 0 0, s)
        | _ => pure (.slice (some ⟨s.next, 0, none⟩) 0 0, { s with next := s.next + 1 })
  | some (.slice elem), .func (.method _) X ⟨[.slice none o len]⟩ => do
    let size ← sizeOf? g elem
    let l ← bound g fr lo 0
    let h ← bound g fr hi len
    chk (mx.isNone && (decide (l ≤ h) && decide (h ≤ len)))
    pure (VS X (o + l * size) (h - l), s)
  | _, _ => none

def doMakeSlice (fr : Fr) (s : St) (t : TypeId) (l c : Operand) : Option (Value × St) := do
  let l ← (← fr.gev g l) |> intV
  let c ← (← fr.gev g c) |> intV
  match g.P.underlying t with
  | some (.slice elem) => do
    let i ← g.P.info? elem
    let zero ← i.zero
    let n := c.toNat * i.size
    chk (decide (0 ≤ l) && decide (l ≤ c) && decide (c ≤ 16777216) && decide (i.bytes ≤ 4096) && plainN 8 zero && decide (zero.cells.size = i.size) && decide (i.size ≠ 0))
    pure (.slice (some ⟨s.next, 0, none⟩) l.toNat c.toNat, s.new (.cells ((Array.range n).map (zero.cells[· % zero.cells.size]!)) i.size false))
  | _ => none

def doBuildSlice (fr : Fr) (s : St) (t : TypeId) (len : Nat) (parts : Array (Nat × Operand)) : Option (Value × St) := do
  let vs ← evL g fr (parts.toList.map (·.2))
  match g.P.underlying t with
  | some (.slice elem) => do
    let i ← g.P.info? elem
    let zero ← i.zero
    let n := len * i.size
    chk (decide (n ≤ 16777216) && plainN 8 zero && decide (zero.cells.size = i.size) && decide (i.size ≠ 0))
    let cells ← Instr.fill (fun k => some (k * i.size, i.size)) ((Array.range n).map (zero.cells[· % zero.cells.size]!)) ((parts.toList.map (·.1)).zip vs)
    pure (.slice (some ⟨s.next, 0, none⟩) len len, s.new (.cells cells i.size false))
  | _ => none

def doBuild (fr : Fr) (t : TypeId) (parts : Array (Nat × Operand)) : Option Value := do
  let vs ← evL g fr (parts.toList.map (·.2))
  let zero ← (g.P.info? t).bind (·.zero)
  chk (plainN 8 zero)
  let ps := (parts.toList.map (·.1)).zip vs
  match g.P.underlying t with
  | some (.struct fields) => do
    let places ← fields.mapM fun f => (sizeOf? g f.type).map fun n => (f.offset, n)
    let cells ← Instr.fill (places[·]?) zero.cells ps
    pure (.agg cells)
  | some (.array _ elem) => do
    let n ← sizeOf? g elem
    let cells ← Instr.fill (fun k => some (k * n, n)) zero.cells ps
    pure (.agg cells)
  | _ => none

/-- the cells of a slice or a string, the first n elements -/
def cellsOf? (c : Ctx) (s : St) (size n : Nat) : Value → Option (Array Value)
  | .slice (some ⟨id, o, none⟩) l _ => do
    let cs ← s.rowAt c id
    chk (decide (n ≤ l) && decide (o + n * size ≤ cs.size))
    pure (cs.extract o (o + n * size))
  | .slice none l _ => do
    chk (n == 0 && l == 0)
    pure #[]
  | .string b => do
    chk (size == 1 && n == b.size)
    pure (b.data.map fun x => .int .u8 x.toNat)
  | .func (.method _) X ⟨[.slice none o l]⟩ => do
    chk (decide (n ≤ l) && decide (o + n * size ≤ X.size))
    pure (X.extract o (o + n * size))
  | _ => none

def lenV : Value → Option Nat
  | .slice _ n _ => some n
  | .string b => some b.size
  | .func (.method _) _ ⟨[.slice none _ l]⟩ => some l
  | _ => none

def doAppend (c : Ctx) (s : St) (argTypes : Array TypeId) (args : List Value) : Option (Value × St) := do
  match args with
  | [v, x] => do
    let st ← argTypes[0]?
    let xt ← argTypes[1]?
    match g.P.underlying st, v with
    | some (.slice elem), .slice base sl sc => do
      let i ← g.P.info? elem
      let zero ← i.zero
      let n ← lenV x
      chk (decide (sl ≤ sc) && decide (sl + n ≤ nLim) && decide (i.bytes ≤ 4096) && decide (i.size ≠ 0) && decide (zero.cells.size = i.size) && plainN 8 zero &&
        (match g.P.underlying xt with | some (.int _) => false | some _ => true | none => false))
      if n = 0 then pure (v, s)
      else do
        let new ← cellsOf? c s i.size n x
        chk (new.toList.all Value.oneCell')
        match base with
        | none => do
          chk (sl == 0 && sc == 0)
          pure (.slice (some ⟨s.next, 0, none⟩) n n, s.new (.cells new i.size true))
        | some ⟨id, o, none⟩ =>
          match s.look c id with
          | some (.cells cs sz sp) => do
            chk (sz == i.size)
            if sl + n ≤ sc then do
              let s' ← s.write c id (o + sl * i.size) new.toList
              pure (.slice base (sl + n) sc, s')
            else do
              chk (decide (o + sl * i.size ≤ cs.size))
              let old := cs.extract o (o + sl * i.size)
              let v' := .slice (some ⟨s.next, 0, none⟩) (sl + n) (sl + n)
              if sp then do
                chk (c.wr id && sl == sc && o + sl * i.size == cs.size)
                pure (v', { s with heap := s.heap.set id none : St }.new (.cells (old ++ new) i.size true))
              else pure (v', s.new (.cells (old ++ new) i.size true))
          | _ => none
        | _ => none
    | _, _ => none
  | _ => none

def doCopy (c : Ctx) (s : St) (argTypes : Array TypeId) (args : List Value) : Option (Value × St) := do
  match args with
  | [v, x] => do
    let st ← argTypes[0]?
    match g.P.underlying st, v with
    | some (.slice elem), .slice base dl _ => do
      let size ← sizeOf? g elem
      let m ← lenV x
      let n := Nat.min m dl
      if n = 0 then pure (.int .i64 0, s)
      else do
        let new ← (match x with
          | .string b => some (((b.extract 0 n).data.map fun x => Value.int .u8 x.toNat))
          | x => cellsOf? c s size n x)
        match base with
        | some ⟨id, o, none⟩ => do
          chk (new.size == n * size)
          let s' ← s.write c id o new.toList
          pure (.int .i64 n, s')
        | _ => none
    | _, _ => none
  | _ => none

def doLen (c : Ctx) (s : St) (argTypes : Array TypeId) (args : List Value) : Option Value := do
  match args with
  | [x] => do
    let t ← argTypes[0]?
    match g.P.underlying t, x with
    | some .string, .string b => pure (.int .i64 b.size)
    | some (.array n _), _ => pure (.int .i64 n)
    | some (.slice _), .slice _ n _ => pure (.int .i64 n)
    | some (.slice _), .func (.method _) _ ⟨[.slice none _ n]⟩ => pure (.int .i64 n)
    | some (.map _ _), .map none => pure (.int .i64 0)
    | some (.map _ _), .map (some id) =>
      match s.look c id with
      | some (.map es) => pure (.int .i64 es.length)
      | _ => none
    | _, _ => none
  | _ => none

def doClear (c : Ctx) (s : St) (argTypes : Array TypeId) (args : List Value) : Option (Value × St) := do
  match args with
  | [x] => do
    let t ← argTypes[0]?
    match g.P.underlying t, x with
    | some (.slice _), .slice _ 0 _ => pure (.tuple #[], s)
    | some (.slice elem), .slice (some ⟨id, o, none⟩) n _ => do
      let i ← g.P.info? elem
      let zero ← i.zero
      chk (plainN 8 zero && decide (zero.cells.size = i.size))
      let s' ← s.write c id o (Builtin.zeroCells zero.cells n).toList
      pure (.tuple #[], s')
    | _, _ => none
  | _ => none

/-! ### Maps -/
def entries (es : List (Value × Value)) : List MapEntry := es.map fun e => { key := e.1, val := e.2, born := 0 }
def findEntry (key : TypeId) (k : Value) (es : List (Value × Value)) : Option (Option Nat) := do
  let _ ← purely g.P (Instr.checkKey es.isEmpty 10000 key k)
  let r ← purely g.P (Instr.findKey key k (entries es))
  pure (r.map (·.1))

def mapAt (c : Ctx) (s : St) (id : Nat) : Option (List (Value × Value)) :=
  match s.look c id with
  | some (.map es) => some es
  | _ => none

def doLookup (c : Ctx) (fr : Fr) (s : St) (t : TypeId) (x ix : Operand) (ok : Bool) : Option Value := do
  let m ← fr.gev g x
  let k ← fr.gev g ix
  chk (plainN 8 k)
  match g.P.underlying t, m with
  | some (.map key elem), .map r => do
    let es ← (match r with | none => some [] | some id => mapAt c s id)
    let f ← findEntry g key k es
    match f with
    | some i => do
      let e ← es[i]?
      pure (if ok then .tuple #[e.2, .bool true] else e.2)
    | none => do
      let zero ← (g.P.info? elem).bind (·.zero)
      chk (plainN 8 zero)
      pure (if ok then .tuple #[zero, .bool false] else zero)
  | _, _ => none

def doUpdate (c : Ctx) (fr : Fr) (s : St) (t : TypeId) (x ix y : Operand) : Option St := do
  let m ← fr.gev g x
  let k ← fr.gev g ix
  let v ← fr.gev g y
  chk (plainN 8 k)
  match g.P.underlying t, m with
  | some (.map key _), .map (some id) => do
    let es ← mapAt c s id
    chk (c.wr id)
    let _ ← purely g.P (Instr.checkKey false 10000 key k)
    let r ← purely g.P (Instr.findKey key k (entries es))
    match r with
    | some (i, _) => do
      let e ← es[i]?
      chk (Instr.sameBits 10000 e.1 k)
      pure { s with heap := s.heap.put id (.map (es.set i (k, v))) }
    | none => pure { s with heap := s.heap.put id (.map (es ++ [(k, v)])) }
  | _, _ => none

def doDelete (c : Ctx) (s : St) (argTypes : Array TypeId) (args : List Value) : Option St := do
  match args with
  | [m, k] => do
    let t ← argTypes[0]?
    chk (plainN 8 k)
    match g.P.underlying t, m with
    | some (.map key _), .map (some id) => do
      let es ← mapAt c s id
      chk (c.wr id)
      let f ← findEntry g key k es
      match f with
      | some i => pure { s with heap := s.heap.put id (.map (es.eraseIdx i)) }
      | none => pure s
    | some (.map key _), .map none => do
      let _ ← findEntry g key k []
      pure s
    | _, _ => none
  | _ => none

/-! ### What else passes values on -/
def doExtract (fr : Fr) (x : Operand) (i : Nat) : Option Value := do
  let v ← fr.gev g x
  match v with
  | .tuple vs => vs[i]?
  | _ => none

def doField (fr : Fr) (t : TypeId) (x : Operand) (f : Nat) : Option Value := do
  let v ← fr.gev g x
  match v, g.P.underlying t with
  | .agg cs, some (.struct fields) => do
    let fd ← fields[f]?
    readVar g fd.type cs fd.offset
  | _, _ => none

def doIndex (fr : Fr) (t : TypeId) (x ix : Operand) : Option Value := do
  let v ← fr.gev g x
  let i ← (← fr.gev g ix) |> intV
  match g.P.underlying t, v with
  | some (.array len elem), .agg cs => do
    let n ← sizeOf? g elem
    chk (decide (0 ≤ i) && decide (i < len))
    readVar g elem cs (i.toNat * n)
  | some .string, .string b => do
    chk (decide (0 ≤ i))
    let x ← b[i.toNat]?
    pure (.int .u8 x.toNat)
  | _, _ => none

def doMakeFunc (fr : Fr) (fn : Fn) (first captured : Array Operand) : Option Value := do
  let a ← evL g fr first.toList
  let b ← evL g fr captured.toList
  chk (plainFn fn)
  pure (.func fn a.toArray b.toArray)

def doMakeInterface (fr : Fr) (t : TypeId) (x : Operand) : Option Value := do
  let v ← fr.gev g x
  match g.P.underlying t with
  | some (.interface _) => none
  | some _ => pure (.iface t v)
  | none => none

def doTypeAssert (fr : Fr) (x : Operand) (asserted : TypeId) (ok : Bool) : Option Value := do
  let v ← fr.gev g x
  match v, g.P.underlying asserted with
  | .iface _ _, some (.interface _) => none
  | .iface t w, some _ => do
    chk (t == asserted)
    pure (if ok then .tuple #[w, .bool true] else w)
  | _, _ => none

def doNilCheck (fr : Fr) (x : Operand) : Option Value := do
  let v ← fr.ev g x
  match v with
  | .pointer (some _) => pure v
  | .func (.func _) _ _ => pure v
  | .slice _ _ _ | .map _ => pure v
  | .func (.methodOf _ _) _ ⟨[.slice none _ _]⟩ => pure v
  | _ => none

/-- equal, where one side is nil -/
def nilEqB : TypeDesc → Value → Value → Option Bool
  | .pointer _, .pointer (some _), .pointer none => some false
  | .pointer _, .pointer none, .pointer (some _) => some false
  | .slice _, .slice (some _) _ _, .slice none _ _ => some false
  | .slice _, .slice none _ _, .slice (some _) _ _ => some false
  | .map _ _, .map (some _), .map none => some false
  | .map _ _, .map none, .map (some _) => some false
  | .func _ _ _, .func (.func _) _ _, .nilFunc => some false
  | .func _ _ _, .nilFunc, .func (.func _) _ _ => some false
  | _, _, _ => none

def doNilEq (fr : Fr) (op : BinOp) (t : TypeId) (x y : Operand) : Option Value := do
  let a ← fr.gev g x
  let b ← fr.gev g y
  let d ← g.P.underlying t
  let r ← nilEqB d a b
  match op with
  | .eql => some (.bool r)
  | .neq => some (.bool (!r))
  | _ => none

/-- Calls: of a function value. -/
abbrev Handler := Value → Array Value → Ctx → St → Option (Outc × St)

def doBuiltin (c : Ctx) (fr : Fr) (s : St) (b : Builtin) (argTypes : Array TypeId) (xs : List Operand) : Option (Outc × Tr (Array Value) × St) := do
  let args ← evL g fr xs
  match b with
  | .append => do
    let r ← doAppend g c s argTypes args
    pure (.ret r.1, fr.loc, r.2)
  | .copy => do
    let r ← doCopy g c s argTypes args
    pure (.ret r.1, fr.loc, r.2)
  | .len => do
    let r ← doLen g c s argTypes args
    pure (.ret r, fr.loc, s)
  | .clear => do
    let r ← doClear g c s argTypes args
    pure (.ret r.1, fr.loc, r.2)
  | .delete => do
    let r ← doDelete g c s argTypes args
    pure (.ret (.tuple #[]), fr.loc, r)
  | .panic =>
    match args with
    | [.iface t v] => pure (.pan (.iface t v), fr.loc, s)
    | _ => none
  | _ => none

def orElse' {α : Type} (a b : Option α) : Option α := match a with | some x => some x | none => b

/-- One operation: what comes into its slot; the function's own variables; what is held. -/
def op (h : Handler) (c : Ctx) (fr : Fr) (s : St) (o : Oper) : Option (Outc × Tr (Array Value) × St) :=
  let same (v : Option Value) : Option (Outc × Tr (Array Value) × St) := v.map fun v => (.ret v, fr.loc, s)
  let quiet : Option (Outc × Tr (Array Value) × St) := same (quietOp g fr o)
  match o.op with
  | .move x | .assign x => same (fr.gev g x)
  | .alloc t => do
    let zero ← (g.P.info? t).bind (·.zero)
    chk (plainN 8 zero)
    let r ← doNew g fr s o.dst zero.cells
    pure (.ret r.1, r.2.1, r.2.2)
  | .box _ x => do
    let v ← fr.gev g x
    let r ← doNew g fr s o.dst v.cells
    pure (.ret r.1, r.2.1, r.2.2)
  | .build t parts => same (doBuild g fr t parts)
  | .buildSlice t len parts => (doBuildSlice g fr s t len parts).map fun r => (.ret r.1, fr.loc, r.2)
  | .load t x => same (doLoad g c fr s t x)
  | .store t x y => (doStore g c fr s t x y).map fun r => (.ret undef, r.1, r.2)
  | .nilCheck x => same (doNilCheck g fr x)
  | .binOp b t x y _ => same (orElse' (quietOp g fr o) (doNilEq g fr b t x y))
  | .makeInterface t x => same (doMakeInterface g fr t x)
  | .makeFunc fn a b => same (doMakeFunc g fr fn a b)
  | .makeMap _ none => some (.ret (.map (some s.next)), fr.loc, s.new (.map []))
  | .makeSlice t l m => (doMakeSlice g fr s t l m).map fun r => (.ret r.1, fr.loc, r.2)
  | .slice t x lo hi mx => orElse' quiet ((doSlice g c fr s t x lo hi mx).map fun r => (.ret r.1, fr.loc, r.2))
  | .fieldAddr t x f => same (doFieldAddr g fr t x f)
  | .field t x f => same (doField g fr t x f)
  | .indexAddr t x i => same (doIndexAddr g fr t x i)
  | .index t x i => same (doIndex g fr t x i)
  | .lookup t x i ok => same (doLookup g c fr s t x i ok)
  | .mapUpdate t m k v | .insert t m k v => (doUpdate g c fr s t m k v).map fun s' => (.ret undef, fr.loc, s')
  | .typeAssert x _ t ok => same (doTypeAssert g fr x t ok)
  | .extract x i => same (doExtract g fr x i)
  | .pick .. | .unOp .. | .convert .. => quiet
  | .panic x => do
    let v ← fr.gev g x
    match v with
    | .iface t v => pure (.pan (.iface t v), fr.loc, s)
    | _ => none
  | .call cl =>
    match cl.callee with
    | .builtin b => orElse' quiet (doBuiltin g c fr s b cl.argTypes cl.args.toList)
    | .value f => do
      let fv ← fr.gev g f
      let args ← evL g fr cl.args.toList
      let r ← h fv args.toArray c s
      pure (r.1, fr.loc, r.2)
    | .invoke .. => none
  | _ => none

end
end
end Go.Am
