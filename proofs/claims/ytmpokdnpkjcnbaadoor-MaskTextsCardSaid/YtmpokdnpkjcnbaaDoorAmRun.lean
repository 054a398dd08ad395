/- The abstract machine: regions, code, calls. -/
import Derived.Test.YtmpokdnpkjcnbaaDoorAmDef
namespace Go.Am
noncomputable section

section
variable (g : Cfg)

def Fr.wanted (fr : Fr) (ops : Array Oper) (o : Oper) : Option Bool :=
  match o.guard with
  | none => some true
  | some (j, want) =>
    match (ops[j]?).bind (·.dst) with
    | none => none
    | some d =>
      match fr.tm.get d with
      | some (.bool b) => some (b == want)
      | some (.tuple _) => some false
      | _ => none

def Fr.putV (fr : Fr) (d : Tmp) (v : Value) : Fr :=
  match v with
  | .pointer (some ⟨b, o, some _⟩) => { fr with pt := fr.pt.put d (b, o), tm := fr.tm.set d none }
  | _ => { fr with tm := fr.tm.put d v, pt := if (fr.pt.get d).isSome then fr.pt.set d none else fr.pt }
def Fr.putO (fr : Fr) (dst : Option Tmp) (v : Value) : Option Fr :=
  match dst with
  | some d => if d < fr.nt then some (fr.putV d v) else none
  | none => some fr

/-- One operation of a region, where it stands. -/
def step (h : Handler) (c : Ctx) (fr : Fr) (s : St) (ops : Array Oper) (o : Oper) : Option (Ex × Fr × St) := do
  let w ← fr.wanted ops o
  if w then do
    let r ← op g h c fr s o
    match r.1 with
    | .ret v => do
      let fr' ← { fr with loc := r.2.1 : Fr }.putO o.dst v
      pure (.normal, fr', r.2.2)
    | .pan v => pure (.pan v, fr, r.2.2)
  else do
    let fr' ← fr.putO o.dst undef
    pure (.normal, fr', s)

/-- A region whose operations go in the text's order. -/
def stepsIn (h : Handler) (c : Ctx) (ops : Array Oper) : List Oper → Fr → St → Option (Ex × Fr × St)
  | [], fr, s => some (.normal, fr, s)
  | o :: rest, fr, s => do
    let r ← step g h c fr s ops o
    match r.1 with
    | .normal => stepsIn h c ops rest r.2.1 r.2.2
    | _ => pure r

/-- What an operation waits for, whatever the mode. -/
def preds (ops : Array Oper) (j : Nat) : List Nat := ((ops[j]?).map fun o => (o.after.toList.filter fun e => Region.binds .any e).map (·.on)).getD []

/-- what an operation waits for, through others -/
def closure (ops : Array Oper) : Nat → List (List Nat)
  | 0 => []
  | j + 1 =>
    let l := closure ops j
    l ++ [((preds ops j).flatMap fun i => i :: (l.getD i [])).eraseDups]

def fullOrdered (b : List (List Nat)) (n j : Nat) : Bool :=
  (List.range n).all fun i => i == j || (if i < j then (b.getD j []).contains i else (b.getD i []).contains j)

/-- An operation that comes to no memory. -/
def silentOp : Op → Bool
  | .move _ | .assign _ | .pick .. | .binOp .. | .unOp .. | .build .. | .fieldAddr .. | .field .. | .extract .. | .nilCheck _ | .makeInterface .. | .makeFunc .. | .convert .. | .typeAssert .. | .index .. | .indexAddr .. => true
  | _ => false
/-- A load out of an own variable's field, as the text shows it: it is run on an empty heap. -/
def ownLoad (ops : Array Oper) (o : Oper) : Bool :=
  match o.op with
  | .load _ (.tmp t) => ops.toList.any fun p => (match p.dst with | some d => Nat.beq d t | none => false) && (match p.op with | .fieldAddr _ (.tmp b) _ => ops.toList.all fun q => (match q.dst with | some d => !Nat.beq d b | none => true) | _ => false)
  | _ => false
def silentO (ops : Array Oper) (o : Oper) : Bool := silentOp o.op || ownLoad ops o
def silent (ops : Array Oper) (i : Nat) : Bool := match ops[i]? with | some o => silentO ops o | none => false

def allOrdered (ops : Array Oper) (b : List (List Nat)) (n j : Nat) : Bool :=
  (List.range n).all fun i => i == j || silent ops i || (if i < j then (b.getD j []).contains i else (b.getD i []).contains j)

def opTmps (o : Oper) : List Tmp := o.op.operands.toList.filterMap fun | .tmp t => some t | _ => none
def dstOf (ops : Array Oper) (i : Nat) : Option Tmp := (ops[i]?).bind (·.dst)

def ordered (b : List (List Nat)) (i j : Nat) : Bool := if i < j then (b.getD j []).contains i else (b.getD i []).contains j

/-- May a region that draws its order be reckoned in the text's? -/
def drawOk (ops : Array Oper) (b : List (List Nat)) : Bool :=
  let n := ops.size
  let gc := Region.linearise .gc ops 0
  -- edges lead back; a guard is waited for; some order of gc's serves
  ((List.range n).all fun j => match ops[j]? with
    | none => false
    | some o =>
      o.after.toList.all (fun e => decide (e.on < j) || (match e.ground with | .gcOnly _ => true | _ => false)) &&
      (match o.guard with | none => true | some (i, _) => (b.getD j []).contains i) && gc.contains j) &&
  -- slots: each is written once; who reads one that is written waits for it, or it waits for him
  ((List.range n).all fun i => match dstOf ops i with
    | none => true
    | some d => (List.range n).all fun j => i == j || (dstOf ops j != some d &&
        (match ops[j]? with
        | none => true
        | some o => !(opTmps o).contains d || ordered b i j)))

def guardTmps (ops : Array Oper) (o : Oper) : List Tmp := match o.guard with | none => [] | some (j, _) => (dstOf ops j).toList
def seenTmps (ops : Array Oper) (o : Oper) : List Tmp := opTmps o ++ guardTmps ops o

/-- the own variables that an operation comes to, and those that it turns -/
def ptd (fr : Fr) (t : Tmp) : List Nat := match fr.pt.get t with | some p => [p.1] | none => []
def wrlOf (fr : Fr) (o : Oper) : List Nat :=
  match o.op with
  | .store _ (.tmp t) _ => ptd fr t
  | .alloc _ | .box _ _ => o.dst.toList
  | _ => []

def footOf (ops : Array Oper) (fr : Fr) (o : Oper) : List Nat × List Nat := ((seenTmps ops o).flatMap (ptd fr) ++ wrlOf fr o, wrlOf fr o)

structure Foot where
  lo : Nat
  hi : Nat
  acc : List Nat
  wrl : List Nat

/-- may an operation write what another one of its region has made? -/
def mayWrite (ops : Array Oper) (b : List (List Nat)) (n i j : Nat) : Bool := (b.getD j []).contains i && (List.range n).all fun k => k == j || silent ops k || !(b.getD k []).contains i || ordered b k j

def drawCtx (c : Ctx) (ops : Array Oper) (b : List (List Nat)) (n j next : Nat) (seen : List Foot) : Ctx :=
  if allOrdered ops b n j then c else
  { floor := next
    own := (seen.zipIdx.filter fun x => mayWrite ops b n x.2 j).map fun x => (x.1.lo, x.1.hi)
    hide := ((seen.zipIdx.filter fun x => !(b.getD j []).contains x.2 && decide (x.1.lo < x.1.hi)).map fun x => (x.1.lo, x.1.hi)) ++ c.hide }

def pick {α : Type} : List Nat → Tr α → Tr α → Tr α
  | [], _, t => t
  | k :: r, src, t => pick r src (match src.get k with | some v => t.put k v | none => t)
def copyAt {α : Type} : List Nat → Tr α → Tr α → Tr α
  | [], _, t => t
  | k :: r, src, t => copyAt r src (t.set k (src.get k))

/-- the part of a frame that an operation comes to -/
def Fr.only (fr : Fr) (ops : Array Oper) (o : Oper) (acc : List Nat) : Fr :=
  { fr with tm := pick (seenTmps ops o) fr.tm .nil, pt := pick (seenTmps ops o) fr.pt .nil, loc := pick acc fr.loc .nil }
def Fr.with' (fr fr1 : Fr) (o : Oper) (wrl : List Nat) : Fr :=
  { fr with tm := copyAt o.dst.toList fr1.tm fr.tm, pt := copyAt o.dst.toList fr1.pt fr.pt, loc := copyAt wrl fr1.loc fr.loc }

/-- A region that draws its order: each operation sees what it waits for alone; what is not ordered with all others writes nothing that was there. -/
def stepsDraw (h : Handler) (c : Ctx) (ops : Array Oper) (b : List (List Nat)) : Nat → List Foot → List Oper → Fr → St → Option (Ex × Fr × St)
  | _, _, [], fr, s => some (.normal, fr, s)
  | j, seen, o :: rest, fr, s => do
    let ft := footOf ops fr o
    chk (seen.zipIdx.all fun x => (b.getD j []).contains x.2 || (x.1.acc.all (fun d => !ft.2.contains d) && x.1.wrl.all (fun d => !ft.1.contains d)))
    if silentO ops o then do
      let r ← step g h (drawCtx c ops b ops.size j s.next seen) (fr.only ops o ft.1) { heap := .nil, next := s.next } ops o
      chk (r.2.2.next == s.next)
      match r.1 with
      | .normal => stepsDraw h c ops b (j + 1) (seen ++ [⟨s.next, s.next, ft.1, ft.2⟩]) rest (fr.with' r.2.1 o ft.2) s
      | _ => none
    else do
    let r ← step g h (drawCtx c ops b ops.size j s.next seen) (fr.only ops o ft.1) s ops o
    match r.1 with
    | .normal => stepsDraw h c ops b (j + 1) (seen ++ [⟨s.next, r.2.2.next, ft.1, ft.2⟩]) rest (fr.with' r.2.1 o ft.2) r.2.2
    | .pan v => do
      chk (fullOrdered b ops.size j && allOrdered ops b ops.size j)
      pure (.pan v, r.2.1, r.2.2)
    | _ => none

def region (h : Handler) (c : Ctx) (ops : Array Oper) (draw : Bool) (fr : Fr) (s : St) : Option (Ex × Fr × St) :=
  if draw then do
    let b := closure ops ops.size
    chk (drawOk ops b)
    stepsDraw g h c ops b 0 [] ops.toList fr s
  else stepsIn g h c ops ops.toList fr s

/-- The slots that code writes. -/
def defs : Code → List (Tmp × Bool)
  | .region _ ops _ => ops.toList.filterMap fun o => o.dst.map fun d => (d, match o.op with | .assign _ | .move _ => true | _ => false)
  | .seq a b => defs a ++ defs b
  | .cond _ a b => defs a ++ defs b
  | .block _ a => defs a
  | .loop a => defs a
  | .scope a => defs a
  | _ => []

/-- a loop's key: its first region's number -/
def keyOf : Code → Option Nat
  | .region i _ _ => some i
  | .seq a b => (match keyOf a with | some i => some i | none => keyOf b)
  | .cond _ a b => (match keyOf a with | some i => some i | none => keyOf b)
  | .block _ a => keyOf a
  | .scope a => keyOf a
  | .loop a => (keyOf a).map (1000 + ·)
  | _ => none

def dropOf (f : FuncId) (c : Code) : List Tmp :=
  let k := (keyOf c).getD 0
  (defs c).filterMap fun x => if x.2 && !g.drop f k x.1 then none else some x.1
def wipe {α : Type} : List Tmp → Tr α → Tr α
  | [], t => t
  | d :: r, t => wipe r (t.set d none)
def Tr.filt {α : Type} (p : α → Bool) : Tr α → Tr α
  | .nil => .nil
  | .node l v r => .node (l.filt p) (match v with | some x => if p x then some x else none | none => none) (r.filt p)
def Fr.wiped (fr : Fr) (ds : List Tmp) : Fr := { fr with tm := wipe ds fr.tm, loc := wipe ds fr.loc, pt := (wipe ds fr.pt).filt fun p => !ds.contains p.1 }

def rounds (body : Fr → St → Option (Ex × Fr × St)) (ds : List Tmp) : Nat → Fr → St → Option (Ex × Fr × St)
  | 0, _, _ => none
  | n + 1, fr, s => do
    let r ← body (fr.wiped ds) s
    match r.1 with
    | .normal => rounds body ds n r.2.1 r.2.2
    | _ => pure r

def exitOf : Option Code → Option Ex
  | none => some .normal
  | some .ret => some .ret
  | some (.exit i) => some (.exit i)
  | _ => none

def isFn : Value → Bool
  | .func (.func _) _ _ => true
  | _ => false
def roundSeen (c : Ctx) (fr : Fr) (s : St) : Bool :=
  match fr.round with
  | none => true
  | some i => (match s.look c i with | some (.loop _) => true | _ => false)

def code (h : Handler) (lim : Nat) (c : Ctx) : Code → Fr → St → Option (Ex × Fr × St)
  | .skip, fr, s => some (.normal, fr, s)
  | .label _, fr, s => some (.normal, fr, s)
  | .ret, fr, s => some (.ret, fr, s)
  | .exit i, fr, s => some (.exit i, fr, s)
  | .region _ ops draw, fr, s => region g h c ops draw fr s
  | .seq a b, fr, s => do
    let r ← code h lim c a fr s
    match r.1 with
    | .normal => code h lim c b r.2.1 r.2.2
    | _ => pure r
  | .cond x a b, fr, s => do
    let v ← fr.ev g x
    match v with
    | .bool true => code h lim c a fr s
    | .bool false => code h lim c b fr s
    | _ => none
  | .block i a, fr, s => do
    let r ← code h lim c a fr s
    match r.1 with
    | .exit j => pure (if j = i then .normal else .exit j, r.2.1, r.2.2)
    | _ => pure r
  | .loop a, fr, s => rounds (code h lim c a) (dropOf g fr.fn a) lim fr s
  | .scope a, fr, s => code h lim c a fr s
  | .rangeFunc f params assign body, fr, s => do
    let fv ← fr.gev g f
    chk (isFn fv)
    chk (roundSeen c fr s)
    let rec' : LoopRec := { fn := fr.fn, nt := fr.nt, tm := fr.tm, params, assign, body, state := .ready, pending := none }
    let id := s.next
    let r ← h fv #[.func (.yield id) #[] #[]] c (s.new (.loop rec'))
    match r.1 with
    | .ret _ =>
      match r.2.heap.get id with
      | some (.loop l) => do
        let e ← exitOf l.pending
        chk (l.state != .busy)
        pure (e, fr, { r.2 with heap := r.2.heap.set id none })
      | _ => none
    | .pan _ => none
  | _, _, _ => none

def args0 : Nat → List Value → Tr Value → Tr Value
  | _, [], t => t
  | i, v :: r, t => args0 (i + 1) r (t.put i v)

def resultOf (c : Ctx) (fr : Fr) (s : St) : ResultVar → Option Value
  | .tmp t => do
    let v ← fr.tm.get t
    chk (!local? v)
    pure v
  | .cell a t => doLoad g c fr s t (.tmp a)

def resultsL (c : Ctx) (fr : Fr) (s : St) : List ResultVar → Option (List Value)
  | [] => some []
  | r :: rs => do
    let v ← resultOf g c fr s r
    let vs ← resultsL c fr s rs
    pure (v :: vs)

def resultsV (c : Ctx) (fr : Fr) (s : St) (rs : List ResultVar) : Option Value := do
  let vs ← resultsL g c fr s rs
  match vs with
  | [v] => pure v
  | vs => pure (.tuple vs.toArray)

/-- What a call hands back of what it made: a plain value leaves nothing behind. -/
def shed (s s' : St) (v : Value) : Option (Value × St) :=
  match v with
  | .slice (some ⟨id, 0, none⟩) l cp =>
    (match s'.heap.get id with
     | some (.cells cs sz sp) =>
       if s.next ≤ id && cs.all (freeN 6) then some (.slice (some ⟨s.next, 0, none⟩) l cp, s.new (.cells cs sz sp)) else none
     | _ => none)
  | v => if freeN 9 v then some (v, s) else none

/-- A function's body, run. -/
def runBody (h : Handler) (lim : Nat) (i : FnI) (f : FuncId) (args : Array Value) (c : Ctx) (s : St) : Option (Outc × St) := do
  chk (decide (args.size ≤ i.nt))
  let fr : Fr := { fn := f, nt := i.nt, tm := args0 0 args.toList .nil, pt := .nil, loc := .nil, round := none }
  let r ← code g h lim c i.body fr s
  match r.1 with
  | .normal | .ret => do
    let v ← resultsV g c r.2.1 r.2.2 i.results
    pure (.ret v, r.2.2)
  | .pan v => pure (.pan v, r.2.2)
  | .exit _ => none

def putAll : List (Tmp × Value) → Tr Value → Tr Value
  | [], t => t
  | x :: r, t => putAll r (t.put x.1 x.2)

def pendOf : Ex → Option (Option Code)
  | .normal => some none
  | .ret => some (some .ret)
  | .exit i => some (some (.exit i))
  | .pan _ => none

/-- One round of a loop over a function. -/
def runRound (h : Handler) (lim : Nat) (id : Nat) (args : Array Value) (c : Ctx) (s : St) : Option (Outc × St) := do
  match s.look c id with
  | some (.loop l) => do
    chk (c.wr id && args.size == l.params.size && l.params.all (decide <| · < l.nt))
    let fr : Fr := { fn := l.fn, nt := l.nt, tm := putAll (l.params.toList.zip args.toList) l.tm, pt := .nil, loc := .nil, round := some id }
    let r ← code g h lim c l.assign fr s
    match r.1 with
    | .normal =>
      match r.2.2.look c id with
      | some (.loop l1) => do
        chk (l1.state == .ready)
        let r ← code g h lim c l.body r.2.1 { r.2.2 with heap := r.2.2.heap.put id (.loop { l1 with state := .busy }) }
        let p ← pendOf r.1
        match r.2.2.look c id with
        | some (.loop l2) => some (.ret (.bool p.isNone), { r.2.2 with heap := r.2.2.heap.put id (.loop { l2 with state := if p.isNone then .ready else .done, pending := p }) })
        | _ => none
      | _ => none
    | _ => none
  | _ => none

def call : Nat → Handler
  | 0, _, _, _, _ => none
  | n + 1, fv, args, c, s =>
    match fv with
    | .func (.func f) a b =>
      let all := a ++ args ++ b
      match g.hand f with
      | some hd => hd all c s
      | none =>
        match g.fns f with
        | none => none
        | some i =>
          if i.pure then do
            let r ← runBody g (call n) n i f all { floor := s.next, own := [], hide := c.hide } s
            match r.1 with
            | .ret v => do
              let x ← shed s r.2 v
              pure (.ret x.1, x.2)
            | .pan _ => none
          else runBody g (call n) n i f all c s
    | .func (.yield id) a b => if a.size = 0 ∧ b.size = 0 then runRound g (call n) n id args c s else none
    | _ => none

end
end
end Go.Am
