/- Operations on arrays, lengths, and numbers that are not known: what has to be decided is laid out in the tree. -/
import Derived.Test.YtgcffmkifjnmlaaAmFast
namespace Go.Am
noncomputable section

inductive DT (α : Type) where
  | leaf (a : α)
  | node (c : Bool) (t f : DT α)

def DT.eval {α : Type} (x : DT α) : α := DT.rec (motive := fun _ => α) (fun a => a) (fun c _ _ t f => cond c t f) x
def DT.bind {α β : Type} (x : DT α) (k : α → DT β) : DT β := DT.rec (motive := fun _ => DT β) k (fun c _ _ t f => .node c t f) x
theorem DT.eval_leaf {α : Type} (a : α) : (DT.leaf a).eval = a := rfl
theorem DT.eval_node {α : Type} (c : Bool) (t f : DT α) : (DT.node c t f).eval = cond c t.eval f.eval := rfl
theorem DT.bind_leaf {α β : Type} (a : α) (k : α → DT β) : (DT.leaf a).bind k = k a := rfl
theorem DT.bind_node {α β : Type} (c : Bool) (t f : DT α) (k : α → DT β) : (DT.node c t f).bind k = .node c (t.bind k) (f.bind k) := rfl
theorem DT.eval_bind {α β : Type} (x : DT α) (k : α → DT β) : (x.bind k).eval = (k x.eval).eval := by
  induction x with
  | leaf a => rfl
  | node c t f it jf => cases c <;> simp [DT.bind_node, DT.eval_node, it, jf]
/-- Go on where there is something. -/
def DT.andThen {α β : Type} (x : DT (Option α)) (k : α → DT (Option β)) : DT (Option β) := x.bind fun o => match o with | some a => k a | none => .leaf none
theorem DT.eval_andThen {α β : Type} (x : DT (Option α)) (k : α → DT (Option β)) (K : α → Option β) (h : ∀ a, (k a).eval = K a) : (x.andThen k).eval = x.eval.bind K := by
  unfold DT.andThen
  rw [DT.eval_bind]
  cases x.eval with
  | none => rfl
  | some a => exact h a
def DT.map {α β : Type} (f : α → β) (x : DT α) : DT β := x.bind fun a => .leaf (f a)
theorem DT.eval_map {α β : Type} (f : α → β) (x : DT α) : (x.map f).eval = f x.eval := by unfold DT.map; rw [DT.eval_bind]; rfl

def chkT {α : Type} (b : Bool) (x : DT (Option α)) : DT (Option α) := .node b x (.leaf none)
theorem chkT_eval {α : Type} (b : Bool) (x : DT (Option α)) : (chkT b x).eval = (chk b).bind fun _ => x.eval := by cases b <;> rfl
theorem eval_chkT {α : Type} {b : Bool} {x : DT (Option α)} {y : Option α} (h : x.eval = y) : (chkT b x).eval = (chk b).bind fun _ => y := by rw [chkT_eval, h]

/-! ### Values out of rows that are not known -/
def isI (k : IntKind) : Option Value → Bool
  | some (.int k' _) => decide (k' = k)
  | _ => false
def toI : Option Value → Int
  | some (.int _ n) => n
  | _ => 0
def isStr : Option Value → Bool
  | some (.string _) => true
  | _ => false
def toStr : Option Value → ByteArray
  | some (.string b) => b
  | _ => ⟨#[]⟩
def isB : Option Value → Bool
  | some (.bool _) => true
  | _ => false
def toB : Option Value → Bool
  | some (.bool b) => b
  | _ => false
def typedT (d : Option TypeDesc) (r : Option Value) : DT (Option Value) :=
  match d with
  | some (.int k) => .node (isI k r) (.leaf (some (.int k (toI r)))) (.leaf none)
  | some .string => .node (isStr r) (.leaf (some (.string (toStr r)))) (.leaf none)
  | some .bool => .node (isB r) (.leaf (some (.bool (toB r)))) (.leaf none)
  | _ => .leaf r
theorem typedT_eval (d : Option TypeDesc) (r : Option Value) : (typedT d r).eval = (match r with | some v => cond (tyOk d v) (some v) none | none => none) := by
  unfold typedT
  split
  · rename_i k
    rw [DT.eval_node]
    cases r with
    | none => rfl
    | some v =>
      cases v with
      | int k' n =>
        by_cases e : k' = k
        · subst e; simp [isI, toI, tyOk, DT.eval_leaf]
        · simp [isI, tyOk, e, DT.eval_leaf]
      | _ => rfl
  · rw [DT.eval_node]
    cases r with
    | none => rfl
    | some v => cases v <;> rfl
  · rw [DT.eval_node]
    cases r with
    | none => rfl
    | some v => cases v <;> rfl
  · rename_i h1 h2 h3
    rw [DT.eval_leaf]
    cases r with
    | none => rfl
    | some v =>
      have : tyOk d v = true := by
        unfold tyOk
        split
        · exact (h1 _ rfl).elim
        · exact (h1 _ rfl).elim
        · exact (h2 rfl).elim
        · exact (h2 rfl).elim
        · exact (h3 rfl).elim
        · exact (h3 rfl).elim
        · rfl
      simp [this]

section
variable (g : Cfg)

def readVarT (t : TypeId) (cs : Array Value) (o : Nat) : DT (Option Value) :=
  match aggT g t with
  | some true => (match sizeOf? g t with
    | some n => chkT (decide (o + n ≤ cs.size)) (.leaf (some (.agg (cs.extract o (o + n)))))
    | none => .leaf none)
  | some false => typedT (g.P.underlying t) cs[o]?
  | none => .leaf none
theorem readVarT_eval (t : TypeId) (cs : Array Value) (o : Nat) : (readVarT g t cs o).eval = readVar g t cs o := by
  unfold readVarT readVar readVar0
  cases h : aggT g t with
  | none => rfl
  | some b =>
    cases b with
    | true =>
      have hty : ∀ v, tyOk (g.P.underlying t) v = true := fun v => by
        unfold aggT at h
        unfold tyOk
        split at h
        · rename_i e; rw [e]
        · rename_i e; rw [e]
        · cases h
        · cases h
      cases h2 : sizeOf? g t with
      | none => rfl
      | some n =>
        simp only
        rw [chkT_eval]
        by_cases hle : o + n ≤ cs.size <;> simp [chk, hty, hle, DT.eval_leaf]
    | false =>
      simp only [Bool.false_eq_true, if_false, Option.bind_eq_bind, Option.bind_some]
      exact typedT_eval _ _

def doLoadT (c : Ctx) (fr : Fr) (s : St) (t : TypeId) (x : Operand) : DT (Option Value) :=
  match fr.ev g x with
  | some (.pointer (some a)) => (match rowOf c fr.loc s a with
    | some cs => readVarT g t cs a.off
    | none => .leaf none)
  | _ => .leaf none
theorem doLoadT_eval (c : Ctx) (fr : Fr) (s : St) (t : TypeId) (x : Operand) : (doLoadT g c fr s t x).eval = doLoad g c fr s t x := by
  unfold doLoadT doLoad
  cases h : fr.ev g x with
  | none => rfl
  | some v =>
    cases v with
    | pointer p =>
      cases p with
      | none => rfl
      | some a =>
        simp only [Option.bind_eq_bind, Option.bind_some]
        cases h2 : rowOf c fr.loc s a with
        | none => rfl
        | some cs => exact readVarT_eval g t cs a.off
    | _ => rfl

def doFieldT (fr : Fr) (t : TypeId) (x : Operand) (f : Nat) : DT (Option Value) :=
  match fr.gev g x, g.P.underlying t with
  | some (.agg cs), some (.struct fields) => (match fields[f]? with
    | some fd => readVarT g fd.type cs fd.offset
    | none => .leaf none)
  | _, _ => .leaf none
theorem doFieldT_eval (fr : Fr) (t : TypeId) (x : Operand) (f : Nat) : (doFieldT g fr t x f).eval = doField g fr t x f := by
  unfold doFieldT doField
  cases h : fr.gev g x with
  | none => rfl
  | some v =>
    simp only [Option.bind_eq_bind, Option.bind_some]
    cases v with
    | agg cs =>
      cases h2 : g.P.underlying t with
      | none => rfl
      | some d =>
        cases d with
        | struct fields =>
          simp only
          cases h3 : fields[f]? with
          | none => rfl
          | some fd => exact readVarT_eval g _ _ _
        | _ => rfl
    | _ => rfl

def doIndexT (fr : Fr) (t : TypeId) (x ix : Operand) : DT (Option Value) :=
  match fr.gev g x, (fr.gev g ix).bind intV with
  | some v, some i => (match g.P.underlying t, v with
    | some (.array len elem), .agg cs => (match sizeOf? g elem with
      | some n => chkT (decide (0 ≤ i) && decide (i < len)) (readVarT g elem cs (i.toNat * n))
      | none => .leaf none)
    | some .string, .string b => chkT (decide (0 ≤ i)) (.node (b[i.toNat]?).isSome (.leaf (some (.int .u8 ((b[i.toNat]?).getD 0).toNat))) (.leaf none))
    | _, _ => .leaf none)
  | _, _ => .leaf none
theorem doIndexT_eval (fr : Fr) (t : TypeId) (x ix : Operand) : (doIndexT g fr t x ix).eval = doIndex g fr t x ix := by
  unfold doIndexT doIndex
  cases h : fr.gev g x with
  | none => rfl
  | some v =>
    simp only [Option.bind_eq_bind, Option.bind_some]
    cases h1 : fr.gev g ix with
    | none => rfl
    | some w =>
      simp only [Option.bind_some]
      cases h2 : intV w with
      | none => rfl
      | some i =>
        simp only [Option.bind_some]
        split
        · rename_i len elem cs e
          simp only [e]
          cases h3 : sizeOf? g elem with
          | none => rfl
          | some n => simp only [Option.bind_some]; exact eval_chkT (readVarT_eval g _ _ _)
        · rename_i b e
          simp only [e]
          refine eval_chkT ?_
          rw [DT.eval_node]
          cases b[i.toNat]? <;> rfl
        · rename_i n1 n2
          simp only [DT.eval_leaf]

def doIndexAddrT (fr : Fr) (t : TypeId) (x ix : Operand) : DT (Option Value) :=
  match fr.ev g x, (fr.gev g ix).bind intV with
  | some v, some i => (match g.P.underlying t, v with
    | some (.array len elem), .pointer (some a) => (match sizeOf? g elem with
      | some n => chkT (decide (0 ≤ i) && decide (i < len)) (.leaf (some (.pointer (some (moved a (i.toNat * n))))))
      | none => .leaf none)
    | some (.slice elem), .slice (some ⟨id, o, none⟩) len _ => (match sizeOf? g elem with
      | some n => chkT (decide (0 ≤ i) && decide (i < len)) (.leaf (some (.pointer (some ⟨id, o + i.toNat * n, none⟩))))
      | none => .leaf none)
    | _, _ => .leaf none)
  | _, _ => .leaf none
theorem doIndexAddrT_eval (fr : Fr) (t : TypeId) (x ix : Operand) : (doIndexAddrT g fr t x ix).eval = doIndexAddr g fr t x ix := by
  unfold doIndexAddrT doIndexAddr
  cases h : fr.ev g x with
  | none => rfl
  | some v =>
    simp only [Option.bind_eq_bind, Option.bind_some]
    cases h1 : fr.gev g ix with
    | none => rfl
    | some w =>
      simp only [Option.bind_some]
      cases h2 : intV w with
      | none => rfl
      | some i =>
        simp only [Option.bind_some]
        split
        · rename_i len elem a e
          simp only [e]
          cases h3 : sizeOf? g elem with
          | none => rfl
          | some n => exact chkT_eval _ _
        · rename_i elem id o len cp e
          simp only [e]
          cases h3 : sizeOf? g elem with
          | none => rfl
          | some n => exact chkT_eval _ _
        · rename_i n1 n2
          simp only [DT.eval_leaf]

def boundT {α : Type} (fr : Fr) (x : Option Operand) (other : Nat) (k : Nat → DT (Option α)) : DT (Option α) :=
  match x with
  | none => k other
  | some x => (match (fr.gev g x).bind intV with
    | some i => chkT (decide (0 ≤ i)) (k i.toNat)
    | none => .leaf none)
theorem boundT_eval {α : Type} (fr : Fr) (x : Option Operand) (other : Nat) (k : Nat → DT (Option α)) (K : Nat → Option α) (h : ∀ n, (k n).eval = K n) : (boundT g fr x other k).eval = (bound g fr x other).bind K := by
  unfold boundT bound
  cases x with
  | none => exact h _
  | some x =>
    simp only [Option.bind_eq_bind]
    cases h1 : fr.gev g x with
    | none => rfl
    | some w =>
      simp only [Option.bind_some]
      cases h2 : intV w with
      | none => rfl
      | some i =>
        simp only [Option.bind_some]
        rw [chkT_eval, h]
        cases decide (0 ≤ i) <;> rfl

def doSliceT (c : Ctx) (fr : Fr) (s : St) (t : TypeId) (x : Operand) (lo hi mx : Option Operand) : DT (Option (Value × St)) :=
  match fr.gev g x with
  | none => .leaf none
  | some v => match g.P.underlying t, v with
    | some (.slice elem), .slice (some ⟨id, o, none⟩) len cap =>
      (match sizeOf? g elem, mx with
      | some size, none => boundT g fr lo 0 fun l => boundT g fr hi len fun h =>
        chkT (decide (l ≤ h) && decide (h ≤ cap)) (.node (decide (l < cap)) (.leaf (some (.slice (some ⟨id, o + l * size, none⟩) (h - l) (cap - l), s)))
          (.leaf (match s.look c id with
            | some (.cells _ _ false) => some (.slice (some ⟨id, o, none⟩) 0 0, s)
            | _ => some (.slice (some ⟨s.next, 0, none⟩) 0 0, { s with next := s.next + 1 }))))
      | some size, some m => boundT g fr lo 0 fun l => boundT g fr hi len fun h => boundT g fr (some m) 0 fun m =>
        chkT (decide (l ≤ h) && decide (h ≤ m) && decide (m ≤ cap) && hi.isSome) (.node (decide (m = 0)) (.leaf (some (.slice (some ⟨s.next, 0, none⟩) 0 0, s.new (.cells #[] size false))))
          (.leaf (some (.slice (some ⟨s.next, 0, none⟩) (h - l) (m - l), { s with next := s.next + 1 }))))
      | none, _ => .leaf none)
    | _, _ => .leaf (doSlice g c fr s t x lo hi mx)
theorem doSliceT_eval (c : Ctx) (fr : Fr) (s : St) (t : TypeId) (x : Operand) (lo hi mx : Option Operand) : (doSliceT g c fr s t x lo hi mx).eval = doSlice g c fr s t x lo hi mx := by
  unfold doSliceT
  cases h : fr.gev g x with
  | none => unfold doSlice; rw [h]; rfl
  | some v =>
    simp only
    split
    · rename_i elem id o len cap e
      unfold doSlice
      rw [h]
      simp only [Option.bind_eq_bind, Option.bind_some, e]
      cases h3 : sizeOf? g elem with
      | none => rfl
      | some size =>
        simp only [Option.bind_some]
        cases mx with
        | none =>
          simp only
          refine boundT_eval g fr lo 0 _ _ fun l => ?_
          refine boundT_eval g fr hi len _ _ fun h => ?_
          refine eval_chkT ?_
          rw [DT.eval_node]
          by_cases hl : l < cap
          · simp [hl, DT.eval_leaf]
          · rw [decide_eq_false hl, if_neg hl]
            simp only [cond_false, DT.eval_leaf]
            generalize s.look c id = q
            cases q with
            | none => rfl
            | some ob =>
              cases ob with
              | cells cs sz sp => cases sp <;> rfl
              | _ => rfl
        | some m =>
          simp only
          refine boundT_eval g fr lo 0 _ _ fun l => ?_
          refine boundT_eval g fr hi len _ _ fun h => ?_
          refine boundT_eval g fr (some m) 0 _ _ fun m => ?_
          refine eval_chkT ?_
          rw [DT.eval_node]
          by_cases hl : m = 0
          · simp [hl, DT.eval_leaf]
          · rw [decide_eq_false hl, if_neg hl]; rfl
    · rfl

def writeT {α : Type} (c : Ctx) (s : St) (id o : Nat) (vs : List Value) (k : St → DT (Option α)) : DT (Option α) :=
  match s.look c id with
  | some (.cells cs sz sp) => chkT (c.wr id && decide (o + vs.length ≤ cs.size) && vs.all Value.oneCell') (k { s with heap := s.heap.put id (.cells (blit cs o vs) sz sp) })
  | _ => .leaf none
theorem writeT_eval {α : Type} (c : Ctx) (s : St) (id o : Nat) (vs : List Value) (k : St → DT (Option α)) (K : St → Option α) (h : ∀ s, (k s).eval = K s) : (writeT c s id o vs k).eval = (s.write c id o vs).bind K := by
  unfold writeT St.write
  cases s.look c id with
  | none => rfl
  | some ob =>
    cases ob with
    | cells cs sz sp =>
      simp only [Option.bind_eq_bind]
      rw [chkT_eval, h]
      generalize (c.wr id && decide (o + vs.length ≤ cs.size) && vs.all Value.oneCell') = b
      cases b <;> rfl
    | _ => rfl

def cellsT {α : Type} (c : Ctx) (s : St) (size n : Nat) (v : Value) (k : Array Value → DT (Option α)) : DT (Option α) :=
  match v with
  | .slice (some ⟨id, o, none⟩) l _ => (match s.rowAt c id with
    | some cs => chkT (decide (n ≤ l) && decide (o + n * size ≤ cs.size)) (k (cs.extract o (o + n * size)))
    | none => .leaf none)
  | .slice none l _ => chkT (n == 0 && l == 0) (k #[])
  | .string b => chkT (size == 1 && n == b.size) (k (b.data.map fun x => .int .u8 x.toNat))
  | _ => .leaf none
theorem cellsT_eval {α : Type} (c : Ctx) (s : St) (size n : Nat) (v : Value) (k : Array Value → DT (Option α)) (K : Array Value → Option α) (h : ∀ a, (k a).eval = K a) : (cellsT c s size n v k).eval = (cellsOf? c s size n v).bind K := by
  have key : ∀ (b : Bool) (a : Array Value), (chkT b (k a)).eval = ((chk b).bind fun _ => some a).bind K := fun b a => by rw [chkT_eval, h]; cases b <;> rfl
  unfold cellsT cellsOf?
  split
  · simp only [Option.bind_eq_bind]
    rename_i id o l cp
    cases s.rowAt c id with
    | none => rfl
    | some cs => exact key _ _
  · exact key _ _
  · exact key _ _
  · rename_i n1 n2 n3
    split
    · exact (n1 _ _ _ _ rfl).elim
    · exact (n2 _ _ rfl).elim
    · exact (n3 _ rfl).elim
    · rfl

def doAppendT (c : Ctx) (s : St) (argTypes : Array TypeId) (args : List Value) : DT (Option (Value × St)) :=
  match args with
  | [.slice base sl sc, x] => (match argTypes[0]?, argTypes[1]?, lenV x with
    | some st, some xt, some n => (match g.P.underlying st with
      | some (.slice elem) => (match g.P.info? elem with
        | some i => (match i.zero with
          | some zero =>
            chkT (decide (sl ≤ sc) && decide (sl + n ≤ nLim) && decide (i.bytes ≤ 4096) && decide (i.size ≠ 0) && decide (zero.cells.size = i.size) && plainN 8 zero &&
              (match g.P.underlying xt with | some (.int _) => false | some _ => true | none => false)) (.node (decide (n = 0)) (.leaf (some (.slice base sl sc, s)))
              (cellsT c s i.size n x fun new => chkT (new.toList.all Value.oneCell') (match base with
                | none => chkT (sl == 0 && sc == 0) (.leaf (some (.slice (some ⟨s.next, 0, none⟩) n n, s.new (.cells new i.size true))))
                | some ⟨id, o, none⟩ => (match s.look c id with
                  | some (.cells cs sz sp) => chkT (sz == i.size) (.node (decide (sl + n ≤ sc))
                      (writeT c s id (o + sl * i.size) new.toList fun s' => .leaf (some (.slice base (sl + n) sc, s')))
                      (chkT (decide (o + sl * i.size ≤ cs.size)) (.node sp
                        (chkT (c.wr id && sl == sc && o + sl * i.size == cs.size) (.leaf (some (.slice (some ⟨s.next, 0, none⟩) (sl + n) (sl + n), { s with heap := s.heap.set id none : St }.new (.cells (cs.extract o (o + sl * i.size) ++ new) i.size true)))))
                        (.leaf (some (.slice (some ⟨s.next, 0, none⟩) (sl + n) (sl + n), s.new (.cells (cs.extract o (o + sl * i.size) ++ new) i.size true)))))))
                  | _ => .leaf none)
                | _ => .leaf none)))
          | none => .leaf none)
        | none => .leaf none)
      | _ => .leaf none)
    | _, _, _ => .leaf none)
  | _ => .leaf none

theorem doAppendT_eval (c : Ctx) (s : St) (argTypes : Array TypeId) (args : List Value) : (doAppendT g c s argTypes args).eval = doAppend g c s argTypes args := by
  unfold doAppendT doAppend
  split
  · rename_i base sl sc x
    simp only [Option.bind_eq_bind]
    cases h0 : argTypes[0]? with
    | none => rfl
    | some st =>
      simp only [Option.bind_some]
      cases h1 : argTypes[1]? with
      | none => rfl
      | some xt =>
        simp only [Option.bind_some]
        cases h3 : g.P.underlying st with
        | none => cases lenV x <;> simp [*, DT.eval_leaf]
        | some d =>
          cases d with
          | slice elem =>
            simp only
            cases h4 : g.P.info? elem with
            | none => cases lenV x <;> simp [*, DT.eval_leaf]
            | some i =>
              simp only [Option.bind_some]
              cases h5 : i.zero with
              | none => cases lenV x <;> simp [*, DT.eval_leaf]
              | some zero =>
                simp only [Option.bind_some]
                cases h2 : lenV x with
                | none => rfl
                | some n =>
                  simp only [Option.bind_some, h3, h4, h5]
                  refine eval_chkT ?_
                  rw [DT.eval_node]
                  by_cases hn : n = 0
                  · simp [hn, DT.eval_leaf]
                  · rw [decide_eq_false hn, if_neg hn]
                    simp only [cond_false]
                    refine cellsT_eval c s i.size n x _ _ fun new => ?_
                    refine eval_chkT ?_
                    split
                    · rename_i e
                      exact chkT_eval _ _
                    · rename_i _ id o
                      simp only
                      cases h6 : s.look c id with
                      | none => rfl
                      | some ob =>
                        cases ob with
                        | cells cs sz sp =>
                          simp only
                          refine eval_chkT ?_
                          rw [DT.eval_node]
                          by_cases hc : sl + n ≤ sc
                          · rw [decide_eq_true hc, if_pos hc]
                            exact writeT_eval c s id _ _ _ _ fun s' => rfl
                          · rw [decide_eq_false hc, if_neg hc]
                            simp only [cond_false]
                            refine eval_chkT ?_
                            rw [DT.eval_node]
                            cases sp with
                            | true => simp only [cond_true, if_true]; exact chkT_eval _ _
                            | false => rfl
                        | _ => rfl
                    · rename_i n1 n2
                      split
                      · exact (n1 rfl).elim
                      · exact (n2 _ _ rfl).elim
                      · rfl
          | _ => cases lenV x <;> simp [*, DT.eval_leaf]
  · rename_i hne
    simp only [DT.eval_leaf]
    split
    · rename_i v x
      simp only [Option.bind_eq_bind]
      cases argTypes[0]? with
      | none => rfl
      | some st =>
        cases argTypes[1]? with
        | none => rfl
        | some xt =>
          simp only [Option.bind_some]
          split
          · exact (hne _ _ _ _ rfl).elim
          · rfl
    · rfl

def newT {α : Type} (c : Ctx) (s : St) (size n : Nat) (x : Value) (k : Array Value → DT (Option α)) : DT (Option α) :=
  match x with
  | .string b => k ((b.extract 0 n).data.map fun x => Value.int .u8 x.toNat)
  | x => cellsT c s size n x k

def doCopyT (c : Ctx) (s : St) (argTypes : Array TypeId) (args : List Value) : DT (Option (Value × St)) :=
  match args with
  | [.slice base dl _, x] => (match argTypes[0]?, lenV x with
    | some st, some m => (match g.P.underlying st with
      | some (.slice elem) => (match sizeOf? g elem with
        | some size => .node (decide (Nat.min m dl = 0)) (.leaf (some (.int .i64 0, s)))
          (newT c s size (Nat.min m dl) x fun new => (match base with
            | some ⟨id, o, none⟩ => chkT (new.size == Nat.min m dl * size) (writeT c s id o new.toList fun s' => .leaf (some (.int .i64 (Nat.min m dl), s')))
            | _ => .leaf none))
        | none => .leaf none)
      | _ => .leaf none)
    | _, _ => .leaf none)
  | _ => .leaf none

theorem doCopyT_eval (c : Ctx) (s : St) (argTypes : Array TypeId) (args : List Value) : (doCopyT g c s argTypes args).eval = doCopy g c s argTypes args := by
  unfold doCopyT doCopy
  split
  · rename_i base dl cp x
    simp only [Option.bind_eq_bind]
    cases h0 : argTypes[0]? with
    | none => rfl
    | some st =>
      simp only [Option.bind_some]
      cases h3 : g.P.underlying st with
      | none => cases lenV x <;> simp [*, DT.eval_leaf]
      | some d =>
        cases d with
        | slice elem =>
          simp only
          cases h4 : sizeOf? g elem with
          | none => cases lenV x <;> simp [*, DT.eval_leaf]
          | some size =>
            simp only [Option.bind_some]
            cases h2 : lenV x with
            | none => rfl
            | some m =>
              simp only [Option.bind_some, h3, h4]
              rw [DT.eval_node]
              by_cases hn : Nat.min m dl = 0
              · simp [hn, DT.eval_leaf]
              · rw [decide_eq_false hn, if_neg hn]
                simp only [cond_false]
                have key : ∀ new : Array Value, (match (motive := Option Addr → DT (Option (Value × St))) base with
                    | some ⟨id, o, none⟩ => chkT (new.size == Nat.min m dl * size) (writeT c s id o new.toList fun s' => .leaf (some (.int .i64 (Nat.min m dl), s')))
                    | _ => .leaf none).eval = (match base with
                    | some ⟨id, o, none⟩ => (chk (new.size == Nat.min m dl * size)).bind fun _ => (s.write c id o new.toList).bind fun s' => some (.int .i64 (Nat.min m dl), s')
                    | _ => none) := fun new => by
                  split
                  · exact eval_chkT (writeT_eval c s _ _ _ _ _ fun s' => rfl)
                  · rfl
                unfold newT
                cases x <;> first | exact key _ | exact cellsT_eval c s size _ _ _ _ key
        | _ => cases lenV x <;> simp [*, DT.eval_leaf]
  · rename_i hne
    simp only [DT.eval_leaf]
    split
    · rename_i v x
      simp only [Option.bind_eq_bind]
      cases argTypes[0]? with
      | none => rfl
      | some st =>
        simp only [Option.bind_some]
        split
        · exact (hne _ _ _ _ rfl).elim
        · rfl
    · rfl

def doClearT (c : Ctx) (s : St) (argTypes : Array TypeId) (args : List Value) : DT (Option (Value × St)) :=
  match args with
  | [.slice (some ⟨id, o, none⟩) n cp] => (match argTypes[0]? with
    | some t => (match g.P.underlying t with
      | some (.slice elem) => .node (decide (n = 0)) (.leaf (some (.tuple #[], s))) (match g.P.info? elem with
        | some i => (match i.zero with
          | some zero => chkT (plainN 8 zero && decide (zero.cells.size = i.size)) (writeT c s id o (Builtin.zeroCells zero.cells n).toList fun s' => .leaf (some (.tuple #[], s')))
          | none => .leaf none)
        | none => .leaf none)
      | _ => .leaf none)
    | none => .leaf none)
  | _ => .leaf (doClear g c s argTypes args)

theorem doClearT_eval (c : Ctx) (s : St) (argTypes : Array TypeId) (args : List Value) : (doClearT g c s argTypes args).eval = doClear g c s argTypes args := by
  unfold doClearT
  split
  · rename_i id o n cp
    unfold doClear
    simp only [Option.bind_eq_bind]
    cases h0 : argTypes[0]? with
    | none => rfl
    | some t =>
      simp only [Option.bind_some]
      cases h3 : g.P.underlying t with
      | none => rfl
      | some d =>
        cases d with
        | slice elem =>
          simp only
          rw [DT.eval_node]
          by_cases hn : n = 0
          · subst hn; rfl
          · rw [decide_eq_false hn]
            simp only [cond_false]
            cases h4 : g.P.info? elem with
            | none => rfl
            | some i =>
              simp only [Option.bind_some]
              cases h5 : i.zero with
              | none => rfl
              | some zero =>
                simp only [Option.bind_some]
                exact eval_chkT (writeT_eval c s _ _ _ _ _ fun s' => rfl)
        | _ => rfl
  · rfl

/-- Whole numbers divided. -/
def divT (fr : Fr) (o : Oper) : DT (Option Value) :=
  match o.op with
  | .binOp .quo _ x y _ => (match fr.ev g x, fr.ev g y with
    | some (.int k n), some (.int k' m) => .node (decide (m = 0)) (.leaf none) (.node (decide (k = k')) (.leaf (some (.int k (k.wrap (n.tdiv m))))) (.leaf (quietOp g fr o)))
    | _, _ => .leaf (quietOp g fr o))
  | .binOp .rem _ x y _ => (match fr.ev g x, fr.ev g y with
    | some (.int k n), some (.int k' m) => .node (decide (m = 0)) (.leaf none) (.node (decide (k = k')) (.leaf (some (.int k (n.tmod m)))) (.leaf (quietOp g fr o)))
    | _, _ => .leaf (quietOp g fr o))
  | _ => .leaf (quietOp g fr o)

theorem gev_int {fr : Fr} {x : Operand} {k : IntKind} {n : Int} (h : fr.ev g x = some (.int k n)) : fr.gev g x = some (.int k n) := by
  unfold Fr.gev
  rw [h]
  rfl

theorem divT_eval (fr : Fr) (o : Oper) : (divT g fr o).eval = quietOp g fr o := by
  obtain ⟨d, op, ty, pos, af, gd⟩ := o
  unfold divT
  split
  · rename_i t x y t' ho
    simp only at ho
    subst ho
    split
    · rename_i k n k' m hx hy
      rw [DT.eval_node, DT.eval_node]
      by_cases hm : m = 0
      · subst hm
        rw [decide_eq_true rfl]
        simp only [cond_true, DT.eval_leaf]
        unfold quietOp
        have e1 : evL g fr (Op.operands (.binOp .quo t x y t')).toList = some [.int k n, .int k' 0] := by
          show (do let v ← fr.gev g x; let vs ← (do let v ← fr.gev g y; let vs ← some []; pure (v :: vs)); pure (v :: vs)) = _
          rw [gev_int g hx, gev_int g hy]; rfl
        rw [e1]
        have e2 : purely g.P (execOp (fun x => (fr.ev g x).getD undef) { dst := d, op := .binOp .quo t x y t', type := ty, pos := pos, after := af, guard := gd }) = none := by
          simp only [execOp, hx, hy, Option.getD_some, binOp, Op.intDiv, if_true]
          by_cases hk : k = k'
          · simp only [hk, ne_eq, not_true_eq_false, if_false]; rfl
          · simp only [hk, ne_eq, not_false_eq_true, if_true]; rfl
        simp only [Option.bind_eq_bind, Option.bind_some, e2]
        rfl
      · by_cases hk : k = k'
        · subst hk
          rw [decide_eq_false hm, decide_eq_true rfl]
          simp only [cond_true, cond_false, DT.eval_leaf]
          unfold quietOp
          have e1 : evL g fr (Op.operands (.binOp .quo t x y t')).toList = some [.int k n, .int k m] := by
            show (do let v ← fr.gev g x; let vs ← (do let v ← fr.gev g y; let vs ← some []; pure (v :: vs)); pure (v :: vs)) = _
            rw [gev_int g hx, gev_int g hy]; rfl
          rw [e1]
          have e2 : purely g.P (execOp (fun x => (fr.ev g x).getD undef) { dst := d, op := .binOp .quo t x y t', type := ty, pos := pos, after := af, guard := gd }) = some (.value (.int k (k.wrap (n.tdiv m)))) := by
            simp only [execOp, hx, hy, Option.getD_some, binOp, Op.intDiv, if_neg hm, ne_eq, not_true_eq_false, if_false]
            rfl
          simp only [Option.bind_eq_bind, Option.bind_some, e2]
          rfl
        · simp [hk, hm, DT.eval_leaf]
    · rfl
  · rename_i t x y t' ho
    simp only at ho
    subst ho
    split
    · rename_i k n k' m hx hy
      rw [DT.eval_node, DT.eval_node]
      by_cases hm : m = 0
      · subst hm
        rw [decide_eq_true rfl]
        simp only [cond_true, DT.eval_leaf]
        unfold quietOp
        have e1 : evL g fr (Op.operands (.binOp .rem t x y t')).toList = some [.int k n, .int k' 0] := by
          show (do let v ← fr.gev g x; let vs ← (do let v ← fr.gev g y; let vs ← some []; pure (v :: vs)); pure (v :: vs)) = _
          rw [gev_int g hx, gev_int g hy]; rfl
        rw [e1]
        have e2 : purely g.P (execOp (fun x => (fr.ev g x).getD undef) { dst := d, op := .binOp .rem t x y t', type := ty, pos := pos, after := af, guard := gd }) = none := by
          simp only [execOp, hx, hy, Option.getD_some, binOp, Op.intDiv, if_true]
          by_cases hk : k = k'
          · simp only [hk, ne_eq, not_true_eq_false, if_false]; rfl
          · simp only [hk, ne_eq, not_false_eq_true, if_true]; rfl
        simp only [Option.bind_eq_bind, Option.bind_some, e2]
        rfl
      · by_cases hk : k = k'
        · subst hk
          rw [decide_eq_false hm, decide_eq_true rfl]
          simp only [cond_true, cond_false, DT.eval_leaf]
          unfold quietOp
          have e1 : evL g fr (Op.operands (.binOp .rem t x y t')).toList = some [.int k n, .int k m] := by
            show (do let v ← fr.gev g x; let vs ← (do let v ← fr.gev g y; let vs ← some []; pure (v :: vs)); pure (v :: vs)) = _
            rw [gev_int g hx, gev_int g hy]; rfl
          rw [e1]
          have e2 : purely g.P (execOp (fun x => (fr.ev g x).getD undef) { dst := d, op := .binOp .rem t x y t', type := ty, pos := pos, after := af, guard := gd }) = some (.value (.int k (n.tmod m))) := by
            simp only [execOp, hx, hy, Option.getD_some, binOp, Op.intDiv, if_neg hm, ne_eq, not_true_eq_false, if_false]
            rfl
          simp only [Option.bind_eq_bind, Option.bind_some, e2]
          rfl
        · simp [hk, hm, DT.eval_leaf]
    · rfl
  · rfl
end
end
end Go.Am
