/- Arrays of four numbers, compared. -/
import Derived.Test.YtmpokdnpkjcnbaaDoorAmOps
import Derived.Test.YtmpokdnpkjcnbaaDoorAmLaw
namespace Go.Am
open Go
noncomputable section
theorem purely_bd {P : Program} {α β : Type} (x : Sem α) (f : α → Sem β) : purely P (x >>= f) = (purely P x).bind fun y => purely P (f y) := by
  show purely P (x.bind f) = _
  cases h : purely P x with
  | some y => rw [purely_bind_mk _ _ h]; rfl
  | none =>
    cases h2 : purely P (x.bind f) with
    | none => rfl
    | some b => obtain ⟨y, hy, _⟩ := purely_bind _ _ h2; rw [h] at hy; cases hy
theorem purely_pure {P : Program} {α : Type} (a : α) : purely P (pure a : Sem α) = some a := rfl
theorem purely_under {P : Program} {t : TypeId} {d : TypeDesc} (h : P.underlying t = some d) : purely P (underlying t) = some d := by
  show purely P (match P.underlying t with | some d => pure d | none => _) = _
  rw [h]; rfl
theorem purely_info {P : Program} {t : TypeId} {i : TypeInfo} (h : P.info? t = some i) : purely P (typeInfo t) = some i := by
  show purely P (match P.info? t with | some d => pure d | none => _) = _
  rw [h]; rfl
theorem purely_size {P : Program} {t : TypeId} {i : TypeInfo} (h : P.info? t = some i) : purely P (sizeOf t) = some i.size := by
  unfold sizeOf
  rw [purely_bd, purely_info h]; rfl
theorem purely_part {P : Program} {t : TypeId} {k : IntKind} (h : P.underlying t = some (.int k)) (cs : Array Value) (off : Nat) {v : Value} (hv : cs[off]? = some v) : purely P (part t cs off) = some v := by
  unfold part isAgg
  simp only [purely_bd, purely_under h, purely_pure, Option.bind_some, Bool.false_eq_true, if_false, hv]
theorem purely_eqInt {P : Program} {t : TypeId} {k : IntKind} (h : P.underlying t = some (.int k)) (d : Nat) (k' : IntKind) (a b : Int) : purely P (Op.equalIn (d + 1) t (.int k' a) (.int k' b)) = some (a == b) := by
  unfold Op.equalIn
  simp only [purely_bd, purely_under h, Option.bind_some, if_true, purely_pure]
/-- four numbers each, of one kind -/
def eq4 (P : Program) (t : TypeId) : List Value → List Value → Option Bool
  | [.int k1 a, .int k2 b, .int k3 c, .int k4 d], [.int l1 e, .int l2 f, .int l3 g, .int l4 h] =>
    match P.underlying t with
    | some (.array 4 el) =>
      match P.underlying el, P.info? el with
      | some (.int _), some i =>
        if i.size = 1 ∧ k1 = l1 ∧ k2 = l2 ∧ k3 = l3 ∧ k4 = l4 ∧ P.eqGuardType P.depth t = false then some (a == e && b == f && c == g && d == h) else none
      | _, _ => none
    | _ => none
  | _, _ => none
theorem eq4_ok {P : Program} {t : TypeId} {xs ys : List Value} {r : Bool} (h : eq4 P t xs ys = some r) : purely P (Op.equal t (.agg ⟨xs⟩) (.agg ⟨ys⟩)) = some r ∧ P.eqGuardType P.depth t = false := by
  unfold eq4 at h
  split at h
  · rename_i k1 a k2 b k3 c k4 d l1 e l2 f l3 g l4 y
    split at h
    · rename_i el hu
      split at h
      · rename_i k i hk hi
        split at h
        · rename_i hc
          obtain ⟨hs, rfl, rfl, rfl, rfl, hg⟩ := hc
          cases h
          refine ⟨?_, hg⟩
          show purely P (Op.equalIn (9998 + 1 + 1) t _ _) = _
          unfold Op.equalIn
          simp only [purely_bd, purely_under hu, Option.bind_some, purely_size hi, hs, Std.Legacy.Range.forIn_eq_forIn_range', Std.Legacy.Range.size]
          simp only [List.range', List.forIn_cons, List.forIn_nil, Nat.sub_zero, Nat.reduceAdd, Nat.reduceDiv, Nat.reduceSub, Nat.reduceMul, Nat.zero_add, purely_bd, purely_pure, Option.bind_some, Nat.mul_one]
          have e9 : ∀ k' a b, purely P (Op.equalIn 9999 el (.int k' a) (.int k' b)) = some (a == b) := fun k' a b => purely_eqInt hk 9998 k' a b
          have p0 : ∀ u v w z : Value, purely P (part el ⟨[u, v, w, z]⟩ 0) = some u := fun _ _ _ _ => purely_part hk _ _ rfl
          have p1 : ∀ u v w z : Value, purely P (part el ⟨[u, v, w, z]⟩ 1) = some v := fun _ _ _ _ => purely_part hk _ _ rfl
          have p2 : ∀ u v w z : Value, purely P (part el ⟨[u, v, w, z]⟩ 2) = some w := fun _ _ _ _ => purely_part hk _ _ rfl
          have p3 : ∀ u v w z : Value, purely P (part el ⟨[u, v, w, z]⟩ 3) = some z := fun _ _ _ _ => purely_part hk _ _ rfl
          simp only [p0, e9, Option.bind_some]
          cases h1 : a == e <;> simp only [p1, e9, purely_bd, purely_pure, Option.bind_some, Bool.not_true, Bool.not_false, Bool.false_eq_true, if_true, if_false, Bool.false_and, Bool.true_and]
          cases h2 : b == f <;> simp only [p2, e9, purely_bd, purely_pure, Option.bind_some, Bool.not_true, Bool.not_false, Bool.false_eq_true, if_true, if_false, Bool.false_and, Bool.true_and]
          cases h3 : c == g <;> simp only [p3, e9, purely_bd, purely_pure, Option.bind_some, Bool.not_true, Bool.not_false, Bool.false_eq_true, if_true, if_false, Bool.false_and, Bool.true_and]
          cases h4 : d == y <;> simp only [purely_bd, purely_pure, Option.bind_some, Bool.not_true, Bool.not_false, Bool.false_eq_true, if_true, if_false, Bool.false_and, Bool.true_and]
        · cases h
      · cases h
    · cases h
  · cases h
end
end Go.Am

/- Operations on arrays, lengths, and numbers that are not known: what has to be decided is laid out in the tree. -/
namespace Go.Am
noncomputable section

inductive DT (α : Type) where
  | leaf (a : α)
  | node (c : Bool) (t f : DT α)
  /-- a node of which one side alone is looked at, mostly -/
  | must (c : Bool) (t f : DT α)

def DT.eval {α : Type} (x : DT α) : α := DT.rec (motive := fun _ => α) (fun a => a) (fun c _ _ t f => cond c t f) (fun c _ _ t f => cond c t f) x
def DT.bind {α β : Type} (x : DT α) (k : α → DT β) : DT β := DT.rec (motive := fun _ => DT β) k (fun c _ _ t f => .node c t f) (fun c _ _ t f => .must c t f) x
theorem DT.eval_leaf {α : Type} (a : α) : (DT.leaf a).eval = a := rfl
theorem DT.eval_node {α : Type} (c : Bool) (t f : DT α) : (DT.node c t f).eval = cond c t.eval f.eval := rfl
theorem DT.bind_leaf {α β : Type} (a : α) (k : α → DT β) : (DT.leaf a).bind k = k a := rfl
theorem DT.eval_must {α : Type} (c : Bool) (t f : DT α) : (DT.must c t f).eval = cond c t.eval f.eval := rfl
theorem DT.bind_must {α β : Type} (c : Bool) (t f : DT α) (k : α → DT β) : (DT.must c t f).bind k = .must c (t.bind k) (f.bind k) := rfl
theorem DT.bind_node {α β : Type} (c : Bool) (t f : DT α) (k : α → DT β) : (DT.node c t f).bind k = .node c (t.bind k) (f.bind k) := rfl
theorem DT.eval_bind {α β : Type} (x : DT α) (k : α → DT β) : (x.bind k).eval = (k x.eval).eval := by
  induction x with
  | leaf a => rfl
  | node c t f it jf => cases c <;> simp [DT.bind_node, DT.eval_node, it, jf]
  | must c t f it jf => cases c <;> simp [DT.bind_must, DT.eval_must, it, jf]
/-- Go on where there is something. -/
def DT.andThen {α β : Type} (x : DT (Option α)) (k : α → DT (Option β)) : DT (Option β) := x.bind fun o => match o with | some a => k a | none => .leaf none
theorem DT.eval_andThen {α β : Type} (x : DT (Option α)) (k : α → DT (Option β)) (K : α → Option β) (h : ∀ a, (k a).eval = K a) : (x.andThen k).eval = x.eval.bind K := by
  unfold DT.andThen
  rw [DT.eval_bind]
  cases x.eval with
  | none => rfl
  | some a => exact h a
def DT.map {α β : Type} (f : α → β) (x : DT α) : DT β := x.bind fun a => .leaf (f a)
theorem DT.eval_map {α β : Type} (f : α → β) (x : DT α) : (x.map f).eval = f x.eval := by unfold DT.map; rw [DT.eval_bind]; rfl

def chkT {α : Type} (b : Bool) (x : DT (Option α)) : DT (Option α) := .node b x (.leaf none)
theorem chkT_eval {α : Type} (b : Bool) (x : DT (Option α)) : (chkT b x).eval = (chk b).bind fun _ => x.eval := by cases b <;> rfl
theorem eval_chkT {α : Type} {b : Bool} {x : DT (Option α)} {y : Option α} (h : x.eval = y) : (chkT b x).eval = (chk b).bind fun _ => y := by rw [chkT_eval, h]

/-! ### Values out of rows that are not known -/
def isI (k : IntKind) : Option Value → Bool
  | some (.int k' _) => decide (k' = k)
  | _ => false
def toI : Option Value → Int
  | some (.int _ n) => n
  | _ => 0
def isStr : Option Value → Bool
  | some (.string _) => true
  | _ => false
def toStr : Option Value → ByteArray
  | some (.string b) => b
  | _ => ⟨#[]⟩
def isB : Option Value → Bool
  | some (.bool _) => true
  | _ => false
def toB : Option Value → Bool
  | some (.bool b) => b
  | _ => false
/-- A slice of a row that is never written? -/
def isV : Option Value → Bool
  | some v => isVS v
  | none => false
def vX : Option Value → Array Value
  | some (.func (.method _) X ⟨[.slice none _ _]⟩) => X
  | _ => #[]
def vO : Option Value → Nat
  | some (.func (.method _) _ ⟨[.slice none o _]⟩) => o
  | _ => 0
def vL : Option Value → Nat
  | some (.func (.method _) _ ⟨[.slice none _ l]⟩) => l
  | _ => 0
theorem isV_eq {r : Option Value} (h : isV r = true) : r = some (.func (.method "") (vX r) #[.slice none (vO r) (vL r)]) := by
  cases r with
  | none => cases h
  | some v =>
    simp only [isV] at h
    unfold isVS at h
    split at h
    · simp only [decide_eq_true_eq] at h
      subst h; rfl
    · cases h
def typedT (d : Option TypeDesc) (r : Option Value) : DT (Option Value) :=
  match d with
  | some (.slice _) => .must (isV r) (.leaf (some (.func (.method "") (vX r) #[.slice none (vO r) (vL r)]))) (.leaf r)
  | some (.int k) => .node (isI k r) (.leaf (some (.int k (toI r)))) (.leaf none)
  | some .string => .node (isStr r) (.leaf (some (.string (toStr r)))) (.leaf none)
  | some .bool => .node (isB r) (.leaf (some (.bool (toB r)))) (.leaf none)
  | _ => .leaf r
theorem typedT_eval (d : Option TypeDesc) (r : Option Value) : (typedT d r).eval = (match r with | some v => cond (tyOk d v) (some v) none | none => none) := by
  unfold typedT
  split
  · rw [DT.eval_must]
    have e : ∀ v, tyOk (some (.slice ‹_›)) v = true := fun v => rfl
    cases h : isV r with
    | true =>
      rw [cond_true, DT.eval_leaf]
      have := isV_eq h
      generalize hv : some (Value.func (.method "") (vX r) #[.slice none (vO r) (vL r)]) = q at *
      subst this
      cases r with
      | none => rfl
      | some v => rfl
    | false =>
      rw [cond_false, DT.eval_leaf]
      cases r with
      | none => rfl
      | some v => rfl
  · rename_i k
    rw [DT.eval_node]
    cases r with
    | none => rfl
    | some v =>
      cases v with
      | int k' n =>
        by_cases e : k' = k
        · subst e; simp [isI, toI, tyOk, DT.eval_leaf]
        · simp [isI, tyOk, e, DT.eval_leaf]
      | _ => rfl
  · rw [DT.eval_node]
    cases r with
    | none => rfl
    | some v => cases v <;> rfl
  · rw [DT.eval_node]
    cases r with
    | none => rfl
    | some v => cases v <;> rfl
  · rename_i h0 h1 h2 h3
    rw [DT.eval_leaf]
    cases r with
    | none => rfl
    | some v =>
      have : tyOk d v = true := by
        unfold tyOk
        split
        · exact (h1 _ rfl).elim
        · exact (h1 _ rfl).elim
        · exact (h2 rfl).elim
        · exact (h2 rfl).elim
        · exact (h3 rfl).elim
        · exact (h3 rfl).elim
        · rfl
      simp [this]

/-! ### Structs, cell by cell -/
inductive CK where
  | int (k : IntKind)
  | str
  | bool
  | sl
  | other
def ckOk : CK → Option Value → Bool
  | .int k, r => isI k r
  | .str, r => isStr r
  | .bool, r => isB r
  | .sl, r => isV r
  | .other, r => r.isSome
def ckV : CK → Option Value → Value
  | .int k, r => .int k (toI r)
  | .str, r => .string (toStr r)
  | .bool, r => .bool (toB r)
  | .sl, r => .func (.method "") (vX r) #[.slice none (vO r) (vL r)]
  | .other, r => r.getD undef
theorem ckV_eq {k : CK} {r : Option Value} (h : ckOk k r = true) : r = some (ckV k r) := by
  cases k with
  | int k =>
    cases r with
    | none => cases h
    | some v =>
      cases v with
      | int k' n => simp only [ckOk, isI, decide_eq_true_eq] at h; subst h; rfl
      | _ => cases h
  | str =>
    cases r with
    | none => cases h
    | some v => cases v <;> first | rfl | cases h
  | bool =>
    cases r with
    | none => cases h
    | some v => cases v <;> first | rfl | cases h
  | sl => exact isV_eq h
  | other => cases r with | none => cases h | some v => rfl
def cellsOk (cs : Array Value) : List CK → Nat → Bool
  | [], _ => true
  | k :: r, o => ckOk k cs[o]? && cellsOk cs r (o + 1)
def cellsV (cs : Array Value) : List CK → Nat → List Value
  | [], _ => []
  | k :: r, o => ckV k cs[o]? :: cellsV cs r (o + 1)
theorem cellsV_eq (cs : Array Value) : ∀ (l : List CK) (o : Nat), cellsOk cs l o = true → cs.extract o (o + l.length) = ⟨cellsV cs l o⟩ := by
  intro l
  induction l with
  | nil =>
    intro o _
    apply Array.eq_empty_of_size_eq_zero
    simp; omega
  | cons k r ih =>
    intro o h
    simp only [cellsOk, Bool.and_eq_true] at h
    have h1 := ckV_eq h.1
    have h2 := ih (o + 1) h.2
    obtain ⟨hlt, he⟩ := Array.getElem?_eq_some_iff.1 h1
    apply Array.ext'
    have h2' := congrArg Array.toList h2
    simp only [cellsV]
    rw [Array.toList_extract, List.extract_eq_take_drop] at h2' ⊢
    rw [show o + (k :: r).length - o = r.length + 1 by simp]
    rw [show o + 1 + r.length - (o + 1) = r.length by omega] at h2'
    rw [List.drop_eq_getElem_cons (by simpa using hlt), List.take_succ_cons, h2']
    congr 1

section
variable (g : Cfg)

def flatL (f : TypeId → Option (List CK)) : List TypeId → Option (List CK)
  | [] => some []
  | t :: r => match f t, flatL f r with
    | some a, some b => some (a ++ b)
    | _, _ => none
def flatT : Nat → TypeId → Option (List CK)
  | 0, _ => none
  | n + 1, t => match g.P.underlying t with
    | some (.int k) => some [.int k]
    | some .string => some [.str]
    | some .bool => some [.bool]
    | some (.slice _) => some [.sl]
    | some (.struct fs) => flatL (flatT n) (fs.toList.map (·.type))
    | some (.array len e) => flatL (flatT n) (List.replicate len e)
    | some _ => some [.other]
    | none => none

def readVarT (t : TypeId) (cs : Array Value) (o : Nat) : DT (Option Value) :=
  match aggT g t with
  | some true => (match sizeOf? g t with
    | some n => chkT (decide (o + n ≤ cs.size)) (match flatT g 6 t with
      | some l => cond (Nat.beq l.length n) (.must (cellsOk cs l o) (.leaf (some (.agg ⟨cellsV cs l o⟩))) (.leaf (some (.agg (cs.extract o (o + n)))))) (.leaf (some (.agg (cs.extract o (o + n)))))
      | none => .leaf (some (.agg (cs.extract o (o + n)))))
    | none => .leaf none)
  | some false => typedT (g.P.underlying t) cs[o]?
  | none => .leaf none
theorem readVarT_eval (t : TypeId) (cs : Array Value) (o : Nat) : (readVarT g t cs o).eval = readVar g t cs o := by
  unfold readVarT readVar readVar0
  cases h : aggT g t with
  | none => rfl
  | some b =>
    cases b with
    | true =>
      have hty : ∀ v, tyOk (g.P.underlying t) v = true := fun v => by
        unfold aggT at h
        unfold tyOk
        split at h
        · rename_i e; rw [e]
        · rename_i e; rw [e]
        · cases h
        · cases h
      cases h2 : sizeOf? g t with
      | none => rfl
      | some n =>
        simp only
        rw [chkT_eval]
        have key : ∀ x : DT (Option Value), x = (match flatT g 6 t with
            | some l => cond (Nat.beq l.length n) (.must (cellsOk cs l o) (.leaf (some (.agg ⟨cellsV cs l o⟩))) (.leaf (some (.agg (cs.extract o (o + n)))))) (.leaf (some (.agg (cs.extract o (o + n)))))
            | none => .leaf (some (.agg (cs.extract o (o + n))))) → x.eval = some (.agg (cs.extract o (o + n))) := by
          intro x hx
          rw [hx]
          split
          · rename_i l _
            rw [cond_beq]
            split
            · rename_i hl
              rw [DT.eval_must]
              cases hc : cellsOk cs l o with
              | true => rw [cond_true, DT.eval_leaf, ← cellsV_eq cs l o hc, hl]
              | false => rfl
            · rfl
          · rfl
        rw [key _ rfl]
        by_cases hle : o + n ≤ cs.size <;> simp [chk, hty, hle]
    | false =>
      simp only [Bool.false_eq_true, if_false, Option.bind_eq_bind, Option.bind_some]
      exact typedT_eval _ _

/-- Out of a row of the heap: a slice comes as it stands. -/
def readVarH (t : TypeId) (cs : Array Value) (o : Nat) : DT (Option Value) :=
  match g.P.underlying t with
  | some (.slice _) => .leaf cs[o]?
  | _ => readVarT g t cs o
theorem readVarH_eval (t : TypeId) (cs : Array Value) (o : Nat) : (readVarH g t cs o).eval = readVar g t cs o := by
  unfold readVarH
  split
  · rename_i e h
    have ha : aggT g t = some false := by unfold aggT; rw [h]
    have hty : ∀ v, tyOk (g.P.underlying t) v = true := fun v => by rw [h]; rfl
    unfold readVar readVar0
    simp only [ha, Option.bind_eq_bind, Option.bind_some, Bool.false_eq_true, if_false, hty, cond_true, DT.eval_leaf]
    cases cs[o]? <;> rfl
  · exact readVarT_eval g t cs o
def doLoadT (c : Ctx) (fr : Fr) (s : St) (t : TypeId) (x : Operand) : DT (Option Value) :=
  match fr.ev g x with
  | some (.pointer (some a)) => (match rowOf c fr.loc s a with
    | some cs => readVarH g t cs a.off
    | none => .leaf none)
  | some (.func (.methodOf _ _) X ⟨[.slice none o _]⟩) => readVarT g t X o
  | _ => .leaf none
theorem doLoadT_eval (c : Ctx) (fr : Fr) (s : St) (t : TypeId) (x : Operand) : (doLoadT g c fr s t x).eval = doLoad g c fr s t x := by
  unfold doLoadT doLoad
  cases h : fr.ev g x with
  | none => rfl
  | some v =>
    simp only [Option.bind_eq_bind, Option.bind_some]
    split
    · rename_i a e
      cases e
      simp only
      cases h2 : rowOf c fr.loc s a with
      | none => rfl
      | some cs => exact readVarH_eval g t cs a.off
    · rename_i e
      cases e
      exact readVarT_eval g _ _ _
    · rename_i n1 n2
      split
      · exact (n1 _ rfl).elim
      · exact (n2 _ _ _ _ _ rfl).elim
      · rfl

def doFieldT (fr : Fr) (t : TypeId) (x : Operand) (f : Nat) : DT (Option Value) :=
  match fr.gev g x, g.P.underlying t with
  | some (.agg cs), some (.struct fields) => (match fields[f]? with
    | some fd => readVarT g fd.type cs fd.offset
    | none => .leaf none)
  | _, _ => .leaf none
theorem doFieldT_eval (fr : Fr) (t : TypeId) (x : Operand) (f : Nat) : (doFieldT g fr t x f).eval = doField g fr t x f := by
  unfold doFieldT doField
  cases h : fr.gev g x with
  | none => rfl
  | some v =>
    simp only [Option.bind_eq_bind, Option.bind_some]
    cases v with
    | agg cs =>
      cases h2 : g.P.underlying t with
      | none => rfl
      | some d =>
        cases d with
        | struct fields =>
          simp only
          cases h3 : fields[f]? with
          | none => rfl
          | some fd => exact readVarT_eval g _ _ _
        | _ => rfl
    | _ => rfl

def doIndexT (fr : Fr) (t : TypeId) (x ix : Operand) : DT (Option Value) :=
  match fr.gev g x, (fr.gev g ix).bind intV with
  | some v, some i => (match g.P.underlying t, v with
    | some (.array len elem), .agg cs => (match sizeOf? g elem with
      | some n => chkT (decide (0 ≤ i) && decide (i < len)) (readVarT g elem cs (i.toNat * n))
      | none => .leaf none)
    | some .string, .string b => chkT (decide (0 ≤ i)) (.node (b[i.toNat]?).isSome (.leaf (some (.int .u8 ((b[i.toNat]?).getD 0).toNat))) (.leaf none))
    | _, _ => .leaf none)
  | _, _ => .leaf none
theorem doIndexT_eval (fr : Fr) (t : TypeId) (x ix : Operand) : (doIndexT g fr t x ix).eval = doIndex g fr t x ix := by
  unfold doIndexT doIndex
  cases h : fr.gev g x with
  | none => rfl
  | some v =>
    simp only [Option.bind_eq_bind, Option.bind_some]
    cases h1 : fr.gev g ix with
    | none => rfl
    | some w =>
      simp only [Option.bind_some]
      cases h2 : intV w with
      | none => rfl
      | some i =>
        simp only [Option.bind_some]
        split
        · rename_i len elem cs e
          simp only [e]
          cases h3 : sizeOf? g elem with
          | none => rfl
          | some n => simp only [Option.bind_some]; exact eval_chkT (readVarT_eval g _ _ _)
        · rename_i b e
          simp only [e]
          refine eval_chkT ?_
          rw [DT.eval_node]
          cases b[i.toNat]? <;> rfl
        · rename_i n1 n2
          simp only [DT.eval_leaf]

def doIndexAddrT (fr : Fr) (t : TypeId) (x ix : Operand) : DT (Option Value) :=
  match fr.ev g x, (fr.gev g ix).bind intV with
  | some v, some i => (match g.P.underlying t, v with
    | some (.array len elem), .pointer (some a) => (match sizeOf? g elem with
      | some n => chkT (decide (0 ≤ i) && decide (i < len)) (.leaf (some (.pointer (some (moved a (i.toNat * n))))))
      | none => .leaf none)
    | some (.slice elem), .slice (some ⟨id, o, none⟩) len _ => (match sizeOf? g elem with
      | some n => chkT (decide (0 ≤ i) && decide (i < len)) (.leaf (some (.pointer (some ⟨id, o + i.toNat * n, none⟩))))
      | none => .leaf none)
    | some (.array len elem), .func (.methodOf _ _) X ⟨[.slice none o _]⟩ => (match sizeOf? g elem with
      | some n => chkT (decide (0 ≤ i) && decide (i < len)) (.leaf (some (VP X (o + i.toNat * n))))
      | none => .leaf none)
    | some (.slice elem), .func (.method _) X ⟨[.slice none o len]⟩ => (match sizeOf? g elem with
      | some n => chkT (decide (0 ≤ i) && decide (i < len)) (.leaf (some (VP X (o + i.toNat * n))))
      | none => .leaf none)
    | _, _ => .leaf none)
  | _, _ => .leaf none
theorem doIndexAddrT_eval (fr : Fr) (t : TypeId) (x ix : Operand) : (doIndexAddrT g fr t x ix).eval = doIndexAddr g fr t x ix := by
  unfold doIndexAddrT doIndexAddr
  cases h : fr.ev g x with
  | none => rfl
  | some v =>
    simp only [Option.bind_eq_bind, Option.bind_some]
    cases h1 : fr.gev g ix with
    | none => rfl
    | some w =>
      simp only [Option.bind_some]
      cases h2 : intV w with
      | none => rfl
      | some i =>
        simp only [Option.bind_some]
        split
        · rename_i len elem a e
          simp only [e]
          cases h3 : sizeOf? g elem with
          | none => rfl
          | some n => exact chkT_eval _ _
        · rename_i elem id o len cp e
          simp only [e]
          cases h3 : sizeOf? g elem with
          | none => rfl
          | some n => exact chkT_eval _ _
        · rename_i len elem t' nm X o l e
          simp only [e]
          cases h3 : sizeOf? g elem with
          | none => rfl
          | some n => exact chkT_eval _ _
        · rename_i elem nm X o len e
          simp only [e]
          cases h3 : sizeOf? g elem with
          | none => rfl
          | some n => exact chkT_eval _ _
        · rename_i n1 n2 n3 n4
          simp only [DT.eval_leaf]

def boundT {α : Type} (fr : Fr) (x : Option Operand) (other : Nat) (k : Nat → DT (Option α)) : DT (Option α) :=
  match x with
  | none => k other
  | some x => (match (fr.gev g x).bind intV with
    | some i => chkT (decide (0 ≤ i)) (k i.toNat)
    | none => .leaf none)
theorem boundT_eval {α : Type} (fr : Fr) (x : Option Operand) (other : Nat) (k : Nat → DT (Option α)) (K : Nat → Option α) (h : ∀ n, (k n).eval = K n) : (boundT g fr x other k).eval = (bound g fr x other).bind K := by
  unfold boundT bound
  cases x with
  | none => exact h _
  | some x =>
    simp only [Option.bind_eq_bind]
    cases h1 : fr.gev g x with
    | none => rfl
    | some w =>
      simp only [Option.bind_some]
      cases h2 : intV w with
      | none => rfl
      | some i =>
        simp only [Option.bind_some]
        rw [chkT_eval, h]
        cases decide (0 ≤ i) <;> rfl

def doSliceT (c : Ctx) (fr : Fr) (s : St) (t : TypeId) (x : Operand) (lo hi mx : Option Operand) : DT (Option (Value × St)) :=
  match fr.gev g x with
  | none => .leaf none
  | some v => match g.P.underlying t, v with
    | some (.slice elem), .slice (some ⟨id, o, none⟩) len cap =>
      (match sizeOf? g elem, mx with
      | some size, none => boundT g fr lo 0 fun l => boundT g fr hi len fun h =>
        chkT (decide (l ≤ h) && decide (h ≤ cap)) (.node (decide (l < cap)) (.leaf (some (.slice (some ⟨id, o + l * size, none⟩) (h - l) (cap - l), s)))
          (.leaf (match s.look c id with
            | some (.cells _ _ false) => some (.slice (some ⟨id, o, none⟩) 0 0, s)
            | _ => some (.slice (some ⟨s.next, 0, none⟩) 0 0, { s with next := s.next + 1 }))))
      | some size, some m => boundT g fr lo 0 fun l => boundT g fr hi len fun h => boundT g fr (some m) 0 fun m =>
        chkT (decide (l ≤ h) && decide (h ≤ m) && decide (m ≤ cap) && hi.isSome) (.node (decide (m = 0)) (.leaf (some (.slice (some ⟨s.next, 0, none⟩) 0 0, s.new (.cells #[] size false))))
          (.leaf (some (.slice (some ⟨s.next, 0, none⟩) (h - l) (m - l), { s with next := s.next + 1 }))))
      | none, _ => .leaf none)
    | some (.slice elem), .func (.method _) X ⟨[.slice none o len]⟩ =>
      (match sizeOf? g elem with
      | some size => boundT g fr lo 0 fun l => boundT g fr hi len fun h => chkT (mx.isNone && (decide (l ≤ h) && decide (h ≤ len))) (.leaf (some (VS X (o + l * size) (h - l), s)))
      | none => .leaf none)
    | _, _ => .leaf (doSlice g c fr s t x lo hi mx)
theorem doSliceT_eval (c : Ctx) (fr : Fr) (s : St) (t : TypeId) (x : Operand) (lo hi mx : Option Operand) : (doSliceT g c fr s t x lo hi mx).eval = doSlice g c fr s t x lo hi mx := by
  unfold doSliceT
  cases h : fr.gev g x with
  | none => unfold doSlice; rw [h]; rfl
  | some v =>
    simp only
    split
    · rename_i elem id o len cap e
      unfold doSlice
      rw [h]
      simp only [Option.bind_eq_bind, Option.bind_some, e]
      cases h3 : sizeOf? g elem with
      | none => rfl
      | some size =>
        simp only [Option.bind_some]
        cases mx with
        | none =>
          simp only
          refine boundT_eval g fr lo 0 _ _ fun l => ?_
          refine boundT_eval g fr hi len _ _ fun h => ?_
          refine eval_chkT ?_
          rw [DT.eval_node]
          by_cases hl : l < cap
          · simp [hl, DT.eval_leaf]
          · rw [decide_eq_false hl, if_neg hl]
            simp only [cond_false, DT.eval_leaf]
            generalize s.look c id = q
            cases q with
            | none => rfl
            | some ob =>
              cases ob with
              | cells cs sz sp => cases sp <;> rfl
              | _ => rfl
        | some m =>
          simp only
          refine boundT_eval g fr lo 0 _ _ fun l => ?_
          refine boundT_eval g fr hi len _ _ fun h => ?_
          refine boundT_eval g fr (some m) 0 _ _ fun m => ?_
          refine eval_chkT ?_
          rw [DT.eval_node]
          by_cases hl : m = 0
          · simp [hl, DT.eval_leaf]
          · rw [decide_eq_false hl, if_neg hl]; rfl
    · rename_i elem nm X o len e
      unfold doSlice
      rw [h]
      simp only [Option.bind_eq_bind, Option.bind_some, e]
      cases h3 : sizeOf? g elem with
      | none => rfl
      | some size =>
        simp only [Option.bind_some]
        refine boundT_eval g fr lo 0 _ _ fun l => ?_
        refine boundT_eval g fr hi len _ _ fun h => ?_
        exact eval_chkT rfl
    · rfl

def writeT {α : Type} (c : Ctx) (s : St) (id o : Nat) (vs : List Value) (k : St → DT (Option α)) : DT (Option α) :=
  match s.look c id with
  | some (.cells cs sz sp) => chkT (c.wr id && decide (o + vs.length ≤ cs.size) && vs.all Value.oneCell') (k { s with heap := s.heap.put id (.cells (blit cs o vs) sz sp) })
  | _ => .leaf none
theorem writeT_eval {α : Type} (c : Ctx) (s : St) (id o : Nat) (vs : List Value) (k : St → DT (Option α)) (K : St → Option α) (h : ∀ s, (k s).eval = K s) : (writeT c s id o vs k).eval = (s.write c id o vs).bind K := by
  unfold writeT St.write
  cases s.look c id with
  | none => rfl
  | some ob =>
    cases ob with
    | cells cs sz sp =>
      simp only [Option.bind_eq_bind]
      rw [chkT_eval, h]
      generalize (c.wr id && decide (o + vs.length ≤ cs.size) && vs.all Value.oneCell') = b
      cases b <;> rfl
    | _ => rfl

def cellsT {α : Type} (c : Ctx) (s : St) (size n : Nat) (v : Value) (k : Array Value → DT (Option α)) : DT (Option α) :=
  match v with
  | .slice (some ⟨id, o, none⟩) l _ => (match s.rowAt c id with
    | some cs => chkT (decide (n ≤ l) && decide (o + n * size ≤ cs.size)) (k (cs.extract o (o + n * size)))
    | none => .leaf none)
  | .slice none l _ => chkT (n == 0 && l == 0) (k #[])
  | .string b => chkT (size == 1 && n == b.size) (k (b.data.map fun x => .int .u8 x.toNat))
  | .func (.method _) X ⟨[.slice none o l]⟩ => chkT (decide (n ≤ l) && decide (o + n * size ≤ X.size)) (k (X.extract o (o + n * size)))
  | _ => .leaf none
theorem cellsT_eval {α : Type} (c : Ctx) (s : St) (size n : Nat) (v : Value) (k : Array Value → DT (Option α)) (K : Array Value → Option α) (h : ∀ a, (k a).eval = K a) : (cellsT c s size n v k).eval = (cellsOf? c s size n v).bind K := by
  have key : ∀ (b : Bool) (a : Array Value), (chkT b (k a)).eval = ((chk b).bind fun _ => some a).bind K := fun b a => by rw [chkT_eval, h]; cases b <;> rfl
  unfold cellsT cellsOf?
  split
  · simp only [Option.bind_eq_bind]
    rename_i id o l cp
    cases s.rowAt c id with
    | none => rfl
    | some cs => exact key _ _
  · exact key _ _
  · exact key _ _
  · exact key _ _
  · rename_i n1 n2 n3 n4
    split
    · exact (n1 _ _ _ _ rfl).elim
    · exact (n2 _ _ rfl).elim
    · exact (n3 _ rfl).elim
    · exact (n4 _ _ _ _ rfl).elim
    · rfl

def doAppendT (c : Ctx) (s : St) (argTypes : Array TypeId) (args : List Value) : DT (Option (Value × St)) :=
  match args with
  | [.slice base sl sc, x] => (match argTypes[0]?, argTypes[1]?, lenV x with
    | some st, some xt, some n => (match g.P.underlying st with
      | some (.slice elem) => (match g.P.info? elem with
        | some i => (match i.zero with
          | some zero =>
            chkT (decide (sl ≤ sc) && decide (sl + n ≤ nLim) && decide (i.bytes ≤ 4096) && decide (i.size ≠ 0) && decide (zero.cells.size = i.size) && plainN 8 zero &&
              (match g.P.underlying xt with | some (.int _) => false | some _ => true | none => false)) (.node (decide (n = 0)) (.leaf (some (.slice base sl sc, s)))
              (cellsT c s i.size n x fun new => chkT (new.toList.all Value.oneCell') (match base with
                | none => chkT (sl == 0 && sc == 0) (.leaf (some (.slice (some ⟨s.next, 0, none⟩) n n, s.new (.cells new i.size true))))
                | some ⟨id, o, none⟩ => (match s.look c id with
                  | some (.cells cs sz sp) => chkT (sz == i.size) (.node (decide (sl + n ≤ sc))
                      (writeT c s id (o + sl * i.size) new.toList fun s' => .leaf (some (.slice base (sl + n) sc, s')))
                      (chkT (decide (o + sl * i.size ≤ cs.size)) (.node sp
                        (chkT (c.wr id && sl == sc && o + sl * i.size == cs.size) (.leaf (some (.slice (some ⟨s.next, 0, none⟩) (sl + n) (sl + n), { s with heap := s.heap.set id none : St }.new (.cells (cs.extract o (o + sl * i.size) ++ new) i.size true)))))
                        (.leaf (some (.slice (some ⟨s.next, 0, none⟩) (sl + n) (sl + n), s.new (.cells (cs.extract o (o + sl * i.size) ++ new) i.size true)))))))
                  | _ => .leaf none)
                | _ => .leaf none)))
          | none => .leaf none)
        | none => .leaf none)
      | _ => .leaf none)
    | _, _, _ => .leaf none)
  | _ => .leaf none

theorem doAppendT_eval (c : Ctx) (s : St) (argTypes : Array TypeId) (args : List Value) : (doAppendT g c s argTypes args).eval = doAppend g c s argTypes args := by
  unfold doAppendT doAppend
  split
  · rename_i base sl sc x
    simp only [Option.bind_eq_bind]
    cases h0 : argTypes[0]? with
    | none => rfl
    | some st =>
      simp only [Option.bind_some]
      cases h1 : argTypes[1]? with
      | none => rfl
      | some xt =>
        simp only [Option.bind_some]
        cases h3 : g.P.underlying st with
        | none => cases lenV x <;> simp [*, DT.eval_leaf]
        | some d =>
          cases d with
          | slice elem =>
            simp only
            cases h4 : g.P.info? elem with
            | none => cases lenV x <;> simp [*, DT.eval_leaf]
            | some i =>
              simp only [Option.bind_some]
              cases h5 : i.zero with
              | none => cases lenV x <;> simp [*, DT.eval_leaf]
              | some zero =>
                simp only [Option.bind_some]
                cases h2 : lenV x with
                | none => rfl
                | some n =>
                  simp only [Option.bind_some, h3, h4, h5]
                  refine eval_chkT ?_
                  rw [DT.eval_node]
                  by_cases hn : n = 0
                  · simp [hn, DT.eval_leaf]
                  · rw [decide_eq_false hn, if_neg hn]
                    simp only [cond_false]
                    refine cellsT_eval c s i.size n x _ _ fun new => ?_
                    refine eval_chkT ?_
                    split
                    · rename_i e
                      exact chkT_eval _ _
                    · rename_i _ id o
                      simp only
                      cases h6 : s.look c id with
                      | none => rfl
                      | some ob =>
                        cases ob with
                        | cells cs sz sp =>
                          simp only
                          refine eval_chkT ?_
                          rw [DT.eval_node]
                          by_cases hc : sl + n ≤ sc
                          · rw [decide_eq_true hc, if_pos hc]
                            exact writeT_eval c s id _ _ _ _ fun s' => rfl
                          · rw [decide_eq_false hc, if_neg hc]
                            simp only [cond_false]
                            refine eval_chkT ?_
                            rw [DT.eval_node]
                            cases sp with
                            | true => simp only [cond_true, if_true]; exact chkT_eval _ _
                            | false => rfl
                        | _ => rfl
                    · rename_i n1 n2
                      split
                      · exact (n1 rfl).elim
                      · exact (n2 _ _ rfl).elim
                      · rfl
          | _ => cases lenV x <;> simp [*, DT.eval_leaf]
  · rename_i hne
    simp only [DT.eval_leaf]
    split
    · rename_i v x
      simp only [Option.bind_eq_bind]
      cases argTypes[0]? with
      | none => rfl
      | some st =>
        cases argTypes[1]? with
        | none => rfl
        | some xt =>
          simp only [Option.bind_some]
          split
          · exact (hne _ _ _ _ rfl).elim
          · rfl
    · rfl

def newT {α : Type} (c : Ctx) (s : St) (size n : Nat) (x : Value) (k : Array Value → DT (Option α)) : DT (Option α) :=
  match x with
  | .string b => k ((b.extract 0 n).data.map fun x => Value.int .u8 x.toNat)
  | x => cellsT c s size n x k

def doCopyT (c : Ctx) (s : St) (argTypes : Array TypeId) (args : List Value) : DT (Option (Value × St)) :=
  match args with
  | [.slice base dl _, x] => (match argTypes[0]?, lenV x with
    | some st, some m => (match g.P.underlying st with
      | some (.slice elem) => (match sizeOf? g elem with
        | some size => .node (decide (Nat.min m dl = 0)) (.leaf (some (.int .i64 0, s)))
          (newT c s size (Nat.min m dl) x fun new => (match base with
            | some ⟨id, o, none⟩ => chkT (new.size == Nat.min m dl * size) (writeT c s id o new.toList fun s' => .leaf (some (.int .i64 (Nat.min m dl), s')))
            | _ => .leaf none))
        | none => .leaf none)
      | _ => .leaf none)
    | _, _ => .leaf none)
  | _ => .leaf none

theorem doCopyT_eval (c : Ctx) (s : St) (argTypes : Array TypeId) (args : List Value) : (doCopyT g c s argTypes args).eval = doCopy g c s argTypes args := by
  unfold doCopyT doCopy
  split
  · rename_i base dl cp x
    simp only [Option.bind_eq_bind]
    cases h0 : argTypes[0]? with
    | none => rfl
    | some st =>
      simp only [Option.bind_some]
      cases h3 : g.P.underlying st with
      | none => cases lenV x <;> simp [*, DT.eval_leaf]
      | some d =>
        cases d with
        | slice elem =>
          simp only
          cases h4 : sizeOf? g elem with
          | none => cases lenV x <;> simp [*, DT.eval_leaf]
          | some size =>
            simp only [Option.bind_some]
            cases h2 : lenV x with
            | none => rfl
            | some m =>
              simp only [Option.bind_some, h3, h4]
              rw [DT.eval_node]
              by_cases hn : Nat.min m dl = 0
              · simp [hn, DT.eval_leaf]
              · rw [decide_eq_false hn, if_neg hn]
                simp only [cond_false]
                have key : ∀ new : Array Value, (match (motive := Option Addr → DT (Option (Value × St))) base with
                    | some ⟨id, o, none⟩ => chkT (new.size == Nat.min m dl * size) (writeT c s id o new.toList fun s' => .leaf (some (.int .i64 (Nat.min m dl), s')))
                    | _ => .leaf none).eval = (match base with
                    | some ⟨id, o, none⟩ => (chk (new.size == Nat.min m dl * size)).bind fun _ => (s.write c id o new.toList).bind fun s' => some (.int .i64 (Nat.min m dl), s')
                    | _ => none) := fun new => by
                  split
                  · exact eval_chkT (writeT_eval c s _ _ _ _ _ fun s' => rfl)
                  · rfl
                unfold newT
                cases x <;> first | exact key _ | exact cellsT_eval c s size _ _ _ _ key
        | _ => cases lenV x <;> simp [*, DT.eval_leaf]
  · rename_i hne
    simp only [DT.eval_leaf]
    split
    · rename_i v x
      simp only [Option.bind_eq_bind]
      cases argTypes[0]? with
      | none => rfl
      | some st =>
        simp only [Option.bind_some]
        split
        · exact (hne _ _ _ _ rfl).elim
        · rfl
    · rfl

def doClearT (c : Ctx) (s : St) (argTypes : Array TypeId) (args : List Value) : DT (Option (Value × St)) :=
  match args with
  | [.slice (some ⟨id, o, none⟩) n cp] => (match argTypes[0]? with
    | some t => (match g.P.underlying t with
      | some (.slice elem) => .node (decide (n = 0)) (.leaf (some (.tuple #[], s))) (match g.P.info? elem with
        | some i => (match i.zero with
          | some zero => chkT (plainN 8 zero && decide (zero.cells.size = i.size)) (writeT c s id o (Builtin.zeroCells zero.cells n).toList fun s' => .leaf (some (.tuple #[], s')))
          | none => .leaf none)
        | none => .leaf none)
      | _ => .leaf none)
    | none => .leaf none)
  | _ => .leaf (doClear g c s argTypes args)

theorem doClearT_eval (c : Ctx) (s : St) (argTypes : Array TypeId) (args : List Value) : (doClearT g c s argTypes args).eval = doClear g c s argTypes args := by
  unfold doClearT
  split
  · rename_i id o n cp
    unfold doClear
    simp only [Option.bind_eq_bind]
    cases h0 : argTypes[0]? with
    | none => rfl
    | some t =>
      simp only [Option.bind_some]
      cases h3 : g.P.underlying t with
      | none => rfl
      | some d =>
        cases d with
        | slice elem =>
          simp only
          rw [DT.eval_node]
          by_cases hn : n = 0
          · subst hn; rfl
          · rw [decide_eq_false hn]
            simp only [cond_false]
            cases h4 : g.P.info? elem with
            | none => rfl
            | some i =>
              simp only [Option.bind_some]
              cases h5 : i.zero with
              | none => rfl
              | some zero =>
                simp only [Option.bind_some]
                exact eval_chkT (writeT_eval c s _ _ _ _ _ fun s' => rfl)
        | _ => rfl
  · rfl

/-- Whole numbers divided. -/
def divT (fr : Fr) (o : Oper) : DT (Option Value) :=
  match o.op with
  | .binOp .quo _ x y _ => (match fr.ev g x, fr.ev g y with
    | some (.int k n), some (.int k' m) => .node (decide (m = 0)) (.leaf none) (.node (decide (k = k')) (.leaf (some (.int k (k.wrap (n.tdiv m))))) (.leaf (quietOp g fr o)))
    | _, _ => .leaf (quietOp g fr o))
  | .binOp .rem _ x y _ => (match fr.ev g x, fr.ev g y with
    | some (.int k n), some (.int k' m) => .node (decide (m = 0)) (.leaf none) (.node (decide (k = k')) (.leaf (some (.int k (n.tmod m)))) (.leaf (quietOp g fr o)))
    | _, _ => .leaf (quietOp g fr o))
  | .binOp .shl _ x y _ => (match fr.ev g x, fr.ev g y with
    | some (.int k n), some (.int _ m) => .node (decide (m < 0)) (.leaf none) (.leaf (some (.int k (k.wrap (n * 2 ^ (min m.toNat k.bits))))))
    | _, _ => .leaf (quietOp g fr o))
  | .binOp .shr _ x y _ => (match fr.ev g x, fr.ev g y with
    | some (.int k n), some (.int _ m) => .node (decide (m < 0)) (.leaf none) (.leaf (some (.int k (n.fdiv (2 ^ (min m.toNat k.bits))))))
    | _, _ => .leaf (quietOp g fr o))
  | .binOp .add _ x y _ => (match fr.ev g x, fr.ev g y with
    | some (.string a), some (.string b) => .node (decide (((a.size + b.size : Nat) : Int) > IntKind.i64.max)) (.leaf none) (.leaf (some (.string (a ++ b))))
    | _, _ => .leaf (quietOp g fr o))
  | .binOp .eql t x y _ => .leaf (match fr.ev g x, fr.ev g y with
    | some (.agg ⟨xs⟩), some (.agg ⟨ys⟩) => (match eq4 g.P t xs ys with | some r => some (.bool r) | none => quietOp g fr o)
    | _, _ => quietOp g fr o)
  | .binOp .neq t x y _ => .leaf (match fr.ev g x, fr.ev g y with
    | some (.agg ⟨xs⟩), some (.agg ⟨ys⟩) => (match eq4 g.P t xs ys with | some r => some (.bool (!r)) | none => quietOp g fr o)
    | _, _ => quietOp g fr o)
  | _ => .leaf (quietOp g fr o)

theorem gev_int {fr : Fr} {x : Operand} {k : IntKind} {n : Int} (h : fr.ev g x = some (.int k n)) : fr.gev g x = some (.int k n) := by
  unfold Fr.gev
  rw [h]
  rfl

theorem eq4_plain {P : Program} {t : TypeId} {xs ys : List Value} {r : Bool} (h : eq4 P t xs ys = some r) : ([.agg ⟨xs⟩, .agg ⟨ys⟩] : List Value).all (plainN 8) = true := by
  unfold eq4 at h
  split at h
  · simp [plainN]
  · cases h

theorem eq4_quiet {fr : Fr} {d : Option Tmp} {t : TypeId} {x y : Operand} {t' : TypeId} {ty pos af gd} {xs ys : List Value} {r : Bool} (hx : fr.ev g x = some (.agg ⟨xs⟩)) (hy : fr.ev g y = some (.agg ⟨ys⟩)) (h : eq4 g.P t xs ys = some r) :
    quietOp g fr { dst := d, op := .binOp .eql t x y t', type := ty, pos := pos, after := af, guard := gd } = some (.bool r) ∧
    quietOp g fr { dst := d, op := .binOp .neq t x y t', type := ty, pos := pos, after := af, guard := gd } = some (.bool (!r)) := by
  obtain ⟨h1, h2⟩ := eq4_ok h
  have gx : fr.gev g x = some (.agg ⟨xs⟩) := by unfold Fr.gev; rw [hx]; rfl
  have gy : fr.gev g y = some (.agg ⟨ys⟩) := by unfold Fr.gev; rw [hy]; rfl
  have e1 : ∀ b, evL g fr (Op.operands (.binOp b t x y t')).toList = some [.agg ⟨xs⟩, .agg ⟨ys⟩] := by
    intro b
    show (do let v ← fr.gev g x; let vs ← (do let v ← fr.gev g y; let vs ← some []; pure (v :: vs)); pure (v :: vs)) = _
    rw [gx, gy]; rfl
  have eg1 : purely g.P (eqGuard .eql t x y (.agg ⟨xs⟩) (.agg ⟨ys⟩)) = some () := by
    show purely g.P (if !g.P.eqGuardType g.P.depth t then _ else _) = _
    rw [h2]; rfl
  have eg2 : purely g.P (eqGuard .neq t x y (.agg ⟨xs⟩) (.agg ⟨ys⟩)) = some () := by
    show purely g.P (if !g.P.eqGuardType g.P.depth t then _ else _) = _
    rw [h2]; rfl
  have pl := eq4_plain h
  constructor
  · unfold quietOp
    rw [e1]
    have e2 : purely g.P (execOp (fun x => (fr.ev g x).getD undef) { dst := d, op := .binOp .eql t x y t', type := ty, pos := pos, after := af, guard := gd }) = some (.value (.bool r)) := by
      simp only [execOp, hx, hy, Option.getD_some, purely_bd, eg1, Option.bind_some, Go.binOp, h1, purely_pure]
    simp only [Option.bind_eq_bind, Option.bind_some, e2, pl]
    rfl
  · unfold quietOp
    rw [e1]
    have e2 : purely g.P (execOp (fun x => (fr.ev g x).getD undef) { dst := d, op := .binOp .neq t x y t', type := ty, pos := pos, after := af, guard := gd }) = some (.value (.bool (!r))) := by
      simp only [execOp, hx, hy, Option.getD_some, purely_bd, eg2, Option.bind_some, Go.binOp, h1, purely_pure]
    simp only [Option.bind_eq_bind, Option.bind_some, e2, pl]
    rfl

theorem divT_eval (fr : Fr) (o : Oper) : (divT g fr o).eval = quietOp g fr o := by
  obtain ⟨d, op, ty, pos, af, gd⟩ := o
  unfold divT
  split
  · rename_i t x y t' ho
    simp only at ho
    subst ho
    split
    · rename_i k n k' m hx hy
      rw [DT.eval_node, DT.eval_node]
      by_cases hm : m = 0
      · subst hm
        rw [decide_eq_true rfl]
        simp only [cond_true, DT.eval_leaf]
        unfold quietOp
        have e1 : evL g fr (Op.operands (.binOp .quo t x y t')).toList = some [.int k n, .int k' 0] := by
          show (do let v ← fr.gev g x; let vs ← (do let v ← fr.gev g y; let vs ← some []; pure (v :: vs)); pure (v :: vs)) = _
          rw [gev_int g hx, gev_int g hy]; rfl
        rw [e1]
        have e2 : purely g.P (execOp (fun x => (fr.ev g x).getD undef) { dst := d, op := .binOp .quo t x y t', type := ty, pos := pos, after := af, guard := gd }) = none := by
          simp only [execOp, hx, hy, Option.getD_some, binOp, Op.intDiv, if_true]
          by_cases hk : k = k'
          · simp only [hk, ne_eq, not_true_eq_false, if_false]; rfl
          · simp only [hk, ne_eq, not_false_eq_true, if_true]; rfl
        simp only [Option.bind_eq_bind, Option.bind_some, e2]
        rfl
      · by_cases hk : k = k'
        · subst hk
          rw [decide_eq_false hm, decide_eq_true rfl]
          simp only [cond_true, cond_false, DT.eval_leaf]
          unfold quietOp
          have e1 : evL g fr (Op.operands (.binOp .quo t x y t')).toList = some [.int k n, .int k m] := by
            show (do let v ← fr.gev g x; let vs ← (do let v ← fr.gev g y; let vs ← some []; pure (v :: vs)); pure (v :: vs)) = _
            rw [gev_int g hx, gev_int g hy]; rfl
          rw [e1]
          have e2 : purely g.P (execOp (fun x => (fr.ev g x).getD undef) { dst := d, op := .binOp .quo t x y t', type := ty, pos := pos, after := af, guard := gd }) = some (.value (.int k (k.wrap (n.tdiv m)))) := by
            simp only [execOp, hx, hy, Option.getD_some, binOp, Op.intDiv, if_neg hm, ne_eq, not_true_eq_false, if_false]
            rfl
          simp only [Option.bind_eq_bind, Option.bind_some, e2]
          rfl
        · simp [hk, hm, DT.eval_leaf]
    · rfl
  · rename_i t x y t' ho
    simp only at ho
    subst ho
    split
    · rename_i k n k' m hx hy
      rw [DT.eval_node, DT.eval_node]
      by_cases hm : m = 0
      · subst hm
        rw [decide_eq_true rfl]
        simp only [cond_true, DT.eval_leaf]
        unfold quietOp
        have e1 : evL g fr (Op.operands (.binOp .rem t x y t')).toList = some [.int k n, .int k' 0] := by
          show (do let v ← fr.gev g x; let vs ← (do let v ← fr.gev g y; let vs ← some []; pure (v :: vs)); pure (v :: vs)) = _
          rw [gev_int g hx, gev_int g hy]; rfl
        rw [e1]
        have e2 : purely g.P (execOp (fun x => (fr.ev g x).getD undef) { dst := d, op := .binOp .rem t x y t', type := ty, pos := pos, after := af, guard := gd }) = none := by
          simp only [execOp, hx, hy, Option.getD_some, binOp, Op.intDiv, if_true]
          by_cases hk : k = k'
          · simp only [hk, ne_eq, not_true_eq_false, if_false]; rfl
          · simp only [hk, ne_eq, not_false_eq_true, if_true]; rfl
        simp only [Option.bind_eq_bind, Option.bind_some, e2]
        rfl
      · by_cases hk : k = k'
        · subst hk
          rw [decide_eq_false hm, decide_eq_true rfl]
          simp only [cond_true, cond_false, DT.eval_leaf]
          unfold quietOp
          have e1 : evL g fr (Op.operands (.binOp .rem t x y t')).toList = some [.int k n, .int k m] := by
            show (do let v ← fr.gev g x; let vs ← (do let v ← fr.gev g y; let vs ← some []; pure (v :: vs)); pure (v :: vs)) = _
            rw [gev_int g hx, gev_int g hy]; rfl
          rw [e1]
          have e2 : purely g.P (execOp (fun x => (fr.ev g x).getD undef) { dst := d, op := .binOp .rem t x y t', type := ty, pos := pos, after := af, guard := gd }) = some (.value (.int k (n.tmod m))) := by
            simp only [execOp, hx, hy, Option.getD_some, binOp, Op.intDiv, if_neg hm, ne_eq, not_true_eq_false, if_false]
            rfl
          simp only [Option.bind_eq_bind, Option.bind_some, e2]
          rfl
        · simp [hk, hm, DT.eval_leaf]
    · rfl
  · rename_i t x y t' ho
    simp only at ho
    subst ho
    split
    · rename_i k n k' m hx hy
      rw [DT.eval_node]
      have e1 : evL g fr (Op.operands (.binOp .shl t x y t')).toList = some [.int k n, .int k' m] := by
        show (do let v ← fr.gev g x; let vs ← (do let v ← fr.gev g y; let vs ← some []; pure (v :: vs)); pure (v :: vs)) = _
        rw [gev_int g hx, gev_int g hy]; rfl
      by_cases hm : m < 0
      · rw [decide_eq_true hm]
        simp only [cond_true, DT.eval_leaf]
        unfold quietOp
        rw [e1]
        have e2 : purely g.P (execOp (fun x => (fr.ev g x).getD undef) { dst := d, op := .binOp .shl t x y t', type := ty, pos := pos, after := af, guard := gd }) = none := by
          simp only [execOp, hx, hy, Option.getD_some, binOp, Op.shift, if_pos hm]
          rfl
        simp only [Option.bind_eq_bind, Option.bind_some, e2]
        rfl
      · rw [decide_eq_false hm]
        simp only [cond_false, DT.eval_leaf]
        unfold quietOp
        rw [e1]
        have e2 : purely g.P (execOp (fun x => (fr.ev g x).getD undef) { dst := d, op := .binOp .shl t x y t', type := ty, pos := pos, after := af, guard := gd }) = some (.value (.int k (k.wrap (n * 2 ^ (min m.toNat k.bits))))) := by
          simp only [execOp, hx, hy, Option.getD_some, binOp, Op.shift, if_neg hm]
          rfl
        simp only [Option.bind_eq_bind, Option.bind_some, e2]
        rfl
    · rfl
  · rename_i t x y t' ho
    simp only at ho
    subst ho
    split
    · rename_i k n k' m hx hy
      rw [DT.eval_node]
      have e1 : evL g fr (Op.operands (.binOp .shr t x y t')).toList = some [.int k n, .int k' m] := by
        show (do let v ← fr.gev g x; let vs ← (do let v ← fr.gev g y; let vs ← some []; pure (v :: vs)); pure (v :: vs)) = _
        rw [gev_int g hx, gev_int g hy]; rfl
      by_cases hm : m < 0
      · rw [decide_eq_true hm]
        simp only [cond_true, DT.eval_leaf]
        unfold quietOp
        rw [e1]
        have e2 : purely g.P (execOp (fun x => (fr.ev g x).getD undef) { dst := d, op := .binOp .shr t x y t', type := ty, pos := pos, after := af, guard := gd }) = none := by
          simp only [execOp, hx, hy, Option.getD_some, binOp, Op.shift, if_pos hm]
          rfl
        simp only [Option.bind_eq_bind, Option.bind_some, e2]
        rfl
      · rw [decide_eq_false hm]
        simp only [cond_false, DT.eval_leaf]
        unfold quietOp
        rw [e1]
        have e2 : purely g.P (execOp (fun x => (fr.ev g x).getD undef) { dst := d, op := .binOp .shr t x y t', type := ty, pos := pos, after := af, guard := gd }) = some (.value (.int k (n.fdiv (2 ^ (min m.toNat k.bits))))) := by
          simp only [execOp, hx, hy, Option.getD_some, binOp, Op.shift, if_neg hm]
          rfl
        simp only [Option.bind_eq_bind, Option.bind_some, e2]
        rfl
    · rfl
  · rename_i t x y t' ho
    simp only at ho
    subst ho
    split
    · rename_i a b hx hy
      have gx : fr.gev g x = some (.string a) := by unfold Fr.gev; rw [hx]; rfl
      have gy : fr.gev g y = some (.string b) := by unfold Fr.gev; rw [hy]; rfl
      have e1 : evL g fr (Op.operands (.binOp .add t x y t')).toList = some [.string a, .string b] := by
        show (do let v ← fr.gev g x; let vs ← (do let v ← fr.gev g y; let vs ← some []; pure (v :: vs)); pure (v :: vs)) = _
        rw [gx, gy]; rfl
      rw [DT.eval_node]
      by_cases hm : ((a.size + b.size : Nat) : Int) > IntKind.i64.max
      · rw [decide_eq_true hm]
        simp only [cond_true, DT.eval_leaf]
        unfold quietOp
        rw [e1]
        have e2 : purely g.P (execOp (fun x => (fr.ev g x).getD undef) { dst := d, op := .binOp .add t x y t', type := ty, pos := pos, after := af, guard := gd }) = none := by
          simp only [execOp, hx, hy, Option.getD_some, binOp, Op.stringOp, if_pos hm]
          rfl
        simp only [Option.bind_eq_bind, Option.bind_some, e2]
        rfl
      · rw [decide_eq_false hm]
        simp only [cond_false, DT.eval_leaf]
        unfold quietOp
        rw [e1]
        have e2 : purely g.P (execOp (fun x => (fr.ev g x).getD undef) { dst := d, op := .binOp .add t x y t', type := ty, pos := pos, after := af, guard := gd }) = some (.value (.string (a ++ b))) := by
          simp only [execOp, hx, hy, Option.getD_some, binOp, Op.stringOp, if_neg hm]
          rfl
        simp only [Option.bind_eq_bind, Option.bind_some, e2]
        rfl
    · rfl
  · rename_i t x y t' ho
    simp only at ho
    subst ho
    rw [DT.eval_leaf]
    split
    · rename_i xs ys hx hy
      split
      · rename_i r hr; exact (eq4_quiet g hx hy hr).1.symm
      · rfl
    · rfl
  · rename_i t x y t' ho
    simp only at ho
    subst ho
    rw [DT.eval_leaf]
    split
    · rename_i xs ys hx hy
      split
      · rename_i r hr; exact (eq4_quiet g hx hy hr).2.symm
      · rfl
    · rfl
  · rfl
end
end
end Go.Am

/- The abstract machine with its decisions laid out as a tree: for arguments that are not known. -/
namespace Go.Am
noncomputable section

theorem Tr.setF_same {α : Type} (v : α) : ∀ (f : Nat) (t : Tr α) (n : Nat), n < f → t.get n = some v → Tr.setF f t n (some v) = t := by
  intro f
  induction f with
  | zero => intro t n h; omega
  | succ f ih =>
    intro t n h hg
    cases t with
    | nil => rw [Tr.get_nil0] at hg; cases hg
    | node l w r =>
      rw [Tr.get_node] at hg
      rw [Tr.setF_node]
      split at hg
      · rw [if_pos (by assumption), hg]
      · rw [if_neg (by assumption)]
        split at hg
        · rw [if_pos (by assumption), ih _ _ (by omega) hg]
        · rw [if_neg (by assumption), ih _ _ (by omega) hg]
theorem Tr.put_same {α : Type} {t : Tr α} {n : Nat} {v : α} (h : t.get n = some v) : t.put n v = t := Tr.setF_same v (n + 1) t n (Nat.lt_succ_self n) h

/-- Go on with a slot's truth decided. -/
def split1 {α : Type} (fr : Fr) (d : Tmp) (k : Fr → DT α) : DT α :=
  match fr.tm.get d with
  | some (.bool b) => .node b (k { fr with tm := fr.tm.put d (.bool true) }) (k { fr with tm := fr.tm.put d (.bool false) })
  | _ => k fr
theorem split1_eval {α : Type} (fr : Fr) (d : Tmp) (k : Fr → DT α) : (split1 fr d k).eval = (k fr).eval := by
  unfold split1
  split
  · rename_i b hb
    cases b with
    | true => simp only [DT.eval_leaf, DT.eval_node, cond_true, Tr.put_same hb]
    | false => simp only [DT.eval_leaf, DT.eval_node, cond_false, Tr.put_same hb]
  · rfl
def splitL {α : Type} : List Tmp → Fr → (Fr → DT α) → DT α
  | [], fr, k => k fr
  | d :: r, fr, k => split1 fr d fun fr => splitL r fr k
theorem splitL_eval {α : Type} (k : Fr → DT α) : ∀ (l : List Tmp) (fr : Fr), (splitL l fr k).eval = (k fr).eval := by
  intro l
  induction l with
  | nil => intro fr; rfl
  | cons d r ih => intro fr; simp only [splitL, split1_eval, ih]

/-- What an operation has to know. -/
def asksOf (ops : Array Oper) (o : Oper) : List Tmp :=
  (match o.guard with | none => [] | some (j, _) => (match (ops[j]?).bind (·.dst) with | some d => [d] | none => [])) ++
  (match o.op with | .pick (.tmp t) _ _ => [t] | _ => [])

abbrev HandlerT := Value → Array Value → Ctx → St → DT (Option (Outc × St))

section
theorem exec_len {P : Program} {f : Operand → Value} {o : Oper} {cl : Call} {x : Operand} {p : Option Addr} {l c : Nat} {t e : TypeId} {w : World} (ho : o.op = .call cl) (hb : cl.callee = .builtin .len) (ha : cl.args = #[x]) (hx : f x = .slice p l c) (ht : cl.argTypes[0]? = some t) (hu : P.underlying t = some (.slice e)) : (execOp f o).run P w = .ok (.value (.int .i64 l)) w := by
  obtain ⟨callee, args, ts⟩ := cl
  simp only at hb ha ht; subst hb; subst ha
  simp only [execOp, ho, Sem.run_bind, resolve, Sem.run_pure, Result.andThen_ok, invoke]
  have : (Builtin.len_ ts o.type #[f x]).run P w = .ok (.int .i64 l) w := by
    unfold Builtin.len_
    simp only [ht, hx, List.size_toArray, List.length_cons, List.length_nil, Nat.zero_add, Nat.lt_add_one, getElem?_pos, List.getElem_toArray, List.getElem_cons_zero, Sem.run_bind, run_under hu, Result.andThen_ok]
    rfl
  simp only [builtin, List.map_toArray, List.map_cons, List.map_nil, Sem.run_bind, this, Result.andThen_ok, Sem.run_pure]

variable (g : Cfg)

def retT (fr : Fr) (s : St) (x : DT (Option Value)) : DT (Option (Outc × Tr (Array Value) × St)) := x.bind fun o => .leaf (o.map fun v => (.ret v, fr.loc, s))
def retS (fr : Fr) (x : DT (Option (Value × St))) : DT (Option (Outc × Tr (Array Value) × St)) := x.bind fun o => .leaf (o.map fun r => (.ret r.1, fr.loc, r.2))
/-- First what touches no memory, then the other. -/
def elseT (fr : Fr) (s : St) (q : Option Value) (x : DT (Option (Outc × Tr (Array Value) × St))) : DT (Option (Outc × Tr (Array Value) × St)) := .node q.isSome (.leaf (q.map fun v => (.ret v, fr.loc, s))) x
theorem elseT_eval (fr : Fr) (s : St) (q : Option Value) (x : DT (Option (Outc × Tr (Array Value) × St))) : (elseT fr s q x).eval = orElse' (q.map fun v => (.ret v, fr.loc, s)) x.eval := by
  cases q <;> rfl
theorem retT_eval (fr : Fr) (s : St) (x : DT (Option Value)) : (retT fr s x).eval = x.eval.map fun v => (.ret v, fr.loc, s) := by unfold retT; rw [DT.eval_bind]; rfl
theorem retS_eval (fr : Fr) (x : DT (Option (Value × St))) : (retS fr x).eval = x.eval.map fun r => (.ret r.1, fr.loc, r.2) := by unfold retS; rw [DT.eval_bind]; rfl

def builtinT (c : Ctx) (fr : Fr) (s : St) (b : Builtin) (argTypes : Array TypeId) (xs : List Operand) : DT (Option (Outc × Tr (Array Value) × St)) :=
  match b with
  | .append => (match evL g fr xs with | some args => retS fr (doAppendT g c s argTypes args) | none => .leaf none)
  | .copy => (match evL g fr xs with | some args => retS fr (doCopyT g c s argTypes args) | none => .leaf none)
  | .clear => (match evL g fr xs with | some args => retS fr (doClearT g c s argTypes args) | none => .leaf none)
  | b => .leaf (doBuiltin g c fr s b argTypes xs)
theorem builtinT_eval (c : Ctx) (fr : Fr) (s : St) (b : Builtin) (argTypes : Array TypeId) (xs : List Operand) : (builtinT g c fr s b argTypes xs).eval = doBuiltin g c fr s b argTypes xs := by
  unfold builtinT
  split
  · unfold doBuiltin
    cases evL g fr xs with
    | none => rfl
    | some args => simp only [retS_eval, doAppendT_eval, Option.bind_eq_bind, Option.bind_some]; cases doAppend g c s argTypes args <;> rfl
  · unfold doBuiltin
    cases evL g fr xs with
    | none => rfl
    | some args => simp only [retS_eval, doCopyT_eval, Option.bind_eq_bind, Option.bind_some]; cases doCopy g c s argTypes args <;> rfl
  · unfold doBuiltin
    cases evL g fr xs with
    | none => rfl
    | some args => simp only [retS_eval, doClearT_eval, Option.bind_eq_bind, Option.bind_some]; cases doClear g c s argTypes args <;> rfl
  · rfl

/-- A slice's length, wherever the slice lies. -/
def lenQ (fr : Fr) (b : Builtin) (cl : Call) : Option (Option Addr × Nat) :=
  match b, cl.args.toList, cl.argTypes[0]? with
  | .len, [x], some t =>
    match fr.gev g x, g.P.underlying t with
    | some (.slice p l _), some (.slice _) => some (p, l)
    | _, _ => none
  | _, _, _ => none
theorem lenQ_ok {g : Cfg} {c : Ctx} {fr : Fr} {s : St} {o : Oper} {cl : Call} {b : Builtin} {v : Option Addr × Nat} (ho : o.op = .call cl) (hb : cl.callee = .builtin b) (h : lenQ g fr b cl = some v) :
    orElse' ((quietOp g fr o).map fun v => (Outc.ret v, fr.loc, s)) (doBuiltin g c fr s b cl.argTypes cl.args.toList) = some (.ret (.int .i64 v.2), fr.loc, s) := by
  unfold lenQ at h
  split at h
  · rename_i x t hx ht
    split at h
    · rename_i p l cp e hv hu
      cases h
      have hD : doBuiltin g c fr s .len cl.argTypes cl.args.toList = some (.ret (.int .i64 l), fr.loc, s) := by
        unfold doBuiltin
        rw [hx]
        simp only [evL, hv, Option.bind_eq_bind, Option.bind_some, Option.pure_def]
        unfold doLen
        simp only [ht, hu, Option.bind_eq_bind, Option.bind_some, Option.pure_def]
      cases hq : quietOp g fr o with
      | none => simp only [Option.map_none, orElse', hD]
      | some v =>
        have hev : fr.ev g x = some (.slice p l cp) := by
          unfold Fr.gev at hv
          replace hv := bind_some hv; obtain ⟨w, hw, hv⟩ := hv
          replace hv := bind_some hv; obtain ⟨_, _, hv⟩ := hv
          cases hv; exact hw
        have ha : cl.args = #[x] := by rw [← hx]
        unfold quietOp at hq
        replace hq := bind_some hq; obtain ⟨vs, _, hq⟩ := hq
        replace hq := bind_some hq; obtain ⟨_, _, hq⟩ := hq
        replace hq := bind_some hq; obtain ⟨n, hn, hq⟩ := hq
        have := purely_run hn default
        rw [exec_len (x := x) ho hb ha (by simp only [hev]; rfl) ht hu] at this
        cases this
        replace hq := bind_some hq; obtain ⟨_, _, hq⟩ := hq
        cases hq
        rfl
    · cases h
  · cases h
def lenT (fr : Fr) (s : St) (v : Option Addr × Nat) : DT (Option (Outc × Tr (Array Value) × St)) := .node v.1.isNone (.leaf (some (.ret (.int .i64 v.2), fr.loc, s))) (.leaf (some (.ret (.int .i64 v.2), fr.loc, s)))
theorem lenT_eval (fr : Fr) (s : St) (v : Option Addr × Nat) : (lenT fr s v).eval = some (.ret (.int .i64 v.2), fr.loc, s) := by
  unfold lenT
  cases h : v.1.isNone <;> simp [DT.eval, h]
def lenOr (fr : Fr) (s : St) (q : Option (Option Addr × Nat)) (x : DT (Option (Outc × Tr (Array Value) × St))) : DT (Option (Outc × Tr (Array Value) × St)) := match q with | some v => lenT fr s v | none => x

/-- Which of the first places is it? -/
def offT {α : Type} (F : Nat → DT α) (z : DT α) (off : Nat) : Nat → Nat → DT α
  | 0, _ => z
  | n + 1, k => .node (decide (off = k)) (F k) (offT F z off n (k + 1))
theorem offT_in {α : Type} (F : Nat → DT α) (z : DT α) (off : Nat) : ∀ n k, (k ≤ off ∧ off < k + n → (offT F z off n k).eval = (F off).eval) ∧ (k + n ≤ off → (offT F z off n k).eval = z.eval) := by
  intro n
  induction n with
  | zero => intro k; exact ⟨fun h => by omega, fun _ => rfl⟩
  | succ n ih =>
    intro k
    unfold offT
    rw [DT.eval_node]
    by_cases h : off = k
    · subst h; rw [decide_eq_true rfl]; exact ⟨fun _ => rfl, fun h => by omega⟩
    · rw [decide_eq_false h]
      exact ⟨fun hk => (ih (k + 1)).1 (by omega), fun hk => (ih (k + 1)).2 (by omega)⟩
/-- A store, where the place is known. -/
def storeAt (fr : Fr) (s : St) (t : TypeId) (d o : Nat) (y : Operand) : Option (Tr (Array Value) × St) := do
  let v ← fr.gev g y
  let n ← sizeOf? g t
  chk (v.cells.size == n)
  let cs ← fr.loc.get d
  chk (decide (o + n ≤ cs.size) && v.cells.toList.all Value.oneCell')
  pure (fr.loc.put d (blit cs o v.cells.toList), s)
/-- Into an own row of four words: at which of them? -/
def storeQ (fr : Fr) (t : TypeId) (x : Operand) : Option (Nat × Nat × Nat) :=
  match fr.ev g x with
  | some (.pointer (some ⟨d, o, some b⟩)) => (match fr.loc.get d, g.P.underlying t, sizeOf? g t with
    | some cs, some (.int .u64), some 1 => cond (Nat.beq cs.size 4) (some (d, o, b)) none
    | _, _, _ => none)
  | _ => none
theorem storeQ_ok {fr : Fr} {c : Ctx} {s : St} {t : TypeId} {x y : Operand} {d o b : Nat} (h : storeQ g fr t x = some (d, o, b)) : doStore g c fr s t x y = storeAt g fr s t d o y ∧ (4 ≤ o → storeAt g fr s t d o y = none) := by
  unfold storeQ at h
  split at h
  · rename_i d' o' b' hx
    split at h
    · rename_i cs hc _ hn
      cases hb : Nat.beq cs.size 4 with
      | false => rw [hb] at h; cases h
      | true =>
        have h4 := Nat.eq_of_beq_eq_true hb
        rw [hb] at h; cases h
        constructor
        · unfold doStore storeAt
          rw [hx]
          rfl
        · intro ho
          unfold storeAt
          rw [hn, hc]
          cases hv : fr.gev g y with
          | none => rfl
          | some v =>
            have hf : decide (o + 1 ≤ cs.size) = false := decide_eq_false (by omega)
            simp only [Option.bind_eq_bind, Option.bind_some, hf, Bool.false_and]
            cases hc : chk (v.cells.size == 1) <;> rfl
    · cases h
  · cases h
def storeT (c : Ctx) (fr : Fr) (s : St) (t : TypeId) (x y : Operand) : DT (Option (Outc × Tr (Array Value) × St)) :=
  match storeQ g fr t x with
  | some (d, o, _) => offT (fun o => .leaf ((storeAt g fr s t d o y).map fun r => (.ret undef, r.1, r.2))) (.leaf none) o 4 0
  | none => .leaf ((doStore g c fr s t x y).map fun r => (.ret undef, r.1, r.2))
theorem storeT_eval (c : Ctx) (fr : Fr) (s : St) (t : TypeId) (x y : Operand) : (storeT g c fr s t x y).eval = (doStore g c fr s t x y).map fun r => (.ret undef, r.1, r.2) := by
  unfold storeT
  split
  · rename_i d o b h
    obtain ⟨h1, h2⟩ := storeQ_ok (c := c) (s := s) (y := y) g h
    obtain ⟨k1, k2⟩ := offT_in (fun o => (.leaf ((storeAt g fr s t d o y).map fun r => (.ret undef, r.1, r.2)) : DT (Option (Outc × Tr (Array Value) × St)))) (.leaf none) o 4 0
    rw [h1]
    by_cases ho : 4 ≤ o
    · rw [k2 (by omega), h2 ho]; rfl
    · rw [k1 (by omega)]; rfl
  · rfl

/-! ### Parts of a text -/
def bndS (n : Option Int) (other top : Nat) : Option Nat := match n with | none => some other | some n => if 0 ≤ n ∧ n ≤ (top : Int) then some n.toNat else none
/-- a part of a text -/
def strS (b : ByteArray) (lo hi : Option Int) : Option Value := (bndS hi b.size b.size).bind fun h => (bndS lo 0 h).bind fun l => some (.string (b.extract l h))
theorem purely_panic {P : Program} {α : Type} (k : IntKind) (x y : Int) (code : BoundsCode) : purely P (boundsPanic k x y code : Sem α) = none := by
  unfold boundsPanic
  dsimp only
  split <;> rfl
theorem purely_bound {P : Program} (k : IntKind) (n : Int) (y : Nat) (code : BoundsCode) : purely P (Instr.sliceBound (.int k n) y code) = if 0 ≤ n ∧ n ≤ (y : Int) then some n.toNat else none := by
  unfold Instr.sliceBound
  rw [purely_bd]
  show (purely P (pure (k, n) : Sem (IntKind × Int))).bind _ = _
  rw [purely_pure, Option.bind_some]
  simp only
  split
  · rfl
  · exact purely_panic _ _ _ _
theorem purely_str {P : Program} {t : TypeId} (ht : P.underlying t = some .string) (b : ByteArray) (lo hi : Option (IntKind × Int)) : purely P (Instr.sliceAt t (.string b) (lo.map fun p => .int p.1 p.2) (hi.map fun p => .int p.1 p.2) none) = strS b (lo.map (·.2)) (hi.map (·.2)) := by
  unfold Instr.sliceAt
  rw [purely_bd, purely_under ht, Option.bind_some]
  simp only
  unfold Instr.slice
  rw [purely_bd, purely_under ht, Option.bind_some]
  simp only [Option.isSome_none, Bool.false_eq_true, if_false]
  unfold Instr.sliceBounds
  cases hi with
  | none =>
    cases lo with
    | none => rfl
    | some lo =>
      simp only [Option.map_none, Option.map_some, purely_bd, purely_pure, Option.bind_some, purely_bound, strS, bndS, Option.isSome_none, Bool.false_eq_true, if_false]
      split <;> rfl
  | some hi =>
    cases lo with
    | none =>
      simp only [Option.map_none, Option.map_some, purely_bd, purely_pure, Option.bind_some, purely_bound, strS, bndS, Option.isSome_none, Bool.false_eq_true, if_false]
      split <;> rfl
    | some lo =>
      simp only [Option.map_none, Option.map_some, purely_bd, purely_pure, Option.bind_some, purely_bound, strS, bndS, Option.isSome_none, Bool.false_eq_true, if_false]
      split
      · simp only [Option.bind_some]
        split <;> rfl
      · rfl
def strQ (fr : Fr) (t : TypeId) (x : Operand) (mx : Option Operand) : Option ByteArray :=
  match fr.gev g x, g.P.underlying t, mx with
  | some (.string b), some .string, none => some b
  | _, _, _ => none
def bvQ (fr : Fr) : Option Operand → Option (Option (IntKind × Int))
  | none => some none
  | some x => (match fr.gev g x with
    | some (.int k n) => some (some (k, n))
    | _ => none)
def bndT {α : Type} (n : Option (IntKind × Int)) (other top : Nat) (k : Nat → DT (Option α)) : DT (Option α) :=
  match n with
  | none => k other
  | some (_, n) => .node (decide (0 ≤ n) && decide (n ≤ (top : Int))) (k n.toNat) (.leaf none)
theorem bndT_eval {α : Type} (n : Option (IntKind × Int)) (other top : Nat) (k : Nat → DT (Option α)) : (bndT n other top k).eval = (bndS (n.map (·.2)) other top).bind fun m => (k m).eval := by
  cases n with
  | none => rfl
  | some n =>
    unfold bndT bndS
    rw [DT.eval_node]
    by_cases h : 0 ≤ n.2 ∧ n.2 ≤ (top : Int)
    · have : (decide (0 ≤ n.2) && decide (n.2 ≤ (top : Int))) = true := by simp [h]
      rw [this]
      simp [h]
    · have : (decide (0 ≤ n.2) && decide (n.2 ≤ (top : Int))) = false := by simpa using h
      rw [this]
      simp only [Option.map_some, cond_false, DT.eval_leaf]
      rw [if_neg h]; rfl
def strT (b : ByteArray) (lo hi : Option (IntKind × Int)) : DT (Option Value) := bndT hi b.size b.size fun h => bndT lo 0 h fun l => .leaf (some (.string (b.extract l h)))
theorem strT_eval (b : ByteArray) (lo hi : Option (IntKind × Int)) : (strT b lo hi).eval = strS b (lo.map (·.2)) (hi.map (·.2)) := by
  unfold strT strS
  rw [bndT_eval]
  congr 1
  funext h
  rw [bndT_eval]
  rfl
theorem ev_of_gev {fr : Fr} {x : Operand} {v : Value} (h : fr.gev g x = some v) : fr.ev g x = some v := by
  unfold Fr.gev at h
  replace h := bind_some h; obtain ⟨w, hw, h⟩ := h
  replace h := bind_some h; obtain ⟨_, _, h⟩ := h
  cases h; exact hw
theorem bvQ_map {fr : Fr} {o : Option Operand} {n : Option (IntKind × Int)} (h : bvQ g fr o = some n) : (o.map fun x => (fr.ev g x).getD undef) = n.map fun p => .int p.1 p.2 := by
  cases o with
  | none => cases h; rfl
  | some x =>
    unfold bvQ at h
    simp only at h
    split at h
    · rename_i k m hx
      cases h
      simp only [Option.map_some, ev_of_gev g hx, Option.getD_some]
    · cases h
theorem strQ_ok {fr : Fr} {t : TypeId} {x : Operand} {mx lo hi : Option Operand} {b : ByteArray} {l h : Option (IntKind × Int)} (hq : strQ g fr t x mx = some b) (hl : bvQ g fr lo = some l) (hh : bvQ g fr hi = some h) {d : Option Tmp} {ty pos af gd} {c : Ctx} {s : St} :
    orElse' ((quietOp g fr { dst := d, op := .slice t x lo hi mx, type := ty, pos := pos, after := af, guard := gd }).map fun v => (Outc.ret v, fr.loc, s)) ((doSlice g c fr s t x lo hi mx).map fun r => (Outc.ret r.1, fr.loc, r.2)) = (strS b (l.map (·.2)) (h.map (·.2))).map fun v => (Outc.ret v, fr.loc, s) := by
  unfold strQ at hq
  split at hq
  · rename_i b' hx hu
    cases hq
    have hD : doSlice g c fr s t x lo hi none = none := by
      unfold doSlice
      simp only [hx, hu, Option.bind_eq_bind, Option.bind_some]
    have hE : purely g.P (execOp (fun x => (fr.ev g x).getD undef) { dst := d, op := .slice t x lo hi none, type := ty, pos := pos, after := af, guard := gd }) = (strS b (l.map (·.2)) (h.map (·.2))).map .value := by
      simp only [execOp, purely_bd, bvQ_map g hl, bvQ_map g hh, ev_of_gev g hx, Option.getD_some, Option.map_none, purely_str hu]
      cases strS b (l.map (·.2)) (h.map (·.2)) <;> rfl
    have hL : ∃ vs, evL g fr (Op.operands (.slice t x lo hi none)).toList = some vs ∧ vs.all (plainN 8) = true := by
      cases lo with
      | none =>
        cases hi with
        | none => exact ⟨[.string b], by simp [Op.operands, evL, hx], by simp [plainN]⟩
        | some hi =>
          unfold bvQ at hh
          simp only at hh
          split at hh
          · rename_i k n hy
            exact ⟨[.string b, .int k n], by simp [Op.operands, evL, hx, hy], by simp [plainN]⟩
          · cases hh
      | some lo =>
        unfold bvQ at hl
        simp only at hl
        split at hl
        · rename_i k' n' hz
          cases hi with
          | none => exact ⟨[.string b, .int k' n'], by simp [Op.operands, evL, hx, hz], by simp [plainN]⟩
          | some hi =>
            unfold bvQ at hh
            simp only at hh
            split at hh
            · rename_i k n hy
              exact ⟨[.string b, .int k' n', .int k n], by simp [Op.operands, evL, hx, hy, hz], by simp [plainN]⟩
            · cases hh
        · cases hl
    obtain ⟨vs, hv, hp⟩ := hL
    rw [hD]
    unfold quietOp
    simp only [hv, hp, hE, Option.bind_eq_bind, Option.bind_some]
    cases hs : strS b (l.map (·.2)) (h.map (·.2)) with
    | none => rfl
    | some v =>
      have : plainN 9 v = true := by
        unfold strS at hs
        obtain ⟨_, _, hs⟩ := Option.bind_eq_some_iff.1 hs
        obtain ⟨_, _, hs⟩ := Option.bind_eq_some_iff.1 hs
        cases hs; rfl
      simp [chk, this, orElse']
  · cases hq
def strOr (fr : Fr) (s : St) (b : Option ByteArray) (l h : Option (Option (IntKind × Int))) (x : DT (Option (Outc × Tr (Array Value) × St))) : DT (Option (Outc × Tr (Array Value) × St)) :=
  match b, l, h with
  | some b, some l, some h => retT fr s (strT b l h)
  | _, _, _ => x
def opT (h : HandlerT) (c : Ctx) (fr : Fr) (s : St) (o : Oper) : DT (Option (Outc × Tr (Array Value) × St)) :=
  match o.op with
  | .load t x => retT fr s (doLoadT g c fr s t x)
  | .store t x y => storeT g c fr s t x y
  | .field t x f => retT fr s (doFieldT g fr t x f)
  | .index t x i => retT fr s (doIndexT g fr t x i)
  | .indexAddr t x i => retT fr s (doIndexAddrT g fr t x i)
  | .slice t x lo hi mx => strOr fr s (strQ g fr t x mx) (bvQ g fr lo) (bvQ g fr hi) (elseT fr s (quietOp g fr o) (retS fr (doSliceT g c fr s t x lo hi mx)))
  | .binOp b t x y _ => (divT g fr o).bind fun q => .leaf ((orElse' q (doNilEq g fr b t x y)).map fun v => (.ret v, fr.loc, s))
  | .call cl =>
    match cl.callee with
    | .value f =>
      match fr.gev g f, evL g fr cl.args.toList with
      | some fv, some args => (h fv args.toArray c s).bind fun r => .leaf (r.map fun r => (r.1, fr.loc, r.2))
      | _, _ => .leaf none
    | .builtin b => lenOr fr s (lenQ g fr b cl) (elseT fr s (quietOp g fr o) (builtinT g c fr s b cl.argTypes cl.args.toList))
    | _ => .leaf (op g (fun _ _ _ _ => none) c fr s o)
  | _ => .leaf (op g (fun _ _ _ _ => none) c fr s o)

theorem opT_eval (h : HandlerT) (H : Handler) (hh : ∀ fv a c s, (h fv a c s).eval = H fv a c s) (c : Ctx) (fr : Fr) (s : St) (o : Oper) : (opT g h c fr s o).eval = op g H c fr s o := by
  unfold opT
  split
  · rename_i ho; unfold op; simp only [ho, retT_eval, doLoadT_eval]
  · rename_i ho; unfold op; simp only [ho, storeT_eval]
  · rename_i ho; unfold op; simp only [ho, retT_eval, doFieldT_eval]
  · rename_i ho; unfold op; simp only [ho, retT_eval, doIndexT_eval]
  · rename_i ho; unfold op; simp only [ho, retT_eval, doIndexAddrT_eval]
  · rename_i t x lo hi mx ho
    unfold op
    simp only [ho]
    unfold strOr
    split
    · rename_i b l h' hb hl hh
      obtain ⟨d, oo, ty, pos, af, gd⟩ := o
      simp only at ho
      subst ho
      rw [retT_eval, strT_eval]
      exact (strQ_ok g hb hl hh).symm
    · rw [elseT_eval, retS_eval, doSliceT_eval]
  · rename_i ho; unfold op; simp only [ho, DT.eval_bind, divT_eval]; rfl
  · rename_i cl ho
    split
    · rename_i f hf
      unfold op
      simp only [ho, hf]
      cases h1 : fr.gev g f with
      | none => rfl
      | some fv =>
        cases h2 : evL g fr cl.args.toList with
        | none => rfl
        | some args =>
          simp only [DT.eval_bind, hh]
          cases hH : H fv args.toArray c s <;> simp [hH, DT.eval_leaf]
    · rename_i b hb
      unfold op
      simp only [ho, hb]
      unfold lenOr
      split
      · rename_i v hv
        rw [lenT_eval, ← lenQ_ok ho hb hv]
      · rw [elseT_eval, builtinT_eval]
    · rename_i hne hnb
      simp only [DT.eval_leaf]
      unfold op
      simp only [ho]
      split
      · rfl
      · rename_i f hf; exact (hne f hf).elim
      · rfl
  · rename_i hne
    simp only [DT.eval_leaf]
    unfold op
    simp only
    split <;> first | rfl | (rename_i cl ho; exact (hne cl ho).elim) | contradiction

def wantedT (fr : Fr) (ops : Array Oper) (o : Oper) : DT (Option Bool) :=
  match o.guard with
  | none => .leaf (some true)
  | some (j, want) =>
    match (ops[j]?).bind (·.dst) with
    | none => .leaf none
    | some d =>
      match fr.tm.get d with
      | some (.bool b) => .node b (.leaf (some (true == want))) (.leaf (some (false == want)))
      | some (.tuple _) => .leaf (some false)
      | _ => .leaf none
theorem wantedT_eval (fr : Fr) (ops : Array Oper) (o : Oper) : (wantedT fr ops o).eval = fr.wanted ops o := by
  unfold wantedT Fr.wanted
  split
  · rename_i e; rw [e]; rfl
  · rename_i j want e
    rw [e]
    simp only
    split
    · rename_i e2; rw [e2]; rfl
    · rename_i d e2
      rw [e2]
      simp only
      split
      · rename_i b e3; rw [e3]; cases b <;> rfl
      · rename_i v e3; rw [e3]; rfl
      · rename_i h1 h2
        simp only [DT.eval_leaf, DT.eval_node]

def stepT (h : HandlerT) (c : Ctx) (fr : Fr) (s : St) (ops : Array Oper) (o : Oper) : DT (Option (Ex × Fr × St)) :=
  (wantedT fr ops o).andThen fun w =>
  match w with
  | true => (opT g h c fr s o).andThen fun r =>
    match r.1 with
    | .ret v => .leaf (({ fr with loc := r.2.1 : Fr }.putO o.dst v).map fun fr' => (.normal, fr', r.2.2))
    | .pan v => .leaf (some (.pan v, fr, r.2.2))
  | false => .leaf ((fr.putO o.dst undef).map fun fr' => (.normal, fr', s))

/-- A slice of nothing: is its bound 0? -/
def splitZ {α : Type} (fr : Fr) (o : Oper) (k : Fr → DT α) : DT α :=
  match o.op with
  | .slice _ x _ (some (.tmp d)) none => (match fr.gev g x, fr.tm.get d with
    | some (.slice none _ _), some (.int kd n) => .node (decide (n = 0)) (k { fr with tm := fr.tm.put d (.int kd 0) }) (k fr)
    | _, _ => k fr)
  | _ => k fr
theorem splitZ_eval {α : Type} (fr : Fr) (o : Oper) (k : Fr → DT α) : (splitZ g fr o k).eval = (k fr).eval := by
  unfold splitZ
  split
  · split
    · rename_i kd n _ hd
      rw [DT.eval_node]
      by_cases hn : n = 0
      · subst hn
        rw [decide_eq_true rfl, Tr.put_same hd]; rfl
      · rw [decide_eq_false hn]; rfl
    · rfl
  · rfl

theorem stepT_eval (h : HandlerT) (H : Handler) (hh : ∀ fv a c s, (h fv a c s).eval = H fv a c s) (c : Ctx) (fr : Fr) (s : St) (ops : Array Oper) (o : Oper) : (stepT g h c fr s ops o).eval = step g H c fr s ops o := by
  unfold stepT step
  rw [DT.eval_andThen (K := fun w => if w then (op g H c fr s o).bind fun r => (match r.1 with
    | .ret v => ({ fr with loc := r.2.1 : Fr }.putO o.dst v).bind fun fr' => some (.normal, fr', r.2.2)
    | .pan v => some (.pan v, fr, r.2.2)) else (fr.putO o.dst undef).bind fun fr' => some (.normal, fr', s)), wantedT_eval]
  · rfl
  · intro w
    cases w with
    | true =>
      simp only [if_true]
      rw [DT.eval_andThen (K := fun r => (match r.1 with
        | .ret v => ({ fr with loc := r.2.1 : Fr }.putO o.dst v).bind fun fr' => some (.normal, fr', r.2.2)
        | .pan v => some (.pan v, fr, r.2.2))), opT_eval g h H hh]
      intro r
      obtain ⟨r1, r2⟩ := r
      cases r1 with
      | ret v => simp only [DT.eval_leaf, DT.eval_node]; cases ({ fr with loc := r2.1 : Fr }.putO o.dst v) <;> rfl
      | pan v => rfl
    | false =>
      simp only [DT.eval_leaf, DT.eval_node, Bool.false_eq_true, if_false]
      cases fr.putO o.dst undef <;> rfl

variable (h : HandlerT)

def stepsInT (c : Ctx) (ops : Array Oper) : List Oper → Fr → St → DT (Option (Ex × Fr × St))
  | [], fr, s => .leaf (some (.normal, fr, s))
  | o :: rest, fr, s => splitL (asksOf ops o) fr fun fr => splitZ g fr o fun fr => (stepT g h c fr s ops o).andThen fun r =>
    match r.1 with
    | .normal => stepsInT c ops rest r.2.1 r.2.2
    | _ => .leaf (some r)

theorem stepsInT_eval (H : Handler) (hh : ∀ fv a c s, (h fv a c s).eval = H fv a c s) (c : Ctx) (ops : Array Oper) : ∀ (l : List Oper) (fr : Fr) (s : St), (stepsInT g h c ops l fr s).eval = stepsIn g H c ops l fr s := by
  intro l
  induction l with
  | nil => intro fr s; rfl
  | cons o rest ih =>
    intro fr s
    simp only [stepsInT, stepsIn, splitL_eval, splitZ_eval]
    rw [DT.eval_andThen (K := fun r => match r.1 with
      | .normal => stepsIn g H c ops rest r.2.1 r.2.2
      | _ => some r), stepT_eval g h H hh]
    · rfl
    · intro r
      obtain ⟨ex, fr', s'⟩ := r
      cases ex <;> first | exact ih _ _ | rfl

def noneL : List Nat → Bool
  | [] => true
  | _ => false
/-- The same as 'feetChk'; quick where an operation comes to no own variable. -/
def feetF (ops : Array Oper) (b : List (List Nat)) (j : Nat) (seen : List Foot) (fr : Fr) (o : Oper) : Bool :=
  match noneL (footOf ops fr o).1, noneL (footOf ops fr o).2 with
  | true, true => true
  | _, _ => feetChk ops b j seen fr o
theorem feetF_eq (ops : Array Oper) (b : List (List Nat)) (j : Nat) (seen : List Foot) (fr : Fr) (o : Oper) : feetF ops b j seen fr o = feetChk ops b j seen fr o := by
  unfold feetF
  split
  · rename_i h1 h2
    have e1 : (footOf ops fr o).1 = [] := by cases h : (footOf ops fr o).1 with | nil => rfl | cons a l => rw [h] at h1; cases h1
    have e2 : (footOf ops fr o).2 = [] := by cases h : (footOf ops fr o).2 with | nil => rfl | cons a l => rw [h] at h2; cases h2
    unfold feetChk
    rw [e1, e2]
    simp
  · rfl

def stepsDrawT (c : Ctx) (ops : Array Oper) (b : List (List Nat)) : Nat → List Foot → List Oper → Fr → St → DT (Option (Ex × Fr × St))
  | _, _, [], fr, s => .leaf (some (.normal, fr, s))
  | j, seen, o :: rest, fr, s => splitL (asksOf ops o) fr fun fr => splitZ g fr o fun fr =>
    if feetF ops b j seen fr o then
      if silentO ops o then
        (stepT g h (drawCtx c ops b ops.size j s.next seen) (fr.only ops o (footOf ops fr o).1) { heap := .nil, next := s.next } ops o).andThen fun r =>
          if r.2.2.next == s.next then
            match r.1 with
            | .normal => stepsDrawT c ops b (j + 1) (seen ++ [⟨s.next, s.next, (footOf ops fr o).1, (footOf ops fr o).2⟩]) rest (fr.with' r.2.1 o (footOf ops fr o).2) s
            | _ => .leaf none
          else .leaf none
      else
        (stepT g h (drawCtx c ops b ops.size j s.next seen) (fr.only ops o (footOf ops fr o).1) s ops o).andThen fun r =>
          match r.1 with
          | .normal => stepsDrawT c ops b (j + 1) (seen ++ [⟨s.next, r.2.2.next, (footOf ops fr o).1, (footOf ops fr o).2⟩]) rest (fr.with' r.2.1 o (footOf ops fr o).2) r.2.2
          | .pan v => .leaf (if fullOrdered b ops.size j && allOrdered ops b ops.size j then some (.pan v, r.2.1, r.2.2) else none)
          | _ => .leaf none
    else .leaf none

theorem stepsDrawT_eval (H : Handler) (hh : ∀ fv a c s, (h fv a c s).eval = H fv a c s) (c : Ctx) (ops : Array Oper) (b : List (List Nat)) : ∀ (l : List Oper) (j : Nat) (seen : List Foot) (fr : Fr) (s : St), (stepsDrawT g h c ops b j seen l fr s).eval = stepsDraw g H c ops b j seen l fr s := by
  intro l
  induction l with
  | nil => intro j seen fr s; rfl
  | cons o rest ih =>
    intro j seen fr s
    rw [stepsDraw_eq]
    simp only [stepsDrawT, splitL_eval, splitZ_eval, feetF_eq]
    cases hf : feetChk ops b j seen fr o with
    | false => rfl
    | true =>
      simp only [if_true]
      show _ = Option.bind (some ()) _
      simp only [Option.bind_some]
      split
      · rw [DT.eval_andThen (K := fun r => (chk (r.2.2.next == s.next)).bind fun _ => match r.1 with
          | .normal => stepsDraw g H c ops b (j + 1) (seen ++ [⟨s.next, s.next, (footOf ops fr o).1, (footOf ops fr o).2⟩]) rest (fr.with' r.2.1 o (footOf ops fr o).2) s
          | _ => none), stepT_eval g h H hh]
        · rfl
        intro r
        obtain ⟨ex, fr', s'⟩ := r
        cases hn : s'.next == s.next with
        | false => simp [chk, hn, DT.eval_leaf, DT.eval_node]
        | true =>
          simp only [chk, hn, if_true, Option.bind_some]
          cases ex <;> first | exact ih _ _ _ _ | rfl
      · rw [DT.eval_andThen (K := fun r => match r.1 with
          | .normal => stepsDraw g H c ops b (j + 1) (seen ++ [⟨s.next, r.2.2.next, (footOf ops fr o).1, (footOf ops fr o).2⟩]) rest (fr.with' r.2.1 o (footOf ops fr o).2) r.2.2
          | .pan v => (chk (fullOrdered b ops.size j && allOrdered ops b ops.size j)).bind fun _ => some (.pan v, r.2.1, r.2.2)
          | _ => none), stepT_eval g h H hh]
        · rfl
        intro r
        obtain ⟨ex, fr', s'⟩ := r
        cases ex with
        | normal => exact ih _ _ _ _
        | ret => rfl
        | exit i => rfl
        | pan v =>
          simp only [DT.eval_leaf, DT.eval_node, chk]
          split <;> rfl

def regionT (c : Ctx) (ops : Array Oper) (draw : Bool) (fr : Fr) (s : St) : DT (Option (Ex × Fr × St)) :=
  match draw with
  | true => match drawOkF ops (closure ops ops.size) with
    | true => stepsDrawT g h c ops (closure ops ops.size) 0 [] ops.toList fr s
    | false => match drawOk ops (closure ops ops.size) with
      | true => stepsDrawT g h c ops (closure ops ops.size) 0 [] ops.toList fr s
      | false => .leaf none
  | false => stepsInT g h c ops ops.toList fr s

theorem regionT_eval (H : Handler) (hh : ∀ fv a c s, (h fv a c s).eval = H fv a c s) (c : Ctx) (ops : Array Oper) (draw : Bool) (fr : Fr) (s : St) : (regionT g h c ops draw fr s).eval = region g H c ops draw fr s := by
  unfold regionT region
  cases draw with
  | true =>
    simp only [if_true]
    cases hf : drawOkF ops (closure ops ops.size) with
    | true => rw [drawOkF_ok hf]; exact stepsDrawT_eval g h H hh _ _ _ _ _ _ _ _
    | false =>
      cases hd : drawOk ops (closure ops ops.size) with
      | true => exact stepsDrawT_eval g h H hh _ _ _ _ _ _ _ _
      | false => rfl
  | false => exact stepsInT_eval g h H hh _ _ _ _ _

def roundsT (body : Fr → St → DT (Option (Ex × Fr × St))) (ds : List Tmp) : Nat → Fr → St → DT (Option (Ex × Fr × St))
  | 0, _, _ => .leaf none
  | n + 1, fr, s => (body (fr.wiped ds) s).andThen fun r =>
    match r.1 with
    | .normal => roundsT body ds n r.2.1 r.2.2
    | _ => .leaf (some r)

theorem roundsT_eval {body : Fr → St → DT (Option (Ex × Fr × St))} {B : Fr → St → Option (Ex × Fr × St)} (hb : ∀ fr s, (body fr s).eval = B fr s) (ds : List Tmp) : ∀ (n : Nat) (fr : Fr) (s : St), (roundsT body ds n fr s).eval = rounds B ds n fr s := by
  intro n
  induction n with
  | zero => intro fr s; rfl
  | succ n ih =>
    intro fr s
    simp only [roundsT, rounds]
    rw [DT.eval_andThen (K := fun r => match r.1 with
      | .normal => rounds B ds n r.2.1 r.2.2
      | _ => some r), hb]
    · rfl
    · intro r
      obtain ⟨ex, fr', s'⟩ := r
      cases ex <;> first | exact ih _ _ | rfl

def codeT (lim : Nat) (c : Ctx) : Code → Fr → St → DT (Option (Ex × Fr × St))
  | .region _ ops draw, fr, s => regionT g h c ops draw fr s
  | .seq a b, fr, s => (codeT lim c a fr s).andThen fun r =>
    match r.1 with
    | .normal => codeT lim c b r.2.1 r.2.2
    | _ => .leaf (some r)
  | .cond x a b, fr, s =>
    match fr.ev g x with
    | some (.bool t) =>
      (match x with
      | .tmp d => (match fr.tm.get d with
        | some (.bool _) => .node t (codeT lim c a { fr with tm := fr.tm.put d (.bool true) } s) (codeT lim c b { fr with tm := fr.tm.put d (.bool false) } s)
        | _ => .leaf none)
      | _ => .node t (codeT lim c a fr s) (codeT lim c b fr s))
    | _ => .leaf none
  | .block i a, fr, s => (codeT lim c a fr s).andThen fun r =>
    match r.1 with
    | .exit j => .leaf (some (if j = i then .normal else .exit j, r.2.1, r.2.2))
    | _ => .leaf (some r)
  | .loop a, fr, s => roundsT (codeT lim c a) (dropOf g fr.fn a) lim fr s
  | .rangeFunc f params assign body, fr, s =>
    match fr.gev g f with
    | some fv =>
      if isFn fv && roundSeen c fr s then
        (h fv #[.func (.yield s.next) #[] #[]] c (s.new (.loop { fn := fr.fn, nt := fr.nt, tm := fr.tm, params, assign, body, state := .ready, pending := none }))).andThen fun r =>
        match r.1 with
        | .ret _ =>
          (match r.2.heap.get s.next with
          | some (.loop l) => (match exitOf l.pending with
            | some e => .leaf (if l.state != .busy then some (e, fr, { r.2 with heap := r.2.heap.set s.next none }) else none)
            | none => .leaf none)
          | _ => .leaf none)
        | .pan _ => .leaf none
      else .leaf none
    | none => .leaf none
  | .scope a, fr, s => codeT lim c a fr s
  | .skip, fr, s => .leaf (some (.normal, fr, s))
  | .label _, fr, s => .leaf (some (.normal, fr, s))
  | .ret, fr, s => .leaf (some (.ret, fr, s))
  | .exit i, fr, s => .leaf (some (.exit i, fr, s))
  | _, _, _ => .leaf none

theorem codeT_eval (H : Handler) (hh : ∀ fv a c s, (h fv a c s).eval = H fv a c s) (lim : Nat) (c : Ctx) : ∀ (k : Code) (fr : Fr) (s : St), (codeT g h lim c k fr s).eval = code g H lim c k fr s := by
  intro k
  induction k with
  | skip => intro fr s; rfl
  | label l => intro fr s; rfl
  | ret => intro fr s; rfl
  | exit i => intro fr s; rfl
  | goto l => intro fr s; rfl
  | scope x ix => intro fr s; simp only [codeT, code]; exact ix fr s
  | refuse w => intro fr s; rfl
  | region i ops draw => intro fr s; exact regionT_eval g h H hh _ _ _ _ _
  | seq x y ix iy =>
    intro fr s
    simp only [codeT, code]
    rw [DT.eval_andThen (K := fun r => match r.1 with
      | .normal => code g H lim c y r.2.1 r.2.2
      | _ => some r), ix]
    · rfl
    · intro r
      obtain ⟨ex, fr', s'⟩ := r
      cases ex <;> first | exact iy _ _ | rfl
  | cond x y z iy iz =>
    intro fr s
    simp only [codeT, code]
    cases hv : fr.ev g x with
    | none => rfl
    | some v =>
      cases v <;> try rfl
      rename_i b
      cases x with
      | tmp d =>
        simp only [Fr.ev] at hv
        split at hv
        · cases hv
        · simp only [hv, DT.eval_leaf, DT.eval_node, iy, iz]
          cases b with
          | true => simp only [Tr.put_same hv]; rfl
          | false => simp only [Tr.put_same hv]; rfl
      | _ =>
        simp only [DT.eval_leaf, DT.eval_node, iy, iz]
        cases b <;> rfl
  | block i x ix =>
    intro fr s
    simp only [codeT, code]
    rw [DT.eval_andThen (K := fun r => match r.1 with
      | .exit j => some (if j = i then .normal else .exit j, r.2.1, r.2.2)
      | _ => some r), ix]
    · rfl
    · intro r
      obtain ⟨ex, fr', s'⟩ := r
      cases ex <;> rfl
  | loop x ix =>
    intro fr s
    simp only [codeT, code]
    exact roundsT_eval (fun fr s => ix fr s) _ _ _ _
  | rangeFunc f ps as body ia ib =>
    intro fr s
    simp only [codeT, code]
    cases hfv : fr.gev g f with
    | none => rfl
    | some fv =>
      simp only [Option.bind_eq_bind, Option.bind_some]
      generalize isFn fv = b1
      generalize roundSeen c fr s = b2
      cases b1 with
      | false => rfl
      | true =>
        cases b2 with
        | false => rfl
        | true =>
          simp only [Bool.and_self, if_true]
          show _ = Option.bind (some ()) fun _ => Option.bind (some ()) fun _ => _
          simp only [Option.bind_some]
          rw [DT.eval_andThen (K := fun r => match r.1 with
            | .ret _ =>
              (match r.2.heap.get s.next with
              | some (.loop l) => (exitOf l.pending).bind fun e => (chk (l.state != .busy)).bind fun _ => some (e, fr, { r.2 with heap := r.2.heap.set s.next none })
              | _ => none)
            | .pan _ => none), hh]
          · rfl
          · intro r
            obtain ⟨r1, s1⟩ := r
            cases r1 with
            | pan v => rfl
            | ret v =>
              simp only
              cases s1.heap.get s.next with
              | none => rfl
              | some o =>
                cases o with
                | loop l =>
                  simp only
                  cases exitOf l.pending with
                  | none => rfl
                  | some e =>
                    simp only [DT.eval_leaf, DT.eval_node, Option.bind_some, chk]
                    split <;> rfl
                | _ => rfl

def runBodyT (lim : Nat) (i : FnI) (f : FuncId) (args : Array Value) (c : Ctx) (s : St) : DT (Option (Outc × St)) :=
  if args.size ≤ i.nt then
    (codeT g h lim c i.body { fn := f, nt := i.nt, tm := args0 0 args.toList .nil, pt := .nil, loc := .nil, round := none } s).andThen fun r =>
    match r.1 with
    | .normal | .ret => .leaf ((resultsV g c r.2.1 r.2.2 i.results).map fun v => (.ret v, r.2.2))
    | .pan v => .leaf (some (.pan v, r.2.2))
    | .exit _ => .leaf none
  else .leaf none

theorem runBodyT_eval (H : Handler) (hh : ∀ fv a c s, (h fv a c s).eval = H fv a c s) (lim : Nat) (i : FnI) (f : FuncId) (args : Array Value) (c : Ctx) (s : St) : (runBodyT g h lim i f args c s).eval = runBody g H lim i f args c s := by
  unfold runBodyT runBody
  by_cases hle : args.size ≤ i.nt
  · rw [if_pos hle]
    simp only [chk, hle, decide_true, if_true]
    show _ = Option.bind (some ()) fun _ => _
    simp only [Option.bind_some]
    rw [DT.eval_andThen (K := fun r => match r.1 with
      | .normal | .ret => (resultsV g c r.2.1 r.2.2 i.results).bind fun v => some (.ret v, r.2.2)
      | .pan v => some (.pan v, r.2.2)
      | .exit _ => none), codeT_eval g h H hh]
    · rfl
    · intro r
      obtain ⟨ex, fr', s'⟩ := r
      cases ex with
      | normal => simp only [DT.eval_leaf, DT.eval_node]; cases resultsV g c fr' s' i.results <;> rfl
      | ret => simp only [DT.eval_leaf, DT.eval_node]; cases resultsV g c fr' s' i.results <;> rfl
      | exit i => rfl
      | pan v => rfl
  · rw [if_neg hle]
    simp only [chk, hle, decide_false, Bool.false_eq_true, if_false]
    rfl

def runRoundT (lim : Nat) (id : Nat) (args : Array Value) (c : Ctx) (s : St) : DT (Option (Outc × St)) :=
  match s.look c id with
  | some (.loop l) =>
    if c.wr id && args.size == l.params.size && l.params.all (decide <| · < l.nt) then
      (codeT g h lim c l.assign { fn := l.fn, nt := l.nt, tm := putAll (l.params.toList.zip args.toList) l.tm, pt := .nil, loc := .nil, round := some id } s).andThen fun r =>
      match r.1 with
      | .normal =>
        (match r.2.2.look c id with
        | some (.loop l1) =>
          if l1.state == .ready then
            (codeT g h lim c l.body r.2.1 { r.2.2 with heap := r.2.2.heap.put id (.loop { l1 with state := .busy }) }).andThen fun r =>
            match pendOf r.1 with
            | some p =>
              (match r.2.2.look c id with
              | some (.loop l2) => .leaf (some (.ret (.bool p.isNone), { r.2.2 with heap := r.2.2.heap.put id (.loop { l2 with state := if p.isNone then .ready else .done, pending := p }) }))
              | _ => .leaf none)
            | none => .leaf none
          else .leaf none
        | _ => .leaf none)
      | _ => .leaf none
    else .leaf none
  | _ => .leaf none

abbrev HandT := Array Value → Ctx → St → DT (Option (Outc × St))
variable (ht : FuncId → Option HandT)

def callT : Nat → HandlerT
  | 0, _, _, _, _ => .leaf none
  | n + 1, fv, args, c, s =>
    match fv with
    | .func (.func f) a b =>
      match g.hand f with
      | some hd => (match ht f with | some k => k (a ++ args ++ b) c s | none => .leaf (hd (a ++ args ++ b) c s))
      | none =>
        match g.fns f with
        | none => .leaf none
        | some i =>
          match i.pure with
          | true => (runBodyT g (callT n) n i f (a ++ args ++ b) { floor := s.next, own := [], hide := c.hide } s).andThen fun r =>
            match r.1 with
            | .ret v => .leaf ((shed s r.2 v).map fun x => (.ret x.1, x.2))
            | .pan _ => .leaf none
          | false => runBodyT g (callT n) n i f (a ++ args ++ b) c s
    | .func (.yield id) a b => if a.size = 0 ∧ b.size = 0 then runRoundT g (callT n) n id args c s else .leaf none
    | _ => .leaf none

theorem runRoundT_eval (H : Handler) (hh : ∀ fv a c s, (h fv a c s).eval = H fv a c s) (lim id : Nat) (args : Array Value) (c : Ctx) (s : St) : (runRoundT g h lim id args c s).eval = runRound g H lim id args c s := by
  unfold runRoundT runRound
  cases hl : s.look c id with
  | none => rfl
  | some o =>
    cases o with
    | loop l =>
      simp only
      cases hc : (c.wr id && args.size == l.params.size && l.params.all (decide <| · < l.nt)) with
      | false => rfl
      | true =>
        simp only [if_true]
        show _ = Option.bind (some ()) fun _ => _
        simp only [Option.bind_some]
        rw [DT.eval_andThen (K := fun r => match r.1 with
          | .normal =>
            (match r.2.2.look c id with
            | some (.loop l1) => (chk (l1.state == .ready)).bind fun _ => (code g H lim c l.body r.2.1 { r.2.2 with heap := r.2.2.heap.put id (.loop { l1 with state := .busy }) }).bind fun r => (pendOf r.1).bind fun p =>
                (match r.2.2.look c id with
                | some (.loop l2) => some (.ret (.bool p.isNone), { r.2.2 with heap := r.2.2.heap.put id (.loop { l2 with state := if p.isNone then .ready else .done, pending := p }) })
                | _ => none)
            | _ => none)
          | _ => none), codeT_eval g h H hh]
        · rfl
        · intro r
          obtain ⟨ex, fr', s'⟩ := r
          cases ex <;> try rfl
          simp only
          cases s'.look c id with
          | none => rfl
          | some o1 =>
            cases o1 with
            | loop l1 =>
              simp only
              cases hr : (l1.state == LoopState.ready) with
              | false => rfl
              | true =>
                simp only [if_true]
                show _ = Option.bind (some ()) fun _ => _
                simp only [Option.bind_some]
                rw [DT.eval_andThen (K := fun r => (pendOf r.1).bind fun p =>
                  (match r.2.2.look c id with
                  | some (.loop l2) => some (.ret (.bool p.isNone), { r.2.2 with heap := r.2.2.heap.put id (.loop { l2 with state := if p.isNone then .ready else .done, pending := p }) })
                  | _ => none)), codeT_eval g h H hh]
                intro r
                obtain ⟨ex2, fr2, s2⟩ := r
                simp only
                cases pendOf ex2 with
                | none => rfl
                | some p =>
                  simp only [Option.bind_some]
                  cases s2.look c id with
                  | none => rfl
                  | some o2 => cases o2 <;> rfl
            | _ => rfl
    | _ => rfl

theorem callT_eval (hht : ∀ f k hd, ht f = some k → g.hand f = some hd → ∀ a c s, (k a c s).eval = hd a c s) : ∀ (n : Nat) (fv : Value) (a : Array Value) (c : Ctx) (s : St), (callT g ht n fv a c s).eval = call g n fv a c s := by
  intro n
  induction n with
  | zero => intro fv a c s; rfl
  | succ n ih =>
    intro fv args c s
    simp only [callT, call]
    cases fv with
    | func fn a b =>
      cases fn with
      | func f =>
        simp only
        cases hh : g.hand f with
        | some hd =>
          cases hk : ht f with
          | none => rfl
          | some k => exact hht f k hd hk hh _ _ _
        | none =>
          simp only
          cases g.fns f with
          | none => rfl
          | some i =>
            simp only
            cases hp : i.pure with
            | false => exact runBodyT_eval g _ _ ih _ _ _ _ _ _
            | true =>
              simp only [if_true]
              rw [DT.eval_andThen (K := fun r => match r.1 with
                | .ret v => (shed s r.2 v).bind fun x => some (.ret x.1, x.2)
                | .pan _ => none), runBodyT_eval g _ _ ih]
              · rfl
              · intro r
                obtain ⟨r1, s1⟩ := r
                cases r1 with
                | ret v => simp only [DT.eval_leaf, DT.eval_node]; cases shed s s1 v <;> rfl
                | pan v => rfl
      | yield id =>
        simp only
        split
        · exact runRoundT_eval g _ _ ih _ _ _ _ _
        · rfl
      | _ => rfl
    | _ => rfl
end
end
end Go.Am
