/- An abstract machine for the kit's code: its data, and how its values stand to the machine's own. -/
import Derived.RangeFuncLeaves
import Derived.RangeFuncCalls
import Derived.OrdersIn
import Derived.LoopNIn
namespace Go.Am

/-! ### Tries: maps from numbers, made to be reckoned by the kernel -/
inductive Tr (α : Type) where
  | nil
  | node (l : Tr α) (v : Option α) (r : Tr α)

noncomputable section
def Tr.get {α : Type} (t : Tr α) : Nat → Option α :=
  Tr.rec (motive := fun _ => Nat → Option α) (fun _ => none) (fun _ v _ gl gr n => cond (Nat.beq n 0) v (cond (Nat.beq (Nat.mod n 2) 1) (gl (Nat.div n 2)) (gr (Nat.sub (Nat.div n 2) 1)))) t

def Tr.setF {α : Type} (f : Nat) : Tr α → Nat → Option α → Tr α :=
  Nat.rec (motive := fun _ => Tr α → Nat → Option α → Tr α) (fun t _ _ => t)
    (fun _ ih t n v => Tr.rec (motive := fun _ => Tr α)
      (cond (Nat.beq n 0) (.node .nil v .nil) (cond (Nat.beq (Nat.mod n 2) 1) (.node (ih .nil (Nat.div n 2) v) none .nil) (.node .nil none (ih .nil (Nat.sub (Nat.div n 2) 1) v))))
      (fun l w r _ _ => cond (Nat.beq n 0) (.node l v r) (cond (Nat.beq (Nat.mod n 2) 1) (.node (ih l (Nat.div n 2) v) w r) (.node l w (ih r (Nat.sub (Nat.div n 2) 1) v)))) t) f

def Tr.set {α : Type} (t : Tr α) (n : Nat) (v : Option α) : Tr α := Tr.setF (n + 1) t n v
def Tr.put {α : Type} (t : Tr α) (n : Nat) (v : α) : Tr α := t.set n (some v)

theorem cond_beq {α : Type} (n k : Nat) (x y : α) : cond (Nat.beq n k) x y = if n = k then x else y := by
  by_cases h : n = k
  · subst h; simp
  · have : Nat.beq n k = false := by
      cases hb : Nat.beq n k with
      | false => rfl
      | true => exact (h (Nat.eq_of_beq_eq_true hb)).elim
    rw [this, if_neg h]; rfl

theorem Tr.get_nil0 {α : Type} (n : Nat) : (Tr.nil : Tr α).get n = none := rfl
theorem Tr.get_node {α : Type} (l r : Tr α) (v : Option α) (n : Nat) : (Tr.node l v r).get n = if n = 0 then v else if n % 2 = 1 then l.get (n / 2) else r.get (n / 2 - 1) := by
  show cond (Nat.beq n 0) v (cond (Nat.beq (Nat.mod n 2) 1) (l.get (Nat.div n 2)) (r.get (Nat.sub (Nat.div n 2) 1))) = _
  rw [cond_beq, cond_beq]
  rfl
theorem Tr.setF_nil {α : Type} (f n : Nat) (v : Option α) : Tr.setF (f + 1) .nil n v = if n = 0 then .node .nil v .nil else if n % 2 = 1 then .node (Tr.setF f .nil (n / 2) v) none .nil else .node .nil none (Tr.setF f .nil (n / 2 - 1) v) := by
  show cond (Nat.beq n 0) (Tr.node .nil v .nil) (cond (Nat.beq (Nat.mod n 2) 1) (.node (Tr.setF f .nil (Nat.div n 2) v) none .nil) (.node .nil none (Tr.setF f .nil (Nat.sub (Nat.div n 2) 1) v))) = _
  rw [cond_beq, cond_beq]
  rfl
theorem Tr.setF_node {α : Type} (f n : Nat) (v w : Option α) (l r : Tr α) : Tr.setF (f + 1) (.node l w r) n v = if n = 0 then .node l v r else if n % 2 = 1 then .node (Tr.setF f l (n / 2) v) w r else .node l w (Tr.setF f r (n / 2 - 1) v) := by
  show cond (Nat.beq n 0) (Tr.node l v r) (cond (Nat.beq (Nat.mod n 2) 1) (.node (Tr.setF f l (Nat.div n 2) v) w r) (.node l w (Tr.setF f r (Nat.sub (Nat.div n 2) 1) v))) = _
  rw [cond_beq, cond_beq]
  rfl

theorem Tr.get_setF {α : Type} : ∀ (f : Nat) (t : Tr α) (n m : Nat) (v : Option α), n < f → (Tr.setF f t n v).get m = if m = n then v else t.get m := by
  intro f
  induction f with
  | zero => intro t n m v h; omega
  | succ f ih =>
    intro t n m v h
    have key : ∀ (l r : Tr α) (w : Option α), (if n = 0 then Tr.node l v r else if n % 2 = 1 then .node (Tr.setF f l (n / 2) v) w r else .node l w (Tr.setF f r (n / 2 - 1) v)).get m = if m = n then v else (Tr.node l w r).get m := by
      intro l r w
      by_cases n0 : n = 0
      · subst n0
        rw [if_pos rfl, Tr.get_node, Tr.get_node]
        by_cases m0 : m = 0
        · simp [m0]
        · simp [m0]
      · rw [if_neg n0]
        by_cases n1 : n % 2 = 1
        · rw [if_pos n1, Tr.get_node, Tr.get_node]
          by_cases m0 : m = 0
          · subst m0; rw [if_pos rfl, if_pos rfl, if_neg (by omega)]
          · rw [if_neg m0, if_neg m0]
            by_cases m1 : m % 2 = 1
            · rw [if_pos m1, if_pos m1, ih l (n / 2) (m / 2) v (by omega)]
              by_cases e : m = n
              · rw [if_pos (by omega), if_pos e]
              · rw [if_neg (by omega), if_neg e]
            · rw [if_neg m1, if_neg m1, if_neg (by rintro rfl; exact m1 n1)]
        · rw [if_neg n1, Tr.get_node, Tr.get_node]
          by_cases m0 : m = 0
          · subst m0; rw [if_pos rfl, if_pos rfl, if_neg (by omega)]
          · rw [if_neg m0, if_neg m0]
            by_cases m1 : m % 2 = 1
            · rw [if_pos m1, if_pos m1, if_neg (by rintro rfl; exact n1 m1)]
            · rw [if_neg m1, if_neg m1, ih r (n / 2 - 1) (m / 2 - 1) v (by omega)]
              by_cases e : m = n
              · rw [if_pos (by omega), if_pos e]
              · rw [if_neg (by omega), if_neg e]
    cases t with
    | nil =>
      rw [Tr.setF_nil]
      have := key .nil .nil none
      rw [this, Tr.get_node]
      by_cases e : m = n
      · rw [if_pos e, if_pos e]
      · rw [if_neg e, if_neg e, Tr.get_nil0]
        split
        · rfl
        · split <;> rfl
    | node l w r => rw [Tr.setF_node]; exact key l r w

theorem Tr.get_set {α : Type} (t : Tr α) (n m : Nat) (v : Option α) : (t.set n v).get m = if m = n then v else t.get m := Tr.get_setF _ _ _ _ _ (by omega)
theorem Tr.get_put {α : Type} (t : Tr α) (n m : Nat) (v : α) : (t.put n v).get m = if m = n then some v else t.get m := Tr.get_set _ _ _ _
theorem Tr.get_nil {α : Type} (n : Nat) : (Tr.nil : Tr α).get n = none := rfl

/-! ### What may be seen, and written -/
structure Ctx where
  floor : Nat
  own : List (Nat × Nat) := []
  hide : List (Nat × Nat)

def Ctx.vis (c : Ctx) (id : Nat) : Bool := c.hide.all fun r => decide (id < r.1) || decide (r.2 ≤ id)

/-- May an object be written? -/
def Ctx.wr (c : Ctx) (id : Nat) : Bool := decide (c.floor ≤ id) || c.own.any fun r => decide (r.1 ≤ id) && decide (id < r.2)

/-- A place below a number, that may be seen. -/
def In (c : Ctx) (n id : Nat) : Prop := id < n ∧ c.vis id = true
theorem In.lt {c : Ctx} {n id : Nat} (h : In c n id) : id < n := h.1
theorem In.up {c : Ctx} {n n' id : Nat} (h : In c n id) (hn : n ≤ n') : In c n' id := ⟨Nat.lt_of_lt_of_le h.1 hn, h.2⟩

/-! ### Where an abstract place lies -/
structure Pl where
  blk : Nat
  off : Nat
  ex : Nat

/-- Data that are never written: which rows lie where; and whether a value stands for itself. -/
class Zone where
  row : Array Value → Nat → Nat → Prop
  real : Prop
  same : Prop
  /-- rows of blocks of which more is known: what stands there -/
  whole : Array Value → Nat → Nat → Prop
  sub : ∀ X b o, whole X b o → row X b o
  says : Nat → Array Value → Prop

/-- A slice of a row that is never written, and a place in one. -/
abbrev VS (X : Array Value) (off len : Nat) : Value := .func (.method "") X #[.slice none off len]
abbrev VP (X : Array Value) (off : Nat) : Value := .func (.methodOf 0 "") X #[.slice none off 0]

/-- An abstract value, and the machine's: places are told by φ; only places below n come up; a slice's capacity may be greater by what φ says. -/
inductive Vrel [Z : Zone] (φ : Nat → Pl) (c : Ctx) (n : Nat) : Value → Value → Prop where
  | bool (b : Bool) : Vrel φ c n (.bool b) (.bool b)
  | int (k : IntKind) (i : Int) : Vrel φ c n (.int k i) (.int k i)
  | float (k : FloatKind) (i : Nat) : Vrel φ c n (.float k i) (.float k i)
  | string (s : ByteArray) : Vrel φ c n (.string s) (.string s)
  | nilPointer : Vrel φ c n (.pointer none) (.pointer none)
  | pointer (id o : Nat) (h : In c n id) : Vrel φ c n (.pointer (some ⟨id, o, none⟩)) (.pointer (some ⟨(φ id).blk, (φ id).off + o, none⟩))
  | nilSlice (l cp : Nat) : Vrel φ c n (.slice none l cp) (.slice none l cp)
  | slice (id o l cp : Nat) (h : In c n id) : Vrel φ c n (.slice (some ⟨id, o, none⟩) l cp) (.slice (some ⟨(φ id).blk, (φ id).off + o, none⟩) l (cp + (φ id).ex))
  | nilMap : Vrel φ c n (.map none) (.map none)
  | map (id : Nat) (h : In c n id) : Vrel φ c n (.map (some id)) (.map (some (φ id).blk))
  | func (f : FuncId) (a b a' b' : Array Value) (ha : a.size = a'.size) (hb : b.size = b'.size)
      (hA : ∀ (i : Nat) (x x' : Value), a[i]? = some x → a'[i]? = some x' → Vrel φ c n x x') (hB : ∀ (i : Nat) (x x' : Value), b[i]? = some x → b'[i]? = some x' → Vrel φ c n x x') :
      Vrel φ c n (.func (.func f) a b) (.func (.func f) a' b')
  | yield (id : Nat) (h : In c n id) : Vrel φ c n (.func (.yield id) #[] #[]) (.func (.yield (φ id).blk) #[] #[])
  | nilFunc : Vrel φ c n .nilFunc .nilFunc
  | iface (t : TypeId) (v v' : Value) (h : Vrel φ c n v v') : Vrel φ c n (.iface t v) (.iface t v')
  | nilIface : Vrel φ c n .nilIface .nilIface
  | agg (a a' : Array Value) (ha : a.size = a'.size) (hA : ∀ (i : Nat) (x x' : Value), a[i]? = some x → a'[i]? = some x' → Vrel φ c n x x') : Vrel φ c n (.agg a) (.agg a')
  | tuple (a a' : Array Value) (ha : a.size = a'.size) (hA : ∀ (i : Nat) (x x' : Value), a[i]? = some x → a'[i]? = some x' → Vrel φ c n x x') : Vrel φ c n (.tuple a) (.tuple a')
  | vslice (nm : String) (X : Array Value) (o l cp b o' : Nat) (h : Zone.row X b o') (hl : l ≤ cp) : Vrel φ c n (.func (.method nm) X #[.slice none o l]) (.slice (some ⟨b, o' + o, none⟩) l cp)
  | vnil (nm : String) (X : Array Value) (o cp : Nat) (p : Option Addr) (h : Zone.real) : Vrel φ c n (.func (.method nm) X #[.slice none o 0]) (.slice p 0 cp)
  | vptr (t : TypeId) (nm : String) (X : Array Value) (o l b o' : Nat) (h : Zone.row X b o') : Vrel φ c n (.func (.methodOf t nm) X #[.slice none o l]) (.pointer (some ⟨b, o' + o, none⟩))
  | vsame (nm : String) (X : Array Value) (o l : Nat) (h : Zone.same) : Vrel φ c n (.func (.method nm) X #[.slice none o l]) (.func (.method nm) X #[.slice none o l])
  | psame (t : TypeId) (nm : String) (X : Array Value) (o l : Nat) (h : Zone.same) : Vrel φ c n (.func (.methodOf t nm) X #[.slice none o l]) (.func (.methodOf t nm) X #[.slice none o l])

section
variable {Z : Zone}

theorem Vrel.mono {φ φ' : Nat → Pl} {c : Ctx} {n n' : Nat} (hφ : ∀ id, id < n → φ' id = φ id) (hn : n ≤ n') {v v' : Value} (h : Vrel φ c n v v') : Vrel φ' c n' v v' := by
  induction h with
  | bool b => exact .bool b
  | int k i => exact .int k i
  | float k i => exact .float k i
  | string s => exact .string s
  | nilPointer => exact .nilPointer
  | pointer id o h => rw [← hφ id h.1]; exact .pointer id o (h.up hn)
  | nilSlice l cp => exact .nilSlice l cp
  | slice id o l cp h => rw [← hφ id h.1]; exact .slice id o l cp (h.up hn)
  | nilMap => exact .nilMap
  | map id h => rw [← hφ id h.1]; exact .map id (h.up hn)
  | func f a b a' b' ha hb _ _ iA iB => exact .func f a b a' b' ha hb iA iB
  | yield id h => rw [← hφ id h.1]; exact .yield id (h.up hn)
  | nilFunc => exact .nilFunc
  | iface t v v' _ ih => exact .iface t v v' ih
  | nilIface => exact .nilIface
  | agg a a' ha _ iA => exact .agg a a' ha iA
  | tuple a a' ha _ iA => exact .tuple a a' ha iA
  | vslice nm X o l cp b o' hz hl => exact .vslice nm X o l cp b o' hz hl
  | vnil nm X o cp p h => exact .vnil nm X o cp p h
  | vptr t nm X o l b o' h => exact .vptr t nm X o l b o' h
  | vsame nm X o l h => exact .vsame nm X o l h
  | psame t nm X o l h => exact .psame t nm X o l h

/-- From one sight to another. -/
theorem Vrel.conv {φ φ' : Nat → Pl} {c c' : Ctx} {n n' : Nat} (hi : ∀ id, In c n id → In c' n' id ∧ φ' id = φ id) {v v' : Value} (h : Vrel φ c n v v') : Vrel φ' c' n' v v' := by
  induction h with
  | bool b => exact .bool b
  | int k i => exact .int k i
  | float k i => exact .float k i
  | string s => exact .string s
  | nilPointer => exact .nilPointer
  | pointer id o h => rw [← (hi id h).2]; exact .pointer id o (hi id h).1
  | nilSlice l cp => exact .nilSlice l cp
  | slice id o l cp h => rw [← (hi id h).2]; exact .slice id o l cp (hi id h).1
  | nilMap => exact .nilMap
  | map id h => rw [← (hi id h).2]; exact .map id (hi id h).1
  | func f a b a' b' ha hb _ _ iA iB => exact .func f a b a' b' ha hb iA iB
  | yield id h => rw [← (hi id h).2]; exact .yield id (hi id h).1
  | nilFunc => exact .nilFunc
  | iface t v v' _ ih => exact .iface t v v' ih
  | nilIface => exact .nilIface
  | agg a a' ha _ iA => exact .agg a a' ha iA
  | tuple a a' ha _ iA => exact .tuple a a' ha iA
  | vslice nm X o l cp b o' hz hl => exact .vslice nm X o l cp b o' hz hl
  | vnil nm X o cp p h => exact .vnil nm X o cp p h
  | vptr t nm X o l b o' h => exact .vptr t nm X o l b o' h
  | vsame nm X o l h => exact .vsame nm X o l h
  | psame t nm X o l h => exact .psame t nm X o l h

variable [Z]
/-- Lists of values. -/
def Arel (φ : Nat → Pl) (c : Ctx) (n : Nat) (a a' : Array Value) : Prop :=
  a.size = a'.size ∧ ∀ (i : Nat) (x x' : Value), a[i]? = some x → a'[i]? = some x' → Vrel φ c n x x'
variable {Z}

theorem Arel.mono {φ φ' : Nat → Pl} {c : Ctx} {n n' : Nat} (hφ : ∀ id, id < n → φ' id = φ id) (hn : n ≤ n') {v v' : Array Value} (h : Arel φ c n v v') : Arel φ' c n' v v' :=
  ⟨h.1, fun i x x' hx hx' => (h.2 i x x' hx hx').mono hφ hn⟩

theorem Arel.conv {φ φ' : Nat → Pl} {c c' : Ctx} {n n' : Nat} (hi : ∀ id, In c n id → In c' n' id ∧ φ' id = φ id) {v v' : Array Value} (h : Arel φ c n v v') : Arel φ' c' n' v v' :=
  ⟨h.1, fun i x x' hx hx' => (h.2 i x x' hx hx').conv hi⟩

variable [Z]
theorem Arel.nil {φ : Nat → Pl} {c : Ctx} {n : Nat} : Arel φ c n #[] #[] := ⟨rfl, fun i x x' h _ => by simp at h⟩
variable {Z}
theorem Arel.get {φ : Nat → Pl} {c : Ctx} {n : Nat} {a a' : Array Value} (h : Arel φ c n a a') {i : Nat} {x : Value} (hx : a[i]? = some x) : ∃ x', a'[i]? = some x' ∧ Vrel φ c n x x' := by
  obtain ⟨hi, _⟩ := Array.getElem?_eq_some_iff.1 hx
  have hi' : i < a'.size := by rw [← h.1]; exact hi
  exact ⟨a'[i], Array.getElem?_eq_getElem hi', h.2 i x _ hx (Array.getElem?_eq_getElem hi')⟩
theorem Arel.append {φ : Nat → Pl} {c : Ctx} {n : Nat} {a a' b b' : Array Value} (h : Arel φ c n a a') (k : Arel φ c n b b') : Arel φ c n (a ++ b) (a' ++ b') := by
  refine ⟨by simp [h.1, k.1], fun i x x' hx hx' => ?_⟩
  rw [Array.getElem?_append] at hx hx'
  rw [h.1] at hx
  split at hx
  · rename_i hlt; rw [if_pos hlt] at hx'; exact h.2 _ _ _ hx hx'
  · rename_i hlt; rw [if_neg hlt] at hx'; exact k.2 _ _ _ hx hx'

/-! ### Values in which no place stands -/
def plainFn : Fn → Bool
  | .func _ => true
  | _ => false
def plainN : Nat → Value → Bool
  | 0, _ => false
  | d + 1, v => match v with
    | .bool _ | .int _ _ | .string _ | .nilFunc | .nilIface | .pointer none | .map none | .float _ _ => true
    | .slice none _ _ => true
    | .iface _ v => plainN d v
    | .agg cs => cs.all (plainN d)
    | .tuple cs => cs.all (plainN d)
    | .func fn a b => plainFn fn && a.all (plainN d) && b.all (plainN d)
    | _ => false

theorem all_get {p : Value → Bool} {a : Array Value} (h : a.all p = true) {i : Nat} {x : Value} (hx : a[i]? = some x) : p x = true := by
  obtain ⟨hi, rfl⟩ := Array.getElem?_eq_some_iff.1 hx
  exact (Array.all_eq_true.1 h) i hi

theorem arr_ext {a a' : Array Value} (hs : a.size = a'.size) (h : ∀ (i : Nat) (x x' : Value), a[i]? = some x → a'[i]? = some x' → x' = x) : a' = a := by
  apply Array.ext hs.symm
  intro i h1 h2
  exact h i _ _ (Array.getElem?_eq_getElem h2) (Array.getElem?_eq_getElem h1)

theorem plain_eq {φ : Nat → Pl} {c : Ctx} {n : Nat} : ∀ (d : Nat) (v v' : Value), plainN d v = true → Vrel φ c n v v' → v' = v := by
  intro d
  induction d with
  | zero => intro v v' h; simp [plainN] at h
  | succ d ih =>
    intro v v' h hr
    cases hr with
    | bool | int | float | string | nilPointer | nilSlice | nilMap | nilFunc | nilIface => rfl
    | pointer | slice | map | yield | vslice | vnil | vptr | vsame | psame => simp [plainN, plainFn] at h
    | iface t v v' hv => rw [ih v v' (by simpa [plainN] using h) hv]
    | agg a a' ha hA =>
      have h : a.all (plainN d) = true := by simpa only [plainN] using h
      rw [arr_ext ha fun i x x' hx hx' => ih x x' (all_get h hx) (hA i x x' hx hx')]
    | tuple a a' ha hA =>
      have h : a.all (plainN d) = true := by simpa only [plainN] using h
      rw [arr_ext ha fun i x x' hx hx' => ih x x' (all_get h hx) (hA i x x' hx hx')]
    | func f a b a' b' ha hb hA hB =>
      have h : (plainFn (.func f) && a.all (plainN d) && b.all (plainN d)) = true := by simpa only [plainN] using h
      simp only [Bool.and_eq_true] at h
      rw [arr_ext ha fun i x x' hx hx' => ih x x' (all_get h.1.2 hx) (hA i x x' hx hx'), arr_ext hb fun i x x' hx hx' => ih x x' (all_get h.2 hx) (hB i x x' hx hx')]

variable [Z]
theorem plain_rel (φ : Nat → Pl) (c : Ctx) (n : Nat) : ∀ (d : Nat) (v : Value), plainN d v = true → Vrel φ c n v v := by
  intro d
  induction d with
  | zero => intro v h; simp [plainN] at h
  | succ d ih =>
    have aux : ∀ a : Array Value, a.all (plainN d) = true → ∀ (i : Nat) (x x' : Value), a[i]? = some x → a[i]? = some x' → Vrel φ c n x x' := by
      intro a h i x x' hx hx'
      rw [hx] at hx'; cases hx'
      exact ih x (all_get h hx)
    intro v h
    match v, h with
    | .bool b, _ => exact .bool b
    | .int k i, _ => exact .int k i
    | .float k i, _ => exact .float k i
    | .string s, _ => exact .string s
    | .nilFunc, _ => exact .nilFunc
    | .nilIface, _ => exact .nilIface
    | .pointer none, _ => exact .nilPointer
    | .map none, _ => exact .nilMap
    | .slice none l cp, _ => exact .nilSlice l cp
    | .iface t v, h => exact .iface t v v (ih v (by simpa only [plainN] using h))
    | .agg cs, h => exact .agg cs cs rfl (aux cs (by simpa only [plainN] using h))
    | .tuple cs, h => exact .tuple cs cs rfl (aux cs (by simpa only [plainN] using h))
    | .func (.func f) a b, h =>
      have h : (plainFn (.func f) && a.all (plainN d) && b.all (plainN d)) = true := by simpa only [plainN] using h
      simp only [Bool.and_eq_true] at h
      exact .func f a b a b rfl rfl (aux a h.1.2) (aux b h.2)
    | .func (.method _) a b, h => simp [plainN, plainFn] at h
    | .func (.methodOf _ _) a b, h => simp [plainN, plainFn] at h
    | .func (.via _ _ _ _) a b, h => simp [plainN, plainFn] at h
    | .func (.yield _) a b, h => simp [plainN, plainFn] at h
    | .pointer (some _), h => simp [plainN] at h
    | .map (some _), h => simp [plainN] at h
    | .slice (some _) _ _, h => simp [plainN] at h
    | .chan _, h => simp [plainN] at h
    | .complex _ _ _, h => simp [plainN] at h

variable {Z}

/-! ### Values in which no place stands but in rows that are never written -/
def isVS : Value → Bool
  | .func (.method nm) _ ⟨[.slice none _ _]⟩ => decide (nm = "")
  | _ => false
def isVP : Value → Bool
  | .func (.methodOf _ _) _ ⟨[.slice none _ _]⟩ => true
  | _ => false
def freeN : Nat → Value → Bool
  | 0, _ => false
  | d + 1, v => match v with
    | .bool _ | .int _ _ | .string _ | .nilFunc | .nilIface | .pointer none | .map none | .float _ _ => true
    | .slice none _ _ => true
    | .iface _ v => freeN d v
    | .agg cs => cs.all (freeN d)
    | .tuple cs => cs.all (freeN d)
    | .func (.func _) a b => a.all (freeN d) && b.all (freeN d)
    | .func (.method _) _ ⟨[.slice none _ _]⟩ => true
    | .func (.methodOf _ _) _ ⟨[.slice none _ _]⟩ => true
    | _ => false

theorem free_move {φ φ' : Nat → Pl} {c c' : Ctx} {n n' : Nat} : ∀ (d : Nat) (v v' : Value), freeN d v = true → Vrel φ c n v v' → Vrel φ' c' n' v v' := by
  intro d
  induction d with
  | zero => intro v v' h; simp [freeN] at h
  | succ d ih =>
    intro v v' h hr
    cases hr with
    | bool b => exact .bool b
    | int k i => exact .int k i
    | float k i => exact .float k i
    | string s => exact .string s
    | nilPointer => exact .nilPointer
    | nilSlice l cp => exact .nilSlice l cp
    | nilMap => exact .nilMap
    | nilFunc => exact .nilFunc
    | nilIface => exact .nilIface
    | pointer | slice | map | yield => simp [freeN] at h
    | iface t v v' hv => exact .iface t v v' (ih v v' (by simpa only [freeN] using h) hv)
    | agg a a' ha hA =>
      have h : a.all (freeN d) = true := by simpa only [freeN] using h
      exact .agg a a' ha fun i x x' hx hx' => ih x x' (all_get h hx) (hA i x x' hx hx')
    | tuple a a' ha hA =>
      have h : a.all (freeN d) = true := by simpa only [freeN] using h
      exact .tuple a a' ha fun i x x' hx hx' => ih x x' (all_get h hx) (hA i x x' hx hx')
    | func f a b a' b' ha hb hA hB =>
      have h : (a.all (freeN d) && b.all (freeN d)) = true := by simpa only [freeN] using h
      simp only [Bool.and_eq_true] at h
      exact .func f a b a' b' ha hb (fun i x x' hx hx' => ih x x' (all_get h.1 hx) (hA i x x' hx hx')) (fun i x x' hx hx' => ih x x' (all_get h.2 hx) (hB i x x' hx hx'))
    | vslice nm X o l cp b o' hz hl => exact .vslice nm X o l cp b o' hz hl
    | vnil nm X o cp p hz => exact .vnil nm X o cp p hz
    | vptr t nm X o l b o' hz => exact .vptr t nm X o l b o' hz
    | vsame nm X o l hz => exact .vsame nm X o l hz
    | psame t nm X o l hz => exact .psame t nm X o l hz

end

/-- Operations that touch no memory, run apart from any world. -/
def purely (P : Program) {α : Type} : Sem α → Option α
  | .pure a => some a
  | .program k => purely P (k P)
  | .mark _ k => purely P k
  | _ => none

theorem purely_run {P : Program} {α : Type} {s : Sem α} {a : α} (h : purely P s = some a) (w : World) : s.run P w = .ok a w := by
  induction s with
  | pure b => simp [purely] at h; subst h; rfl
  | program k ih => exact ih P h
  | mark m k ih => exact ih h
  | load | store | new | shape | freeze | frozen | getObj | setObj | choose | sys | halt => simp [purely] at h

end
end Go.Am
