/- Calls that turn a thing (two numbers and a row of plain values), told by what they make of it. -/
import Derived.Test.YtmpokdnpkjcnbaaDoorAmFlow
import Derived.Test.YtmpokdnpkjcnbaaDoorAmFn
namespace Go.Am
noncomputable section

/-- A thing: two numbers, and a row (or none). -/
structure Net where
  a : Int
  b : Int
  nl : Bool
  M : Array Value

def netV (r : Nat) (nl : Bool) (M : Array Value) : Value := .slice (cond nl none (some ⟨r, 0, none⟩)) (cond nl 0 M.size) (cond nl 0 M.size)
def netO (nl : Bool) (M : Array Value) : Option AObj := cond nl none (some (.cells M 1 true))
def lay (j : Bool) (a b : Int) (v : Value) : Array Value := cond j #[.int .i64 a, v, .int .i64 b] #[.int .i64 a, .int .i64 b, v]
def boxO (j : Bool) (a b : Int) (v : Value) : AObj := .cells (lay j a b v) 1 false
def netS (j : Bool) (n : Net) : St := ⟨(Tr.nil.put 0 (boxO j n.a n.b (netV 1 n.nl n.M))).set 1 (netO n.nl n.M), 2⟩

/-- What a call makes of it. -/
structure Eff where
  ok : Net → List Value → Bool
  res : Net → List Value → Value
  a : Net → List Value → Int
  b : Net → List Value → Int
  row : Net → List Value → Option (Bool × Array Value)

def isNilV : Value → Bool
  | .slice none _ _ => true
  | _ => false
def rowM : Option AObj → Array Value
  | some (.cells M _ _) => M
  | _ => #[]
/-- the row stands where it should -/
def okV (id : Nat) (v : Value) (o : Option AObj) : Bool :=
  match v, o with
  | .slice none 0 0, none => true
  | .slice (some ⟨r, 0, none⟩) l cp, some (.cells M 1 true) => decide (r = id + 1) && decide (l = M.size) && decide (cp = M.size) && M.all (freeN 9)
  | _, _ => false
def effOk (id : Nat) (v : Value) (c : Ctx) (s : St) (l : List Value) : Bool :=
  okV id v (s.heap.get (id + 1)) && decide (id + 1 < s.next) && decide (c.floor ≤ s.next) && c.wr id && c.wr (id + 1) && c.vis id && c.vis (id + 1) && l.all (freeN 9)
def vP : Value → Option Addr
  | .slice p _ _ => p
  | _ => none
def vN : Value → Nat
  | .slice _ l _ => l
  | _ => 0
def vC : Value → Nat
  | .slice _ _ c => c
  | _ => 0
def newV (nx : Nat) (v : Value) (row : Option (Bool × Array Value)) : Value :=
  .slice (match row with | none => vP v | some x => cond x.1 none (some ⟨nx, 0, none⟩)) (match row with | none => vN v | some x => cond x.1 0 x.2.size) (match row with | none => vC v | some x => cond x.1 0 x.2.size)
def oldO (o : Option AObj) : Option (Bool × Array Value) → Option AObj
  | none => o
  | some _ => none
def newO : Option (Bool × Array Value) → Option AObj
  | none => none
  | some x => netO x.1 x.2
def effS (j : Bool) (E : Eff) (n : Net) (id : Nat) (v : Value) (l : List Value) (s : St) : St :=
  { heap := ((s.heap.put id (boxO j (E.a n l) (E.b n l) (newV s.next v (E.row n l)))).set (id + 1) (oldO (s.heap.get (id + 1)) (E.row n l))).set s.next (newO (E.row n l)), next := s.next + 1 }
def effK (j : Bool) (E : Eff) (id : Nat) (a b : Int) (v : Value) (l : List Value) (c : Ctx) (s : St) : DT (Option (Outc × St)) :=
  .must (effOk id v c s l && E.ok ⟨a, b, isNilV v, rowM (s.heap.get (id + 1))⟩ l && plainN 9 (E.res ⟨a, b, isNilV v, rowM (s.heap.get (id + 1))⟩ l))
    (.leaf (some (.ret (E.res ⟨a, b, isNilV v, rowM (s.heap.get (id + 1))⟩ l), effS j E ⟨a, b, isNilV v, rowM (s.heap.get (id + 1))⟩ id v l s))) (.leaf none)
def effB (j : Bool) (E : Eff) (id : Nat) (x y z : Value) (l : List Value) (c : Ctx) (s : St) : DT (Option (Outc × St)) :=
  match x, cond j z y with
  | .int .i64 a, .int .i64 b => effK j E id a b (cond j y z) l c s
  | _, _ => .leaf none
def effT (j : Bool) (E : Eff) : HandT := fun args c s =>
  match args with
  | ⟨.pointer (some ⟨id, 0, none⟩) :: l⟩ =>
    (match s.heap.get id with
    | some (.cells ⟨[x, y, z]⟩ 1 false) => effB j E id x y z l c s
    | _ => .leaf none)
  | _ => .leaf none
def effH (j : Bool) (E : Eff) : Hand := fun args c s => (effT j E args c s).eval

/-- What the end of a call has to be. -/
def EffEnd (j : Bool) (a b : Int) (n : Net) (row : Option (Bool × Array Value)) (s1 : St) : Prop :=
  match row with
  | none => s1.heap.get 0 = some (boxO j a b (netV 1 n.nl n.M)) ∧ s1.heap.get 1 = netO n.nl n.M
  | some (true, _) => s1.heap.get 0 = some (boxO j a b (.slice none 0 0))
  | some (false, M) => ∃ r l cp X sp, s1.heap.get 0 = some (boxO j a b (.slice (some ⟨r, 0, none⟩) l cp)) ∧ s1.heap.get r = some (.cells X 1 sp) ∧ r ≠ 0 ∧ r ≠ 1 ∧ M = X.extract 0 l ∧ l ≤ X.size ∧ l ≤ cp ∧ cp ≤ X.size ∧ X.all (freeN 9) = true ∧ (X.size ≠ 0 ∨ sp = true)

theorem effT_some {j : Bool} {E : Eff} {args : Array Value} {c : Ctx} {s : St} {r : Outc × St} (h : (effT j E args c s).eval = some r) :
    ∃ id n l, args = ⟨.pointer (some ⟨id, 0, none⟩) :: l⟩ ∧ s.heap.get id = some (boxO j n.a n.b (netV (id + 1) n.nl n.M)) ∧ s.heap.get (id + 1) = netO n.nl n.M ∧ n.M.all (freeN 9) = true ∧ id + 1 < s.next ∧ c.floor ≤ s.next ∧ c.wr id = true ∧ c.wr (id + 1) = true ∧ c.vis id = true ∧ c.vis (id + 1) = true ∧ l.all (freeN 9) = true ∧
      E.ok n l = true ∧ plainN 9 (E.res n l) = true ∧ r = (.ret (E.res n l), effS j E n id (netV (id + 1) n.nl n.M) l s) := by
  unfold effT at h
  split at h
  · rename_i id l
    split at h
    · rename_i x y z hget
      unfold effB at h
      split at h
      · rename_i a b hb
        unfold effK at h
        rw [DT.eval_must] at h
        cases hc : (effOk id (cond j y z) c s l && E.ok ⟨a, b, isNilV (cond j y z), rowM (s.heap.get (id + 1))⟩ l && plainN 9 (E.res ⟨a, b, isNilV (cond j y z), rowM (s.heap.get (id + 1))⟩ l)) with
        | false => rw [hc] at h; cases h
        | true =>
          rw [hc, cond_true, DT.eval_leaf] at h
          cases h
          simp only [effOk, Bool.and_eq_true, decide_eq_true_eq] at hc
          obtain ⟨⟨⟨⟨⟨⟨⟨⟨⟨h1, h2⟩, h3⟩, h4⟩, h5⟩, h6⟩, h7⟩, h8⟩, h9⟩, h10⟩ := hc
          have hcell : (AObj.cells ⟨[.int .i64 a, y, z]⟩ 1 false) = boxO j a b (cond j y z) := by
            cases j with
            | true => simp only [cond_true] at hb; subst hb; rfl
            | false => simp only [cond_false] at hb; subst hb; rfl
          have key : cond j y z = netV (id + 1) (isNilV (cond j y z)) (rowM (s.heap.get (id + 1))) ∧ s.heap.get (id + 1) = netO (isNilV (cond j y z)) (rowM (s.heap.get (id + 1))) ∧ (rowM (s.heap.get (id + 1))).all (freeN 9) = true := by
            generalize cond j y z = v at h1 ⊢
            generalize s.heap.get (id + 1) = o at h1 ⊢
            unfold okV at h1
            split at h1
            · exact ⟨rfl, rfl, by simp [rowM]⟩
            · simp only [Bool.and_eq_true, decide_eq_true_eq] at h1
              obtain ⟨⟨⟨rfl, rfl⟩, rfl⟩, h1⟩ := h1
              exact ⟨rfl, rfl, h1⟩
            · cases h1
          refine ⟨id, ⟨a, b, isNilV (cond j y z), rowM (s.heap.get (id + 1))⟩, l, rfl, ?_, key.2.1, key.2.2, h2, h3, h4, h5, h6, h7, h8, h9, h10, ?_⟩
          · rw [hget, hcell]; simp only; rw [← key.1]
          · simp only; rw [← key.1]
      · cases h
    · cases h
  · cases h

theorem lay_get {j : Bool} {a b : Int} {v v' : Value} {P : Value → Value → Prop} (hi : ∀ k n, P (.int k n) (.int k n)) (hv : P v v') : (lay j a b v).size = (lay j a b v').size ∧ ∀ (i : Nat) x x', (lay j a b v)[i]? = some x → (lay j a b v')[i]? = some x' → P x x' := by
  cases j
  · refine ⟨rfl, fun i x x' hx hx' => ?_⟩
    match i with
    | 0 => simp [lay] at hx hx'; subst hx hx'; exact hi _ _
    | 1 => simp [lay] at hx hx'; subst hx hx'; exact hi _ _
    | 2 => simp [lay] at hx hx'; subst hx hx'; exact hv
    | i + 3 => simp [lay] at hx
  · refine ⟨rfl, fun i x x' hx hx' => ?_⟩
    match i with
    | 0 => simp [lay] at hx hx'; subst hx hx'; exact hi _ _
    | 1 => simp [lay] at hx hx'; subst hx hx'; exact hv
    | 2 => simp [lay] at hx hx'; subst hx hx'; exact hi _ _
    | i + 3 => simp [lay] at hx

theorem box_ren {e : Nat → Nat} {m : Nat} {j : Bool} {a b : Int} {v v' : Value} (h : VRen e m v v') : ObRen e m (boxO j a b v) (boxO j a b v') := by
  obtain ⟨h1, h2⟩ := lay_get (j := j) (a := a) (b := b) (P := VRen e m) (fun k n => Vrel.int (Z := idZone) k n) h
  exact ⟨rfl, rfl, h1, h2⟩
theorem row_ren {e : Nat → Nat} {m : Nat} {M : Array Value} {sz : Nat} {sp : Bool} (h : M.all (freeN 9) = true) : ObRen e m (.cells M sz sp) (.cells M sz sp) :=
  ⟨rfl, rfl, rfl, fun k x x' hx hx' => by
    rw [hx] at hx'; cases hx'
    exact free_self _ _ _ 9 x (all_get h hx)⟩
theorem slice_ren (e : Nat → Nat) {m i o l cp : Nat} (hi : i < m) : VRen e m (.slice (some ⟨i, o, none⟩) l cp) (.slice (some ⟨e i, o, none⟩) l cp) := by
  have := Vrel.slice (Z := idZone) (φ := emb e) (c := cAll) (n := m) i o l cp ⟨hi, rfl⟩
  simpa [emb] using this
theorem ptr_ren (e : Nat → Nat) {m i o : Nat} (hi : i < m) : VRen e m (.pointer (some ⟨i, o, none⟩)) (.pointer (some ⟨e i, o, none⟩)) := by
  have := Vrel.pointer (Z := idZone) (φ := emb e) (c := cAll) (n := m) i o ⟨hi, rfl⟩
  simpa [emb] using this
theorem netV_ren (e : Nat → Nat) {m i : Nat} (hi : i < m) (nl : Bool) (M : Array Value) : VRen e m (netV i nl M) (netV (e i) nl M) := by
  cases nl
  · exact slice_ren e hi
  · exact Vrel.nilSlice (Z := idZone) 0 0

/-- three places -/
def tri (x y z : Nat) : Nat → Nat := fun i => if i = 0 then x else if i = 1 then y else z
theorem tri0 (x y z : Nat) : tri x y z 0 = x := rfl
theorem tri1 (x y z : Nat) : tri x y z 1 = y := rfl
theorem tri2 (x y z : Nat) : tri x y z 2 = z := rfl

theorem netS_get {j : Bool} {n : Net} {i : Nat} {o : AObj} (h : (netS j n).heap.get i = some o) : (i = 0 ∧ o = boxO j n.a n.b (netV 1 n.nl n.M)) ∨ (i = 1 ∧ netO n.nl n.M = some o) := by
  unfold netS at h
  simp only at h
  rw [Tr.get_set] at h
  split at h
  · rename_i e; subst e; exact .inr ⟨rfl, h⟩
  · rw [Tr.get_put] at h
    split at h
    · rename_i e; subst e; cases h; exact .inl ⟨rfl, rfl⟩
    · rw [Tr.get_nil] at h; cases h

variable {Z : Zone}
variable {g : Cfg} {base : Base} {c : Ctx} {φ : Nat → Pl} {ω : Nat → Option Tag} {s : St} {w w' : World}

theorem eff_view {j : Bool} {n : Net} {id : Nat} (hs : SRel g base φ ω c s w) (h0 : s.heap.get id = some (boxO j n.a n.b (netV (id + 1) n.nl n.M))) (h1 : s.heap.get (id + 1) = netO n.nl n.M) (hM : n.M.all (freeN 9) = true) (hn : id + 1 < s.next) (hfl : c.floor ≤ s.next)
    (hw0 : c.wr id = true) (hw1 : c.wr (id + 1) = true) (hv0 : c.vis id = true) (hv1 : c.vis (id + 1) = true) : View base 0 c s cz (netS j n) (tri id (id + 1) s.next) := by
  have h2 : ∀ i, i < 2 → i = 0 ∨ i = 1 := fun i h => by omega
  refine ⟨rfl, hfl, fun i hi => ?_, fun i k hi hk he => ?_, fun i o ho => ?_, fun i hi _ => ?_, fun i hi => ?_, Nat.zero_le _⟩
  · rcases h2 i hi with rfl | rfl
    · exact ⟨by rw [tri0]; omega, hv0⟩
    · exact ⟨hn, hv1⟩
  · rcases h2 i hi with rfl | rfl <;> rcases h2 k hk with rfl | rfl <;> simp only [tri0, tri1] at he <;> omega
  · rcases netS_get ho with ⟨rfl, rfl⟩ | ⟨rfl, ho⟩
    · exact ⟨(by decide : 0 < 2), _, h0, box_ren (netV_ren _ (by decide : 1 < 2) _ _)⟩
    · rename_i ho1
      refine ⟨(by decide : 1 < 2), o, by rw [tri1, h1]; exact ho1, ?_⟩
      unfold netO at ho1
      cases hnl : n.nl with
      | true => rw [hnl] at ho1; cases ho1
      | false => rw [hnl] at ho1; cases ho1; exact row_ren hM
  · rcases h2 i hi with rfl | rfl
    · exact hw0
    · exact hw1
  · refine ⟨fun h => absurd h (Nat.not_lt_zero _), fun h => ?_⟩
    rcases h2 i hi with rfl | rfl
    · have := hs.bf _ hw0; rw [tri0] at h; omega
    · have := hs.bf _ hw1; rw [tri1] at h; omega

/-- The row, seen as no longer than what is used of it. -/
theorem SRel.trim {j : Bool} {a b : Int} {X : Array Value} {sp : Bool} {l cp : Nat} (hl : l ≤ X.size) (hcp : l ≤ cp) (hcx : cp ≤ X.size) (hso : X.size ≠ 0 ∨ sp = true) (hfr : X.all (freeN 9) = true) {B : Nat}
    (hs : SRel g ⟨0, B⟩ φ ω cz ⟨(Tr.nil.put 0 (boxO j a b (.slice (some ⟨2, 0, none⟩) l cp))).put 2 (.cells X 1 sp), 3⟩ w) :
    SRel g ⟨0, B⟩ (upd φ 2 ⟨(φ 2).blk, (φ 2).off, cp - l + (φ 2).ex⟩) ω cz ⟨(Tr.nil.put 0 (boxO j a b (.slice (some ⟨2, 0, none⟩) l l))).put 2 (.cells (X.extract 0 l) 1 true), 3⟩ w := by
  have g0 : ∀ (o1 o2 : AObj), (((Tr.nil : Tr AObj).put 0 o1).put 2 o2).get 0 = some o1 := fun o1 o2 => by rw [Tr.get_put, if_neg (by decide), Tr.get_put, if_pos rfl]
  have g2 : ∀ (o1 o2 : AObj), (((Tr.nil : Tr AObj).put 0 o1).put 2 o2).get 2 = some o2 := fun o1 o2 => by rw [Tr.get_put, if_pos rfl]
  have gi : ∀ (o1 o2 : AObj) i o, (((Tr.nil : Tr AObj).put 0 o1).put 2 o2).get i = some o → (i = 0 ∧ o = o1) ∨ (i = 2 ∧ o = o2) := fun o1 o2 i o h => by
    rw [Tr.get_put] at h
    split at h
    · rename_i e; cases h; exact .inr ⟨e, rfl⟩
    · rw [Tr.get_put] at h
      split at h
      · rename_i e; cases h; exact .inl ⟨e, rfl⟩
      · rw [Tr.get_nil] at h; cases h
  have hne : ∀ i, i ≠ 2 → upd φ 2 ⟨(φ 2).blk, (φ 2).off, cp - l + (φ 2).ex⟩ i = φ i := fun i hi => upd_ne _ _ hi
  have hsame : ∀ i, (upd φ 2 ⟨(φ 2).blk, (φ 2).off, cp - l + (φ 2).ex⟩ i).blk = (φ i).blk := fun i => by
    by_cases e : i = 2
    · subst e; rw [upd_self]
    · rw [hne i e]
  have hX := hs.obj 2 _ (g2 _ _) rfl
  have hB := hs.obj 0 _ (g0 _ _) rfl
  refine ⟨fun i o ho => ?_, hs.bn, hs.bf, hs.vlow, hs.vnew, hs.bw, fun i o ho hv => ?_, fun i hi => by rw [hsame]; exact hs.low i hi, fun i o ho hv hb hsol => ?_, fun b t ht => ?_, fun i hi => ?_, hs.zone, hs.nosame, hs.isreal⟩
  · rcases gi _ _ _ _ ho with ⟨rfl, _⟩ | ⟨rfl, _⟩
    · exact (by decide : 0 < 3)
    · exact (by decide : 2 < 3)
  · rcases gi _ _ _ _ ho with ⟨rfl, rfl⟩ | ⟨rfl, rfl⟩
    · refine ⟨fun _ => by rw [hne 0 (by decide)]; exact hB.1 rfl, fun hz => ?_⟩
      have hz' : (lay j a b (.slice (some ⟨2, 0, none⟩) l cp)).size ≠ 0 ∨ false = true := .inl (by cases j <;> simp [lay])
      obtain ⟨cs', el, fz, q1, q2, q3, q4⟩ := hB.2 hz'
      rw [hne 0 (by decide)]
      have hsz : (lay j a b (.slice (some ⟨2, 0, none⟩) l l)).size = (lay j a b (.slice (some ⟨2, 0, none⟩) l cp)).size := by cases j <;> rfl
      refine ⟨cs', el, fz, q1, q2, by rw [hsz]; exact q3, fun i x hx => ?_⟩
      have hlt : i < (lay j a b (.slice (some ⟨2, 0, none⟩) l cp)).size := by
        obtain ⟨h, _⟩ := Array.getElem?_eq_some_iff.1 hx
        rw [← hsz]; exact h
      obtain ⟨x', hx', hr⟩ := q4 i _ (Array.getElem?_eq_getElem hlt)
      refine ⟨x', hx', ?_⟩
      obtain ⟨_, hh⟩ := lay_get (j := j) (a := a) (b := b) (v := .slice (some ⟨2, 0, none⟩) l l) (v' := .slice (some ⟨2, 0, none⟩) l cp) (P := fun x y => ∀ x', Vrel φ cz 3 y x' → Vrel (upd φ 2 ⟨(φ 2).blk, (φ 2).off, cp - l + (φ 2).ex⟩) cz 3 x x')
        (fun k n x' hr => by cases hr; exact .int k n) (fun x' hr => by
          cases hr with
          | slice _ _ _ _ hin =>
            have := Vrel.slice (φ := upd φ 2 ⟨(φ 2).blk, (φ 2).off, cp - l + (φ 2).ex⟩) (c := cz) (n := 3) 2 0 l l hin
            rw [upd_self] at this
            simp only at this
            rw [show l + (cp - l + (φ 2).ex) = cp + (φ 2).ex from by omega] at this
            exact this)
      exact hh i x _ hx (Array.getElem?_eq_getElem hlt) x' hr
    · refine ⟨(fun h => nomatch h), fun _ => ?_⟩
      obtain ⟨cs', el, fz, q1, q2, q3, q4⟩ := hX.2 hso
      rw [upd_self]
      refine ⟨cs', el, fz, q1, q2, ?_, fun i x hx => ?_⟩
      · have he : (X.extract 0 l).size = l := by simp; omega
        rw [he]
        simp only
        omega
      · rw [Array.getElem?_extract] at hx
        split at hx
        · rw [Nat.zero_add] at hx
          obtain ⟨x', h1, h2⟩ := q4 i x hx
          exact ⟨x', h1, free_move 9 _ _ (all_get hfr hx) h2⟩
        · cases hx
  · rw [hsame]
    rcases gi _ _ _ _ ho with ⟨rfl, rfl⟩ | ⟨rfl, rfl⟩
    · exact hs.tag 0 _ (g0 _ _) hv hb (.inl (by cases j <;> simp [lay]))
    · exact hs.tag 2 _ (g2 _ _) hv hb hso
  · obtain ⟨p, q, r⟩ := hs.tags b t ht
    exact ⟨p, q, r⟩
  · have := (hs.glob i hi).1
    exact absurd this (Nat.not_lt_zero _)

theorem tagsIn_keep {e0 e2 : Nat → Nat} {m2 : Nat} {ω' : Nat → Option Tag} {b : Nat} (hinj : ∀ i j, i < m2 → j < m2 → e2 i = e2 j → i = j) (hm : 2 ≤ m2) (h0 : e2 0 = 0) (h1 : e2 1 = 1) (h : ω' b = tagsIn e0 2 ω b) : tagsIn e2 m2 ω' b = tagsIn e0 2 ω b := by
  cases ht : tagsIn e0 2 ω b with
  | none => rw [ht] at h; unfold tagsIn; rw [h]
  | some t =>
    rw [ht] at h
    cases t with
    | obj i =>
      obtain ⟨hi, _⟩ := tagsIn_obj ht
      have he : e2 i = i := by
        rcases (by omega : i = 0 ∨ i = 1) with rfl | rfl
        · exact h0
        · exact h1
      exact tagsIn_of hinj (Nat.lt_of_lt_of_le hi hm) (by rw [he]; exact h)
    | loc d => unfold tagsIn; rw [h]
    | mark => unfold tagsIn; rw [h]

/-- The state behind a call, as it is told. -/
theorem eff_end {j : Bool} {n : Net} {id : Nat} {a b : Int} {row : Option (Bool × Array Value)} {s1 : St} {φ' : Nat → Pl} {ω' : Nat → Option Tag} (hng : g.ng = 0) (hs : SRel g base φ ω c s w) (h0 : s.heap.get id = some (boxO j n.a n.b (netV (id + 1) n.nl n.M))) (h1 : s.heap.get (id + 1) = netO n.nl n.M) (hM : n.M.all (freeN 9) = true) (hn : id + 1 < s.next) (hfl : c.floor ≤ s.next)
    (hw0 : c.wr id = true) (hw1 : c.wr (id + 1) = true) (hv0 : c.vis id = true) (hv1 : c.vis (id + 1) = true) (hE : EffEnd j a b n row s1) (hag : ∀ i, i < 2 → φ' i = φ (tri id (id + 1) s.next i)) (hnx : 2 ≤ s1.next) (hsr : SRel g ⟨0, base.blk⟩ φ' ω' cz s1 w') (hk : Keep (tagsIn (tri id (id + 1) s.next) 2 ω) ω' cz (netS j n) (fun _ => False) w w') :
    ∃ φ2 ω2, (∀ i, i < s.next → φ2 i = φ i) ∧ SRel g base φ2 ω2 c { heap := ((s.heap.put id (boxO j a b (newV s.next (netV (id + 1) n.nl n.M) row))).set (id + 1) (oldO (s.heap.get (id + 1)) row)).set s.next (newO row), next := s.next + 1 } w' ∧ Keep ω ω2 c s (fun _ => False) w w' := by
  have V0 := eff_view hs h0 h1 hM hn hfl hw0 hw1 hv0 hv1
  have hne1 : id ≠ id + 1 := by omega
  have hidn : id < s.next := by omega
  -- the last step, from a small state to the caller's
  have shut : ∀ (si : St) (φ3 : Nat → Pl) (ω3 : Nat → Option Tag), 2 ≤ si.next → si.next ≤ 3 → (∀ i, i < 2 → φ3 i = φ (tri id (id + 1) s.next i)) → SRel g ⟨0, base.blk⟩ φ3 ω3 cz si w' → Keep (tagsIn (tri id (id + 1) s.next) 2 ω) ω3 cz (netS j n) (fun _ => False) w w' →
      si.heap.get 0 = some (boxO j a b (newV 2 (netV 1 n.nl n.M) row)) → (∀ o, oldO (s.heap.get (id + 1)) row = some o → si.heap.get 1 = some o ∧ ObRen (tri id (id + 1) s.next) si.next o o ∧ ∀ r, o ≠ .loop r) → (∀ o, newO row = some o → 2 < si.next ∧ si.heap.get 2 = some o ∧ ObRen (tri id (id + 1) s.next) si.next o o ∧ ∀ r, o ≠ .loop r) →
      VRen (tri id (id + 1) s.next) si.next (newV 2 (netV 1 n.nl n.M) row) (newV s.next (netV (id + 1) n.nl n.M) row) →
      ∃ φ2 ω2, (∀ i, i < s.next → φ2 i = φ i) ∧ SRel g base φ2 ω2 c { heap := ((s.heap.put id (boxO j a b (newV s.next (netV (id + 1) n.nl n.M) row))).set (id + 1) (oldO (s.heap.get (id + 1)) row)).set s.next (newO row), next := s.next + 1 } w' ∧ Keep ω ω2 c s (fun _ => False) w w' := by
    intro si φ3 ω3 hlo hhi hag3 hsr3 hk3 hbox hold hnew hv
    have S : Shut c cz s (netS j n) si (tri id (id + 1) s.next) (tri id (id + 1) s.next) { heap := ((s.heap.put id (boxO j a b (newV s.next (netV (id + 1) n.nl n.M) row))).set (id + 1) (oldO (s.heap.get (id + 1)) row)).set s.next (newO row), next := s.next + 1 } := by
      refine ⟨fun _ _ => rfl, Nat.le_succ _, hlo, fun i hi1 hi2 => ?_, fun i k hi hk he => ?_, fun i o' ho => ?_⟩
      · have hi1 : 2 ≤ i := hi1
        have : i = 2 := by omega
        subst this
        exact ⟨Nat.le_refl _, Nat.lt_succ_self _⟩
      · have h3 : ∀ i, i < si.next → i = 0 ∨ i = 1 ∨ i = 2 := fun i hi => by omega
        rcases h3 i hi with rfl | rfl | rfl <;> rcases h3 k hk with rfl | rfl | rfl <;> simp only [tri0, tri1, tri2] at he <;> omega
      · simp only at ho
        rw [Tr.get_set] at ho
        split at ho
        · rename_i e; subst e
          obtain ⟨p1, p2, p3, p4⟩ := hnew o' ho
          exact .inr ⟨2, o', p1, rfl, p2, p3, fun r r' e => (p4 r e).elim⟩
        · rw [Tr.get_set] at ho
          split at ho
          · rename_i e; subst e
            obtain ⟨p1, p2, p3⟩ := hold o' ho
            exact .inr ⟨1, o', by omega, rfl, p1, p2, fun r r' e => (p3 r e).elim⟩
          · rw [Tr.get_put] at ho
            split at ho
            · rename_i e; subst e; cases ho
              exact .inr ⟨0, _, by omega, rfl, hbox, box_ren hv, fun r r' e => by cases j <;> cases e⟩
            · rename_i e1 e2
              refine .inl ⟨hs.dom i o' ho, fun k hk he => ?_, ho⟩
              have hk : k < 2 := hk
              rcases (by omega : k = 0 ∨ k = 1) with rfl | rfl
              · rw [tri0] at he; exact (e2 he.symm).elim
              · rw [tri1] at he; exact (e1 he.symm).elim
    obtain ⟨φ2, ω2, q1, q2, q3, _⟩ := V0.shut hng hs S (X := fun _ => False) (fun b h => h.elim) hag3 hsr3 hk3
    exact ⟨φ2, ω2, q1, q2, q3⟩
  -- the box behind the call, seen
  have hopen : ∀ (si : St) (e2 : Nat → Nat), 2 ≤ si.next → e2 0 = 0 → e2 1 = 1 → View ⟨0, base.blk⟩ 0 cz s1 cz si e2 → SRel g ⟨0, base.blk⟩ (fun i => φ' (e2 i)) (tagsIn e2 si.next ω') cz si w' ∧ (∀ i, i < 2 → φ' (e2 i) = φ (tri id (id + 1) s.next i)) ∧ Keep (tagsIn (tri id (id + 1) s.next) 2 ω) (tagsIn e2 si.next ω') cz (netS j n) (fun _ => False) w w' := by
    intro si e2 hlo he0 he1 V
    refine ⟨V.open_ hng hsr, fun i hi => ?_, ⟨hk.os, hk.tape, hk.output, hk.size, fun b hb ho hx => ?_⟩⟩
    · rcases (by omega : i = 0 ∨ i = 1) with rfl | rfl
      · rw [he0]; exact hag 0 (by decide)
      · rw [he1]; exact hag 1 (by decide)
    · have := hk.same b hb ho hx
      exact ⟨this.1, tagsIn_keep V.inj hlo he0 he1 this.2⟩
  have mkView : ∀ (si : St) (e2 : Nat → Nat), (∀ i, i < si.next → e2 i < s1.next) → (∀ i k, i < si.next → k < si.next → e2 i = e2 k → i = k) → (∀ i o, si.heap.get i = some o → i < si.next ∧ ∃ o', s1.heap.get (e2 i) = some o' ∧ ObRen e2 si.next o o') → View ⟨0, base.blk⟩ 0 cz s1 cz si e2 := fun si e2 p1 p2 p3 =>
    ⟨rfl, Nat.zero_le _, fun i hi => ⟨p1 i hi, rfl⟩, p2, p3, fun i hi _ => rfl, fun i hi => ⟨fun h => absurd h (Nat.not_lt_zero _), fun h => absurd h (Nat.not_lt_zero _)⟩, Nat.zero_le _⟩
  cases row with
  | none =>
    obtain ⟨E0, E1⟩ := hE
    have V : View ⟨0, base.blk⟩ 0 cz s1 cz (netS j { n with a := a, b := b }) (fun i => i) := mkView _ _ (fun i hi => Nat.lt_of_lt_of_le hi hnx) (fun _ _ _ _ h => h) fun i o ho => by
      rcases netS_get ho with ⟨rfl, rfl⟩ | ⟨rfl, ho1⟩
      · exact ⟨(by decide : 0 < 2), _, E0, box_ren (netV_ren (fun i => i) (by decide : 1 < 2) _ _)⟩
      · have ho2 : netO n.nl n.M = some o := ho1
        refine ⟨(by decide : 1 < 2), o, by rw [E1]; exact ho2, ?_⟩
        unfold netO at ho2
        cases hnl : n.nl with
        | true => rw [hnl] at ho2; cases ho2
        | false => rw [hnl] at ho2; cases ho2; exact row_ren hM
    obtain ⟨q1, q2, q3⟩ := hopen (netS j { n with a := a, b := b }) (fun i => i) (Nat.le_refl _) rfl rfl V
    have hg0 : (netS j { n with a := a, b := b }).heap.get 0 = some (boxO j a b (netV 1 n.nl n.M)) := by
      unfold netS; simp only; rw [Tr.get_set, if_neg (by decide), Tr.get_put, if_pos rfl]
    have hg1 : (netS j { n with a := a, b := b }).heap.get 1 = netO n.nl n.M := by
      unfold netS; simp only; rw [Tr.get_set, if_pos rfl]
    refine shut _ _ _ (Nat.le_refl _) (by decide : 2 ≤ 3) q2 q1 q3 hg0 (fun o ho => ?_) (fun o ho => nomatch ho) (netV_ren _ (by decide : 1 < 2) _ _)
    simp only [oldO] at ho
    rw [h1] at ho
    refine ⟨by rw [hg1]; exact ho, ?_⟩
    unfold netO at ho
    cases hnl : n.nl with
    | true => rw [hnl] at ho; cases ho
    | false => rw [hnl] at ho; cases ho; exact ⟨row_ren hM, fun r => nofun⟩
  | some x =>
    obtain ⟨nl, M⟩ := x
    cases nl with
    | true =>
      have E0 : s1.heap.get 0 = some (boxO j a b (.slice none 0 0)) := hE
      have gi : ∀ i o, ((Tr.nil : Tr AObj).put 0 (boxO j a b (.slice none 0 0))).get i = some o → i = 0 ∧ o = boxO j a b (.slice none 0 0) := fun i o h => by
        rw [Tr.get_put] at h
        split at h
        · rename_i e; cases h; exact ⟨e, rfl⟩
        · rw [Tr.get_nil] at h; cases h
      have V : View ⟨0, base.blk⟩ 0 cz s1 cz ⟨(Tr.nil : Tr AObj).put 0 (boxO j a b (.slice none 0 0)), 2⟩ (fun i => i) := mkView _ _ (fun i hi => Nat.lt_of_lt_of_le hi hnx) (fun _ _ _ _ h => h) fun i o ho => by
        obtain ⟨rfl, rfl⟩ := gi i o ho
        exact ⟨(by decide : 0 < 2), _, E0, box_ren (Vrel.nilSlice (Z := idZone) 0 0)⟩
      obtain ⟨q1, q2, q3⟩ := hopen _ (fun i => i) (Nat.le_refl _) rfl rfl V
      exact shut _ _ _ (Nat.le_refl _) (by decide : 2 ≤ 3) q2 q1 q3 (by rw [Tr.get_put, if_pos rfl]; rfl) (fun o ho => nomatch ho) (fun o ho => nomatch ho) (Vrel.nilSlice (Z := idZone) 0 0)
    | false =>
      obtain ⟨r, l, cp, X, sp, E0, E1, hr0, hr1, hMX, hl, hcp, hcx, hX, hso⟩ := hE
      have hrn := hsr.dom _ _ E1
      have gi : ∀ (o1 o2 : AObj) i o, (((Tr.nil : Tr AObj).put 0 o1).put 2 o2).get i = some o → (i = 0 ∧ o = o1) ∨ (i = 2 ∧ o = o2) := fun o1 o2 i o h => by
        rw [Tr.get_put] at h
        split at h
        · rename_i e; cases h; exact .inr ⟨e, rfl⟩
        · rw [Tr.get_put] at h
          split at h
          · rename_i e; cases h; exact .inl ⟨e, rfl⟩
          · rw [Tr.get_nil] at h; cases h
      have h3 : ∀ i, i < 3 → i = 0 ∨ i = 1 ∨ i = 2 := fun i hi => by omega
      have V : View ⟨0, base.blk⟩ 0 cz s1 cz ⟨(Tr.nil.put 0 (boxO j a b (.slice (some ⟨2, 0, none⟩) l cp))).put 2 (.cells X 1 sp), 3⟩ (tri 0 1 r) := mkView _ _ (fun i hi => by
          rcases h3 i hi with rfl | rfl | rfl
          · rw [tri0]; omega
          · rw [tri1]; omega
          · exact hrn) (fun i k hi hk he => by
          rcases h3 i hi with rfl | rfl | rfl <;> rcases h3 k hk with rfl | rfl | rfl <;> simp only [tri0, tri1, tri2] at he <;> omega) fun i o ho => by
          rcases gi _ _ i o ho with ⟨rfl, rfl⟩ | ⟨rfl, rfl⟩
          · exact ⟨(by decide : 0 < 3), _, E0, box_ren (slice_ren (tri 0 1 r) (by decide : 2 < 3))⟩
          · exact ⟨(by decide : 2 < 3), _, E1, row_ren hX⟩
      obtain ⟨q1, q2, q3⟩ := hopen _ (tri 0 1 r) (by decide : 2 ≤ 3) rfl rfl V
      have q4 := SRel.trim hl hcp hcx hso hX q1
      have hsz : M.size = l := by rw [hMX]; simp; omega
      have hfrM : M.all (freeN 9) = true := by
        rw [hMX]
        simp only [Array.all_eq_true] at hX ⊢
        intro i hi
        simp only [Array.getElem_extract]
        exact hX _ _
      refine shut _ _ _ (by decide : 2 ≤ 3) (Nat.le_refl _) (fun i hi => ?_) q4 q3 ?_ (fun o ho => nomatch ho) (fun o ho => ?_) ?_
      · rw [upd_ne _ _ (by omega)]; exact q2 i hi
      · rw [Tr.get_put, if_neg (by decide), Tr.get_put, if_pos rfl]
        show _ = some (boxO j a b (.slice (some ⟨2, 0, none⟩) M.size M.size))
        rw [hsz]
      · cases ho
        refine ⟨(by decide : 2 < 3), ?_, row_ren hfrM, fun r => nofun⟩
        rw [Tr.get_put, if_pos rfl, hMX]
      · exact netV_ren (tri id (id + 1) s.next) (by decide : 2 < 3) false M

variable [Z]
/-- Told: what a call makes of the thing, from the small state in which it stands alone. -/
def EffTells (g : Cfg) (i : FnI) (f : FuncId) (j : Bool) (E : Eff) : Prop :=
  ∀ n l, E.ok n l = true → n.M.all (freeN 9) = true → l.all (freeN 9) = true → l.length + 1 ≤ i.nt ∧ ∀ B, AWp g ⟨0, B⟩ cz i.body (frame0 f i.nt ⟨.pointer (some ⟨0, 0, none⟩) :: l⟩) (netS j n)
    fun ex fr' s' => (ex = .normal ∨ ex = .ret) ∧ ∃ v, resultsV g cz fr' s' i.results = some v ∧ v = E.res n l ∧ EffEnd j (E.a n l) (E.b n l) n (E.row n l) s'
variable {Z}

theorem eff_calls (hg : ∀ B, Good g B) (hng : g.ng = 0) {f : FuncId} {i : FnI} (hi : g.fns f = some i) {j : Bool} {E : Eff} (hT : EffTells g i f j E) {args args' : Array Value} {s' : St} {r : Outc} (h : effH j E args c s = some (r, s')) (hs : SRel g base φ ω c s w) (ha : Arel φ c s.next args args') :
    CallsIn (FF none) 0 g.P f args' w (CallR g base c φ ω s s' w r) := by
  obtain ⟨id, n, l, rfl, h0, h1, hM, hn, hfl, hw0, hw1, hv0, hv1, hl, hok, hpl, hr⟩ := effT_some h
  have V0 := eff_view hs h0 h1 hM hn hfl hw0 hw1 hv0 hv1
  obtain ⟨hle, hA⟩ := hT n l hok hM hl
  have hai : Arel (fun i => φ (tri id (id + 1) s.next i)) cz 2 ⟨.pointer (some ⟨0, 0, none⟩) :: l⟩ args' := by
    refine Arel.seen (e := tri id (id + 1) s.next) (m := 2) (cs' := ⟨.pointer (some ⟨id, 0, none⟩) :: l⟩) rfl rfl (fun k x x' hx hx' => ?_) ha
    cases k with
    | zero => simp at hx hx'; subst hx hx'; exact ptr_ren (tri id (id + 1) s.next) (by decide : 0 < 2)
    | succ k =>
      simp at hx hx'
      rw [hx] at hx'; cases hx'
      refine free_self _ _ _ 9 _ ?_
      exact List.all_eq_true.1 hl _ (List.mem_of_getElem? hx)
  have hcall := AWp.calls (hg ⟨0, base.blk⟩) hi (by simpa using hle) (Fin := fun v s1 => v = E.res n l ∧ EffEnd j (E.a n l) (E.b n l) n (E.row n l) s1) ((hA base.blk).mono fun ex fr' s' ⟨x1, v, x2, x3⟩ => ⟨x1, v, x2, x3⟩) (V0.open_ hng hs) hai
  cases hr
  refine hcall.mono ?_
  rintro e w' ⟨v, s1, ⟨rfl, hend⟩, φ', ω', hag, hnx, hsr, hk, he⟩
  obtain ⟨φ2, ω2, q1, q2, q3⟩ := eff_end hng hs h0 h1 hM hn hfl hw0 hw1 hv0 hv1 hend hag hnx hsr hk
  refine ⟨φ2, ω2, q1, Nat.le_succ _, q2, q3, ?_⟩
  cases he with
  | ret _ v' hv' =>
    rw [plain_eq 9 _ _ hpl hv']
    exact .ret _ _ (plain_rel _ _ _ 9 _ hpl)

theorem eff_grow {j : Bool} {E : Eff} {args : Array Value} {c : Ctx} {s : St} {r : Outc × St} (h : effH j E args c s = some r) : Grow c s r.2 := by
  obtain ⟨id, n, l, rfl, h0, h1, hM, hn, hfl, hw0, hw1, hv0, hv1, hl, hok, hpl, rfl⟩ := effT_some h
  have hget : ∀ k, k ≠ id → k ≠ id + 1 → k < s.next → (effS j E n id (netV (id + 1) n.nl n.M) l s).heap.get k = s.heap.get k := fun k e1 e2 e3 => by
    unfold effS
    simp only
    rw [Tr.get_set, if_neg (by omega), Tr.get_set, if_neg e2, Tr.get_put, if_neg e1]
  refine ⟨Nat.le_succ _, fun k hk hno => ?_, fun k hk hlt => ?_, fun k hk hlt => ?_, fun hd k o ho => ?_⟩
  · by_cases e1 : k = id
    · subst e1; rw [h0] at hno; cases hno
    · by_cases e2 : k = id + 1
      · subst e2
        unfold effS
        simp only
        rw [Tr.get_set, if_neg (by omega), Tr.get_set, if_pos rfl, hno]
        cases E.row n l <;> rfl
      · rw [hget k e1 e2 hk]; exact hno
  · refine hget k (fun e => ?_) (fun e => ?_) hlt
    · subst e; rw [hw0] at hk; cases hk
    · subst e; rw [hw1] at hk; cases hk
  · refine hget k (fun e => ?_) (fun e => ?_) hlt
    · subst e; rw [hv0] at hk; cases hk
    · subst e; rw [hv1] at hk; cases hk
  · unfold effS at ho
    simp only at ho
    show k < s.next + 1
    rw [Tr.get_set] at ho
    split at ho
    · omega
    · rw [Tr.get_set] at ho
      split at ho
      · omega
      · rw [Tr.get_put] at ho
        split at ho
        · omega
        · have := hd k o ho; omega

/-- More that is told: calls that turn a thing. -/
def Cfg.eff (g : Cfg) (T : FuncId → Option (Bool × Eff)) : Cfg := g.more fun f => (T f).map fun x => effH x.1 x.2
def treeE (T : FuncId → Option (Bool × Eff)) (o : FuncId → Option HandT) : FuncId → Option HandT := fun f => match T f with | some x => some (effT x.1 x.2) | none => o f
theorem treeE_ok {g : Cfg} {T : FuncId → Option (Bool × Eff)} {o : FuncId → Option HandT} (ho : ∀ f k hd, o f = some k → g.hand f = some hd → ∀ a c s, (k a c s).eval = hd a c s) :
    ∀ f k hd, treeE T o f = some k → (g.eff T).hand f = some hd → ∀ a c s, (k a c s).eval = hd a c s := by
  intro f k hd h1 h2 a c s
  simp only [treeE] at h1
  simp only [Cfg.eff, Cfg.more] at h2
  cases hT : T f with
  | some F =>
    rw [hT] at h1 h2
    cases h1; cases h2
    rfl
  | none =>
    rw [hT] at h1 h2
    exact ho f k hd h1 h2 a c s
theorem eff_good [Z : Zone] {g : Cfg} (hg : ∀ (Z' : Zone) B, @Good Z' g B) (hng : g.ng = 0) {T : FuncId → Option (Bool × Eff)} (hT : ∀ f x, T f = some x → ∃ i, g.fns f = some i ∧ ∀ Z' : Zone, @EffTells Z' g i f x.1 x.2) (B : Base) : Good (g.eff T) B where
  fns := (hg Z B).fns
  hgrow f hd h args c s r hr := by
    simp only [Cfg.eff, Cfg.more] at h
    cases hF : T f with
    | some F =>
      rw [hF] at h
      cases h
      exact eff_grow hr
    | none =>
      rw [hF] at h
      exact (hg Z B).hgrow f hd h args c s r hr
  hand f hd h := by
    simp only [Cfg.eff, Cfg.more] at h
    cases hF : T f with
    | some F =>
      rw [hF] at h
      cases h
      intro args c s r s' hr φ ω w args' hs ha
      obtain ⟨i, hi, hR⟩ := hT f F hF
      obtain ⟨Fn, hFn, hb, _, _, hname⟩ := (hg Z B).fns f i hi
      exact ⟨f, args', run_callFunc hFn hb hname _, (eff_calls (hg Z) hng hi (hR Z) hr (SRel.cfg (g := g.eff T) (g' := g) rfl hs) ha).mono fun e W' hR => CallR.cfg (g := g) (g' := g.eff T) rfl hR⟩
    | none =>
      rw [hF] at h
      intro args c s r s' hr φ ω w args' hs ha
      obtain ⟨f', as', h1, h2⟩ := (hg Z B).hand f hd h args c s r s' hr φ ω w args' (SRel.cfg (g := g.eff T) (g' := g) rfl hs) ha
      exact ⟨f', as', h1, h2.mono fun e W' hR => CallR.cfg (g := g) (g' := g.eff T) rfl hR⟩
end
end Go.Am

/- Loops in calls that turn a thing. -/
namespace Go.Am
noncomputable section
variable {Z : Zone}
section
variable {g : Cfg} {b : Nat} {fr : Fr} {s : St} {n lim : Nat} {sel : Ex → List Tmp × List Kept}

/-- A loop that counts, the first m objects in their places; whatever is behind it. -/
theorem AWp.forP (hg : ∀ B, Good g B) (hng : g.ng = 0) {m : Nat} {s0 : St} {fri : Fr} {si : St} (hS0 : SnP m ⟨0, b⟩ 0 0 cz fri si fr s) (hG0 : Grow cz s0 s) (hmi : m ≤ si.next) {init k rest : Code} {bi n2 lim2 : Nat} {sel2 : Nat → Ex → List Tmp × List Kept} {head : Nat → Fr} {sh : Nat → St} {N : Nat} {stop : Nat → Option (Ex × Fr × St)} {R : Ex → Fr → St → Prop}
    (h0 : gcObs 0 0 sel (code g (call g n) lim cz init fri si) = some (.normal, head 0, sh 0)) (hp0 : plainJ (sh 0) (sel .normal).2 0) (hpin0 : pinned m (sel .normal).2) (hm : ∀ i, i ≤ N → m ≤ (sh i).next)
    (hround : ∀ i, i ≤ N → (∀ j, j < i → stop j = none) → gcObs 0 0 (sel2 i) (code g (call g n2) lim2 cz k (head i) (sh i)) = some (match stop i with | some r => r | none => (.normal, head (i + 1), sh (i + 1))))
    (hp : ∀ i, i ≤ N → plainJ (match stop i with | some r => r.2.2 | none => sh (i + 1)) (sel2 i (match stop i with | some r => r.1 | none => .normal)).2 0)
    (hpin : ∀ i ex, i ≤ N → pinned m (sel2 i ex).2)
    (hlast : ∃ i, i ≤ N ∧ stop i ≠ none) (hstop : ∀ i r, i ≤ N → (∀ j, j < i → stop j = none) → stop i = some r → ∀ fr2 s2, SnP m ⟨0, b⟩ 0 0 cz r.2.1 r.2.2 fr2 s2 → Grow cz s0 s2 → match r.1 with | .exit j => j = bi ∧ AWp g ⟨0, b⟩ cz rest fr2 s2 R | .ret => R .ret fr2 s2 | _ => False) :
    AWp g ⟨0, b⟩ cz (.seq (.seq init (.block bi (.loop k))) rest) fr s R := by
  refine AWp.seq (AWp.seq (AWp.seenP hg hng hS0 hmi (Nat.zero_le _) h0 hp0 hpin0 fun fr1 s1 hS1 hG1 => ⟨hG1, ?_⟩))
  refine AWp.block ?_
  obtain ⟨l, hl, hsl⟩ := hlast
  refine AWp.loop (I := fun (p : Nat) fr' s' => (p ≤ l ∧ ∀ j, j < p → stop j = none) ∧ SnP m ⟨0, b⟩ 0 0 cz (head p) (sh p) fr' s' ∧ Grow cz s s') (fun p => l - p) (fun p fr' s' hI => ?_) 0 fr1 s1 ⟨⟨Nat.zero_le _, fun j hj => by omega⟩, hS1, hG1⟩
  obtain ⟨⟨hpm, hno⟩, hS, hG⟩ := hI
  have hr := hround p (by omega) hno
  have hpj := hp p (by omega)
  cases hst : stop p with
  | none =>
    rw [hst] at hr hpj
    simp only at hr hpj
    have hne : p ≠ l := fun e => hsl (by rw [← e]; exact hst)
    refine AWp.seenP hg hng hS (hm p (by omega)) (Nat.zero_le _) hr hpj (hpin p _ (by omega)) fun fr2 s2 hS2 hG2 => ⟨hG2, p + 1, by omega, ⟨by omega, fun j hj => ?_⟩, hS2, hG.trans hG2⟩
    by_cases e : j = p
    · subst e; exact hst
    · exact hno j (by omega)
  | some r =>
    rw [hst] at hr hpj
    simp only at hr hpj
    refine AWp.seenP hg hng hS (hm p (by omega)) (Nat.zero_le _) hr hpj (hpin p _ (by omega)) fun fr2 s2 hS2 hG2 => ⟨hG2, ?_⟩
    have hfin := hstop p r (by omega) hno hst fr2 s2 hS2 (hG0.trans (hG.trans hG2))
    obtain ⟨ex, frj, sj⟩ := r
    cases ex with
    | normal => exact hfin.elim
    | exit j =>
      obtain ⟨rfl, hrest⟩ := hfin
      simp only [if_true]
      exact ⟨hG.trans hG2, hrest⟩
    | ret => exact ⟨hG.trans hG2, hfin⟩
    | pan v => exact hfin.elim
end

/-! ### The end, seen -/
section
variable {b : Nat} {j : Bool} {a' b' : Int} {nn : Net} {frj fr : Fr} {sj s : St} {m : Nat}

theorem box_of {e : Nat → Nat} {v : Value} (V : View ⟨0, b⟩ 0 cz s cz sj e) (he : e 0 = 0) (h0 : sj.heap.get 0 = some (boxO j a' b' v)) : ∃ v', s.heap.get 0 = some (boxO j a' b' v') ∧ VRen e sj.next v v' := by
  obtain ⟨_, o', h1, h2⟩ := V.obj 0 _ h0
  rw [he] at h1
  cases o' with
  | map _ => cases j <;> exact h2.elim
  | loop _ => cases j <;> exact h2.elim
  | cells cs sz sp =>
    obtain ⟨rfl, rfl, h3, h4⟩ := h2
    obtain ⟨cs⟩ := cs
    cases j with
    | true =>
      have h3 : 3 = cs.length := h3
      obtain ⟨x, y, z, rfl⟩ : ∃ x y z, cs = [x, y, z] := by
        match cs, h3 with
        | [x, y, z], _ => exact ⟨x, y, z, rfl⟩
      have q0 := h4 0 (.int .i64 a') x rfl rfl
      have q1 := h4 1 v y rfl rfl
      have q2 := h4 2 (.int .i64 b') z rfl rfl
      cases q0; cases q2
      exact ⟨y, h1, q1⟩
    | false =>
      have h3 : 3 = cs.length := h3
      obtain ⟨x, y, z, rfl⟩ : ∃ x y z, cs = [x, y, z] := by
        match cs, h3 with
        | [x, y, z], _ => exact ⟨x, y, z, rfl⟩
      have q0 := h4 0 (.int .i64 a') x rfl rfl
      have q1 := h4 1 (.int .i64 b') y rfl rfl
      have q2 := h4 2 v z rfl rfl
      cases q0; cases q1
      exact ⟨z, h1, q2⟩
theorem row_of {e : Nat → Nat} {i : Nat} {X : Array Value} {sz : Nat} {sp : Bool} (V : View ⟨0, b⟩ 0 cz s cz sj e) (h : sj.heap.get i = some (.cells X sz sp)) (hX : X.all (plainN 9) = true) : s.heap.get (e i) = some (.cells X sz sp) := by
  obtain ⟨_, o', h1, h2⟩ := V.obj i _ h
  cases o' with
  | map _ => exact h2.elim
  | loop _ => exact h2.elim
  | cells cs sz' sp' =>
    obtain ⟨rfl, rfl, h3, h4⟩ := h2
    have : cs = X := arr_ext h3 fun k x x' hx hx' => plain_eq (Z := idZone) 9 _ _ (all_get hX hx) (h4 k x x' hx hx')
    rw [h1, this]

/-- As it was. -/
theorem end_same2 (hS : SnP 2 ⟨0, b⟩ 0 0 cz frj sj fr s) (h0 : sj.heap.get 0 = some (boxO j a' b' (netV 1 nn.nl nn.M))) (hn : nn.nl = false) (h1 : sj.heap.get 1 = some (.cells nn.M 1 true)) (hM : nn.M.all (plainN 9) = true) : EffEnd j a' b' nn none s := by
  obtain ⟨e, hid, V, F⟩ := hS
  obtain ⟨v', q1, q2⟩ := box_of V (hid 0 (by decide)) h0
  have q3 := row_of V h1 hM
  rw [hid 1 (by decide)] at q3
  rw [hn] at q2
  have hv : v' = netV 1 false nn.M := by
    generalize hu : netV 1 false nn.M = u at q2
    cases q2 with
    | slice id o l cp h =>
      unfold netV at hu
      simp only [cond_false, Value.slice.injEq, Option.some.injEq, Addr.mk.injEq] at hu
      obtain ⟨⟨rfl, rfl, _⟩, rfl, rfl⟩ := hu
      simp [emb, hid 1 (by decide), netV]
    | _ => cases hu
  refine ⟨by rw [q1, hv, hn], ?_⟩
  rw [q3, hn]; rfl
theorem end_same1 (hS : SnP 1 ⟨0, b⟩ 0 0 cz frj sj fr s) (h0 : sj.heap.get 0 = some (boxO j a' b' (.slice none 0 0))) (hn : nn.nl = true) (hG : Grow cz (netS j nn) s) : EffEnd j a' b' nn none s := by
  obtain ⟨e, hid, V, F⟩ := hS
  obtain ⟨v', q1, q2⟩ := box_of V (hid 0 (by decide)) h0
  have hv : v' = .slice none 0 0 := by cases q2; rfl
  refine ⟨by rw [q1, hv, hn]; rfl, ?_⟩
  rw [hn]
  refine hG.gone 1 (by decide : 1 < 2) ?_
  unfold netS
  simp only
  rw [Tr.get_set, if_pos rfl, hn]; rfl
/-- A new row, behind the one that was. -/
theorem end_new2 {l cp : Nat} {X : Array Value} {sp : Bool} {M : Array Value} (hS : SnP 2 ⟨0, b⟩ 0 0 cz frj sj fr s) (h0 : sj.heap.get 0 = some (boxO j a' b' (.slice (some ⟨2, 0, none⟩) l cp))) (h2 : sj.heap.get 2 = some (.cells X 1 sp)) (hX : X.all (plainN 9) = true) (hXf : X.all (freeN 9) = true)
    (hM : M = X.extract 0 l) (hl : l ≤ X.size) (hlc : l ≤ cp) (hcx : cp ≤ X.size) (hso : X.size ≠ 0 ∨ sp = true) : EffEnd j a' b' nn (some (false, M)) s := by
  obtain ⟨e, hid, V, F⟩ := hS
  obtain ⟨v', q1, q2⟩ := box_of V (hid 0 (by decide)) h0
  have q3 := row_of V h2 hX
  have hlt := (V.obj 2 _ h2).1
  have hv : v' = .slice (some ⟨e 2, 0, none⟩) l cp := by
    cases q2 with
    | slice _ _ _ _ h => simp [emb]
  refine ⟨e 2, l, cp, X, sp, by rw [q1, hv], q3, fun h => ?_, fun h => ?_, hM, hl, hlc, hcx, hXf, hso⟩
  · have := V.inj 2 0 hlt (by omega) (by rw [h, hid 0 (by decide)]); omega
  · have := V.inj 2 1 hlt (by omega) (by rw [h, hid 1 (by decide)]); omega
/-- A new row where none was. -/
theorem end_new1 {l cp : Nat} {X : Array Value} {sp : Bool} {M : Array Value} (hS : SnP 1 ⟨0, b⟩ 0 0 cz frj sj fr s) (h0 : sj.heap.get 0 = some (boxO j a' b' (.slice (some ⟨1, 0, none⟩) l cp))) (h2 : sj.heap.get 1 = some (.cells X 1 sp)) (hX : X.all (plainN 9) = true) (hXf : X.all (freeN 9) = true)
    (hn : nn.nl = true) (hG : Grow cz (netS j nn) s) (hM : M = X.extract 0 l) (hl : l ≤ X.size) (hlc : l ≤ cp) (hcx : cp ≤ X.size) (hso : X.size ≠ 0 ∨ sp = true) : EffEnd j a' b' nn (some (false, M)) s := by
  obtain ⟨e, hid, V, F⟩ := hS
  obtain ⟨v', q1, q2⟩ := box_of V (hid 0 (by decide)) h0
  have q3 := row_of V h2 hX
  have hlt := (V.obj 1 _ h2).1
  have hv : v' = .slice (some ⟨e 1, 0, none⟩) l cp := by
    cases q2 with
    | slice _ _ _ _ h => simp [emb]
  refine ⟨e 1, l, cp, X, sp, by rw [q1, hv], q3, fun h => ?_, fun h => ?_, hM, hl, hlc, hcx, hXf, hso⟩
  · have := V.inj 1 0 hlt (by omega) (by rw [h, hid 0 (by decide)]); omega
  · have h3 := hG.gone 1 (by decide : 1 < 2) (by unfold netS; simp only; rw [Tr.get_set, if_pos rfl, hn]; rfl)
    rw [h, h3] at q3; cases q3
/-- No row any more. -/
theorem end_nil {M : Array Value} (hS : SnP m ⟨0, b⟩ 0 0 cz frj sj fr s) (hm : 1 ≤ m) (h0 : sj.heap.get 0 = some (boxO j a' b' (.slice none 0 0))) : EffEnd j a' b' nn (some (true, M)) s := by
  obtain ⟨e, hid, V, F⟩ := hS
  obtain ⟨v', q1, q2⟩ := box_of V (hid 0 (by omega)) h0
  have hv : v' = .slice none 0 0 := by cases q2; rfl
  show s.heap.get 0 = _
  rw [q1, hv]
end
end
end Go.Am
