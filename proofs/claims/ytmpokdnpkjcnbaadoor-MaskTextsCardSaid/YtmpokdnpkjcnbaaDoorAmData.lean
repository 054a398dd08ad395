/- Arguments, as data: what a slice of structs holds, however deep. -/
import Derived.Test.YtmpokdnpkjcnbaaDoorAmFn
import Derived.ChangeArms
namespace Go.Am
noncomputable section

/-! ### Kinds of data -/
inductive DTy where
  | int (k : IntKind)
  | str
  | bool
  | slice (e : DTy)
  | nil
  | cons (a r : DTy)

def DTy.den : DTy → Type
  | .int _ => Int
  | .str => ByteArray
  | .bool => Bool
  | .slice e => List e.den
  | .nil => PUnit
  | .cons a r => a.den × r.den
def DTy.size : DTy → Nat
  | .nil => 0
  | .cons a r => a.size + r.size
  | _ => 1
def DTy.enc : (d : DTy) → d.den → List Value
  | .int k, (n : Int) => [.int k n]
  | .str, (s : ByteArray) => [.string s]
  | .bool, (b : Bool) => [.bool b]
  | .slice e, (l : List e.den) => [VS ⟨l.flatMap e.enc⟩ 0 l.length]
  | .nil, _ => []
  | .cons a r, (x, y) => a.enc x ++ r.enc y
def DTy.wf : (d : DTy) → d.den → Prop
  | .int k, (n : Int) => (Lit.int k n).wf = true
  | .str, (s : ByteArray) => s.size ≤ maxLen
  | .bool, _ => True
  | .slice e, (l : List e.den) => l.length ≤ maxLen ∧ ∀ x ∈ l, e.wf x
  | .nil, _ => True
  | .cons a r, (x, y) => a.wf x ∧ r.wf y

/-- A row of data. -/
def DTy.row (d : DTy) (l : List d.den) : Array Value := ⟨l.flatMap d.enc⟩
theorem DTy.enc_length : ∀ (d : DTy) (x : d.den), (d.enc x).length = d.size := by
  intro d
  induction d with
  | int | str | bool | slice | nil => intro x; rfl
  | cons a r ia ir => intro x; obtain ⟨x, y⟩ := x; simp [DTy.enc, DTy.size, ia, ir]

theorem flat_get {α β : Type} {f : α → List β} {s : Nat} (hf : ∀ x, (f x).length = s) : ∀ (l : List α) (i j : Nat), j < s → (l.flatMap f)[i * s + j]? = (l[i]?).bind fun x => (f x)[j]? := by
  intro l
  induction l with
  | nil => intro i j _; simp
  | cons x r ih =>
    intro i j hj
    rw [List.flatMap_cons]
    cases i with
    | zero => rw [Nat.zero_mul, Nat.zero_add, List.getElem?_append_left (by rw [hf]; exact hj)]; rfl
    | succ i =>
      rw [List.getElem?_append_right (by rw [hf, Nat.succ_mul]; omega), hf, show (i + 1) * s + j - s = i * s + j by rw [Nat.succ_mul]; omega, ih i j hj]
      rfl
theorem flat_length {α β : Type} {f : α → List β} {s : Nat} (hf : ∀ x, (f x).length = s) : ∀ (l : List α), (l.flatMap f).length = l.length * s := by
  intro l
  induction l with
  | nil => simp
  | cons x r ih => rw [List.flatMap_cons, List.length_append, hf, ih, List.length_cons, Nat.succ_mul]; omega
theorem DTy.row_size (d : DTy) (l : List d.den) : (d.row l).size = l.length * d.size := by
  unfold DTy.row
  rw [List.size_toArray]; exact flat_length d.enc_length l
theorem DTy.row_get (d : DTy) (l : List d.den) (i j : Nat) (hj : j < d.size) : (d.row l)[i * d.size + j]? = (l[i]?).bind fun x => (d.enc x)[j]? := by
  unfold DTy.row
  rw [List.getElem?_toArray]; exact flat_get d.enc_length l i j hj

/-! ### What stands for memory -/
inductive Abs (W : World) : Value → Value → Prop where
  | int (k : IntKind) (i : Int) : Abs W (.int k i) (.int k i)
  | bool (b : Bool) : Abs W (.bool b) (.bool b)
  | string (s : ByteArray) : Abs W (.string s) (.string s)
  | vslice (nm : String) (X : Array Value) (o l cp b o' : Nat) (X' : Array Value) (el : TypeId) (fz : Nat × Nat) (y : Nat → Value) (hb : W.heap[b]? = some (.cells X' el fz))
      (hy : ∀ (i : Nat) x, X[i]? = some x → X'[o' + i]? = some (y i)) (hA : ∀ (i : Nat) x, X[i]? = some x → Abs W x (y i)) (hl : l ≤ cp) : Abs W (.func (.method nm) X #[.slice none o l]) (.slice (some ⟨b, o' + o, none⟩) l cp)
  | vnil (nm : String) (X : Array Value) (o cp : Nat) (p : Option Addr) : Abs W (.func (.method nm) X #[.slice none o 0]) (.slice p 0 cp)

abbrev zoneOf (W : World) : Zone where
  row X b o' := ∃ X' el fz, W.heap[b]? = some (.cells X' el fz) ∧ ∀ (i : Nat) x, X[i]? = some x → ∃ x', X'[o' + i]? = some x' ∧ Abs W x x'
  real := True
  same := False
  whole X b o' := ∃ X' el fz, W.heap[b]? = some (.cells X' el fz) ∧ ∀ (i : Nat) x, X[i]? = some x → ∃ x', X'[o' + i]? = some x' ∧ Abs W x x'
  sub X b o' h := h
  says b X' := ∃ el fz, W.heap[b]? = some (.cells X' el fz)

theorem Abs.vrel {W : World} {v v' : Value} (h : Abs W v v') (φ : Nat → Pl) (c : Ctx) (n : Nat) : @Vrel (zoneOf W) φ c n v v' := by
  cases h with
  | int k i => exact Vrel.int (Z := zoneOf W) k i
  | bool b => exact Vrel.bool (Z := zoneOf W) b
  | string s => exact Vrel.string (Z := zoneOf W) s
  | vslice nm X o l cp b o' X' el fz y hb hy hA hl => exact Vrel.vslice (Z := zoneOf W) nm X o l cp b o' ⟨X', el, fz, hb, fun i x hx => ⟨_, hy i x hx, hA i x hx⟩⟩ hl
  | vnil nm X o cp p => exact Vrel.vnil (Z := zoneOf W) nm X o cp p trivial

theorem zoneOf_ok (W : World) : @ZoneOk (zoneOf W) W := by
  refine @ZoneOk.mk (zoneOf W) W ?_ ?_ ?_
  · rintro X b o ⟨X', el, fz, hb, h⟩
    refine ⟨(Array.getElem?_eq_some_iff.1 hb).1, X', el, fz, hb, fun i x hx => ?_, fun _ => ⟨el, fz, hb⟩⟩
    obtain ⟨x', h1, h2⟩ := h i x hx
    exact ⟨x', h1, h2.vrel _ _ _⟩
  · exact fun h => h
  · trivial

/-! ### From what the row's statement says of an argument -/
def codeFs (f : TypeId → Option DTy) (P : Program) : List Field → Nat → Option DTy
  | [], _ => some .nil
  | x :: r, o => match f x.type, codeFs f P r (o + P.cellsOf x.type) with
    | some a, some b => if x.offset = o ∧ a.size = P.cellsOf x.type then some (.cons a b) else none
    | _, _ => none
def codeAr (d : DTy) : Nat → DTy
  | 0 => .nil
  | n + 1 => .cons d (codeAr d n)
def codeOf (P : Program) : Nat → TypeId → Option DTy
  | 0, _ => none
  | n + 1, t => match P.underlying t with
    | some (.int k) => some (.int k)
    | some .string => some .str
    | some .bool => some .bool
    | some (.slice e) => match codeOf P n e with
      | some d => if d.size = P.cellsOf e ∧ 0 < d.size then some (.slice d) else none
      | none => none
    | some (.struct fs) => match codeFs (codeOf P n) P fs.toList 0 with
      | some d => if d.size = P.cellsOf t then some d else none
      | none => none
    | some (.array len e) => match codeOf P n e with
      | some d => if d.size = P.cellsOf e ∧ len * d.size = P.cellsOf t then some (codeAr d len) else none
      | none => none
    | _ => none

def AbsL (W : World) (ys cs : List Value) : Prop := ys.length = cs.length ∧ ∀ (i : Nat) y c, ys[i]? = some y → cs[i]? = some c → Abs W y c
theorem AbsL.one {W : World} {y c : Value} (h : Abs W y c) : AbsL W [y] [c] := ⟨rfl, fun i y' c' h1 h2 => by
  cases i with
  | zero => simp at h1 h2; subst h1 h2; exact h
  | succ i => simp at h1⟩
theorem AbsL.append {W : World} {a a' b b' : List Value} (h : AbsL W a a') (k : AbsL W b b') : AbsL W (a ++ b) (a' ++ b') := by
  refine ⟨by simp [h.1, k.1], fun i y c hy hc => ?_⟩
  by_cases hi : i < a.length
  · rw [List.getElem?_append_left hi] at hy
    rw [List.getElem?_append_left (by rw [← h.1]; exact hi)] at hc
    exact h.2 i y c hy hc
  · rw [List.getElem?_append_right (by omega)] at hy
    rw [List.getElem?_append_right (by rw [← h.1]; omega), ← h.1] at hc
    exact k.2 _ y c hy hc

section
variable {H : Type} {enc : TypeId × Value → H} {P : Program} {w : World} {spare : Nat → Bool} {held : Bool}

theorem cells_at {a : Addr} {n : Nat} {cs : List Value} (h : w.cells? 0 a n = some cs) : cs.length = n ∧ ∀ i, i < n → w.cell? (a.add i) = cs[i]? := by
  unfold World.cells? at h
  simp only [Nat.zero_le, if_true] at h
  refine ⟨by simpa using mapM_some_length h, fun i hi => ?_⟩
  exact mapM_some_get h i i (by simp [hi])

theorem codeAr_size (d : DTy) : ∀ n, (codeAr d n).size = n * d.size := by
  intro n
  induction n with
  | zero => simp [codeAr, DTy.size]
  | succ n ih => simp only [codeAr, DTy.size, ih, Nat.succ_mul]; omega

theorem fs_abs {f : TypeId → Option DTy} {cs : List Value} (ih : ∀ t d, f t = some d → ∀ fuel cs x, DataW.trod enc P w 0 spare held fuel t cs = some x → ∃ y : d.den, d.wf y ∧ AbsL w (d.enc y) cs) :
    ∀ (l : List Field) (o : Nat) (d : DTy), codeFs f P l o = some d → (∀ x ∈ l, ∃ fuel z, DataW.trod enc P w 0 spare held fuel x.type ((cs.drop x.offset).take (P.cellsOf x.type)) = some z) →
      ∃ y : d.den, d.wf y ∧ AbsL w (d.enc y) ((cs.drop o).take d.size) := by
  intro l
  induction l with
  | nil =>
    intro o d h _
    cases h
    exact ⟨PUnit.unit, trivial, rfl, fun i y c h => by simp [DTy.enc] at h⟩
  | cons x r ihr =>
    intro o d h hx
    simp only [codeFs] at h
    split at h
    · rename_i a b ha hb
      split at h
      · rename_i hc
        cases h
        obtain ⟨fuel, z, hz⟩ := hx x (List.mem_cons_self ..)
        obtain ⟨y1, w1, e1⟩ := ih _ _ ha _ _ _ hz
        obtain ⟨y2, w2, e2⟩ := ihr _ _ hb fun x' hx' => hx x' (List.mem_cons_of_mem _ hx')
        refine ⟨(y1, y2), ⟨w1, w2⟩, ?_⟩
        rw [hc.1, ← hc.2] at e1
        rw [← hc.2] at e2
        have : (cs.drop o).take (a.size + b.size) = (cs.drop o).take a.size ++ (cs.drop (o + a.size)).take b.size := by
          rw [List.take_add, List.drop_drop]
        show AbsL w (a.enc y1 ++ b.enc y2) ((cs.drop o).take (a.size + b.size))
        rw [this]
        exact e1.append e2
      · cases h
    · cases h

theorem ar_abs {d : DTy} {cs : List Value} {s : Nat} (hs : d.size = s) : ∀ (n o : Nat), (∀ i, i < n → ∃ y : d.den, d.wf y ∧ AbsL w (d.enc y) ((cs.drop ((o + i) * s)).take s)) →
    ∃ y : (codeAr d n).den, (codeAr d n).wf y ∧ AbsL w ((codeAr d n).enc y) ((cs.drop (o * s)).take (n * s)) := by
  intro n
  induction n with
  | zero => intro o _; exact ⟨PUnit.unit, trivial, by simp [codeAr, DTy.enc], fun i y c h => by simp [codeAr, DTy.enc] at h⟩
  | succ n ih =>
    intro o h
    obtain ⟨y1, w1, e1⟩ := h 0 (by omega)
    obtain ⟨y2, w2, e2⟩ := ih (o + 1) fun i hi => by
      have := h (i + 1) (by omega)
      rw [show o + 1 + i = o + (i + 1) by omega]; exact this
    refine ⟨(y1, y2), ⟨w1, w2⟩, ?_⟩
    show AbsL w (d.enc y1 ++ (codeAr d n).enc y2) ((cs.drop (o * s)).take ((n + 1) * s))
    rw [show (n + 1) * s = s + n * s by rw [Nat.succ_mul]; omega, List.take_add, List.drop_drop, show o * s + s = (o + 1) * s by rw [Nat.succ_mul]]
    exact e1.append e2

theorem list_choose {α : Type} {p : Nat → α → Prop} : ∀ (n : Nat), (∀ i, i < n → ∃ y, p i y) → ∃ l : List α, l.length = n ∧ ∀ (i : Nat) y, l[i]? = some y → p i y := by
  intro n h
  refine ⟨List.ofFn fun i : Fin n => Classical.choose (h i i.2), by simp, fun i y hy => ?_⟩
  obtain ⟨hi, rfl⟩ := List.getElem?_eq_some_iff.1 hy
  simp only [List.getElem_ofFn]
  exact Classical.choose_spec (h i (by simpa using hi))

theorem trod_abs : ∀ (f0 : Nat) (t : TypeId) (d : DTy), codeOf P f0 t = some d → ∀ fuel cs x, DataW.trod enc P w 0 spare held fuel t cs = some x → ∃ y : d.den, d.wf y ∧ AbsL w (d.enc y) cs := by
  intro f0
  induction f0 with
  | zero => intro t d h; cases h
  | succ f0 ih =>
    intro t d h fuel cs x hx
    simp only [codeOf] at h
    split at h
    · rename_i k hu
      cases h
      obtain ⟨n, rfl, _, hw⟩ := DataW.trod_int hu hx
      exact ⟨n, hw, AbsL.one (.int k n)⟩
    · rename_i hu
      cases h
      obtain ⟨s, rfl, _, hs⟩ := DataW.trod_string hu hx
      exact ⟨s, hs, AbsL.one (.string s)⟩
    · rename_i hu
      cases h
      obtain ⟨b, rfl, _⟩ := DataW.trod_bool hu hx
      exact ⟨b, trivial, AbsL.one (.bool b)⟩
    · rename_i e hu
      split at h
      · rename_i d1 hd1
        split at h
        · rename_i hc
          cases h
          rcases DataW.trod_slice hu hx with ⟨rfl, _⟩ | ⟨a, len, cap, elems, rest, n, _, rfl, _, _, hlc, hcm, hel, hget, _, _⟩
          · exact ⟨([] : List d1.den), ⟨Nat.zero_le _, fun x hx => by cases hx⟩, AbsL.one (.vnil "" _ 0 0 none)⟩
          · by_cases h0 : len = 0
            · subst h0
              exact ⟨([] : List d1.den), ⟨Nat.zero_le _, fun x hx => by cases hx⟩, AbsL.one (.vnil "" _ 0 cap (some a))⟩
            · have hone : ∀ i, i < len → ∃ y : d1.den, d1.wf y ∧ ∃ cs', w.cells? 0 (a.add (i * P.cellsOf e)) (P.cellsOf e) = some cs' ∧ AbsL w (d1.enc y) cs' := fun i hi => by
                have h1 := hget i hi
                rw [List.getElem?_eq_getElem (by rw [hel]; exact hi)] at h1
                obtain ⟨cs', h2, h3⟩ := Option.bind_eq_some_iff.1 h1
                obtain ⟨y, h4, h5⟩ := ih _ _ hd1 _ _ _ h3
                exact ⟨y, h4, cs', h2, h5⟩
              obtain ⟨l, hll, hl⟩ := list_choose len hone
              have hsp : a.spot = none := by
                obtain ⟨y, _, cs', h2, h3⟩ := hone 0 (by omega)
                obtain ⟨h4, h5⟩ := cells_at h2
                have h6 := h5 0 (by omega)
                rw [List.getElem?_eq_getElem (by omega)] at h6
                rw [Nat.zero_mul] at h6
                have : (a.add 0).add 0 = a := by simp [Addr.add]
                rw [this] at h6
                unfold World.cell? at h6
                split at h6
                · split at h6
                  · cases h6
                  · rename_i hs; simpa using hs
                · cases h6
              obtain ⟨b, off, spot⟩ := a
              simp only at hsp
              subst hsp
              have hadd : ∀ m k : Nat, ((⟨b, off, none⟩ : Addr).add m).add k = ⟨b, off + m + k, none⟩ := fun m k => by rw [addr_add, addr_add]
              have hrow : ∃ X' el fz, w.heap[b]? = some (.cells X' el fz) := by
                obtain ⟨y, _, cs', h2, h3⟩ := hone 0 (by omega)
                obtain ⟨h4, h5⟩ := cells_at h2
                have h6 := h5 0 (by omega)
                rw [List.getElem?_eq_getElem (by omega), hadd] at h6
                unfold World.cell? at h6
                split at h6
                · exact ⟨_, _, _, by assumption⟩
                · cases h6
              obtain ⟨X', el, fz, hX⟩ := hrow
              have hcell : ∀ (k : Nat) x, (d1.row l)[k]? = some x → ∃ x', X'[off + k]? = some x' ∧ Abs w x x' := fun k x hk => by
                have hs := hc.2
                have hk' : k = k / d1.size * d1.size + k % d1.size := by rw [Nat.mul_comm]; exact (Nat.div_add_mod k d1.size).symm
                rw [hk', DTy.row_get d1 l _ _ (Nat.mod_lt _ hs)] at hk
                obtain ⟨y, hy, hyk⟩ := Option.bind_eq_some_iff.1 hk
                obtain ⟨_, cs', h2, h3⟩ := hl _ _ hy
                obtain ⟨h4, h5⟩ := cells_at h2
                have hm : k % d1.size < P.cellsOf e := by rw [← hc.1]; exact Nat.mod_lt _ hs
                have h6 := h5 _ hm
                rw [List.getElem?_eq_getElem (by rw [h4]; exact hm), hadd] at h6
                unfold World.cell? at h6
                simp only [hX, Option.isSome_none, Bool.false_eq_true, if_false] at h6
                refine ⟨_, ?_, h3.2 _ _ _ hyk (List.getElem?_eq_getElem (by rw [h4]; exact hm))⟩
                have hk2 : off + k / d1.size * P.cellsOf e + k % d1.size = off + k := by rw [← hc.1]; omega
                rw [hk2] at h6
                exact h6
              have hX2 : ∀ k : Nat, ∃ x', ∀ x, (d1.row l)[k]? = some x → X'[off + k]? = some x' ∧ Abs w x x' := fun k => by
                cases hk : (d1.row l)[k]? with
                | none => exact ⟨.nilFunc, fun x h => by cases h⟩
                | some x =>
                  obtain ⟨x', h1, h2⟩ := hcell k x hk
                  exact ⟨x', fun x2 h => by cases h; exact ⟨h1, h2⟩⟩
              refine ⟨l, ⟨by rw [hll]; omega, fun x hx => ?_⟩, ?_⟩
              · obtain ⟨i, hi⟩ := List.mem_iff_getElem?.1 hx
                exact (hl i x hi).1
              · have := Abs.vslice (W := w) "" (d1.row l) 0 len cap b off X' el fz (fun k => Classical.choose (hX2 k)) hX (fun k x hk => (Classical.choose_spec (hX2 k) x hk).1) (fun k x hk => (Classical.choose_spec (hX2 k) x hk).2) hlc
                rw [Nat.add_zero, ← hll] at this
                rw [← hll]
                exact AbsL.one this
        · cases h
      · cases h
    · rename_i fs hu
      split at h
      · rename_i d1 hd1
        split at h
        · rename_i hc
          cases h
          obtain ⟨xs, n, rfl, _, hlen, hxl, hget⟩ := DataW.trod_struct hu hx
          obtain ⟨y, h1, h2⟩ := fs_abs (cs := cs) (fun t d ht fuel cs x hx => ih t d ht fuel cs x hx) fs.toList 0 d hd1 fun f hf => by
            obtain ⟨i, hi⟩ := List.mem_iff_getElem?.1 hf
            have hi' : fs[i]? = some f := by simpa using hi
            have := hget i f hi'
            obtain ⟨hlt, _⟩ := Array.getElem?_eq_some_iff.1 hi'
            rw [List.getElem?_eq_getElem (by rw [hxl]; exact hlt)] at this
            exact ⟨_, _, this⟩
          rw [List.drop_zero, hc, ← hlen, List.take_length] at h2
          exact ⟨y, h1, h2⟩
        · cases h
      · cases h
    · rename_i len e hu
      split at h
      · rename_i d1 hd1
        split at h
        · rename_i hc
          cases h
          cases fuel with
          | zero => simp [DataW.trod] at hx
          | succ fuel =>
            unfold DataW.trod at hx
            rw [hu] at hx
            have hx' : cs.length = P.cellsOf t ∧ ∃ xs, (List.range len).mapM (fun i => DataW.trod enc P w 0 spare held fuel e ((cs.drop (i * P.cellsOf e)).take (P.cellsOf e))) = some xs := by
              split at hx <;> simp_all
              obtain ⟨_, xs, h1, _⟩ := hx
              exact ⟨xs, h1⟩
            obtain ⟨hlen, xs, hxs⟩ := hx'
            obtain ⟨y, h1, h2⟩ := ar_abs (w := w) (cs := cs) (d := d1) hc.1 len 0 fun i hi => by
              have hg := mapM_some_get hxs i i (by simp [hi])
              have hl := mapM_some_length hxs
              rw [List.length_range] at hl
              rw [List.getElem?_eq_getElem (by omega)] at hg
              rw [Nat.zero_add]
              exact ih _ _ hd1 _ _ _ hg
            rw [Nat.zero_mul, List.drop_zero, ← hc.1, hc.2, ← hlen, List.take_length] at h2
            exact ⟨y, h1, h2⟩
        · cases h
      · cases h
    · cases h
end
end
end Go.Am

/- More rules: what is known in a state that is seen; loops that count; loops over functions; rows that are frozen; readers told. -/
namespace Go.Am
noncomputable section
variable {Z : Zone}

section
variable {g : Cfg} {base : Base} {c : Ctx} {φ : Nat → Pl} {ω : Nat → Option Tag} {lam : Nat → Nat} {fr : Fr} {s : St} {rs : List Nat} {a : Act} {w w' : World}

/-- What is known of the state that is seen is known of what stands for it. -/
theorem AWp.lift (hng : g.ng = 0) {k0 : Nat} {ci : Ctx} {si : St} {e : Nat → Nat} {fri : Fr} (V : View base k0 c s ci si e) (F : FView e si.next fr fri) {k : Code} {R : Ex → Fr → St → Prop}
    (h : AWp g ⟨k0, base.blk⟩ ci k fri si fun ex fri' si' => Grow ci si si' ∧ (∀ v, ex ≠ .pan v) ∧ ∀ fr' s' e', (∀ i, i < si.next → e' i = e i) → View base k0 c s' ci si' e' → FView e' si'.next fr' fri' → Grow c s s' → R ex fr' s') : AWp g base c k fr s R := by
  intro φ ω lam rs a w ro Q hs hf hro hQ
  refine h (fun i => φ (e i)) (tagsIn e si.next ω) lam rs a w ro Q (V.open_ hng hs) (F.open_ V.hide hf) (F.round_ hro) fun ex fri' si' ⟨hgr, hex, hR⟩ => ?_
  intro φi' ωi' lam' rs' a' w' e0 hp he
  have hvis : ∀ i, ci.vis i = true := fun i => by unfold Ctx.vis; rw [V.hide]; rfl
  obtain ⟨S, hG, V'⟩ := outS_shut (si' := si') V hgr (fun i o ho => renO_ok (hp.srel.obj i o ho (hvis i))) hs.dom hs.vnew hs.bn
  have hX : ∀ b, LocB lam fri.loc b → ∃ d, ω b = some (.loc d) := by
    rintro b ⟨d, cs, hd, rfl⟩
    obtain ⟨cs', h1, _, _⟩ := F.loc d cs hd
    exact ⟨d, (hf.own d cs' h1).1⟩
  obtain ⟨φ', ω', hag, hsr, hk, hmap, hloc, hmark⟩ := V.shut hng hs S hX hp.agree hp.srel hp.keep
  have htm : ∀ t v', (outFr s si si' e fr fri').tm.get t = some v' → ∃ v, fri'.tm.get t = some v ∧ VRen (outE e si.next s.next) si'.next v v' := fun t v' hv => by
    unfold outFr at hv
    simp only at hv
    rw [Tr.get_mapT] at hv
    obtain ⟨v, h1, h2⟩ := Option.map_eq_some_iff.1 hv
    exact ⟨v, h1, by rw [← h2]; exact renV_ok (ren_ex _ (hp.frel.tm t v h1))⟩
  have hlc : ∀ d cs', (outFr s si si' e fr fri').loc.get d = some cs' → ∃ cs, fri'.loc.get d = some cs ∧ cs.size = cs'.size ∧ ∀ (k : Nat) x x', cs[k]? = some x → cs'[k]? = some x' → VRen (outE e si.next s.next) si'.next x x' := fun d cs' hd => by
    unfold outFr at hd
    simp only at hd
    rw [Tr.get_mapT] at hd
    obtain ⟨cs, h1, h2⟩ := Option.map_eq_some_iff.1 hd
    subst h2
    refine ⟨cs, h1, by simp, fun k x x' hx hx' => ?_⟩
    rw [Array.getElem?_map, hx] at hx'
    simp only [Option.map_some, Option.some.injEq] at hx'
    subst hx'
    obtain ⟨_, cs2, el, _, hA⟩ := hp.frel.own d cs h1
    obtain ⟨hk, _⟩ := Array.getElem?_eq_some_iff.1 hx
    obtain ⟨x', _, hr⟩ := hA.get hx
    exact renV_ok (ren_ex _ hr)
  have hround : fri'.round = fri.round := hp.round
  have hF : FView (outE e si.next s.next) si'.next (outFr s si si' e fr fri') fri' := by
    refine ⟨rfl, rfl, fun t v hv => ⟨_, by unfold outFr; simp only; rw [Tr.get_mapT, hv]; rfl, renV_ok (ren_ex _ (hp.frel.tm t v hv))⟩, fun t p hpp => ⟨hpp, (hp.frel.pt t p hpp).1⟩, fun d cs hd => ?_, ?_⟩
    · refine ⟨cs.map (renV (outE e si.next s.next) si'.next), by unfold outFr; simp only; rw [Tr.get_mapT, hd]; rfl, by simp, fun k x x' hx hx' => ?_⟩
      obtain ⟨cs1, h1, _, h3⟩ := hlc d (cs.map (renV (outE e si.next s.next) si'.next)) (by unfold outFr; simp only; rw [Tr.get_mapT, hd]; rfl)
      rw [hd] at h1; cases h1
      exact h3 k x x' hx hx'
    · have hr := F.round
      rw [hround]
      cases hf1 : fri.round with
      | none => rw [hf1] at hr; exact hr
      | some i =>
        rw [hf1] at hr
        simp only at hr ⊢
        refine ⟨Nat.lt_of_lt_of_le hr.1 hgr.next, ?_⟩
        show fr.round = _
        rw [hr.2, S.ext i hr.1]
  refine hQ ex (outFr s si si' e fr fri') (outS ci s si si' e) (hR _ _ _ S.ext V' hF hG) φ' ω' lam' rs' a' w' e0 ⟨hag, S.next, hsr, ⟨hp.frel.size, fun t v' hv => ?_, fun t p hpp => ?_, fun d cs' hd => ?_, hp.frel.defers, hp.frel.nodup, fun r hr => ⟨(hp.frel.marks r hr).1, hmark r (hp.frel.marks r hr).2⟩⟩, fun d cs' hd => ?_, ?_, hp.marks, rfl⟩ ?_
  · obtain ⟨v, h1, h2⟩ := htm t v' hv
    exact h2.back hmap (hp.frel.tm t v h1)
  · obtain ⟨⟨cs, h1⟩, h2⟩ := hp.frel.pt t p hpp
    obtain ⟨cs', h3, _⟩ := hF.loc p.1 cs h1
    exact ⟨⟨cs', h3⟩, h2⟩
  · obtain ⟨cs, h1, h2, h3⟩ := hlc d cs' hd
    obtain ⟨ht, cs2, el, hb, hA⟩ := hp.frel.own d cs h1
    exact ⟨hloc _ _ ht, cs2, el, hb, hA.back hmap h2 h3⟩
  · obtain ⟨cs, h1, _, _⟩ := hlc d cs' hd
    rcases hp.lamW d cs h1 with ⟨h2, cs0, h3⟩ | h2
    · obtain ⟨cs1, h4, _, _⟩ := F.loc d cs0 h3
      exact .inl ⟨h2, cs1, h4⟩
    · exact .inr h2
  · refine hk.weaken ?_
    rintro b ⟨d, cs, hd, rfl⟩
    obtain ⟨cs1, h4, _, _⟩ := F.loc d cs hd
    exact ⟨d, cs1, h4, rfl⟩
  · cases he with
    | normal => exact .normal
    | ret => exact .ret
    | exit i => exact .exit i
    | pan v v' hv => exact (hex v rfl).elim

theorem AWp.liftSn (hng : g.ng = 0) {k0 fl : Nat} {fri : Fr} {si : St} (hS : Sn base k0 fl c fri si fr s) {k : Code} {R : Ex → Fr → St → Prop}
    (h : AWp g ⟨k0, base.blk⟩ { floor := fl, own := [], hide := [] } k fri si fun ex frj sj => Grow { floor := fl, own := [], hide := [] } si sj ∧ (∀ v, ex ≠ .pan v) ∧ ∀ fr' s', Sn base k0 fl c frj sj fr' s' → Grow c s s' → R ex fr' s') : AWp g base c k fr s R := by
  obtain ⟨e, V, F⟩ := hS
  exact AWp.lift hng V F (h.mono fun ex frj sj ⟨h1, h2, h3⟩ => ⟨h1, h2, fun fr' s' e' _ V' F' hG => h3 fr' s' ⟨e', V', F'⟩ hG⟩)

/-- A loop over a function that is not reckoned. -/
theorem AWp.rangeFunc (hg : Good g base) {f : Operand} {ps : Array Tmp} {as body : Code} {F : FuncId} {x0 y0 : Array Value} {i : FnI} (hev : fr.gev g f = some (.func (.func F) x0 y0)) (hi : g.fns F = some i) (hrs : roundSeen c fr s = true) (hle : (x0 ++ #[Value.func (.yield s.next) #[] #[]] ++ y0).size ≤ i.nt) {R : Ex → Fr → St → Prop}
    (h : AWp g base c i.body (frame0 F i.nt (x0 ++ #[Value.func (.yield s.next) #[] #[]] ++ y0)) (s.new (.loop { fn := fr.fn, nt := fr.nt, tm := fr.tm, params := ps, assign := as, body, state := .ready, pending := none }))
      fun ex fr1 s1 => Grow c s s1 ∧ (ex = .normal ∨ ex = .ret) ∧ (∃ v, resultsV g c fr1 s1 i.results = some v) ∧ ∃ l e, s1.heap.get s.next = some (.loop l) ∧ exitOf l.pending = some e ∧ (l.state != .busy) = true ∧ R e fr { s1 with heap := s1.heap.set s.next none }) : AWp g base c (.rangeFunc f ps as body) fr s R := by
  intro φ ω lam rs a w ro Q hs hf hro hQ
  have hlk := hrs
  unfold roundSeen at hlk
  refine wpIn_rangeFunc fun fn _ => ?_
  obtain ⟨l, mark, w1, φ1, ω1, rs1, hrun, hp, hl, hge⟩ := enter_loop hs hf hro fn (ps := ps) (as := as) (body := body) hlk
  have hv := Vrel.yield (φ := φ1) (c := c) (n := s.next + 1) s.next ⟨Nat.lt_succ_self _, hs.vnew _ (Nat.le_refl _)⟩
  rw [hl] at hv
  have hfr := (gev_rel hs hf hev).mono hp.agree (Nat.le_succ s.next)
  generalize hz : a.eval f = z at hfr
  cases hfr with
  | func _ _ _ x1 y1 hsx hsy hX hY =>
  have hall : Arel φ1 c (s.next + 1) (x0 ++ #[Value.func (.yield s.next) #[] #[]] ++ y0) (x1 ++ #[Value.func (.yield l) #[] #[]] ++ y1) := by
    refine Arel.append (Arel.append ⟨hsx, hX⟩ ⟨rfl, fun i x x' hx hx' => ?_⟩) ⟨hsy, hY⟩
    cases i with
    | zero => simp at hx hx'; subst hx hx'; exact hv
    | succ i => simp at hx
  obtain ⟨Fu, hFn, hb, _, _, hname⟩ := hg.fns F i hi
  have hcall := AWp.calls hg hi hle (Fin := fun _ s1 => Grow c s s1 ∧ ∃ l e, s1.heap.get s.next = some (.loop l) ∧ exitOf l.pending = some e ∧ (l.state != .busy) = true ∧ R e fr { s1 with heap := s1.heap.set s.next none })
    (h.mono fun ex fr1 s1 ⟨h1, h2, ⟨v, h3⟩, h4⟩ => ⟨h2, v, h3, h1, h4⟩) hp.srel hall
  refine ⟨l, mark, w1, { target := .fn (.func F) y1, args := x1 ++ #[Value.func (.yield l) #[] #[]] }, w1, F, x1 ++ #[Value.func (.yield l) #[] #[]] ++ y1, w1, hrun, ?_, fun _ _ => trivial, ?_, fun h => by simp [FF, Fence.wide] at h, ?_⟩
  · have hz' : ∀ d, Act.eval { a with defers := d } f = Value.func (Fn.func F) x1 y1 := fun d => by rw [← hz]; cases f <;> rfl
    simp only [resolve, rangeCall, hz', hz, Deferred.ofValue, Sem.run_pure]
    simp [Act.eval]
  · simp only [invoke]
    exact run_callFunc hFn hb hname _
  · refine callsIn_FF (hcall.mono fun e w3 hR => ?_)
    obtain ⟨v0, s1, ⟨hg1, lr, ex1, hlr, hex, hnb, hfinR⟩, hR⟩ := hR
    obtain ⟨φ3, ω3, hp3, her⟩ := callR_fpost hp.srel hp.frel hR
    have hall2 := hp.trans hs (Grow.new c s _) hp3
    cases her with
    | ret v v' hv =>
      have hvis := hs.vnew s.next (Nat.le_refl _)
      obtain ⟨L, hL, hst1, hpe, _⟩ := hall2.srel.obj _ _ hlr hvis
      have hphi : (φ3 s.next) = ⟨l, 0, 0⟩ := by rw [hp3.agree s.next (Nat.lt_succ_self _)]; exact hl
      rw [hphi] at hL
      have hend := run_endLoop (P := g.P) hL (by rw [hst1]; simpa using hnb)
      refine ⟨_, _, hend, ?_⟩
      have hfin := hall2.shut (w'' := w3.putObj l (.loop { L with state := .exhausted })) hlr hvis hs.bn (by rw [hphi]) hge (.loop { L with state := .exhausted }) (by simp [World.putObj]) (fun b hb => World.putObj_heap_other hb) rfl rfl rfl
      generalize w3.putObj (Pl.mk l 0 0).blk (.loop { L with state := .exhausted }) = W4 at hfin ⊢
      rw [hpe]
      unfold exitOf at hex
      split at hex
      · rename_i e0; cases hex; rw [e0]; exact hQ _ _ _ hfinR _ _ _ _ _ _ _ hfin .normal
      · rename_i e0; cases hex; rw [e0]; exact wpIn_ret (hQ _ _ _ hfinR _ _ _ _ _ _ _ hfin .ret)
      · rename_i i0 e0; cases hex; rw [e0]; exact wpIn_exit (hQ _ _ _ hfinR _ _ _ _ _ _ _ hfin (.exit i0))
      · cases hex

/-! ### Loops that count -/
theorem AWp.count (hg : ∀ B, Good g B) (hng : g.ng = 0) {k0 fl n lim : Nat} {k : Code} {sel : Ex → List Tmp × List Kept} {head : Nat → Fr} {sh : Nat → St} {N : Nat} {stop : Nat → Option (Ex × Fr × St)} {R : Ex → Fr → St → Prop} {s0 : St}
    (hfl : ∀ i, fl ≤ (sh i).next)
    (hround : ∀ i, i ≤ N → (∀ j, j < i → stop j = none) → gcObs k0 fl sel (code g (call g n) lim { floor := fl, own := [], hide := [] } k (head i) (sh i)) = some (match stop i with | some r => r | none => (.normal, head (i + 1), sh (i + 1))))
    (hp : ∀ i, i ≤ N → plainJ (match stop i with | some r => r.2.2 | none => sh (i + 1)) (sel (match stop i with | some r => r.1 | none => .normal)).2 0)
    (hlast : ∃ i, i ≤ N ∧ stop i ≠ none) (hstop : ∀ i r, stop i = some r → r.1 ≠ .normal)
    (hR : ∀ i r, i ≤ N → (∀ j, j < i → stop j = none) → stop i = some r → ∀ fr' s', Sn base k0 fl c r.2.1 r.2.2 fr' s' → Grow c s0 s' → R r.1 fr' s') :
    Sn base k0 fl c (head 0) (sh 0) fr s → Grow c s0 s → AWp g base c (.loop k) fr s R := by
  intro hS hG
  obtain ⟨m, hm, hsm⟩ := hlast
  refine AWp.loop (I := fun (p : Nat) fr s => (p ≤ m ∧ ∀ j, j < p → stop j = none) ∧ Sn base k0 fl c (head p) (sh p) fr s ∧ Grow c s0 s) (fun p => m - p) (fun p fr s hI => ?_) 0 fr s ⟨⟨Nat.zero_le _, fun j hj => by omega⟩, hS, hG⟩
  obtain ⟨⟨hpm, hno⟩, hS, hG⟩ := hI
  have hr := hround p (by omega) hno
  have hpj := hp p (by omega)
  cases hst : stop p with
  | none =>
    rw [hst] at hr hpj
    simp only at hr hpj
    refine AWp.seen hg hng hS (hfl p) hr hpj fun fr' s' hS' hG' => ⟨hG', p + 1, ?_, ⟨?_, fun j hj => ?_⟩, hS', hG.trans hG'⟩
    · have : p ≠ m := fun e => hsm (by rw [← e]; exact hst)
      omega
    · have : p ≠ m := fun e => hsm (by rw [← e]; exact hst)
      omega
    · by_cases e : j = p
      · subst e; exact hst
      · exact hno j (by omega)
  | some r =>
    rw [hst] at hr hpj
    simp only at hr hpj
    refine AWp.seen hg hng hS (hfl p) hr hpj fun fr' s' hS' hG' => ⟨hG', ?_⟩
    have hne := hstop p r hst
    have hfin := hR p r (by omega) hno hst fr' s' hS' (hG.trans hG')
    obtain ⟨ex, frj, sj⟩ := r
    cases ex with
    | normal => exact (hne rfl).elim
    | _ => exact hfin

/-! ### Functions of values that hold no place, told -/
variable [Z]
/-- What is told of a call: a value in which no place stands, or a fresh slice. -/
def Tells (g : Cfg) (f : FuncId) (F : Array Value → Option (Value × St)) : Prop :=
  ∀ args x, F args = some x → ∀ base c φ ω s w args' r, SRel g base φ ω c s w → Arel φ c s.next args args' → landed s x = some r → CallsIn (FF none) 0 g.P f args' w (CallR g base c φ ω s r.2 w r.1)
variable {Z}

theorem tells_of (hg : ∀ B, Good g B) (hng : g.ng = 0) {f : FuncId} {i : FnI} (hi : g.fns f = some i) {F : Array Value → Option (Value × St)}
    (h : ∀ args x, F args = some x → args.all (freeN 9) = true ∧ args.size ≤ i.nt ∧ ∀ b, AWp g ⟨0, b⟩ (ctx0 0) i.body (frame0 f i.nt args) st0 fun ex fr' s' => (ex = .normal ∨ ex = .ret) ∧ ∃ v, resultsV g (ctx0 0) fr' s' i.results = some v ∧ shed st0 s' v = some x) : Tells g f F := by
  intro args x hF base c φ ω s w args' r hs ha hr
  obtain ⟨h1, h2, h4⟩ := h args x hF
  have hA := AWp.calls (hg ⟨0, w.heap.size⟩) hi h2 (Fin := fun v s' => shed st0 s' v = some x) (h4 w.heap.size) (Laid.nil hng w (zone_of hs)).srel (ha.free h1)
  refine hA.mono ?_
  rintro e w' ⟨v, s', hx, hR⟩
  exact landed_sim (fun _ => rfl) hx hr hs hR

/-- By reckoning alone. -/
theorem tells_call (hg : ∀ B, Good g B) (hng : g.ng = 0) {f : FuncId} {i : FnI} (hi : g.fns f = some i) {F : Array Value → Option (Value × St)}
    (h : ∀ args x, F args = some x → args.all (freeN 9) = true ∧ ∃ n v s', call g n (.func (.func f) #[] #[]) args (ctx0 0) st0 = some (.ret v, s') ∧ shed st0 s' v = some x) : Tells g f F := by
  intro args x hF base c φ ω s w args' r hs ha hr
  obtain ⟨h1, n, v, s', h3, hx⟩ := h args x hF
  obtain ⟨Fu, hFu, hb, _, _, hname⟩ := (hg ⟨0, w.heap.size⟩).fns f i hi
  obtain ⟨nx, hnx, hact⟩ := call_ok (hg ⟨0, w.heap.size⟩) n _ _ _ _ _ _ h3 (fun _ => ⟨0, 0, 0⟩) (fun _ => none) w (.func (.func f) #[] #[]) args' (Laid.nil hng w (zone_of hs)).srel
    (.func f #[] #[] #[] #[] rfl rfl (fun i x x' h => by simp at h) (fun i x x' h => by simp at h)) (ha.free h1)
  simp only [Deferred.ofValue, Sem.run_bind, Sem.run_pure, Result.andThen_ok, invoke, run_callFunc hFu hb hname, Array.empty_append, Array.append_empty] at hnx
  cases hnx
  exact hact.mono fun e W' hR => landed_sim (fun _ => rfl) hx hr hs hR

/-- More that is told. -/
theorem tells_good (hg : ∀ B, Good g B) {T : FuncId → Option (Array Value → DT (Option (Value × St)))} (hT : ∀ f F, T f = some F → (∃ i, g.fns f = some i) ∧ Tells g f fun a => (F a).eval) (B : Base) : Good (g.told T) B where
  fns := (hg B).fns
  hgrow f hd h args c s r hr := by
    simp only [Cfg.told] at h
    split at h
    · rename_i F hF
      cases h
      unfold apartHand at hr
      obtain ⟨x, _, hl⟩ := Option.bind_eq_some_iff.1 hr
      unfold landed at hl
      split at hl
      · split at hl
        · cases hl; exact Grow.new _ _ _
        · cases hl
      · cases hl; exact Grow.refl _ _
    · exact (hg B).hgrow f hd h args c s r hr
  hand f hd h := by
    simp only [Cfg.told] at h
    split at h
    · rename_i F hF
      cases h
      obtain ⟨⟨i, hi⟩, hA⟩ := hT f F hF
      intro args c s r s' hr φ ω w args' hs ha
      unfold apartHand at hr
      obtain ⟨x, hx, hl⟩ := Option.bind_eq_some_iff.1 hr
      obtain ⟨Fu, hFu, hb, _, _, hname⟩ := (hg B).fns f i hi
      exact ⟨f, args', run_callFunc hFu hb hname _, (hA args x hx B c φ ω s w args' (r, s') (SRel.cfg (g := g.told T) (g' := g) rfl hs) ha hl).mono fun e W' hR => CallR.cfg (g := g) (g' := g.told T) rfl hR⟩
    · intro args c s r s' hr φ ω w args' hs ha
      obtain ⟨f', as', h1, h2⟩ := (hg B).hand f hd h args c s r s' hr φ ω w args' (SRel.cfg (g := g.told T) (g' := g) rfl hs) ha
      exact ⟨f', as', h1, h2.mono fun e W' hR => CallR.cfg (g := g) (g' := g.told T) rfl hR⟩

/-! ### Results -/
/-- Plain results, in their slots. -/
def RetL (L : List (Tmp × Value)) : Ex → Fr → St → Prop := fun ex fr' _ => (ex = .normal ∨ ex = .ret) ∧ ∀ p ∈ L, fr'.tm.get p.1 = some p.2
def plainL (L : List (Tmp × Value)) : Prop := ∀ p ∈ L, plainN 9 p.2 = true
theorem retL_pick {L : List (Tmp × Value)} {tm : Tr Value} (h : ∀ p ∈ L, tm.get p.1 = some p.2) : (∀ p ∈ L, (pick (L.map (·.1)) tm .nil).get p.1 = some p.2) ∧ ∀ t u, (pick (L.map (·.1)) tm .nil).get t = some u → tm.get t = some u ∧ ∃ p ∈ L, p.1 = t ∧ p.2 = u := by
  refine ⟨fun p hp => ?_, fun t u hu => ?_⟩
  · rw [pick_nil, if_pos (List.mem_map_of_mem hp)]
    exact h p hp
  · rw [pick_nil] at hu
    split at hu
    · rename_i hm
      obtain ⟨p, hp, rfl⟩ := List.mem_map.1 hm
      have := h p hp
      rw [this] at hu
      cases hu
      exact ⟨this, p, hp, rfl, rfl⟩
    · cases hu

/-- A plain result is known in what stands for the state in which it is known. -/
theorem AWp.liftRet (hng : g.ng = 0) {k0 : Nat} {ci : Ctx} {si : St} {e : Nat → Nat} {fri : Fr} (V : View base k0 c s ci si e) (F : FView e si.next fr fri) {k : Code} {L : List (Tmp × Value)} (hpl : plainL L)
    (h : AWp g ⟨k0, base.blk⟩ ci k fri si (RetL L)) : AWp g base c k fr s (RetL L) := by
  classical
  intro φ ω lam rs a w ro Q hs hf hro hQ
  refine h (fun i => φ (e i)) (tagsIn e si.next ω) lam rs a w ro Q (V.open_ hng hs) (F.open_ V.hide hf) (F.round_ hro) fun ex fri' si' ⟨hex, hslot⟩ => ?_
  intro φi' ωi' lam' rs' a' w' e0 hp he
  have hX : ∀ b, LocB lam fri.loc b → LocB lam fr.loc b := by
    rintro b ⟨d, cs, hd, rfl⟩
    obtain ⟨cs1, h4, _, _⟩ := F.loc d cs hd
    exact ⟨d, cs1, h4, rfl⟩
  have hno : ∀ b, Own (tagsIn e si.next ω) ci si b → Own ω c s b := by
    rintro b ⟨i, o, h1, h2, h3, h4⟩
    obtain ⟨hi, h5⟩ := tagsIn_obj h1
    obtain ⟨_, o', h6, _⟩ := V.obj i o h4
    exact ⟨e i, o', h5, V.wr i hi h2, (V.lt i hi).2, h6⟩
  have hkeep : Keep ω (fun b => if b < w.heap.size then ω b else if ωi' b = some .mark then some .mark else none) c s (LocB lam fr.loc) w w' :=
    ⟨hp.keep.os, hp.keep.tape, hp.keep.output, hp.keep.size, fun b hb ho hx => ⟨(hp.keep.same b hb (fun h => ho (hno b h)) (fun h => hx (hX b h))).1, if_pos hb⟩⟩
  refine hQ ex { fri' with tm := pick (L.map (·.1)) fri'.tm .nil, pt := .nil, loc := .nil, round := fr.round } ⟨.nil, s.next⟩ ⟨hex, (retL_pick hslot).1⟩ φ (fun b => if b < w.heap.size then ω b else if ωi' b = some .mark then some .mark else none) lam' rs' a' w' e0
    ⟨fun _ _ => rfl, Nat.le_refl _, ?_, ?_, fun d cs hd => ?_, hkeep, hp.marks, rfl⟩ ?_
  · refine ⟨fun i o ho => ?_, hs.bn, hs.bf, hs.vlow, hs.vnew, Nat.le_trans hs.bw hp.keep.size, fun i o ho => ?_, hs.low, fun i o ho => ?_, fun b u hu => ?_, hs.glob, fun X b o hz => ?_, hs.nosame, hs.isreal⟩
    · simp only at ho; rw [Tr.get_nil] at ho; cases ho
    · simp only at ho; rw [Tr.get_nil] at ho; cases ho
    · simp only at ho; rw [Tr.get_nil] at ho; cases ho
    · have hu : (if b < w.heap.size then ω b else if ωi' b = some .mark then some .mark else none) = some u := hu
      split at hu
      · rename_i hlt
        obtain ⟨x, _, z⟩ := hs.tags b u hu
        exact ⟨x, Nat.lt_of_lt_of_le hlt hp.keep.size, z⟩
      · rename_i hge
        split at hu
        · rename_i hm
          cases hu
          exact ⟨by have := hs.bw; omega, (hp.srel.tags b _ hm).2.1, fun i hi => by cases hi⟩
        · cases hu
    · refine (hs.zone X b o hz).keep fun hb' => ?_
      have hlt : b < w.heap.size := by
        rcases hb' with hb' | hb'
        · exact Nat.lt_of_lt_of_le hb' hs.bw
        · exact (hs.tags b _ hb').2.1
      have := hkeep.same b hlt (by
        rintro ⟨i, o, h1, _⟩
        rcases hb' with hb' | hb'
        · have := (hs.tags _ _ h1).1; omega
        · rw [h1] at hb'; cases hb') (by
        rintro ⟨d, cs, h3, h4⟩
        have h5 := (hf.own d cs h3).1
        rw [h4] at h5
        rcases hb' with hb' | hb'
        · have := (hs.tags _ _ h5).1; omega
        · rw [h5] at hb'; cases hb')
      exact ⟨this.1, fun em => by rw [this.2]; exact em⟩
  · refine ⟨hp.frel.size, fun t' u hu => ?_, fun t' p hpp => ?_, fun d cs hd => ?_, hp.frel.defers, hp.frel.nodup, fun r hr => ?_⟩
    · obtain ⟨h1, p, hpm, rfl, rfl⟩ := (retL_pick hslot).2 t' u hu
      have := hp.frel.tm _ _ h1
      rw [plain_eq 9 _ _ (hpl p hpm) this]
      exact plain_rel _ _ _ 9 _ (hpl p hpm)
    · simp only at hpp; rw [Tr.get_nil] at hpp; cases hpp
    · simp only at hd; rw [Tr.get_nil] at hd; cases hd
    · obtain ⟨h1, h2⟩ := hp.frel.marks r hr
      refine ⟨h1, ?_⟩
      show (if r < w.heap.size then ω r else if ωi' r = some .mark then some .mark else none) = _
      split
      · rename_i hlt
        obtain ⟨new, e1, e2⟩ := hp.marks
        rw [e1] at hr
        rcases List.mem_append.1 hr with hr | hr
        · have := e2 r hr; omega
        · exact (hf.marks r hr).2
      · first | rfl | rw [if_pos h2]
  · simp only at hd; rw [Tr.get_nil] at hd; cases hd
  · cases he with
    | normal => exact .normal
    | ret => exact .ret
    | exit i => rcases hex with e1 | e1 <;> cases e1
    | pan v v' hv => rcases hex with e1 | e1 <;> cases e1

theorem AWp.retSn (hng : g.ng = 0) {k0 fl : Nat} {fri : Fr} {si : St} (hS : Sn base k0 fl c fri si fr s) {k : Code} {L : List (Tmp × Value)} (hpl : plainL L)
    (h : AWp g ⟨k0, base.blk⟩ { floor := fl, own := [], hide := [] } k fri si (RetL L)) : AWp g base c k fr s (RetL L) := by
  obtain ⟨e, V, F⟩ := hS
  exact AWp.liftRet hng V F hpl h
end
end
end Go.Am
