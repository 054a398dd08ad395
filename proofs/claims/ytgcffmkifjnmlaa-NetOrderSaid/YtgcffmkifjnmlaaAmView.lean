/- One state seen through another: objects renumbered, some of them left out. -/
import Derived.Test.YtgcffmkifjnmlaaAmCall
namespace Go.Am
noncomputable section

def emb (e : Nat → Nat) : Nat → Pl := fun i => ⟨e i, 0, 0⟩
def cAll : Ctx := { floor := 0, own := [], hide := [] }
theorem cAll_vis (i : Nat) : cAll.vis i = true := rfl

/-- A value, and the same with its objects renumbered. -/
abbrev VRen (e : Nat → Nat) (m : Nat) (v v' : Value) : Prop := Vrel (emb e) cAll m v v'

theorem arr_trans {R S T : Value → Value → Prop} {a b d : Array Value} (h1 : a.size = b.size) (h2 : b.size = d.size) (hR : ∀ (i : Nat) x y, a[i]? = some x → b[i]? = some y → R x y) (hS : ∀ (i : Nat) x y, b[i]? = some x → d[i]? = some y → S x y)
    (hT : ∀ (i : Nat) x y z, a[i]? = some x → b[i]? = some y → d[i]? = some z → R x y → S y z → T x z) : ∀ (i : Nat) x z, a[i]? = some x → d[i]? = some z → T x z := by
  intro i x z hx hz
  have hi : i < b.size := by
    obtain ⟨h, _⟩ := Array.getElem?_eq_some_iff.1 hx
    omega
  have hy : b[i]? = some b[i] := Array.getElem?_eq_getElem hi
  exact hT i x _ z hx hy hz (hR i _ _ hx hy) (hS i _ _ hy hz)

/-- What is seen, is related as what it stands for. -/
theorem VRen.comp {e : Nat → Nat} {m : Nat} {v v' : Value} (h : VRen e m v v') {φ : Nat → Pl} {c : Ctx} {n : Nat} {ci : Ctx} (hci : ci.hide = []) : ∀ {v'' : Value}, Vrel φ c n v' v'' → Vrel (fun i => φ (e i)) ci m v v'' := by
  have hvis : ∀ i, ci.vis i = true := fun i => by unfold Ctx.vis; rw [hci]; rfl
  induction h with
  | bool b => intro v'' h2; cases h2; exact .bool b
  | int k i => intro v'' h2; cases h2; exact .int k i
  | float k i => intro v'' h2; cases h2; exact .float k i
  | string s => intro v'' h2; cases h2; exact .string s
  | nilPointer => intro v'' h2; cases h2; exact .nilPointer
  | pointer id o h =>
    intro v'' h2
    cases h2 with
    | pointer _ _ h3 =>
      have := Vrel.pointer (φ := fun i => φ (e i)) (c := ci) (n := m) id o ⟨h.1, hvis _⟩
      simpa [emb] using this
  | nilSlice l cp => intro v'' h2; cases h2; exact .nilSlice l cp
  | slice id o l cp h =>
    intro v'' h2
    cases h2 with
    | slice _ _ _ _ h3 =>
      have := Vrel.slice (φ := fun i => φ (e i)) (c := ci) (n := m) id o l cp ⟨h.1, hvis _⟩
      simpa [emb] using this
  | nilMap => intro v'' h2; cases h2; exact .nilMap
  | map id h =>
    intro v'' h2
    cases h2 with
    | map _ h3 => exact .map id ⟨h.1, hvis _⟩
  | func f a b a' b' ha hb _ _ iA iB =>
    intro v'' h2
    cases h2 with
    | func _ _ _ a2 b2 ha2 hb2 hA2 hB2 =>
      exact .func f a b a2 b2 (ha.trans ha2) (hb.trans hb2) (arr_trans (R := fun _ _ => True) (S := fun x y => Vrel φ c n x y) ha ha2 (fun _ _ _ _ _ => trivial) hA2 fun i x y z hx hy hz _ h4 => iA i x y hx hy h4)
        (arr_trans (R := fun _ _ => True) (S := fun x y => Vrel φ c n x y) hb hb2 (fun _ _ _ _ _ => trivial) hB2 fun i x y z hx hy hz _ h4 => iB i x y hx hy h4)
  | yield id h =>
    intro v'' h2
    cases h2 with
    | yield _ h3 => exact .yield id ⟨h.1, hvis _⟩
  | nilFunc => intro v'' h2; cases h2; exact .nilFunc
  | iface t v v' _ ih => intro v'' h2; cases h2 with | iface _ _ _ h3 => exact .iface t v _ (ih h3)
  | nilIface => intro v'' h2; cases h2; exact .nilIface
  | agg a a' ha _ iA =>
    intro v'' h2
    cases h2 with
    | agg _ a2 ha2 hA2 => exact .agg a a2 (ha.trans ha2) (arr_trans (R := fun _ _ => True) (S := fun x y => Vrel φ c n x y) ha ha2 (fun _ _ _ _ _ => trivial) hA2 fun i x y z hx hy hz _ h4 => iA i x y hx hy h4)
  | tuple a a' ha _ iA =>
    intro v'' h2
    cases h2 with
    | tuple _ a2 ha2 hA2 => exact .tuple a a2 (ha.trans ha2) (arr_trans (R := fun _ _ => True) (S := fun x y => Vrel φ c n x y) ha ha2 (fun _ _ _ _ _ => trivial) hA2 fun i x y z hx hy hz _ h4 => iA i x y hx hy h4)

/-- Back: what stands for something that is related is related, too. -/
theorem VRen.back {e : Nat → Nat} {m : Nat} {v v' : Value} (h : VRen e m v v') {φi φ : Nat → Pl} {ci c : Ctx} {n : Nat} (hi : ∀ i, i < m → In c n (e i) ∧ φ (e i) = φi i) : ∀ {v'' : Value}, Vrel φi ci m v v'' → Vrel φ c n v' v'' := by
  induction h with
  | bool b => intro v'' h2; cases h2; exact .bool b
  | int k i => intro v'' h2; cases h2; exact .int k i
  | float k i => intro v'' h2; cases h2; exact .float k i
  | string s => intro v'' h2; cases h2; exact .string s
  | nilPointer => intro v'' h2; cases h2; exact .nilPointer
  | pointer id o h =>
    intro v'' h2
    cases h2 with
    | pointer _ _ h3 =>
      have := Vrel.pointer (φ := φ) (c := c) (n := n) (e id) (0 + o) (hi id h.1).1
      rw [(hi id h.1).2] at this
      simpa [emb] using this
  | nilSlice l cp => intro v'' h2; cases h2; exact .nilSlice l cp
  | slice id o l cp h =>
    intro v'' h2
    cases h2 with
    | slice _ _ _ _ h3 =>
      have := Vrel.slice (φ := φ) (c := c) (n := n) (e id) (0 + o) l (cp + 0) (hi id h.1).1
      rw [(hi id h.1).2] at this
      simpa [emb] using this
  | nilMap => intro v'' h2; cases h2; exact .nilMap
  | map id h =>
    intro v'' h2
    cases h2 with
    | map _ h3 => rw [← (hi id h.1).2]; exact .map (e id) (hi id h.1).1
  | func f a b a' b' ha hb _ _ iA iB =>
    intro v'' h2
    cases h2 with
    | func _ _ _ a2 b2 ha2 hb2 hA2 hB2 =>
      refine .func f a' b' a2 b2 (ha.symm.trans ha2) (hb.symm.trans hb2) (fun i y z hy hz => ?_) (fun i y z hy hz => ?_)
      · have hlt : i < a.size := by obtain ⟨h, _⟩ := Array.getElem?_eq_some_iff.1 hy; omega
        exact iA i _ y (Array.getElem?_eq_getElem hlt) hy (hA2 i _ z (Array.getElem?_eq_getElem hlt) hz)
      · have hlt : i < b.size := by obtain ⟨h, _⟩ := Array.getElem?_eq_some_iff.1 hy; omega
        exact iB i _ y (Array.getElem?_eq_getElem hlt) hy (hB2 i _ z (Array.getElem?_eq_getElem hlt) hz)
  | yield id h =>
    intro v'' h2
    cases h2 with
    | yield _ h3 => rw [← (hi id h.1).2]; exact .yield (e id) (hi id h.1).1
  | nilFunc => intro v'' h2; cases h2; exact .nilFunc
  | iface t v v' _ ih => intro v'' h2; cases h2 with | iface _ _ _ h3 => exact .iface t _ _ (ih h3)
  | nilIface => intro v'' h2; cases h2; exact .nilIface
  | agg a a' ha _ iA =>
    intro v'' h2
    cases h2 with
    | agg _ a2 ha2 hA2 =>
      refine .agg a' a2 (ha.symm.trans ha2) (fun i y z hy hz => ?_)
      have hlt : i < a.size := by obtain ⟨h, _⟩ := Array.getElem?_eq_some_iff.1 hy; omega
      exact iA i _ y (Array.getElem?_eq_getElem hlt) hy (hA2 i _ z (Array.getElem?_eq_getElem hlt) hz)
  | tuple a a' ha _ iA =>
    intro v'' h2
    cases h2 with
    | tuple _ a2 ha2 hA2 =>
      refine .tuple a' a2 (ha.symm.trans ha2) (fun i y z hy hz => ?_)
      have hlt : i < a.size := by obtain ⟨h, _⟩ := Array.getElem?_eq_some_iff.1 hy; omega
      exact iA i _ y (Array.getElem?_eq_getElem hlt) hy (hA2 i _ z (Array.getElem?_eq_getElem hlt) hz)

theorem arr_choose {R : Value → Value → Prop} {a : Array Value} (h : ∀ (i : Nat) x, a[i]? = some x → ∃ y, R x y) : ∃ b : Array Value, a.size = b.size ∧ ∀ (i : Nat) x y, a[i]? = some x → b[i]? = some y → R x y := by
  have h' : ∀ i : Fin a.size, ∃ y, R a[i] y := fun i => h i _ (Array.getElem?_eq_getElem i.2)
  refine ⟨Array.ofFn fun i : Fin a.size => Classical.choose (h' i), by simp, fun i x y hx hy => ?_⟩
  obtain ⟨hi, rfl⟩ := Array.getElem?_eq_some_iff.1 hx
  obtain ⟨hi2, rfl⟩ := Array.getElem?_eq_some_iff.1 hy
  simp only [Array.getElem_ofFn]
  exact Classical.choose_spec (h' ⟨i, hi⟩)

/-- Whatever is related to something may be renumbered. -/
theorem ren_ex (e : Nat → Nat) {φ : Nat → Pl} {c : Ctx} {m : Nat} {v v'' : Value} (h : Vrel φ c m v v'') : ∃ v', VRen e m v v' := by
  have hin : ∀ i, In c m i → In cAll m i := fun i h => ⟨h.1, rfl⟩
  induction h with
  | bool b => exact ⟨_, .bool b⟩
  | int k i => exact ⟨_, .int k i⟩
  | float k i => exact ⟨_, .float k i⟩
  | string s => exact ⟨_, .string s⟩
  | nilPointer => exact ⟨_, .nilPointer⟩
  | pointer id o h => exact ⟨_, .pointer id o (hin _ h)⟩
  | nilSlice l cp => exact ⟨_, .nilSlice l cp⟩
  | slice id o l cp h => exact ⟨_, .slice id o l cp (hin _ h)⟩
  | nilMap => exact ⟨_, .nilMap⟩
  | map id h => exact ⟨_, .map id (hin _ h)⟩
  | func f a b a' b' ha hb _ _ iA iB =>
    have hget : ∀ {a a' : Array Value} (_ : a.size = a'.size) (i : Nat) x, a[i]? = some x → ∃ y, a'[i]? = some y := fun he i x hx => by
      obtain ⟨hi, _⟩ := Array.getElem?_eq_some_iff.1 hx
      exact ⟨_, Array.getElem?_eq_getElem (by omega)⟩
    obtain ⟨a2, h1, h2⟩ := arr_choose (R := VRen e m) (a := a) fun i x hx => by obtain ⟨y, hy⟩ := hget ha i x hx; exact iA i x y hx hy
    obtain ⟨b2, h3, h4⟩ := arr_choose (R := VRen e m) (a := b) fun i x hx => by obtain ⟨y, hy⟩ := hget hb i x hx; exact iB i x y hx hy
    exact ⟨_, .func f a b a2 b2 h1 h3 h2 h4⟩
  | yield id h => exact ⟨_, .yield id (hin _ h)⟩
  | nilFunc => exact ⟨_, .nilFunc⟩
  | iface t v v' _ ih => obtain ⟨y, hy⟩ := ih; exact ⟨_, .iface t v y hy⟩
  | nilIface => exact ⟨_, .nilIface⟩
  | agg a a' ha _ iA =>
    obtain ⟨a2, h1, h2⟩ := arr_choose (R := VRen e m) (a := a) fun i x hx => by
      obtain ⟨hi, _⟩ := Array.getElem?_eq_some_iff.1 hx
      exact iA i x _ hx (Array.getElem?_eq_getElem (by omega))
    exact ⟨_, .agg a a2 h1 h2⟩
  | tuple a a' ha _ iA =>
    obtain ⟨a2, h1, h2⟩ := arr_choose (R := VRen e m) (a := a) fun i x hx => by
      obtain ⟨hi, _⟩ := Array.getElem?_eq_some_iff.1 hx
      exact iA i x _ hx (Array.getElem?_eq_getElem (by omega))
    exact ⟨_, .tuple a a2 h1 h2⟩
end
end Go.Am
