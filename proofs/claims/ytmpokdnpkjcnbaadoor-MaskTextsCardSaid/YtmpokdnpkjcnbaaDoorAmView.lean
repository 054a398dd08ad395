/- One state seen through another: objects renumbered, some of them left out. -/
import Derived.Test.YtmpokdnpkjcnbaaDoorAmCall
namespace Go.Am
noncomputable section
variable {Z : Zone}

def emb (e : Nat → Nat) : Nat → Pl := fun i => ⟨e i, 0, 0⟩
def cAll : Ctx := { floor := 0, own := [], hide := [] }
theorem cAll_vis (i : Nat) : cAll.vis i = true := rfl

/-- A value, and the same with its objects renumbered. -/
abbrev idZone : Zone := ⟨fun _ _ _ => False, False, True, fun _ _ _ => False, fun _ _ _ h => h, fun _ _ => True⟩
variable [Z]
abbrev VRen (e : Nat → Nat) (m : Nat) (v v' : Value) : Prop := @Vrel idZone (emb e) cAll m v v'
variable {Z}

/-- A value in which no place stands, seen. -/
theorem free_self (φ : Nat → Pl) (c : Ctx) (n : Nat) : ∀ (d : Nat) (v : Value), freeN d v = true → @Vrel idZone φ c n v v := by
  intro d
  induction d with
  | zero => intro v h; simp [freeN] at h
  | succ d ih =>
    have aux : ∀ a : Array Value, a.all (freeN d) = true → ∀ (i : Nat) (x x' : Value), a[i]? = some x → a[i]? = some x' → @Vrel idZone φ c n x x' := by
      intro a h i x x' hx hx'
      rw [hx] at hx'; cases hx'
      exact ih x (all_get h hx)
    intro v h
    unfold freeN at h
    split at h
    · exact Vrel.bool (Z := idZone) _
    · exact Vrel.int (Z := idZone) _ _
    · exact Vrel.string (Z := idZone) _
    · exact Vrel.nilFunc (Z := idZone)
    · exact Vrel.nilIface (Z := idZone)
    · exact Vrel.nilPointer (Z := idZone)
    · exact Vrel.nilMap (Z := idZone)
    · exact Vrel.float (Z := idZone) _ _
    · exact Vrel.nilSlice (Z := idZone) _ _
    · exact Vrel.iface (Z := idZone) _ _ _ (ih _ h)
    · exact Vrel.agg (Z := idZone) _ _ rfl (aux _ h)
    · exact Vrel.tuple (Z := idZone) _ _ rfl (aux _ h)
    · simp only [Bool.and_eq_true] at h
      exact Vrel.func (Z := idZone) _ _ _ _ _ rfl rfl (aux _ h.1) (aux _ h.2)
    · exact Vrel.vsame (Z := idZone) _ _ _ _ trivial
    · exact Vrel.psame (Z := idZone) _ _ _ _ _ trivial
    · cases h

theorem arr_trans {R S T : Value → Value → Prop} {a b d : Array Value} (h1 : a.size = b.size) (h2 : b.size = d.size) (hR : ∀ (i : Nat) x y, a[i]? = some x → b[i]? = some y → R x y) (hS : ∀ (i : Nat) x y, b[i]? = some x → d[i]? = some y → S x y)
    (hT : ∀ (i : Nat) x y z, a[i]? = some x → b[i]? = some y → d[i]? = some z → R x y → S y z → T x z) : ∀ (i : Nat) x z, a[i]? = some x → d[i]? = some z → T x z := by
  intro i x z hx hz
  have hi : i < b.size := by
    obtain ⟨h, _⟩ := Array.getElem?_eq_some_iff.1 hx
    omega
  have hy : b[i]? = some b[i] := Array.getElem?_eq_getElem hi
  exact hT i x _ z hx hy hz (hR i _ _ hx hy) (hS i _ _ hy hz)

/-- What is seen, is related as what it stands for. -/
theorem VRen.comp {e : Nat → Nat} {m : Nat} {v v' : Value} (h : VRen e m v v') {φ : Nat → Pl} {c : Ctx} {n : Nat} {ci : Ctx} (hci : ci.hide = []) : ∀ {v'' : Value}, Vrel φ c n v' v'' → Vrel (fun i => φ (e i)) ci m v v'' := by
  have hvis : ∀ i, ci.vis i = true := fun i => by unfold Ctx.vis; rw [hci]; rfl
  induction h with
  | bool b => intro v'' h2; cases h2; exact .bool b
  | int k i => intro v'' h2; cases h2; exact .int k i
  | float k i => intro v'' h2; cases h2; exact .float k i
  | string s => intro v'' h2; cases h2; exact .string s
  | nilPointer => intro v'' h2; cases h2; exact .nilPointer
  | pointer id o h =>
    intro v'' h2
    cases h2 with
    | pointer _ _ h3 =>
      have := Vrel.pointer (φ := fun i => φ (e i)) (c := ci) (n := m) id o ⟨h.1, hvis _⟩
      simpa [emb] using this
  | nilSlice l cp => intro v'' h2; cases h2; exact .nilSlice l cp
  | slice id o l cp h =>
    intro v'' h2
    cases h2 with
    | slice _ _ _ _ h3 =>
      have := Vrel.slice (φ := fun i => φ (e i)) (c := ci) (n := m) id o l cp ⟨h.1, hvis _⟩
      simpa [emb] using this
  | nilMap => intro v'' h2; cases h2; exact .nilMap
  | map id h =>
    intro v'' h2
    cases h2 with
    | map _ h3 => exact .map id ⟨h.1, hvis _⟩
  | func f a b a' b' ha hb _ _ iA iB =>
    intro v'' h2
    cases h2 with
    | func _ _ _ a2 b2 ha2 hb2 hA2 hB2 =>
      exact .func f a b a2 b2 (ha.trans ha2) (hb.trans hb2) (arr_trans (R := fun _ _ => True) (S := fun x y => Vrel φ c n x y) ha ha2 (fun _ _ _ _ _ => trivial) hA2 fun i x y z hx hy hz _ h4 => iA i x y hx hy h4)
        (arr_trans (R := fun _ _ => True) (S := fun x y => Vrel φ c n x y) hb hb2 (fun _ _ _ _ _ => trivial) hB2 fun i x y z hx hy hz _ h4 => iB i x y hx hy h4)
  | yield id h =>
    intro v'' h2
    cases h2 with
    | yield _ h3 => exact .yield id ⟨h.1, hvis _⟩
  | nilFunc => intro v'' h2; cases h2; exact .nilFunc
  | iface t v v' _ ih => intro v'' h2; cases h2 with | iface _ _ _ h3 => exact .iface t v _ (ih h3)
  | nilIface => intro v'' h2; cases h2; exact .nilIface
  | agg a a' ha _ iA =>
    intro v'' h2
    cases h2 with
    | agg _ a2 ha2 hA2 => exact .agg a a2 (ha.trans ha2) (arr_trans (R := fun _ _ => True) (S := fun x y => Vrel φ c n x y) ha ha2 (fun _ _ _ _ _ => trivial) hA2 fun i x y z hx hy hz _ h4 => iA i x y hx hy h4)
  | tuple a a' ha _ iA =>
    intro v'' h2
    cases h2 with
    | tuple _ a2 ha2 hA2 => exact .tuple a a2 (ha.trans ha2) (arr_trans (R := fun _ _ => True) (S := fun x y => Vrel φ c n x y) ha ha2 (fun _ _ _ _ _ => trivial) hA2 fun i x y z hx hy hz _ h4 => iA i x y hx hy h4)
  | vslice _ _ _ _ _ _ _ h => exact (show False from h).elim
  | vnil _ _ _ _ _ h => exact (show False from h).elim
  | vptr _ _ _ _ _ _ _ h => exact (show False from h).elim
  | vsame nm X o l h => intro v'' h2; exact free_move 1 _ _ rfl h2
  | psame t nm X o l h => intro v'' h2; exact free_move 1 _ _ rfl h2

/-- Back: what stands for something that is related is related, too. -/
theorem VRen.back {e : Nat → Nat} {m : Nat} {v v' : Value} (h : VRen e m v v') {φi φ : Nat → Pl} {ci c : Ctx} {n : Nat} (hi : ∀ i, i < m → In c n (e i) ∧ φ (e i) = φi i) : ∀ {v'' : Value}, Vrel φi ci m v v'' → Vrel φ c n v' v'' := by
  induction h with
  | bool b => intro v'' h2; cases h2; exact .bool b
  | int k i => intro v'' h2; cases h2; exact .int k i
  | float k i => intro v'' h2; cases h2; exact .float k i
  | string s => intro v'' h2; cases h2; exact .string s
  | nilPointer => intro v'' h2; cases h2; exact .nilPointer
  | pointer id o h =>
    intro v'' h2
    cases h2 with
    | pointer _ _ h3 =>
      have := Vrel.pointer (φ := φ) (c := c) (n := n) (e id) (0 + o) (hi id h.1).1
      rw [(hi id h.1).2] at this
      simpa [emb] using this
  | nilSlice l cp => intro v'' h2; cases h2; exact .nilSlice l cp
  | slice id o l cp h =>
    intro v'' h2
    cases h2 with
    | slice _ _ _ _ h3 =>
      have := Vrel.slice (φ := φ) (c := c) (n := n) (e id) (0 + o) l (cp + 0) (hi id h.1).1
      rw [(hi id h.1).2] at this
      simpa [emb] using this
  | nilMap => intro v'' h2; cases h2; exact .nilMap
  | map id h =>
    intro v'' h2
    cases h2 with
    | map _ h3 => rw [← (hi id h.1).2]; exact .map (e id) (hi id h.1).1
  | func f a b a' b' ha hb _ _ iA iB =>
    intro v'' h2
    cases h2 with
    | func _ _ _ a2 b2 ha2 hb2 hA2 hB2 =>
      refine .func f a' b' a2 b2 (ha.symm.trans ha2) (hb.symm.trans hb2) (fun i y z hy hz => ?_) (fun i y z hy hz => ?_)
      · have hlt : i < a.size := by obtain ⟨h, _⟩ := Array.getElem?_eq_some_iff.1 hy; omega
        exact iA i _ y (Array.getElem?_eq_getElem hlt) hy (hA2 i _ z (Array.getElem?_eq_getElem hlt) hz)
      · have hlt : i < b.size := by obtain ⟨h, _⟩ := Array.getElem?_eq_some_iff.1 hy; omega
        exact iB i _ y (Array.getElem?_eq_getElem hlt) hy (hB2 i _ z (Array.getElem?_eq_getElem hlt) hz)
  | yield id h =>
    intro v'' h2
    cases h2 with
    | yield _ h3 => rw [← (hi id h.1).2]; exact .yield (e id) (hi id h.1).1
  | nilFunc => intro v'' h2; cases h2; exact .nilFunc
  | iface t v v' _ ih => intro v'' h2; cases h2 with | iface _ _ _ h3 => exact .iface t _ _ (ih h3)
  | nilIface => intro v'' h2; cases h2; exact .nilIface
  | agg a a' ha _ iA =>
    intro v'' h2
    cases h2 with
    | agg _ a2 ha2 hA2 =>
      refine .agg a' a2 (ha.symm.trans ha2) (fun i y z hy hz => ?_)
      have hlt : i < a.size := by obtain ⟨h, _⟩ := Array.getElem?_eq_some_iff.1 hy; omega
      exact iA i _ y (Array.getElem?_eq_getElem hlt) hy (hA2 i _ z (Array.getElem?_eq_getElem hlt) hz)
  | tuple a a' ha _ iA =>
    intro v'' h2
    cases h2 with
    | tuple _ a2 ha2 hA2 =>
      refine .tuple a' a2 (ha.symm.trans ha2) (fun i y z hy hz => ?_)
      have hlt : i < a.size := by obtain ⟨h, _⟩ := Array.getElem?_eq_some_iff.1 hy; omega
      exact iA i _ y (Array.getElem?_eq_getElem hlt) hy (hA2 i _ z (Array.getElem?_eq_getElem hlt) hz)
  | vslice _ _ _ _ _ _ _ h => exact (show False from h).elim
  | vnil _ _ _ _ _ h => exact (show False from h).elim
  | vptr _ _ _ _ _ _ _ h => exact (show False from h).elim
  | vsame nm X o l h => intro v'' h2; exact free_move 1 _ _ rfl h2
  | psame t nm X o l h => intro v'' h2; exact free_move 1 _ _ rfl h2

theorem arr_choose {R : Value → Value → Prop} {a : Array Value} (h : ∀ (i : Nat) x, a[i]? = some x → ∃ y, R x y) : ∃ b : Array Value, a.size = b.size ∧ ∀ (i : Nat) x y, a[i]? = some x → b[i]? = some y → R x y := by
  have h' : ∀ i : Fin a.size, ∃ y, R a[i] y := fun i => h i _ (Array.getElem?_eq_getElem i.2)
  refine ⟨Array.ofFn fun i : Fin a.size => Classical.choose (h' i), by simp, fun i x y hx hy => ?_⟩
  obtain ⟨hi, rfl⟩ := Array.getElem?_eq_some_iff.1 hx
  obtain ⟨hi2, rfl⟩ := Array.getElem?_eq_some_iff.1 hy
  simp only [Array.getElem_ofFn]
  exact Classical.choose_spec (h' ⟨i, hi⟩)

/-- Whatever is related to something may be renumbered. -/
theorem ren_ex (e : Nat → Nat) {φ : Nat → Pl} {c : Ctx} {m : Nat} {v v'' : Value} (h : Vrel φ c m v v'') : ∃ v', VRen e m v v' := by
  have hin : ∀ i, In c m i → In cAll m i := fun i h => ⟨h.1, rfl⟩
  induction h with
  | bool b => exact ⟨_, Vrel.bool (Z := idZone) b⟩
  | int k i => exact ⟨_, Vrel.int (Z := idZone) k i⟩
  | float k i => exact ⟨_, Vrel.float (Z := idZone) k i⟩
  | string s => exact ⟨_, Vrel.string (Z := idZone) s⟩
  | nilPointer => exact ⟨_, Vrel.nilPointer (Z := idZone)⟩
  | pointer id o h => exact ⟨_, Vrel.pointer (Z := idZone) id o (hin _ h)⟩
  | nilSlice l cp => exact ⟨_, Vrel.nilSlice (Z := idZone) l cp⟩
  | slice id o l cp h => exact ⟨_, Vrel.slice (Z := idZone) id o l cp (hin _ h)⟩
  | nilMap => exact ⟨_, Vrel.nilMap (Z := idZone)⟩
  | map id h => exact ⟨_, Vrel.map (Z := idZone) id (hin _ h)⟩
  | func f a b a' b' ha hb _ _ iA iB =>
    have hget : ∀ {a a' : Array Value} (_ : a.size = a'.size) (i : Nat) x, a[i]? = some x → ∃ y, a'[i]? = some y := fun he i x hx => by
      obtain ⟨hi, _⟩ := Array.getElem?_eq_some_iff.1 hx
      exact ⟨_, Array.getElem?_eq_getElem (by omega)⟩
    obtain ⟨a2, h1, h2⟩ := arr_choose (R := VRen e m) (a := a) fun i x hx => by obtain ⟨y, hy⟩ := hget ha i x hx; exact iA i x y hx hy
    obtain ⟨b2, h3, h4⟩ := arr_choose (R := VRen e m) (a := b) fun i x hx => by obtain ⟨y, hy⟩ := hget hb i x hx; exact iB i x y hx hy
    exact ⟨_, Vrel.func (Z := idZone) f a b a2 b2 h1 h3 h2 h4⟩
  | yield id h => exact ⟨_, Vrel.yield (Z := idZone) id (hin _ h)⟩
  | nilFunc => exact ⟨_, Vrel.nilFunc (Z := idZone)⟩
  | iface t v v' _ ih => obtain ⟨y, hy⟩ := ih; exact ⟨_, Vrel.iface (Z := idZone) t v y hy⟩
  | nilIface => exact ⟨_, Vrel.nilIface (Z := idZone)⟩
  | agg a a' ha _ iA =>
    obtain ⟨a2, h1, h2⟩ := arr_choose (R := VRen e m) (a := a) fun i x hx => by
      obtain ⟨hi, _⟩ := Array.getElem?_eq_some_iff.1 hx
      exact iA i x _ hx (Array.getElem?_eq_getElem (by omega))
    exact ⟨_, Vrel.agg (Z := idZone) a a2 h1 h2⟩
  | tuple a a' ha _ iA =>
    obtain ⟨a2, h1, h2⟩ := arr_choose (R := VRen e m) (a := a) fun i x hx => by
      obtain ⟨hi, _⟩ := Array.getElem?_eq_some_iff.1 hx
      exact iA i x _ hx (Array.getElem?_eq_getElem (by omega))
    exact ⟨_, Vrel.tuple (Z := idZone) a a2 h1 h2⟩
  | vslice nm X o l cp b o' h hl => exact ⟨_, Vrel.vsame (Z := idZone) nm X o l trivial⟩
  | vnil nm X o cp p h => exact ⟨_, Vrel.vsame (Z := idZone) nm X o 0 trivial⟩
  | vptr t nm X o l b o' h => exact ⟨_, Vrel.psame (Z := idZone) t nm X o l trivial⟩
  | vsame nm X o l h => exact ⟨_, Vrel.vsame (Z := idZone) nm X o l trivial⟩
  | psame t nm X o l h => exact ⟨_, Vrel.psame (Z := idZone) t nm X o l trivial⟩
end
end Go.Am

/- One state seen through another: what is known of the one is known of the other. -/
namespace Go.Am
noncomputable section
variable {Z : Zone}

variable [Z]
/-- An object, and the same with what it leads to renumbered. -/
def ObRen (e : Nat → Nat) (m : Nat) : AObj → AObj → Prop
  | .cells cs sz sp, .cells cs' sz' sp' => sz = sz' ∧ sp = sp' ∧ cs.size = cs'.size ∧ ∀ (k : Nat) x x', cs[k]? = some x → cs'[k]? = some x' → VRen e m x x'
  | .map es, .map es' => es.length = es'.length ∧ ∀ (k : Nat) p p', es[k]? = some p → es'[k]? = some p' → p.1 = p'.1 ∧ VRen e m p.2 p'.2
  | .loop r, .loop r' => r.nt = r'.nt ∧ r.params = r'.params ∧ r.assign = r'.assign ∧ r.body = r'.body ∧ r.state = r'.state ∧ r.pending = r'.pending ∧ ∀ t v, r.tm.get t = some v → ∃ v', r'.tm.get t = some v' ∧ VRen e m v v'
  | _, _ => False
variable {Z}

theorem ObRen.solid {e : Nat → Nat} {m : Nat} {o o' : AObj} (h : ObRen e m o o') : Solid o ↔ Solid o' := by
  cases o with
  | cells cs sz sp =>
    cases o' with
    | cells cs' sz' sp' => obtain ⟨_, rfl, h1, _⟩ := h; show (cs.size ≠ 0 ∨ sp = true) ↔ (cs'.size ≠ 0 ∨ sp = true); rw [h1]
    | _ => exact h.elim
  | map es => cases o' with
    | map es' => exact Iff.rfl
    | _ => exact h.elim
  | loop r => cases o' with
    | loop r' => exact Iff.rfl
    | _ => exact h.elim

section
variable {g : Cfg} {base : Base} {c : Ctx} {φ : Nat → Pl} {ω : Nat → Option Tag} {s : St} {w w' : World}

theorem RowHas.seen {e : Nat → Nat} {m n off : Nat} {ci : Ctx} (hci : ci.hide = []) {cs cs' cs'' : Array Value} (hsz : cs.size = cs'.size) (h : ∀ (k : Nat) x x', cs[k]? = some x → cs'[k]? = some x' → VRen e m x x') (hr : RowHas φ c n cs'' off cs') :
    RowHas (fun i => φ (e i)) ci m cs'' off cs := by
  intro i x hx
  obtain ⟨hi, _⟩ := Array.getElem?_eq_some_iff.1 hx
  have hi' : i < cs'.size := by omega
  obtain ⟨x'', h1, h2⟩ := hr i _ (Array.getElem?_eq_getElem hi')
  exact ⟨x'', h1, (h i _ _ hx (Array.getElem?_eq_getElem hi')).comp hci h2⟩

theorem RowHas.back {e : Nat → Nat} {m n off : Nat} {ci : Ctx} {φi : Nat → Pl} (hi : ∀ i, i < m → In c n (e i) ∧ φ (e i) = φi i) {cs cs' cs'' : Array Value} (hsz : cs.size = cs'.size) (h : ∀ (k : Nat) x x', cs[k]? = some x → cs'[k]? = some x' → VRen e m x x') (hr : RowHas φi ci m cs'' off cs) :
    RowHas φ c n cs'' off cs' := by
  intro i x hx
  obtain ⟨hlt, _⟩ := Array.getElem?_eq_some_iff.1 hx
  have hi' : i < cs.size := by omega
  obtain ⟨x'', h1, h2⟩ := hr i _ (Array.getElem?_eq_getElem hi')
  exact ⟨x'', h1, (h i _ _ (Array.getElem?_eq_getElem hi') hx).back hi h2⟩

theorem ORel.seen {e : Nat → Nat} {m n : Nat} {ci : Ctx} (hci : ci.hide = []) {i : Nat} {base base' : Base} {ω' : Nat → Option Tag} (hold : base'.id ≤ i → base.id ≤ e i) {o o' : AObj} (h : ObRen e m o o') (hr : ORel φ c n base (e i) ω w o') : ORel (fun i => φ (e i)) ci m base' i ω' w o := by
  cases o with
  | cells cs sz sp =>
    cases o' with
    | cells cs' sz' sp' =>
      obtain ⟨rfl, rfl, h1, h2⟩ := h
      refine ⟨hr.1, fun hs => ?_⟩
      obtain ⟨cs'', el, fz, a1, a2, a3, a4⟩ := hr.2 (by rw [← h1]; exact hs)
      exact ⟨cs'', el, fz, a1, fun hb => a2 (hold hb), by rw [h1]; exact a3, a4.seen hci h1 h2⟩
    | _ => exact h.elim
  | map es =>
    cases o' with
    | map es' =>
      obtain ⟨es'', cl, a1, a2, a3⟩ := hr
      refine ⟨es'', cl, a1, a2.trans h.1.symm, fun k p hp => ?_⟩
      obtain ⟨hk, _⟩ := List.getElem?_eq_some_iff.1 hp
      have hk' : k < es'.length := by rw [← h.1]; exact hk
      obtain ⟨p'', b1, b2, b3, b4⟩ := a3 k _ (List.getElem?_eq_getElem hk')
      obtain ⟨c1, c2⟩ := h.2 k p _ hp (List.getElem?_eq_getElem hk')
      exact ⟨p'', b1, by rw [c1]; exact b2, by rw [c1]; exact b3, c2.comp hci b4⟩
    | _ => exact h.elim
  | loop r =>
    cases o' with
    | loop r' =>
      obtain ⟨L, a1, a2, a3, a4, a5, a6, a7, a8⟩ := hr
      obtain ⟨b1, b2, b3, b4, b5, b6, b7⟩ := h
      refine ⟨L, a1, by rw [b5]; exact a2, by rw [b6]; exact a3, by rw [b2]; exact a4, by rw [b3]; exact a5, by rw [b4]; exact a6, by rw [b1]; exact a7, fun t v hv => ?_⟩
      obtain ⟨v', h1, h2⟩ := b7 t v hv
      exact h2.comp hci (a8 t v' h1)
    | _ => exact h.elim

theorem ORel.back {e : Nat → Nat} {m n : Nat} {ci : Ctx} {φi : Nat → Pl} (hi : ∀ i, i < m → In c n (e i) ∧ φ (e i) = φi i) {i : Nat} (him : i < m) {base base' : Base} {ω' : Nat → Option Tag} (hold : base.id ≤ e i → base'.id ≤ i) {o o' : AObj} (h : ObRen e m o o')
    (hk : ∀ r r', o = .loop r → o' = .loop r' → ∀ t v', r'.tm.get t = some v' → ∃ v, r.tm.get t = some v ∧ VRen e m v v') (hr : ORel φi ci m base' i ω' w o) : ORel φ c n base (e i) ω w o' := by
  have hφ := (hi i him).2
  cases o with
  | cells cs sz sp =>
    cases o' with
    | cells cs' sz' sp' =>
      obtain ⟨rfl, rfl, h1, h2⟩ := h
      refine ⟨by rw [hφ]; exact hr.1, fun hs => ?_⟩
      obtain ⟨cs'', el, fz, a1, a2, a3, a4⟩ := hr.2 (by rw [h1]; exact hs)
      exact ⟨cs'', el, fz, by rw [hφ]; exact a1, fun hb => a2 (hold hb), by rw [hφ, ← h1]; exact a3, by rw [hφ]; exact a4.back hi h1 h2⟩
    | _ => exact h.elim
  | map es =>
    cases o' with
    | map es' =>
      obtain ⟨es'', cl, a1, a2, a3⟩ := hr
      refine ⟨es'', cl, by rw [hφ]; exact a1, a2.trans h.1, fun k p hp => ?_⟩
      obtain ⟨hk, _⟩ := List.getElem?_eq_some_iff.1 hp
      have hk' : k < es.length := by rw [h.1]; exact hk
      obtain ⟨p'', b1, b2, b3, b4⟩ := a3 k _ (List.getElem?_eq_getElem hk')
      obtain ⟨c1, c2⟩ := h.2 k _ p (List.getElem?_eq_getElem hk') hp
      exact ⟨p'', b1, by rw [← c1]; exact b2, by rw [← c1]; exact b3, c2.back hi b4⟩
    | _ => exact h.elim
  | loop r =>
    cases o' with
    | loop r' =>
      obtain ⟨L, a1, a2, a3, a4, a5, a6, a7, a8⟩ := hr
      obtain ⟨b1, b2, b3, b4, b5, b6, b7⟩ := h
      refine ⟨L, by rw [hφ]; exact a1, by rw [← b5]; exact a2, by rw [← b6]; exact a3, by rw [← b2]; exact a4, by rw [← b3]; exact a5, by rw [← b4]; exact a6, by rw [← b1]; exact a7, fun t v' hv => ?_⟩
      obtain ⟨v, h1, h2⟩ := hk r r' rfl rfl t v' hv
      exact h2.back hi (a8 t v h1)
    | _ => exact h.elim

/-- Which object of the view stands for one. -/
def inv (e : Nat → Nat) (m id : Nat) : Option Nat := (List.range m).find? fun i => e i == id
theorem inv_some {e : Nat → Nat} {m id i : Nat} (h : inv e m id = some i) : i < m ∧ e i = id := by
  have h1 := List.find?_some h
  have h2 := List.mem_of_find?_eq_some h
  exact ⟨by simpa using h2, by simpa using h1⟩
theorem inv_none {e : Nat → Nat} {m id : Nat} (h : inv e m id = none) : ∀ i, i < m → e i ≠ id := by
  intro i hi he
  have := List.find?_eq_none.1 h i (by simpa using hi)
  simp [he] at this
theorem inv_of {e : Nat → Nat} {m i : Nat} (hinj : ∀ i j, i < m → j < m → e i = e j → i = j) (hi : i < m) : inv e m (e i) = some i := by
  cases h : inv e m (e i) with
  | none => exact (inv_none h i hi rfl).elim
  | some j =>
    obtain ⟨h1, h2⟩ := inv_some h
    rw [hinj j i h1 hi h2]

variable [Z]
/-- A state through which another is seen: 'e' tells which object stands for which; the first k0 objects were there ahead of all. -/
structure View (base : Base) (k0 : Nat) (c : Ctx) (s : St) (ci : Ctx) (si : St) (e : Nat → Nat) : Prop where
  hide : ci.hide = []
  floor : c.floor ≤ s.next
  lt : ∀ i, i < si.next → e i < s.next ∧ c.vis (e i) = true
  inj : ∀ i j, i < si.next → j < si.next → e i = e j → i = j
  obj : ∀ i o, si.heap.get i = some o → i < si.next ∧ ∃ o', s.heap.get (e i) = some o' ∧ ObRen e si.next o o'
  wr : ∀ i, i < si.next → ci.wr i = true → c.wr (e i) = true
  old : ∀ i, i < si.next → (i < k0 ↔ e i < base.id)
  k0 : k0 ≤ si.next
variable {Z}

/-- The marks of what is seen. -/
def tagsIn (e : Nat → Nat) (m : Nat) (ω : Nat → Option Tag) : Nat → Option Tag := fun b =>
  match ω b with
  | some (.obj id) => (inv e m id).map Tag.obj
  | t => t

theorem tagsIn_obj {e : Nat → Nat} {m b i : Nat} (h : tagsIn e m ω b = some (.obj i)) : i < m ∧ ω b = some (.obj (e i)) := by
  unfold tagsIn at h
  split at h
  · rename_i id hid
    obtain ⟨j, h1, h2⟩ := Option.map_eq_some_iff.1 h
    cases h2
    obtain ⟨h3, h4⟩ := inv_some h1
    exact ⟨h3, by rw [hid, h4]⟩
  · rename_i hne; exact (hne i h).elim
theorem tagsIn_of {e : Nat → Nat} {m b i : Nat} (hinj : ∀ i j, i < m → j < m → e i = e j → i = j) (hi : i < m) (h : ω b = some (.obj (e i))) : tagsIn e m ω b = some (.obj i) := by
  unfold tagsIn
  rw [h]
  simp only
  rw [inv_of hinj hi]; rfl
theorem tagsIn_other {e : Nat → Nat} {m b : Nat} {t : Option Tag} (ht : ∀ i, t ≠ some (.obj i)) : tagsIn e m ω b = t ∧ (∀ id, ω b ≠ some (.obj id)) ↔ ω b = t := by
  unfold tagsIn
  constructor
  · rintro ⟨h1, h2⟩
    split at h1
    · rename_i id hid; exact (h2 id hid).elim
    · exact h1
  · intro h
    refine ⟨?_, fun id => by rw [h]; exact ht id⟩
    split
    · rename_i id hid; rw [h] at hid; exact (ht id hid).elim
    · exact h

theorem tagsIn_mark {e : Nat → Nat} {m b : Nat} (h : ω b = some .mark) : tagsIn e m ω b = some .mark := by
  unfold tagsIn
  rw [h]

theorem View.open_ {k0 : Nat} {ci : Ctx} {si : St} {e : Nat → Nat} (V : View base k0 c s ci si e) (hng : g.ng = 0) (hs : SRel g base φ ω c s w) : SRel g ⟨k0, base.blk⟩ (fun i => φ (e i)) (tagsIn e si.next ω) ci si w where
  dom i o h := (V.obj i o h).1
  bn := V.k0
  bf i hw := by
    by_cases hi : i < si.next
    · have h1 := hs.bf _ (V.wr i hi hw)
      show k0 ≤ i
      have := V.old i hi
      omega
    · have := V.k0
      show k0 ≤ i
      omega
  vlow i _ := by unfold Ctx.vis; rw [V.hide]; rfl
  vnew i _ := by unfold Ctx.vis; rw [V.hide]; rfl
  bw := hs.bw
  obj i o h _ := by
    obtain ⟨hi, o', h1, h2⟩ := V.obj i o h
    exact ORel.seen V.hide (fun hb => by have := V.old i hi; simp only at hb; omega) h2 (hs.obj _ _ h1 (V.lt i hi).2)
  low i hi := by
    have : e i < base.id := (V.old i (Nat.lt_of_lt_of_le hi V.k0)).1 hi
    exact hs.low _ this
  tag i o h _ hb hso := by
    obtain ⟨hi, o', h1, h2⟩ := V.obj i o h
    have : base.id ≤ e i := by have := V.old i hi; simp only at hb; omega
    exact tagsIn_of V.inj hi (hs.tag _ _ h1 (V.lt i hi).2 this (h2.solid.1 hso))
  tags b t ht := by
    have key : ∃ u, ω b = some u := by
      unfold tagsIn at ht
      split at ht
      · rename_i id hid; exact ⟨_, hid⟩
      · exact ⟨_, ht⟩
    obtain ⟨u, hu⟩ := key
    obtain ⟨x, y, _⟩ := hs.tags b u hu
    refine ⟨x, y, fun i hi => ?_⟩
    subst hi
    exact (tagsIn_obj ht).1
  glob i hi := by rw [hng] at hi; omega
  zone X b o hz := (hs.zone X b o hz).keep fun _ => ⟨rfl, fun e => tagsIn_mark e⟩
  nosame := hs.nosame
  isreal := hs.isreal

variable [Z]
/-- What stands for the state that is come to. -/
structure Shut (c ci : Ctx) (s si si' : St) (e e' : Nat → Nat) (s' : St) : Prop where
  ext : ∀ i, i < si.next → e' i = e i
  next : s.next ≤ s'.next
  nexti : si.next ≤ si'.next
  new : ∀ i, si.next ≤ i → i < si'.next → s.next ≤ e' i ∧ e' i < s'.next
  inj : ∀ i j, i < si'.next → j < si'.next → e' i = e' j → i = j
  obj : ∀ id o', s'.heap.get id = some o' → (id < s.next ∧ (∀ i, i < si.next → e i = id → ci.wr i = false) ∧ s.heap.get id = some o') ∨
    ∃ i o, i < si'.next ∧ e' i = id ∧ si'.heap.get i = some o ∧ ObRen e' si'.next o o' ∧ ∀ r r', o = .loop r → o' = .loop r' → ∀ t v', r'.tm.get t = some v' → ∃ v, r.tm.get t = some v ∧ VRen e' si'.next v v'
variable {Z}

def tagsOut (e : Nat → Nat) (m : Nat) (e' : Nat → Nat) (ω ωi' : Nat → Option Tag) : Nat → Option Tag := fun b =>
  match ω b with
  | some (.obj id) => if (inv e m id).isNone then some (.obj id) else (ωi' b).map fun t => match t with | .obj i => .obj (e' i) | t => t
  | _ => (ωi' b).map fun t => match t with | .obj i => .obj (e' i) | t => t

theorem View.shut {k0 : Nat} {ci : Ctx} {si si' : St} {e e' : Nat → Nat} {s' : St} (V : View base k0 c s ci si e) (hng : g.ng = 0) (hs : SRel g base φ ω c s w) (S : Shut c ci s si si' e e' s') {φi' : Nat → Pl} {ωi' : Nat → Option Tag} {X : Nat → Prop}
    (hX : ∀ b, X b → ∃ d, ω b = some (.loc d)) (hag : ∀ i, i < si.next → φi' i = φ (e i)) (hsi : SRel g ⟨k0, base.blk⟩ φi' ωi' ci si' w') (hk : Keep (tagsIn e si.next ω) ωi' ci si X w w') :
    ∃ φ' ω', (∀ id, id < s.next → φ' id = φ id) ∧ SRel g base φ' ω' c s' w' ∧ Keep ω ω' c s X w w' ∧ (∀ i, i < si'.next → In c s'.next (e' i) ∧ φ' (e' i) = φi' i) ∧ (∀ b d, ωi' b = some (.loc d) → ω' b = some (.loc d)) ∧ (∀ b, ωi' b = some .mark → ω' b = some .mark) := by
  refine ⟨fun id => if id < s.next then φ id else match inv e' si'.next id with | some i => φi' i | none => ⟨0, 0, 0⟩, tagsOut e si.next e' ω ωi', fun id h => if_pos h, ?_, ?_, ?_, ?_, ?_⟩
  all_goals
    have hφ : ∀ i, i < si'.next → (if e' i < s.next then φ (e' i) else match inv e' si'.next (e' i) with | some i => φi' i | none => ⟨0, 0, 0⟩) = φi' i := fun i hi => by
      by_cases h : i < si.next
      · rw [S.ext i h, if_pos (V.lt i h).1, hag i h]
      · have := S.new i (by omega) hi
        rw [if_neg (by omega), inv_of S.inj hi]
    have hin : ∀ i, i < si'.next → In c s'.next (e' i) := fun i hi => by
      by_cases h : i < si.next
      · rw [S.ext i h]; exact ⟨Nat.lt_of_lt_of_le (V.lt i h).1 S.next, (V.lt i h).2⟩
      · have := S.new i (by omega) hi
        exact ⟨this.2, hs.vnew _ this.1⟩
    -- blocks outside the view
    have hout : ∀ b id, ω b = some (.obj id) → inv e si.next id = none → tagsIn e si.next ω b = none := fun b id h1 h2 => by
      unfold tagsIn; rw [h1]; simp only; rw [h2]; rfl
    have hsame : ∀ b, b < w.heap.size → tagsIn e si.next ω b = none → (∀ d, ω b ≠ some (.loc d)) → w'.heap[b]? = w.heap[b]? ∧ ωi' b = none := fun b hb ht hl => by
      have := hk.same b hb (by rintro ⟨i, o, h1, _⟩; rw [ht] at h1; cases h1) (fun hx => by obtain ⟨d, hd⟩ := hX b hx; exact hl d hd)
      rw [ht] at this
      exact this
  · have hkeep : ∀ id, ω (φ id).blk = some (.obj id) → (∀ i, i < si.next → e i = id → ci.wr i = false) → w'.heap[(φ id).blk]? = w.heap[(φ id).blk]? ∧ tagsOut e si.next e' ω ωi' (φ id).blk = some (.obj id) := fun id ht h2 => by
      have hlt := (hs.tags _ _ ht).2.1
      cases hc : inv e si.next id with
      | none =>
        exact ⟨(hsame _ hlt (hout _ _ ht hc) (fun d => by rw [ht]; simp)).1, by unfold tagsOut; rw [ht]; simp only; rw [hc]; rfl⟩
      | some i =>
        obtain ⟨a, b⟩ := inv_some hc
        have hti : tagsIn e si.next ω (φ id).blk = some (.obj i) := tagsIn_of V.inj a (by rw [ht, b])
        have := hk.same _ hlt (by
          rintro ⟨j, o, h1, h3, _⟩
          rw [hti] at h1; cases h1
          rw [h2 i a b] at h3; cases h3) (fun hx => by obtain ⟨d, hd⟩ := hX _ hx; rw [ht] at hd; cases hd)
        refine ⟨this.1, ?_⟩
        unfold tagsOut; rw [ht]; simp only; rw [hc, this.2, hti]
        simp only [Option.isNone_some, Bool.false_eq_true, if_false, Option.map_some]
        rw [S.ext i a, b]
    have hold : ∀ i, i < si'.next → (base.id ≤ e' i ↔ k0 ≤ i) := fun i hi => by
      by_cases h : i < si.next
      · rw [S.ext i h]; have := V.old i h; omega
      · have h1 := S.new i (by omega) hi
        have := V.k0
        have := hs.bn
        omega
    refine ⟨fun id o' h => ?_, Nat.le_trans hs.bn S.next, hs.bf, hs.vlow, fun id h => hs.vnew id (Nat.le_trans S.next h), Nat.le_trans hs.bw hk.size, fun id o' h hv => ?_, fun id h => ?_, fun id o' h hv hb hso => ?_, fun b t ht => ?_, fun i hi => by rw [hng] at hi; omega, fun X b o hz => (hs.zone X b o hz).keep fun hb => ?_, hs.nosame, hs.isreal⟩
    · rcases S.obj id o' h with ⟨h1, _, _⟩ | ⟨i, o, hi, rfl, _, _⟩
      · exact Nat.lt_of_lt_of_le h1 S.next
      · exact (hin i hi).1
    · rcases S.obj id o' h with ⟨h1, h2, h3⟩ | ⟨i, o, hi, rfl, h4, h5, h6⟩
      · refine (hs.obj id o' h3 hv).keep' (fun i hi => if_pos hi) h1 S.next (fun hso => ?_)
        by_cases hlt : id < base.id
        · have hb := hs.low id hlt
          have hn : ω (φ id).blk = none := by
            cases hc : ω (φ id).blk with
            | none => rfl
            | some t => have := (hs.tags _ _ hc).1; omega
          exact (hsame _ (Nat.lt_of_lt_of_le hb hs.bw) (by unfold tagsIn; rw [hn]) (fun d => by rw [hn]; simp)).1
        · have ht := hs.tag id o' h3 hv (by omega) hso
          exact (hkeep id ht h2).1
      · have hvi : ci.vis i = true := by unfold Ctx.vis; rw [V.hide]; rfl
        exact ORel.back (fun j hj => ⟨hin j hj, hφ j hj⟩) hi (fun hb => (hold i hi).1 hb) h5 h6 (hsi.obj i o h4 hvi)
    · rw [if_pos (Nat.lt_of_lt_of_le h hs.bn)]; exact hs.low id h
    · rcases S.obj id o' h with ⟨h1, h2, h3⟩ | ⟨i, o, hi, rfl, h4, h5, h6⟩
      · rw [if_pos h1]
        have ht := hs.tag id o' h3 hv hb hso
        exact (hkeep id ht h2).2
      · rw [hφ i hi]
        have hvi : ci.vis i = true := by unfold Ctx.vis; rw [V.hide]; rfl
        have ht := hsi.tag i o h4 hvi ((hold i hi).1 hb) (h5.solid.2 hso)
        unfold tagsOut
        split
        · rename_i id hid
          split
          · rename_i hn
            have := hsame _ (hs.tags _ _ hid).2.1 (hout _ _ hid (by simpa using hn)) (fun d => by rw [hid]; simp)
            rw [ht] at this; cases this.2
          · rw [ht]; rfl
        · rw [ht]; rfl
    · have htr : ∀ t, ((ωi' b).map fun t => match t with | .obj i => Tag.obj (e' i) | t => t) = some t → base.blk ≤ b ∧ b < w'.heap.size ∧ ∀ id, t = .obj id → id < s'.next := fun t ht => by
        obtain ⟨u, h1, h2⟩ := Option.map_eq_some_iff.1 ht
        obtain ⟨x, y, z⟩ := hsi.tags b u h1
        refine ⟨x, y, fun id hid => ?_⟩
        subst hid
        cases u with
        | obj i => simp only [Tag.obj.injEq] at h2; subst h2; exact (hin i (z i rfl)).1
        | loc d => cases h2
        | mark => cases h2
      unfold tagsOut at ht
      split at ht
      · rename_i id hid
        split at ht
        · cases ht
          obtain ⟨x, y, z⟩ := hs.tags b _ hid
          exact ⟨x, Nat.lt_of_lt_of_le y hk.size, fun j hj => by cases hj; exact Nat.lt_of_lt_of_le (z id rfl) S.next⟩
        · exact htr t ht
      · exact htr t ht
    · have hlt : b < w.heap.size := by
        rcases hb with hb | hb
        · exact Nat.lt_of_lt_of_le hb hs.bw
        · exact (hs.tags b _ hb).2.1
      have hno : ∀ t, tagsIn e si.next ω b = some t → t = .mark := fun t ht => by
        rcases hb with hb | hb
        · exfalso
          unfold tagsIn at ht
          split at ht
          · rename_i id hid; have := (hs.tags _ _ hid).1; omega
          · have := (hs.tags _ _ ht).1; omega
        · rw [tagsIn_mark hb] at ht; cases ht; rfl
      have := hk.same b hlt (by rintro ⟨i, o, h1, _⟩; have := hno _ h1; cases this) (fun hx => by
        obtain ⟨d, hd⟩ := hX b hx
        rcases hb with hb | hb
        · have := (hs.tags _ _ hd).1; omega
        · rw [hd] at hb; cases hb)
      refine ⟨this.1, fun em => ?_⟩
      unfold tagsOut
      rw [em]
      simp only
      rw [this.2, tagsIn_mark em]
      rfl
  · refine ⟨hk.os, hk.tape, hk.output, hk.size, fun b hb ho hx => ?_⟩
    have hni : ¬ Own (tagsIn e si.next ω) ci si b := by
      rintro ⟨i, o, h1, h2, h3, h4⟩
      obtain ⟨hi, h5⟩ := tagsIn_obj h1
      obtain ⟨_, o', h6, _⟩ := V.obj i o h4
      exact ho ⟨e i, o', h5, V.wr i hi h2, (V.lt i hi).2, h6⟩
    obtain ⟨h1, h2⟩ := hk.same b hb hni hx
    refine ⟨h1, ?_⟩
    unfold tagsOut
    split
    · rename_i id hid
      split
      · rw [hid]
      · rename_i hn
        cases hc : inv e si.next id with
        | none => rw [hc] at hn; exact (hn rfl).elim
        | some i =>
          obtain ⟨a, b'⟩ := inv_some hc
          have : tagsIn e si.next ω b = some (.obj i) := tagsIn_of V.inj a (by rw [hid, b'])
          rw [h2, this, hid, ← b', ← S.ext i a]; rfl
    · rename_i hne
      have : tagsIn e si.next ω b = ω b := by
        unfold tagsIn
        split
        · rename_i id hid; exact (hne id hid).elim
        · rfl
      rw [h2, this]
      cases hc : ω b with
      | none => rfl
      | some t =>
        cases t with
        | obj id => exact (hne id hc).elim
        | _ => rfl
  · exact fun i hi => ⟨hin i hi, hφ i hi⟩
  · intro b d hd
    unfold tagsOut
    split
    · rename_i id hid
      split
      · rename_i hn
        have := hsame _ (hs.tags _ _ hid).2.1 (hout _ _ hid (by simpa using hn)) (fun d => by rw [hid]; simp)
        rw [hd] at this; cases this.2
      · rw [hd]; rfl
    · rw [hd]; rfl
  · intro b hd
    unfold tagsOut
    split
    · rename_i id hid
      split
      · rename_i hn
        have := hsame _ (hs.tags _ _ hid).2.1 (hout _ _ hid (by simpa using hn)) (fun d => by rw [hid]; simp)
        rw [hd] at this; cases this.2
      · rw [hd]; rfl
    · rw [hd]; rfl
end
end
end Go.Am
