/- How the abstract machine's state stands to the machine's. -/
import Derived.Test.YtmpokdnpkjcnbaaDoorAmGrow
import Derived.Below
namespace Go.Am
variable {Z : Zone}

/-- What was there: how many objects, how many blocks. -/
structure Base where
  id : Nat
  blk : Nat

inductive Tag where
  | obj (id : Nat)
  | loc (d : Nat)
  | mark

def Solid : AObj → Prop
  | .cells cs _ sp => cs.size ≠ 0 ∨ sp = true
  | _ => True

variable [Z]
/-- A row of cells holds these values from a place on. -/
def RowHas (φ : Nat → Pl) (c : Ctx) (n : Nat) (cs' : Array Value) (off : Nat) (cs : Array Value) : Prop :=
  ∀ (i : Nat) (x : Value), cs[i]? = some x → ∃ x', cs'[off + i]? = some x' ∧ Vrel φ c n x x'
variable {Z}

variable [Z]
def ORel (φ : Nat → Pl) (c : Ctx) (n : Nat) (base : Base) (id : Nat) (ω : Nat → Option Tag) (w : World) : AObj → Prop
  | .cells cs sz sp => (sp = false → (φ id).ex = 0) ∧ ((cs.size ≠ 0 ∨ sp = true) → ∃ cs' el fz, w.heap[(φ id).blk]? = some (.cells cs' el fz) ∧ (base.id ≤ id → fz = (0, 0)) ∧
      (φ id).off + cs.size + (φ id).ex * sz ≤ cs'.size ∧ RowHas φ c n cs' (φ id).off cs)
  | .map es => ∃ es' clock, w.heap[(φ id).blk]? = some (.map es' clock) ∧ es'.size = es.length ∧
      ∀ (i : Nat) (e : Value × Value), es[i]? = some e → ∃ e' : MapEntry, es'[i]? = some e' ∧ plainN 8 e.1 = true ∧ e'.key = e.1 ∧ Vrel φ c n e.2 e'.val
  | .loop r => ∃ L : Loop, w.heap[(φ id).blk]? = some (.loop L) ∧ L.state = r.state ∧ L.pending = r.pending ∧ L.params = r.params ∧ L.assign = r.assign ∧ L.body = r.body ∧
      L.tmps.size = r.nt ∧ (∀ t v, r.tm.get t = some v → Vrel φ c n v (L.tmps.getD t undef))
variable {Z}

variable [Z]
/-- A row that is never written lies there. -/
def Laid0 (base : Base) (ω : Nat → Option Tag) (w : World) (X : Array Value) (b o : Nat) : Prop :=
  (b < base.blk ∨ ω b = some .mark) ∧ ∃ X' el fz, w.heap[b]? = some (.cells X' el fz) ∧ (∀ (i : Nat) (x : Value), X[i]? = some x → ∃ x', X'[o + i]? = some x' ∧ Vrel (fun _ => ⟨0, 0, 0⟩) ⟨0, [], []⟩ 0 x x') ∧ (Zone.whole X b o → Zone.says b X')
variable {Z}

theorem Laid0.keep {base : Base} {ω ω' : Nat → Option Tag} {w w' : World} {X : Array Value} {b o : Nat} (h : Laid0 base ω w X b o) (hb : b < base.blk ∨ ω b = some .mark → w'.heap[b]? = w.heap[b]? ∧ (ω b = some .mark → ω' b = some .mark)) : Laid0 base ω' w' X b o := by
  obtain ⟨h1, X', el, fz, h2, h3⟩ := h
  obtain ⟨h4, h5⟩ := hb h1
  exact ⟨h1.imp id h5, X', el, fz, by rw [h4]; exact h2, h3⟩
theorem Laid0.has {base : Base} {ω : Nat → Option Tag} {w : World} {X : Array Value} {b o : Nat} (h : Laid0 base ω w X b o) (φ : Nat → Pl) (c : Ctx) (n : Nat) : ∃ X' el fz, w.heap[b]? = some (.cells X' el fz) ∧ RowHas φ c n X' o X := by
  obtain ⟨h1, X', el, fz, h2, h3⟩ := h
  refine ⟨X', el, fz, h2, fun i x hx => ?_⟩
  obtain ⟨x', h4, h5⟩ := h3.1 i x hx
  exact ⟨x', h4, h5.conv fun id hi => (Nat.not_lt_zero _ hi.1).elim⟩

variable [Z]
structure SRel (g : Cfg) (base : Base) (φ : Nat → Pl) (ω : Nat → Option Tag) (c : Ctx) (s : St) (w : World) : Prop where
  dom : ∀ id o, s.heap.get id = some o → id < s.next
  bn : base.id ≤ s.next
  bf : ∀ id, c.wr id = true → base.id ≤ id
  vlow : ∀ id, id < base.id → c.vis id = true
  vnew : ∀ id, s.next ≤ id → c.vis id = true
  bw : base.blk ≤ w.heap.size
  obj : ∀ id o, s.heap.get id = some o → c.vis id = true → ORel φ c s.next base id ω w o
  low : ∀ id, id < base.id → (φ id).blk < base.blk
  tag : ∀ id o, s.heap.get id = some o → c.vis id = true → base.id ≤ id → Solid o → ω (φ id).blk = some (.obj id)
  tags : ∀ b t, ω b = some t → base.blk ≤ b ∧ b < w.heap.size ∧ ∀ id, t = .obj id → id < s.next
  glob : ∀ i, i < g.ng → i < base.id ∧ φ i = ⟨i, 0, 0⟩
  zone : ∀ X b o, Zone.row X b o → Laid0 base ω w X b o
  nosame : ¬ Zone.same
  isreal : Zone.real
variable {Z}

theorem RowHas.mono {φ φ' : Nat → Pl} {c : Ctx} {n n' off : Nat} {cs cs' : Array Value} (hφ : ∀ id, id < n → φ' id = φ id) (hn : n ≤ n') (h : RowHas φ c n cs' off cs) : RowHas φ' c n' cs' off cs :=
  fun i x hx => let ⟨x', a, b⟩ := h i x hx; ⟨x', a, b.mono hφ hn⟩

theorem ORel.keep' {φ φ' : Nat → Pl} {c : Ctx} {n n' : Nat} {base : Base} {id : Nat} {ω ω' : Nat → Option Tag} {w w' : World} {o : AObj} (h : ORel φ c n base id ω w o)
    (hφ : ∀ id, id < n → φ' id = φ id) (hid : id < n) (hn : n ≤ n') (hb : Solid o → w'.heap[(φ id).blk]? = w.heap[(φ id).blk]?) : ORel φ' c n' base id ω' w' o := by
  have e := hφ id hid
  cases o with
  | cells cs sz sp =>
    refine ⟨fun hs => by rw [e]; exact h.1 hs, fun hs => ?_⟩
    obtain ⟨cs', el, fz, h1, h2, h3, h4⟩ := h.2 hs
    exact ⟨cs', el, fz, by rw [e, hb hs]; exact h1, h2, by rw [e]; exact h3, by rw [e]; exact h4.mono hφ hn⟩
  | map es =>
    obtain ⟨es', cl, h1, h2, h3⟩ := h
    refine ⟨es', cl, by rw [e, hb trivial]; exact h1, h2, fun i x hx => ?_⟩
    obtain ⟨e', p1, p2, p3, p4⟩ := h3 i x hx
    exact ⟨e', p1, p2, p3, p4.mono hφ hn⟩
  | loop r =>
    obtain ⟨L, h1, h2, h3, h5, h6, h7, h8, h9⟩ := h
    exact ⟨L, by rw [e, hb trivial]; exact h1, h2, h3, h5, h6, h7, h8, fun t v a => (h9 t v a).mono hφ hn⟩

theorem ORel.conv {φ φ' : Nat → Pl} {c c' : Ctx} {n n' : Nat} {base : Base} {id : Nat} {ω ω' : Nat → Option Tag} {w w' : World} {o : AObj} (h : ORel φ c n base id ω w o)
    (hi : ∀ id, In c n id → In c' n' id ∧ φ' id = φ id) (e : φ' id = φ id) (hb : Solid o → w'.heap[(φ id).blk]? = w.heap[(φ id).blk]?) : ORel φ' c' n' base id ω' w' o := by
  cases o with
  | cells cs sz sp =>
    refine ⟨fun hs => by rw [e]; exact h.1 hs, fun hs => ?_⟩
    obtain ⟨cs', el, fz, h1, h2, h3, h4⟩ := h.2 hs
    exact ⟨cs', el, fz, by rw [e, hb hs]; exact h1, h2, by rw [e]; exact h3, by rw [e]; exact fun i x hx => let ⟨x', a, b⟩ := h4 i x hx; ⟨x', a, b.conv hi⟩⟩
  | map es =>
    obtain ⟨es', cl, h1, h2, h3⟩ := h
    refine ⟨es', cl, by rw [e, hb trivial]; exact h1, h2, fun i x hx => ?_⟩
    obtain ⟨e', p1, p2, p3, p4⟩ := h3 i x hx
    exact ⟨e', p1, p2, p3, p4.conv hi⟩
  | loop r =>
    obtain ⟨L, h1, h2, h3, h5, h6, h7, h8, h9⟩ := h
    exact ⟨L, by rw [e, hb trivial]; exact h1, h2, h3, h5, h6, h7, h8, fun t v a => (h9 t v a).conv hi⟩

theorem ORel.keep {φ φ' : Nat → Pl} {c : Ctx} {n n' : Nat} {base : Base} {id : Nat} {ω ω' : Nat → Option Tag} {w w' : World} {o : AObj} (h : ORel φ c n base id ω w o)
    (hφ : ∀ id, id < n → φ' id = φ id) (hid : id < n) (hn : n ≤ n') (hb : Solid o → w'.heap[(φ id).blk]? = w.heap[(φ id).blk]?)
    (_ : ∀ b, ω b = some .mark → w'.heap[b]? = w.heap[b]? ∧ ω' b = ω b) : ORel φ' c n' base id ω' w' o := h.keep' hφ hid hn hb

/-- The blocks on which what is held leans, but for one object's. -/
def Holds? (base : Base) (ω : Nat → Option Tag) (c : Ctx) (s : St) (but : Option Nat) (b : Nat) : Prop :=
  ω b = some .mark ∨ b < base.blk ∨ ∃ id o, s.heap.get id = some o ∧ c.vis id = true ∧ base.id ≤ id ∧ Solid o ∧ ω b = some (.obj id) ∧ but ≠ some id

theorem SRel.blk {g : Cfg} {base : Base} {φ : Nat → Pl} {ω : Nat → Option Tag} {c : Ctx} {s : St} {w : World} (h : SRel g base φ ω c s w) {id : Nat} {o : AObj} (ho : s.heap.get id = some o) (hv : c.vis id = true)
    (hs : Solid o) {but : Option Nat} (hb : but ≠ some id) : Holds? base ω c s but (φ id).blk := by
  by_cases hl : id < base.id
  · exact .inr (.inl (h.low id hl))
  · exact .inr (.inr ⟨id, o, ho, hv, by omega, hs, h.tag id o ho hv (by omega) hs, hb⟩)

/-- The world turns where nothing that is held lies. -/
theorem SRel.move {g : Cfg} {base : Base} {φ : Nat → Pl} {ω ω' : Nat → Option Tag} {c : Ctx} {s : St} {w w' : World} (h : SRel g base φ ω c s w) (hs : w.heap.size ≤ w'.heap.size)
    (hk : ∀ b, b < w.heap.size → Holds? base ω c s none b → w'.heap[b]? = w.heap[b]? ∧ ω' b = ω b)
    (ht : ∀ b t, ω' b = some t → base.blk ≤ b ∧ b < w'.heap.size ∧ ∀ id, t = .obj id → id < s.next) : SRel g base φ ω' c s w' where
  dom := h.dom
  bn := h.bn
  bf := h.bf
  vlow := h.vlow
  vnew := h.vnew
  bw := Nat.le_trans h.bw hs
  obj id o ho hv := by
    refine (h.obj id o ho hv).keep (fun _ _ => rfl) (h.dom id o ho) (Nat.le_refl _) (fun hso => ?_) (fun b hb => hk b (h.tags b _ hb).2.1 (.inl hb))
    have hl := h.blk ho hv hso (but := none) (by simp)
    by_cases hb : (φ id).blk < w.heap.size
    · exact (hk _ hb hl).1
    · exfalso
      rcases hl with hl | hl | ⟨_, _, _, _, _, _, hl, _⟩
      · exact hb (h.tags _ _ hl).2.1
      · exact hb (Nat.lt_of_lt_of_le hl h.bw)
      · exact hb (h.tags _ _ hl).2.1
  low := h.low
  tag id o ho hv hb hso := by
    have ht' := h.tag id o ho hv hb hso
    rw [(hk _ (h.tags _ _ ht').2.1 (h.blk ho hv hso (but := none) (by simp))).2]; exact ht'
  tags := ht
  glob := h.glob
  zone X b o hz := (h.zone X b o hz).keep fun hb => by
    have hlt : b < w.heap.size := by
      rcases hb with hb | hb
      · exact Nat.lt_of_lt_of_le hb h.bw
      · exact (h.tags b _ hb).2.1
    obtain ⟨h1, h2⟩ := hk b hlt (by rcases hb with hb | hb; exact .inr (.inl hb); exact .inl hb)
    exact ⟨h1, fun e => by rw [h2]; exact e⟩
  nosame := h.nosame
  isreal := h.isreal

/-- One object is put, new or old. -/
theorem SRel.putObj {g : Cfg} {base : Base} {φ φ' : Nat → Pl} {ω ω' : Nat → Option Tag} {c : Ctx} {s : St} {w w' : World} (h : SRel g base φ ω c s w) {id next' : Nat} {o' : AObj} (hs : w.heap.size ≤ w'.heap.size)
    (hb : base.id ≤ id) (hi : id < next') (hn : s.next ≤ next') (hφ : ∀ i, i < s.next → φ' i = φ i)
    (hk : ∀ b, b < w.heap.size → Holds? base ω c s (some id) b → w'.heap[b]? = w.heap[b]? ∧ ω' b = ω b)
    (ho : c.vis id = true → ORel φ' c next' base id ω' w' o') (htag : c.vis id = true → Solid o' → ω' (φ' id).blk = some (.obj id))
    (ht : ∀ b t, ω' b = some t → base.blk ≤ b ∧ b < w'.heap.size ∧ ∀ i, t = .obj i → i < next') :
    SRel g base φ' ω' c { heap := s.heap.put id o', next := next' } w' where
  dom i o hg := by
    simp only at hg ⊢
    rw [Tr.get_put] at hg
    split at hg
    · omega
    · have := h.dom i o hg; omega
  bn := Nat.le_trans h.bn hn
  bf := h.bf
  vlow := h.vlow
  vnew := fun i hi => h.vnew i (Nat.le_trans hn hi)
  bw := Nat.le_trans h.bw hs
  obj i o hg hv := by
    simp only at hg
    rw [Tr.get_put] at hg
    split at hg
    · rename_i e; subst e; cases hg; exact ho hv
    · rename_i ne
      refine (h.obj i o hg hv).keep hφ (h.dom i o hg) hn (fun hso => ?_) (fun b hb => hk b (h.tags b _ hb).2.1 (.inl hb))
      have hl := h.blk hg hv hso (but := some id) (by simp; exact fun e => ne e.symm)
      by_cases hb : (φ i).blk < w.heap.size
      · exact (hk _ hb hl).1
      · exfalso
        rcases hl with hl | hl | ⟨_, _, _, _, _, _, hl, _⟩
        · exact hb (h.tags _ _ hl).2.1
        · exact hb (Nat.lt_of_lt_of_le hl h.bw)
        · exact hb (h.tags _ _ hl).2.1
  low i hi := by rw [hφ i (Nat.lt_of_lt_of_le hi h.bn)]; exact h.low i hi
  tag i o hg hv hbi hso := by
    simp only at hg
    rw [Tr.get_put] at hg
    split at hg
    · rename_i e; subst e; cases hg; exact htag hv hso
    · rename_i ne
      have ht' := h.tag i o hg hv hbi hso
      rw [hφ i (h.dom i o hg), (hk _ (h.tags _ _ ht').2.1 (h.blk hg hv hso (but := some id) (by simp; exact fun e => ne e.symm))).2]; exact ht'
  tags := ht
  glob i hi := by
    have := h.glob i hi
    exact ⟨this.1, by rw [hφ i (Nat.lt_of_lt_of_le this.1 h.bn)]; exact this.2⟩
  zone X b o hz := (h.zone X b o hz).keep fun hb => by
    have hlt : b < w.heap.size := by
      rcases hb with hb | hb
      · exact Nat.lt_of_lt_of_le hb h.bw
      · exact (h.tags b _ hb).2.1
    obtain ⟨h1, h2⟩ := hk b hlt (by rcases hb with hb | hb; exact .inr (.inl hb); exact .inl hb)
    exact ⟨h1, fun e => by rw [h2]; exact e⟩
  nosame := h.nosame
  isreal := h.isreal

/-- One object is let go. -/
theorem SRel.drop {g : Cfg} {base : Base} {φ : Nat → Pl} {ω : Nat → Option Tag} {c : Ctx} {s : St} {w : World} (h : SRel g base φ ω c s w) (id : Nat) : SRel g base φ ω c { s with heap := s.heap.set id none } w where
  dom i o hg := by
    simp only at hg ⊢
    rw [Tr.get_set] at hg
    split at hg
    · cases hg
    · exact h.dom i o hg
  bn := h.bn
  bf := h.bf
  vlow := h.vlow
  vnew := h.vnew
  bw := h.bw
  obj i o hg hv := by
    simp only at hg
    rw [Tr.get_set] at hg
    split at hg
    · cases hg
    · exact h.obj i o hg hv
  low := h.low
  tag i o hg hv hbi hso := by
    simp only at hg
    rw [Tr.get_set] at hg
    split at hg
    · cases hg
    · exact h.tag i o hg hv hbi hso
  tags := h.tags
  glob := h.glob
  zone := h.zone
  nosame := h.nosame
  isreal := h.isreal

/-! ### A function's own: its slots, its variables, the marks among its deferred calls -/
variable [Z]
def Trel (φ : Nat → Pl) (c : Ctx) (n : Nat) (lam : Nat → Nat) (v v' : Value) : Prop :=
  match v with
  | .pointer (some ⟨d, o, some _⟩) => v' = .pointer (some ⟨lam d, o, none⟩)
  | v => Vrel φ c n v v'
variable {Z}

def markOf (r : Nat) : Deferred := { target := .collected r, args := #[] }

variable [Z]
structure FRel (φ : Nat → Pl) (c : Ctx) (n : Nat) (lam : Nat → Nat) (ω : Nat → Option Tag) (fr : Fr) (rs : List Nat) (a : Act) (w : World) : Prop where
  size : a.tmps.size = fr.nt
  tm : ∀ t v, fr.tm.get t = some v → Vrel φ c n v (a.tmps.getD t undef)
  pt : ∀ t p, fr.pt.get t = some p → (∃ cs, fr.loc.get p.1 = some cs) ∧ a.tmps.getD t undef = .pointer (some ⟨lam p.1, p.2, none⟩)
  own : ∀ d cs, fr.loc.get d = some cs → ω (lam d) = some (.loc d) ∧ ∃ cs' el, w.heap[lam d]? = some (.cells cs' el (0, 0)) ∧ Arel φ c n cs cs'
  defers : a.defers = rs.map markOf
  nodup : rs.Nodup
  marks : ∀ r, r ∈ rs → w.heap[r]? = some (.deferred (some [])) ∧ ω r = some .mark
variable {Z}

theorem trel_global {φ : Nat → Pl} {c : Ctx} {n : Nat} {lam : Nat → Nat} {v v' : Value} (h : local? v = false) : Trel φ c n lam v v' ↔ Vrel φ c n v v' := by
  unfold Trel
  split
  · simp [local?] at h
  · exact Iff.rfl

theorem Vrel.glob {φ : Nat → Pl} {c : Ctx} {n : Nat} {v v' : Value} (h : Vrel φ c n v v') : local? v = false := by
  cases h <;> rfl

theorem Vrel.trel {φ : Nat → Pl} {c : Ctx} {n : Nat} {lam : Nat → Nat} {v v' : Value} (h : Vrel φ c n v v') : Trel φ c n lam v v' := (trel_global h.glob).2 h

/-- What is written by what acts: its own objects; X: blocks besides. -/
def Own (ω : Nat → Option Tag) (c : Ctx) (s : St) (b : Nat) : Prop := ∃ id o, ω b = some (.obj id) ∧ c.wr id = true ∧ c.vis id = true ∧ s.heap.get id = some o

structure Keep (ω ω' : Nat → Option Tag) (c : Ctx) (s : St) (X : Nat → Prop) (w w' : World) : Prop where
  os : w'.os = w.os
  tape : w'.tape = w.tape
  output : w'.output = w.output
  size : w.heap.size ≤ w'.heap.size
  same : ∀ b, b < w.heap.size → ¬ Own ω c s b → ¬ X b → w'.heap[b]? = w.heap[b]? ∧ ω' b = ω b

theorem Keep.refl (ω : Nat → Option Tag) (c : Ctx) (s : St) (X : Nat → Prop) (w : World) : Keep ω ω c s X w w := ⟨rfl, rfl, rfl, Nat.le_refl _, fun _ _ _ _ => ⟨rfl, rfl⟩⟩

theorem Keep.trans {ω ω' ω'' : Nat → Option Tag} {c : Ctx} {s s' : St} {X Y : Nat → Prop} {w w' w'' : World} (h : Keep ω ω' c s X w w') (k : Keep ω' ω'' c s' Y w' w'') (hg : Grow c s s')
    (hid : ∀ b id, ω b = some (.obj id) → id < s.next) (hY : ∀ b, b < w.heap.size → Y b → X b) : Keep ω ω'' c s X w w'' where
  os := k.os.trans h.os
  tape := k.tape.trans h.tape
  output := k.output.trans h.output
  size := Nat.le_trans h.size k.size
  same b hb ho hx := by
    obtain ⟨e1, e2⟩ := h.same b hb ho hx
    obtain ⟨e3, e4⟩ := k.same b (Nat.lt_of_lt_of_le hb h.size) (by
      rintro ⟨id, o, h1, h2, h3, h4⟩
      rw [e2] at h1
      have hlt := hid b id h1
      cases hg' : s.heap.get id with
      | none => rw [hg.gone id hlt hg'] at h4; cases h4
      | some o' => exact ho ⟨id, o', h1, h2, h3, hg'⟩) (fun hy => hx (hY b hb hy))
    exact ⟨e3.trans e1, e4.trans e2⟩

theorem Keep.weaken {ω ω' : Nat → Option Tag} {c : Ctx} {s : St} {X Y : Nat → Prop} {w w' : World} (h : Keep ω ω' c s X w w') (hX : ∀ b, X b → Y b) : Keep ω ω' c s Y w w' :=
  ⟨h.os, h.tape, h.output, h.size, fun b hb ho hy => h.same b hb ho (fun hx => hy (hX b hx))⟩

/-- The blocks of a frame's own variables. -/
def LocB (lam : Nat → Nat) (loc : Tr (Array Value)) (b : Nat) : Prop := ∃ d cs, loc.get d = some cs ∧ lam d = b

end Go.Am
