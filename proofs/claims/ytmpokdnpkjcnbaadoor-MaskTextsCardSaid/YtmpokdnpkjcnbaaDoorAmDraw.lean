/- Regions that draw their order: parts of frames; own variables. -/
import Derived.Test.YtmpokdnpkjcnbaaDoorAmHist
namespace Go.Am
variable {Z : Zone}

theorem pick_get {α : Type} : ∀ (ks : List Nat) (src t : Tr α) (x : Nat), (pick ks src t).get x = if x ∈ ks ∧ (src.get x).isSome then src.get x else t.get x := by
  intro ks
  induction ks with
  | nil => intro src t x; simp [pick]
  | cons k r ih =>
    intro src t x
    simp only [pick, ih, List.mem_cons]
    by_cases h1 : x ∈ r ∧ (src.get x).isSome = true
    · rw [if_pos h1, if_pos ⟨.inr h1.1, h1.2⟩]
    · rw [if_neg h1]
      cases hk : src.get k with
      | none =>
        simp only
        by_cases e : x = k
        · subst e
          rw [if_neg (by simp [hk])]
        · rw [if_neg (by rintro ⟨h | h, h2⟩; exact e h; exact h1 ⟨h, h2⟩)]
      | some v =>
        simp only [Tr.get_put]
        by_cases e : x = k
        · subst e; rw [if_pos rfl, if_pos ⟨.inl rfl, by simp [hk]⟩, hk]
        · rw [if_neg e, if_neg (by rintro ⟨h | h, h2⟩; exact e h; exact h1 ⟨h, h2⟩)]

theorem pick_nil {α : Type} (ks : List Nat) (src : Tr α) (x : Nat) : (pick ks src .nil).get x = if x ∈ ks then src.get x else none := by
  rw [pick_get, Tr.get_nil]
  by_cases h : x ∈ ks
  · cases hs : src.get x <;> simp [h]
  · simp [h]

theorem copy_get {α : Type} : ∀ (ks : List Nat) (src t : Tr α) (x : Nat), (copyAt ks src t).get x = if x ∈ ks then src.get x else t.get x := by
  intro ks
  induction ks with
  | nil => intro src t x; simp [copyAt]
  | cons k r ih =>
    intro src t x
    simp only [copyAt, ih, Tr.get_set, List.mem_cons]
    by_cases h1 : x ∈ r
    · simp [h1]
    · by_cases h2 : x = k <;> simp [h1, h2]

theorem Vrel.merge {φ φ' : Nat → Pl} {c c' : Ctx} {n n' : Nat} (hi : ∀ id, In c n id → In c' n' id → φ' id = φ id) {v v1 v2 : Value} (h : Vrel φ c n v v1) (k : Vrel φ' c' n' v v2) : Vrel φ c n v v2 := by
  have arr : ∀ {a a' a2 : Array Value}, a.size = a'.size → a.size = a2.size → (∀ (i : Nat) (x x' : Value), a[i]? = some x → a'[i]? = some x' → ∀ {v2 : Value}, Vrel φ' c' n' x v2 → Vrel φ c n x v2) →
      (∀ (i : Nat) (x x' : Value), a[i]? = some x → a2[i]? = some x' → Vrel φ' c' n' x x') → ∀ (i : Nat) (x x' : Value), a[i]? = some x → a2[i]? = some x' → Vrel φ c n x x' := by
    intro a a' a2 h1 h2 iA hA i x x' hx hx'
    obtain ⟨hlt, _⟩ := Array.getElem?_eq_some_iff.1 hx
    exact iA i x _ hx (Array.getElem?_eq_getElem (by omega)) (hA i x x' hx hx')
  induction h generalizing v2 with
  | bool b => cases k; exact .bool b
  | int k' i => cases k; exact .int k' i
  | float k' i => cases k; exact .float k' i
  | string s => cases k; exact .string s
  | nilPointer => cases k; exact .nilPointer
  | nilSlice l cp => cases k; exact .nilSlice l cp
  | nilMap => cases k; exact .nilMap
  | nilFunc => cases k; exact .nilFunc
  | nilIface => cases k; exact .nilIface
  | pointer id o h => cases k with | pointer _ _ h' => rw [hi id h h']; exact .pointer id o h
  | slice id o l cp h => cases k with | slice _ _ _ _ h' => rw [hi id h h']; exact .slice id o l cp h
  | map id h => cases k with | map _ h' => rw [hi id h h']; exact .map id h
  | yield id h => cases k with
    | yield _ h' => rw [hi id h h']; exact .yield id h
  | iface t v v' _ ih => cases k with | iface _ _ _ hk => exact .iface t v _ (ih hk)
  | func f a b a' b' ha hb hA hB iA iB => cases k with
    | func _ _ _ a2 b2 ha2 hb2 hA2 hB2 => exact .func f a b a2 b2 ha2 hb2 (arr ha ha2 (fun i x x' h1 h2 => iA i x x' h1 h2) hA2) (arr hb hb2 (fun i x x' h1 h2 => iB i x x' h1 h2) hB2)
  | agg a a' ha hA iA => cases k with
    | agg _ a2 ha2 hA2 => exact .agg a a2 ha2 (arr ha ha2 (fun i x x' h1 h2 => iA i x x' h1 h2) hA2)
  | tuple a a' ha hA iA => cases k with
    | tuple _ a2 ha2 hA2 => exact .tuple a a2 ha2 (arr ha ha2 (fun i x x' h1 h2 => iA i x x' h1 h2) hA2)
  | vslice nm X o l cp b o' h hl => exact free_move 1 _ _ rfl k
  | vnil nm X o cp p h => exact free_move 1 _ _ rfl k
  | vptr t nm X o l b o' h => exact free_move 1 _ _ rfl k
  | vsame nm X o l h => exact free_move 1 _ _ rfl k
  | psame t nm X o l h => exact free_move 1 _ _ rfl k

theorem Arel.merge {φ φ' : Nat → Pl} {c c' : Ctx} {n n' : Nat} (hi : ∀ id, In c n id → In c' n' id → φ' id = φ id) {v v1 v2 : Array Value} (h : Arel φ c n v v1) (k : Arel φ' c' n' v v2) : Arel φ c n v v2 := by
  refine ⟨k.1, fun i x x' hx hx' => ?_⟩
  obtain ⟨hlt, _⟩ := Array.getElem?_eq_some_iff.1 hx
  exact (h.2 i x _ hx (Array.getElem?_eq_getElem (by rw [← h.1]; exact hlt))).merge hi (k.2 i x x' hx hx')

/-! ### Which own variables an operation turns -/
section
variable {g : Cfg} {c : Ctx} {fr : Fr} {s : St}

theorem doNew_loc {d : Option Tmp} {cells : Array Value} {r : Value × Tr (Array Value) × St} (h : doNew g fr s d cells = some r) {x : Nat} (hx : x ∉ d.toList) : r.2.1.get x = fr.loc.get x := by
  unfold doNew at h
  split at h
  · rename_i d
    split at h
    · split at h
      · cases h
        simp only [Tr.get_put]
        rw [if_neg (by simpa using hx)]
      · cases h
    · cases h; rfl
  · cases h

theorem doStore_loc (htm : ∀ t v, fr.tm.get t = some v → local? v = false) {t : TypeId} {x y : Operand} {r : Tr (Array Value) × St} (h : doStore g c fr s t x y = some r) {d : Nat} (hd : ∀ u, x = .tmp u → d ∉ ptd fr u) : r.1.get d = fr.loc.get d := by
  unfold doStore at h
  obtain ⟨p, hp, h⟩ := bind_some h
  obtain ⟨v, _, h⟩ := bind_some h
  obtain ⟨n, _, h⟩ := bind_some h
  obtain ⟨_, _, h⟩ := bind_some h
  split at h
  · rename_i b o sp
    obtain ⟨cs, _, h⟩ := bind_some h
    obtain ⟨_, _, h⟩ := bind_some h
    cases h
    simp only [Tr.get_put]
    rw [if_neg]
    rintro rfl
    cases x with
    | tmp u =>
      simp only [Fr.ev] at hp
      split at hp
      · rename_i q hq
        cases hp
        exact hd u rfl (by simp [ptd, hq])
      · have := htm _ _ hp; simp [local?] at this
    | const v =>
      simp only [Fr.ev] at hp
      split at hp
      · rename_i hpl; cases hp; simp [plainN] at hpl
      · cases hp
    | global i =>
      simp only [Fr.ev] at hp
      split at hp
      · cases hp
      · cases hp
    | func f => simp only [Fr.ev] at hp; cases hp
  · obtain ⟨s', _, h⟩ := bind_some h
    cases h; rfl
  · cases h

theorem op_loc (htm : ∀ t v, fr.tm.get t = some v → local? v = false) {hd : Handler} {o : Oper} {r : Outc} {loc' : Tr (Array Value)} {s' : St} (h : op g hd c fr s o = some (r, loc', s')) {d : Nat} (hd : d ∉ wrlOf fr o) : loc'.get d = fr.loc.get d := by
  have same : ∀ {q : Option Value}, (q.map fun v => (Outc.ret v, fr.loc, s)) = some (r, loc', s') → loc'.get d = fr.loc.get d := fun h => by
    obtain ⟨x, hx, e⟩ := same_some h
    cases e; rfl
  unfold op at h
  simp only at h
  split at h
  · exact same h
  · exact same h
  · rename_i ho
    replace h := bind_some h; obtain ⟨zero, hz, h⟩ := h
    replace h := bind_some h; obtain ⟨_, hp, h⟩ := h
    replace h := bind_some h; obtain ⟨r, hn, h⟩ := h
    cases h; exact doNew_loc hn (by simpa [wrlOf, ho] using hd)
  · rename_i ho
    replace h := bind_some h; obtain ⟨v0, hv, h⟩ := h
    replace h := bind_some h; obtain ⟨r, hn, h⟩ := h
    cases h; exact doNew_loc hn (by simpa [wrlOf, ho] using hd)
  · exact same h
  · obtain ⟨x, hx, e⟩ := Option.map_eq_some_iff.1 h; cases e; rfl
  · exact same h
  · rename_i ho
    obtain ⟨x, hx, e⟩ := Option.map_eq_some_iff.1 h; cases e
    exact doStore_loc htm hx (fun u e => by simpa [wrlOf, ho, e] using hd)
  · exact same h
  · exact same h
  · exact same h
  · exact same h
  · cases h; rfl
  · obtain ⟨x, hx, e⟩ := Option.map_eq_some_iff.1 h; cases e; rfl
  · rcases orElse_some h with h | h
    · exact same h
    · obtain ⟨x, hx, e⟩ := Option.map_eq_some_iff.1 h; cases e; rfl
  · exact same h
  · exact same h
  · exact same h
  · exact same h
  · exact same h
  · obtain ⟨x, hx, e⟩ := Option.map_eq_some_iff.1 h; cases e; rfl
  · obtain ⟨x, hx, e⟩ := Option.map_eq_some_iff.1 h; cases e; rfl
  · exact same h
  · exact same h
  · exact same h
  · exact same h
  · exact same h
  · replace h := bind_some h; obtain ⟨_, _, h⟩ := h
    split at h
    · cases h; rfl
    · cases h
  · split at h
    · rcases orElse_some h with h | h
      · exact same h
      · unfold doBuiltin at h
        replace h := bind_some h; obtain ⟨as, has, h⟩ := h
        split at h
        · replace h := bind_some h; obtain ⟨x, hx, h⟩ := h
          cases h; rfl
        · replace h := bind_some h; obtain ⟨x, hx, h⟩ := h
          cases h; rfl
        · replace h := bind_some h; obtain ⟨x, hx, h⟩ := h
          cases h; rfl
        · replace h := bind_some h; obtain ⟨x, hx, h⟩ := h
          cases h; rfl
        · replace h := bind_some h; obtain ⟨x, hx, h⟩ := h
          cases h; rfl
        · split at h
          · cases h; rfl
          · cases h
        · cases h
    · replace h := bind_some h; obtain ⟨fv, hfv, h⟩ := h
      replace h := bind_some h; obtain ⟨as, has, h⟩ := h
      replace h := bind_some h; obtain ⟨⟨r0, s0⟩, hh, h⟩ := h
      cases h; rfl
    · cases h
  · cases h

theorem step_loc (htm : ∀ t v, fr.tm.get t = some v → local? v = false) {hd : Handler} {ops : Array Oper} {o : Oper} {fr' : Fr} {s' : St} (h : step g hd c fr s ops o = some (.normal, fr', s')) {d : Nat} (hd : d ∉ wrlOf fr o) : fr'.loc.get d = fr.loc.get d := by
  unfold step at h
  replace h := bind_some h; obtain ⟨w, _, h⟩ := h
  split at h
  · replace h := bind_some h; obtain ⟨⟨r, loc1, s1⟩, hop, h⟩ := h
    simp only at h
    split at h
    · replace h := bind_some h; obtain ⟨fr1, hfr, h⟩ := h
      cases h
      rw [putO_loc hfr]
      exact op_loc htm hop hd
    · cases h
  · replace h := bind_some h; obtain ⟨fr1, hfr, h⟩ := h
    cases h
    rw [putO_loc hfr]
end
end Go.Am

/- Regions that draw their order: what is held when some operations have been carried out. -/
namespace Go.Am
variable {Z : Zone}

theorem cut_val {m : Nat} {W S : Nat → Prop} {j j' : Nat} (h : Cut m W S j) (h' : Cut m W S j') (hj : j ≤ m) (hj' : j' ≤ m) {α : Type} (val : Nat → α) (hv : ∀ k, k < m → ¬ W k → val (k + 1) = val k) : val j = val j' :=
  (cut_same (ops := #[]) h h' hj hj').2 val hv
theorem cut_last {ops : Array Oper} {m : Nat} {W S : Nat → Prop} {j j' : Nat} (h : Cut m W S j) (h' : Cut m W S j') (hj : j ≤ m) (hj' : j' ≤ m) : lastD ops W j = lastD ops W j' := (cut_same h h' hj hj').1

theorem put_other {a : Act} {dst : Option Tmp} {v : Value} {t : Tmp} (h : dst ≠ some t) : (a.put dst v).tmps.getD t undef = a.tmps.getD t undef := by
  cases dst with
  | none => rfl
  | some d =>
    have hne : d ≠ t := fun e => h (by rw [e])
    simp only [Act.put, Array.getD_eq_getD_getElem?, Array.getElem?_setIfInBounds, if_neg hne]

def WrL (ops : Array Oper) (T : Trace) (d j : Nat) : Prop := d ∈ T.wrl ops j
def WrT (T : Trace) (t j : Nat) : Prop := (T.o j).dst = some t

variable [Z]
structure Env (g : Cfg) (base : Base) (hd : Handler) (c : Ctx) (ops : Array Oper) (T : Trace) (m : Nat) (rs : List Nat) (φ0 : Nat → Pl) (ω0 : Nat → Option Tag) (lam0 : Nat → Nat) (a0 : Act) (w0 : World) : Prop where
  D : DrawFacts ops
  HG : HGrow hd
  hT : T.Ok g hd c ops m
  hs : SRel g base φ0 ω0 c (T.s 0) w0
  hf : FRel φ0 c (T.N 0) lam0 ω0 (T.fr 0) rs a0 w0
variable {Z}

variable [Z]
structure Inv (base : Base) (c : Ctx) (ops : Array Oper) (T : Trace) (m : Nat) (rs : List Nat) (φ0 : Nat → Pl) (ω0 : Nat → Option Tag) (lam0 : Nat → Nat) (w0 : World) (S : Nat → Prop) (φ : Nat → Pl) (ω : Nat → Option Tag) (lam : Nat → Nat) (a : Act) (w : World) : Prop where
  closed : Closed ops S
  below : ∀ k, S k → k < m
  agree : ∀ id, id < T.N 0 → φ id = φ0 id
  bw : base.blk ≤ w.heap.size
  tags : ∀ b t, ω b = some t → base.blk ≤ b ∧ b < w.heap.size ∧ ∀ id, t = .obj id → id < T.N m
  obj : ∀ id j o, j ≤ m → Cut m (WrO c ops T id) S j → c.vis id = true → (T.s j).heap.get id = some o →
    ORel φ (ctxD c T m (lastD ops (WrO c ops T id) j)) (T.N m) base id ω w o ∧ (base.id ≤ id → Solid o → ω (φ id).blk = some (.obj id))
  loc : ∀ d j cs, j ≤ m → Cut m (WrL ops T d) S j → (T.fr j).loc.get d = some cs →
    ω (lam d) = some (.loc d) ∧ ∃ cs' el, w.heap[lam d]? = some (.cells cs' el (0, 0)) ∧ Arel φ (ctxD c T m (lastD ops (WrL ops T d) j)) (T.N m) cs cs'
  tm : ∀ t j v, j ≤ m → Cut m (WrT T t) S j → (T.fr j).tm.get t = some v → Vrel φ (ctxD c T m (lastD ops (WrT T t) j)) (T.N m) v (a.tmps.getD t undef)
  pt : ∀ t j p, j ≤ m → Cut m (WrT T t) S j → (T.fr j).pt.get t = some p →
    (∃ j' cs, j' ≤ m ∧ Cut m (WrL ops T p.1) S j' ∧ (T.fr j').loc.get p.1 = some cs) ∧ a.tmps.getD t undef = .pointer (some ⟨lam p.1, p.2, none⟩)
  lamW : ∀ d j cs, j ≤ m → Cut m (WrL ops T d) S j → (T.fr j).loc.get d = some cs → (lam d = lam0 d ∧ ∃ cs0, (T.fr 0).loc.get d = some cs0) ∨ w0.heap.size ≤ lam d
  size : a.tmps.size = (T.fr 0).nt
  defers : a.defers = rs.map markOf
  marks : ∀ r, r ∈ rs → w.heap[r]? = some (.deferred (some [])) ∧ ω r = some .mark
  keep : Keep ω0 ω c (T.s 0) (LocB lam0 (T.fr 0).loc) w0 w
variable {Z}

section
variable {g : Cfg} {base : Base} {hd : Handler} {c : Ctx} {ops : Array Oper} {T : Trace} {m : Nat} {rs : List Nat} {φ0 φ φ' : Nat → Pl} {ω0 ω ω' : Nat → Option Tag} {lam0 lam lam' : Nat → Nat} {a0 a : Act} {w0 w w' : World} {S : Nat → Prop}

theorem wrl_acc {d j : Nat} (h : d ∈ T.wrl ops j) : d ∈ T.acc ops j := by
  unfold Trace.acc footOf; exact List.mem_append_right _ h
theorem ptd_acc {t j : Nat} {p : Nat × Nat} (ht : t ∈ seenTmps ops (T.o j)) (hp : (T.fr j).pt.get t = some p) : p.1 ∈ T.acc ops j := by
  unfold Trace.acc footOf
  refine List.mem_append_left _ (List.mem_flatMap.2 ⟨t, ht, ?_⟩)
  simp [ptd, hp]

theorem fr_same (hT : T.Ok g hd c ops m) : ∀ j, j ≤ m → (T.fr j).nt = (T.fr 0).nt ∧ (T.fr j).round = (T.fr 0).round := by
  intro j
  induction j with
  | zero => intro _; exact ⟨rfl, rfl⟩
  | succ j ih => intro h; rw [hT.next j h]; exact ih (by omega)

theorem loc_keep (hT : T.Ok g hd c ops m) {d : Nat} : ∀ k, k < m → ¬ WrL ops T d k → (T.fr (k + 1)).loc.get d = (T.fr k).loc.get d := by
  intro k hk hw
  rw [hT.next k hk]
  simp only [Fr.with', copy_get]
  exact if_neg hw
theorem loc_hit (hT : T.Ok g hd c ops m) {d k : Nat} (hk : k < m) (hw : WrL ops T d k) : (T.fr (k + 1)).loc.get d = (T.fr1 k).loc.get d := by
  rw [hT.next k hk]
  simp only [Fr.with', copy_get]
  exact if_pos hw
theorem tm_keep (hT : T.Ok g hd c ops m) {t : Nat} : ∀ k, k < m → ¬ WrT T t k → (T.fr (k + 1)).tm.get t = (T.fr k).tm.get t := by
  intro k hk hw
  rw [hT.next k hk]
  simp only [Fr.with', copy_get]
  exact if_neg (by simpa [WrT] using hw)
theorem tm_hit (hT : T.Ok g hd c ops m) {t k : Nat} (hk : k < m) (hw : WrT T t k) : (T.fr (k + 1)).tm.get t = (T.fr1 k).tm.get t := by
  rw [hT.next k hk]
  simp only [Fr.with', copy_get]
  exact if_pos (by simpa [WrT] using hw)
theorem pt_keep (hT : T.Ok g hd c ops m) {t : Nat} : ∀ k, k < m → ¬ WrT T t k → (T.fr (k + 1)).pt.get t = (T.fr k).pt.get t := by
  intro k hk hw
  rw [hT.next k hk]
  simp only [Fr.with', copy_get]
  exact if_neg (by simpa [WrT] using hw)
theorem pt_hit (hT : T.Ok g hd c ops m) {t k : Nat} (hk : k < m) (hw : WrT T t k) : (T.fr (k + 1)).pt.get t = (T.fr1 k).pt.get t := by
  rw [hT.next k hk]
  simp only [Fr.with', copy_get]
  exact if_pos (by simpa [WrT] using hw)

theorem loc_ord (hT : T.Ok g hd c ops m) {d j k : Nat} (hj : j < m) (hk : k < m) (hne : k ≠ j) (ha : d ∈ T.acc ops j) (hw : WrL ops T d k) : Ord ops j k := by
  rcases Nat.lt_or_ge k j with h | h
  · rcases hT.feet j hj k h with h1 | h1
    · exact .inr ⟨h, h1⟩
    · exact (h1.2 d hw ha).elim
  · rcases hT.feet k hk j (by omega) with h1 | h1
    · exact .inl ⟨by omega, h1⟩
    · exact (h1.1 d ha hw).elim

theorem dst_of (hT : T.Ok g hd c ops m) {k t : Nat} (hk : k < m) (hw : WrT T t k) : dstOf ops k = some t := by
  unfold dstOf; rw [hT.op k hk]; exact hw

theorem tmp_one (D : DrawFacts ops) (hT : T.Ok g hd c ops m) {t j k : Nat} (hj : j < m) (hk : k < m) (h1 : WrT T t j) (h2 : WrT T t k) : k = j := by
  have := hT.hm
  exact Classical.byContradiction fun hne => D.one j k t (by omega) (by omega) (fun e => hne e.symm) (dst_of hT hj h1) (dst_of hT hk h2)

theorem tmp_ord (D : DrawFacts ops) (hT : T.Ok g hd c ops m) {t j k : Nat} (hj : j < m) (hk : k < m) (hne : k ≠ j) (ha : t ∈ seenTmps ops (T.o j)) (hw : WrT T t k) : Ord ops j k := by
  have hm := hT.hm
  have hd := dst_of hT hk hw
  rcases List.mem_append.1 ha with h | h
  · exact (D.reads k j t (T.o j) (by omega) hne hd (hT.op j hj) h).symm
  · unfold guardTmps at h
    split at h
    · cases h
    · rename_i i b hg
      have hwt := D.guard j _ (hT.op j hj) i b hg
      have hi : i < j := wt_lt D.back j (by omega) i hwt
      have : dstOf ops i = some t := by simpa using h
      have e : i = k := Classical.byContradiction fun hn => D.one i k t (by omega) (by omega) hn this hd
      subst e
      exact .inr ⟨hi, hwt⟩

theorem dom_all (E : Env g base hd c ops T m rs φ0 ω0 lam0 a0 w0) : ∀ j, j ≤ m → ∀ id o, (T.s j).heap.get id = some o → id < T.N j := by
  intro j
  induction j with
  | zero => intro _; exact E.hs.dom
  | succ j ih => intro h; exact (step_grow_at E.HG E.hT h).dom (ih (by omega))

theorem N0_le (E : Env g base hd c ops T m rs φ0 ω0 lam0 a0 w0) {j : Nat} (hj : j ≤ m) : T.N 0 ≤ T.N j := N_le E.HG E.hT (Nat.zero_le _) hj

theorem obj_val (E : Env g base hd c ops T m rs φ0 ω0 lam0 a0 w0) {id : Nat} : ∀ k, k < m → ¬ WrO c ops T id k → (T.s (k + 1)).heap.get id = (T.s k).heap.get id :=
  fun k hk hw => obj_keep E.HG E.hT (dom_all E) hk hw

theorem cut_zero {W : Nat → Prop} : Cut m W (fun _ => False) 0 := fun k _ _ => ⟨fun h => h.elim, fun h => by omega⟩
theorem cut_all {W : Nat → Prop} : Cut m W (fun k => k < m) m := fun k _ _ => Iff.rfl

theorem inD_zero (E : Env g base hd c ops T m rs φ0 ω0 lam0 a0 w0) {id : Nat} (h : In c (T.N 0) id) {p : Nat → Prop} : In (ctxD c T m p) (T.N m) id := by
  rw [in_ctxD]
  refine ⟨Nat.lt_of_lt_of_le h.1 (N0_le E (Nat.le_refl _)), h.2, fun k hk _ hr => ?_⟩
  have := N0_le E (j := k) (by omega)
  have := h.1
  omega

theorem Inv.start (E : Env g base hd c ops T m rs φ0 ω0 lam0 a0 w0) {w1 : World} (h1 : w1.heap = w0.heap) (h2 : w1.os = w0.os) (h3 : w1.tape = w0.tape) (h4 : w1.output = w0.output) :
    Inv base c ops T m rs φ0 ω0 lam0 w0 (fun _ => False) φ0 ω0 lam0 a0 w1 := by
  refine ⟨fun j h => h.elim, fun k h => h.elim, fun _ _ => rfl, by rw [h1]; exact E.hs.bw, fun b t h => ?_, fun id j o hj hc hv ho => ?_, fun d j cs hj hc ho => ?_, fun t j v hj hc ho => ?_, fun t j p hj hc ho => ?_, fun d j cs hj hc ho => ?_, E.hf.size, E.hf.defers, by rw [h1]; exact E.hf.marks, ⟨h2, h3, h4, by rw [h1]; exact Nat.le_refl _, fun b _ _ _ => ⟨by rw [h1], rfl⟩⟩⟩
  · rw [h1]
    obtain ⟨x, y, z⟩ := E.hs.tags b t h
    exact ⟨x, y, fun id e => Nat.lt_of_lt_of_le (z id e) (N0_le E (Nat.le_refl _))⟩
  · rw [cut_val hc cut_zero hj (Nat.zero_le _) (fun j => (T.s j).heap.get id) (obj_val E)] at ho
    exact ⟨(E.hs.obj id o ho hv).conv (fun i hi => ⟨inD_zero E hi, rfl⟩) rfl (fun _ => by rw [h1]), fun hb hso => E.hs.tag id o ho hv hb hso⟩
  · rw [cut_val hc cut_zero hj (Nat.zero_le _) (fun j => (T.fr j).loc.get d) (loc_keep E.hT)] at ho
    obtain ⟨x, cs', el, y, z⟩ := E.hf.own d cs ho
    exact ⟨x, cs', el, by rw [h1]; exact y, z.conv (fun i hi => ⟨inD_zero E hi, rfl⟩)⟩
  · rw [cut_val hc cut_zero hj (Nat.zero_le _) (fun j => (T.fr j).tm.get t) (tm_keep E.hT)] at ho
    exact (E.hf.tm t v ho).conv (fun i hi => ⟨inD_zero E hi, rfl⟩)
  · rw [cut_val hc cut_zero hj (Nat.zero_le _) (fun j => (T.fr j).pt.get t) (pt_keep E.hT)] at ho
    obtain ⟨⟨cs, x⟩, y⟩ := E.hf.pt t p ho
    exact ⟨⟨0, cs, Nat.zero_le _, cut_zero, x⟩, y⟩
  · rw [cut_val hc cut_zero hj (Nat.zero_le _) (fun j => (T.fr j).loc.get d) (loc_keep E.hT)] at ho
    exact .inl ⟨rfl, cs, ho⟩

theorem Inv.low (E : Env g base hd c ops T m rs φ0 ω0 lam0 a0 w0) (I : Inv base c ops T m rs φ0 ω0 lam0 w0 S φ ω lam a w) (b : Nat) (hb : b < base.blk ∨ ω0 b = some .mark) : w.heap[b]? = w0.heap[b]? ∧ ω b = ω0 b := by
  have hlt : b < w0.heap.size := by
    rcases hb with hb | hb
    · exact Nat.lt_of_lt_of_le hb E.hs.bw
    · exact (E.hs.tags b _ hb).2.1
  refine I.keep.same b hlt ?_ ?_
  · rintro ⟨id, o, h1, _⟩
    rcases hb with hb | hb
    · have := (E.hs.tags _ _ h1).1; omega
    · rw [h1] at hb; cases hb
  · rintro ⟨d, cs, h1, h2⟩
    obtain ⟨h3, _⟩ := E.hf.own d cs h1
    rw [h2] at h3
    rcases hb with hb | hb
    · have := (E.hs.tags _ _ h3).1; omega
    · rw [h3] at hb; cases hb

theorem inD_out {p : Nat → Prop} {id : Nat} (h : In (ctxD c T m p) (T.N m) id) : In c (T.N m) id := ⟨h.1, (in_ctxD.1 h).2.1⟩

/-- All has been carried out. -/
theorem Inv.done (E : Env g base hd c ops T m rs φ0 ω0 lam0 a0 w0) (I : Inv base c ops T m rs φ0 ω0 lam0 w0 (fun k => k < m) φ ω lam a w) :
    FPost g base c φ0 φ ω0 ω lam0 lam (T.fr 0) (T.fr m) (T.s 0) (T.s m) rs rs a w0 w := by
  have hN := N0_le E (Nat.le_refl m)
  have hsr : SRel g base φ ω c (T.s m) w :=
    { dom := dom_all E m (Nat.le_refl _)
      bn := Nat.le_trans E.hs.bn hN
      bf := E.hs.bf
      vlow := E.hs.vlow
      vnew := fun id hi => E.hs.vnew id (Nat.le_trans hN hi)
      bw := I.bw
      obj := fun id o ho hv => (I.obj id m o (Nat.le_refl _) cut_all hv ho).1.conv (fun i hi => ⟨inD_out hi, rfl⟩) rfl (fun _ => rfl)
      low := fun id hi => by rw [I.agree id (Nat.lt_of_lt_of_le hi E.hs.bn)]; exact E.hs.low id hi
      tag := fun id o ho hv => (I.obj id m o (Nat.le_refl _) cut_all hv ho).2
      tags := I.tags
      glob := fun i hi => ⟨(E.hs.glob i hi).1, by rw [I.agree i (Nat.lt_of_lt_of_le (E.hs.glob i hi).1 E.hs.bn)]; exact (E.hs.glob i hi).2⟩
      zone := fun X b o hz => (E.hs.zone X b o hz).keep fun hb => ⟨(I.low E b hb).1, fun e => by rw [(I.low E b hb).2]; exact e⟩
      nosame := E.hs.nosame
      isreal := E.hs.isreal }
  refine ⟨I.agree, hN, hsr, ⟨by rw [I.size, (fr_same E.hT m (Nat.le_refl _)).1], fun t v h => (I.tm t m v (Nat.le_refl _) cut_all h).conv (fun i hi => ⟨inD_out hi, rfl⟩), fun t p h => ?_, fun d cs h => ?_, I.defers, E.hf.nodup, I.marks⟩, fun d cs h => I.lamW d m cs (Nat.le_refl _) cut_all h, I.keep, ⟨[], rfl, fun _ h => by cases h⟩, (fr_same E.hT m (Nat.le_refl _)).2⟩
  · obtain ⟨⟨j', cs, hj', hc, hl⟩, e⟩ := I.pt t m p (Nat.le_refl _) cut_all h
    refine ⟨⟨cs, ?_⟩, e⟩
    rw [← cut_val hc cut_all hj' (Nat.le_refl _) (fun j => (T.fr j).loc.get p.1) (loc_keep E.hT)]; exact hl
  · obtain ⟨x, cs', el, y, z⟩ := I.loc d m cs (Nat.le_refl _) cut_all h
    exact ⟨x, cs', el, y, z.conv (fun i hi => ⟨inD_out hi, rfl⟩)⟩

def cutTag (n : Nat) (ω : Nat → Option Tag) (b : Nat) : Option Tag :=
  match ω b with
  | some (.obj id) => if id < n then some (.obj id) else none
  | t => t

theorem cutTag_some {n b : Nat} {t : Tag} (h : cutTag n ω b = some t) : ω b = some t ∧ ∀ id, t = .obj id → id < n := by
  unfold cutTag at h
  split at h
  · rename_i id e
    split at h
    · rename_i hlt; cases h; exact ⟨e, fun i hi => by cases hi; exact hlt⟩
    · cases h
  · rename_i hne
    refine ⟨h, fun id e => ?_⟩
    subst e
    exact (hne id h).elim
theorem cutTag_of {n b : Nat} {t : Tag} (h : ω b = some t) (hn : ∀ id, t = .obj id → id < n) : cutTag n ω b = some t := by
  unfold cutTag
  rw [h]
  cases t with
  | obj id => simp only; rw [if_pos (hn id rfl)]
  | loc d => rfl
  | mark => rfl

/-- What is held, as an operation that may be carried out sees it. -/
theorem Inv.view (E : Env g base hd c ops T m rs φ0 ω0 lam0 a0 w0) (I : Inv base c ops T m rs φ0 ω0 lam0 w0 S φ ω lam a w) {i : Nat} (hi : i < m) (hni : ¬ S i) (hb : ∀ k, Wt ops k i → S k) :
    (∀ sA : St, sA.next = T.N i → ((silent ops i = false ∧ sA = T.s i) ∨ sA.heap = .nil) → SRel g base φ (cutTag (T.N i) ω) (T.ctx c ops i) sA w) ∧ FRel φ (T.ctx c ops i) (T.N i) lam (cutTag (T.N i) ω) ((T.fr i).only ops (T.o i) (T.acc ops i)) rs a w := by
  have his : i < ops.size := Nat.lt_of_lt_of_le hi E.hT.hm
  have hN := N0_le E (j := i) (by omega)
  have conv : ∀ {W : Nat → Prop}, (∀ k, k < m → k ≠ i → W k → Ord ops i k) → ∀ x, In (ctxD c T m (lastD ops W i)) (T.N m) x → In (T.ctx c ops i) (T.N i) x ∧ φ x = φ x := fun ho x hx =>
    ⟨(in_pre E.D E.HG E.hT hi).2 ((in_ctxD.1 hx).sub fun k hk => lastD_waits E.D.back his (by omega) ho k hk), rfl⟩
  constructor
  · intro sA hn hA
    have hA' : ∀ id o, sA.heap.get id = some o → silent ops i = false ∧ (T.s i).heap.get id = some o := fun id o h => by
      rcases hA with ⟨h1, rfl⟩ | h1
      · exact ⟨h1, h⟩
      · rw [h1, Tr.get_nil] at h; cases h
    exact
    { dom := fun id o h => by rw [hn]; exact dom_all E i (by omega) id o (hA' id o h).2
      bn := by rw [hn]; exact Nat.le_trans E.hs.bn hN
      bf := fun id h => by
        by_cases hlt : id < T.N 0
        · refine E.hs.bf id ?_
          cases hc : c.wr id with
          | true => rfl
          | false =>
            have := drawCtx_wr (c := c) (ops := ops) (b := closure ops ops.size) (n := ops.size) (j := i) (next := T.N i) (n0 := T.N 0) (seen := T.feet ops i) (fun x hx => by
              simp only [Trace.feet, List.mem_map, List.mem_range] at hx
              obtain ⟨k, hk, rfl⟩ := hx
              exact N0_le E (by omega)) hN hlt hc
            unfold Trace.ctx at h
            rw [this] at h; cases h
        · have := E.hs.bn; unfold Trace.N at hlt; omega
      vlow := fun id hlt => (vis_ctx E.D E.hT hi).2 ⟨E.hs.vlow id hlt, fun k hk _ hr => by
        have := N0_le E (j := k) (by omega)
        have := E.hs.bn
        unfold Trace.N at *
        omega⟩
      vnew := fun id hge => (vis_ctx E.D E.hT hi).2 ⟨E.hs.vnew id (Nat.le_trans hN (by rw [← hn]; exact hge)), fun k hk _ hr => by
        rw [hn] at hge
        have := N_le E.HG E.hT (i := k + 1) (j := i) hk (by omega)
        unfold Trace.N at *
        omega⟩
      bw := I.bw
      obj := fun id o ho0 hv => by
        obtain ⟨hsil, ho⟩ := hA' id o ho0
        rw [hn]
        have hcv := ((vis_ctx E.D E.hT hi).1 hv).1
        have hlt := dom_all E i (by omega) id o ho
        have hord : ∀ k, k < m → k ≠ i → WrO c ops T id k → Ord ops i k := fun k hk hne hw => acc_ord E.D E.HG E.hT hi hsil hk hne hlt hv hw
        exact (I.obj id i o (by omega) (cut_here I.closed hni hb hord) hcv ho).1.conv (conv hord) rfl (fun _ => rfl)
      low := fun id h => by rw [I.agree id (Nat.lt_of_lt_of_le h E.hs.bn)]; exact E.hs.low id h
      tag := fun id o ho0 hv hbi hso => by
        obtain ⟨hsil, ho⟩ := hA' id o ho0
        have hcv := ((vis_ctx E.D E.hT hi).1 hv).1
        have hlt := dom_all E i (by omega) id o ho
        have hord : ∀ k, k < m → k ≠ i → WrO c ops T id k → Ord ops i k := fun k hk hne hw => acc_ord E.D E.HG E.hT hi hsil hk hne hlt hv hw
        exact cutTag_of ((I.obj id i o (by omega) (cut_here I.closed hni hb hord) hcv ho).2 hbi hso) (fun x hx => by cases hx; exact hlt)
      tags := fun b t h => by
        obtain ⟨h1, h2⟩ := cutTag_some h
        obtain ⟨x, y, _⟩ := I.tags b t h1
        exact ⟨x, y, by rw [hn]; exact h2⟩
      glob := fun j hj => ⟨(E.hs.glob j hj).1, by rw [I.agree j (Nat.lt_of_lt_of_le (E.hs.glob j hj).1 E.hs.bn)]; exact (E.hs.glob j hj).2⟩
      zone := fun X b o hz => (E.hs.zone X b o hz).keep fun hb => ⟨(I.low E b hb).1, fun e => by unfold cutTag; rw [(I.low E b hb).2, e]⟩
      nosame := E.hs.nosame
      isreal := E.hs.isreal }
  · refine ⟨by rw [I.size]; exact (fr_same E.hT i (by omega)).1.symm, fun t v h => ?_, fun t p h => ?_, fun d cs h => ?_, I.defers, E.hf.nodup, fun r hr => ?_⟩
    · simp only [Fr.only, pick_nil] at h
      split at h
      · rename_i ht
        have hord : ∀ k, k < m → k ≠ i → WrT T t k → Ord ops i k := fun k hk hne hw => tmp_ord E.D E.hT hi hk hne ht hw
        exact (I.tm t i v (by omega) (cut_here I.closed hni hb hord) h).conv (conv hord)
      · cases h
    · simp only [Fr.only, pick_nil] at h
      split at h
      · rename_i ht
        have hord : ∀ k, k < m → k ≠ i → WrT T t k → Ord ops i k := fun k hk hne hw => tmp_ord E.D E.hT hi hk hne ht hw
        obtain ⟨⟨j', cs, hj', hc, hl⟩, e⟩ := I.pt t i p (by omega) (cut_here I.closed hni hb hord) h
        have hacc := ptd_acc ht h
        have hcut := cut_here I.closed hni hb (fun k hk hne hw => loc_ord E.hT hi hk hne hacc hw)
        refine ⟨⟨cs, ?_⟩, e⟩
        simp only [Fr.only, pick_nil]
        rw [if_pos hacc, ← cut_val hc hcut hj' (by omega) (fun j => (T.fr j).loc.get p.1) (loc_keep E.hT)]
        exact hl
      · cases h
    · simp only [Fr.only, pick_nil] at h
      split at h
      · rename_i hacc
        have hord : ∀ k, k < m → k ≠ i → WrL ops T d k → Ord ops i k := fun k hk hne hw => loc_ord E.hT hi hk hne hacc hw
        obtain ⟨x, cs', el, y, z⟩ := I.loc d i cs (by omega) (cut_here I.closed hni hb hord) h
        exact ⟨cutTag_of x (fun _ e => by cases e), cs', el, y, z.conv (conv hord)⟩
      · cases h
    · obtain ⟨x, y⟩ := I.marks r hr
      exact ⟨x, cutTag_of y (fun _ e => by cases e)⟩

end
end Go.Am

/- Regions that draw their order: one operation more. -/
namespace Go.Am
variable {Z : Zone}
section
variable {g : Cfg} {base : Base} {hd : Handler} {c : Ctx} {ops : Array Oper} {T : Trace} {m : Nat} {rs : List Nat} {φ0 φ φ' : Nat → Pl} {ω0 ω ω' : Nat → Option Tag} {lam0 lam lam' : Nat → Nat} {a0 a : Act} {w0 w w' : World} {S : Nat → Prop}

open Classical in
theorem Inv.next (E : Env g base hd c ops T m rs φ0 ω0 lam0 a0 w0) (I : Inv base c ops T m rs φ0 ω0 lam0 w0 S φ ω lam a w) {i : Nat} (hi : i < m) (hni : ¬ S i) (hb : ∀ k, Wt ops k i → S k) {v' : Value} {sA sB : St}
    (hst : step g hd (T.ctx c ops i) ((T.fr i).only ops (T.o i) (T.acc ops i)) sA ops (T.o i) = some (.normal, T.fr1 i, sB)) (hA : sA.next = T.N i) (hB : sB.next = T.N (i + 1))
    (hAB : (silent ops i = false ∧ sA = T.s i ∧ sB = T.s (i + 1)) ∨ (silent ops i = true ∧ sA.heap = .nil ∧ T.s (i + 1) = T.s i))
    (hp : FPost g base (T.ctx c ops i) φ φ' (cutTag (T.N i) ω) ω' lam lam' ((T.fr i).only ops (T.o i) (T.acc ops i)) (T.fr1 i) sA sB rs rs (a.put (T.o i).dst v') w w')
    (hold : ∀ d cs, ((T.fr i).only ops (T.o i) (T.acc ops i)).loc.get d = some cs → lam' d = lam d ∧ ∃ cs', (T.fr1 i).loc.get d = some cs') :
    ∃ φ'' ω'' lam'', Inv base c ops T m rs φ0 ω0 lam0 w0 (fun k => S k ∨ k = i) φ'' ω'' lam'' (a.put (T.o i).dst v') w' := by
  obtain ⟨hsv0, hfv⟩ := I.view E hi hni hb
  have hsv := hsv0 sA hA (by rcases hAB with ⟨h1, h2, _⟩ | ⟨_, h2, _⟩; exact .inl ⟨h1, h2⟩; exact .inr h2)
  have hAo : ∀ id o, sA.heap.get id = some o → (T.s i).heap.get id = some o := fun id o h => by
    rcases hAB with ⟨_, h2, _⟩ | ⟨_, h2, _⟩
    · rw [← h2]; exact h
    · rw [h2, Tr.get_nil] at h; cases h
  have hBo : ∀ id, WrO c ops T id i → (T.s (i + 1)).heap.get id = sB.heap.get id := fun id hw => by
    rcases hAB with ⟨_, _, h2⟩ | ⟨h2, _⟩
    · rw [h2]
    · have := hw.1; rw [h2] at this; cases this
  have hAown : ∀ b, Own (cutTag (T.N i) ω) (T.ctx c ops i) sA b → ∃ id, ω b = some (.obj id) ∧ id < T.N i ∧ (T.ctx c ops i).wr id = true ∧ (T.ctx c ops i).vis id = true ∧ silent ops i = false ∧ ∃ o, (T.s i).heap.get id = some o := by
    rintro b ⟨id, o, h1, h2, h3, h4⟩
    refine ⟨id, (cutTag_some h1).1, (cutTag_some h1).2 id rfl, h2, h3, ?_, o, hAo id o h4⟩
    rcases hAB with ⟨h, _⟩ | ⟨_, h, _⟩
    · exact h
    · rw [h, Tr.get_nil] at h4; cases h4
  have his : i < ops.size := Nat.lt_of_lt_of_le hi E.hT.hm
  have hNi : T.N 0 ≤ T.N i := N0_le E (by omega)
  have hN1 : T.N i ≤ T.N (i + 1) := by have := hp.next; rwa [hA, hB] at this
  have hNm : T.N (i + 1) ≤ T.N m := N_le E.HG E.hT hi (Nat.le_refl _)
  have honly : ∀ d, ((T.fr i).only ops (T.o i) (T.acc ops i)).loc.get d = if d ∈ T.acc ops i then (T.fr i).loc.get d else none := fun d => by simp only [Fr.only, pick_nil]
  have htm0 : ∀ t v, ((T.fr i).only ops (T.o i) (T.acc ops i)).tm.get t = some v → local? v = false := fun t v h => (hfv.tm t v h).glob
  -- the frame's own variables, but for those that are turned
  have hwrl : ∀ d, d ∉ T.wrl ops i → (T.fr1 i).loc.get d = ((T.fr i).only ops (T.o i) (T.acc ops i)).loc.get d := fun d hd => by
    refine step_loc htm0 hst ?_
    intro h
    refine hd ?_
    unfold Trace.wrl footOf
    unfold wrlOf at h ⊢
    split at h
    · rename_i t y z ho
      have hmem : y ∈ seenTmps ops (T.o i) := List.mem_append_left _ (by simp [opTmps, ho, Op.operands])
      simp only [ptd, Fr.only, pick_nil, if_pos hmem] at h
      exact h
    · exact h
    · exact h
    · cases h
  have hval1 : ∀ d, d ∈ T.acc ops i → (T.fr (i + 1)).loc.get d = (T.fr1 i).loc.get d := fun d hd => by
    by_cases hw : WrL ops T d i
    · exact loc_hit E.hT hi hw
    · rw [loc_keep E.hT i hi hw, hwrl d hw, honly, if_pos hd]
  -- the new places
  let φ'' : Nat → Pl := fun id => if T.N i ≤ id ∧ id < T.N (i + 1) then φ' id else φ id
  let ω'' : Nat → Option Tag := fun b => if b < w.heap.size ∧ ¬ Own (cutTag (T.N i) ω) (T.ctx c ops i) sA b ∧ ¬ LocB lam ((T.fr i).only ops (T.o i) (T.acc ops i)).loc b then ω b else ω' b
  let lam'' : Nat → Nat := fun d => if d ∈ T.acc ops i then lam' d else lam d
  have hφ1 : ∀ id, id < T.N (i + 1) → φ'' id = φ' id := fun id h => by
    by_cases h1 : T.N i ≤ id
    · exact if_pos ⟨h1, h⟩
    · have e : φ'' id = φ id := if_neg (fun h2 => h1 h2.1)
      rw [e, hp.agree id (by rw [hA]; omega)]
  have hφ0 : ∀ id, ¬ (T.N i ≤ id ∧ id < T.N (i + 1)) → φ'' id = φ id := fun id h => if_neg h
  have hω0 : ∀ b, b < w.heap.size → ¬ Own (cutTag (T.N i) ω) (T.ctx c ops i) sA b → ¬ LocB lam ((T.fr i).only ops (T.o i) (T.acc ops i)).loc b → w'.heap[b]? = w.heap[b]? ∧ ω'' b = ω b := fun b h1 h2 h3 =>
    ⟨(hp.keep.same b h1 h2 h3).1, if_pos ⟨h1, h2, h3⟩⟩
  have hω1 : ∀ b t, ω' b = some t → ω'' b = some t := fun b t h => by
    by_cases hc : b < w.heap.size ∧ ¬ Own (cutTag (T.N i) ω) (T.ctx c ops i) sA b ∧ ¬ LocB lam ((T.fr i).only ops (T.o i) (T.acc ops i)).loc b
    · have e : ω'' b = ω b := if_pos hc
      rw [e]
      have := (hp.keep.same b hc.1 hc.2.1 hc.2.2).2
      rw [h] at this
      exact (cutTag_some this.symm).1
    · exact (if_neg hc).trans h
  have hlocT : ∀ b, LocB lam ((T.fr i).only ops (T.o i) (T.acc ops i)).loc b → ∃ d, d ∈ T.acc ops i ∧ ω b = some (.loc d) ∧ lam d = b := by
    rintro b ⟨d, cs, h, rfl⟩
    have := (cutTag_some (hfv.own d cs h).1).1
    rw [honly] at h
    split at h
    · rename_i hd; exact ⟨d, hd, this, rfl⟩
    · cases h
  have hordL : ∀ d, d ∈ T.acc ops i → ∀ k, k < m → k ≠ i → WrL ops T d k → Ord ops i k := fun d hd k hk hne hw => loc_ord E.hT hi hk hne hd hw
  have hcutL : ∀ d, d ∈ T.acc ops i → Cut m (WrL ops T d) S i := fun d hd => cut_here I.closed hni hb (hordL d hd)
  have hcutL1 : ∀ d, d ∈ T.acc ops i → Cut m (WrL ops T d) (fun k => S k ∨ k = i) (i + 1) := fun d hd => cut_next I.closed hni hb (hordL d hd)
  have hclosed : Closed ops (fun k => S k ∨ k = i) := by
    rintro j (h | rfl) k hk
    · exact .inl (I.closed j h k hk)
    · exact .inl (hb k hk)
  -- what the operation knows when it has been carried out
  have conv1 : ∀ x, In (T.ctx c ops i) sB.next x → In (ctxD c T m (fun k => k = i ∨ Wt ops k i)) (T.N m) x ∧ φ'' x = φ' x := fun x hx0 => by
    have hx : In (T.ctx c ops i) (T.N (i + 1)) x := by rw [← hB]; exact hx0
    exact ⟨in_ctxD.2 ((in_post E.D E.HG E.hT hi).1 hx), hφ1 x hx.1⟩
  -- what others know has not turned
  have conv0 : ∀ {W : Nat → Prop} {j : Nat}, j ≤ m → Cut m W S j → ∀ x, In (ctxD c T m (lastD ops W j)) (T.N m) x → In (ctxD c T m (lastD ops W j)) (T.N m) x ∧ φ'' x = φ x := fun hj hc x hx => by
    refine ⟨hx, hφ0 x fun hr => ?_⟩
    exact (in_ctxD.1 hx).2.2 i hi (fun hl => hni (lastD_in hj I.closed hc i hl)) hr
  have hobjW : ∀ id j, j ≤ m → Cut m (WrO c ops T id) (fun k => S k ∨ k = i) j → WrO c ops T id i → (T.s j).heap.get id = (T.s (i + 1)).heap.get id ∧ lastD ops (WrO c ops T id) j = fun k => k = i ∨ Wt ops k i := fun id j hj hc hw => by
    have hcut := cut_next (m := m) (W := WrO c ops T id) I.closed hni hb (fun k hk hne hwk => wr_ord E.D E.HG E.hT hi hk hne hw hwk)
    exact ⟨cut_val hc hcut hj hi (fun j => (T.s j).heap.get id) (obj_val E), by rw [cut_last hc hcut hj hi, lastD_hit hw]⟩
  have hlocW : ∀ d j, j ≤ m → Cut m (WrL ops T d) (fun k => S k ∨ k = i) j → d ∈ T.acc ops i → (T.fr j).loc.get d = (T.fr1 i).loc.get d := fun d j hj hc hd => by
    rw [cut_val hc (hcutL1 d hd) hj hi (fun j => (T.fr j).loc.get d) (loc_keep E.hT), hval1 d hd]
  have hlam1 : ∀ d, d ∈ T.acc ops i → lam'' d = lam' d := fun d hd => if_pos hd
  have hlam0 : ∀ d, d ∉ T.acc ops i → lam'' d = lam d := fun d hd => if_neg hd
  refine ⟨φ'', ω'', lam'', hclosed, ?_, fun id h => ?_, Nat.le_trans I.bw hp.keep.size, fun b t h => ?_, fun id j o hj hc hv ho => ?_, fun d j cs hj hc ho => ?_, fun t j v hj hc ho => ?_, fun t j p hj hc ho => ?_, fun d j cs hj hc ho => ?_, ?_, ?_, fun r hr => ?_, ?_⟩
  · rintro k (h | rfl)
    · exact I.below k h
    · exact hi
  · rw [hφ0 id (fun h2 => by omega)]; exact I.agree id h
  · -- tags
    by_cases hcnd : b < w.heap.size ∧ ¬ Own (cutTag (T.N i) ω) (T.ctx c ops i) sA b ∧ ¬ LocB lam ((T.fr i).only ops (T.o i) (T.acc ops i)).loc b
    · have e : ω'' b = ω b := if_pos hcnd
      rw [e] at h
      obtain ⟨x, y, z⟩ := I.tags b t h
      exact ⟨x, Nat.lt_of_lt_of_le y hp.keep.size, z⟩
    · have e : ω'' b = ω' b := if_neg hcnd
      rw [e] at h
      obtain ⟨x, y, z⟩ := hp.srel.tags b t h
      exact ⟨x, y, fun id hid => Nat.lt_of_lt_of_le (z id hid) (by rw [hB]; exact hNm)⟩
  · -- objects
    by_cases hw : WrO c ops T id i
    · obtain ⟨e1, e2⟩ := hobjW id j hj hc hw
      rw [e1, hBo id hw] at ho
      rw [e2]
      have hid : id < T.N (i + 1) := by rcases hw.2 with h | h; exact h.2.2; exact h.2
      have hvis : (T.ctx c ops i).vis id = true := by
        rcases hw.2 with h | h
        · exact h.2.1
        · exact hsv.vnew id (by rw [hA]; exact h.1)
      refine ⟨(hp.srel.obj id o ho hvis).conv conv1 (hφ1 id hid) (fun _ => rfl), fun hbi hso => ?_⟩
      rw [hφ1 id hid]
      exact hω1 _ _ (hp.srel.tag id o ho hvis hbi hso)
    · have hcS := cut_other hw hc
      obtain ⟨x, y⟩ := I.obj id j o hj hcS hv ho
      have hphi : φ'' id = φ id := by
        cases hsil : silent ops i with
        | true =>
          refine hφ0 id fun h => ?_
          have := silent_N E.hT hi hsil
          unfold Trace.N at h
          rw [this] at h; omega
        | false => exact hφ0 id fun h => hw ⟨hsil, .inr h⟩
      have hsame : Solid o → w'.heap[(φ id).blk]? = w.heap[(φ id).blk]? ∧ (base.id ≤ id → ω'' (φ id).blk = ω (φ id).blk) := fun hso => by
        by_cases hbi : base.id ≤ id
        · have ht := y hbi hso
          have := hω0 (φ id).blk (I.tags _ _ ht).2.1 (by
            intro ho
            obtain ⟨id2, h1, hlt, h2, h3, hsil, o2, h4⟩ := hAown _ ho
            rw [ht] at h1; cases h1
            exact hw ⟨hsil, .inl ⟨h2, h3, Nat.lt_of_lt_of_le hlt hN1⟩⟩) (fun h => by
            obtain ⟨d, _, h1, _⟩ := hlocT _ h
            rw [ht] at h1; cases h1)
          exact ⟨this.1, fun _ => this.2⟩
        · have hlt : (φ id).blk < base.blk := by
            rw [I.agree id (by have := E.hs.bn; unfold Trace.N; omega)]; exact E.hs.low id (by omega)
          have := hω0 (φ id).blk (Nat.lt_of_lt_of_le hlt I.bw) (by
            rintro ⟨id2, o2, h1, _⟩
            have := (I.tags _ _ (cutTag_some h1).1).1; omega) (fun h => by
            obtain ⟨d, _, h1, _⟩ := hlocT _ h
            have := (I.tags _ _ h1).1; omega)
          exact ⟨this.1, fun h => (hbi h).elim⟩
      refine ⟨x.conv (conv0 hj hcS) hphi (fun hso => (hsame hso).1), fun hbi hso => ?_⟩
      rw [hphi, (hsame hso).2 hbi]
      exact y hbi hso
  · -- own variables
    by_cases hw : WrL ops T d i
    · have hd := wrl_acc hw
      rw [hlocW d j hj hc hd] at ho
      rw [cut_last hc (hcutL1 d hd) hj hi, lastD_hit hw, hlam1 d hd]
      obtain ⟨x, cs', el, y, z⟩ := hp.frel.own d cs ho
      exact ⟨hω1 _ _ x, cs', el, y, z.conv conv1⟩
    · have hcS := cut_other hw hc
      obtain ⟨x, cs', el, y, z⟩ := I.loc d j cs hj hcS ho
      by_cases hd : d ∈ T.acc ops i
      · have ho' := ho
        rw [hlocW d j hj hc hd] at ho'
        obtain ⟨x2, cs2, el2, y2, z2⟩ := hp.frel.own d cs ho'
        rw [hlam1 d hd]
        have hmer := z.merge (fun id h1 h2 => by
          rw [← hφ1 id (by rw [← hB]; exact h2.1)]
          exact (conv0 hj hcS id h1).2) z2
        exact ⟨hω1 _ _ x2, cs2, el2, y2, hmer.conv (conv0 hj hcS)⟩
      · rw [hlam0 d hd]
        have := hω0 (lam d) (I.tags _ _ x).2.1 (by
          rintro ⟨id2, o2, h1, _⟩
          have := (cutTag_some h1).1
          rw [x] at this; cases this) (fun h => by
          obtain ⟨d2, hd2, h1, _⟩ := hlocT _ h
          rw [x] at h1; cases h1; exact hd hd2)
        exact ⟨by rw [this.2]; exact x, cs', el, by rw [this.1]; exact y, z.conv (conv0 hj hcS)⟩
  · -- slots
    by_cases hw : WrT T t i
    · have hcut := cut_next (m := m) (W := WrT T t) I.closed hni hb (fun k hk hne hwk => (hne (tmp_one E.D E.hT hi hk hw hwk)).elim)
      rw [cut_val hc hcut hj hi (fun j => (T.fr j).tm.get t) (tm_keep E.hT), tm_hit E.hT hi hw] at ho
      rw [cut_last hc hcut hj hi, lastD_hit hw]
      exact (hp.frel.tm t v ho).conv conv1
    · have hcS := cut_other hw hc
      have := (I.tm t j v hj hcS ho).conv (conv0 hj hcS)
      rw [put_other (fun e => hw e)]
      exact this
  · -- slots that hold places of own variables
    by_cases hw : WrT T t i
    · have hcut := cut_next (m := m) (W := WrT T t) I.closed hni hb (fun k hk hne hwk => (hne (tmp_one E.D E.hT hi hk hw hwk)).elim)
      rw [cut_val hc hcut hj hi (fun j => (T.fr j).pt.get t) (pt_keep E.hT), pt_hit E.hT hi hw] at ho
      obtain ⟨⟨cs, h1⟩, h2⟩ := hp.frel.pt t p ho
      have hacc : p.1 ∈ T.acc ops i := by
        by_cases hwl : WrL ops T p.1 i
        · exact wrl_acc hwl
        · rw [hwrl _ hwl, honly] at h1
          split at h1
          · assumption
          · cases h1
      rw [hlam1 _ hacc]
      exact ⟨⟨i + 1, cs, hi, hcutL1 _ hacc, by rw [hval1 _ hacc]; exact h1⟩, h2⟩
    · have hcS := cut_other hw hc
      obtain ⟨⟨j', cs, hj', hc', hl⟩, h2⟩ := I.pt t j p hj hcS ho
      rw [put_other (fun e => hw e), h2]
      by_cases hd : p.1 ∈ T.acc ops i
      · have hl' : ((T.fr i).only ops (T.o i) (T.acc ops i)).loc.get p.1 = some cs := by
          rw [honly, if_pos hd, ← cut_val hc' (hcutL _ hd) hj' (by omega) (fun j => (T.fr j).loc.get p.1) (loc_keep E.hT)]; exact hl
        obtain ⟨e1, cs', e2⟩ := hold _ _ hl'
        rw [hlam1 _ hd, e1]
        exact ⟨⟨i + 1, cs', hi, hcutL1 _ hd, by rw [hval1 _ hd]; exact e2⟩, rfl⟩
      · rw [hlam0 _ hd]
        exact ⟨⟨j', cs, hj', cut_other' (fun h => hd (wrl_acc h)) hc', hl⟩, rfl⟩
  · -- where own variables lie
    by_cases hd : d ∈ T.acc ops i
    · rw [hlocW d j hj hc hd] at ho
      rw [hlam1 d hd]
      rcases hp.lamW d cs ho with ⟨e, cs0, h0⟩ | h
      · rw [honly, if_pos hd] at h0
        rw [e]
        exact I.lamW d i cs0 (by omega) (hcutL d hd) h0
      · exact .inr (Nat.le_trans I.keep.size h)
    · rw [hlam0 d hd]
      exact I.lamW d j cs hj (cut_other (fun h => hd (wrl_acc h)) hc) ho
  · rw [← I.size]
    cases h : (T.o i).dst with
    | none => rfl
    | some d => simp [Act.put]
  · rw [← I.defers]
    cases h : (T.o i).dst <;> rfl
  · obtain ⟨x, y⟩ := I.marks r hr
    have := hω0 r (I.tags _ _ y).2.1 (by
      rintro ⟨id2, o2, h1, _⟩
      have := (cutTag_some h1).1
      rw [y] at this; cases this) (fun h => by
      obtain ⟨d2, _, h1, _⟩ := hlocT _ h
      rw [y] at h1; cases h1)
    exact ⟨by rw [this.1]; exact x, by rw [this.2]; exact y⟩
  · -- what lies elsewhere
    refine ⟨hp.keep.os.trans I.keep.os, hp.keep.tape.trans I.keep.tape, hp.keep.output.trans I.keep.output, Nat.le_trans I.keep.size hp.keep.size, fun b hb0 ho hx => ?_⟩
    obtain ⟨x, y⟩ := I.keep.same b hb0 ho hx
    have := hω0 b (Nat.lt_of_lt_of_le hb0 I.keep.size) (by
      intro hown
      obtain ⟨id, ht, _, h2, h3, _, o, h4⟩ := hAown _ hown
      rw [y] at ht
      have hid := (E.hs.tags b _ ht).2.2 id rfl
      refine ho ⟨id, ?_⟩
      have hwr : c.wr id = true := by
        cases hc : c.wr id with
        | true => rfl
        | false =>
          have := drawCtx_wr (c := c) (ops := ops) (b := closure ops ops.size) (n := ops.size) (j := i) (next := T.N i) (n0 := T.N 0) (seen := T.feet ops i) (fun x hx => by
            simp only [Trace.feet, List.mem_map, List.mem_range] at hx
            obtain ⟨k, hk, rfl⟩ := hx
            exact N0_le E (by omega)) hNi hid hc
          unfold Trace.ctx at h2
          rw [this] at h2; cases h2
      have hgone : ∀ j, j ≤ i → (T.s 0).heap.get id = none → (T.s j).heap.get id = none := by
        intro j
        induction j with
        | zero => intro _ h; exact h
        | succ j ih =>
          intro hj h
          exact (step_grow_at E.HG E.hT (j := j) (by omega)).gone id (Nat.lt_of_lt_of_le hid (N0_le E (by omega))) (ih (by omega) h)
      cases h0 : (T.s 0).heap.get id with
      | none => rw [hgone i (Nat.le_refl _) h0] at h4; cases h4
      | some o0 => exact ⟨o0, ht, hwr, ((vis_ctx E.D E.hT hi).1 h3).1, rfl⟩) (fun h => by
      obtain ⟨d, cs, hl, e⟩ := h
      rw [honly] at hl
      split at hl
      · rename_i hd
        rcases I.lamW d i cs (by omega) (hcutL d hd) hl with ⟨e1, cs0, h0⟩ | h0
        · exact hx ⟨d, cs0, h0, by rw [← e1]; exact e⟩
        · omega
      · cases hl)
    exact ⟨by rw [this.1]; exact x, by rw [this.2]; exact y⟩

end
end Go.Am

/- Regions that draw their order: every order. -/
namespace Go.Am
variable {Z : Zone}
section
variable {g : Cfg} {base : Base} {hd : Handler} {c : Ctx} {ops : Array Oper} {T : Trace} {m : Nat} {rs : List Nat} {φ0 φ φ' : Nat → Pl} {ω0 ω ω' : Nat → Option Tag} {lam0 lam lam' : Nat → Nat} {a0 a : Act} {w0 w w' : World} {S : Nat → Prop}

theorem getD_tf {l : Array Bool} {i : Nat} (hi : i < l.size) : l.getD i true = l.getD i false := by
  simp [hi]

/-! ### While something is left, something may be carried out -/
theorem go_ready {md : Region.Mode} {L : Array Bool} (hL : L.size = ops.size) : ∀ (fuel t : Nat) (listed : Array Bool), (∀ i, listed.getD i false = true → L.getD i false = true) → (∃ j ∈ Region.linearise.go md ops fuel t listed [], L.getD j false = false) →
    Region.ready md ops L ≠ [] := by
  intro fuel
  induction fuel with
  | zero => rintro t listed _ ⟨j, hj, _⟩; simp [Region.linearise.go] at hj
  | succ fuel ih =>
    rintro t listed hsub ⟨j, hj, hjl⟩
    simp only [Region.linearise.go] at hj
    change j ∈ (match (Region.ready md ops listed)[t % (Region.ready md ops listed).length]? with
      | some i => Region.linearise.go md ops fuel (t / (Region.ready md ops listed).length) (listed.setIfInBounds i true) [i]
      | none => [].reverse) at hj
    split at hj
    · rename_i i hi
      have hir := List.mem_of_getElem? hi
      obtain ⟨hun, o, ho, hall⟩ := mem_ready.1 hir
      obtain ⟨hlt, _⟩ := Array.getElem?_eq_some_iff.1 ho
      cases hLi : L.getD i false with
      | false =>
        intro he
        have : i ∈ Region.ready md ops L := mem_ready.2 ⟨by rw [getD_tf (by omega)]; exact hLi, o, ho, fun e h1 h2 => hsub _ (hall e h1 h2)⟩
        rw [he] at this; cases this
      | true =>
        rw [linearise_go_acc, List.reverse_singleton, List.singleton_append, List.mem_cons] at hj
        rcases hj with rfl | hj
        · rw [hLi] at hjl; cases hjl
        · refine ih _ _ (fun k hk => ?_) ⟨j, hj, hjl⟩
          by_cases e : i = k
          · subst e; exact hLi
          · rw [getD_set_ne _ e] at hk; exact hsub k hk
    · simp at hj

theorem ready_none (D : DrawFacts ops) {md : Region.Mode} {L : Array Bool} (hL : L.size = ops.size) (hr : Region.ready md ops L = []) : ∀ j, j < ops.size → L.getD j false = true := by
  by_cases hgc : md = .gc
  · subst hgc
    intro j hj
    cases h : L.getD j false with
    | true => rfl
    | false =>
      refine (go_ready hL ops.size 0 (Array.replicate ops.size false) (fun i hi => ?_) ⟨j, D.gc j hj, h⟩ hr).elim
      by_cases e : i < ops.size <;> simp [e] at hi
  · intro j
    induction j using Nat.strongRecOn with
    | _ j ih =>
      intro hj
      cases h : L.getD j false with
      | true => rfl
      | false =>
        have ho : ops[j]? = some ops[j] := Array.getElem?_eq_getElem hj
        have : j ∈ Region.ready md ops L := mem_ready.2 ⟨by rw [getD_tf (by omega)]; exact h, _, ho, fun e he hb => by
          rcases D.edge j _ ho e he with hlt | ⟨x, hx⟩
          · exact ih _ hlt (by omega)
          · unfold Region.binds at hb
            rw [hx] at hb
            simp only [beq_iff_eq] at hb
            exact (hgc hb).elim⟩
        rw [hr] at this; cases this

def unl (ops : Array Oper) (L : Array Bool) : Nat := (List.range ops.size).countP fun k => !L.getD k false

theorem countP_less {p q : Nat → Bool} {i : Nat} : ∀ (l : List Nat), (∀ x, q x = true → p x = true) → i ∈ l → p i = true → q i = false → l.countP q < l.countP p := by
  intro l
  induction l with
  | nil => intro _ h; cases h
  | cons x r ih =>
    intro hs hm hp hq
    have hle : r.countP q ≤ r.countP p := List.countP_mono_left fun y _ h => hs y h
    rw [List.countP_cons, List.countP_cons]
    rcases List.mem_cons.1 hm with rfl | hm
    · rw [hp, hq]; simp; omega
    · have := ih hs hm hp hq
      by_cases h : q x = true
      · rw [h, hs x h]; simp; omega
      · by_cases h2 : p x = true
        · simp [h, h2]; omega
        · simp [h, h2]; omega

theorem unl_set {L : Array Bool} {i : Nat} (hi : i < ops.size) (hL : L.size = ops.size) (h : L.getD i false = false) : unl ops (L.setIfInBounds i true) < unl ops L := by
  refine countP_less (i := i) _ (fun x hx => ?_) (by simpa using hi) (by simp [h]) ?_
  · by_cases e : i = x
    · subst e; simp [h]
    · rwa [getD_set_ne _ e] at hx
  · simp [hi, hL]

theorem set_eq {L : Array Bool} {i : Nat} (hi : i < L.size) : (fun k => (L.setIfInBounds i true).getD k false = true) = fun k => L.getD k false = true ∨ k = i := by
  funext k
  by_cases e : i = k
  · subst e; simp [hi]
  · rw [getD_set_ne _ e]; simp; intro h; exact (e h.symm).elim

/-- Whatever the order: what may be carried out is carried out as in the text's order. -/
theorem any_sim (H : HSim g base hd) (E : Env g base hd c ops T m rs φ0 ω0 lam0 a0 w0) {ro : Option Nat} {Q : Exit → Act → World → Prop} {md : Region.Mode}
    (fin : ∀ S φ ω lam a w, Inv base c ops T m rs φ0 ω0 lam0 w0 S φ ω lam a w → (∀ k, k < ops.size → S k) → Q .normal a w)
    (pan : ∀ i S φ ω lam a w K, Inv base c ops T m rs φ0 ω0 lam0 w0 S φ ω lam a w → i < ops.size → ¬ i < m → ¬ S i → (∀ k, Wt ops k i → S k) → wpOpIn (FF ro) 0 g.P ops Q i K a w) :
    ∀ (fuel : Nat) (L : Array Bool) (φ : Nat → Pl) (ω : Nat → Option Tag) (lam : Nat → Nat) (a : Act) (w : World), L.size = ops.size → Inv base c ops T m rs φ0 ω0 lam0 w0 (fun k => L.getD k false = true) φ ω lam a w → unl ops L ≤ fuel →
      wpAnyIn (FF ro) 0 g.P md ops Q fuel L a w := by
  intro fuel
  induction fuel with
  | zero =>
    intro L φ ω lam a w hL I hu
    have hall : ∀ k, k < ops.size → L.getD k false = true := fun k hk => by
      cases h : L.getD k false with
      | true => rfl
      | false => have := unl_set hk hL h; omega
    refine ⟨?_, fin _ _ _ _ _ _ I hall⟩
    cases hr : Region.ready md ops L with
    | nil => rfl
    | cons x r =>
      have hx : x ∈ Region.ready md ops L := by rw [hr]; simp
      obtain ⟨hun, o, ho, _⟩ := mem_ready.1 hx
      obtain ⟨hlt, _⟩ := Array.getElem?_eq_some_iff.1 ho
      rw [getD_tf (by omega), hall x hlt] at hun; cases hun
  | succ fuel ih =>
    intro L φ ω lam a w hL I hu
    refine ⟨fun hr => fin _ _ _ _ _ _ I (ready_none E.D hL hr), fun i hi => ?_⟩
    obtain ⟨hun, o, ho, hall⟩ := mem_ready.1 hi
    obtain ⟨hlt, _⟩ := Array.getElem?_eq_some_iff.1 ho
    rw [getD_tf (by omega)] at hun
    have hni : ¬ L.getD i false = true := by rw [hun]; simp
    have hb : ∀ k, Wt ops k i → L.getD k false = true := fun k hk => by
      obtain ⟨p, hp, h⟩ := (wt_iff hlt E.D.back).1 hk
      have hpl : L.getD p false = true := by
        unfold preds at hp
        simp only [ho, Option.map_some, Option.getD_some, List.mem_map, List.mem_filter] at hp
        obtain ⟨e, ⟨he, hbi⟩, rfl⟩ := hp
        refine hall e (by simpa using he) ?_
        unfold Region.binds at hbi ⊢
        split at hbi
        · cases hbi
        · cases hbi
        · rfl
      rcases h with rfl | h
      · exact hpl
      · exact I.closed p hpl k h
    by_cases him : i < m
    · unfold wpOpIn
      rw [E.hT.op i him]
      obtain ⟨sA, sB, hst, hA, hB, hAB⟩ := E.hT.step i him
      obtain ⟨hsv0, hfv⟩ := I.view E him hni hb
      have hsv := hsv0 sA hA (by rcases hAB with ⟨h1, h2, _⟩ | ⟨_, h2, _⟩; exact .inl ⟨h1, h2⟩; exact .inr h2)
      rw [← hA] at hfv
      have hfv' : FRel φ (T.ctx c ops i) sA.next lam (cutTag (T.N i) ω) ((T.fr i).only ops (T.o i) (T.acc ops i)) rs a w := by rw [hA] at hfv ⊢; exact hfv
      refine step_sim H hsv hfv' hst ?_ ?_
      · intro _ φ1 ω1 lam1 v1 w1 hp hold
        obtain ⟨φ2, ω2, lam2, I2⟩ := I.next E him hni hb hst hA hB hAB hp hold
        rw [← set_eq (by omega)] at I2
        refine ih _ φ2 ω2 lam2 _ _ (by simpa using hL) I2 ?_
        have := unl_set hlt hL hun; omega
      · intro v hv; cases hv
    · exact pan i _ φ ω lam a w _ I hlt him hni hb

theorem grow_all (E : Env g base hd c ops T m rs φ0 ω0 lam0 a0 w0) : ∀ j, j ≤ m → GrowN c (T.N 0) (T.s 0) (T.s j) := by
  intro j
  induction j with
  | zero => intro _; exact GrowN.refl _ _ _
  | succ j ih =>
    intro hj
    have hg := step_grow_at E.HG E.hT (j := j) (by omega)
    have hn := N0_le E (j := j) (by omega)
    have hsn : ∀ x, x ∈ T.feet ops j → T.N 0 ≤ x.lo := fun x hx => by
      simp only [Trace.feet, List.mem_map, List.mem_range] at hx
      obtain ⟨k, hk, rfl⟩ := hx
      exact N0_le E (by omega)
    refine (ih (by omega)).trans ⟨hg.next, hg.gone, fun id hw hi => hg.low id (drawCtx_wr hsn hn hi hw) (Nat.lt_of_lt_of_le hi hn), fun id hv hi => hg.hid id (drawCtx_vis hv) hi, hg.dom⟩

theorem frel_only {fr : Fr} {s : St} {o : Oper} {acc : List Nat} (hs : SRel g base φ ω c s w) (hf : FRel φ c s.next lam ω fr rs a w) (ha : ∀ t p, t ∈ seenTmps ops o → fr.pt.get t = some p → p.1 ∈ acc) :
    FPost g base c φ φ ω ω lam lam fr (fr.only ops o acc) s s rs rs a w w := by
  refine ⟨fun _ _ => rfl, Nat.le_refl _, hs, ⟨hf.size, fun t v h => ?_, fun t p h => ?_, fun d cs h => ?_, hf.defers, hf.nodup, hf.marks⟩, fun d cs h => ?_, Keep.refl _ _ _ _ _, ⟨[], rfl, fun _ h => by cases h⟩, rfl⟩
  · simp only [Fr.only, pick_nil] at h
    split at h
    · exact hf.tm t v h
    · cases h
  · simp only [Fr.only, pick_nil] at h
    split at h
    · rename_i ht
      obtain ⟨⟨cs, x⟩, y⟩ := hf.pt t p h
      exact ⟨⟨cs, by simp only [Fr.only, pick_nil]; rw [if_pos (ha t p ht h)]; exact x⟩, y⟩
    · cases h
  · simp only [Fr.only, pick_nil] at h
    split at h
    · exact hf.own d cs h
    · cases h
  · simp only [Fr.only, pick_nil] at h
    split at h
    · exact .inl ⟨rfl, cs, h⟩
    · cases h

theorem draw_sim (H : HSim g base hd) (HG : HGrow hd) : DrawSim g base hd := by
  intro rid ops c ro Q φ ω lam fr s rs a w ex fr' s' hs hf h hQ
  unfold region at h
  simp only [if_true] at h
  replace h := bind_some h; obtain ⟨_, hok, h⟩ := h
  rw [chk_some] at hok
  have D := drawOk_facts hok
  have key : ∃ T m, Env g base hd c ops T m rs φ ω lam a w ∧
      (∀ S φ' ω' lam' a' w', Inv base c ops T m rs φ ω lam w S φ' ω' lam' a' w' → (∀ k, k < ops.size → S k) → Q .normal a' w') ∧
      (∀ i S φ' ω' lam' a' w' K, Inv base c ops T m rs φ ω lam w S φ' ω' lam' a' w' → i < ops.size → ¬ i < m → ¬ S i → (∀ k, Wt ops k i → S k) → wpOpIn (FF ro) 0 g.P ops Q i K a' w') := by
    rcases stepsDraw_at (fr0 := fr) (s0 := s) ops.toList 0 (fr, s, []) _ rfl (Nat.zero_le _) rfl h with ⟨y, e1, hy, e2, e3⟩ | ⟨v, m, y, o, e1, hm, hy, ho, hao, hst⟩
    · obtain ⟨T, hT, h1, h2, h3, h4, _⟩ := trace_of (Nat.le_refl _) hy
      subst h1 h2
      simp only at e1 e2 e3; subst e1
      have E : Env g base hd c ops T ops.size rs φ ω lam a w := ⟨D, HG, hT, hs, hf⟩
      refine ⟨T, ops.size, E, fun S φ' ω' lam' a' w' I hall => ?_, fun i S φ' ω' lam' a' w' K I h1 h2 => (h2 h1).elim⟩
      have hS : S = fun k => k < ops.size := by funext k; exact propext ⟨I.below k, hall k⟩
      subst hS
      have := I.done E
      rw [h3, h4, ← e2, ← e3] at this
      exact hQ _ _ _ _ _ _ _ this .normal
    · obtain ⟨T, hT, h1, h2, h3, h4, h5⟩ := trace_of (Nat.le_of_lt hm) hy
      subst h1 h2
      simp only at e1; subst e1
      have E : Env g base hd c ops T m rs φ ω lam a w := ⟨D, HG, hT, hs, hf⟩
      refine ⟨T, m, E, fun S φ' ω' lam' a' w' I hall => ?_, fun i S φ' ω' lam' a' w' K I h1 h2 hni hb => ?_⟩
      · have := I.below m (hall m hm); omega
      · rw [Bool.and_eq_true] at hao
        obtain ⟨hfo, hao⟩ := hao
        have hi : i = m := Classical.byContradiction fun hne => by
          rcases fullOrdered_iff hfo h1 hne with ⟨hlt, _⟩ | ⟨_, hw⟩
          · exact h2 hlt
          · have := I.below m (hb m hw); omega
        subst hi
        have hS : S = fun k => k < i := by
          funext k
          refine propext ⟨I.below k, fun hk => ?_⟩
          rcases fullOrdered_iff hfo (i := k) (by omega) (by omega) with ⟨_, hw⟩ | ⟨hlt, _⟩
          · exact hb k hw
          · omega
        subst hS
        have hd0 := I.done E
        rw [← h3, ← h4] at hst
        have hctx : drawCtx c ops (closure ops ops.size) ops.size i (T.s i).next y.2.2 = c := by unfold drawCtx; rw [if_pos hao]
        rw [hctx] at hst
        have hd1 := frel_only (ops := ops) (o := o) (acc := (footOf ops (T.fr i) o).1) hd0.srel hd0.frel (fun t p ht hp => by
          unfold footOf
          refine List.mem_append_left _ (List.mem_flatMap.2 ⟨t, ht, ?_⟩)
          simp [ptd, hp])
        have hd2 := hd0.trans hs (grow_all E i (Nat.le_refl _)).grow hd1
        unfold wpOpIn
        rw [ho]
        refine step_sim H hd1.srel hd1.frel hst (fun e => by cases e) ?_
        intro v2 hv2 φ2 ω2 v3 w3 hp hv
        cases hv2
        exact hQ _ _ _ _ _ _ _ (hd2.trans hs (grow_all E i (Nat.le_refl _)).grow hp) (.pan _ _ hv)
  obtain ⟨T, m, E, fin, pan⟩ := key
  have hlin : ∀ md t, wpOpsIn (FF ro) 0 g.P ops Q (Region.linearise md ops t) a { w with drawn := w.drawn + 1 } := fun md t => by
    refine wpAnyIn_sound ops.size t _ a _ ?_
    have I0 := Inv.start E (w1 := { w with drawn := w.drawn + 1 }) rfl rfl rfl rfl
    have e0 : (fun k => (Array.replicate ops.size false).getD k false = true) = fun _ => False := by
      funext k
      by_cases e : k < ops.size <;> simp [e]
    rw [← e0] at I0
    refine any_sim H E fin pan ops.size _ _ _ _ _ _ (by simp) I0 ?_
    unfold unl
    have := List.countP_le_length (p := fun k => !(Array.replicate ops.size false).getD k false) (l := List.range ops.size)
    simpa using this
  refine wpIn_region_draw fun t => ?_
  unfold Region.schedule
  split
  · exact hlin _ _
  · exact hlin _ _

theorem call_ok (hg : Good g base) (n : Nat) : HSim g base (call g n) := call_sim hg (fun _ H HG => draw_sim H HG) n

end
end Go.Am
