/- Operations: the machine's own answers, in the form in which they are wanted. -/
import Derived.Test.YtmpokdnpkjcnbaaDoorAmRel
import Derived.Laws.CopyRow
import Derived.Laws.Entries
namespace Go.Am
variable {Z : Zone}
variable {g : Cfg} {P : Program}

theorem addr_add (b o n : Nat) : (⟨b, o, none⟩ : Addr).add n = ⟨b, o + n, none⟩ := by
  unfold Addr.add; split <;> simp_all

theorem run_under {t : TypeId} {d : TypeDesc} (h : P.underlying t = some d) (w : World) : (underlying t).run P w = .ok d w := run_underlying h w
theorem run_info {t : TypeId} {i : TypeInfo} (h : P.info? t = some i) (w : World) : (typeInfo t).run P w = .ok i w := by
  simp [typeInfo, program, Sem.run, h]
theorem run_size {t : TypeId} {n : Nat} (h : (P.info? t).map (·.size) = some n) (w : World) : (Go.sizeOf t).run P w = .ok n w := by
  obtain ⟨i, hi, rfl⟩ := Option.map_eq_some_iff.1 h
  simp [Go.sizeOf, run_info hi]
theorem run_zero {t : TypeId} {v : Value} (h : (P.info? t).bind (·.zero) = some v) (w : World) : (zeroValue t).run P w = .ok v w := by
  obtain ⟨i, hi, hz⟩ := bind_some h
  simp [zeroValue, run_info hi, hz]

theorem aggT_run {g : Cfg} {t : TypeId} {b : Bool} (h : aggT g t = some b) (w : World) : (isAgg t).run g.P w = .ok b w := by
  unfold aggT at h
  split at h
  · rename_i hu; cases h; simp [isAgg, run_under hu]
  · rename_i hu; cases h; simp [isAgg, run_under hu]
  · rename_i d h1 h2 hu; cases h
    simp only [isAgg, Sem.run_bind, run_under hu, Result.andThen_ok]
    rfl
  · cases h

theorem run_loadCells_row (w : World) (b o n : Nat) (cs : Array Value) (el : TypeId) (fz : Nat × Nat) (hb : w.heap[b]? = some (.cells cs el fz)) (hn : o + n ≤ cs.size) :
    (loadCells ⟨b, o, none⟩ n).run P w = .ok (cs.extract o (o + n)) w := by
  have hl : (cs.extract o (o + n)).toList.length = n := by simp; omega
  have := run_loadCells_list (P := P) w ⟨b, o, none⟩ (cs.extract o (o + n)).toList (fun j v hv => by
    rw [addr_add]
    simp only [World.cell?, hb]
    have : (cs.extract o (o + n))[j]? = some v := by rw [← Array.getElem?_toList]; exact hv
    rw [Array.getElem?_extract] at this
    split at this
    · simpa using this
    · cases this)
  rw [hl] at this
  rw [this, Array.toArray_toList]

/-- Reading a variable out of a row that stands in the relation. -/
theorem readVar_run {φ : Nat → Pl} {c : Ctx} {n : Nat} {w : World} {b off : Nat} {cs cs' : Array Value} {el : TypeId} {fz : Nat × Nat} (hb : w.heap[b]? = some (.cells cs' el fz)) (hr : RowHas φ c n cs' off cs)
    {t : TypeId} {o : Nat} {v : Value} (h : readVar g t cs o = some v) : ∃ v', (loadVar t ⟨b, off + o, none⟩).run g.P w = .ok v' w ∧ Vrel φ c n v v' := by
  replace h := readVar_old _ h
  unfold readVar0 at h
  obtain ⟨a, ha, h⟩ := bind_some h
  have hrow : ∀ k, k ≤ cs.size → k = 0 ∨ off + k ≤ cs'.size := fun k hk => by
    cases k with
    | zero => exact .inl rfl
    | succ k =>
      obtain ⟨x', hx', _⟩ := hr k cs[k] (Array.getElem?_eq_getElem (by omega))
      have := (Array.getElem?_eq_some_iff.1 hx').1
      exact .inr (by omega)
  cases a with
  | true =>
    simp only [if_true] at h
    obtain ⟨m, hm, h⟩ := bind_some h
    obtain ⟨_, hc, h⟩ := bind_some h
    rw [chk_some, decide_eq_true_eq] at hc
    cases h
    unfold sizeOf? at hm
    rcases hrow (o + m) hc with h0 | h0
    · obtain ⟨rfl, rfl⟩ : o = 0 ∧ m = 0 := by omega
      refine ⟨.agg #[], ?_, ?_⟩
      · simp [loadVar, aggT_run ha, run_size hm, loadCells, loadCellsFrom]
      · have : cs.extract 0 (0 + 0) = #[] := by simp
        rw [this]; exact .agg _ _ rfl (fun i x x' h _ => by simp at h)
    · refine ⟨.agg (cs'.extract (off + o) (off + o + m)), ?_, ?_⟩
      · simp only [loadVar, Sem.run_bind, aggT_run ha, Result.andThen_ok, if_true, run_size hm, run_loadCells_row w b (off + o) m cs' el fz hb (by omega), Sem.run_pure]
      · refine .agg _ _ (by simp; omega) (fun i x x' hx hx' => ?_)
        rw [Array.getElem?_extract] at hx hx'
        split at hx
        · split at hx'
          · obtain ⟨y, hy, hv⟩ := hr _ _ hx
            rw [show off + (o + i) = off + o + i by omega] at hy
            rw [hy] at hx'; cases hx'; exact hv
          · cases hx'
        · cases hx
  | false =>
    simp only [Bool.false_eq_true, if_false] at h
    obtain ⟨v', hv', hv⟩ := hr o v h
    refine ⟨v', ?_, hv⟩
    simp only [loadVar, Sem.run_bind, aggT_run ha, Result.andThen_ok, Bool.false_eq_true, if_false]
    simp [load, Sem.run, World.cell?, hb, hv']

theorem blit_size : ∀ (vs : List Value) (cs : Array Value) (o : Nat), (blit cs o vs).size = cs.size := by
  intro vs
  induction vs with
  | nil => intro cs o; rfl
  | cons v r ih => intro cs o; simp only [blit]; rw [ih]; simp

theorem blit_get : ∀ (vs : List Value) (cs : Array Value) (o i : Nat), o + vs.length ≤ cs.size → (blit cs o vs)[i]? = if o ≤ i ∧ i < o + vs.length then vs[i - o]? else cs[i]? := by
  intro vs
  induction vs with
  | nil => intro cs o i _; simp only [blit, List.length_nil]; rw [if_neg (by omega)]
  | cons v r ih =>
    intro cs o i h
    simp only [List.length_cons] at h
    simp only [blit]
    rw [ih _ _ _ (by simp; omega)]
    by_cases e : i = o
    · subst e
      rw [if_neg (by omega), if_pos (by simp)]
      simp [show i < cs.size by omega]
    · by_cases hlt : o + 1 ≤ i ∧ i < o + 1 + r.length
      · rw [if_pos hlt, if_pos (by simp; omega)]
        rw [show i - o = (i - (o + 1)) + 1 by omega]; simp
      · rw [if_neg hlt, if_neg (by simp; omega)]
        rw [Array.getElem?_setIfInBounds]; rw [if_neg (by omega)]

theorem run_storeCells_blit (b : Nat) (t : TypeId) : ∀ (vs : List Value) (o i : Nat) (cur : Array Value) (w : World), w.heap[b]? = some (.cells cur t (0, 0)) → o + i + vs.length ≤ cur.size → vs.all Value.oneCell' = true →
    (storeCells ⟨b, o, none⟩ vs i).run P w = .ok () (w.setRow b (blit cur (o + i) vs)) := by
  intro vs
  induction vs with
  | nil =>
    intro o i cur w hb _ _
    simp only [storeCells, blit]
    rw [setRow_self w b cur t (0, 0) hb]; rfl
  | cons v r ih =>
    intro o i cur w hb hl h1
    simp only [List.all_cons, Bool.and_eq_true] at h1
    have hi : o + i < cur.size := by simp at hl; omega
    have hst : (store ((⟨b, o, none⟩ : Addr).add i) v).run P w = .ok () (w.setRow b (cur.setIfInBounds (o + i) v)) := by
      rw [addr_add, run_store P w _ v _ h1.1]
      simp [World.cell?, hb, hi, World.frozen?, setCell_eq_setRow w b (o + i) cur t (0, 0) v hb]
    have ih := ih o (i + 1) (cur.setIfInBounds (o + i) v) (w.setRow b (cur.setIfInBounds (o + i) v)) (setRow_heap w b cur _ t _ hb) (by simp at hl ⊢; omega) h1.2
    simp only [storeCells, Sem.run_bind, hst, Result.andThen_ok, ih, setRow_setRow, blit]
    rfl

theorem setRow_size (w : World) (b : Nat) (cs : Array Value) : (w.setRow b cs).heap.size = w.heap.size := by simp [World.setRow]
theorem setRow_other (w : World) (b k : Nat) (cs : Array Value) (h : k ≠ b) : (w.setRow b cs).heap[k]? = w.heap[k]? := by
  simp only [World.setRow]
  rw [Array.getElem?_modify]
  rw [if_neg (fun e => h e.symm)]

theorem cells_rel {φ : Nat → Pl} {c : Ctx} {n : Nat} {v v' : Value} (h : Vrel φ c n v v') : Arel φ c n v.cells v'.cells := by
  cases h with
  | agg a a' ha hA => exact ⟨ha, hA⟩
  | bool | int | float | string | nilPointer | pointer | nilSlice | slice | nilMap | map | func | yield | nilFunc | iface | nilIface | tuple | vslice | vnil | vptr | vsame | psame =>
    refine ⟨rfl, fun i x x' hx hx' => ?_⟩
    simp only [Value.cells] at hx hx'
    cases i with
    | zero =>
      simp only [List.size_toArray, List.length_cons, List.length_nil, Nat.zero_add, Nat.lt_add_one, Array.getElem?_eq_getElem, List.getElem_toArray, List.getElem_cons_zero, Option.some.injEq] at hx hx'
      subst hx hx'
      first | exact .bool _ | exact .int _ _ | exact .float _ _ | exact .string _ | exact .nilPointer | exact .pointer _ _ ‹_› | exact .nilSlice _ _ | exact .slice _ _ _ _ ‹_› | exact .nilMap | exact .map _ ‹_› | exact .func _ _ _ _ _ ‹_› ‹_› ‹_› ‹_› | exact .yield _ ‹_› | exact .nilFunc | exact .iface _ _ _ ‹_› | exact .nilIface | exact .tuple _ _ ‹_› ‹_› | exact .vslice _ _ _ _ _ _ _ ‹_› ‹_› | exact .vnil _ _ _ _ _ ‹_› | exact .vptr _ _ _ _ _ _ _ ‹_› | exact .vsame _ _ _ _ ‹_› | exact .psame _ _ _ _ _ ‹_›
    | succ i => simp at hx

theorem one_rel {φ : Nat → Pl} {c : Ctx} {n : Nat} {v v' : Value} (h : Vrel φ c n v v') : v'.oneCell' = v.oneCell' := by
  cases h <;> rfl

theorem all_one {φ : Nat → Pl} {c : Ctx} {n : Nat} {a a' : Array Value} (h : Arel φ c n a a') (h1 : a.toList.all Value.oneCell' = true) : a'.toList.all Value.oneCell' = true := by
  rw [List.all_eq_true] at *
  intro x' hx'
  obtain ⟨i, hi⟩ := List.mem_iff_getElem?.1 hx'
  have hi' : a'[i]? = some x' := by simpa using hi
  obtain ⟨hlt, _⟩ := Array.getElem?_eq_some_iff.1 hi'
  have hlt' : i < a.size := by rw [h.1]; exact hlt
  rw [one_rel (h.2 i _ _ (Array.getElem?_eq_getElem hlt') hi')]
  exact h1 _ (by simp)

end Go.Am

/- Operations that leave what is held alone. -/
namespace Go.Am
variable {Z : Zone}

variable [Z]
structure Post (g : Cfg) (base : Base) (c : Ctx) (φ φ' : Nat → Pl) (ω ω' : Nat → Option Tag) (lam lam' : Nat → Nat) (loc loc' : Tr (Array Value)) (s s' : St) (w w' : World) : Prop where
  agree : ∀ id, id < s.next → φ' id = φ id
  next : s.next ≤ s'.next
  srel : SRel g base φ' ω' c s' w'
  own : ∀ d cs, loc'.get d = some cs → ω' (lam' d) = some (.loc d) ∧ ∃ cs' el, w'.heap[lam' d]? = some (.cells cs' el (0, 0)) ∧ Arel φ' c s'.next cs cs'
  lamW : ∀ d cs, loc'.get d = some cs → (lam' d = lam d ∧ ∃ cs0, loc.get d = some cs0) ∨ w.heap.size ≤ lam' d
  old : ∀ d cs, loc.get d = some cs → lam' d = lam d ∧ ∃ cs', loc'.get d = some cs'
  keep : Keep ω ω' c s (LocB lam loc) w w'
variable {Z}

def Live (v : Value) (loc : Tr (Array Value)) : Prop :=
  match v with
  | .pointer (some ⟨d, _, some _⟩) => ∃ cs, loc.get d = some cs
  | _ => True

theorem live_glob {v : Value} {loc : Tr (Array Value)} (h : local? v = false) : Live v loc := by
  unfold Live; split
  · simp [local?] at h
  · trivial

variable [Z]
def OpOk (g : Cfg) (base : Base) (c : Ctx) (φ : Nat → Pl) (ω : Nat → Option Tag) (lam : Nat → Nat) (fr : Fr) (s : St) (a : Act) (w : World) (o : Oper) (v : Value) (loc' : Tr (Array Value)) (s' : St) : Prop :=
  ∃ v' φ' ω' lam' w' nx, (execOp a.eval o).run g.P w = .ok nx w' ∧ (nx = .value v' ∨ nx = .skip ∧ v' = undef) ∧ Trel φ' c s'.next lam' v v' ∧ Live v loc' ∧ Post g base c φ φ' ω ω' lam lam' fr.loc loc' s s' w w'
variable {Z}

section
variable {g : Cfg} {base : Base} {c : Ctx} {φ : Nat → Pl} {ω : Nat → Option Tag} {lam : Nat → Nat} {fr : Fr} {s : St} {rs : List Nat} {a : Act} {w : World}

theorem Post.refl (hs : SRel g base φ ω c s w) (hf : FRel φ c s.next lam ω fr rs a w) : Post g base c φ φ ω ω lam lam fr.loc fr.loc s s w w where
  agree _ _ := rfl
  next := Nat.le_refl _
  srel := hs
  own := hf.own
  lamW d cs h := .inl ⟨rfl, cs, h⟩
  old d cs h := ⟨rfl, cs, h⟩
  keep := Keep.refl _ _ _ _ _

theorem ev_rel (hs : SRel g base φ ω c s w) (hf : FRel φ c s.next lam ω fr rs a w) {x : Operand} {v : Value} (h : fr.ev g x = some v) : Trel φ c s.next lam v (a.eval x) := by
  cases x with
  | tmp t =>
    simp only [Fr.ev] at h
    split at h
    · rename_i p hp; cases h
      exact (hf.pt t p hp).2
    · exact (hf.tm t v h).trel
  | const v' =>
    simp only [Fr.ev] at h
    split at h
    · rename_i hp; cases h; exact (plain_rel φ c s.next 8 _ hp).trel
    · cases h
  | global i =>
    simp only [Fr.ev] at h
    split at h
    · rename_i hi; cases h
      have hg := hs.glob i hi
      have := Vrel.pointer (φ := φ) (c := c) (n := s.next) i 0 ⟨Nat.lt_of_lt_of_le hg.1 hs.bn, hs.vlow _ hg.1⟩
      rw [hg.2] at this
      exact this.trel
    · cases h
  | func f =>
    simp only [Fr.ev] at h; cases h
    exact (Vrel.func f #[] #[] #[] #[] rfl rfl (fun _ _ _ h => by simp at h) (fun _ _ _ h => by simp at h)).trel

theorem ev_live (hf : FRel φ c s.next lam ω fr rs a w) {x : Operand} {v : Value} (h : fr.ev g x = some v) : Live v fr.loc := by
  cases x with
  | tmp t =>
    simp only [Fr.ev] at h
    split at h
    · rename_i p hp; cases h
      exact (hf.pt t p hp).1
    · exact live_glob (hf.tm t v h).glob
  | const v' =>
    simp only [Fr.ev] at h
    split at h
    · rename_i hp; cases h; exact live_glob (plain_rel φ c s.next 8 _ hp).glob
    · cases h
  | global i =>
    simp only [Fr.ev] at h
    split at h
    · cases h; exact live_glob rfl
    · cases h
  | func f => simp only [Fr.ev] at h; cases h; exact live_glob rfl

theorem gev_some {x : Operand} {v : Value} (h : fr.gev g x = some v) : fr.ev g x = some v ∧ local? v = false := by
  unfold Fr.gev at h
  replace h := bind_some h; obtain ⟨v', hv, h⟩ := h
  replace h := bind_some h; obtain ⟨_, hc, h⟩ := h
  rw [chk_some] at hc
  cases h
  exact ⟨hv, by simpa using hc⟩

theorem gev_rel (hs : SRel g base φ ω c s w) (hf : FRel φ c s.next lam ω fr rs a w) {x : Operand} {v : Value} (h : fr.gev g x = some v) : Vrel φ c s.next v (a.eval x) := by
  obtain ⟨h, hl⟩ := gev_some h
  exact (trel_global hl).1 (ev_rel hs hf h)

theorem evL_rel (hs : SRel g base φ ω c s w) (hf : FRel φ c s.next lam ω fr rs a w) : ∀ (xs : List Operand) (vs : List Value), evL g fr xs = some vs → vs.length = xs.length ∧ ∀ (i : Nat) (v : Value), vs[i]? = some v → ∃ x, xs[i]? = some x ∧ Vrel φ c s.next v (a.eval x) ∧ fr.gev g x = some v := by
  intro xs
  induction xs with
  | nil => intro vs h; simp only [evL] at h; cases h; exact ⟨rfl, fun i v h => by simp at h⟩
  | cons x r ih =>
    intro vs h
    simp only [evL] at h
    replace h := bind_some h; obtain ⟨v, hv, h⟩ := h
    replace h := bind_some h; obtain ⟨vs', hvs, h⟩ := h
    cases h
    obtain ⟨h1, h2⟩ := ih vs' hvs
    refine ⟨by simp [h1], fun i u hu => ?_⟩
    cases i with
    | zero => simp at hu; subst hu; exact ⟨x, rfl, gev_rel hs hf hv, hv⟩
    | succ i => simpa using h2 i u (by simpa using hu)

theorem evL_arel (hs : SRel g base φ ω c s w) (hf : FRel φ c s.next lam ω fr rs a w) {xs : Array Operand} {vs : List Value} (h : evL g fr xs.toList = some vs) : Arel φ c s.next vs.toArray (xs.map a.eval) := by
  obtain ⟨h1, h2⟩ := evL_rel hs hf _ _ h
  refine ⟨by simpa using h1, fun i x x' hx hx' => ?_⟩
  obtain ⟨y, hy, hr, _⟩ := h2 i x (by simpa using hx)
  have hy' : xs[i]? = some y := by simpa using hy
  rw [Array.getElem?_map, hy'] at hx'
  cases hx'; exact hr

/-- A value in the same world. -/
theorem OpOk.same (hs : SRel g base φ ω c s w) (hf : FRel φ c s.next lam ω fr rs a w) {o : Oper} {v v' : Value} (hr : (execOp a.eval o).run g.P w = .ok (.value v') w) (hv : Trel φ c s.next lam v v') (hl : Live v fr.loc) :
    OpOk g base c φ ω lam fr s a w o v fr.loc s :=
  ⟨v', φ, ω, lam, w, _, hr, .inl rfl, hv, hl, Post.refl hs hf⟩

theorem OpOk.sameV (hs : SRel g base φ ω c s w) (hf : FRel φ c s.next lam ω fr rs a w) {o : Oper} {v v' : Value} (hr : (execOp a.eval o).run g.P w = .ok (.value v') w) (hv : Vrel φ c s.next v v') :
    OpOk g base c φ ω lam fr s a w o v fr.loc s :=
  OpOk.same hs hf hr hv.trel (live_glob hv.glob)

theorem quietOp_ok (hs : SRel g base φ ω c s w) (hf : FRel φ c s.next lam ω fr rs a w) {o : Oper} (ho : ∀ cs b, o.op ≠ .select cs b) {v : Value} (h : quietOp g fr o = some v) : OpOk g base c φ ω lam fr s a w o v fr.loc s := by
  unfold quietOp at h
  replace h := bind_some h; obtain ⟨vs, hvs, h⟩ := h
  replace h := bind_some h; obtain ⟨_, hp, h⟩ := h
  replace h := bind_some h; obtain ⟨n, hn, h⟩ := h
  rw [chk_some] at hp
  split at h
  · rename_i v'
    replace h := bind_some h; obtain ⟨_, hp', h⟩ := h
    rw [chk_some] at hp'
    cases h
    obtain ⟨hl, hr⟩ := evL_rel hs hf _ _ hvs
    have hcon : execOp (fun x => (fr.ev g x).getD undef) o = execOp a.eval o := by
      refine execOp_congr o ho fun x hx => ?_
      obtain ⟨i, hi⟩ := List.mem_iff_getElem?.1 (Array.mem_toList_iff.2 hx)
      have hlt : i < vs.length := by rw [hl]; exact (List.getElem?_eq_some_iff.1 hi).1
      obtain ⟨y, hy, hv, hg⟩ := hr i vs[i] (List.getElem?_eq_getElem hlt)
      rw [hi] at hy; cases hy
      have hpl : plainN 8 vs[i] = true := (List.all_eq_true.1 hp) _ (List.getElem_mem hlt)
      rw [(gev_some hg).1, plain_eq 8 _ _ hpl hv]; rfl
    rw [hcon] at hn
    exact OpOk.sameV hs hf (purely_run hn w) (plain_rel φ _ _ 9 _ hp')
  · cases h

theorem doLoad_ok (hs : SRel g base φ ω c s w) (hf : FRel φ c s.next lam ω fr rs a w) {t : TypeId} {x : Operand} {v : Value} (h : doLoad g c fr s t x = some v) :
    ∃ v', (Instr.loadAt t (a.eval x)).run g.P w = .ok v' w ∧ Vrel φ c s.next v v' := by
  unfold doLoad at h
  replace h := bind_some h; obtain ⟨p, hp, h⟩ := h
  split at h
  · rename_i ad
    replace h := bind_some h; obtain ⟨cs, hcs, h⟩ := h
    have hrel := ev_rel hs hf hp
    unfold rowOf at hcs
    split at hcs
    · rename_i sp hsp
      obtain ⟨b, o, spot⟩ := ad
      simp only at hsp hcs; subst hsp
      simp only [Trel] at hrel
      rw [hrel]
      obtain ⟨_, cs', el, hb, ha⟩ := hf.own b cs hcs
      have hrow : RowHas φ c s.next cs' 0 cs := fun i x hx => by rw [Nat.zero_add]; exact ha.get hx
      have := readVar_run hb hrow h
      simp only [Nat.zero_add] at this
      obtain ⟨v', hv', hr'⟩ := this
      exact ⟨v', by simpa [Instr.loadAt, Instr.sureAddr] using hv', hr'⟩
    · rename_i hsp
      obtain ⟨b, o, spot⟩ := ad
      simp only at hsp hcs; subst hsp
      have hrel : Vrel φ c s.next (.pointer (some ⟨b, o, none⟩)) (a.eval x) := (trel_global rfl).1 hrel
      cases hx : a.eval x <;> rw [hx] at hrel <;> cases hrel
      unfold St.rowAt at hcs
      split at hcs
      · rename_i cs0 sz sp hl
        cases hcs
        obtain ⟨hv, hg⟩ := look_some hl
        have ho := hs.obj b _ hg hv
        by_cases hso : cs.size ≠ 0 ∨ sp = true
        · obtain ⟨cs', el, fz, h1, _, _, h4⟩ := ho.2 hso
          obtain ⟨v', hv', hr'⟩ := readVar_run h1 h4 h
          exact ⟨v', by simpa [Instr.loadAt, Instr.sureAddr] using hv', hr'⟩
        · -- nothing lies there
          have h0 : cs.size = 0 := by simp at hso; simp [hso.1]
          replace h := readVar_old _ h
          unfold readVar0 at h
          replace h := bind_some h; obtain ⟨ag, hag, h⟩ := h
          cases ag with
          | true =>
            simp only [if_true] at h
            replace h := bind_some h; obtain ⟨m, hm, h⟩ := h
            replace h := bind_some h; obtain ⟨_, hc, h⟩ := h
            rw [chk_some, decide_eq_true_eq] at hc
            cases h
            obtain ⟨rfl, rfl⟩ : o = 0 ∧ m = 0 := by omega
            refine ⟨.agg #[], ?_, ?_⟩
            · unfold sizeOf? at hm
              simp [Instr.loadAt, Instr.sureAddr, loadVar, aggT_run hag, run_size hm, loadCells, loadCellsFrom]
            · have : cs.extract 0 (0 + 0) = #[] := by simp
              rw [this]; exact .agg _ _ rfl (fun i x x' h _ => by simp at h)
          | false =>
            simp only [Bool.false_eq_true, if_false] at h
            have := (Array.getElem?_eq_some_iff.1 h).1
            omega
      · cases hcs
  · rename_i t' nm X o l
    have hrel : Vrel φ c s.next (.func (.methodOf t' nm) X #[.slice none o l]) (a.eval x) := (trel_global rfl).1 (ev_rel hs hf hp)
    generalize a.eval x = u at hrel
    cases hrel with
    | vptr _ _ _ _ _ b o' hz =>
      obtain ⟨X', el, fz, h1, h2⟩ := (hs.zone _ _ _ hz).has φ c s.next
      obtain ⟨v', hv', hr'⟩ := readVar_run h1 h2 h
      exact ⟨v', by simpa [Instr.loadAt, Instr.sureAddr] using hv', hr'⟩
    | psame _ _ _ _ _ hz => exact (hs.nosame hz).elim
  · cases h

theorem load_ok (hs : SRel g base φ ω c s w) (hf : FRel φ c s.next lam ω fr rs a w) {o : Oper} {t : TypeId} {x : Operand} (ho : o.op = .load t x) {v : Value} (h : doLoad g c fr s t x = some v) : OpOk g base c φ ω lam fr s a w o v fr.loc s := by
  obtain ⟨v', h1, h2⟩ := doLoad_ok hs hf h
  exact OpOk.sameV hs hf (by simp [execOp, ho, h1]) h2

theorem move_ok (hs : SRel g base φ ω c s w) (hf : FRel φ c s.next lam ω fr rs a w) {o : Oper} {x : Operand} (ho : o.op = .move x ∨ o.op = .assign x) {v : Value} (h : fr.gev g x = some v) : OpOk g base c φ ω lam fr s a w o v fr.loc s := by
  refine OpOk.sameV hs hf (v' := a.eval x) ?_ (gev_rel hs hf h)
  rcases ho with ho | ho <;> simp [execOp, ho]

theorem fieldAddr_ok (hs : SRel g base φ ω c s w) (hf : FRel φ c s.next lam ω fr rs a w) {o : Oper} {t : TypeId} {x : Operand} {f : Nat} (ho : o.op = .fieldAddr t x f) {v : Value} (h : doFieldAddr g fr t x f = some v) : OpOk g base c φ ω lam fr s a w o v fr.loc s := by
  unfold doFieldAddr at h
  replace h := bind_some h; obtain ⟨p, hp, h⟩ := h
  split at h
  · rename_i ad fields hu
    replace h := bind_some h; obtain ⟨fd, hfd, h⟩ := h
    replace h := bind_some h; obtain ⟨n, hn, h⟩ := h
    replace h := bind_some h; obtain ⟨_, hc, h⟩ := h
    rw [chk_some] at hc
    cases h
    have hrel := ev_rel hs hf hp
    have hlive := ev_live hf hp
    unfold sizeOf? at hn
    have run : ∀ b off, a.eval x = .pointer (some ⟨b, off, none⟩) → (execOp a.eval o).run g.P w = .ok (.value (.pointer (some ⟨b, off + fd.offset, none⟩))) w := by
      intro b off hx
      have hn0 : ¬ n = 0 := by simpa using hc
      simp only [execOp, ho, hx, Instr.fieldAt, Sem.run_bind, run_under hu, Result.andThen_ok, hfd, Instr.sureAddr, Sem.run_pure, fieldPlace, run_size hn, if_neg hn0, addr_add]
    obtain ⟨b, off, spot⟩ := ad
    cases spot with
    | some sp =>
      simp only [Trel] at hrel
      exact OpOk.same hs hf (run _ _ hrel) rfl hlive
    | none =>
      have hrel : Vrel φ c s.next (.pointer (some ⟨b, off, none⟩)) (a.eval x) := (trel_global rfl).1 hrel
      cases hx : a.eval x <;> rw [hx] at hrel <;> cases hrel
      rename_i hlt
      refine OpOk.sameV hs hf (run _ _ hx) ?_
      have := Vrel.pointer (φ := φ) (c := c) (n := s.next) b (off + fd.offset) hlt
      rw [← Nat.add_assoc] at this
      exact this
  · rename_i t' nm X off l fields hu
    replace h := bind_some h; obtain ⟨fd, hfd, h⟩ := h
    replace h := bind_some h; obtain ⟨n, hn, h⟩ := h
    replace h := bind_some h; obtain ⟨_, hc, h⟩ := h
    rw [chk_some] at hc
    cases h
    have hrel : Vrel φ c s.next (.func (.methodOf t' nm) X #[.slice none off l]) (a.eval x) := (trel_global rfl).1 (ev_rel hs hf hp)
    unfold sizeOf? at hn
    generalize hx : a.eval x = u at hrel
    cases hrel with
    | vptr _ _ _ _ _ b o' hz =>
      have hn0 : ¬ n = 0 := by simpa using hc
      refine OpOk.sameV hs hf (v' := .pointer (some ⟨b, o' + off + fd.offset, none⟩)) ?_ ?_
      · simp only [execOp, ho, hx, Instr.fieldAt, Sem.run_bind, run_under hu, Result.andThen_ok, hfd, Instr.sureAddr, Sem.run_pure, fieldPlace, run_size hn, if_neg hn0, addr_add]
      · rw [Nat.add_assoc]; exact .vptr _ _ _ _ _ _ _ hz
    | psame _ _ _ _ _ hz => exact (hs.nosame hz).elim
  · cases h

theorem int_of {φ : Nat → Pl} {c : Ctx} {n : Nat} {v v' : Value} {i : Int} (hv : Vrel φ c n v v') (h : intV v = some i) : ∃ k, v' = .int k i ∧ v = .int k i := by
  unfold intV at h
  split at h
  · cases h; cases hv; exact ⟨_, rfl, rfl⟩
  · cases h

theorem indexAddr_ok (hs : SRel g base φ ω c s w) (hf : FRel φ c s.next lam ω fr rs a w) {o : Oper} {t : TypeId} {x ix : Operand} (ho : o.op = .indexAddr t x ix) {v : Value} (h : doIndexAddr g fr t x ix = some v) : OpOk g base c φ ω lam fr s a w o v fr.loc s := by
  unfold doIndexAddr at h
  replace h := bind_some h; obtain ⟨p, hp, h⟩ := h
  replace h := bind_some h; obtain ⟨iv, hi, h⟩ := h
  replace h := bind_some h; obtain ⟨i, hi', h⟩ := h
  obtain ⟨k, hk, _⟩ := int_of (gev_rel hs hf hi) hi'
  have hrel := ev_rel hs hf hp
  have hlive := ev_live hf hp
  split at h
  · rename_i len elem ad hu
    replace h := bind_some h; obtain ⟨n, hn, h⟩ := h
    replace h := bind_some h; obtain ⟨_, hc, h⟩ := h
    rw [chk_some, Bool.and_eq_true, decide_eq_true_eq, decide_eq_true_eq] at hc
    cases h
    unfold sizeOf? at hn
    have run : ∀ b off, a.eval x = .pointer (some ⟨b, off, none⟩) → (execOp a.eval o).run g.P w = .ok (.value (.pointer (some ⟨b, off + i.toNat * n, none⟩))) w := by
      intro b off hx
      simp only [execOp, ho, hx, hk, Instr.indexAt, asIntOf, Sem.run_bind, Sem.run_pure, run_under hu, Result.andThen_ok, Instr.sureAddr, if_pos hc, run_size hn, addr_add]
    obtain ⟨b, off, spot⟩ := ad
    cases spot with
    | some sp =>
      simp only [Trel] at hrel
      exact OpOk.same hs hf (run _ _ hrel) rfl hlive
    | none =>
      have hrel : Vrel φ c s.next (.pointer (some ⟨b, off, none⟩)) (a.eval x) := (trel_global rfl).1 hrel
      cases hx : a.eval x <;> rw [hx] at hrel <;> cases hrel
      rename_i hlt
      refine OpOk.sameV hs hf (run _ _ hx) ?_
      have := Vrel.pointer (φ := φ) (c := c) (n := s.next) b (off + i.toNat * n) hlt
      rw [← Nat.add_assoc] at this
      exact this
  · rename_i elem id off len cap hu
    replace h := bind_some h; obtain ⟨n, hn, h⟩ := h
    replace h := bind_some h; obtain ⟨_, hc, h⟩ := h
    rw [chk_some, Bool.and_eq_true, decide_eq_true_eq, decide_eq_true_eq] at hc
    cases h
    unfold sizeOf? at hn
    have hrel : Vrel φ c s.next (.slice (some ⟨id, off, none⟩) len cap) (a.eval x) := (trel_global rfl).1 hrel
    cases hx : a.eval x <;> rw [hx] at hrel <;> cases hrel
    rename_i hlt
    refine OpOk.sameV hs hf (v' := .pointer (some ⟨(φ id).blk, (φ id).off + off + i.toNat * n, none⟩)) ?_ ?_
    · simp only [execOp, ho, hx, hk, Instr.indexAt, asIntOf, Sem.run_bind, Sem.run_pure, run_under hu, Result.andThen_ok, if_pos hc, run_size hn, addr_add]
    · have := Vrel.pointer (φ := φ) (c := c) (n := s.next) id (off + i.toNat * n) hlt
      rw [← Nat.add_assoc] at this
      exact this
  · rename_i len elem t' nm X off l hu
    replace h := bind_some h; obtain ⟨n, hn, h⟩ := h
    replace h := bind_some h; obtain ⟨_, hc, h⟩ := h
    rw [chk_some, Bool.and_eq_true, decide_eq_true_eq, decide_eq_true_eq] at hc
    cases h
    unfold sizeOf? at hn
    have hrel : Vrel φ c s.next (.func (.methodOf t' nm) X #[.slice none off l]) (a.eval x) := (trel_global rfl).1 hrel
    generalize hx : a.eval x = u at hrel
    cases hrel with
    | vptr _ _ _ _ _ b o' hz =>
      refine OpOk.sameV hs hf (v' := .pointer (some ⟨b, o' + off + i.toNat * n, none⟩)) ?_ ?_
      · simp only [execOp, ho, hx, hk, Instr.indexAt, asIntOf, Sem.run_bind, Sem.run_pure, run_under hu, Result.andThen_ok, Instr.sureAddr, if_pos hc, run_size hn, addr_add]
      · rw [Nat.add_assoc]; exact .vptr _ _ _ _ _ _ _ hz
    | psame _ _ _ _ _ hz => exact (hs.nosame hz).elim
  · rename_i elem nm X off len hu
    replace h := bind_some h; obtain ⟨n, hn, h⟩ := h
    replace h := bind_some h; obtain ⟨_, hc, h⟩ := h
    rw [chk_some, Bool.and_eq_true, decide_eq_true_eq, decide_eq_true_eq] at hc
    cases h
    unfold sizeOf? at hn
    have hrel : Vrel φ c s.next (.func (.method nm) X #[.slice none off len]) (a.eval x) := (trel_global rfl).1 hrel
    generalize hx : a.eval x = u at hrel
    cases hrel with
    | vslice _ _ _ _ cp b o' hz hl =>
      refine OpOk.sameV hs hf (v' := .pointer (some ⟨b, o' + off + i.toNat * n, none⟩)) ?_ ?_
      · simp only [execOp, ho, hx, hk, Instr.indexAt, asIntOf, Sem.run_bind, Sem.run_pure, run_under hu, Result.andThen_ok, if_pos hc, run_size hn, addr_add]
      · rw [Nat.add_assoc]; exact .vptr _ _ _ _ _ _ _ hz
    | vnil => omega
    | vsame _ _ _ _ hz => exact (hs.nosame hz).elim
  · cases h

end
end Go.Am

/- Operations that pass values on. -/
namespace Go.Am
variable {Z : Zone}
section
variable {g : Cfg} {base : Base} {c : Ctx} {φ : Nat → Pl} {ω : Nat → Option Tag} {lam : Nat → Nat} {fr : Fr} {s : St} {rs : List Nat} {a : Act} {w : World}

/-- Filling places: parts that stand in the relation. -/
theorem fold_rel {φ : Nat → Pl} {c : Ctx} {n : Nat} (off : Nat) : ∀ (l l' : List Value) (k : Nat) (cs cs' : Array Value), Arel φ c n cs cs' → l.length = l'.length → (∀ (i : Nat) (x x' : Value), l[i]? = some x → l'[i]? = some x' → Vrel φ c n x x') →
    Arel φ c n ((l.zipIdx k).foldl (fun cs (x : Value × Nat) => cs.setIfInBounds (off + x.2) x.1) cs) ((l'.zipIdx k).foldl (fun cs (x : Value × Nat) => cs.setIfInBounds (off + x.2) x.1) cs') := by
  intro l
  induction l with
  | nil => intro l' k cs cs' h hl _; cases l' with
    | nil => exact h
    | cons => simp at hl
  | cons x r ih =>
    intro l' k cs cs' h hl hr
    cases l' with
    | nil => simp at hl
    | cons x' r' =>
      simp only [List.zipIdx_cons, List.foldl_cons]
      refine ih r' (k + 1) _ _ ⟨by simp [h.1], fun i y y' hy hy' => ?_⟩ (by simpa using hl) (fun i y y' hy hy' => hr (i + 1) y y' (by simpa using hy) (by simpa using hy'))
      rw [Array.getElem?_setIfInBounds] at hy hy'
      split at hy
      · rename_i e
        rw [if_pos e] at hy'
        rw [h.1] at hy
        split at hy
        · rename_i hlt
          rw [if_pos hlt] at hy'
          cases hy; cases hy'
          exact hr 0 _ _ rfl rfl
        · cases hy
      · rename_i e
        rw [if_neg e] at hy'
        exact h.2 i _ _ hy hy'

theorem fill_rel {φ : Nat → Pl} {c : Ctx} {n : Nat} (place : Nat → Option (Nat × Nat)) : ∀ (ps ps' : List (Nat × Value)) (cs cs' r : Array Value), Arel φ c n cs cs' → ps.length = ps'.length →
    (∀ (i : Nat) (x x' : Nat × Value), ps[i]? = some x → ps'[i]? = some x' → x'.1 = x.1 ∧ Vrel φ c n x.2 x'.2) → Instr.fill place cs ps = some r → ∃ r', Instr.fill place cs' ps' = some r' ∧ Arel φ c n r r' := by
  intro ps
  induction ps with
  | nil => intro ps' cs cs' r h hl _ hf; cases ps' with
    | nil => simp only [Instr.fill] at hf; cases hf; exact ⟨cs', rfl, h⟩
    | cons => simp at hl
  | cons p r0 ih =>
    intro ps' cs cs' r h hl hr hf
    cases ps' with
    | nil => simp at hl
    | cons p' r1 =>
      obtain ⟨k, v⟩ := p
      obtain ⟨k', v'⟩ := p'
      obtain ⟨hk, hv⟩ := hr 0 _ _ rfl rfl
      simp only at hk hv; subst hk
      have hc := cells_rel hv
      simp only [Instr.fill] at hf ⊢
      split at hf
      · cases hf
      · rename_i off size hp
        split at hf
        · cases hf
        · rename_i hcond
          rw [if_neg (by rw [← hc.1, ← h.1]; exact hcond)]
          refine ih r1 _ _ r ?_ (by simpa using hl) (fun i x x' hx hx' => hr (i + 1) x x' (by simpa using hx) (by simpa using hx')) hf
          have := fold_rel (φ := φ) (n := n) off v.cells.toList v'.cells.toList 0 cs cs' h (by simpa using hc.1) (fun i x x' hx hx' => hc.2 i x x' (by simpa using hx) (by simpa using hx'))
          have e : ∀ (b init : Array Value), b.zipIdx.foldl (fun cs (x : Value × Nat) => cs.setIfInBounds (off + x.2) x.1) init = (b.toList.zipIdx).foldl (fun cs (x : Value × Nat) => cs.setIfInBounds (off + x.2) x.1) init := by
            intro b init; rw [← Array.foldl_toList, Array.toList_zipIdx]
          exact (e v.cells cs).symm ▸ (e v'.cells cs').symm ▸ this

theorem plain_arel {φ : Nat → Pl} {c : Ctx} {n d : Nat} {v : Value} (h : plainN d v = true) : Arel φ c n v.cells v.cells := cells_rel (plain_rel φ c n d v h)

theorem parts_rel (hs : SRel g base φ ω c s w) (hf : FRel φ c s.next lam ω fr rs a w) {parts : Array (Nat × Operand)} {vs : List Value} (h : evL g fr (parts.toList.map (·.2)) = some vs) :
    ((parts.toList.map (·.1)).zip vs).length = (parts.map fun x => (x.1, a.eval x.2)).toList.length ∧
    ∀ (i : Nat) (x x' : Nat × Value), ((parts.toList.map (·.1)).zip vs)[i]? = some x → (parts.map fun x => (x.1, a.eval x.2)).toList[i]? = some x' → x'.1 = x.1 ∧ Vrel φ c s.next x.2 x'.2 := by
  obtain ⟨h1, h2⟩ := evL_rel hs hf _ _ h
  simp only [List.length_map] at h1
  refine ⟨by simp [h1], fun i x x' hx hx' => ?_⟩
  rw [List.getElem?_zip_eq_some] at hx
  obtain ⟨hx1, hx2⟩ := hx
  obtain ⟨y, hy, hv, _⟩ := h2 i _ hx2
  rw [List.getElem?_map] at hx1 hy
  simp only [Array.toList_map, List.getElem?_map] at hx'
  cases hp : parts.toList[i]? with
  | none => rw [hp] at hx1; cases hx1
  | some p =>
    rw [hp] at hx1 hy hx'
    simp only [Option.map_some, Option.some.injEq] at hx1 hy hx'
    subst hx' hy
    exact ⟨hx1, hv⟩

theorem mapM_sizes {fields : Array Field} {places : Array (Nat × Nat)} (h : fields.mapM (fun f => (sizeOf? g f.type).map fun n => (f.offset, n)) = some places) (w : World) :
    (fields.mapM fun f => do pure (f.offset, ← Go.sizeOf f.type) : Sem (Array (Nat × Nat))).run g.P w = .ok places w := by
  rw [Array.mapM_eq_mapM_toList] at h ⊢
  simp only [Option.map_eq_map, Option.map_eq_some_iff] at h
  obtain ⟨l, hl, rfl⟩ := h
  simp only [Sem.run_map]
  suffices ∀ (fs : List Field) (l : List (Nat × Nat)), fs.mapM (fun f => (sizeOf? g f.type).map fun n => (f.offset, n)) = some l → (fs.mapM (fun f => do pure (f.offset, ← Go.sizeOf f.type)) : Sem (List (Nat × Nat))).run g.P w = .ok l w by
    rw [this _ _ hl]; rfl
  intro fs
  induction fs with
  | nil => intro l h; simp at h; subst h; rfl
  | cons f r ih =>
    intro l h
    simp only [List.mapM_cons] at h ⊢
    replace h := bind_some h; obtain ⟨x, hx, h⟩ := h
    replace h := bind_some h; obtain ⟨y, hy, h⟩ := h
    cases h
    obtain ⟨n, hn, rfl⟩ := Option.map_eq_some_iff.1 hx
    unfold sizeOf? at hn
    simp only [Sem.run_bind, run_size hn, Result.andThen_ok, Sem.run_pure, ih y hy]

theorem build_ok (hs : SRel g base φ ω c s w) (hf : FRel φ c s.next lam ω fr rs a w) {o : Oper} {t : TypeId} {parts : Array (Nat × Operand)} (ho : o.op = .build t parts) {v : Value} (h : doBuild g fr t parts = some v) : OpOk g base c φ ω lam fr s a w o v fr.loc s := by
  unfold doBuild at h
  replace h := bind_some h; obtain ⟨vs, hvs, h⟩ := h
  replace h := bind_some h; obtain ⟨zero, hz, h⟩ := h
  replace h := bind_some h; obtain ⟨_, hp, h⟩ := h
  rw [chk_some] at hp
  obtain ⟨hl, hr⟩ := parts_rel hs hf hvs
  simp only at h
  split at h
  · rename_i fields hu
    replace h := bind_some h; obtain ⟨places, hpl, h⟩ := h
    replace h := bind_some h; obtain ⟨cells, hc, h⟩ := h
    cases h
    obtain ⟨r', hr', hrel⟩ := fill_rel (φ := φ) (c := c) (n := s.next) _ _ _ _ zero.cells _ (plain_arel hp) hl hr hc
    refine OpOk.sameV hs hf (v' := .agg r') ?_ (.agg _ _ hrel.1 hrel.2)
    simp only [execOp, ho, Instr.build, Sem.run_bind, run_zero hz, Result.andThen_ok, run_under hu, mapM_sizes hpl, hr', Sem.run_pure]
  · rename_i len elem hu
    replace h := bind_some h; obtain ⟨n, hn, h⟩ := h
    replace h := bind_some h; obtain ⟨cells, hc, h⟩ := h
    cases h
    unfold sizeOf? at hn
    obtain ⟨r', hr', hrel⟩ := fill_rel (φ := φ) (c := c) (n := s.next) _ _ _ _ zero.cells _ (plain_arel hp) hl hr hc
    refine OpOk.sameV hs hf (v' := .agg r') ?_ (.agg _ _ hrel.1 hrel.2)
    simp only [execOp, ho, Instr.build, Sem.run_bind, run_zero hz, Result.andThen_ok, run_under hu, run_size hn, hr', Sem.run_pure]
  · cases h

theorem extract_ok (hs : SRel g base φ ω c s w) (hf : FRel φ c s.next lam ω fr rs a w) {o : Oper} {x : Operand} {i : Nat} (ho : o.op = .extract x i) {v : Value} (h : doExtract g fr x i = some v) : OpOk g base c φ ω lam fr s a w o v fr.loc s := by
  unfold doExtract at h
  replace h := bind_some h; obtain ⟨t, ht, h⟩ := h
  have hrel := gev_rel hs hf ht
  split at h
  · rename_i vs
    cases hx : a.eval x <;> rw [hx] at hrel <;> cases hrel
    rename_i vs' ha hA
    obtain ⟨v', hv', hv⟩ := Arel.get ⟨ha, hA⟩ h
    exact OpOk.sameV hs hf (v' := v') (by simp [execOp, ho, hx, Instr.extract, hv']) hv
  · cases h

/-- A part of an aggregate. -/
theorem part_ok {φ : Nat → Pl} {c : Ctx} {n : Nat} {cs cs' : Array Value} (hr : Arel φ c n cs cs') {t : TypeId} {o : Nat} {v : Value} (h : readVar g t cs o = some v) (w : World) : ∃ v', (part t cs' o).run g.P w = .ok v' w ∧ Vrel φ c n v v' := by
  replace h := readVar_old _ h
  unfold readVar0 at h
  replace h := bind_some h; obtain ⟨ag, ha, h⟩ := h
  cases ag with
  | true =>
    simp only [if_true] at h
    replace h := bind_some h; obtain ⟨m, hm, h⟩ := h
    replace h := bind_some h; obtain ⟨_, hc, h⟩ := h
    rw [chk_some, decide_eq_true_eq] at hc
    cases h
    unfold sizeOf? at hm
    refine ⟨.agg (cs'.extract o (o + m)), by simp [part, aggT_run ha, run_size hm], ?_⟩
    refine .agg _ _ (by simp [hr.1]) (fun i x x' hx hx' => ?_)
    rw [Array.getElem?_extract] at hx hx'
    split at hx
    · split at hx'
      · exact hr.2 _ _ _ hx hx'
      · cases hx'
    · cases hx
  | false =>
    simp only [Bool.false_eq_true, if_false] at h
    obtain ⟨v', hv', hv⟩ := hr.get h
    exact ⟨v', by simp [part, aggT_run ha, hv'], hv⟩

theorem field_ok (hs : SRel g base φ ω c s w) (hf : FRel φ c s.next lam ω fr rs a w) {o : Oper} {t : TypeId} {x : Operand} {i : Nat} (ho : o.op = .field t x i) {v : Value} (h : doField g fr t x i = some v) : OpOk g base c φ ω lam fr s a w o v fr.loc s := by
  unfold doField at h
  replace h := bind_some h; obtain ⟨t, ht, h⟩ := h
  have hrel := gev_rel hs hf ht
  split at h
  · rename_i cs fields hu
    replace h := bind_some h; obtain ⟨fd, hfd, h⟩ := h
    cases hx : a.eval x <;> rw [hx] at hrel <;> cases hrel
    rename_i vs' ha hA
    obtain ⟨v', hv', hv⟩ := part_ok ⟨ha, hA⟩ h w
    exact OpOk.sameV hs hf (v' := v') (by simp [execOp, ho, hx, Instr.field, run_under hu, hfd, asAgg, hv']) hv
  · cases h

theorem index_ok (hs : SRel g base φ ω c s w) (hf : FRel φ c s.next lam ω fr rs a w) {o : Oper} {t : TypeId} {x ix : Operand} (ho : o.op = .index t x ix) {v : Value} (h : doIndex g fr t x ix = some v) : OpOk g base c φ ω lam fr s a w o v fr.loc s := by
  unfold doIndex at h
  replace h := bind_some h; obtain ⟨p, hp, h⟩ := h
  replace h := bind_some h; obtain ⟨iv, hi, h⟩ := h
  replace h := bind_some h; obtain ⟨i, hi', h⟩ := h
  obtain ⟨k, hk, _⟩ := int_of (gev_rel hs hf hi) hi'
  have hrel := gev_rel hs hf hp
  split at h
  · rename_i len elem cs hu
    replace h := bind_some h; obtain ⟨n, hn, h⟩ := h
    replace h := bind_some h; obtain ⟨_, hc, h⟩ := h
    rw [chk_some, Bool.and_eq_true, decide_eq_true_eq, decide_eq_true_eq] at hc
    unfold sizeOf? at hn
    cases hx : a.eval x <;> rw [hx] at hrel <;> cases hrel
    rename_i vs' ha hA
    obtain ⟨v', hv', hv⟩ := part_ok ⟨ha, hA⟩ h w
    exact OpOk.sameV hs hf (v' := v') (by simp only [execOp, ho, hx, hk, Instr.index, asIntOf, Sem.run_bind, Sem.run_pure, Result.andThen_ok, run_under hu, if_pos hc, run_size hn, hv']) hv
  · rename_i b hu
    replace h := bind_some h; obtain ⟨_, hc, h⟩ := h
    rw [chk_some, decide_eq_true_eq] at hc
    replace h := bind_some h; obtain ⟨y, hy, h⟩ := h
    cases h
    cases hx : a.eval x <;> rw [hx] at hrel <;> cases hrel
    refine OpOk.sameV hs hf (v' := .int .u8 y.toNat) ?_ (.int _ _)
    simp only [execOp, ho, hx, hk, Instr.index, asIntOf, Sem.run_bind, Sem.run_pure, Result.andThen_ok, run_under hu, if_pos hc, hy]
  · cases h

theorem makeFunc_ok (hs : SRel g base φ ω c s w) (hf : FRel φ c s.next lam ω fr rs a w) {o : Oper} {fn : Fn} {x y : Array Operand} (ho : o.op = .makeFunc fn x y) {v : Value} (h : doMakeFunc g fr fn x y = some v) : OpOk g base c φ ω lam fr s a w o v fr.loc s := by
  unfold doMakeFunc at h
  replace h := bind_some h; obtain ⟨p, hp, h⟩ := h
  replace h := bind_some h; obtain ⟨q, hq, h⟩ := h
  replace h := bind_some h; obtain ⟨_, hc, h⟩ := h
  rw [chk_some] at hc
  cases h
  have hp := evL_arel hs hf hp
  have hq := evL_arel hs hf hq
  cases fn with
  | func f => exact OpOk.sameV hs hf (v' := .func (.func f) (x.map a.eval) (y.map a.eval)) (by simp [execOp, ho, Instr.makeFunc]) (.func f _ _ _ _ hp.1 hq.1 hp.2 hq.2)
  | _ => simp [plainFn] at hc

theorem makeInterface_ok (hs : SRel g base φ ω c s w) (hf : FRel φ c s.next lam ω fr rs a w) {o : Oper} {t : TypeId} {x : Operand} (ho : o.op = .makeInterface t x) {v : Value} (h : doMakeInterface g fr t x = some v) : OpOk g base c φ ω lam fr s a w o v fr.loc s := by
  unfold doMakeInterface at h
  replace h := bind_some h; obtain ⟨p, hp, h⟩ := h
  split at h
  · cases h
  · rename_i d hd hu
    cases h
    refine OpOk.sameV hs hf (v' := .iface t (a.eval x)) ?_ (.iface _ _ _ (gev_rel hs hf hp))
    simp only [execOp, ho, Instr.makeInterface, Sem.run_bind, run_under hu, Result.andThen_ok]
    cases d <;> first | rfl | exact (hd _ hu).elim
  · cases h

theorem typeAssert_ok (hs : SRel g base φ ω c s w) (hf : FRel φ c s.next lam ω fr rs a w) {o : Oper} {x : Operand} {xt t : TypeId} {ok : Bool} (ho : o.op = .typeAssert x xt t ok) {v : Value} (h : doTypeAssert g fr x t ok = some v) : OpOk g base c φ ω lam fr s a w o v fr.loc s := by
  unfold doTypeAssert at h
  replace h := bind_some h; obtain ⟨p, hp, h⟩ := h
  have hrel := gev_rel hs hf hp
  split at h
  · cases h
  · rename_i t' w' d hd hu
    replace h := bind_some h; obtain ⟨_, hc, h⟩ := h
    rw [chk_some, beq_iff_eq] at hc
    subst hc
    cases hx : a.eval x <;> rw [hx] at hrel <;> cases hrel
    rename_i v1 hv1
    have run : (execOp a.eval o).run g.P w = .ok (.value (if ok then .tuple #[v1, .bool true] else v1)) w := by
      simp only [execOp, ho, hx, Instr.typeAssert, Sem.run_bind, run_under hu, Result.andThen_ok]
      cases d <;> first | exact (hd _ _ _ rfl hu).elim | simp
    cases h
    refine OpOk.sameV hs hf run ?_
    cases ok with
    | true =>
      simp only [if_true]
      refine .tuple _ _ rfl (fun i y y' hy hy' => ?_)
      match i with
      | 0 => simp at hy hy'; subst hy hy'; exact hv1
      | 1 => simp at hy hy'; subst hy hy'; exact .bool _
      | i + 2 => simp at hy
    | false => exact hv1
  · cases h

theorem nilCheck_ok (hs : SRel g base φ ω c s w) (hf : FRel φ c s.next lam ω fr rs a w) {o : Oper} {x : Operand} (ho : o.op = .nilCheck x) {v : Value} (h : doNilCheck g fr x = some v) : OpOk g base c φ ω lam fr s a w o v fr.loc s := by
  unfold doNilCheck at h
  replace h := bind_some h; obtain ⟨p, hp, h⟩ := h
  have hrel := ev_rel hs hf hp
  have hlive := ev_live hf hp
  split at h
  · rename_i ad
    cases h
    obtain ⟨b, off, spot⟩ := ad
    cases spot with
    | some sp =>
      have hrel' := hrel
      simp only [Trel] at hrel'
      exact OpOk.same hs hf (v' := a.eval x) (by simp [execOp, ho, hrel']) hrel hlive
    | none =>
      have hrel' : Vrel φ c s.next (.pointer (some ⟨b, off, none⟩)) (a.eval x) := (trel_global rfl).1 hrel
      refine OpOk.sameV hs hf (v' := a.eval x) ?_ hrel'
      cases hx : a.eval x <;> rw [hx] at hrel' <;> cases hrel'
      simp [execOp, ho, hx]
  · cases h
    have hrel' := (trel_global rfl).1 hrel
    refine OpOk.sameV hs hf (v' := a.eval x) ?_ hrel'
    cases hx : a.eval x <;> rw [hx] at hrel' <;> cases hrel'
    simp [execOp, ho, hx]
  · cases h
    have hrel' := (trel_global rfl).1 hrel
    refine OpOk.sameV hs hf (v' := a.eval x) ?_ hrel'
    cases hx : a.eval x <;> rw [hx] at hrel' <;> cases hrel' <;> simp [execOp, ho, hx]
  · cases h
    have hrel' := (trel_global rfl).1 hrel
    refine OpOk.sameV hs hf (v' := a.eval x) ?_ hrel'
    cases hx : a.eval x <;> rw [hx] at hrel' <;> cases hrel' <;> simp [execOp, ho, hx]
  · cases h
    have hrel' := (trel_global rfl).1 hrel
    refine OpOk.sameV hs hf (v' := a.eval x) ?_ hrel'
    generalize hx : a.eval x = u at hrel'
    cases hrel' with
    | vptr => simp [execOp, ho, hx]
    | psame _ _ _ _ _ hz => exact (hs.nosame hz).elim
  · cases h

theorem equalIn_nil (k : Nat) {d : TypeDesc} {p q p' q' : Value} {r : Bool} (hp : Vrel φ c s.next p p') (hq : Vrel φ c s.next q q') (h : nilEqB d p q = some r) {t : TypeId} (hu : g.P.underlying t = some d) :
    (Op.equalIn (k + 1) t p' q').run g.P w = .ok r w := by
  unfold nilEqB at h
  split at h <;> cases h <;> cases hp <;> cases hq <;> simp only [Op.equalIn, Sem.run_bind, run_under hu, Result.andThen_ok] <;> rfl

theorem nilEq_forms {d : TypeDesc} {p q p' q' : Value} {r : Bool} (hp : Vrel φ c s.next p p') (hq : Vrel φ c s.next q q') (h : nilEqB d p q = some r) (t : TypeId) (x y : Operand) (op : BinOp) (ho : op = .eql ∨ op = .neq) :
    eqGuard op t x y p' q' = pure () ∧ Go.binOp .eql t p' q' = (do pure (.bool (← Op.equal t p' q'))) ∧ Go.binOp .neq t p' q' = (do pure (.bool (!(← Op.equal t p' q')))) := by
  unfold nilEqB at h
  split at h <;> cases h <;> cases hp <;> cases hq <;> (refine ⟨?_, rfl, rfl⟩; rcases ho with rfl | rfl <;> rfl)

theorem nilEq_run {d : TypeDesc} {p q p' q' : Value} {r : Bool} (hp : Vrel φ c s.next p p') (hq : Vrel φ c s.next q q') (h : nilEqB d p q = some r) {t : TypeId} (hu : g.P.underlying t = some d) (x y : Operand) :
    (do eqGuard .eql t x y p' q'; Go.binOp .eql t p' q' : Sem Value).run g.P w = .ok (.bool r) w ∧ (do eqGuard .neq t x y p' q'; Go.binOp .neq t p' q' : Sem Value).run g.P w = .ok (.bool (!r)) w := by
  have e : (Op.equal t p' q').run g.P w = .ok r w := equalIn_nil 9999 hp hq h hu
  obtain ⟨e1, e2, _⟩ := nilEq_forms hp hq h t x y .eql (.inl rfl)
  obtain ⟨e3, _, e4⟩ := nilEq_forms hp hq h t x y .neq (.inr rfl)
  rw [e1, e2, e3, e4]
  constructor <;> simp [e]

theorem nilEq_ok (hs : SRel g base φ ω c s w) (hf : FRel φ c s.next lam ω fr rs a w) {o : Oper} {op : BinOp} {t yt : TypeId} {x y : Operand} (ho : o.op = .binOp op t x y yt) {v : Value} (h : doNilEq g fr op t x y = some v) : OpOk g base c φ ω lam fr s a w o v fr.loc s := by
  unfold doNilEq at h
  replace h := bind_some h; obtain ⟨p, hp, h⟩ := h
  replace h := bind_some h; obtain ⟨q, hq, h⟩ := h
  replace h := bind_some h; obtain ⟨d, hu, h⟩ := h
  replace h := bind_some h; obtain ⟨r, hr, h⟩ := h
  have hp := gev_rel hs hf hp
  have hq := gev_rel hs hf hq
  have run := nilEq_run (w := w) hp hq hr hu x y
  split at h
  · cases h
    refine OpOk.sameV hs hf (v' := .bool r) ?_ (.bool _)
    simp only [execOp, ho, Sem.run_bind, Sem.run_pure] at run ⊢
    rw [run.1]; rfl
  · cases h
    refine OpOk.sameV hs hf (v' := .bool (!r)) ?_ (.bool _)
    simp only [execOp, ho, Sem.run_bind, Sem.run_pure] at run ⊢
    rw [run.2]; rfl
  · cases h

end
end Go.Am

/- Operations that make memory, and that write it. -/
namespace Go.Am
variable {Z : Zone}
section
variable {g : Cfg} {base : Base} {c : Ctx} {φ : Nat → Pl} {ω : Nat → Option Tag} {lam : Nat → Nat} {fr : Fr} {s : St} {rs : List Nat} {a : Act} {w w' : World}

def upd {α : Type} (f : Nat → α) (k : Nat) (v : α) : Nat → α := fun i => if i = k then v else f i
theorem upd_self {α : Type} (f : Nat → α) (k : Nat) (v : α) : upd f k v k = v := if_pos rfl
theorem upd_ne {α : Type} (f : Nat → α) {k i : Nat} (v : α) (h : i ≠ k) : upd f k v i = f i := if_neg h

theorem push_old {heap : Array Obj} {o : Obj} {b : Nat} (h : b < heap.size) : (heap.push o)[b]? = heap[b]? := by
  rw [Array.getElem?_push]; rw [if_neg (by omega)]
theorem push_new {heap : Array Obj} {o : Obj} : (heap.push o)[heap.size]? = some o := by simp

/-- A new object of the heap. -/
theorem new_post (hs : SRel g base φ ω c s w) (hf : FRel φ c s.next lam ω fr rs a w) (o' : AObj) (ob : Obj) (ex : Nat) (hw : w'.heap = w.heap.push ob) (h1 : w'.os = w.os) (h2 : w'.tape = w.tape) (h3 : w'.output = w.output)
    (ho : ORel (upd φ s.next ⟨w.heap.size, 0, ex⟩) c (s.next + 1) base s.next (upd ω w.heap.size (some (.obj s.next))) w' o') :
    Post g base c φ (upd φ s.next ⟨w.heap.size, 0, ex⟩) ω (upd ω w.heap.size (some (.obj s.next))) lam lam fr.loc fr.loc s (s.new o') w w' := by
  have hold : ∀ b, b < w.heap.size → w'.heap[b]? = w.heap[b]? ∧ (upd ω w.heap.size (some (.obj s.next))) b = ω b := fun b hb => ⟨by rw [hw]; exact push_old hb, upd_ne _ _ (by omega)⟩
  have hsize : w.heap.size ≤ w'.heap.size := by rw [hw]; simp
  have hφ : ∀ i, i < s.next → (upd φ s.next ⟨w.heap.size, 0, ex⟩) i = φ i := fun i hi => upd_ne _ _ (by omega)
  refine ⟨hφ, by simp [St.new], ?_, ?_, fun d cs h => .inl ⟨rfl, cs, h⟩, fun d cs h => ⟨rfl, cs, h⟩, ⟨h1, h2, h3, hsize, fun b hb _ _ => hold b hb⟩⟩
  · refine SRel.putObj hs hsize hs.bn (Nat.lt_succ_self _) (Nat.le_succ _) hφ (fun b hb _ => hold b hb) (fun _ => ho) (fun _ _ => ?_) (fun b t ht => ?_)
    · rw [upd_self]; exact upd_self _ _ _
    · by_cases e : b = w.heap.size
      · subst e; rw [upd_self] at ht; cases ht
        exact ⟨hs.bw, by rw [hw]; simp, fun i hi => by cases hi; omega⟩
      · rw [upd_ne _ _ e] at ht
        obtain ⟨x, y, z⟩ := hs.tags b t ht
        exact ⟨x, Nat.lt_of_lt_of_le y hsize, fun i hi => Nat.lt_succ_of_lt (z i hi)⟩
  · intro d cs h
    obtain ⟨ht, cs', el, hb, ha⟩ := hf.own d cs h
    have hlt := (hs.tags _ _ ht).2.1
    exact ⟨by rw [(hold _ hlt).2]; exact ht, cs', el, by rw [(hold _ hlt).1]; exact hb, ha.mono hφ (by simp [St.new])⟩

/-- A new variable of the function's own. -/
theorem newLoc_post (hs : SRel g base φ ω c s w) (hf : FRel φ c s.next lam ω fr rs a w) (d : Nat) (cells cells' : Array Value) (el : TypeId) (hd : fr.loc.get d = none) (hr : Arel φ c s.next cells cells')
    (hw : w'.heap = w.heap.push (.cells cells' el (0, 0))) (h1 : w'.os = w.os) (h2 : w'.tape = w.tape) (h3 : w'.output = w.output) :
    Post g base c φ φ ω (upd ω w.heap.size (some (.loc d))) lam (upd lam d w.heap.size) fr.loc (fr.loc.put d cells) s s w w' := by
  have hold : ∀ b, b < w.heap.size → w'.heap[b]? = w.heap[b]? ∧ (upd ω w.heap.size (some (.loc d))) b = ω b := fun b hb => ⟨by rw [hw]; exact push_old hb, upd_ne _ _ (by omega)⟩
  have hsize : w.heap.size ≤ w'.heap.size := by rw [hw]; simp
  refine ⟨fun _ _ => rfl, Nat.le_refl _, ?_, ?_, ?_, ?_, ⟨h1, h2, h3, hsize, fun b hb _ _ => hold b hb⟩⟩
  · refine SRel.move hs hsize (fun b hb _ => hold b hb) (fun b t ht => ?_)
    by_cases e : b = w.heap.size
    · subst e; rw [upd_self] at ht; cases ht
      exact ⟨hs.bw, by rw [hw]; simp, fun i hi => by cases hi⟩
    · rw [upd_ne _ _ e] at ht
      obtain ⟨x, y, z⟩ := hs.tags b t ht
      exact ⟨x, Nat.lt_of_lt_of_le y hsize, z⟩
  · intro d' cs h
    rw [Tr.get_put] at h
    split at h
    · rename_i e; subst e; cases h
      refine ⟨by rw [upd_self]; exact upd_self _ _ _, cells', el, by rw [upd_self, hw]; exact push_new, hr⟩
    · rename_i e
      obtain ⟨ht, cs', el', hb, ha⟩ := hf.own d' cs h
      have hlt := (hs.tags _ _ ht).2.1
      exact ⟨by rw [upd_ne _ _ e, (hold _ hlt).2]; exact ht, cs', el', by rw [upd_ne _ _ e, (hold _ hlt).1]; exact hb, ha⟩
  · intro d' cs h
    rw [Tr.get_put] at h
    split at h
    · rename_i e; subst e; exact .inr (by rw [upd_self]; exact Nat.le_refl _)
    · rename_i e; exact .inl ⟨upd_ne _ _ e, cs, h⟩
  · intro d' cs h
    have e : d' ≠ d := by rintro rfl; rw [hd] at h; cases h
    exact ⟨upd_ne _ _ e, cs, by rw [Tr.get_put, if_neg e]; exact h⟩

theorem rowHas_of {φ : Nat → Pl} {c : Ctx} {n : Nat} {cs cs' : Array Value} (h : Arel φ c n cs cs') : RowHas φ c n cs' 0 cs := fun i x hx => by rw [Nat.zero_add]; exact h.get hx

theorem newCells_orel {cs cs' : Array Value} {sz : Nat} {el : TypeId} {hw : w'.heap = w.heap.push (.cells cs' el (0, 0))} (h : Arel φ c s.next cs cs') :
    ORel (upd φ s.next ⟨w.heap.size, 0, 0⟩) c (s.next + 1) base s.next (upd ω w.heap.size (some (.obj s.next))) w' (.cells cs sz false) := by
  refine ⟨fun _ => by rw [upd_self], fun _ => ⟨cs', el, (0, 0), by rw [upd_self, hw]; exact push_new, fun _ => rfl, ?_, ?_⟩⟩
  · rw [upd_self]; simp [h.1]
  · rw [upd_self]
    exact rowHas_of (h.mono (fun i hi => upd_ne _ _ (by omega)) (Nat.le_succ _))

theorem doNew_ok (hs : SRel g base φ ω c s w) (hf : FRel φ c s.next lam ω fr rs a w) {o : Oper} {cells cells' : Array Value} {r : Value × Tr (Array Value) × St} {el : TypeId} (h : doNew g fr s o.dst cells = some r) (hr : Arel φ c s.next cells cells')
    (run : (execOp a.eval o).run g.P w = .ok (.value (.pointer (some ⟨w.heap.size, 0, none⟩))) { w with heap := w.heap.push (.cells cells' el) }) : OpOk g base c φ ω lam fr s a w o r.1 r.2.1 r.2.2 := by
  unfold doNew at h
  split at h
  · rename_i d hdst
    split at h
    · split at h
      · rename_i hd
        cases h
        refine ⟨.pointer (some ⟨w.heap.size, 0, none⟩), φ, _, _, _, _, run, .inl rfl, ?_, ?_, newLoc_post hs hf d cells cells' el hd hr rfl rfl rfl rfl⟩
        · simp only [Trel]; rw [upd_self]
        · simp only [Live]; exact ⟨cells, by rw [Tr.get_put, if_pos rfl]⟩
      · cases h
    · cases h
      refine ⟨.pointer (some ⟨w.heap.size, 0, none⟩), _, _, lam, _, _, run, .inl rfl, ?_, live_glob rfl, new_post hs hf _ _ 0 rfl rfl rfl rfl (newCells_orel (hw := rfl) hr)⟩
      have := Vrel.pointer (c := c) (φ := upd φ s.next ⟨w.heap.size, 0, 0⟩) (n := s.next + 1) s.next 0 ⟨Nat.lt_succ_self _, hs.vnew _ (Nat.le_refl _)⟩
      rw [upd_self] at this
      exact this.trel
  · cases h

theorem alloc_ok (hs : SRel g base φ ω c s w) (hf : FRel φ c s.next lam ω fr rs a w) {o : Oper} {t : TypeId} (ho : o.op = .alloc t) {zero : Value} (hz : (g.P.info? t).bind (·.zero) = some zero) (hp : plainN 8 zero = true)
    {r : Value × Tr (Array Value) × St} (h : doNew g fr s o.dst zero.cells = some r) : OpOk g base c φ ω lam fr s a w o r.1 r.2.1 r.2.2 := by
  refine doNew_ok hs hf (el := t) h (plain_arel hp) ?_
  simp only [execOp, ho, Instr.alloc, Sem.run_bind, run_zero hz, Result.andThen_ok]
  rfl

theorem box_ok (hs : SRel g base φ ω c s w) (hf : FRel φ c s.next lam ω fr rs a w) {o : Oper} {t : TypeId} {x : Operand} (ho : o.op = .box t x) {v : Value} (hv : fr.gev g x = some v)
    {r : Value × Tr (Array Value) × St} (h : doNew g fr s o.dst v.cells = some r) : OpOk g base c φ ω lam fr s a w o r.1 r.2.1 r.2.2 := by
  refine doNew_ok hs hf (el := t) h (cells_rel (gev_rel hs hf hv)) ?_
  simp only [execOp, ho]
  rfl

/-- Writing into an object of one's own. -/
theorem write_post (hs : SRel g base φ ω c s w) (hf : FRel φ c s.next lam ω fr rs a w) {id o : Nat} {vs vs' : List Value} {s' : St} (h : s.write c id o vs = some s') (hr : Arel φ c s.next vs.toArray vs'.toArray) (hne : vs ≠ []) :
    ∃ cur el, w.heap[(φ id).blk]? = some (.cells cur el (0, 0)) ∧ (φ id).off + o + vs'.length ≤ cur.size ∧ vs'.all Value.oneCell' = true ∧
      Post g base c φ φ ω ω lam lam fr.loc fr.loc s s' w (w.setRow (φ id).blk (blit cur ((φ id).off + o) vs')) := by
  obtain ⟨cs, sz, sp, hv, hg, hfl, hlen, hone, rfl⟩ := write_some h
  have hbi : base.id ≤ id := hs.bf id hfl
  have hlen' : vs'.length = vs.length := by simpa using hr.1.symm
  have hpos : 0 < vs.length := by cases vs with | nil => exact (hne rfl).elim | cons => simp
  have hso : cs.size ≠ 0 ∨ sp = true := .inl (by omega)
  obtain ⟨hex, hrow⟩ := hs.obj id _ hg hv
  obtain ⟨cur, el, fz, hb, hz, hsz, hhas⟩ := hrow hso
  have hz := hz hbi; subst hz
  have htag := hs.tag id _ hg hv hbi hso
  refine ⟨cur, el, hb, by omega, ?_, ?_⟩
  · have := all_one hr (by simpa using hone)
    simpa using this
  have hsame : ∀ b, b ≠ (φ id).blk → (w.setRow (φ id).blk (blit cur ((φ id).off + o) vs')).heap[b]? = w.heap[b]? := fun b hb => setRow_other _ _ _ _ hb
  refine ⟨fun _ _ => rfl, Nat.le_refl _, ?_, ?_, fun d cs h => .inl ⟨rfl, cs, h⟩, fun d cs h => ⟨rfl, cs, h⟩, ⟨rfl, rfl, rfl, Nat.le_of_eq (setRow_size _ _ _).symm, fun b _ hown _ => ⟨hsame b ?_, rfl⟩⟩⟩
  · have hid := hs.dom id _ hg
    refine SRel.putObj hs (Nat.le_of_eq (setRow_size _ _ _).symm) hbi hid (Nat.le_refl _) (fun _ _ => rfl) (fun b hb hl => ⟨hsame b ?_, rfl⟩) (fun _ => ⟨hex, fun _ => ⟨blit cur ((φ id).off + o) vs', el, (0, 0), ?_, fun _ => rfl, ?_, ?_⟩⟩) (fun _ _ => htag) (fun b t ht => ?_)
    · rintro rfl
      rcases hl with hl | hl | ⟨i, o', h1, h2, h3, h4, h5, h6⟩
      · rw [htag] at hl; cases hl
      · have := (hs.tags _ _ htag).1; omega
      · rw [htag] at h5; cases h5; exact h6 rfl
    · exact setRow_heap w (φ id).blk cur _ el (0, 0) hb
    · rw [blit_size, blit_size]; exact hsz
    · intro i x hx
      rw [blit_get _ _ _ _ hlen] at hx
      rw [blit_get _ _ _ _ (by omega)]
      by_cases hin : o ≤ i ∧ i < o + vs.length
      · rw [if_pos hin] at hx
        rw [if_pos (by omega)]
        obtain ⟨x', hx', hxr⟩ := hr.get (i := i - o) (x := x) (by simpa using hx)
        refine ⟨x', ?_, hxr⟩
        rw [show (φ id).off + i - ((φ id).off + o) = i - o by omega]
        simpa using hx'
      · rw [if_neg hin] at hx
        rw [if_neg (by omega)]
        exact hhas i x hx
    · obtain ⟨x, y, z⟩ := hs.tags b t ht
      exact ⟨x, by rw [setRow_size]; exact y, z⟩
  · intro d cs h
    obtain ⟨ht, cs', el', hb', ha⟩ := hf.own d cs h
    have : lam d ≠ (φ id).blk := fun e => by rw [e, htag] at ht; cases ht
    exact ⟨ht, cs', el', by rw [hsame _ this]; exact hb', ha⟩
  · rintro rfl
    exact hown ⟨id, _, htag, hfl, hv, hg⟩

theorem store_ok (hs : SRel g base φ ω c s w) (hf : FRel φ c s.next lam ω fr rs a w) {o : Oper} {t : TypeId} {x y : Operand} (ho : o.op = .store t x y) {r : Tr (Array Value) × St} (h : doStore g c fr s t x y = some r) :
    OpOk g base c φ ω lam fr s a w o undef r.1 r.2 := by
  unfold doStore at h
  replace h := bind_some h; obtain ⟨p, hp, h⟩ := h
  replace h := bind_some h; obtain ⟨v, hv, h⟩ := h
  replace h := bind_some h; obtain ⟨n, hn, h⟩ := h
  replace h := bind_some h; obtain ⟨_, hc, h⟩ := h
  rw [chk_some, beq_iff_eq] at hc
  have hrel := ev_rel hs hf hp
  have hlive := ev_live hf hp
  have hv := cells_rel (gev_rel hs hf hv)
  unfold sizeOf? at hn
  have undefR : ∀ (φ : Nat → Pl) (n : Nat) (lam : Nat → Nat), Trel φ c n lam undef undef := fun φ n lam => (plain_rel φ c n 1 undef (by simp [plainN, undef])).trel
  have hsz : (a.eval y).cells.size = n := by rw [← hv.1]; exact hc
  split at h
  · rename_i d off sp
    replace h := bind_some h; obtain ⟨cs, hcs, h⟩ := h
    replace h := bind_some h; obtain ⟨_, hc2, h⟩ := h
    rw [chk_some, Bool.and_eq_true, decide_eq_true_eq] at hc2
    cases h
    simp only [Trel] at hrel
    obtain ⟨ht, cs', el, hb, ha⟩ := hf.own d cs hcs
    have hlt := (hs.tags _ _ ht).2.1
    have hone := all_one hv hc2.2
    have run : (execOp a.eval o).run g.P w = .ok .skip (w.setRow (lam d) (blit cs' off (a.eval y).cells.toList)) := by
      have h1 : (storeCells ⟨lam d, off, none⟩ (a.eval y).cells.toList).run g.P w = .ok () (w.setRow (lam d) (blit cs' off (a.eval y).cells.toList)) :=
        run_storeCells_blit (lam d) el _ off 0 cs' w hb (by simp; rw [hsz, ← ha.1]; exact hc2.1) hone
      simp only [execOp, ho, hrel, Instr.storeAt, Instr.sureAddr, storeVar, Sem.run_bind, Sem.run_pure, Result.andThen_ok, run_size hn, hsz, ne_eq, not_true_eq_false, if_false, h1]
    have hsame : ∀ b, b ≠ lam d → (w.setRow (lam d) (blit cs' off (a.eval y).cells.toList)).heap[b]? = w.heap[b]? := fun b hb => setRow_other _ _ _ _ hb
    refine ⟨undef, φ, ω, lam, _, _, run, .inr ⟨rfl, rfl⟩, undefR _ _ _, live_glob rfl, ⟨fun _ _ => rfl, Nat.le_refl _, ?_, ?_, ?_, ?_, ⟨rfl, rfl, rfl, Nat.le_of_eq (setRow_size _ _ _).symm, fun b _ _ hX => ⟨hsame b ?_, rfl⟩⟩⟩⟩
    · refine SRel.move hs (Nat.le_of_eq (setRow_size _ _ _).symm) (fun b hb hl => ⟨hsame b ?_, rfl⟩) (fun b t h => by obtain ⟨x, y, z⟩ := hs.tags b t h; exact ⟨x, by rw [setRow_size]; exact y, z⟩)
      rintro rfl
      rcases hl with hl | hl | ⟨i, o', h1, h2, h3, h4, h5, h6⟩
      · rw [ht] at hl; cases hl
      · have := (hs.tags _ _ ht).1; omega
      · rw [ht] at h5; cases h5
    · intro d' cs2 h
      rw [Tr.get_put] at h
      split at h
      · rename_i e; subst e; cases h
        refine ⟨ht, _, el, setRow_heap w (lam d') cs' _ el (0, 0) hb, ⟨by rw [blit_size, blit_size]; exact ha.1, fun i z z' hz hz' => ?_⟩⟩
        rw [blit_get _ _ _ _ (by simp; omega)] at hz
        rw [blit_get _ _ _ _ (by simp; rw [hsz, ← ha.1]; exact hc2.1)] at hz'
        have hl2 : v.cells.toList.length = (a.eval y).cells.toList.length := by simpa using hv.1
        rw [hl2] at hz
        split at hz
        · rename_i hin; rw [if_pos hin] at hz'
          exact hv.2 (i - off) z z' (by simpa using hz) (by simpa using hz')
        · rename_i hin; rw [if_neg hin] at hz'
          exact ha.2 i z z' hz hz'
      · rename_i e
        obtain ⟨ht', cs3, el', hb', ha'⟩ := hf.own d' cs2 h
        have : lam d' ≠ lam d := fun e' => by rw [e', ht] at ht'; cases ht'; exact e rfl
        exact ⟨ht', cs3, el', by rw [hsame _ this]; exact hb', ha'⟩
    · intro d' cs2 h
      rw [Tr.get_put] at h
      split at h
      · rename_i e; subst e; exact .inl ⟨rfl, cs, hcs⟩
      · exact .inl ⟨rfl, cs2, h⟩
    · intro d' cs2 h
      refine ⟨rfl, ?_⟩
      simp only [Tr.get_put]
      split
      · exact ⟨_, rfl⟩
      · exact ⟨_, h⟩
    · rintro rfl; exact hX ⟨d, cs, hcs, rfl⟩
  · rename_i id off
    replace h := bind_some h; obtain ⟨s', hw, h⟩ := h
    cases h
    have hrel : Vrel φ c s.next (.pointer (some ⟨id, off, none⟩)) (a.eval x) := (trel_global rfl).1 hrel
    have hx : a.eval x = .pointer (some ⟨(φ id).blk, (φ id).off + off, none⟩) := by
      generalize a.eval x = z at hrel; cases hrel; rfl
    by_cases hne : v.cells.toList = []
    · -- nothing is written
      have hn0 : n = 0 := by rw [← hc]; simpa using hne
      have he : (a.eval y).cells.toList = [] := by have := hsz; rw [hn0] at this; simpa using this
      have run : (execOp a.eval o).run g.P w = .ok .skip w := by
        simp [execOp, ho, hx, Instr.storeAt, Instr.sureAddr, storeVar, run_size hn, hsz, he, storeCells]
      obtain ⟨cs, sz, sp, hv', hg, hfl, hlen, hone, rfl⟩ := write_some hw
      have heq : blit cs off v.cells.toList = cs := by rw [hne]; rfl
      rw [heq]
      have hbi : base.id ≤ id := hs.bf id hfl
      refine ⟨undef, φ, ω, lam, w, _, run, .inr ⟨rfl, rfl⟩, undefR _ _ _, live_glob rfl, ⟨fun _ _ => rfl, Nat.le_refl _, ?_, hf.own, fun d cs h => .inl ⟨rfl, cs, h⟩, fun d cs h => ⟨rfl, cs, h⟩, Keep.refl _ _ _ _ _⟩⟩
      exact SRel.putObj hs (Nat.le_refl _) hbi (hs.dom _ _ hg) (Nat.le_refl _) (fun _ _ => rfl) (fun _ _ _ => ⟨rfl, rfl⟩) (fun _ => hs.obj id _ hg hv') (fun _ hso => hs.tag id _ hg hv' hbi hso) hs.tags
    · obtain ⟨cur, el, hb, hsz2, hone, hpost⟩ := write_post hs hf hw (vs' := (a.eval y).cells.toList) (by simpa using hv) hne
      refine ⟨undef, φ, ω, lam, _, .skip, ?_, .inr ⟨rfl, rfl⟩, undefR _ _ _, live_glob rfl, hpost⟩
      have h1 : (storeCells ⟨(φ id).blk, (φ id).off + off, none⟩ (a.eval y).cells.toList).run g.P w = .ok () (w.setRow (φ id).blk (blit cur ((φ id).off + off) (a.eval y).cells.toList)) :=
        run_storeCells_blit _ el _ _ 0 cur w hb hsz2 hone
      simp only [execOp, ho, hx, Instr.storeAt, Instr.sureAddr, storeVar, Sem.run_bind, Sem.run_pure, Result.andThen_ok, run_size hn, hsz, ne_eq, not_true_eq_false, if_false, h1]
  · cases h

theorem makeMap_ok (hs : SRel g base φ ω c s w) (hf : FRel φ c s.next lam ω fr rs a w) {o : Oper} {t : TypeId} (ho : o.op = .makeMap t none) : OpOk g base c φ ω lam fr s a w o (.map (some s.next)) fr.loc (s.new (.map [])) := by
  refine ⟨.map (some w.heap.size), _, _, lam, _, .value (.map (some w.heap.size)), ?_, .inl rfl, ?_, live_glob rfl, new_post (w' := { w with heap := w.heap.push (.map #[] 0) }) hs hf _ (.map #[] 0) 0 rfl rfl rfl rfl ?_⟩
  · simp only [execOp, ho]; rfl
  · have := Vrel.map (c := c) (φ := upd φ s.next ⟨w.heap.size, 0, 0⟩) (n := s.next + 1) s.next ⟨Nat.lt_succ_self _, hs.vnew _ (Nat.le_refl _)⟩
    rw [upd_self] at this
    exact this.trel
  · exact ⟨#[], 0, by rw [upd_self]; exact push_new, rfl, fun i e h => by simp at h⟩

theorem slice_rel {ex : Nat} (hs : SRel g base φ ω c s w) (l cp : Nat) : Vrel (upd φ s.next ⟨w.heap.size, 0, ex⟩) c (s.next + 1) (.slice (some ⟨s.next, 0, none⟩) l cp) (.slice (some ⟨w.heap.size, 0, none⟩) l (cp + ex)) := by
  have := Vrel.slice (c := c) (φ := upd φ s.next ⟨w.heap.size, 0, ex⟩) (n := s.next + 1) s.next 0 l cp ⟨Nat.lt_succ_self _, hs.vnew _ (Nat.le_refl _)⟩
  rw [upd_self] at this
  exact this

theorem zeros_rel {φ : Nat → Pl} {c : Ctx} {n m : Nat} {zero : Value} (hp : plainN 8 zero = true) (h0 : zero.cells.size ≠ 0) : Arel φ c n ((Array.range m).map (zero.cells[· % zero.cells.size]!)) ((Array.range m).map (zero.cells[· % zero.cells.size]!)) := by
  refine ⟨rfl, fun i x x' hx hx' => ?_⟩
  rw [hx] at hx'; cases hx'
  rw [Array.getElem?_map] at hx
  obtain ⟨k, hk, rfl⟩ := Option.map_eq_some_iff.1 hx
  have hlt : k % zero.cells.size < zero.cells.size := Nat.mod_lt _ (by omega)
  have := plain_arel (Z := Z) (φ := φ) (c := c) (n := n) hp
  refine this.2 (k % zero.cells.size) _ _ ?_ ?_ <;> simp [hlt]

theorem makeSlice_ok (hs : SRel g base φ ω c s w) (hf : FRel φ c s.next lam ω fr rs a w) {o : Oper} {t : TypeId} {x y : Operand} (ho : o.op = .makeSlice t x y) {r : Value × St} (h : doMakeSlice g fr s t x y = some r) :
    OpOk g base c φ ω lam fr s a w o r.1 fr.loc r.2 := by
  unfold doMakeSlice at h
  replace h := bind_some h; obtain ⟨lv, hl, h⟩ := h
  replace h := bind_some h; obtain ⟨l, hl', h⟩ := h
  replace h := bind_some h; obtain ⟨cv, hc, h⟩ := h
  replace h := bind_some h; obtain ⟨m, hc', h⟩ := h
  obtain ⟨kl, hkl, _⟩ := int_of (gev_rel hs hf hl) hl'
  obtain ⟨kc, hkc, _⟩ := int_of (gev_rel hs hf hc) hc'
  split at h
  · rename_i elem hu
    replace h := bind_some h; obtain ⟨i, hi, h⟩ := h
    replace h := bind_some h; obtain ⟨zero, hz, h⟩ := h
    replace h := bind_some h; obtain ⟨_, hc, h⟩ := h
    rw [chk_some] at hc
    simp only [Bool.and_eq_true, decide_eq_true_eq] at hc
    obtain ⟨⟨⟨⟨⟨⟨hl0, hlm⟩, hm⟩, hby⟩, hp⟩, hzs⟩, hs0⟩ := hc
    cases h
    have hwl : IntKind.i64.wrap l = l := by simp [IntKind.wrap, IntKind.bits, IntKind.signed]; omega
    have hwm : IntKind.i64.wrap m = m := by simp [IntKind.wrap, IntKind.bits, IntKind.signed]; omega
    have hbm : (i.bytes : Int) * m ≤ 4096 * 16777216 := by
      have h1 : (i.bytes : Int) ≤ 4096 := by omega
      have h2 : 0 ≤ m := by omega
      calc (i.bytes : Int) * m ≤ 4096 * m := Int.mul_le_mul_of_nonneg_right h1 h2
        _ ≤ 4096 * 16777216 := by omega
    have run : (execOp a.eval o).run g.P w = .ok (.value (.slice (some ⟨w.heap.size, 0, none⟩) l.toNat m.toNat)) { w with heap := w.heap.push (.cells ((Array.range (m.toNat * i.size)).map (zero.cells[· % zero.cells.size]!)) elem) } := by
      have hti := run_info hi
      have hsz : (g.P.info? elem).map (·.size) = some i.size := by rw [hi]; rfl
      have hzz : (g.P.info? elem).bind (·.zero) = some zero := by rw [hi]; exact hz
      have e1 : (decide (m < 0) || decide ((i.bytes : Int) * m > 2 ^ 48)) = false := by
        simp; omega
      have e2 : (decide (l < 0)) = false := by simp; omega
      have e3 : (decide (l > m)) = false := by simp; omega
      have e4 : m.toNat * i.bytes > roomBytes ↔ False := by
        simp [roomBytes]
        have : m.toNat * i.bytes ≤ 16777216 * 4096 := Nat.mul_le_mul (by omega) hby
        omega
      simp only [execOp, ho, hkl, hkc, Instr.makeSlice, asInt, asIntOf, Sem.run_bind, Sem.run_pure, run_under hu, Result.andThen_ok, hti, hwl, hwm, e1, Bool.false_or, Bool.false_eq_true, decide_eq_true_eq,
        show ¬ l < 0 by omega, show ¬ l > m by omega, or_self, if_false, askRoom, e4, run_size hsz, decide_false, Bool.or_self]
      by_cases hm0 : m.toNat * i.size = 0
      · have hr0 : ∀ (f : Nat → Value), (Array.range 0).map f = #[] := by simp
        simp only [if_pos hm0, hm0, Sem.run_bind, Sem.run_pure, Result.andThen_ok, hr0]
        rfl
      · rw [if_neg hm0]
        simp only [Sem.run_bind, run_zero hzz, Result.andThen_ok, Sem.run_pure]
        rfl
    refine ⟨_, _, _, lam, _, _, run, .inl rfl, ?_, live_glob rfl, new_post hs hf _ _ 0 rfl rfl rfl rfl (newCells_orel (hw := rfl) (zeros_rel hp (by omega)))⟩
    exact (slice_rel hs l.toNat m.toNat).trel
  · cases h

theorem buildSlice_ok (hs : SRel g base φ ω c s w) (hf : FRel φ c s.next lam ω fr rs a w) {o : Oper} {t : TypeId} {len : Nat} {parts : Array (Nat × Operand)} (ho : o.op = .buildSlice t len parts) {r : Value × St} (h : doBuildSlice g fr s t len parts = some r) :
    OpOk g base c φ ω lam fr s a w o r.1 fr.loc r.2 := by
  unfold doBuildSlice at h
  replace h := bind_some h; obtain ⟨vs, hvs, h⟩ := h
  obtain ⟨hl, hr⟩ := parts_rel hs hf hvs
  split at h
  · rename_i elem hu
    replace h := bind_some h; obtain ⟨i, hi, h⟩ := h
    replace h := bind_some h; obtain ⟨zero, hz, h⟩ := h
    replace h := bind_some h; obtain ⟨_, hc, h⟩ := h
    rw [chk_some] at hc
    simp only [Bool.and_eq_true, decide_eq_true_eq] at hc
    obtain ⟨⟨⟨hm, hp⟩, hzs⟩, hs0⟩ := hc
    replace h := bind_some h; obtain ⟨cells, hcl, h⟩ := h
    cases h
    obtain ⟨cells', hcl', hrel⟩ := fill_rel (φ := φ) (c := c) (n := s.next) _ _ _ _ _ _ (zeros_rel (m := len * i.size) hp (by omega)) hl hr hcl
    have hsz : (g.P.info? elem).map (·.size) = some i.size := by rw [hi]; rfl
    have hzz : (g.P.info? elem).bind (·.zero) = some zero := by rw [hi]; exact hz
    have run : (execOp a.eval o).run g.P w = .ok (.value (.slice (some ⟨w.heap.size, 0, none⟩) len len)) { w with heap := w.heap.push (.cells cells' elem) } := by
      simp only [execOp, ho, Instr.buildSlice, Sem.run_bind, Sem.run_pure, run_under hu, Result.andThen_ok, run_size hsz, if_neg (show ¬ len * i.size > 2 ^ 24 by omega)]
      by_cases hm0 : len * i.size = 0
      · have hr0 : ∀ (f : Nat → Value), (Array.range 0).map f = #[] := by simp
        simp only [hm0, hr0] at hcl'
        simp only [if_pos hm0, hm0, Sem.run_bind, Sem.run_pure, Result.andThen_ok, hr0, hcl']
        rfl
      · rw [if_neg hm0]
        simp only [Sem.run_bind, run_zero hzz, Result.andThen_ok, Sem.run_pure, hcl']
        rfl
    refine ⟨_, _, _, lam, _, _, run, .inl rfl, ?_, live_glob rfl, new_post hs hf _ _ 0 rfl rfl rfl rfl (newCells_orel (hw := rfl) hrel)⟩
    exact (slice_rel hs len len).trel
  · cases h

end
end Go.Am

/- Slices: cut, appended to, copied. -/
namespace Go.Am
variable {Z : Zone}
section
variable {g : Cfg} {base : Base} {c : Ctx} {φ : Nat → Pl} {ω : Nat → Option Tag} {lam : Nat → Nat} {fr : Fr} {s : St} {rs : List Nat} {a : Act} {w w' : World}

/-- A new number without an object: a place that nobody may read or write. -/
theorem skip_post (hs : SRel g base φ ω c s w) (hf : FRel φ c s.next lam ω fr rs a w) (p : Pl) :
    Post g base c φ (upd φ s.next p) ω ω lam lam fr.loc fr.loc s { s with next := s.next + 1 } w w := by
  have hφ : ∀ i, i < s.next → (upd φ s.next p) i = φ i := fun i hi => upd_ne _ _ (by omega)
  refine ⟨hφ, Nat.le_succ _, ?_, ?_, fun d cs h => .inl ⟨rfl, cs, h⟩, fun d cs h => ⟨rfl, cs, h⟩, Keep.refl _ _ _ _ _⟩
  · exact
    { dom := fun id o h => Nat.lt_succ_of_lt (hs.dom id o h)
      bn := Nat.le_succ_of_le hs.bn
      bf := hs.bf
      vlow := hs.vlow
      vnew := fun i hi => hs.vnew i (Nat.le_of_succ_le hi)
      bw := hs.bw
      obj := fun id o h hv => (hs.obj id o h hv).keep hφ (hs.dom id o h) (Nat.le_succ _) (fun _ => rfl) (fun _ _ => ⟨rfl, rfl⟩)
      low := fun id hi => by rw [hφ id (Nat.lt_of_lt_of_le hi hs.bn)]; exact hs.low id hi
      tag := fun id o h hv hb hso => by rw [hφ id (hs.dom id o h)]; exact hs.tag id o h hv hb hso
      tags := fun b t h => ⟨(hs.tags b t h).1, (hs.tags b t h).2.1, fun i hi => Nat.lt_succ_of_lt ((hs.tags b t h).2.2 i hi)⟩
      glob := fun i hi => ⟨(hs.glob i hi).1, by rw [hφ i (Nat.lt_of_lt_of_le (hs.glob i hi).1 hs.bn)]; exact (hs.glob i hi).2⟩
      zone := hs.zone
      nosame := hs.nosame
      isreal := hs.isreal }
  · intro d cs h
    obtain ⟨ht, cs', el, hb, ha⟩ := hf.own d cs h
    exact ⟨ht, cs', el, hb, ha.mono hφ (Nat.le_succ _)⟩

/-- A new object without cells. -/
theorem empty_post (hs : SRel g base φ ω c s w) (hf : FRel φ c s.next lam ω fr rs a w) (b o sz : Nat) :
    Post g base c φ (upd φ s.next ⟨b, o, 0⟩) ω ω lam lam fr.loc fr.loc s (s.new (.cells #[] sz false)) w w := by
  have hp := skip_post hs hf ⟨b, o, 0⟩
  have hφ := hp.agree
  refine ⟨hφ, Nat.le_succ _, ?_, hp.own, hp.lamW, hp.old, Keep.refl _ _ _ _ _⟩
  refine SRel.putObj hs (Nat.le_refl _) hs.bn (Nat.lt_succ_self _) (Nat.le_succ _) hφ (fun _ _ _ => ⟨rfl, rfl⟩) (fun _ => ⟨fun _ => by rw [upd_self], fun h => ?_⟩) (fun _ h => ?_) hp.srel.tags
  · simp at h
  · simp [Solid] at h


theorem bound_val (hs : SRel g base φ ω c s w) (hf : FRel φ c s.next lam ω fr rs a w) {x : Operand} {other l : Nat} (h : bound g fr (some x) other = some l) : ∃ k : IntKind, a.eval x = .int k l := by
  unfold bound at h
  replace h := bind_some h; obtain ⟨v, hv, h⟩ := h
  replace h := bind_some h; obtain ⟨i, hi, h⟩ := h
  replace h := bind_some h; obtain ⟨_, hc, h⟩ := h
  rw [chk_some, decide_eq_true_eq] at hc
  cases h
  obtain ⟨k, hk, _⟩ := int_of (gev_rel hs hf hv) hi
  exact ⟨k, by rw [hk]; congr 1; omega⟩

theorem sliceBound_run (k : IntKind) (l y : Nat) (code : BoundsCode) (h : l ≤ y) : (Instr.sliceBound (.int k l) y code).run g.P w = .ok l w := by
  have : (0 : Int) ≤ l ∧ (l : Int) ≤ y := by omega
  simp [Instr.sliceBound, asIntOf, h]

theorem bounds_run (hs : SRel g base φ ω c s w) (hf : FRel φ c s.next lam ω fr rs a w) {lo hi : Option Operand} {l h len cap : Nat} (b : Bool) (h1 : bound g fr lo 0 = some l) (h2 : bound g fr hi len = some h) (hl : l ≤ h) (hh : h ≤ cap) :
    (Instr.sliceBounds b len cap (lo.map a.eval) (hi.map a.eval) none).run g.P w = .ok (l, h, cap) w := by
  cases lo with
  | none =>
    simp only [bound, Option.some.injEq] at h1; subst h1
    cases hi with
    | none => simp only [bound, Option.some.injEq] at h2; subst h2; rfl
    | some x =>
      obtain ⟨k, hk⟩ := bound_val hs hf h2
      have := fun code => sliceBound_run (g := g) (w := w) k h cap code hh
      simp [Instr.sliceBounds, hk, this]
  | some y =>
    obtain ⟨ky, hky⟩ := bound_val hs hf h1
    have t1 := fun code => sliceBound_run (g := g) (w := w) ky l h code hl
    cases hi with
    | none =>
      simp only [bound, Option.some.injEq] at h2; subst h2
      simp [Instr.sliceBounds, hky, t1]
    | some x =>
      obtain ⟨k, hk⟩ := bound_val hs hf h2
      have := fun code => sliceBound_run (g := g) (w := w) k h cap code hh
      simp [Instr.sliceBounds, hk, this, hky, t1]

theorem bounds3_run (hs : SRel g base φ ω c s w) (hf : FRel φ c s.next lam ω fr rs a w) {lo hi : Option Operand} {mx : Operand} {len cap l h m : Nat} (h1 : bound g fr lo 0 = some l) (h2 : bound g fr hi len = some h) (h3 : bound g fr (some mx) 0 = some m) (hhi : hi.isSome = true)
    (hlh : l ≤ h) (hhm : h ≤ m) (hmc : m ≤ cap) : (Instr.sliceBounds true len cap (lo.map a.eval) (hi.map a.eval) (some (a.eval mx))).run g.P w = .ok (l, h, m) w := by
  obtain ⟨km, hm⟩ := bound_val hs hf h3
  cases hi with
  | none => cases hhi
  | some x =>
    obtain ⟨kh, hh⟩ := bound_val hs hf h2
    have e0 := fun code => sliceBound_run (g := g) (w := w) km m cap code hmc
    have e1 := fun code => sliceBound_run (g := g) (w := w) kh h m code hhm
    cases lo with
    | none =>
      simp only [bound, Option.some.injEq] at h1; subst h1
      simp [Instr.sliceBounds, hm, hh, e0, e1]
    | some z =>
      obtain ⟨kl, hl⟩ := bound_val hs hf h1
      have e2 := fun code => sliceBound_run (g := g) (w := w) kl l h code hlh
      simp [Instr.sliceBounds, hm, hh, hl, e0, e1, e2]

theorem slice_ok (hs : SRel g base φ ω c s w) (hf : FRel φ c s.next lam ω fr rs a w) {o : Oper} {t : TypeId} {x : Operand} {lo hi mx : Option Operand} (ho : o.op = .slice t x lo hi mx) {r : Value × St} (h : doSlice g c fr s t x lo hi mx = some r) :
    OpOk g base c φ ω lam fr s a w o r.1 fr.loc r.2 := by
  unfold doSlice at h
  replace h := bind_some h; obtain ⟨p, hp, h⟩ := h
  have hrel := gev_rel hs hf hp
  split at h
  · rename_i n elem id off hu
    replace h := bind_some h; obtain ⟨_, hm, h⟩ := h
    rw [chk_some] at hm
    replace h := bind_some h; obtain ⟨size, hsize, h⟩ := h
    replace h := bind_some h; obtain ⟨l, hl, h⟩ := h
    replace h := bind_some h; obtain ⟨hh, hhi, h⟩ := h
    replace h := bind_some h; obtain ⟨_, hc, h⟩ := h
    rw [chk_some, Bool.and_eq_true, decide_eq_true_eq, decide_eq_true_eq] at hc
    unfold sizeOf? at hsize
    cases mx with
    | some _ => simp at hm
    | none =>
      have hrel : Vrel φ c s.next (.pointer (some ⟨id, off, none⟩)) (a.eval x) := hrel
      have hx : a.eval x = .pointer (some ⟨(φ id).blk, (φ id).off + off, none⟩) := by
        generalize a.eval x = z at hrel; cases hrel; rfl
      have hid : In c s.next id := by generalize a.eval x = z at hrel; cases hrel; assumption
      have hb := bounds_run hs hf false hl hhi hc.1 hc.2
      split at h
      · rename_i cs sz hlk
        obtain ⟨hv, hg⟩ := look_some hlk
        have hex := (hs.obj id _ hg hv).1 rfl
        cases h
        refine OpOk.sameV hs hf (v' := .slice (some ⟨(φ id).blk, (φ id).off + (if n = l then off else off + l * size), none⟩) (hh - l) (n - l)) ?_ ?_
        · simp only [execOp, ho, hx, Instr.sliceAt, Sem.run_bind, run_under hu, Result.andThen_ok, Instr.sureAddr, Sem.run_pure, Option.map_none, hb, run_size hsize, addr_add]
          split <;> simp [Nat.add_assoc]
        · have := Vrel.slice (φ := φ) (c := c) (n := s.next) id (if n = l then off else off + l * size) (hh - l) (n - l) hid
          rw [hex] at this
          exact this
      · cases h
  · rename_i elem id off len cap hu
    replace h := bind_some h; obtain ⟨size, hsize, h⟩ := h
    replace h := bind_some h; obtain ⟨l, hl, h⟩ := h
    replace h := bind_some h; obtain ⟨hh, hhi, h⟩ := h
    unfold sizeOf? at hsize
    have hrel : Vrel φ c s.next (.slice (some ⟨id, off, none⟩) len cap) (a.eval x) := hrel
    have hx : a.eval x = .slice (some ⟨(φ id).blk, (φ id).off + off, none⟩) len (cap + (φ id).ex) := by
      generalize a.eval x = z at hrel; cases hrel; rfl
    have hid : In c s.next id := by generalize a.eval x = z at hrel; cases hrel; assumption
    split at h
    · rename_i mx
      replace h := bind_some h; obtain ⟨m, hm, h⟩ := h
      replace h := bind_some h; obtain ⟨_, hc, h⟩ := h
      rw [chk_some] at hc
      simp only [Bool.and_eq_true, decide_eq_true_eq] at hc
      obtain ⟨⟨⟨hlh, hhm⟩, hmc⟩, hhs⟩ := hc
      have hb := bounds3_run hs hf (len := len) (cap := cap + (φ id).ex) hl hhi hm hhs hlh hhm (by omega)
      split at h
      · rename_i hm0
        subst hm0
        obtain rfl : hh = 0 := by omega
        obtain rfl : l = 0 := by omega
        cases h
        refine ⟨.slice (some ⟨(φ id).blk, (φ id).off + off, none⟩) 0 0, _, _, lam, w, .value _, ?_, .inl rfl, ?_, live_glob rfl, empty_post hs hf (φ id).blk ((φ id).off + off) size⟩
        · simp only [execOp, ho, hx, Instr.sliceAt, Instr.slice, Sem.run_bind, run_under hu, Result.andThen_ok, Option.map_some, hb, run_size hsize, if_true, Sem.run_pure, Nat.sub_zero]
        · have := Vrel.slice (c := c) (φ := upd φ s.next ⟨(φ id).blk, (φ id).off + off, 0⟩) (n := s.next + 1) s.next 0 0 0 ⟨Nat.lt_succ_self _, hs.vnew _ (Nat.le_refl _)⟩
          rw [upd_self] at this
          exact this.trel
      · rename_i hm0
        cases h
        have run : ∀ ad, (if m = l then (⟨(φ id).blk, (φ id).off + off, none⟩ : Addr) else ⟨(φ id).blk, (φ id).off + off + l * size, none⟩) = ad →
            (execOp a.eval o).run g.P w = .ok (.value (.slice (some ad) (hh - l) (m - l))) w := by
          intro ad had
          simp only [execOp, ho, hx, Instr.sliceAt, Instr.slice, Sem.run_bind, run_under hu, Result.andThen_ok, Option.map_some, hb, run_size hsize, Sem.run_pure]
          rw [← had]
          split <;> simp [addr_add]
        refine ⟨_, _, _, lam, w, .value _, run _ rfl, .inl rfl, ?_, live_glob rfl, skip_post hs hf ⟨(φ id).blk, (φ id).off + (if m = l then off else off + l * size), 0⟩⟩
        have := Vrel.slice (c := c) (φ := upd φ s.next ⟨(φ id).blk, (φ id).off + (if m = l then off else off + l * size), 0⟩) (n := s.next + 1) s.next 0 (hh - l) (m - l) ⟨Nat.lt_succ_self _, hs.vnew _ (Nat.le_refl _)⟩
        rw [upd_self] at this
        simp only [Trel]
        by_cases e : m = l
        · rw [if_pos e] at this ⊢; rw [if_pos e]; simpa using this
        · rw [if_neg e] at this ⊢; rw [if_neg e]; simpa [Nat.add_assoc] using this
    · replace h := bind_some h; obtain ⟨_, hc, h⟩ := h
      rw [chk_some, Bool.and_eq_true, decide_eq_true_eq, decide_eq_true_eq] at hc
      have hb := bounds_run hs hf true (cap := cap + (φ id).ex) hl hhi hc.1 (by omega)
      have run : ∀ ad, (if cap + (φ id).ex = l then (⟨(φ id).blk, (φ id).off + off, none⟩ : Addr) else ⟨(φ id).blk, (φ id).off + off + l * size, none⟩) = ad →
          (execOp a.eval o).run g.P w = .ok (.value (.slice (some ad) (hh - l) (cap + (φ id).ex - l))) w := by
        intro ad had
        simp only [execOp, ho, hx, Instr.sliceAt, Instr.slice, Sem.run_bind, run_under hu, Result.andThen_ok, Option.map_none, hb, run_size hsize, Sem.run_pure]
        rw [← had]
        split <;> simp [addr_add]
      split at h
      · rename_i hlt
        cases h
        refine OpOk.sameV hs hf (run ⟨(φ id).blk, (φ id).off + off + l * size, none⟩ (if_neg (by omega))) ?_
        have := Vrel.slice (φ := φ) (c := c) (n := s.next) id (off + l * size) (hh - l) (cap - l) hid
        rw [← Nat.add_assoc, show cap - l + (φ id).ex = cap + (φ id).ex - l by omega] at this
        exact this
      · rename_i hge
        have hlc : l = cap := by omega
        have hhl : hh = l := by omega
        split at h
        · rename_i cs sz hlk
          obtain ⟨hv, hg⟩ := look_some hlk
          have hex := (hs.obj id _ hg hv).1 rfl
          cases h
          refine OpOk.sameV hs hf (run ⟨(φ id).blk, (φ id).off + off, none⟩ (if_pos (by omega))) ?_
          have := Vrel.slice (φ := φ) (c := c) (n := s.next) id off 0 0 hid
          rw [hex] at this
          rw [show hh - l = 0 by omega, show cap + (φ id).ex - l = 0 by omega]
          exact this
        · cases h
          refine ⟨_, _, _, lam, w, .value _, run _ rfl, .inl rfl, ?_, live_glob rfl, skip_post hs hf ⟨(φ id).blk, (φ id).off + (if cap + (φ id).ex = l then off else off + l * size), (φ id).ex⟩⟩
          have := Vrel.slice (c := c) (φ := upd φ s.next ⟨(φ id).blk, (φ id).off + (if cap + (φ id).ex = l then off else off + l * size), (φ id).ex⟩) (n := s.next + 1) s.next 0 0 0 ⟨Nat.lt_succ_self _, hs.vnew _ (Nat.le_refl _)⟩
          rw [upd_self] at this
          rw [show hh - l = 0 by omega, show cap + (φ id).ex - l = 0 + (φ id).ex by omega]
          refine Vrel.trel ?_
          have e : (if cap + (φ id).ex = l then (⟨(φ id).blk, (φ id).off + off, none⟩ : Addr) else ⟨(φ id).blk, (φ id).off + off + l * size, none⟩) = ⟨(φ id).blk, (φ id).off + (if cap + (φ id).ex = l then off else off + l * size) + 0, none⟩ := by
            split <;> simp [Nat.add_assoc]
          rw [e]; exact this
  · rename_i elem nm X off len hu
    replace h := bind_some h; obtain ⟨size, hsize, h⟩ := h
    replace h := bind_some h; obtain ⟨l, hl, h⟩ := h
    replace h := bind_some h; obtain ⟨hh, hhi, h⟩ := h
    replace h := bind_some h; obtain ⟨_, hc, h⟩ := h
    rw [chk_some] at hc
    simp only [Bool.and_eq_true, decide_eq_true_eq] at hc
    obtain ⟨hm, hlh, hhl⟩ := hc
    unfold sizeOf? at hsize
    have hrel : Vrel φ c s.next (.func (.method nm) X #[.slice none off len]) (a.eval x) := hrel
    cases mx with
    | some _ => simp at hm
    | none =>
      cases h
      generalize hx : a.eval x = u at hrel
      have run : ∀ p cap, u = .slice p len cap → len ≤ cap → (execOp a.eval o).run g.P w = .ok (.value (.slice (if cap = l then p else p.map (·.add (l * size))) (hh - l) (cap - l))) w := by
        intro p cap hp hcap
        have hb := bounds_run hs hf true (cap := cap) hl hhi hlh (by omega)
        rw [hp] at hx
        simp only [execOp, ho, hx, Instr.sliceAt, Instr.slice, Sem.run_bind, run_under hu, Result.andThen_ok, Option.map_none, hb, run_size hsize, Sem.run_pure]
      cases hrel with
      | vslice _ _ _ _ cp b o' hz hlc =>
        refine OpOk.sameV hs hf (run _ _ rfl hlc) ?_
        by_cases e : cp = l
        · rw [if_pos e, show hh - l = 0 by omega]
          exact .vnil _ _ _ _ _ (hs.isreal)
        · rw [if_neg e]
          simp only [Option.map_some, addr_add]
          rw [Nat.add_assoc]
          exact .vslice _ _ _ _ _ _ _ hz (by omega)
      | vnil _ _ _ cp p hr =>
        refine OpOk.sameV hs hf (run _ _ rfl (Nat.zero_le _)) ?_
        rw [show hh - l = 0 by omega]
        exact .vnil _ _ _ _ _ hr
      | vsame _ _ _ _ hz => exact (hs.nosame hz).elim
  · cases h

end
end Go.Am

/- Slices: appended to, copied, cleared. -/
namespace Go.Am
variable {Z : Zone}
section
variable {g : Cfg} {base : Base} {c : Ctx} {φ : Nat → Pl} {ω : Nat → Option Tag} {lam : Nat → Nat} {fr : Fr} {s : St} {rs : List Nat} {a : Act} {w w' : World}

theorem extract_arel {φ : Nat → Pl} {c : Ctx} {n off : Nat} {cs cs' : Array Value} (h : RowHas φ c n cs' off cs) {i j : Nat} (hj : j ≤ cs.size) (hij : i ≤ j) (hsz : off + j ≤ cs'.size) : Arel φ c n (cs.extract i j) (cs'.extract (off + i) (off + j)) := by
  refine ⟨by simp; omega, fun k x x' hx hx' => ?_⟩
  rw [Array.getElem?_extract] at hx hx'
  split at hx
  · split at hx'
    · obtain ⟨y, hy, hv⟩ := h _ _ hx
      rw [show off + (i + k) = off + i + k by omega] at hy
      rw [hy] at hx'; cases hx'; exact hv
    · cases hx'
  · cases hx

theorem rowSize {φ : Nat → Pl} {c : Ctx} {n off : Nat} {cs cs' : Array Value} (h : RowHas φ c n cs' off cs) {k : Nat} (hk : k ≤ cs.size) (h0 : k ≠ 0) : off + k ≤ cs'.size := by
  cases k with
  | zero => exact (h0 rfl).elim
  | succ k =>
    obtain ⟨x', hx', _⟩ := h k cs[k] (Array.getElem?_eq_getElem (by omega))
    have := (Array.getElem?_eq_some_iff.1 hx').1
    omega

theorem extract_all (b : ByteArray) : b.extract 0 b.size = b := by
  apply ByteArray.ext
  simp [ByteArray.data_extract]

/-- The cells that are appended, or copied. -/
theorem cellsOf_run (hs : SRel g base φ ω c s w) {size n : Nat} {x x' : Value} {cells : Array Value} (hx : Vrel φ c s.next x x') (h : cellsOf? c s size n x = some cells) :
    ∃ cells', (∀ W : World, W.heap = w.heap → (Builtin.firstCells size n x').run g.P W = .ok cells' W) ∧ Arel φ c s.next cells cells' := by
  unfold cellsOf? at h
  split at h
  · rename_i id o l cp
    replace h := bind_some h; obtain ⟨cs, hcs, h⟩ := h
    replace h := bind_some h; obtain ⟨_, hc, h⟩ := h
    rw [chk_some, Bool.and_eq_true, decide_eq_true_eq, decide_eq_true_eq] at hc
    cases h
    cases hx
    unfold St.rowAt at hcs
    split at hcs
    · rename_i cs0 sz sp hl
      cases hcs
      obtain ⟨hv, hg⟩ := look_some hl
      by_cases h0 : n * size = 0
      · refine ⟨#[], fun W hW => ?_, ?_⟩
        · simp [Builtin.firstCells, h0, loadCells, loadCellsFrom]
        · have e : cs.extract o (o + 0) = #[] := by
            apply Array.eq_empty_of_size_eq_zero
            rw [Array.size_extract]; omega
          rw [h0, e]; exact Arel.nil
      · have hso : cs.size ≠ 0 ∨ sp = true := .inl (by omega)
        obtain ⟨cs', el, fz, h1, _, _, h4⟩ := (hs.obj id _ hg hv).2 hso
        have hsz := rowSize h4 hc.2 (by omega)
        refine ⟨_, fun W hW => ?_, extract_arel h4 hc.2 (Nat.le_add_right _ _) hsz⟩
        simp only [Builtin.firstCells]
        rw [run_loadCells_row W (φ id).blk ((φ id).off + o) (n * size) cs' el fz (by rw [hW]; exact h1) (by omega)]
        rw [show (φ id).off + o + n * size = (φ id).off + (o + n * size) by omega]
    · cases hcs
  · replace h := bind_some h; obtain ⟨_, hc, h⟩ := h
    cases h; cases hx
    exact ⟨#[], fun _ _ => rfl, Arel.nil⟩
  · rename_i b
    replace h := bind_some h; obtain ⟨_, hc, h⟩ := h
    rw [chk_some, Bool.and_eq_true, beq_iff_eq, beq_iff_eq] at hc
    cases h; cases hx
    refine ⟨_, fun _ _ => rfl, ?_⟩
    rw [hc.2, extract_all]
    refine ⟨by simp, fun i x x' hx hx' => ?_⟩
    rw [Array.getElem?_map] at hx hx'
    rw [hx] at hx'; cases hx'
    obtain ⟨y, _, rfl⟩ := Option.map_eq_some_iff.1 hx
    exact .int _ _
  · rename_i nm X o l
    replace h := bind_some h; obtain ⟨_, hc, h⟩ := h
    rw [chk_some, Bool.and_eq_true, decide_eq_true_eq, decide_eq_true_eq] at hc
    cases h
    have hz0 : n * size = 0 → X.extract o (o + n * size) = #[] := fun h0 => by
      apply Array.eq_empty_of_size_eq_zero
      rw [Array.size_extract]; omega
    cases hx with
    | vslice _ _ _ _ cp b o' hz hlc =>
      by_cases h0 : n * size = 0
      · refine ⟨#[], fun W hW => ?_, ?_⟩
        · simp [Builtin.firstCells, h0, loadCells, loadCellsFrom]
        · rw [hz0 h0]; exact Arel.nil
      · obtain ⟨X', el, fz, h1, h4⟩ := (hs.zone _ _ _ hz).has φ c s.next
        have hsz := rowSize h4 hc.2 (by omega)
        refine ⟨_, fun W hW => ?_, extract_arel h4 hc.2 (Nat.le_add_right _ _) hsz⟩
        simp only [Builtin.firstCells]
        rw [run_loadCells_row W b (o' + o) (n * size) X' el fz (by rw [hW]; exact h1) (by omega)]
        rw [show o' + o + n * size = o' + (o + n * size) by omega]
    | vnil _ _ _ cp p hr =>
      have h0 : n * size = 0 := by have : n = 0 := by omega
                                   rw [this, Nat.zero_mul]
      refine ⟨#[], fun W hW => ?_, ?_⟩
      · cases p with
        | none => rfl
        | some p => simp [Builtin.firstCells, h0, loadCells, loadCellsFrom]
      · rw [hz0 h0]; exact Arel.nil
    | vsame _ _ _ _ hz => exact (hs.nosame hz).elim
  · cases h

theorem len_run {φ : Nat → Pl} {c : Ctx} {n k : Nat} {x x' : Value} (hns : ¬ Zone.same) (hx : Vrel φ c n x x') (h : lenV x = some k) (w : World) : (Builtin.lenOf x').run g.P w = .ok k w := by
  unfold lenV at h
  split at h
  · cases h; cases hx <;> rfl
  · cases h; cases hx; rfl
  · cases h
    cases hx with
    | vslice => rfl
    | vnil => rfl
    | vsame _ _ _ _ hz => exact (hns hz).elim
  · cases h

theorem first_zero {φ : Nat → Pl} {c : Ctx} {n : Nat} {x x' : Value} (size : Nat) (hns : ¬ Zone.same) (hx : Vrel φ c n x x') (h : lenV x = some 0) (w : World) : ∃ cells, (Builtin.firstCells size 0 x').run g.P w = .ok cells w ∧ cells.toList = [] := by
  unfold lenV at h
  split at h
  · cases hx
    · exact ⟨#[], rfl, rfl⟩
    · exact ⟨#[], by simp [Builtin.firstCells, loadCells, loadCellsFrom], rfl⟩
  · cases hx
    refine ⟨_, rfl, ?_⟩
    simp [ByteArray.data_extract]
  · cases h
    cases hx with
    | vslice => exact ⟨#[], by simp [Builtin.firstCells, loadCells, loadCellsFrom], rfl⟩
    | vnil _ _ _ _ p =>
      cases p with
      | none => exact ⟨#[], rfl, rfl⟩
      | some p => exact ⟨#[], by simp [Builtin.firstCells, loadCells, loadCellsFrom], rfl⟩
    | vsame _ _ _ _ hz => exact (hns hz).elim
  · cases h

theorem Keep.of_drop {ω ω' : Nat → Option Tag} {X : Nat → Prop} {id : Nat} (h : Keep ω ω' c { s with heap := s.heap.set id none } X w w') : Keep ω ω' c s X w w' :=
  ⟨h.os, h.tape, h.output, h.size, fun b hb ho hx => h.same b hb (by
    rintro ⟨i, o, h1, h2, h3, h4⟩
    simp only at h4
    rw [Tr.get_set] at h4
    split at h4
    · cases h4
    · exact ho ⟨i, o, h1, h2, h3, h4⟩) hx⟩

theorem Post.of_drop {φ' : Nat → Pl} {ω' : Nat → Option Tag} {lam' : Nat → Nat} {loc loc' : Tr (Array Value)} {s' : St} {id : Nat} (h : Post g base c φ φ' ω ω' lam lam' loc loc' { s with heap := s.heap.set id none } s' w w') :
    Post g base c φ φ' ω ω' lam lam' loc loc' s s' w w' :=
  ⟨h.agree, h.next, h.srel, h.own, h.lamW, h.old, h.keep.of_drop⟩

theorem FRel.of_drop (hf : FRel φ c s.next lam ω fr rs a w) {id : Nat} : FRel φ c ({ s with heap := s.heap.set id none } : St).next lam ω fr rs a w := hf

theorem nextcap_le {need old : Nat} (h : ¬ need ≤ old) (hn : need ≤ nLim) : Builtin.nextslicecap need old ≤ 2 * nLim + 1024 := by
  unfold Builtin.nextslicecap
  unfold nLim at *
  split
  · omega
  · split
    · omega
    · have grow : ∀ (r k : Nat), k < need → Builtin.growBy need r k ≤ 2 * 4294967296 + 1024 := by
        intro r
        induction r with
        | zero => intro k hk; simp only [Builtin.growBy]; omega
        | succ r ih =>
          intro k hk
          simp only [Builtin.growBy]
          rw [if_neg (by omega)]
          by_cases h2 : k + (k + 768) / 4 < need
          · exact ih _ h2
          · cases r with
            | zero => simp only [Builtin.growBy]; omega
            | succ r => simp only [Builtin.growBy]; rw [if_pos (by omega)]; omega
      exact grow 4 old (by omega)

/-- The part of append in which a new row is made. -/
theorem append_new {elem : TypeId} {i : TypeInfo} {zero : Value} (hi : g.P.info? elem = some i) (hz : i.zero = some zero) (hzs : zero.cells.size = i.size) {st xt : TypeId} {ts : Array TypeId} (h0 : ts[0]? = some st) (h1 : ts[1]? = some xt)
    (hu : g.P.underlying st = some (.slice elem)) (hxt : ∃ d, g.P.underlying xt = some d ∧ ∀ k, d ≠ .int k) {v' x' : Value} {b' : Option Addr} {sl n cap' : Nat} (hv : v' = .slice b' sl cap') (hlen : (Builtin.lenOf x').run g.P w = .ok n w)
    (hneed : ¬ sl + n ≤ cap') (hn : sl + n ≤ nLim) (hby : i.bytes ≤ 4096) {old new : Array Value} (hold : ∀ W : World, W.heap = w.heap → (Builtin.firstCells i.size sl v').run g.P W = .ok old W) (hnew : ∀ W : World, W.heap = w.heap → (Builtin.firstCells i.size n x').run g.P W = .ok new W)
    (tt : TypeId) :
    ∃ newCap w1, sl + n ≤ newCap ∧ w1.heap = w.heap.push (.cells (old ++ new ++ Builtin.zeroCells zero.cells (newCap - (sl + n))) elem) ∧ w1.os = w.os ∧ w1.tape = w.tape ∧ w1.output = w.output ∧
      (Builtin.append_ ts tt #[v', x']).run g.P w = .ok (.slice (some ⟨w.heap.size, 0, none⟩) (sl + n) newCap) w1 := by
  obtain ⟨d, hd, hdk⟩ := hxt
  subst hv
  have hsz : (g.P.info? elem).map (·.size) = some i.size := by rw [hi]; rfl
  have hzz : (g.P.info? elem).bind (·.zero) = some zero := by rw [hi]; exact hz
  have hti := run_info hi
  have hdm : (d matches .int _) = false := by
    cases d <;> first | rfl | exact (hdk _ rfl).elim
  have e1 : ¬ (((sl + n : Nat) : Int) > IntKind.i64.max ∧ (False ∨ i.bytes = 0)) := by
    simp only [IntKind.max, IntKind.signed, IntKind.bits, nLim] at *
    intro h; omega
  have hcap := nextcap_le hneed hn
  have e2 : ¬ Builtin.nextslicecap (sl + n) cap' * i.bytes > 2 ^ 48 := by
    have : Builtin.nextslicecap (sl + n) cap' * i.bytes ≤ (2 * nLim + 1024) * 4096 := Nat.mul_le_mul hcap hby
    unfold nLim at this; omega
  let q : Question := .appendCap (sl + n) cap' elem
  let W : World := { w with drawn := w.drawn + 1 }
  have hch : (choose q).run g.P w = .ok (q.cut (w.tape w.drawn q)) W := rfl
  have hge : sl + n ≤ q.cut (w.tape w.drawn q) := Nat.le_add_right _ _
  generalize q.cut (w.tape w.drawn q) = newCap at hch hge
  refine ⟨newCap, { W with heap := W.heap.push (.cells (old ++ new ++ Builtin.zeroCells zero.cells (newCap - (sl + n))) elem) }, hge, rfl, rfl, rfl, rfl, ?_⟩
  have hask : (askRoom (newCap * i.bytes)).run g.P W = .ok () W := by
    unfold askRoom; split <;> rfl
  unfold Builtin.append_
  simp only [h0, h1, List.size_toArray, List.length_cons, List.length_nil, Nat.zero_add, Nat.reduceAdd, Nat.reduceLT, getElem?_pos, List.getElem_toArray, List.getElem_cons_zero, List.getElem_cons_succ, Sem.run_bind, run_under hu, Result.andThen_ok, run_size hsz,
    run_under hd, hdm, Sem.run_pure, Bool.false_eq_true, if_false, hlen, if_neg hneed, hti, Bool.not_false, if_true]
  rw [if_neg e1]
  simp only [Sem.run_bind, hti, Result.andThen_ok]
  rw [if_neg e2]
  simp only [Sem.run_bind, Result.andThen_ok, hti]
  rw [show (choose (Question.appendCap (sl + n) cap' elem)).run g.P w = .ok newCap W from hch]
  simp only [Result.andThen_ok, hask, hti, hold W rfl, hnew W rfl, run_zero hzz]
  rfl

theorem zeroCells_size (z : Array Value) (n : Nat) : (Builtin.zeroCells z n).size = n * z.size := by simp [Builtin.zeroCells]

theorem append_some {ts : Array TypeId} {as : List Value} {r : Value × St} (h : doAppend g c s ts as = some r) :
    ∃ v x st xt elem b sl sc i zero n, as = [v, x] ∧ ts[0]? = some st ∧ ts[1]? = some xt ∧ g.P.underlying st = some (.slice elem) ∧ v = .slice b sl sc ∧ g.P.info? elem = some i ∧ i.zero = some zero ∧ lenV x = some n ∧
      sl ≤ sc ∧ sl + n ≤ nLim ∧ i.bytes ≤ 4096 ∧ i.size ≠ 0 ∧ zero.cells.size = i.size ∧ plainN 8 zero = true ∧ (∃ d, g.P.underlying xt = some d ∧ ∀ k, d ≠ .int k) ∧
      ((n = 0 ∧ r = (v, s)) ∨ (n ≠ 0 ∧ ∃ new, cellsOf? c s i.size n x = some new ∧ new.toList.all Value.oneCell' = true ∧
        ((b = none ∧ sl = 0 ∧ sc = 0 ∧ r = (.slice (some ⟨s.next, 0, none⟩) n n, s.new (.cells new i.size true))) ∨
         (∃ id o cs sp, b = some ⟨id, o, none⟩ ∧ s.look c id = some (.cells cs i.size sp) ∧
          ((sl + n ≤ sc ∧ ∃ s', s.write c id (o + sl * i.size) new.toList = some s' ∧ r = (.slice b (sl + n) sc, s')) ∨
           (¬ sl + n ≤ sc ∧ o + sl * i.size ≤ cs.size ∧
            ((sp = true ∧ c.wr id = true ∧ sl = sc ∧ o + sl * i.size = cs.size ∧ r = (.slice (some ⟨s.next, 0, none⟩) (sl + n) (sl + n), { s with heap := s.heap.set id none : St }.new (.cells (cs.extract o (o + sl * i.size) ++ new) i.size true))) ∨
             (sp = false ∧ r = (.slice (some ⟨s.next, 0, none⟩) (sl + n) (sl + n), s.new (.cells (cs.extract o (o + sl * i.size) ++ new) i.size true))))))))))
 := by
  unfold doAppend at h
  split at h
  · rename_i v x
    replace h := bind_some h; obtain ⟨st, hst, h⟩ := h
    replace h := bind_some h; obtain ⟨xt, hxt, h⟩ := h
    split at h
    · rename_i elem b sl sc hu
      replace h := bind_some h; obtain ⟨i, hi, h⟩ := h
      replace h := bind_some h; obtain ⟨zero, hz, h⟩ := h
      replace h := bind_some h; obtain ⟨n, hn, h⟩ := h
      replace h := bind_some h; obtain ⟨_, hc, h⟩ := h
      rw [chk_some] at hc
      simp only [Bool.and_eq_true, decide_eq_true_eq] at hc
      obtain ⟨⟨⟨⟨⟨⟨hc1, hc2⟩, hc3⟩, hc4⟩, hc5⟩, hc6⟩, hc7⟩ := hc
      refine ⟨_, x, st, xt, elem, b, sl, sc, i, zero, n, rfl, hst, hxt, hu, rfl, hi, hz, hn, hc1, hc2, hc3, hc4, hc5, hc6, ?_, ?_⟩
      · split at hc7
        · cases hc7
        · rename_i d hd hd'
          exact ⟨d, hd', fun k e => hd k e⟩
        · cases hc7
      · split at h
        · rename_i h0; cases h; exact .inl ⟨h0, rfl⟩
        · rename_i h0
          replace h := bind_some h; obtain ⟨new, hnew, h⟩ := h
          replace h := bind_some h; obtain ⟨_, hone, h⟩ := h
          rw [chk_some] at hone
          refine .inr ⟨h0, new, hnew, hone, ?_⟩
          split at h
          · replace h := bind_some h; obtain ⟨_, hc, h⟩ := h
            rw [chk_some, Bool.and_eq_true, beq_iff_eq, beq_iff_eq] at hc
            cases h; exact .inl ⟨rfl, hc.1, hc.2, rfl⟩
          · rename_i id o
            split at h
            · rename_i cs sz sp hl
              replace h := bind_some h; obtain ⟨_, hc, h⟩ := h
              rw [chk_some, beq_iff_eq] at hc
              subst hc
              refine .inr ⟨id, o, cs, sp, rfl, hl, ?_⟩
              split at h
              · rename_i hle
                replace h := bind_some h; obtain ⟨s', hw, h⟩ := h
                cases h; exact .inl ⟨hle, s', hw, rfl⟩
              · rename_i hle
                replace h := bind_some h; obtain ⟨_, hc, h⟩ := h
                rw [chk_some, decide_eq_true_eq] at hc
                refine .inr ⟨hle, hc, ?_⟩
                simp only at h
                split at h
                · rename_i hsp
                  replace h := bind_some h; obtain ⟨_, hc, h⟩ := h
                  rw [chk_some] at hc
                  simp only [Bool.and_eq_true, decide_eq_true_eq, beq_iff_eq] at hc
                  cases h; exact .inl ⟨hsp, hc.1.1, hc.1.2, hc.2, rfl⟩
                · rename_i hsp
                  cases h; exact .inr ⟨by simpa using hsp, rfl⟩
            · cases h
          · cases h
    · cases h
  · cases h


/-- A builtin that leaves a value, from its own run. -/
theorem builtin_run {o : Oper} {cl : Call} {b : Builtin} (ho : o.op = .call cl) (hcl : cl.callee = .builtin b) {v' : Value} {W : World}
    (h : (builtin b cl.argTypes o.type (cl.args.map fun | .const _ => true | _ => false) (cl.args.map a.eval)).run g.P w = .ok (.value v') W) : (execOp a.eval o).run g.P w = .ok (.value v') W := by
  obtain ⟨callee, args, ts⟩ := cl
  simp only at hcl; subst hcl
  simp only [execOp, ho, Sem.run_bind, resolve, Sem.run_pure, Result.andThen_ok, invoke]
  exact h

theorem args2 (hs : SRel g base φ ω c s w) (hf : FRel φ c s.next lam ω fr rs a w) {cl : Call} {v x : Value} (h : evL g fr cl.args.toList = some [v, x]) : ∃ v' x', cl.args.map a.eval = #[v', x'] ∧ Vrel φ c s.next v v' ∧ Vrel φ c s.next x x' := by
  have hr := evL_arel hs hf h
  have hsz : (cl.args.map a.eval).size = 2 := by rw [← hr.1]; rfl
  generalize cl.args.map a.eval = A at hr hsz
  obtain ⟨l⟩ := A
  match l, hsz with
  | [v', x'], _ => exact ⟨v', x', rfl, hr.2 0 _ _ rfl rfl, hr.2 1 _ _ rfl rfl⟩

theorem args1 (hs : SRel g base φ ω c s w) (hf : FRel φ c s.next lam ω fr rs a w) {cl : Call} {v : Value} (h : evL g fr cl.args.toList = some [v]) : ∃ v', cl.args.map a.eval = #[v'] ∧ Vrel φ c s.next v v' := by
  have hr := evL_arel hs hf h
  have hsz : (cl.args.map a.eval).size = 1 := by rw [← hr.1]; rfl
  generalize cl.args.map a.eval = A at hr hsz
  obtain ⟨l⟩ := A
  match l, hsz with
  | [v'], _ => exact ⟨v', rfl, hr.2 0 _ _ rfl rfl⟩

theorem append_ok (hs : SRel g base φ ω c s w) (hf : FRel φ c s.next lam ω fr rs a w) {o : Oper} {cl : Call} (ho : o.op = .call cl) (hcl : cl.callee = .builtin .append) {as : List Value} (has : evL g fr cl.args.toList = some as)
    {r : Value × St} (h : doAppend g c s cl.argTypes as = some r) : OpOk g base c φ ω lam fr s a w o r.1 fr.loc r.2 := by
  obtain ⟨v, x, st, xt, elem, b, sl, sc, i, zero, n, rfl, h0, h1, hu, rfl, hi, hz, hn, hsc, hlim, hby, hs0, hzs, hp, hxt, hcase⟩ := append_some h
  obtain ⟨v', x', hA, hv, hx⟩ := args2 hs hf has
  have hlen := len_run (g := g) hs.nosame hx hn
  have hsz : (g.P.info? elem).map (·.size) = some i.size := by rw [hi]; rfl
  have lift : ∀ {v2 : Value} {W : World}, (Builtin.append_ cl.argTypes o.type #[v', x']).run g.P w = .ok v2 W → (execOp a.eval o).run g.P w = .ok (.value v2) W := fun h => by
    refine builtin_run ho hcl ?_
    rw [hA]
    simp only [builtin, Sem.run_bind, h, Result.andThen_ok, Sem.run_pure]
  -- the way in which nothing moves
  have stay : ∀ (b' : Option Addr) (cap' : Nat) (new' : Array Value) (W : World), v' = .slice b' sl cap' → sl + n ≤ cap' → (Builtin.firstCells i.size n x').run g.P w = .ok new' w →
      ((match b' with | some ad => storeCells (ad.add (sl * i.size)) new'.toList | none => pure () : Sem Unit).run g.P w = .ok () W) → (Builtin.append_ cl.argTypes o.type #[v', x']).run g.P w = .ok (.slice b' (sl + n) cap') W := by
    intro b' cap' new' W hv' hle hf1 hst
    obtain ⟨d, hd, hdk⟩ := hxt
    have hdm : (d matches .int _) = false := by
      cases d <;> first | rfl | exact (hdk _ rfl).elim
    subst hv'
    unfold Builtin.append_
    simp only [h0, h1, List.size_toArray, List.length_cons, List.length_nil, Nat.zero_add, Nat.reduceAdd, Nat.reduceLT, getElem?_pos, List.getElem_toArray, List.getElem_cons_zero, List.getElem_cons_succ, Sem.run_bind, run_under hu, Result.andThen_ok, run_size hsz,
      run_under hd, hdm, Sem.run_pure, Bool.false_eq_true, if_false, hlen, if_pos hle, Bool.not_false, if_true, hf1]
    cases b' with
    | none => simp only at hst; cases hst; rfl
    | some ad => simp only at hst; simp only [Sem.run_bind, hst, Result.andThen_ok, Sem.run_pure]
  rcases hcase with ⟨rfl, rfl⟩ | ⟨hn0, new, hnew, hone, hcase⟩
  · -- nothing is appended
    obtain ⟨cells, hc1, hc2⟩ := first_zero (g := g) i.size hs.nosame hx hn w
    refine OpOk.sameV hs hf (v' := v') ?_ hv
    refine lift ?_
    cases hv with
    | nilSlice => exact stay none sc cells w rfl (by omega) hc1 rfl
    | slice id off _ _ hid => exact stay _ _ cells w rfl (by omega) hc1 (by simp only [hc2, storeCells]; rfl)
  · obtain ⟨new', hnewR, hnr⟩ := cellsOf_run hs hx hnew
    have hnsz : new.size = n * i.size := by
      have := hnew
      unfold cellsOf? at this
      split at this
      · replace this := bind_some this; obtain ⟨cs, _, this⟩ := this
        replace this := bind_some this; obtain ⟨_, hc, this⟩ := this
        rw [chk_some, Bool.and_eq_true, decide_eq_true_eq, decide_eq_true_eq] at hc
        cases this; rw [Array.size_extract]; omega
      · replace this := bind_some this; obtain ⟨_, hc, this⟩ := this
        rw [chk_some, Bool.and_eq_true, beq_iff_eq, beq_iff_eq] at hc
        exact (hn0 hc.1).elim
      · replace this := bind_some this; obtain ⟨_, hc, this⟩ := this
        rw [chk_some, Bool.and_eq_true, beq_iff_eq, beq_iff_eq] at hc
        cases this; rw [Array.size_map, hc.1, hc.2, Nat.mul_one]; rfl
      · replace this := bind_some this; obtain ⟨_, hc, this⟩ := this
        rw [chk_some, Bool.and_eq_true, decide_eq_true_eq, decide_eq_true_eq] at hc
        cases this; rw [Array.size_extract]; omega
      · cases this
    have hpos : 0 < n * i.size := Nat.mul_pos (by omega) (by omega)
    -- a new row is made, with old cells in front
    have fresh : ∀ (s1 : St) (hs1 : SRel g base φ ω c s1 w) (hf1 : FRel φ c s1.next lam ω fr rs a w) (hnx : s1.next = s.next) (old old' : Array Value) (b' : Option Addr) (cap' : Nat), v' = .slice b' sl cap' → ¬ sl + n ≤ cap' →
        (∀ W : World, W.heap = w.heap → (Builtin.firstCells i.size sl v').run g.P W = .ok old' W) → Arel φ c s.next old old' → old.size = sl * i.size →
        ∃ v2 φ' ω' w1, (execOp a.eval o).run g.P w = .ok (.value v2) w1 ∧ Vrel φ' c (s1.next + 1) (.slice (some ⟨s1.next, 0, none⟩) (sl + n) (sl + n)) v2 ∧
          Post g base c φ φ' ω ω' lam lam fr.loc fr.loc s1 (s1.new (.cells (old ++ new) i.size true)) w w1 := by
      intro s1 hs1 hf1 hnx old old' b' cap' hv' hneed hold holdr holdsz
      obtain ⟨newCap, w1, hge, hw1, e1, e2, e3, hrun⟩ := append_new hi hz hzs h0 h1 hu hxt hv' (hlen w) hneed hlim hby hold hnewR o.type
      have hcs : (old' ++ new' ++ Builtin.zeroCells zero.cells (newCap - (sl + n))).size = newCap * i.size := by
        rw [Array.size_append, Array.size_append, zeroCells_size, ← holdr.1, ← hnr.1, holdsz, hnsz, hzs, ← Nat.add_mul, ← Nat.add_mul]
        congr 1; omega
      refine ⟨_, _, _, w1, lift hrun, ?_, new_post hs1 hf1 _ _ (newCap - (sl + n)) hw1 e1 e2 e3 ⟨fun h => by simp at h, fun _ => ⟨_, elem, (0, 0), by rw [upd_self, hw1]; exact push_new, fun _ => rfl, ?_, ?_⟩⟩⟩
      · have := slice_rel (φ := φ) (s := s1) (w := w) (ex := newCap - (sl + n)) hs1 (sl + n) (sl + n)
        rw [show sl + n + (newCap - (sl + n)) = newCap by omega] at this
        exact this
      · rw [upd_self, hcs, Array.size_append, holdsz, hnsz]
        simp only [Nat.zero_add]
        rw [← Nat.add_mul, ← Nat.add_mul]
        exact Nat.mul_le_mul_right _ (by omega)
      · rw [upd_self]
        intro k y hy
        have hr := (holdr.append hnr)
        obtain ⟨y', hy', hyr⟩ := hr.get hy
        refine ⟨y', ?_, hyr.mono (fun id hid => upd_ne _ _ (by omega)) (by omega)⟩
        rw [Nat.zero_add, Array.getElem?_append_left (Array.getElem?_eq_some_iff.1 hy').1]
        exact hy'
    rcases hcase with ⟨rfl, rfl, rfl, rfl⟩ | ⟨id, off, cs, sp, rfl, hlk, hcase⟩
    · -- onto nil
      obtain ⟨v2, φ', ω', w1, h1, h2, h3⟩ := fresh s hs hf rfl #[] #[] none 0 (by cases hv; rfl) (by omega) (fun W _ => by cases hv; rfl) Arel.nil (by simp)
      refine ⟨v2, φ', ω', lam, w1, _, h1, .inl rfl, ?_, live_glob rfl, ?_⟩
      · simp only [Nat.zero_add] at h2; exact h2.trel
      · simpa using h3
    · obtain ⟨hvis, hg⟩ := look_some hlk
      have hvv : v' = .slice (some ⟨(φ id).blk, (φ id).off + off, none⟩) sl (sc + (φ id).ex) := by cases hv; rfl
      have hid : id < s.next := hs.dom _ _ hg
      have hobj := hs.obj id _ hg hvis
      rcases hcase with ⟨hle, s', hw, rfl⟩ | ⟨hgt, hob, hcase⟩
      · -- there is room, and it is seen
        have hne : new.toList ≠ [] := fun e => by
          have : new.size = 0 := by simpa using congrArg List.length e
          omega
        obtain ⟨cur, el, hb, hsz2, hone', hpost⟩ := write_post hs hf hw (vs' := new'.toList) (by simpa using hnr) hne
        refine ⟨.slice (some ⟨(φ id).blk, (φ id).off + off, none⟩) (sl + n) (sc + (φ id).ex), φ, ω, lam, _, _, ?_, .inl rfl, ?_, live_glob rfl, hpost⟩
        · refine lift (stay _ _ new' _ hvv (by omega) (hnewR w rfl) ?_)
          simp only [addr_add]
          have := run_storeCells_blit (P := g.P) (φ id).blk el new'.toList ((φ id).off + off + sl * i.size) 0 cur w hb (by rw [← Nat.add_assoc] at hsz2; simpa using hsz2) hone'
          rw [Nat.add_zero] at this
          rw [this]
          rw [Nat.add_assoc (φ id).off]
        · have hnx := hpost.next
          obtain ⟨_, _, _, _, _, _, _, _, rfl⟩ := write_some hw
          exact (Vrel.slice id off (sl + n) sc (In.up ⟨hid, hvis⟩ hnx)).trel
      · have hold : ∀ W : World, W.heap = w.heap → ∃ old', (Builtin.firstCells i.size sl v').run g.P W = .ok old' W ∧ Arel φ c s.next (cs.extract off (off + sl * i.size)) old' := by
          intro W hW
          have hc : cellsOf? c s i.size sl (.slice (some ⟨id, off, none⟩) sl sc) = some (cs.extract off (off + sl * i.size)) := by
            simp only [cellsOf?, St.rowAt, hlk]
            simp [chk, hob]
          obtain ⟨old', h1, h2⟩ := cellsOf_run hs hv hc
          exact ⟨old', h1 W hW, h2⟩
        have hc : cellsOf? c s i.size sl (.slice (some ⟨id, off, none⟩) sl sc) = some (cs.extract off (off + sl * i.size)) := by
          simp only [cellsOf?, St.rowAt, hlk]
          simp [chk, hob]
        obtain ⟨old', ho1, ho2⟩ := cellsOf_run hs hv hc
        have hosz : (cs.extract off (off + sl * i.size)).size = sl * i.size := by rw [Array.size_extract]; omega
        rcases hcase with ⟨rfl, hfl, rfl, hend, rfl⟩ | ⟨rfl, rfl⟩
        · -- spare room that is not seen
          have hs1 := hs.drop id
          by_cases hroom : sl + n ≤ sl + (φ id).ex
          · -- it is there
            have hbi : base.id ≤ id := hs.bf id hfl
            obtain ⟨_, hrow⟩ := hobj
            obtain ⟨cur, el, fz, hb, hz0, hsz2, hhas⟩ := hrow (.inr rfl)
            have hz0 := hz0 hbi; subst hz0
            have htag := hs.tag id _ hg hvis hbi (.inr rfl)
            have hlenR : (φ id).off + (off + sl * i.size) + new'.toList.length ≤ cur.size := by
              have : new'.toList.length = n * i.size := by simp only [Array.length_toList]; rw [← hnr.1]; exact hnsz
              rw [this, hend]
              have : n * i.size ≤ (φ id).ex * i.size := Nat.mul_le_mul_right _ (by omega)
              omega
            have hone' : new'.toList.all Value.oneCell' = true := all_one hnr hone
            have hst := run_storeCells_blit (P := g.P) (φ id).blk el new'.toList ((φ id).off + off + sl * i.size) 0 cur w hb (by rw [← Nat.add_assoc] at hlenR; simpa using hlenR) hone'
            rw [Nat.add_zero] at hst
            have hrun := lift (stay _ _ new' _ hvv (by omega) (hnewR w rfl) (by simp only [addr_add]; exact hst))
            have hblk : (φ id).blk < w.heap.size := (hs.tags _ _ htag).2.1
            have hsame : ∀ b, b ≠ (φ id).blk → (w.setRow (φ id).blk (blit cur ((φ id).off + off + sl * i.size) new'.toList)).heap[b]? = w.heap[b]? := fun b hb => setRow_other _ _ _ _ hb
            have hφ : ∀ k, k < s.next → (upd φ s.next ⟨(φ id).blk, (φ id).off + off, sl + (φ id).ex - (sl + n)⟩) k = φ k := fun k hk => upd_ne _ _ (by omega)
            refine ⟨.slice (some ⟨(φ id).blk, (φ id).off + off, none⟩) (sl + n) (sl + (φ id).ex), upd φ s.next ⟨(φ id).blk, (φ id).off + off, sl + (φ id).ex - (sl + n)⟩, upd ω (φ id).blk (some (.obj s.next)), lam, _, _, hrun, .inl rfl, ?_, live_glob rfl, ?_⟩
            · have := Vrel.slice (c := c) (φ := upd φ s.next ⟨(φ id).blk, (φ id).off + off, sl + (φ id).ex - (sl + n)⟩) (n := s.next + 1) s.next 0 (sl + n) (sl + n) ⟨Nat.lt_succ_self _, hs.vnew _ (Nat.le_refl _)⟩
              rw [upd_self] at this
              simp only [Nat.add_zero] at this
              rw [show sl + n + (sl + (φ id).ex - (sl + n)) = sl + (φ id).ex by omega] at this
              exact this.trel
            · refine ⟨hφ, Nat.le_succ _, ?_, ?_, fun d cs h => .inl ⟨rfl, cs, h⟩, fun d cs h => ⟨rfl, cs, h⟩, ⟨rfl, rfl, rfl, Nat.le_of_eq (setRow_size _ _ _).symm, fun b _ hown _ => ?_⟩⟩
              · refine SRel.putObj hs1 (Nat.le_of_eq (setRow_size _ _ _).symm) hs.bn (Nat.lt_succ_self _) (Nat.le_succ _) hφ (fun b hb hl => ?_) (fun _ => ⟨fun h => (by cases h), fun _ => ⟨_, el, (0, 0), by rw [upd_self]; exact setRow_heap w (φ id).blk cur _ el (0, 0) hb, fun _ => rfl, ?_, ?_⟩⟩)
                  (fun _ _ => by rw [upd_self, upd_self]) (fun b t ht => ?_)
                · have hne : b ≠ (φ id).blk := by
                    rintro rfl
                    rcases hl with hl | hl | ⟨k, o', h1, h2, h3, h4, h5, h6⟩
                    · rw [htag] at hl; cases hl
                    · have := (hs.tags _ _ htag).1; omega
                    · rw [htag] at h5; cases h5
                      simp only at h1; rw [Tr.get_set, if_pos rfl] at h1; cases h1
                  exact ⟨hsame b hne, upd_ne _ _ hne⟩
                · rw [upd_self, blit_size, Array.size_append, hosz, hnsz]
                  simp only
                  rw [Nat.sub_mul, Nat.add_mul, Nat.add_mul]
                  have : n * i.size ≤ (φ id).ex * i.size := Nat.mul_le_mul_right _ (by omega)
                  omega
                · rw [upd_self]
                  intro k y hy
                  simp only
                  rw [blit_get _ _ _ _ (by rw [← Nat.add_assoc] at hlenR; exact hlenR)]
                  rw [Array.getElem?_append] at hy
                  split at hy
                  · rename_i hlt
                    rw [hosz] at hlt
                    rw [if_neg (by omega)]
                    rw [Array.getElem?_extract] at hy
                    split at hy
                    · obtain ⟨y', hy', hyr⟩ := hhas _ _ hy
                      exact ⟨y', by rw [show (φ id).off + off + k = (φ id).off + (off + k) by omega]; exact hy', hyr.mono hφ (Nat.le_succ _)⟩
                    · cases hy
                  · rename_i hge
                    rw [hosz] at hge hy
                    obtain ⟨y', hy', hyr⟩ := hnr.get hy
                    have hlt := (Array.getElem?_eq_some_iff.1 hy').1
                    rw [if_pos (by simp only [Array.length_toList]; omega)]
                    exact ⟨y', by rw [show (φ id).off + off + k - ((φ id).off + off + sl * i.size) = k - sl * i.size by omega]; simpa using hy', hyr.mono hφ (Nat.le_succ _)⟩
                · by_cases e : b = (φ id).blk
                  · subst e; rw [upd_self] at ht; cases ht
                    exact ⟨(hs.tags _ _ htag).1, by rw [setRow_size]; exact hblk, fun k hk => by cases hk; exact Nat.lt_succ_self _⟩
                  · rw [upd_ne _ _ e] at ht
                    obtain ⟨x, y, z⟩ := hs.tags b t ht
                    exact ⟨x, by rw [setRow_size]; exact y, fun k hk => Nat.lt_succ_of_lt (z k hk)⟩
              · intro d cs2 h
                obtain ⟨ht, cs', el', hb', ha⟩ := hf.own d cs2 h
                have hne : lam d ≠ (φ id).blk := fun e => by rw [e, htag] at ht; cases ht
                exact ⟨by rw [upd_ne _ _ hne]; exact ht, cs', el', by rw [hsame _ hne]; exact hb', ha.mono hφ (Nat.le_succ _)⟩
              · have hne : b ≠ (φ id).blk := by rintro rfl; exact hown ⟨id, _, htag, hfl, hvis, hg⟩
                exact ⟨hsame b hne, upd_ne _ _ hne⟩
          · obtain ⟨v2, φ', ω', w1, h1, h2, h3⟩ := fresh _ hs1 hf rfl _ old' _ _ hvv hroom ho1 ho2 hosz
            exact ⟨v2, φ', ω', lam, w1, _, h1, .inl rfl, h2.trel, live_glob rfl, h3.of_drop⟩
        · -- a row whose end is known
          have hex := hobj.1 rfl
          obtain ⟨v2, φ', ω', w1, h1, h2, h3⟩ := fresh s hs hf rfl _ old' _ _ hvv (by omega) ho1 ho2 hosz
          exact ⟨v2, φ', ω', lam, w1, _, h1, .inl rfl, h2.trel, live_glob rfl, h3⟩

end
end Go.Am

/- Copies, lengths, maps. -/
namespace Go.Am
variable {Z : Zone}
section
variable {g : Cfg} {base : Base} {c : Ctx} {φ : Nat → Pl} {ω : Nat → Option Tag} {lam : Nat → Nat} {fr : Fr} {s : St} {rs : List Nat} {a : Act} {w w' : World}

theorem copy_ok (hs : SRel g base φ ω c s w) (hf : FRel φ c s.next lam ω fr rs a w) {o : Oper} {cl : Call} (ho : o.op = .call cl) (hcl : cl.callee = .builtin .copy) {as : List Value} (has : evL g fr cl.args.toList = some as)
    {r : Value × St} (h : doCopy g c s cl.argTypes as = some r) : OpOk g base c φ ω lam fr s a w o r.1 fr.loc r.2 := by
  unfold doCopy at h
  split at h
  · rename_i v x
    replace h := bind_some h; obtain ⟨st, hst, h⟩ := h
    obtain ⟨v', x', hA, hv, hx⟩ := args2 hs hf has
    have lift : ∀ {v2 : Value} {W : World}, (Builtin.copy_ cl.argTypes o.type #[v', x']).run g.P w = .ok v2 W → (execOp a.eval o).run g.P w = .ok (.value v2) W := fun h => by
      refine builtin_run ho hcl ?_
      rw [hA]
      simp only [builtin, Sem.run_bind, h, Result.andThen_ok, Sem.run_pure]
    split at h
    · rename_i elem b dl dc hu
      replace h := bind_some h; obtain ⟨size, hsize, h⟩ := h
      replace h := bind_some h; obtain ⟨m, hm, h⟩ := h
      unfold sizeOf? at hsize
      have hlen := len_run (g := g) hs.nosame hx hm w
      -- the run, from the cells
      have run : ∀ (b' : Option Addr) (cap' : Nat) (new' : Array Value) (W : World), v' = .slice b' dl cap' → (Builtin.firstCells size (Nat.min m dl) x').run g.P w = .ok new' w →
          ((match b' with | some ad => storeCells ad new'.toList | none => pure () : Sem Unit).run g.P w = .ok () W) → (Builtin.copy_ cl.argTypes o.type #[v', x']).run g.P w = .ok (.int .i64 (Nat.min m dl : Nat)) W := by
        intro b' cap' new' W hv' hf1 hst1
        subst hv'
        unfold Builtin.copy_
        simp only [hst, List.size_toArray, List.length_cons, List.length_nil, Nat.zero_add, Nat.reduceAdd, Nat.reduceLT, getElem?_pos, List.getElem_toArray, List.getElem_cons_zero, List.getElem_cons_succ, Sem.run_bind, run_under hu, Result.andThen_ok,
          hlen, run_size hsize, hf1]
        cases b' with
        | none => simp only at hst1; cases hst1; rfl
        | some ad => simp only at hst1; simp only [Sem.run_bind, hst1, Result.andThen_ok, Sem.run_pure]; rfl
      simp only at h
      split at h
      · rename_i h0
        cases h
        have hf0 : ∃ cells, (Builtin.firstCells size 0 x').run g.P w = .ok cells w ∧ cells.toList = [] := by
          unfold lenV at hm
          split at hm
          · cases hx
            · exact ⟨#[], rfl, rfl⟩
            · exact ⟨#[], by simp [Builtin.firstCells, loadCells, loadCellsFrom], rfl⟩
          · cases hx; exact ⟨_, rfl, by simp [ByteArray.data_extract]⟩
          · cases hx with
            | vslice => exact ⟨#[], by simp [Builtin.firstCells, loadCells, loadCellsFrom], rfl⟩
            | vnil _ _ _ _ p =>
              cases p with
              | none => exact ⟨#[], rfl, rfl⟩
              | some p => exact ⟨#[], by simp [Builtin.firstCells, loadCells, loadCellsFrom], rfl⟩
            | vsame _ _ _ _ hz => exact (hs.nosame hz).elim
          · cases hm
        obtain ⟨cells, hc1, hc2⟩ := hf0
        refine OpOk.sameV hs hf (v' := .int .i64 0) (lift ?_) (.int _ _)
        have e : ((Nat.min m dl : Nat) : Int) = 0 := by rw [h0]; rfl
        cases hv with
        | nilSlice => have := run none dc cells w rfl (by rw [h0]; exact hc1) rfl; rw [e] at this; exact this
        | slice id off _ _ hid => have := run _ _ cells w rfl (by rw [h0]; exact hc1) (by simp only [hc2, storeCells]; rfl); rw [e] at this; exact this
      · rename_i h0
        replace h := bind_some h; obtain ⟨new, hnew, h⟩ := h
        have hcells : ∃ new', (Builtin.firstCells size (Nat.min m dl) x').run g.P w = .ok new' w ∧ Arel φ c s.next new new' := by
          split at hnew
          · rename_i bb
            cases hnew; cases hx
            refine ⟨_, rfl, ⟨by simp, fun i x x' hx hx' => ?_⟩⟩
            rw [Array.getElem?_map] at hx hx'
            rw [hx] at hx'; cases hx'
            obtain ⟨y, _, rfl⟩ := Option.map_eq_some_iff.1 hx
            exact .int _ _
          · obtain ⟨new', h1, h2⟩ := cellsOf_run hs hx hnew
            exact ⟨new', h1 w rfl, h2⟩
        obtain ⟨new', hn1, hn2⟩ := hcells
        split at h
        · rename_i id off
          replace h := bind_some h; obtain ⟨_, hc, h⟩ := h
          rw [chk_some, beq_iff_eq] at hc
          replace h := bind_some h; obtain ⟨s', hw, h⟩ := h
          cases h
          have hvv : v' = .slice (some ⟨(φ id).blk, (φ id).off + off, none⟩) dl (dc + (φ id).ex) := by cases hv; rfl
          by_cases hne : new.toList = []
          · have he : new'.toList = [] := by
              have h1 : new.size = 0 := by simpa using congrArg List.length hne
              have h2 : new'.size = 0 := by rw [← hn2.1]; exact h1
              simpa using h2
            obtain ⟨cs, sz, sp, hv', hg, hfl, hlen', hone, rfl⟩ := write_some hw
            have heq : blit cs off new.toList = cs := by rw [hne]; rfl
            rw [heq]
            have hbi : base.id ≤ id := hs.bf id hfl
            refine ⟨.int .i64 (Nat.min m dl : Nat), φ, ω, lam, w, _, lift (run _ _ new' w hvv hn1 (by simp only [he, storeCells]; rfl)), .inl rfl, (Vrel.int _ _).trel, live_glob rfl, ⟨fun _ _ => rfl, Nat.le_refl _, ?_, hf.own, fun d cs h => .inl ⟨rfl, cs, h⟩, fun d cs h => ⟨rfl, cs, h⟩, Keep.refl _ _ _ _ _⟩⟩
            exact SRel.putObj hs (Nat.le_refl _) hbi (hs.dom _ _ hg) (Nat.le_refl _) (fun _ _ => rfl) (fun _ _ _ => ⟨rfl, rfl⟩) (fun _ => hs.obj id _ hg hv') (fun _ hso => hs.tag id _ hg hv' hbi hso) hs.tags
          · obtain ⟨cur, el, hb, hsz2, hone', hpost⟩ := write_post hs hf hw (vs' := new'.toList) (by simpa using hn2) hne
            refine ⟨.int .i64 (Nat.min m dl : Nat), φ, ω, lam, _, _, lift (run _ _ new' _ hvv hn1 ?_), .inl rfl, (Vrel.int _ _).trel, live_glob rfl, hpost⟩
            have := run_storeCells_blit (P := g.P) (φ id).blk el new'.toList ((φ id).off + off) 0 cur w hb (by simpa using hsz2) hone'
            rw [Nat.add_zero] at this
            exact this
        · cases h
    · cases h
  · cases h

theorem clear_ok (hs : SRel g base φ ω c s w) (hf : FRel φ c s.next lam ω fr rs a w) {o : Oper} {cl : Call} (ho : o.op = .call cl) (hcl : cl.callee = .builtin .clear) {as : List Value} (has : evL g fr cl.args.toList = some as)
    {r : Value × St} (h : doClear g c s cl.argTypes as = some r) : OpOk g base c φ ω lam fr s a w o r.1 fr.loc r.2 := by
  unfold doClear at h
  split at h
  · rename_i x
    replace h := bind_some h; obtain ⟨t, ht, h⟩ := h
    obtain ⟨x', hA, hx⟩ := args1 hs hf has
    have lift : ∀ {v2 : Value} {W : World}, (Builtin.clear_ cl.argTypes o.type #[x']).run g.P w = .ok v2 W → (execOp a.eval o).run g.P w = .ok (.value v2) W := fun h => by
      refine builtin_run ho hcl ?_
      rw [hA]
      simp only [builtin, Sem.run_bind, h, Result.andThen_ok, Sem.run_pure]
    have e0 : Vrel φ c s.next (.tuple #[]) (.tuple #[]) := plain_rel φ c s.next 1 _ (by simp [plainN])
    split at h
    · rename_i elem b cp hu
      cases h
      refine OpOk.sameV hs hf (v' := .tuple #[]) (lift ?_) e0
      unfold Builtin.clear_
      cases hx <;> (simp only [ht, List.size_toArray, List.length_cons, List.length_nil, Nat.zero_add, Nat.lt_add_one, getElem?_pos, List.getElem_toArray, List.getElem_cons_zero, Sem.run_bind, run_under hu, Result.andThen_ok]; rfl)
    · rename_i elem id off n cp hn0 hu
      replace h := bind_some h; obtain ⟨i, hi, h⟩ := h
      replace h := bind_some h; obtain ⟨zero, hz, h⟩ := h
      replace h := bind_some h; obtain ⟨_, hc, h⟩ := h
      rw [chk_some, Bool.and_eq_true, decide_eq_true_eq] at hc
      replace h := bind_some h; obtain ⟨s', hw, h⟩ := h
      cases h
      have hxx : x' = .slice (some ⟨(φ id).blk, (φ id).off + off, none⟩) n (cp + (φ id).ex) := by cases hx; rfl
      have hzz : (g.P.info? elem).bind (·.zero) = some zero := by rw [hi]; exact hz
      have hn : n ≠ 0 := fun e => hn0 e
      have run : ∀ W, ((storeCells ⟨(φ id).blk, (φ id).off + off, none⟩ (Builtin.zeroCells zero.cells n).toList).run g.P w = .ok () W) → (Builtin.clear_ cl.argTypes o.type #[x']).run g.P w = .ok (.tuple #[]) W := by
        intro W hst
        subst hxx
        obtain ⟨k, rfl⟩ : ∃ k, n = k + 1 := ⟨n - 1, by omega⟩
        unfold Builtin.clear_
        simp only [ht, List.size_toArray, List.length_cons, List.length_nil, Nat.zero_add, Nat.lt_add_one, getElem?_pos, List.getElem_toArray, List.getElem_cons_zero, Sem.run_bind, run_under hu, Result.andThen_ok, run_zero hzz, hst, Sem.run_pure]
      have hrel : Arel φ c s.next (Builtin.zeroCells zero.cells n) (Builtin.zeroCells zero.cells n) := by
        refine ⟨rfl, fun k y y' hy hy' => ?_⟩
        rw [hy] at hy'; cases hy'
        unfold Builtin.zeroCells at hy
        rw [Array.getElem?_map] at hy
        obtain ⟨j, hj, rfl⟩ := Option.map_eq_some_iff.1 hy
        by_cases hzs : zero.cells.size = 0
        · have := (Array.getElem?_eq_some_iff.1 hj).1
          simp [hzs] at this
        · have hlt : j % zero.cells.size < zero.cells.size := Nat.mod_lt _ (by omega)
          have := plain_arel (Z := Z) (φ := φ) (c := c) (n := s.next) hc.1
          refine this.2 (j % zero.cells.size) _ _ ?_ ?_ <;> simp [hlt]
      by_cases hne : (Builtin.zeroCells zero.cells n).toList = []
      · obtain ⟨cs, sz, sp, hv', hg, hfl, hlen', hone, rfl⟩ := write_some hw
        have heq : blit cs off (Builtin.zeroCells zero.cells n).toList = cs := by rw [hne]; rfl
        rw [heq]
        have hbi : base.id ≤ id := hs.bf id hfl
        refine ⟨.tuple #[], φ, ω, lam, w, _, lift (run w (by rw [hne]; rfl)), .inl rfl, e0.trel, live_glob rfl, ⟨fun _ _ => rfl, Nat.le_refl _, ?_, hf.own, fun d cs h => .inl ⟨rfl, cs, h⟩, fun d cs h => ⟨rfl, cs, h⟩, Keep.refl _ _ _ _ _⟩⟩
        exact SRel.putObj hs (Nat.le_refl _) hbi (hs.dom _ _ hg) (Nat.le_refl _) (fun _ _ => rfl) (fun _ _ _ => ⟨rfl, rfl⟩) (fun _ => hs.obj id _ hg hv') (fun _ hso => hs.tag id _ hg hv' hbi hso) hs.tags
      · obtain ⟨cur, el, hb, hsz2, hone', hpost⟩ := write_post hs hf hw (vs' := (Builtin.zeroCells zero.cells n).toList) (by simpa using hrel) hne
        refine ⟨.tuple #[], φ, ω, lam, _, _, lift (run _ ?_), .inl rfl, (plain_rel φ c s'.next 1 (.tuple #[]) (by simp [plainN])).trel, live_glob rfl, hpost⟩
        have := run_storeCells_blit (P := g.P) (φ id).blk el (Builtin.zeroCells zero.cells n).toList ((φ id).off + off) 0 cur w hb (by simpa using hsz2) hone'
        rw [Nat.add_zero] at this
        exact this
    · cases h
  · cases h

theorem map_obj (hs : SRel g base φ ω c s w) {id : Nat} {es : List (Value × Value)} (h : mapAt c s id = some es) : ∃ es' clock, w.heap[(φ id).blk]? = some (.map es' clock) ∧ es'.size = es.length ∧
      ∀ (i : Nat) (e : Value × Value), es[i]? = some e → ∃ e' : MapEntry, es'[i]? = some e' ∧ plainN 8 e.1 = true ∧ e'.key = e.1 ∧ Vrel φ c s.next e.2 e'.val := by
  obtain ⟨hv, hg⟩ := mapAt_some h
  exact hs.obj id _ hg hv

theorem run_getObj {id : Nat} {ob : Obj} (h : w.heap[id]? = some ob) (hc : ob.isCells = false) : (getObj id).run g.P w = .ok ob w := by
  simp only [getObj, Sem.run, h]
  cases ob <;> first | rfl | simp [Obj.isCells] at hc

def lenBody (d : TypeDesc) (x : Value) : Sem Value :=
  match d, x with
  | .string, .string s => pure (goInt s.size)
  | .array n _, _ => pure (goInt n)
  | .pointer arr, _ => do
    let .array n _ ← underlying arr | stuck "len: pointer to array expected"
    pure (goInt n)
  | .slice _, .slice _ n _ => pure (goInt n)
  | .map _ _, .map none | .chan _ _, .chan none => pure (goInt 0)
  | .map _ _, .map (some r) => do
    let .map entries _ ← getObj r | stuck "len: map expected"
    pure (goInt entries.size)
  | .chan _ _, .chan (some r) => do
    let .chan _ buf _ _ _ timer ← getObj r | stuck "len: channel expected"
    pure (goInt (if timer then 0 else buf.size))
  | _, _ => stuck "len: string, array, pointer to array, slice, map or channel expected"

theorem len_pre {ts : Array TypeId} {t : TypeId} (ht : ts[0]? = some t) {d : TypeDesc} (hd : g.P.underlying t = some d) (tt : TypeId) (x : Value) : (Builtin.len_ ts tt #[x]).run g.P w = (lenBody d x).run g.P w := by
  unfold Builtin.len_ lenBody
  simp only [ht, List.size_toArray, List.length_cons, List.length_nil, Nat.zero_add, Nat.lt_add_one, getElem?_pos, List.getElem_toArray, List.getElem_cons_zero, Sem.run_bind, run_under hd, Result.andThen_ok]
  rfl

theorem len_ok (hs : SRel g base φ ω c s w) (hf : FRel φ c s.next lam ω fr rs a w) {o : Oper} {cl : Call} (ho : o.op = .call cl) (hcl : cl.callee = .builtin .len) {as : List Value} (has : evL g fr cl.args.toList = some as)
    {r : Value} (h : doLen g c s cl.argTypes as = some r) : OpOk g base c φ ω lam fr s a w o r fr.loc s := by
  unfold doLen at h
  split at h
  · rename_i x
    replace h := bind_some h; obtain ⟨t, ht, h⟩ := h
    obtain ⟨x', hA, hx⟩ := args1 hs hf has
    have lift : ∀ {v2 : Value} {W : World}, (Builtin.len_ cl.argTypes o.type #[x']).run g.P w = .ok v2 W → (execOp a.eval o).run g.P w = .ok (.value v2) W := fun h => by
      refine builtin_run ho hcl ?_
      rw [hA]
      simp only [builtin, Sem.run_bind, h, Result.andThen_ok, Sem.run_pure]
    have pre := fun d (hd : g.P.underlying t = some d) => len_pre (w := w) ht hd o.type x'
    split at h
    · rename_i b hu; cases h
      refine OpOk.sameV hs hf (v' := .int .i64 b.size) (lift ?_) (.int _ _)
      rw [pre _ hu]; cases hx; rfl
    · rename_i n e hu; cases h
      refine OpOk.sameV hs hf (v' := .int .i64 n) (lift ?_) (.int _ _)
      rw [pre _ hu]; rfl
    · rename_i e b n cp hu; cases h
      refine OpOk.sameV hs hf (v' := .int .i64 n) (lift ?_) (.int _ _)
      rw [pre _ hu]; cases hx <;> rfl
    · rename_i e nm X off n hu; cases h
      refine OpOk.sameV hs hf (v' := .int .i64 n) (lift ?_) (.int _ _)
      rw [pre _ hu]
      cases hx with
      | vslice => rfl
      | vnil => rfl
      | vsame _ _ _ _ hz => exact (hs.nosame hz).elim
    · rename_i k e hu; cases h
      refine OpOk.sameV hs hf (v' := .int .i64 0) (lift ?_) (.int _ _)
      rw [pre _ hu]; cases hx; rfl
    · rename_i k e id hu
      split at h
      · rename_i es hl; cases h
        have hm : mapAt c s id = some es := by simp [mapAt, hl]
        obtain ⟨es', clock, h1, h2, _⟩ := map_obj hs hm
        refine OpOk.sameV hs hf (v' := .int .i64 es.length) (lift ?_) (.int _ _)
        rw [pre _ hu]
        cases hx
        have := run_getObj (g := g) h1 rfl
        simp only [lenBody, Sem.run_bind, this, Result.andThen_ok, Sem.run_pure, h2]; rfl
      · cases h
    · cases h
  · cases h

/-! ### Keys -/
theorem find_rel (kt : TypeId) (k : Value) : ∀ (es : List (Value × Value)) (es' : List MapEntry) (j : Nat), es'.length = es.length → (∀ (i : Nat) (e : Value × Value) (e' : MapEntry), es[i]? = some e → es'[i]? = some e' → e'.key = e.1) →
    (∀ (d : TypeDesc) r, Instr.findNow d k (entries es) j = some r → ∃ r', Instr.findNow d k es' j = some r' ∧ r'.map (·.1) = r.map (·.1) ∧ (∀ i v', r' = some (i, v') → ∃ e', es'[i - j]? = some e' ∧ e'.val = v' ∧ j ≤ i)) ∧
    (∀ d, Instr.findNow d k (entries es) j = none → Instr.findNow d k es' j = none) ∧
    (∀ r, purely g.P (Instr.findAsking kt k (entries es) j) = some r → ∃ r', purely g.P (Instr.findAsking kt k es' j) = some r' ∧ r'.map (·.1) = r.map (·.1) ∧ (∀ i v', r' = some (i, v') → ∃ e', es'[i - j]? = some e' ∧ e'.val = v' ∧ j ≤ i)) := by
  intro es
  induction es with
  | nil =>
    intro es' j hl _
    cases es' with
    | cons => simp at hl
    | nil =>
      refine ⟨fun d r h => ?_, fun d h => by simp [entries, Instr.findNow] at h, fun r h => ?_⟩
      · simp [entries, Instr.findNow] at h; subst h; exact ⟨none, rfl, rfl, fun i v' h => by cases h⟩
      · have : r = none := by
          simp only [entries, List.map_nil, Instr.findAsking] at h
          exact (Option.some.inj h).symm
        subst this; exact ⟨none, rfl, rfl, fun i v' h => by cases h⟩
  | cons e es ih =>
    intro es' j hl hk
    cases es' with
    | nil => simp at hl
    | cons e' es' =>
      have hke : e'.key = e.1 := hk 0 e e' rfl rfl
      obtain ⟨i1, i2, i3⟩ := ih es' (j + 1) (by simpa using hl) (fun i a b ha hb => hk (i + 1) a b (by simpa using ha) (by simpa using hb))
      have shift : ∀ r' : Option (Nat × Value), (∀ i v', r' = some (i, v') → ∃ e0, es'[i - (j + 1)]? = some e0 ∧ e0.val = v' ∧ j + 1 ≤ i) → ∀ i v', r' = some (i, v') → ∃ e0, (e' :: es')[i - j]? = some e0 ∧ e0.val = v' ∧ j ≤ i := by
        intro r' h i v' hr
        obtain ⟨e0, h1, h2, h3⟩ := h i v' hr
        exact ⟨e0, by rw [show i - j = (i - (j + 1)) + 1 by omega]; simpa using h1, h2, by omega⟩
      refine ⟨fun d r h => ?_, fun d h => ?_, fun r h => ?_⟩
      · simp only [entries, List.map_cons, Instr.findNow] at h ⊢
        rw [hke]
        split at h
        · cases h
          exact ⟨some (j, e'.val), rfl, rfl, fun i v' h => by cases h; exact ⟨e', by simp, rfl, Nat.le_refl _⟩⟩
        · obtain ⟨r', a, b, d⟩ := i1 _ _ h
          exact ⟨r', a, b, shift _ d⟩
        · cases h
      · simp only [entries, List.map_cons, Instr.findNow] at h ⊢
        rw [hke]
        split at h
        · cases h
        · exact i2 _ h
        · rfl
      · simp only [entries, List.map_cons, Instr.findAsking] at h ⊢
        rw [hke]
        generalize Op.equal kt k e.1 = q at h ⊢
        -- a program that only asks the tables
        have key : ∀ (q : Sem Bool), purely g.P (q.bind fun b => if b then Sem.pure (some (j, e.2)) else Instr.findAsking kt k (entries es) (j + 1)) = some r → ∃ r', purely g.P (q.bind fun b => if b then Sem.pure (some (j, e'.val)) else Instr.findAsking kt k es' (j + 1)) = some r' ∧ r'.map (·.1) = r.map (·.1) ∧
            (∀ i v', r' = some (i, v') → ∃ e0, (e' :: es')[i - j]? = some e0 ∧ e0.val = v' ∧ j ≤ i) := by
          intro q
          induction q with
          | pure b =>
            intro h
            cases b with
            | true =>
              simp only [Sem.bind, if_true, purely, Option.some.injEq] at h ⊢
              subst h
              exact ⟨_, rfl, rfl, fun i v' h => by cases h; exact ⟨e', by simp, rfl, Nat.le_refl _⟩⟩
            | false =>
              simp only [Sem.bind, Bool.false_eq_true, if_false] at h ⊢
              obtain ⟨r', a, b, d⟩ := i3 _ h
              exact ⟨r', a, b, shift _ d⟩
          | program kk ih => intro h; exact ih _ h
          | mark m kk ih => intro h; exact ih h
          | load | store | new | shape | freeze | frozen | getObj | setObj | choose | sys | halt => intro h; simp [Sem.bind, purely] at h
        exact key q h


theorem purely_bind {P : Program} {α β : Type} (x : Sem α) (f : α → Sem β) {b : β} (h : purely P (x.bind f) = some b) : ∃ y, purely P x = some y ∧ purely P (f y) = some b := by
  induction x with
  | pure y => exact ⟨y, rfl, h⟩
  | program k ih => exact ih _ h
  | mark m k ih => exact ih h
  | load | store | new | shape | freeze | frozen | getObj | setObj | choose | sys | halt => simp [Sem.bind, purely] at h

theorem purely_bind_mk {P : Program} {α β : Type} (x : Sem α) (f : α → Sem β) {y : α} (h : purely P x = some y) : purely P (x.bind f) = purely P (f y) := by
  induction x with
  | pure z => simp only [purely, Option.some.injEq] at h; subst h; rfl
  | program k ih => exact ih _ h
  | mark m k ih => exact ih h
  | load | store | new | shape | freeze | frozen | getObj | setObj | choose | sys | halt => simp [purely] at h

theorem findKey_rel (kt : TypeId) (k : Value) {es : List (Value × Value)} {es' : List MapEntry} (hl : es'.length = es.length) (hk : ∀ (i : Nat) (e : Value × Value) (e' : MapEntry), es[i]? = some e → es'[i]? = some e' → e'.key = e.1) {r : Option (Nat × Value)}
    (h : purely g.P (Instr.findKey kt k (entries es)) = some r) :
    ∃ r', purely g.P (Instr.findKey kt k es') = some r' ∧ r'.map (·.1) = r.map (·.1) ∧ (∀ i v', r' = some (i, v') → ∃ e', es'[i]? = some e' ∧ e'.val = v') := by
  unfold Instr.findKey at h ⊢
  obtain ⟨d, hd, h⟩ := purely_bind _ _ h
  obtain ⟨i1, i2, i3⟩ := find_rel (g := g) kt k es es' 0 hl hk
  simp only [bind]
  rw [purely_bind_mk _ _ hd]
  split at h
  · rename_i r0 hr0
    simp only [purely, pure, Option.some.injEq] at h; subst h
    obtain ⟨r', a, b, e⟩ := i1 _ _ hr0
    refine ⟨r', by rw [a]; rfl, b, fun i v' h => ?_⟩
    obtain ⟨e', h1, h2, _⟩ := e i v' h
    exact ⟨e', by simpa using h1, h2⟩
  · rename_i hr0
    obtain ⟨r', a, b, e⟩ := i3 _ h
    refine ⟨r', by rw [i2 _ hr0]; exact a, b, fun i v' h => ?_⟩
    obtain ⟨e', h1, h2, _⟩ := e i v' h
    exact ⟨e', by simpa using h1, h2⟩

theorem lookup_run {t key elem : TypeId} (hu : g.P.underlying t = some (.map key elem)) {m k : Value} {es' : Array MapEntry} (hm : (m = .map none ∧ es' = #[]) ∨ ∃ r clock, m = .map (some r) ∧ w.heap[r]? = some (.map es' clock)) {u : Unit}
    (hck : (Instr.checkKey es'.isEmpty 10000 key k).run g.P w = .ok u w) (ok : Bool) :
    (∀ i v, (Instr.findKey key k es'.toList).run g.P w = .ok (some (i, v)) w → (Instr.lookup t m k ok).run g.P w = .ok (if ok then .tuple #[v, .bool true] else v) w) ∧
    (∀ zero, (g.P.info? elem).bind (·.zero) = some zero → (Instr.findKey key k es'.toList).run g.P w = .ok none w → (Instr.lookup t m k ok).run g.P w = .ok (if ok then .tuple #[zero, .bool false] else zero) w) := by
  unfold Instr.lookup
  rcases hm with ⟨rfl, rfl⟩ | ⟨r, clock, rfl, hr⟩
  · constructor
    · intro i v hf
      simp only [Sem.run_bind, run_under hu, Result.andThen_ok, Sem.run_pure, hck, hf]
    · intro zero hz hf
      simp only [Sem.run_bind, run_under hu, Result.andThen_ok, Sem.run_pure, hck, hf, run_zero hz]
  · have hg := run_getObj (g := g) hr rfl
    constructor
    · intro i v hf
      simp only [Sem.run_bind, run_under hu, Result.andThen_ok, Sem.run_pure, hg, hck, hf]
    · intro zero hz hf
      simp only [Sem.run_bind, run_under hu, Result.andThen_ok, Sem.run_pure, hg, hck, hf, run_zero hz]

theorem pair_rel {φ : Nat → Pl} {c : Ctx} {n : Nat} {v v' : Value} (h : Vrel φ c n v v') (ok b : Bool) : Vrel φ c n (if ok then .tuple #[v, .bool b] else v) (if ok then .tuple #[v', .bool b] else v') := by
  cases ok with
  | true =>
    simp only [if_true]
    refine .tuple _ _ rfl (fun i y y' hy hy' => ?_)
    match i with
    | 0 => simp at hy hy'; subst hy hy'; exact h
    | 1 => simp at hy hy'; subst hy hy'; exact .bool _
    | i + 2 => simp at hy
  | false => exact h

theorem lookup_ok (hs : SRel g base φ ω c s w) (hf : FRel φ c s.next lam ω fr rs a w) {o : Oper} {t : TypeId} {x ix : Operand} {ok : Bool} (ho : o.op = .lookup t x ix ok) {r : Value} (h : doLookup g c fr s t x ix ok = some r) :
    OpOk g base c φ ω lam fr s a w o r fr.loc s := by
  unfold doLookup at h
  replace h := bind_some h; obtain ⟨m, hm, h⟩ := h
  replace h := bind_some h; obtain ⟨k, hk, h⟩ := h
  replace h := bind_some h; obtain ⟨_, hp, h⟩ := h
  rw [chk_some] at hp
  have hmr := gev_rel hs hf hm
  have hkr := plain_eq 8 _ _ hp (gev_rel hs hf hk)
  split at h
  · rename_i key elem r0 hu
    replace h := bind_some h; obtain ⟨es, hes, h⟩ := h
    replace h := bind_some h; obtain ⟨f, hfe, h⟩ := h
    have hent : ∃ es' : Array MapEntry, ((a.eval x = .map none ∧ es' = #[]) ∨ ∃ r clock, a.eval x = .map (some r) ∧ w.heap[r]? = some (.map es' clock)) ∧ es'.size = es.length ∧
        ∀ (i : Nat) (e : Value × Value), es[i]? = some e → ∃ e' : MapEntry, es'[i]? = some e' ∧ plainN 8 e.1 = true ∧ e'.key = e.1 ∧ Vrel φ c s.next e.2 e'.val := by
      cases r0 with
      | none =>
        simp only [Option.some.injEq] at hes; subst hes
        refine ⟨#[], .inl ⟨?_, rfl⟩, rfl, fun i e h => by simp at h⟩
        generalize a.eval x = z at hmr; cases hmr; rfl
      | some id =>
        obtain ⟨es', clock, h1, h2, h3⟩ := map_obj hs hes
        refine ⟨es', .inr ⟨(φ id).blk, clock, ?_, h1⟩, h2, h3⟩
        generalize a.eval x = z at hmr; cases hmr; rfl
    obtain ⟨es', hrun, hsz, hall⟩ := hent
    unfold findEntry at hfe
    replace hfe := bind_some hfe; obtain ⟨u, hck, hfe⟩ := hfe
    replace hfe := bind_some hfe; obtain ⟨r1, hr1, hfe⟩ := hfe
    cases hfe
    have hemp : es'.isEmpty = es.isEmpty := by
      have : es'.toList.length = es.length := by simpa using hsz
      rw [← Array.isEmpty_toList]
      cases es with
      | nil => simp only [List.length_nil, List.length_eq_zero_iff] at this; rw [this]; rfl
      | cons e r => cases hl : es'.toList with
        | nil => rw [hl] at this; simp at this
        | cons => rfl
    obtain ⟨r', hr', hrm, hrv⟩ := findKey_rel (g := g) key k (es' := es'.toList) (by simpa using hsz) (fun i e e' h1 h2 => by
      obtain ⟨e2, a1, _, a3, _⟩ := hall i e h1
      have : es'.toList[i]? = some e2 := by simpa using a1
      rw [this] at h2; cases h2; exact a3) hr1
    rw [← hemp] at hck
    obtain ⟨l1, l2⟩ := lookup_run hu hrun (purely_run hck w) ok
    have hfk := purely_run hr' w
    cases r1 with
    | some p =>
      obtain ⟨i, v0⟩ := p
      simp only [Option.map_some] at h hrm
      replace h := bind_some h; obtain ⟨e, he, h⟩ := h
      cases h
      obtain ⟨⟨i', v'⟩, rfl, hi'⟩ := Option.map_eq_some_iff.1 hrm
      simp only at hi'; subst hi'
      obtain ⟨e', he', hv'⟩ := hrv _ _ rfl
      obtain ⟨e2, a1, _, _, a4⟩ := hall _ _ he
      have : es'.toList[i']? = some e2 := by simpa using a1
      rw [this] at he'; cases he'; subst hv'
      refine OpOk.sameV hs hf (v' := if ok then .tuple #[e'.val, .bool true] else e'.val) ?_ (pair_rel a4 ok true)
      simp only [execOp, ho, Sem.run_bind, hkr, l1 _ _ hfk, Result.andThen_ok, Sem.run_pure]
    | none =>
      simp only [Option.map_none] at h hrm
      replace h := bind_some h; obtain ⟨zero, hz, h⟩ := h
      replace h := bind_some h; obtain ⟨_, hpz, h⟩ := h
      rw [chk_some] at hpz
      cases h
      have hr0 : r' = none := Option.map_eq_none_iff.1 hrm
      subst hr0
      refine OpOk.sameV hs hf (v' := if ok then .tuple #[zero, .bool false] else zero) ?_ (pair_rel (plain_rel φ c s.next 8 _ hpz) ok false)
      simp only [execOp, ho, Sem.run_bind, hkr, l2 _ hz hfk, Result.andThen_ok, Sem.run_pure]
  · cases h


/-- A map of one's own is turned. -/
theorem map_post (hs : SRel g base φ ω c s w) (hf : FRel φ c s.next lam ω fr rs a w) {id : Nat} {es es2 : List (Value × Value)} {es' es2' : Array MapEntry} {clock clock2 : Nat} (hm : mapAt c s id = some es) (hfl : c.wr id = true) (hb : w.heap[(φ id).blk]? = some (.map es' clock))
    (hsz : es2'.size = es2.length) (hall : ∀ (i : Nat) (e : Value × Value), es2[i]? = some e → ∃ e' : MapEntry, es2'[i]? = some e' ∧ plainN 8 e.1 = true ∧ e'.key = e.1 ∧ Vrel φ c s.next e.2 e'.val) :
    Post g base c φ φ ω ω lam lam fr.loc fr.loc s { s with heap := s.heap.put id (.map es2) } w { w with heap := w.heap.setIfInBounds (φ id).blk (.map es2' clock2) } := by
  obtain ⟨hv, hg⟩ := mapAt_some hm
  have hbi : base.id ≤ id := hs.bf id hfl
  have htag := hs.tag id _ hg hv hbi trivial
  have hlt := (hs.tags _ _ htag).2.1
  have hsame : ∀ b, b ≠ (φ id).blk → (w.heap.setIfInBounds (φ id).blk (.map es2' clock2))[b]? = w.heap[b]? := fun b hb => by
    rw [Array.getElem?_setIfInBounds, if_neg (fun e => hb e.symm)]
  have hsize : (w.heap.setIfInBounds (φ id).blk (.map es2' clock2)).size = w.heap.size := by simp
  refine ⟨fun _ _ => rfl, Nat.le_refl _, ?_, ?_, fun d cs h => .inl ⟨rfl, cs, h⟩, fun d cs h => ⟨rfl, cs, h⟩, ⟨rfl, rfl, rfl, Nat.le_of_eq hsize.symm, fun b _ hown _ => ⟨hsame b ?_, rfl⟩⟩⟩
  · refine SRel.putObj hs (Nat.le_of_eq hsize.symm) hbi (hs.dom _ _ hg) (Nat.le_refl _) (fun _ _ => rfl) (fun b hb hl => ⟨hsame b ?_, rfl⟩) (fun _ => ⟨es2', clock2, ?_, hsz, hall⟩) (fun _ _ => htag) (fun b t ht => ?_)
    · rintro rfl
      rcases hl with hl | hl | ⟨i, o', h1, h2, h3, h4, h5, h6⟩
      · rw [htag] at hl; cases hl
      · have := (hs.tags _ _ htag).1; omega
      · rw [htag] at h5; cases h5; exact h6 rfl
    · rw [Array.getElem?_setIfInBounds, if_pos rfl, if_pos hlt]
    · obtain ⟨x, y, z⟩ := hs.tags b t ht
      exact ⟨x, by rw [hsize]; exact y, z⟩
  · intro d cs h
    obtain ⟨ht, cs', el', hb', ha⟩ := hf.own d cs h
    have : lam d ≠ (φ id).blk := fun e => by rw [e, htag] at ht; cases ht
    exact ⟨ht, cs', el', by simp only; rw [hsame _ this]; exact hb', ha⟩
  · rintro rfl
    exact hown ⟨id, _, htag, hfl, hv, hg⟩

theorem run_setObj {r : Nat} {ob ob' : Obj} (h : w.heap[r]? = some ob) (hc : ob.isCells = false) : (setObj r ob').run g.P w = .ok () { w with heap := w.heap.setIfInBounds r ob' } := by
  simp only [setObj, Sem.run, h]
  cases ob <;> first | rfl | simp [Obj.isCells] at hc

theorem update_ok (hs : SRel g base φ ω c s w) (hf : FRel φ c s.next lam ω fr rs a w) {o : Oper} {t : TypeId} {x ix y : Operand} (ho : o.op = .mapUpdate t x ix y ∨ o.op = .insert t x ix y) {r : St} (h : doUpdate g c fr s t x ix y = some r) :
    OpOk g base c φ ω lam fr s a w o undef fr.loc r := by
  unfold doUpdate at h
  replace h := bind_some h; obtain ⟨m, hm, h⟩ := h
  replace h := bind_some h; obtain ⟨k, hk, h⟩ := h
  replace h := bind_some h; obtain ⟨v, hv, h⟩ := h
  replace h := bind_some h; obtain ⟨_, hp, h⟩ := h
  rw [chk_some] at hp
  have hmr := gev_rel hs hf hm
  have hkr := plain_eq 8 _ _ hp (gev_rel hs hf hk)
  have hvr := gev_rel hs hf hv
  split at h
  · rename_i key elem id hu
    replace h := bind_some h; obtain ⟨es, hes, h⟩ := h
    replace h := bind_some h; obtain ⟨_, hc, h⟩ := h
    rw [chk_some] at hc
    replace h := bind_some h; obtain ⟨u, hck, h⟩ := h
    replace h := bind_some h; obtain ⟨r1, hr1, h⟩ := h
    obtain ⟨es', clock, h1, hsz, hall⟩ := map_obj hs hes
    have hx : a.eval x = .map (some (φ id).blk) := by generalize a.eval x = z at hmr; cases hmr; rfl
    obtain ⟨r', hr', hrm, hrv⟩ := findKey_rel (g := g) key k (es' := es'.toList) (by simpa using hsz) (fun i e e' h1 h2 => by
      obtain ⟨e2, a1, _, a3, _⟩ := hall i e h1
      have : es'.toList[i]? = some e2 := by simpa using a1
      rw [this] at h2; cases h2; exact a3) hr1
    have hgo := run_getObj (g := g) h1 rfl
    have hck' := purely_run hck w
    have hfk := purely_run hr' w
    have lift : ∀ W, (Instr.mapUpdate t (a.eval x) (a.eval ix) (a.eval y)).run g.P w = .ok () W → (execOp a.eval o).run g.P w = .ok .skip W := by
      intro W hW
      rcases ho with ho | ho <;> simp only [execOp, ho, Sem.run_bind, hW, Result.andThen_ok, Sem.run_pure]
    have undefR : ∀ (n : Nat), Trel φ c n lam undef undef := fun n => (plain_rel φ c n 1 undef (by simp [plainN, undef])).trel
    split at h
    · rename_i i v0
      replace h := bind_some h; obtain ⟨e, he, h⟩ := h
      replace h := bind_some h; obtain ⟨_, hsb, h⟩ := h
      rw [chk_some] at hsb
      cases h
      obtain ⟨⟨i', v'⟩, rfl, hi'⟩ := Option.map_eq_some_iff.1 hrm
      simp only at hi'; subst hi'
      obtain ⟨e2, a1, a2, a3, a4⟩ := hall _ _ he
      have run : (Instr.mapUpdate t (a.eval x) (a.eval ix) (a.eval y)).run g.P w = .ok () { w with heap := w.heap.setIfInBounds (φ id).blk (.map (es'.modify i' fun e => { e with key := k, val := a.eval y }) clock) } := by
        unfold Instr.mapUpdate
        have hkey : ((es'[i']?).map (·.key)).getD k = e.1 := by rw [a1]; exact a3
        simp only [hx, hkr, Sem.run_bind, run_under hu, Result.andThen_ok, hgo, hck', hfk, hkey, Instr.keyThatStays, hsb, if_true, Sem.run_pure, run_setObj (g := g) h1 rfl]
      refine ⟨undef, φ, ω, lam, _, .skip, lift _ run, .inr ⟨rfl, rfl⟩, undefR _, live_glob rfl, map_post hs hf hes hc h1 (by simp [hsz]) (fun j e0 hj => ?_)⟩
      rw [List.getElem?_set] at hj
      by_cases hij : i' = j
      · subst hij
        rw [if_pos rfl] at hj
        split at hj
        · cases hj
          refine ⟨{ e2 with key := k, val := a.eval y }, ?_, hp, rfl, hvr⟩
          rw [Array.getElem?_modify, if_pos rfl, a1]; rfl
        · cases hj
      · rw [if_neg hij] at hj
        obtain ⟨e3, b1, b2, b3, b4⟩ := hall _ _ hj
        exact ⟨e3, by rw [Array.getElem?_modify, if_neg hij]; exact b1, b2, b3, b4⟩
    · cases h
      have hr0 : r' = none := Option.map_eq_none_iff.1 hrm
      subst hr0
      have run : (Instr.mapUpdate t (a.eval x) (a.eval ix) (a.eval y)).run g.P w = .ok () { w with heap := w.heap.setIfInBounds (φ id).blk (.map (es'.push { key := k, val := a.eval y, born := clock }) (clock + 1)) } := by
        unfold Instr.mapUpdate
        simp only [hx, hkr, Sem.run_bind, run_under hu, Result.andThen_ok, hgo, hck', hfk, run_setObj (g := g) h1 rfl]
      refine ⟨undef, φ, ω, lam, _, .skip, lift _ run, .inr ⟨rfl, rfl⟩, undefR _, live_glob rfl, map_post hs hf hes hc h1 (by simp [hsz]) (fun j e0 hj => ?_)⟩
      rw [List.getElem?_append] at hj
      split at hj
      · rename_i hlt
        obtain ⟨e3, b1, b2, b3, b4⟩ := hall _ _ hj
        exact ⟨e3, by rw [Array.getElem?_push, if_neg (by omega)]; exact b1, b2, b3, b4⟩
      · rename_i hge
        have : j = es.length := by
          have := (List.getElem?_eq_some_iff.1 hj).1
          simp at this; omega
        subst this
        simp at hj; subst hj
        exact ⟨{ key := k, val := a.eval y, born := clock }, by rw [← hsz]; simp, hp, rfl, hvr⟩
  · cases h

theorem delete_ok (hs : SRel g base φ ω c s w) (hf : FRel φ c s.next lam ω fr rs a w) {o : Oper} {cl : Call} (ho : o.op = .call cl) (hcl : cl.callee = .builtin .delete) {as : List Value} (has : evL g fr cl.args.toList = some as)
    {r : St} (h : doDelete g c s cl.argTypes as = some r) : OpOk g base c φ ω lam fr s a w o (.tuple #[]) fr.loc r := by
  unfold doDelete at h
  split at h
  · rename_i m k
    replace h := bind_some h; obtain ⟨t, ht, h⟩ := h
    replace h := bind_some h; obtain ⟨_, hp, h⟩ := h
    rw [chk_some] at hp
    obtain ⟨m', k', hA, hmr, hkr⟩ := args2 hs hf has
    have hkr := plain_eq 8 _ _ hp hkr
    rw [hkr] at hA
    have lift : ∀ {v2 : Value} {W : World}, (Builtin.delete_ cl.argTypes o.type #[m', k]).run g.P w = .ok v2 W → (execOp a.eval o).run g.P w = .ok (.value v2) W := fun h => by
      refine builtin_run ho hcl ?_
      rw [hA]
      simp only [builtin, Sem.run_bind, h, Result.andThen_ok, Sem.run_pure]
    have e0 : ∀ n, Vrel φ c n (.tuple #[]) (.tuple #[]) := fun n => plain_rel φ c n 1 _ (by simp [plainN])
    split at h
    · rename_i key elem id hu
      replace h := bind_some h; obtain ⟨es, hes, h⟩ := h
      replace h := bind_some h; obtain ⟨_, hc, h⟩ := h
      rw [chk_some] at hc
      replace h := bind_some h; obtain ⟨f, hfe, h⟩ := h
      unfold findEntry at hfe
      replace hfe := bind_some hfe; obtain ⟨u, hck, hfe⟩ := hfe
      replace hfe := bind_some hfe; obtain ⟨r1, hr1, hfe⟩ := hfe
      cases hfe
      obtain ⟨es', clock, h1, hsz, hall⟩ := map_obj hs hes
      have hm : m' = .map (some (φ id).blk) := by cases hmr; rfl
      have hemp : es'.isEmpty = es.isEmpty := by
        have : es'.toList.length = es.length := by simpa using hsz
        rw [← Array.isEmpty_toList]
        cases es with
        | nil => simp only [List.length_nil, List.length_eq_zero_iff] at this; rw [this]; rfl
        | cons e r => cases hl : es'.toList with
          | nil => rw [hl] at this; simp at this
          | cons => rfl
      obtain ⟨r', hr', hrm, hrv⟩ := findKey_rel (g := g) key k (es' := es'.toList) (by simpa using hsz) (fun i e e' h1 h2 => by
        obtain ⟨e2, a1, _, a3, _⟩ := hall i e h1
        have : es'.toList[i]? = some e2 := by simpa using a1
        rw [this] at h2; cases h2; exact a3) hr1
      rw [← hemp] at hck
      have hgo := run_getObj (g := g) h1 rfl
      have hck' := purely_run hck w
      have hfk := purely_run hr' w
      cases r1 with
      | some p =>
        obtain ⟨i, v0⟩ := p
        simp only [Option.map_some] at h hrm
        cases h
        obtain ⟨⟨i', v'⟩, rfl, hi'⟩ := Option.map_eq_some_iff.1 hrm
        simp only at hi'; subst hi'
        have run : (Builtin.delete_ cl.argTypes o.type #[m', k]).run g.P w = .ok (.tuple #[]) { w with heap := w.heap.setIfInBounds (φ id).blk (.map (es'.eraseIdxIfInBounds i') clock) } := by
          subst hm
          unfold Builtin.delete_
          simp only [ht, List.size_toArray, List.length_cons, List.length_nil, Nat.zero_add, Nat.reduceAdd, Nat.reduceLT, getElem?_pos, List.getElem_toArray, List.getElem_cons_zero, List.getElem_cons_succ, Sem.run_bind, run_under hu, Result.andThen_ok, hgo, hck', hfk, run_setObj (g := g) h1 rfl, Sem.run_pure]
        have hel : (es'.eraseIdxIfInBounds i').toList = es'.toList.eraseIdx i' := by
          unfold Array.eraseIdxIfInBounds
          split
          · simp
          · rename_i hge; rw [List.eraseIdx_of_length_le (by simp at hge ⊢; omega)]
        refine ⟨.tuple #[], φ, ω, lam, _, _, lift run, .inl rfl, (e0 _).trel, live_glob rfl, map_post hs hf hes hc h1 ?_ (fun j e0 hj => ?_)⟩
        · rw [← Array.length_toList, hel, List.length_eraseIdx, List.length_eraseIdx]
          simp [hsz]
        · rw [List.getElem?_eraseIdx] at hj
          have conv : ∀ q, (es'.eraseIdxIfInBounds i')[j]? = q ↔ (es'.toList.eraseIdx i')[j]? = q := fun q => by rw [← Array.getElem?_toList, hel]
          split at hj
          · rename_i hlt
            obtain ⟨e3, b1, b2, b3, b4⟩ := hall _ _ hj
            exact ⟨e3, by rw [conv, List.getElem?_eraseIdx, if_pos hlt]; simpa using b1, b2, b3, b4⟩
          · rename_i hlt
            obtain ⟨e3, b1, b2, b3, b4⟩ := hall _ _ hj
            exact ⟨e3, by rw [conv, List.getElem?_eraseIdx, if_neg hlt]; simpa using b1, b2, b3, b4⟩
      | none =>
        simp only [Option.map_none] at h hrm
        cases h
        have hr0 : r' = none := Option.map_eq_none_iff.1 hrm
        subst hr0
        have hself : w.heap.setIfInBounds (φ id).blk (.map es' clock) = w.heap := by
          apply Array.ext
          · simp
          · intro i h1' h2'
            rw [Array.getElem_setIfInBounds]
            split
            · rename_i e; subst e
              exact ((Array.getElem?_eq_some_iff.1 h1).2).symm
            · rfl
        have run : (Builtin.delete_ cl.argTypes o.type #[m', k]).run g.P w = .ok (.tuple #[]) w := by
          subst hm
          unfold Builtin.delete_
          simp only [ht, List.size_toArray, List.length_cons, List.length_nil, Nat.zero_add, Nat.reduceAdd, Nat.reduceLT, getElem?_pos, List.getElem_toArray, List.getElem_cons_zero, List.getElem_cons_succ, Sem.run_bind, run_under hu, Result.andThen_ok, hgo, hck', hfk, run_setObj (g := g) h1 rfl, Sem.run_pure, hself]
        exact OpOk.sameV hs hf (lift run) (e0 _)
    · rename_i key elem hu
      replace h := bind_some h; obtain ⟨f, hfe, h⟩ := h
      cases h
      unfold findEntry at hfe
      replace hfe := bind_some hfe; obtain ⟨u, hck, hfe⟩ := hfe
      have hm : m' = .map none := by cases hmr; rfl
      have hck' := purely_run hck w
      have run : (Builtin.delete_ cl.argTypes o.type #[m', k]).run g.P w = .ok (.tuple #[]) w := by
        subst hm
        unfold Builtin.delete_
        simp only [ht, List.size_toArray, List.length_cons, List.length_nil, Nat.zero_add, Nat.reduceAdd, Nat.reduceLT, getElem?_pos, List.getElem_toArray, List.getElem_cons_zero, List.getElem_cons_succ, Sem.run_bind, run_under hu, Result.andThen_ok]
        simp only [List.isEmpty_nil] at hck'
        rw [hck']; rfl
      exact OpOk.sameV hs hf (lift run) (e0 _)
    · cases h
  · cases h

end
end Go.Am
