/- Operations: the machine's own answers, in the form in which they are wanted. -/
import Derived.Test.YtgcffmkifjnmlaaAmRel
import Derived.Laws.CopyRow
import Derived.Laws.Entries
namespace Go.Am
variable {g : Cfg} {P : Program}

theorem addr_add (b o n : Nat) : (⟨b, o, none⟩ : Addr).add n = ⟨b, o + n, none⟩ := by
  unfold Addr.add; split <;> simp_all

theorem run_under {t : TypeId} {d : TypeDesc} (h : P.underlying t = some d) (w : World) : (underlying t).run P w = .ok d w := run_underlying h w
theorem run_info {t : TypeId} {i : TypeInfo} (h : P.info? t = some i) (w : World) : (typeInfo t).run P w = .ok i w := by
  simp [typeInfo, program, Sem.run, h]
theorem run_size {t : TypeId} {n : Nat} (h : (P.info? t).map (·.size) = some n) (w : World) : (Go.sizeOf t).run P w = .ok n w := by
  obtain ⟨i, hi, rfl⟩ := Option.map_eq_some_iff.1 h
  simp [Go.sizeOf, run_info hi]
theorem run_zero {t : TypeId} {v : Value} (h : (P.info? t).bind (·.zero) = some v) (w : World) : (zeroValue t).run P w = .ok v w := by
  obtain ⟨i, hi, hz⟩ := bind_some h
  simp [zeroValue, run_info hi, hz]

theorem aggT_run {g : Cfg} {t : TypeId} {b : Bool} (h : aggT g t = some b) (w : World) : (isAgg t).run g.P w = .ok b w := by
  unfold aggT at h
  split at h
  · rename_i hu; cases h; simp [isAgg, run_under hu]
  · rename_i hu; cases h; simp [isAgg, run_under hu]
  · rename_i d h1 h2 hu; cases h
    simp only [isAgg, Sem.run_bind, run_under hu, Result.andThen_ok]
    rfl
  · cases h

theorem run_loadCells_row (w : World) (b o n : Nat) (cs : Array Value) (el : TypeId) (fz : Nat × Nat) (hb : w.heap[b]? = some (.cells cs el fz)) (hn : o + n ≤ cs.size) :
    (loadCells ⟨b, o, none⟩ n).run P w = .ok (cs.extract o (o + n)) w := by
  have hl : (cs.extract o (o + n)).toList.length = n := by simp; omega
  have := run_loadCells_list (P := P) w ⟨b, o, none⟩ (cs.extract o (o + n)).toList (fun j v hv => by
    rw [addr_add]
    simp only [World.cell?, hb]
    have : (cs.extract o (o + n))[j]? = some v := by rw [← Array.getElem?_toList]; exact hv
    rw [Array.getElem?_extract] at this
    split at this
    · simpa using this
    · cases this)
  rw [hl] at this
  rw [this, Array.toArray_toList]

/-- Reading a variable out of a row that stands in the relation. -/
theorem readVar_run {φ : Nat → Pl} {c : Ctx} {n : Nat} {w : World} {b off : Nat} {cs cs' : Array Value} {el : TypeId} {fz : Nat × Nat} (hb : w.heap[b]? = some (.cells cs' el fz)) (hr : RowHas φ c n cs' off cs)
    {t : TypeId} {o : Nat} {v : Value} (h : readVar g t cs o = some v) : ∃ v', (loadVar t ⟨b, off + o, none⟩).run g.P w = .ok v' w ∧ Vrel φ c n v v' := by
  replace h := readVar_old _ h
  unfold readVar0 at h
  obtain ⟨a, ha, h⟩ := bind_some h
  have hrow : ∀ k, k ≤ cs.size → k = 0 ∨ off + k ≤ cs'.size := fun k hk => by
    cases k with
    | zero => exact .inl rfl
    | succ k =>
      obtain ⟨x', hx', _⟩ := hr k cs[k] (Array.getElem?_eq_getElem (by omega))
      have := (Array.getElem?_eq_some_iff.1 hx').1
      exact .inr (by omega)
  cases a with
  | true =>
    simp only [if_true] at h
    obtain ⟨m, hm, h⟩ := bind_some h
    obtain ⟨_, hc, h⟩ := bind_some h
    rw [chk_some, decide_eq_true_eq] at hc
    cases h
    unfold sizeOf? at hm
    rcases hrow (o + m) hc with h0 | h0
    · obtain ⟨rfl, rfl⟩ : o = 0 ∧ m = 0 := by omega
      refine ⟨.agg #[], ?_, ?_⟩
      · simp [loadVar, aggT_run ha, run_size hm, loadCells, loadCellsFrom]
      · have : cs.extract 0 (0 + 0) = #[] := by simp
        rw [this]; exact .agg _ _ rfl (fun i x x' h _ => by simp at h)
    · refine ⟨.agg (cs'.extract (off + o) (off + o + m)), ?_, ?_⟩
      · simp only [loadVar, Sem.run_bind, aggT_run ha, Result.andThen_ok, if_true, run_size hm, run_loadCells_row w b (off + o) m cs' el fz hb (by omega), Sem.run_pure]
      · refine .agg _ _ (by simp; omega) (fun i x x' hx hx' => ?_)
        rw [Array.getElem?_extract] at hx hx'
        split at hx
        · split at hx'
          · obtain ⟨y, hy, hv⟩ := hr _ _ hx
            rw [show off + (o + i) = off + o + i by omega] at hy
            rw [hy] at hx'; cases hx'; exact hv
          · cases hx'
        · cases hx
  | false =>
    simp only [Bool.false_eq_true, if_false] at h
    obtain ⟨v', hv', hv⟩ := hr o v h
    refine ⟨v', ?_, hv⟩
    simp only [loadVar, Sem.run_bind, aggT_run ha, Result.andThen_ok, Bool.false_eq_true, if_false]
    simp [load, Sem.run, World.cell?, hb, hv']

theorem blit_size : ∀ (vs : List Value) (cs : Array Value) (o : Nat), (blit cs o vs).size = cs.size := by
  intro vs
  induction vs with
  | nil => intro cs o; rfl
  | cons v r ih => intro cs o; simp only [blit]; rw [ih]; simp

theorem blit_get : ∀ (vs : List Value) (cs : Array Value) (o i : Nat), o + vs.length ≤ cs.size → (blit cs o vs)[i]? = if o ≤ i ∧ i < o + vs.length then vs[i - o]? else cs[i]? := by
  intro vs
  induction vs with
  | nil => intro cs o i _; simp only [blit, List.length_nil]; rw [if_neg (by omega)]
  | cons v r ih =>
    intro cs o i h
    simp only [List.length_cons] at h
    simp only [blit]
    rw [ih _ _ _ (by simp; omega)]
    by_cases e : i = o
    · subst e
      rw [if_neg (by omega), if_pos (by simp)]
      simp [show i < cs.size by omega]
    · by_cases hlt : o + 1 ≤ i ∧ i < o + 1 + r.length
      · rw [if_pos hlt, if_pos (by simp; omega)]
        rw [show i - o = (i - (o + 1)) + 1 by omega]; simp
      · rw [if_neg hlt, if_neg (by simp; omega)]
        rw [Array.getElem?_setIfInBounds]; rw [if_neg (by omega)]

theorem run_storeCells_blit (b : Nat) (t : TypeId) : ∀ (vs : List Value) (o i : Nat) (cur : Array Value) (w : World), w.heap[b]? = some (.cells cur t (0, 0)) → o + i + vs.length ≤ cur.size → vs.all Value.oneCell' = true →
    (storeCells ⟨b, o, none⟩ vs i).run P w = .ok () (w.setRow b (blit cur (o + i) vs)) := by
  intro vs
  induction vs with
  | nil =>
    intro o i cur w hb _ _
    simp only [storeCells, blit]
    rw [setRow_self w b cur t (0, 0) hb]; rfl
  | cons v r ih =>
    intro o i cur w hb hl h1
    simp only [List.all_cons, Bool.and_eq_true] at h1
    have hi : o + i < cur.size := by simp at hl; omega
    have hst : (store ((⟨b, o, none⟩ : Addr).add i) v).run P w = .ok () (w.setRow b (cur.setIfInBounds (o + i) v)) := by
      rw [addr_add, run_store P w _ v _ h1.1]
      simp [World.cell?, hb, hi, World.frozen?, setCell_eq_setRow w b (o + i) cur t (0, 0) v hb]
    have ih := ih o (i + 1) (cur.setIfInBounds (o + i) v) (w.setRow b (cur.setIfInBounds (o + i) v)) (setRow_heap w b cur _ t _ hb) (by simp at hl ⊢; omega) h1.2
    simp only [storeCells, Sem.run_bind, hst, Result.andThen_ok, ih, setRow_setRow, blit]
    rfl

theorem setRow_size (w : World) (b : Nat) (cs : Array Value) : (w.setRow b cs).heap.size = w.heap.size := by simp [World.setRow]
theorem setRow_other (w : World) (b k : Nat) (cs : Array Value) (h : k ≠ b) : (w.setRow b cs).heap[k]? = w.heap[k]? := by
  simp only [World.setRow]
  rw [Array.getElem?_modify]
  rw [if_neg (fun e => h e.symm)]

theorem cells_rel {φ : Nat → Pl} {c : Ctx} {n : Nat} {v v' : Value} (h : Vrel φ c n v v') : Arel φ c n v.cells v'.cells := by
  cases h with
  | agg a a' ha hA => exact ⟨ha, hA⟩
  | bool | int | float | string | nilPointer | pointer | nilSlice | slice | nilMap | map | func | yield | nilFunc | iface | nilIface | tuple =>
    refine ⟨rfl, fun i x x' hx hx' => ?_⟩
    simp only [Value.cells] at hx hx'
    cases i with
    | zero =>
      simp only [List.size_toArray, List.length_cons, List.length_nil, Nat.zero_add, Nat.lt_add_one, Array.getElem?_eq_getElem, List.getElem_toArray, List.getElem_cons_zero, Option.some.injEq] at hx hx'
      subst hx hx'
      first | exact .bool _ | exact .int _ _ | exact .float _ _ | exact .string _ | exact .nilPointer | exact .pointer _ _ ‹_› | exact .nilSlice _ _ | exact .slice _ _ _ _ ‹_› | exact .nilMap | exact .map _ ‹_› | exact .func _ _ _ _ _ ‹_› ‹_› ‹_› ‹_› | exact .yield _ ‹_› | exact .nilFunc | exact .iface _ _ _ ‹_› | exact .nilIface | exact .tuple _ _ ‹_› ‹_›
    | succ i => simp at hx

theorem one_rel {φ : Nat → Pl} {c : Ctx} {n : Nat} {v v' : Value} (h : Vrel φ c n v v') : v'.oneCell' = v.oneCell' := by
  cases h <;> rfl

theorem all_one {φ : Nat → Pl} {c : Ctx} {n : Nat} {a a' : Array Value} (h : Arel φ c n a a') (h1 : a.toList.all Value.oneCell' = true) : a'.toList.all Value.oneCell' = true := by
  rw [List.all_eq_true] at *
  intro x' hx'
  obtain ⟨i, hi⟩ := List.mem_iff_getElem?.1 hx'
  have hi' : a'[i]? = some x' := by simpa using hi
  obtain ⟨hlt, _⟩ := Array.getElem?_eq_some_iff.1 hi'
  have hlt' : i < a.size := by rw [h.1]; exact hlt
  rw [one_rel (h.2 i _ _ (Array.getElem?_eq_getElem hlt') hi')]
  exact h1 _ (by simp)

end Go.Am
