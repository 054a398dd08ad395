/- Operations that make memory, and that write it. -/
import Derived.Test.YtgcffmkifjnmlaaAmOps3
namespace Go.Am
section
variable {g : Cfg} {base : Base} {c : Ctx} {φ : Nat → Pl} {ω : Nat → Option Tag} {lam : Nat → Nat} {fr : Fr} {s : St} {rs : List Nat} {a : Act} {w w' : World}

def upd {α : Type} (f : Nat → α) (k : Nat) (v : α) : Nat → α := fun i => if i = k then v else f i
theorem upd_self {α : Type} (f : Nat → α) (k : Nat) (v : α) : upd f k v k = v := if_pos rfl
theorem upd_ne {α : Type} (f : Nat → α) {k i : Nat} (v : α) (h : i ≠ k) : upd f k v i = f i := if_neg h

theorem push_old {heap : Array Obj} {o : Obj} {b : Nat} (h : b < heap.size) : (heap.push o)[b]? = heap[b]? := by
  rw [Array.getElem?_push]; rw [if_neg (by omega)]
theorem push_new {heap : Array Obj} {o : Obj} : (heap.push o)[heap.size]? = some o := by simp

/-- A new object of the heap. -/
theorem new_post (hs : SRel g base φ ω c s w) (hf : FRel φ c s.next lam ω fr rs a w) (o' : AObj) (ob : Obj) (ex : Nat) (hw : w'.heap = w.heap.push ob) (h1 : w'.os = w.os) (h2 : w'.tape = w.tape) (h3 : w'.output = w.output)
    (ho : ORel (upd φ s.next ⟨w.heap.size, 0, ex⟩) c (s.next + 1) base s.next (upd ω w.heap.size (some (.obj s.next))) w' o') :
    Post g base c φ (upd φ s.next ⟨w.heap.size, 0, ex⟩) ω (upd ω w.heap.size (some (.obj s.next))) lam lam fr.loc fr.loc s (s.new o') w w' := by
  have hold : ∀ b, b < w.heap.size → w'.heap[b]? = w.heap[b]? ∧ (upd ω w.heap.size (some (.obj s.next))) b = ω b := fun b hb => ⟨by rw [hw]; exact push_old hb, upd_ne _ _ (by omega)⟩
  have hsize : w.heap.size ≤ w'.heap.size := by rw [hw]; simp
  have hφ : ∀ i, i < s.next → (upd φ s.next ⟨w.heap.size, 0, ex⟩) i = φ i := fun i hi => upd_ne _ _ (by omega)
  refine ⟨hφ, by simp [St.new], ?_, ?_, fun d cs h => .inl ⟨rfl, cs, h⟩, fun d cs h => ⟨rfl, cs, h⟩, ⟨h1, h2, h3, hsize, fun b hb _ _ => hold b hb⟩⟩
  · refine SRel.putObj hs hsize hs.bn (Nat.lt_succ_self _) (Nat.le_succ _) hφ (fun b hb _ => hold b hb) (fun _ => ho) (fun _ _ => ?_) (fun b t ht => ?_)
    · rw [upd_self]; exact upd_self _ _ _
    · by_cases e : b = w.heap.size
      · subst e; rw [upd_self] at ht; cases ht
        exact ⟨hs.bw, by rw [hw]; simp, fun i hi => by cases hi; omega⟩
      · rw [upd_ne _ _ e] at ht
        obtain ⟨x, y, z⟩ := hs.tags b t ht
        exact ⟨x, Nat.lt_of_lt_of_le y hsize, fun i hi => Nat.lt_succ_of_lt (z i hi)⟩
  · intro d cs h
    obtain ⟨ht, cs', el, hb, ha⟩ := hf.own d cs h
    have hlt := (hs.tags _ _ ht).2.1
    exact ⟨by rw [(hold _ hlt).2]; exact ht, cs', el, by rw [(hold _ hlt).1]; exact hb, ha.mono hφ (by simp [St.new])⟩

/-- A new variable of the function's own. -/
theorem newLoc_post (hs : SRel g base φ ω c s w) (hf : FRel φ c s.next lam ω fr rs a w) (d : Nat) (cells cells' : Array Value) (el : TypeId) (hd : fr.loc.get d = none) (hr : Arel φ c s.next cells cells')
    (hw : w'.heap = w.heap.push (.cells cells' el (0, 0))) (h1 : w'.os = w.os) (h2 : w'.tape = w.tape) (h3 : w'.output = w.output) :
    Post g base c φ φ ω (upd ω w.heap.size (some (.loc d))) lam (upd lam d w.heap.size) fr.loc (fr.loc.put d cells) s s w w' := by
  have hold : ∀ b, b < w.heap.size → w'.heap[b]? = w.heap[b]? ∧ (upd ω w.heap.size (some (.loc d))) b = ω b := fun b hb => ⟨by rw [hw]; exact push_old hb, upd_ne _ _ (by omega)⟩
  have hsize : w.heap.size ≤ w'.heap.size := by rw [hw]; simp
  refine ⟨fun _ _ => rfl, Nat.le_refl _, ?_, ?_, ?_, ?_, ⟨h1, h2, h3, hsize, fun b hb _ _ => hold b hb⟩⟩
  · refine SRel.move hs hsize (fun b hb _ => hold b hb) (fun b t ht => ?_)
    by_cases e : b = w.heap.size
    · subst e; rw [upd_self] at ht; cases ht
      exact ⟨hs.bw, by rw [hw]; simp, fun i hi => by cases hi⟩
    · rw [upd_ne _ _ e] at ht
      obtain ⟨x, y, z⟩ := hs.tags b t ht
      exact ⟨x, Nat.lt_of_lt_of_le y hsize, z⟩
  · intro d' cs h
    rw [Tr.get_put] at h
    split at h
    · rename_i e; subst e; cases h
      refine ⟨by rw [upd_self]; exact upd_self _ _ _, cells', el, by rw [upd_self, hw]; exact push_new, hr⟩
    · rename_i e
      obtain ⟨ht, cs', el', hb, ha⟩ := hf.own d' cs h
      have hlt := (hs.tags _ _ ht).2.1
      exact ⟨by rw [upd_ne _ _ e, (hold _ hlt).2]; exact ht, cs', el', by rw [upd_ne _ _ e, (hold _ hlt).1]; exact hb, ha⟩
  · intro d' cs h
    rw [Tr.get_put] at h
    split at h
    · rename_i e; subst e; exact .inr (by rw [upd_self]; exact Nat.le_refl _)
    · rename_i e; exact .inl ⟨upd_ne _ _ e, cs, h⟩
  · intro d' cs h
    have e : d' ≠ d := by rintro rfl; rw [hd] at h; cases h
    exact ⟨upd_ne _ _ e, cs, by rw [Tr.get_put, if_neg e]; exact h⟩

theorem rowHas_of {φ : Nat → Pl} {c : Ctx} {n : Nat} {cs cs' : Array Value} (h : Arel φ c n cs cs') : RowHas φ c n cs' 0 cs := fun i x hx => by rw [Nat.zero_add]; exact h.get hx

theorem newCells_orel {cs cs' : Array Value} {sz : Nat} {el : TypeId} {hw : w'.heap = w.heap.push (.cells cs' el (0, 0))} (h : Arel φ c s.next cs cs') :
    ORel (upd φ s.next ⟨w.heap.size, 0, 0⟩) c (s.next + 1) base s.next (upd ω w.heap.size (some (.obj s.next))) w' (.cells cs sz false) := by
  refine ⟨fun _ => by rw [upd_self], fun _ => ⟨cs', el, (0, 0), by rw [upd_self, hw]; exact push_new, fun _ => rfl, ?_, ?_⟩⟩
  · rw [upd_self]; simp [h.1]
  · rw [upd_self]
    exact rowHas_of (h.mono (fun i hi => upd_ne _ _ (by omega)) (Nat.le_succ _))

theorem doNew_ok (hs : SRel g base φ ω c s w) (hf : FRel φ c s.next lam ω fr rs a w) {o : Oper} {cells cells' : Array Value} {r : Value × Tr (Array Value) × St} {el : TypeId} (h : doNew g fr s o.dst cells = some r) (hr : Arel φ c s.next cells cells')
    (run : (execOp a.eval o).run g.P w = .ok (.value (.pointer (some ⟨w.heap.size, 0, none⟩))) { w with heap := w.heap.push (.cells cells' el) }) : OpOk g base c φ ω lam fr s a w o r.1 r.2.1 r.2.2 := by
  unfold doNew at h
  split at h
  · rename_i d hdst
    split at h
    · split at h
      · rename_i hd
        cases h
        refine ⟨.pointer (some ⟨w.heap.size, 0, none⟩), φ, _, _, _, _, run, .inl rfl, ?_, ?_, newLoc_post hs hf d cells cells' el hd hr rfl rfl rfl rfl⟩
        · simp only [Trel]; rw [upd_self]
        · simp only [Live]; exact ⟨cells, by rw [Tr.get_put, if_pos rfl]⟩
      · cases h
    · cases h
      refine ⟨.pointer (some ⟨w.heap.size, 0, none⟩), _, _, lam, _, _, run, .inl rfl, ?_, live_glob rfl, new_post hs hf _ _ 0 rfl rfl rfl rfl (newCells_orel (hw := rfl) hr)⟩
      have := Vrel.pointer (c := c) (φ := upd φ s.next ⟨w.heap.size, 0, 0⟩) (n := s.next + 1) s.next 0 ⟨Nat.lt_succ_self _, hs.vnew _ (Nat.le_refl _)⟩
      rw [upd_self] at this
      exact this.trel
  · cases h

theorem alloc_ok (hs : SRel g base φ ω c s w) (hf : FRel φ c s.next lam ω fr rs a w) {o : Oper} {t : TypeId} (ho : o.op = .alloc t) {zero : Value} (hz : (g.P.info? t).bind (·.zero) = some zero) (hp : plainN 8 zero = true)
    {r : Value × Tr (Array Value) × St} (h : doNew g fr s o.dst zero.cells = some r) : OpOk g base c φ ω lam fr s a w o r.1 r.2.1 r.2.2 := by
  refine doNew_ok hs hf (el := t) h (plain_arel hp) ?_
  simp only [execOp, ho, Instr.alloc, Sem.run_bind, run_zero hz, Result.andThen_ok]
  rfl

theorem box_ok (hs : SRel g base φ ω c s w) (hf : FRel φ c s.next lam ω fr rs a w) {o : Oper} {t : TypeId} {x : Operand} (ho : o.op = .box t x) {v : Value} (hv : fr.gev g x = some v)
    {r : Value × Tr (Array Value) × St} (h : doNew g fr s o.dst v.cells = some r) : OpOk g base c φ ω lam fr s a w o r.1 r.2.1 r.2.2 := by
  refine doNew_ok hs hf (el := t) h (cells_rel (gev_rel hs hf hv)) ?_
  simp only [execOp, ho]
  rfl

/-- Writing into an object of one's own. -/
theorem write_post (hs : SRel g base φ ω c s w) (hf : FRel φ c s.next lam ω fr rs a w) {id o : Nat} {vs vs' : List Value} {s' : St} (h : s.write c id o vs = some s') (hr : Arel φ c s.next vs.toArray vs'.toArray) (hne : vs ≠ []) :
    ∃ cur el, w.heap[(φ id).blk]? = some (.cells cur el (0, 0)) ∧ (φ id).off + o + vs'.length ≤ cur.size ∧ vs'.all Value.oneCell' = true ∧
      Post g base c φ φ ω ω lam lam fr.loc fr.loc s s' w (w.setRow (φ id).blk (blit cur ((φ id).off + o) vs')) := by
  obtain ⟨cs, sz, sp, hv, hg, hfl, hlen, hone, rfl⟩ := write_some h
  have hbi : base.id ≤ id := hs.bf id hfl
  have hlen' : vs'.length = vs.length := by simpa using hr.1.symm
  have hpos : 0 < vs.length := by cases vs with | nil => exact (hne rfl).elim | cons => simp
  have hso : cs.size ≠ 0 ∨ sp = true := .inl (by omega)
  obtain ⟨hex, hrow⟩ := hs.obj id _ hg hv
  obtain ⟨cur, el, fz, hb, hz, hsz, hhas⟩ := hrow hso
  have hz := hz hbi; subst hz
  have htag := hs.tag id _ hg hv hbi hso
  refine ⟨cur, el, hb, by omega, ?_, ?_⟩
  · have := all_one hr (by simpa using hone)
    simpa using this
  have hsame : ∀ b, b ≠ (φ id).blk → (w.setRow (φ id).blk (blit cur ((φ id).off + o) vs')).heap[b]? = w.heap[b]? := fun b hb => setRow_other _ _ _ _ hb
  refine ⟨fun _ _ => rfl, Nat.le_refl _, ?_, ?_, fun d cs h => .inl ⟨rfl, cs, h⟩, fun d cs h => ⟨rfl, cs, h⟩, ⟨rfl, rfl, rfl, Nat.le_of_eq (setRow_size _ _ _).symm, fun b _ hown _ => ⟨hsame b ?_, rfl⟩⟩⟩
  · have hid := hs.dom id _ hg
    refine SRel.putObj hs (Nat.le_of_eq (setRow_size _ _ _).symm) hbi hid (Nat.le_refl _) (fun _ _ => rfl) (fun b hb hl => ⟨hsame b ?_, rfl⟩) (fun _ => ⟨hex, fun _ => ⟨blit cur ((φ id).off + o) vs', el, (0, 0), ?_, fun _ => rfl, ?_, ?_⟩⟩) (fun _ _ => htag) (fun b t ht => ?_)
    · rintro rfl
      rcases hl with hl | hl | ⟨i, o', h1, h2, h3, h4, h5, h6⟩
      · rw [htag] at hl; cases hl
      · have := (hs.tags _ _ htag).1; omega
      · rw [htag] at h5; cases h5; exact h6 rfl
    · exact setRow_heap w (φ id).blk cur _ el (0, 0) hb
    · rw [blit_size, blit_size]; exact hsz
    · intro i x hx
      rw [blit_get _ _ _ _ hlen] at hx
      rw [blit_get _ _ _ _ (by omega)]
      by_cases hin : o ≤ i ∧ i < o + vs.length
      · rw [if_pos hin] at hx
        rw [if_pos (by omega)]
        obtain ⟨x', hx', hxr⟩ := hr.get (i := i - o) (x := x) (by simpa using hx)
        refine ⟨x', ?_, hxr⟩
        rw [show (φ id).off + i - ((φ id).off + o) = i - o by omega]
        simpa using hx'
      · rw [if_neg hin] at hx
        rw [if_neg (by omega)]
        exact hhas i x hx
    · obtain ⟨x, y, z⟩ := hs.tags b t ht
      exact ⟨x, by rw [setRow_size]; exact y, z⟩
  · intro d cs h
    obtain ⟨ht, cs', el', hb', ha⟩ := hf.own d cs h
    have : lam d ≠ (φ id).blk := fun e => by rw [e, htag] at ht; cases ht
    exact ⟨ht, cs', el', by rw [hsame _ this]; exact hb', ha⟩
  · rintro rfl
    exact hown ⟨id, _, htag, hfl, hv, hg⟩

theorem store_ok (hs : SRel g base φ ω c s w) (hf : FRel φ c s.next lam ω fr rs a w) {o : Oper} {t : TypeId} {x y : Operand} (ho : o.op = .store t x y) {r : Tr (Array Value) × St} (h : doStore g c fr s t x y = some r) :
    OpOk g base c φ ω lam fr s a w o undef r.1 r.2 := by
  unfold doStore at h
  replace h := bind_some h; obtain ⟨p, hp, h⟩ := h
  replace h := bind_some h; obtain ⟨v, hv, h⟩ := h
  replace h := bind_some h; obtain ⟨n, hn, h⟩ := h
  replace h := bind_some h; obtain ⟨_, hc, h⟩ := h
  rw [chk_some, beq_iff_eq] at hc
  have hrel := ev_rel hs hf hp
  have hlive := ev_live hf hp
  have hv := cells_rel (gev_rel hs hf hv)
  unfold sizeOf? at hn
  have undefR : ∀ (φ : Nat → Pl) (n : Nat) (lam : Nat → Nat), Trel φ c n lam undef undef := fun φ n lam => (plain_rel φ c n 1 undef (by simp [plainN, undef])).trel
  have hsz : (a.eval y).cells.size = n := by rw [← hv.1]; exact hc
  split at h
  · rename_i d off sp
    replace h := bind_some h; obtain ⟨cs, hcs, h⟩ := h
    replace h := bind_some h; obtain ⟨_, hc2, h⟩ := h
    rw [chk_some, Bool.and_eq_true, decide_eq_true_eq] at hc2
    cases h
    simp only [Trel] at hrel
    obtain ⟨ht, cs', el, hb, ha⟩ := hf.own d cs hcs
    have hlt := (hs.tags _ _ ht).2.1
    have hone := all_one hv hc2.2
    have run : (execOp a.eval o).run g.P w = .ok .skip (w.setRow (lam d) (blit cs' off (a.eval y).cells.toList)) := by
      have h1 : (storeCells ⟨lam d, off, none⟩ (a.eval y).cells.toList).run g.P w = .ok () (w.setRow (lam d) (blit cs' off (a.eval y).cells.toList)) :=
        run_storeCells_blit (lam d) el _ off 0 cs' w hb (by simp; rw [hsz, ← ha.1]; exact hc2.1) hone
      simp only [execOp, ho, hrel, Instr.storeAt, Instr.sureAddr, storeVar, Sem.run_bind, Sem.run_pure, Result.andThen_ok, run_size hn, hsz, ne_eq, not_true_eq_false, if_false, h1]
    have hsame : ∀ b, b ≠ lam d → (w.setRow (lam d) (blit cs' off (a.eval y).cells.toList)).heap[b]? = w.heap[b]? := fun b hb => setRow_other _ _ _ _ hb
    refine ⟨undef, φ, ω, lam, _, _, run, .inr ⟨rfl, rfl⟩, undefR _ _ _, live_glob rfl, ⟨fun _ _ => rfl, Nat.le_refl _, ?_, ?_, ?_, ?_, ⟨rfl, rfl, rfl, Nat.le_of_eq (setRow_size _ _ _).symm, fun b _ _ hX => ⟨hsame b ?_, rfl⟩⟩⟩⟩
    · refine SRel.move hs (Nat.le_of_eq (setRow_size _ _ _).symm) (fun b hb hl => ⟨hsame b ?_, rfl⟩) (fun b t h => by obtain ⟨x, y, z⟩ := hs.tags b t h; exact ⟨x, by rw [setRow_size]; exact y, z⟩)
      rintro rfl
      rcases hl with hl | hl | ⟨i, o', h1, h2, h3, h4, h5, h6⟩
      · rw [ht] at hl; cases hl
      · have := (hs.tags _ _ ht).1; omega
      · rw [ht] at h5; cases h5
    · intro d' cs2 h
      rw [Tr.get_put] at h
      split at h
      · rename_i e; subst e; cases h
        refine ⟨ht, _, el, setRow_heap w (lam d') cs' _ el (0, 0) hb, ⟨by rw [blit_size, blit_size]; exact ha.1, fun i z z' hz hz' => ?_⟩⟩
        rw [blit_get _ _ _ _ (by simp; omega)] at hz
        rw [blit_get _ _ _ _ (by simp; rw [hsz, ← ha.1]; exact hc2.1)] at hz'
        have hl2 : v.cells.toList.length = (a.eval y).cells.toList.length := by simpa using hv.1
        rw [hl2] at hz
        split at hz
        · rename_i hin; rw [if_pos hin] at hz'
          exact hv.2 (i - off) z z' (by simpa using hz) (by simpa using hz')
        · rename_i hin; rw [if_neg hin] at hz'
          exact ha.2 i z z' hz hz'
      · rename_i e
        obtain ⟨ht', cs3, el', hb', ha'⟩ := hf.own d' cs2 h
        have : lam d' ≠ lam d := fun e' => by rw [e', ht] at ht'; cases ht'; exact e rfl
        exact ⟨ht', cs3, el', by rw [hsame _ this]; exact hb', ha'⟩
    · intro d' cs2 h
      rw [Tr.get_put] at h
      split at h
      · rename_i e; subst e; exact .inl ⟨rfl, cs, hcs⟩
      · exact .inl ⟨rfl, cs2, h⟩
    · intro d' cs2 h
      refine ⟨rfl, ?_⟩
      simp only [Tr.get_put]
      split
      · exact ⟨_, rfl⟩
      · exact ⟨_, h⟩
    · rintro rfl; exact hX ⟨d, cs, hcs, rfl⟩
  · rename_i id off
    replace h := bind_some h; obtain ⟨s', hw, h⟩ := h
    cases h
    have hrel : Vrel φ c s.next (.pointer (some ⟨id, off, none⟩)) (a.eval x) := (trel_global rfl).1 hrel
    have hx : a.eval x = .pointer (some ⟨(φ id).blk, (φ id).off + off, none⟩) := by
      generalize a.eval x = z at hrel; cases hrel; rfl
    by_cases hne : v.cells.toList = []
    · -- nothing is written
      have hn0 : n = 0 := by rw [← hc]; simpa using hne
      have he : (a.eval y).cells.toList = [] := by have := hsz; rw [hn0] at this; simpa using this
      have run : (execOp a.eval o).run g.P w = .ok .skip w := by
        simp [execOp, ho, hx, Instr.storeAt, Instr.sureAddr, storeVar, run_size hn, hsz, he, storeCells]
      obtain ⟨cs, sz, sp, hv', hg, hfl, hlen, hone, rfl⟩ := write_some hw
      have heq : blit cs off v.cells.toList = cs := by rw [hne]; rfl
      rw [heq]
      have hbi : base.id ≤ id := hs.bf id hfl
      refine ⟨undef, φ, ω, lam, w, _, run, .inr ⟨rfl, rfl⟩, undefR _ _ _, live_glob rfl, ⟨fun _ _ => rfl, Nat.le_refl _, ?_, hf.own, fun d cs h => .inl ⟨rfl, cs, h⟩, fun d cs h => ⟨rfl, cs, h⟩, Keep.refl _ _ _ _ _⟩⟩
      exact SRel.putObj hs (Nat.le_refl _) hbi (hs.dom _ _ hg) (Nat.le_refl _) (fun _ _ => rfl) (fun _ _ _ => ⟨rfl, rfl⟩) (fun _ => hs.obj id _ hg hv') (fun _ hso => hs.tag id _ hg hv' hbi hso) hs.tags
    · obtain ⟨cur, el, hb, hsz2, hone, hpost⟩ := write_post hs hf hw (vs' := (a.eval y).cells.toList) (by simpa using hv) hne
      refine ⟨undef, φ, ω, lam, _, .skip, ?_, .inr ⟨rfl, rfl⟩, undefR _ _ _, live_glob rfl, hpost⟩
      have h1 : (storeCells ⟨(φ id).blk, (φ id).off + off, none⟩ (a.eval y).cells.toList).run g.P w = .ok () (w.setRow (φ id).blk (blit cur ((φ id).off + off) (a.eval y).cells.toList)) :=
        run_storeCells_blit _ el _ _ 0 cur w hb hsz2 hone
      simp only [execOp, ho, hx, Instr.storeAt, Instr.sureAddr, storeVar, Sem.run_bind, Sem.run_pure, Result.andThen_ok, run_size hn, hsz, ne_eq, not_true_eq_false, if_false, h1]
  · cases h

theorem makeMap_ok (hs : SRel g base φ ω c s w) (hf : FRel φ c s.next lam ω fr rs a w) {o : Oper} {t : TypeId} (ho : o.op = .makeMap t none) : OpOk g base c φ ω lam fr s a w o (.map (some s.next)) fr.loc (s.new (.map [])) := by
  refine ⟨.map (some w.heap.size), _, _, lam, _, .value (.map (some w.heap.size)), ?_, .inl rfl, ?_, live_glob rfl, new_post (w' := { w with heap := w.heap.push (.map #[] 0) }) hs hf _ (.map #[] 0) 0 rfl rfl rfl rfl ?_⟩
  · simp only [execOp, ho]; rfl
  · have := Vrel.map (c := c) (φ := upd φ s.next ⟨w.heap.size, 0, 0⟩) (n := s.next + 1) s.next ⟨Nat.lt_succ_self _, hs.vnew _ (Nat.le_refl _)⟩
    rw [upd_self] at this
    exact this.trel
  · exact ⟨#[], 0, by rw [upd_self]; exact push_new, rfl, fun i e h => by simp at h⟩

theorem slice_rel {ex : Nat} (hs : SRel g base φ ω c s w) (l cp : Nat) : Vrel (upd φ s.next ⟨w.heap.size, 0, ex⟩) c (s.next + 1) (.slice (some ⟨s.next, 0, none⟩) l cp) (.slice (some ⟨w.heap.size, 0, none⟩) l (cp + ex)) := by
  have := Vrel.slice (c := c) (φ := upd φ s.next ⟨w.heap.size, 0, ex⟩) (n := s.next + 1) s.next 0 l cp ⟨Nat.lt_succ_self _, hs.vnew _ (Nat.le_refl _)⟩
  rw [upd_self] at this
  exact this

theorem zeros_rel {φ : Nat → Pl} {c : Ctx} {n m : Nat} {zero : Value} (hp : plainN 8 zero = true) (h0 : zero.cells.size ≠ 0) : Arel φ c n ((Array.range m).map (zero.cells[· % zero.cells.size]!)) ((Array.range m).map (zero.cells[· % zero.cells.size]!)) := by
  refine ⟨rfl, fun i x x' hx hx' => ?_⟩
  rw [hx] at hx'; cases hx'
  rw [Array.getElem?_map] at hx
  obtain ⟨k, hk, rfl⟩ := Option.map_eq_some_iff.1 hx
  have hlt : k % zero.cells.size < zero.cells.size := Nat.mod_lt _ (by omega)
  have := plain_arel (φ := φ) (c := c) (n := n) hp
  refine this.2 (k % zero.cells.size) _ _ ?_ ?_ <;> simp [hlt]

theorem makeSlice_ok (hs : SRel g base φ ω c s w) (hf : FRel φ c s.next lam ω fr rs a w) {o : Oper} {t : TypeId} {x y : Operand} (ho : o.op = .makeSlice t x y) {r : Value × St} (h : doMakeSlice g fr s t x y = some r) :
    OpOk g base c φ ω lam fr s a w o r.1 fr.loc r.2 := by
  unfold doMakeSlice at h
  replace h := bind_some h; obtain ⟨lv, hl, h⟩ := h
  replace h := bind_some h; obtain ⟨l, hl', h⟩ := h
  replace h := bind_some h; obtain ⟨cv, hc, h⟩ := h
  replace h := bind_some h; obtain ⟨m, hc', h⟩ := h
  obtain ⟨kl, hkl, _⟩ := int_of (gev_rel hs hf hl) hl'
  obtain ⟨kc, hkc, _⟩ := int_of (gev_rel hs hf hc) hc'
  split at h
  · rename_i elem hu
    replace h := bind_some h; obtain ⟨i, hi, h⟩ := h
    replace h := bind_some h; obtain ⟨zero, hz, h⟩ := h
    replace h := bind_some h; obtain ⟨_, hc, h⟩ := h
    rw [chk_some] at hc
    simp only [Bool.and_eq_true, decide_eq_true_eq] at hc
    obtain ⟨⟨⟨⟨⟨⟨hl0, hlm⟩, hm⟩, hby⟩, hp⟩, hzs⟩, hs0⟩ := hc
    cases h
    have hwl : IntKind.i64.wrap l = l := by simp [IntKind.wrap, IntKind.bits, IntKind.signed]; omega
    have hwm : IntKind.i64.wrap m = m := by simp [IntKind.wrap, IntKind.bits, IntKind.signed]; omega
    have hbm : (i.bytes : Int) * m ≤ 4096 * 16777216 := by
      have h1 : (i.bytes : Int) ≤ 4096 := by omega
      have h2 : 0 ≤ m := by omega
      calc (i.bytes : Int) * m ≤ 4096 * m := Int.mul_le_mul_of_nonneg_right h1 h2
        _ ≤ 4096 * 16777216 := by omega
    have run : (execOp a.eval o).run g.P w = .ok (.value (.slice (some ⟨w.heap.size, 0, none⟩) l.toNat m.toNat)) { w with heap := w.heap.push (.cells ((Array.range (m.toNat * i.size)).map (zero.cells[· % zero.cells.size]!)) elem) } := by
      have hti := run_info hi
      have hsz : (g.P.info? elem).map (·.size) = some i.size := by rw [hi]; rfl
      have hzz : (g.P.info? elem).bind (·.zero) = some zero := by rw [hi]; exact hz
      have e1 : (decide (m < 0) || decide ((i.bytes : Int) * m > 2 ^ 48)) = false := by
        simp; omega
      have e2 : (decide (l < 0)) = false := by simp; omega
      have e3 : (decide (l > m)) = false := by simp; omega
      have e4 : m.toNat * i.bytes > roomBytes ↔ False := by
        simp [roomBytes]
        have : m.toNat * i.bytes ≤ 16777216 * 4096 := Nat.mul_le_mul (by omega) hby
        omega
      simp only [execOp, ho, hkl, hkc, Instr.makeSlice, asInt, asIntOf, Sem.run_bind, Sem.run_pure, run_under hu, Result.andThen_ok, hti, hwl, hwm, e1, Bool.false_or, Bool.false_eq_true, decide_eq_true_eq,
        show ¬ l < 0 by omega, show ¬ l > m by omega, or_self, if_false, askRoom, e4, run_size hsz, decide_false, Bool.or_self]
      by_cases hm0 : m.toNat * i.size = 0
      · have hr0 : ∀ (f : Nat → Value), (Array.range 0).map f = #[] := by simp
        simp only [if_pos hm0, hm0, Sem.run_bind, Sem.run_pure, Result.andThen_ok, hr0]
        rfl
      · rw [if_neg hm0]
        simp only [Sem.run_bind, run_zero hzz, Result.andThen_ok, Sem.run_pure]
        rfl
    refine ⟨_, _, _, lam, _, _, run, .inl rfl, ?_, live_glob rfl, new_post hs hf _ _ 0 rfl rfl rfl rfl (newCells_orel (hw := rfl) (zeros_rel hp (by omega)))⟩
    exact (slice_rel hs l.toNat m.toNat).trel
  · cases h

theorem buildSlice_ok (hs : SRel g base φ ω c s w) (hf : FRel φ c s.next lam ω fr rs a w) {o : Oper} {t : TypeId} {len : Nat} {parts : Array (Nat × Operand)} (ho : o.op = .buildSlice t len parts) {r : Value × St} (h : doBuildSlice g fr s t len parts = some r) :
    OpOk g base c φ ω lam fr s a w o r.1 fr.loc r.2 := by
  unfold doBuildSlice at h
  replace h := bind_some h; obtain ⟨vs, hvs, h⟩ := h
  obtain ⟨hl, hr⟩ := parts_rel hs hf hvs
  split at h
  · rename_i elem hu
    replace h := bind_some h; obtain ⟨i, hi, h⟩ := h
    replace h := bind_some h; obtain ⟨zero, hz, h⟩ := h
    replace h := bind_some h; obtain ⟨_, hc, h⟩ := h
    rw [chk_some] at hc
    simp only [Bool.and_eq_true, decide_eq_true_eq] at hc
    obtain ⟨⟨⟨hm, hp⟩, hzs⟩, hs0⟩ := hc
    replace h := bind_some h; obtain ⟨cells, hcl, h⟩ := h
    cases h
    obtain ⟨cells', hcl', hrel⟩ := fill_rel (φ := φ) (c := c) (n := s.next) _ _ _ _ _ _ (zeros_rel (m := len * i.size) hp (by omega)) hl hr hcl
    have hsz : (g.P.info? elem).map (·.size) = some i.size := by rw [hi]; rfl
    have hzz : (g.P.info? elem).bind (·.zero) = some zero := by rw [hi]; exact hz
    have run : (execOp a.eval o).run g.P w = .ok (.value (.slice (some ⟨w.heap.size, 0, none⟩) len len)) { w with heap := w.heap.push (.cells cells' elem) } := by
      simp only [execOp, ho, Instr.buildSlice, Sem.run_bind, Sem.run_pure, run_under hu, Result.andThen_ok, run_size hsz, if_neg (show ¬ len * i.size > 2 ^ 24 by omega)]
      by_cases hm0 : len * i.size = 0
      · have hr0 : ∀ (f : Nat → Value), (Array.range 0).map f = #[] := by simp
        simp only [hm0, hr0] at hcl'
        simp only [if_pos hm0, hm0, Sem.run_bind, Sem.run_pure, Result.andThen_ok, hr0, hcl']
        rfl
      · rw [if_neg hm0]
        simp only [Sem.run_bind, run_zero hzz, Result.andThen_ok, Sem.run_pure, hcl']
        rfl
    refine ⟨_, _, _, lam, _, _, run, .inl rfl, ?_, live_glob rfl, new_post hs hf _ _ 0 rfl rfl rfl rfl (newCells_orel (hw := rfl) hrel)⟩
    exact (slice_rel hs len len).trel
  · cases h

end
end Go.Am
