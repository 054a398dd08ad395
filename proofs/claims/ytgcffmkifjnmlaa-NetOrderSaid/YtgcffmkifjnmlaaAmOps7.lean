/- Copies, lengths, maps. -/
import Derived.Test.YtgcffmkifjnmlaaAmOps6
namespace Go.Am
section
variable {g : Cfg} {base : Base} {c : Ctx} {φ : Nat → Pl} {ω : Nat → Option Tag} {lam : Nat → Nat} {fr : Fr} {s : St} {rs : List Nat} {a : Act} {w w' : World}

theorem copy_ok (hs : SRel g base φ ω c s w) (hf : FRel φ c s.next lam ω fr rs a w) {o : Oper} {cl : Call} (ho : o.op = .call cl) (hcl : cl.callee = .builtin .copy) {as : List Value} (has : evL g fr cl.args.toList = some as)
    {r : Value × St} (h : doCopy g c s cl.argTypes as = some r) : OpOk g base c φ ω lam fr s a w o r.1 fr.loc r.2 := by
  unfold doCopy at h
  split at h
  · rename_i v x
    replace h := bind_some h; obtain ⟨st, hst, h⟩ := h
    obtain ⟨v', x', hA, hv, hx⟩ := args2 hs hf has
    have lift : ∀ {v2 : Value} {W : World}, (Builtin.copy_ cl.argTypes o.type #[v', x']).run g.P w = .ok v2 W → (execOp a.eval o).run g.P w = .ok (.value v2) W := fun h => by
      refine builtin_run ho hcl ?_
      rw [hA]
      simp only [builtin, Sem.run_bind, h, Result.andThen_ok, Sem.run_pure]
    split at h
    · rename_i elem b dl dc hu
      replace h := bind_some h; obtain ⟨size, hsize, h⟩ := h
      replace h := bind_some h; obtain ⟨m, hm, h⟩ := h
      unfold sizeOf? at hsize
      have hlen := len_run (g := g) hx hm w
      -- the run, from the cells
      have run : ∀ (b' : Option Addr) (cap' : Nat) (new' : Array Value) (W : World), v' = .slice b' dl cap' → (Builtin.firstCells size (Nat.min m dl) x').run g.P w = .ok new' w →
          ((match b' with | some ad => storeCells ad new'.toList | none => pure () : Sem Unit).run g.P w = .ok () W) → (Builtin.copy_ cl.argTypes o.type #[v', x']).run g.P w = .ok (.int .i64 (Nat.min m dl : Nat)) W := by
        intro b' cap' new' W hv' hf1 hst1
        subst hv'
        unfold Builtin.copy_
        simp only [hst, List.size_toArray, List.length_cons, List.length_nil, Nat.zero_add, Nat.reduceAdd, Nat.reduceLT, getElem?_pos, List.getElem_toArray, List.getElem_cons_zero, List.getElem_cons_succ, Sem.run_bind, run_under hu, Result.andThen_ok,
          hlen, run_size hsize, hf1]
        cases b' with
        | none => simp only at hst1; cases hst1; rfl
        | some ad => simp only at hst1; simp only [Sem.run_bind, hst1, Result.andThen_ok, Sem.run_pure]; rfl
      simp only at h
      split at h
      · rename_i h0
        cases h
        have hf0 : ∃ cells, (Builtin.firstCells size 0 x').run g.P w = .ok cells w ∧ cells.toList = [] := by
          unfold lenV at hm
          split at hm
          · cases hx
            · exact ⟨#[], rfl, rfl⟩
            · exact ⟨#[], by simp [Builtin.firstCells, loadCells, loadCellsFrom], rfl⟩
          · cases hx; exact ⟨_, rfl, by simp [ByteArray.data_extract]⟩
          · cases hm
        obtain ⟨cells, hc1, hc2⟩ := hf0
        refine OpOk.sameV hs hf (v' := .int .i64 0) (lift ?_) (.int _ _)
        have e : ((Nat.min m dl : Nat) : Int) = 0 := by rw [h0]; rfl
        cases hv with
        | nilSlice => have := run none dc cells w rfl (by rw [h0]; exact hc1) rfl; rw [e] at this; exact this
        | slice id off _ _ hid => have := run _ _ cells w rfl (by rw [h0]; exact hc1) (by simp only [hc2, storeCells]; rfl); rw [e] at this; exact this
      · rename_i h0
        replace h := bind_some h; obtain ⟨new, hnew, h⟩ := h
        have hcells : ∃ new', (Builtin.firstCells size (Nat.min m dl) x').run g.P w = .ok new' w ∧ Arel φ c s.next new new' := by
          split at hnew
          · rename_i bb
            cases hnew; cases hx
            refine ⟨_, rfl, ⟨by simp, fun i x x' hx hx' => ?_⟩⟩
            rw [Array.getElem?_map] at hx hx'
            rw [hx] at hx'; cases hx'
            obtain ⟨y, _, rfl⟩ := Option.map_eq_some_iff.1 hx
            exact .int _ _
          · obtain ⟨new', h1, h2⟩ := cellsOf_run hs hx hnew
            exact ⟨new', h1 w rfl, h2⟩
        obtain ⟨new', hn1, hn2⟩ := hcells
        split at h
        · rename_i id off
          replace h := bind_some h; obtain ⟨_, hc, h⟩ := h
          rw [chk_some, beq_iff_eq] at hc
          replace h := bind_some h; obtain ⟨s', hw, h⟩ := h
          cases h
          have hvv : v' = .slice (some ⟨(φ id).blk, (φ id).off + off, none⟩) dl (dc + (φ id).ex) := by cases hv; rfl
          by_cases hne : new.toList = []
          · have he : new'.toList = [] := by
              have h1 : new.size = 0 := by simpa using congrArg List.length hne
              have h2 : new'.size = 0 := by rw [← hn2.1]; exact h1
              simpa using h2
            obtain ⟨cs, sz, sp, hv', hg, hfl, hlen', hone, rfl⟩ := write_some hw
            have heq : blit cs off new.toList = cs := by rw [hne]; rfl
            rw [heq]
            have hbi : base.id ≤ id := hs.bf id hfl
            refine ⟨.int .i64 (Nat.min m dl : Nat), φ, ω, lam, w, _, lift (run _ _ new' w hvv hn1 (by simp only [he, storeCells]; rfl)), .inl rfl, (Vrel.int _ _).trel, live_glob rfl, ⟨fun _ _ => rfl, Nat.le_refl _, ?_, hf.own, fun d cs h => .inl ⟨rfl, cs, h⟩, fun d cs h => ⟨rfl, cs, h⟩, Keep.refl _ _ _ _ _⟩⟩
            exact SRel.putObj hs (Nat.le_refl _) hbi (hs.dom _ _ hg) (Nat.le_refl _) (fun _ _ => rfl) (fun _ _ _ => ⟨rfl, rfl⟩) (fun _ => hs.obj id _ hg hv') (fun _ hso => hs.tag id _ hg hv' hbi hso) hs.tags
          · obtain ⟨cur, el, hb, hsz2, hone', hpost⟩ := write_post hs hf hw (vs' := new'.toList) (by simpa using hn2) hne
            refine ⟨.int .i64 (Nat.min m dl : Nat), φ, ω, lam, _, _, lift (run _ _ new' _ hvv hn1 ?_), .inl rfl, (Vrel.int _ _).trel, live_glob rfl, hpost⟩
            have := run_storeCells_blit (P := g.P) (φ id).blk el new'.toList ((φ id).off + off) 0 cur w hb (by simpa using hsz2) hone'
            rw [Nat.add_zero] at this
            exact this
        · cases h
    · cases h
  · cases h

theorem clear_ok (hs : SRel g base φ ω c s w) (hf : FRel φ c s.next lam ω fr rs a w) {o : Oper} {cl : Call} (ho : o.op = .call cl) (hcl : cl.callee = .builtin .clear) {as : List Value} (has : evL g fr cl.args.toList = some as)
    {r : Value × St} (h : doClear g c s cl.argTypes as = some r) : OpOk g base c φ ω lam fr s a w o r.1 fr.loc r.2 := by
  unfold doClear at h
  split at h
  · rename_i x
    replace h := bind_some h; obtain ⟨t, ht, h⟩ := h
    obtain ⟨x', hA, hx⟩ := args1 hs hf has
    have lift : ∀ {v2 : Value} {W : World}, (Builtin.clear_ cl.argTypes o.type #[x']).run g.P w = .ok v2 W → (execOp a.eval o).run g.P w = .ok (.value v2) W := fun h => by
      refine builtin_run ho hcl ?_
      rw [hA]
      simp only [builtin, Sem.run_bind, h, Result.andThen_ok, Sem.run_pure]
    have e0 : Vrel φ c s.next (.tuple #[]) (.tuple #[]) := plain_rel φ c s.next 1 _ (by simp [plainN])
    split at h
    · rename_i elem b cp hu
      cases h
      refine OpOk.sameV hs hf (v' := .tuple #[]) (lift ?_) e0
      unfold Builtin.clear_
      cases hx <;> (simp only [ht, List.size_toArray, List.length_cons, List.length_nil, Nat.zero_add, Nat.lt_add_one, getElem?_pos, List.getElem_toArray, List.getElem_cons_zero, Sem.run_bind, run_under hu, Result.andThen_ok]; rfl)
    · rename_i elem id off n cp hn0 hu
      replace h := bind_some h; obtain ⟨i, hi, h⟩ := h
      replace h := bind_some h; obtain ⟨zero, hz, h⟩ := h
      replace h := bind_some h; obtain ⟨_, hc, h⟩ := h
      rw [chk_some, Bool.and_eq_true, decide_eq_true_eq] at hc
      replace h := bind_some h; obtain ⟨s', hw, h⟩ := h
      cases h
      have hxx : x' = .slice (some ⟨(φ id).blk, (φ id).off + off, none⟩) n (cp + (φ id).ex) := by cases hx; rfl
      have hzz : (g.P.info? elem).bind (·.zero) = some zero := by rw [hi]; exact hz
      have hn : n ≠ 0 := fun e => hn0 e
      have run : ∀ W, ((storeCells ⟨(φ id).blk, (φ id).off + off, none⟩ (Builtin.zeroCells zero.cells n).toList).run g.P w = .ok () W) → (Builtin.clear_ cl.argTypes o.type #[x']).run g.P w = .ok (.tuple #[]) W := by
        intro W hst
        subst hxx
        obtain ⟨k, rfl⟩ : ∃ k, n = k + 1 := ⟨n - 1, by omega⟩
        unfold Builtin.clear_
        simp only [ht, List.size_toArray, List.length_cons, List.length_nil, Nat.zero_add, Nat.lt_add_one, getElem?_pos, List.getElem_toArray, List.getElem_cons_zero, Sem.run_bind, run_under hu, Result.andThen_ok, run_zero hzz, hst, Sem.run_pure]
      have hrel : Arel φ c s.next (Builtin.zeroCells zero.cells n) (Builtin.zeroCells zero.cells n) := by
        refine ⟨rfl, fun k y y' hy hy' => ?_⟩
        rw [hy] at hy'; cases hy'
        unfold Builtin.zeroCells at hy
        rw [Array.getElem?_map] at hy
        obtain ⟨j, hj, rfl⟩ := Option.map_eq_some_iff.1 hy
        by_cases hzs : zero.cells.size = 0
        · have := (Array.getElem?_eq_some_iff.1 hj).1
          simp [hzs] at this
        · have hlt : j % zero.cells.size < zero.cells.size := Nat.mod_lt _ (by omega)
          have := plain_arel (φ := φ) (c := c) (n := s.next) hc.1
          refine this.2 (j % zero.cells.size) _ _ ?_ ?_ <;> simp [hlt]
      by_cases hne : (Builtin.zeroCells zero.cells n).toList = []
      · obtain ⟨cs, sz, sp, hv', hg, hfl, hlen', hone, rfl⟩ := write_some hw
        have heq : blit cs off (Builtin.zeroCells zero.cells n).toList = cs := by rw [hne]; rfl
        rw [heq]
        have hbi : base.id ≤ id := hs.bf id hfl
        refine ⟨.tuple #[], φ, ω, lam, w, _, lift (run w (by rw [hne]; rfl)), .inl rfl, e0.trel, live_glob rfl, ⟨fun _ _ => rfl, Nat.le_refl _, ?_, hf.own, fun d cs h => .inl ⟨rfl, cs, h⟩, fun d cs h => ⟨rfl, cs, h⟩, Keep.refl _ _ _ _ _⟩⟩
        exact SRel.putObj hs (Nat.le_refl _) hbi (hs.dom _ _ hg) (Nat.le_refl _) (fun _ _ => rfl) (fun _ _ _ => ⟨rfl, rfl⟩) (fun _ => hs.obj id _ hg hv') (fun _ hso => hs.tag id _ hg hv' hbi hso) hs.tags
      · obtain ⟨cur, el, hb, hsz2, hone', hpost⟩ := write_post hs hf hw (vs' := (Builtin.zeroCells zero.cells n).toList) (by simpa using hrel) hne
        refine ⟨.tuple #[], φ, ω, lam, _, _, lift (run _ ?_), .inl rfl, (plain_rel φ c s'.next 1 (.tuple #[]) (by simp [plainN])).trel, live_glob rfl, hpost⟩
        have := run_storeCells_blit (P := g.P) (φ id).blk el (Builtin.zeroCells zero.cells n).toList ((φ id).off + off) 0 cur w hb (by simpa using hsz2) hone'
        rw [Nat.add_zero] at this
        exact this
    · cases h
  · cases h

theorem map_obj (hs : SRel g base φ ω c s w) {id : Nat} {es : List (Value × Value)} (h : mapAt c s id = some es) : ∃ es' clock, w.heap[(φ id).blk]? = some (.map es' clock) ∧ es'.size = es.length ∧
      ∀ (i : Nat) (e : Value × Value), es[i]? = some e → ∃ e' : MapEntry, es'[i]? = some e' ∧ plainN 8 e.1 = true ∧ e'.key = e.1 ∧ Vrel φ c s.next e.2 e'.val := by
  obtain ⟨hv, hg⟩ := mapAt_some h
  exact hs.obj id _ hg hv

theorem run_getObj {id : Nat} {ob : Obj} (h : w.heap[id]? = some ob) (hc : ob.isCells = false) : (getObj id).run g.P w = .ok ob w := by
  simp only [getObj, Sem.run, h]
  cases ob <;> first | rfl | simp [Obj.isCells] at hc

def lenBody (d : TypeDesc) (x : Value) : Sem Value :=
  match d, x with
  | .string, .string s => pure (goInt s.size)
  | .array n _, _ => pure (goInt n)
  | .pointer arr, _ => do
    let .array n _ ← underlying arr | stuck "len: pointer to array expected"
    pure (goInt n)
  | .slice _, .slice _ n _ => pure (goInt n)
  | .map _ _, .map none | .chan _ _, .chan none => pure (goInt 0)
  | .map _ _, .map (some r) => do
    let .map entries _ ← getObj r | stuck "len: map expected"
    pure (goInt entries.size)
  | .chan _ _, .chan (some r) => do
    let .chan _ buf _ _ _ timer ← getObj r | stuck "len: channel expected"
    pure (goInt (if timer then 0 else buf.size))
  | _, _ => stuck "len: string, array, pointer to array, slice, map or channel expected"

theorem len_pre {ts : Array TypeId} {t : TypeId} (ht : ts[0]? = some t) {d : TypeDesc} (hd : g.P.underlying t = some d) (tt : TypeId) (x : Value) : (Builtin.len_ ts tt #[x]).run g.P w = (lenBody d x).run g.P w := by
  unfold Builtin.len_ lenBody
  simp only [ht, List.size_toArray, List.length_cons, List.length_nil, Nat.zero_add, Nat.lt_add_one, getElem?_pos, List.getElem_toArray, List.getElem_cons_zero, Sem.run_bind, run_under hd, Result.andThen_ok]
  rfl

theorem len_ok (hs : SRel g base φ ω c s w) (hf : FRel φ c s.next lam ω fr rs a w) {o : Oper} {cl : Call} (ho : o.op = .call cl) (hcl : cl.callee = .builtin .len) {as : List Value} (has : evL g fr cl.args.toList = some as)
    {r : Value} (h : doLen g c s cl.argTypes as = some r) : OpOk g base c φ ω lam fr s a w o r fr.loc s := by
  unfold doLen at h
  split at h
  · rename_i x
    replace h := bind_some h; obtain ⟨t, ht, h⟩ := h
    obtain ⟨x', hA, hx⟩ := args1 hs hf has
    have lift : ∀ {v2 : Value} {W : World}, (Builtin.len_ cl.argTypes o.type #[x']).run g.P w = .ok v2 W → (execOp a.eval o).run g.P w = .ok (.value v2) W := fun h => by
      refine builtin_run ho hcl ?_
      rw [hA]
      simp only [builtin, Sem.run_bind, h, Result.andThen_ok, Sem.run_pure]
    have pre := fun d (hd : g.P.underlying t = some d) => len_pre (w := w) ht hd o.type x'
    split at h
    · rename_i b hu; cases h
      refine OpOk.sameV hs hf (v' := .int .i64 b.size) (lift ?_) (.int _ _)
      rw [pre _ hu]; cases hx; rfl
    · rename_i n e hu; cases h
      refine OpOk.sameV hs hf (v' := .int .i64 n) (lift ?_) (.int _ _)
      rw [pre _ hu]; rfl
    · rename_i e b n cp hu; cases h
      refine OpOk.sameV hs hf (v' := .int .i64 n) (lift ?_) (.int _ _)
      rw [pre _ hu]; cases hx <;> rfl
    · rename_i k e hu; cases h
      refine OpOk.sameV hs hf (v' := .int .i64 0) (lift ?_) (.int _ _)
      rw [pre _ hu]; cases hx; rfl
    · rename_i k e id hu
      split at h
      · rename_i es hl; cases h
        have hm : mapAt c s id = some es := by simp [mapAt, hl]
        obtain ⟨es', clock, h1, h2, _⟩ := map_obj hs hm
        refine OpOk.sameV hs hf (v' := .int .i64 es.length) (lift ?_) (.int _ _)
        rw [pre _ hu]
        cases hx
        have := run_getObj (g := g) h1 rfl
        simp only [lenBody, Sem.run_bind, this, Result.andThen_ok, Sem.run_pure, h2]; rfl
      · cases h
    · cases h
  · cases h

/-! ### Keys -/
theorem find_rel (kt : TypeId) (k : Value) : ∀ (es : List (Value × Value)) (es' : List MapEntry) (j : Nat), es'.length = es.length → (∀ (i : Nat) (e : Value × Value) (e' : MapEntry), es[i]? = some e → es'[i]? = some e' → e'.key = e.1) →
    (∀ (d : TypeDesc) r, Instr.findNow d k (entries es) j = some r → ∃ r', Instr.findNow d k es' j = some r' ∧ r'.map (·.1) = r.map (·.1) ∧ (∀ i v', r' = some (i, v') → ∃ e', es'[i - j]? = some e' ∧ e'.val = v' ∧ j ≤ i)) ∧
    (∀ d, Instr.findNow d k (entries es) j = none → Instr.findNow d k es' j = none) ∧
    (∀ r, purely g.P (Instr.findAsking kt k (entries es) j) = some r → ∃ r', purely g.P (Instr.findAsking kt k es' j) = some r' ∧ r'.map (·.1) = r.map (·.1) ∧ (∀ i v', r' = some (i, v') → ∃ e', es'[i - j]? = some e' ∧ e'.val = v' ∧ j ≤ i)) := by
  intro es
  induction es with
  | nil =>
    intro es' j hl _
    cases es' with
    | cons => simp at hl
    | nil =>
      refine ⟨fun d r h => ?_, fun d h => by simp [entries, Instr.findNow] at h, fun r h => ?_⟩
      · simp [entries, Instr.findNow] at h; subst h; exact ⟨none, rfl, rfl, fun i v' h => by cases h⟩
      · have : r = none := by
          simp only [entries, List.map_nil, Instr.findAsking] at h
          exact (Option.some.inj h).symm
        subst this; exact ⟨none, rfl, rfl, fun i v' h => by cases h⟩
  | cons e es ih =>
    intro es' j hl hk
    cases es' with
    | nil => simp at hl
    | cons e' es' =>
      have hke : e'.key = e.1 := hk 0 e e' rfl rfl
      obtain ⟨i1, i2, i3⟩ := ih es' (j + 1) (by simpa using hl) (fun i a b ha hb => hk (i + 1) a b (by simpa using ha) (by simpa using hb))
      have shift : ∀ r' : Option (Nat × Value), (∀ i v', r' = some (i, v') → ∃ e0, es'[i - (j + 1)]? = some e0 ∧ e0.val = v' ∧ j + 1 ≤ i) → ∀ i v', r' = some (i, v') → ∃ e0, (e' :: es')[i - j]? = some e0 ∧ e0.val = v' ∧ j ≤ i := by
        intro r' h i v' hr
        obtain ⟨e0, h1, h2, h3⟩ := h i v' hr
        exact ⟨e0, by rw [show i - j = (i - (j + 1)) + 1 by omega]; simpa using h1, h2, by omega⟩
      refine ⟨fun d r h => ?_, fun d h => ?_, fun r h => ?_⟩
      · simp only [entries, List.map_cons, Instr.findNow] at h ⊢
        rw [hke]
        split at h
        · cases h
          exact ⟨some (j, e'.val), rfl, rfl, fun i v' h => by cases h; exact ⟨e', by simp, rfl, Nat.le_refl _⟩⟩
        · obtain ⟨r', a, b, d⟩ := i1 _ _ h
          exact ⟨r', a, b, shift _ d⟩
        · cases h
      · simp only [entries, List.map_cons, Instr.findNow] at h ⊢
        rw [hke]
        split at h
        · cases h
        · exact i2 _ h
        · rfl
      · simp only [entries, List.map_cons, Instr.findAsking] at h ⊢
        rw [hke]
        generalize Op.equal kt k e.1 = q at h ⊢
        -- a program that only asks the tables
        have key : ∀ (q : Sem Bool), purely g.P (q.bind fun b => if b then Sem.pure (some (j, e.2)) else Instr.findAsking kt k (entries es) (j + 1)) = some r → ∃ r', purely g.P (q.bind fun b => if b then Sem.pure (some (j, e'.val)) else Instr.findAsking kt k es' (j + 1)) = some r' ∧ r'.map (·.1) = r.map (·.1) ∧
            (∀ i v', r' = some (i, v') → ∃ e0, (e' :: es')[i - j]? = some e0 ∧ e0.val = v' ∧ j ≤ i) := by
          intro q
          induction q with
          | pure b =>
            intro h
            cases b with
            | true =>
              simp only [Sem.bind, if_true, purely, Option.some.injEq] at h ⊢
              subst h
              exact ⟨_, rfl, rfl, fun i v' h => by cases h; exact ⟨e', by simp, rfl, Nat.le_refl _⟩⟩
            | false =>
              simp only [Sem.bind, Bool.false_eq_true, if_false] at h ⊢
              obtain ⟨r', a, b, d⟩ := i3 _ h
              exact ⟨r', a, b, shift _ d⟩
          | program kk ih => intro h; exact ih _ h
          | mark m kk ih => intro h; exact ih h
          | load | store | new | shape | freeze | frozen | getObj | setObj | choose | sys | halt => intro h; simp [Sem.bind, purely] at h
        exact key q h


theorem purely_bind {P : Program} {α β : Type} (x : Sem α) (f : α → Sem β) {b : β} (h : purely P (x.bind f) = some b) : ∃ y, purely P x = some y ∧ purely P (f y) = some b := by
  induction x with
  | pure y => exact ⟨y, rfl, h⟩
  | program k ih => exact ih _ h
  | mark m k ih => exact ih h
  | load | store | new | shape | freeze | frozen | getObj | setObj | choose | sys | halt => simp [Sem.bind, purely] at h

theorem purely_bind_mk {P : Program} {α β : Type} (x : Sem α) (f : α → Sem β) {y : α} (h : purely P x = some y) : purely P (x.bind f) = purely P (f y) := by
  induction x with
  | pure z => simp only [purely, Option.some.injEq] at h; subst h; rfl
  | program k ih => exact ih _ h
  | mark m k ih => exact ih h
  | load | store | new | shape | freeze | frozen | getObj | setObj | choose | sys | halt => simp [purely] at h

theorem findKey_rel (kt : TypeId) (k : Value) {es : List (Value × Value)} {es' : List MapEntry} (hl : es'.length = es.length) (hk : ∀ (i : Nat) (e : Value × Value) (e' : MapEntry), es[i]? = some e → es'[i]? = some e' → e'.key = e.1) {r : Option (Nat × Value)}
    (h : purely g.P (Instr.findKey kt k (entries es)) = some r) :
    ∃ r', purely g.P (Instr.findKey kt k es') = some r' ∧ r'.map (·.1) = r.map (·.1) ∧ (∀ i v', r' = some (i, v') → ∃ e', es'[i]? = some e' ∧ e'.val = v') := by
  unfold Instr.findKey at h ⊢
  obtain ⟨d, hd, h⟩ := purely_bind _ _ h
  obtain ⟨i1, i2, i3⟩ := find_rel (g := g) kt k es es' 0 hl hk
  simp only [bind]
  rw [purely_bind_mk _ _ hd]
  split at h
  · rename_i r0 hr0
    simp only [purely, pure, Option.some.injEq] at h; subst h
    obtain ⟨r', a, b, e⟩ := i1 _ _ hr0
    refine ⟨r', by rw [a]; rfl, b, fun i v' h => ?_⟩
    obtain ⟨e', h1, h2, _⟩ := e i v' h
    exact ⟨e', by simpa using h1, h2⟩
  · rename_i hr0
    obtain ⟨r', a, b, e⟩ := i3 _ h
    refine ⟨r', by rw [i2 _ hr0]; exact a, b, fun i v' h => ?_⟩
    obtain ⟨e', h1, h2, _⟩ := e i v' h
    exact ⟨e', by simpa using h1, h2⟩

theorem lookup_run {t key elem : TypeId} (hu : g.P.underlying t = some (.map key elem)) {m k : Value} {es' : Array MapEntry} (hm : (m = .map none ∧ es' = #[]) ∨ ∃ r clock, m = .map (some r) ∧ w.heap[r]? = some (.map es' clock)) {u : Unit}
    (hck : (Instr.checkKey es'.isEmpty 10000 key k).run g.P w = .ok u w) (ok : Bool) :
    (∀ i v, (Instr.findKey key k es'.toList).run g.P w = .ok (some (i, v)) w → (Instr.lookup t m k ok).run g.P w = .ok (if ok then .tuple #[v, .bool true] else v) w) ∧
    (∀ zero, (g.P.info? elem).bind (·.zero) = some zero → (Instr.findKey key k es'.toList).run g.P w = .ok none w → (Instr.lookup t m k ok).run g.P w = .ok (if ok then .tuple #[zero, .bool false] else zero) w) := by
  unfold Instr.lookup
  rcases hm with ⟨rfl, rfl⟩ | ⟨r, clock, rfl, hr⟩
  · constructor
    · intro i v hf
      simp only [Sem.run_bind, run_under hu, Result.andThen_ok, Sem.run_pure, hck, hf]
    · intro zero hz hf
      simp only [Sem.run_bind, run_under hu, Result.andThen_ok, Sem.run_pure, hck, hf, run_zero hz]
  · have hg := run_getObj (g := g) hr rfl
    constructor
    · intro i v hf
      simp only [Sem.run_bind, run_under hu, Result.andThen_ok, Sem.run_pure, hg, hck, hf]
    · intro zero hz hf
      simp only [Sem.run_bind, run_under hu, Result.andThen_ok, Sem.run_pure, hg, hck, hf, run_zero hz]

theorem pair_rel {φ : Nat → Pl} {c : Ctx} {n : Nat} {v v' : Value} (h : Vrel φ c n v v') (ok b : Bool) : Vrel φ c n (if ok then .tuple #[v, .bool b] else v) (if ok then .tuple #[v', .bool b] else v') := by
  cases ok with
  | true =>
    simp only [if_true]
    refine .tuple _ _ rfl (fun i y y' hy hy' => ?_)
    match i with
    | 0 => simp at hy hy'; subst hy hy'; exact h
    | 1 => simp at hy hy'; subst hy hy'; exact .bool _
    | i + 2 => simp at hy
  | false => exact h

theorem lookup_ok (hs : SRel g base φ ω c s w) (hf : FRel φ c s.next lam ω fr rs a w) {o : Oper} {t : TypeId} {x ix : Operand} {ok : Bool} (ho : o.op = .lookup t x ix ok) {r : Value} (h : doLookup g c fr s t x ix ok = some r) :
    OpOk g base c φ ω lam fr s a w o r fr.loc s := by
  unfold doLookup at h
  replace h := bind_some h; obtain ⟨m, hm, h⟩ := h
  replace h := bind_some h; obtain ⟨k, hk, h⟩ := h
  replace h := bind_some h; obtain ⟨_, hp, h⟩ := h
  rw [chk_some] at hp
  have hmr := gev_rel hs hf hm
  have hkr := plain_eq 8 _ _ hp (gev_rel hs hf hk)
  split at h
  · rename_i key elem r0 hu
    replace h := bind_some h; obtain ⟨es, hes, h⟩ := h
    replace h := bind_some h; obtain ⟨f, hfe, h⟩ := h
    have hent : ∃ es' : Array MapEntry, ((a.eval x = .map none ∧ es' = #[]) ∨ ∃ r clock, a.eval x = .map (some r) ∧ w.heap[r]? = some (.map es' clock)) ∧ es'.size = es.length ∧
        ∀ (i : Nat) (e : Value × Value), es[i]? = some e → ∃ e' : MapEntry, es'[i]? = some e' ∧ plainN 8 e.1 = true ∧ e'.key = e.1 ∧ Vrel φ c s.next e.2 e'.val := by
      cases r0 with
      | none =>
        simp only [Option.some.injEq] at hes; subst hes
        refine ⟨#[], .inl ⟨?_, rfl⟩, rfl, fun i e h => by simp at h⟩
        generalize a.eval x = z at hmr; cases hmr; rfl
      | some id =>
        obtain ⟨es', clock, h1, h2, h3⟩ := map_obj hs hes
        refine ⟨es', .inr ⟨(φ id).blk, clock, ?_, h1⟩, h2, h3⟩
        generalize a.eval x = z at hmr; cases hmr; rfl
    obtain ⟨es', hrun, hsz, hall⟩ := hent
    unfold findEntry at hfe
    replace hfe := bind_some hfe; obtain ⟨u, hck, hfe⟩ := hfe
    replace hfe := bind_some hfe; obtain ⟨r1, hr1, hfe⟩ := hfe
    cases hfe
    have hemp : es'.isEmpty = es.isEmpty := by
      have : es'.toList.length = es.length := by simpa using hsz
      rw [← Array.isEmpty_toList]
      cases es with
      | nil => simp only [List.length_nil, List.length_eq_zero_iff] at this; rw [this]; rfl
      | cons e r => cases hl : es'.toList with
        | nil => rw [hl] at this; simp at this
        | cons => rfl
    obtain ⟨r', hr', hrm, hrv⟩ := findKey_rel (g := g) key k (es' := es'.toList) (by simpa using hsz) (fun i e e' h1 h2 => by
      obtain ⟨e2, a1, _, a3, _⟩ := hall i e h1
      have : es'.toList[i]? = some e2 := by simpa using a1
      rw [this] at h2; cases h2; exact a3) hr1
    rw [← hemp] at hck
    obtain ⟨l1, l2⟩ := lookup_run hu hrun (purely_run hck w) ok
    have hfk := purely_run hr' w
    cases r1 with
    | some p =>
      obtain ⟨i, v0⟩ := p
      simp only [Option.map_some] at h hrm
      replace h := bind_some h; obtain ⟨e, he, h⟩ := h
      cases h
      obtain ⟨⟨i', v'⟩, rfl, hi'⟩ := Option.map_eq_some_iff.1 hrm
      simp only at hi'; subst hi'
      obtain ⟨e', he', hv'⟩ := hrv _ _ rfl
      obtain ⟨e2, a1, _, _, a4⟩ := hall _ _ he
      have : es'.toList[i']? = some e2 := by simpa using a1
      rw [this] at he'; cases he'; subst hv'
      refine OpOk.sameV hs hf (v' := if ok then .tuple #[e'.val, .bool true] else e'.val) ?_ (pair_rel a4 ok true)
      simp only [execOp, ho, Sem.run_bind, hkr, l1 _ _ hfk, Result.andThen_ok, Sem.run_pure]
    | none =>
      simp only [Option.map_none] at h hrm
      replace h := bind_some h; obtain ⟨zero, hz, h⟩ := h
      replace h := bind_some h; obtain ⟨_, hpz, h⟩ := h
      rw [chk_some] at hpz
      cases h
      have hr0 : r' = none := Option.map_eq_none_iff.1 hrm
      subst hr0
      refine OpOk.sameV hs hf (v' := if ok then .tuple #[zero, .bool false] else zero) ?_ (pair_rel (plain_rel φ c s.next 8 _ hpz) ok false)
      simp only [execOp, ho, Sem.run_bind, hkr, l2 _ hz hfk, Result.andThen_ok, Sem.run_pure]
  · cases h


/-- A map of one's own is turned. -/
theorem map_post (hs : SRel g base φ ω c s w) (hf : FRel φ c s.next lam ω fr rs a w) {id : Nat} {es es2 : List (Value × Value)} {es' es2' : Array MapEntry} {clock clock2 : Nat} (hm : mapAt c s id = some es) (hfl : c.wr id = true) (hb : w.heap[(φ id).blk]? = some (.map es' clock))
    (hsz : es2'.size = es2.length) (hall : ∀ (i : Nat) (e : Value × Value), es2[i]? = some e → ∃ e' : MapEntry, es2'[i]? = some e' ∧ plainN 8 e.1 = true ∧ e'.key = e.1 ∧ Vrel φ c s.next e.2 e'.val) :
    Post g base c φ φ ω ω lam lam fr.loc fr.loc s { s with heap := s.heap.put id (.map es2) } w { w with heap := w.heap.setIfInBounds (φ id).blk (.map es2' clock2) } := by
  obtain ⟨hv, hg⟩ := mapAt_some hm
  have hbi : base.id ≤ id := hs.bf id hfl
  have htag := hs.tag id _ hg hv hbi trivial
  have hlt := (hs.tags _ _ htag).2.1
  have hsame : ∀ b, b ≠ (φ id).blk → (w.heap.setIfInBounds (φ id).blk (.map es2' clock2))[b]? = w.heap[b]? := fun b hb => by
    rw [Array.getElem?_setIfInBounds, if_neg (fun e => hb e.symm)]
  have hsize : (w.heap.setIfInBounds (φ id).blk (.map es2' clock2)).size = w.heap.size := by simp
  refine ⟨fun _ _ => rfl, Nat.le_refl _, ?_, ?_, fun d cs h => .inl ⟨rfl, cs, h⟩, fun d cs h => ⟨rfl, cs, h⟩, ⟨rfl, rfl, rfl, Nat.le_of_eq hsize.symm, fun b _ hown _ => ⟨hsame b ?_, rfl⟩⟩⟩
  · refine SRel.putObj hs (Nat.le_of_eq hsize.symm) hbi (hs.dom _ _ hg) (Nat.le_refl _) (fun _ _ => rfl) (fun b hb hl => ⟨hsame b ?_, rfl⟩) (fun _ => ⟨es2', clock2, ?_, hsz, hall⟩) (fun _ _ => htag) (fun b t ht => ?_)
    · rintro rfl
      rcases hl with hl | hl | ⟨i, o', h1, h2, h3, h4, h5, h6⟩
      · rw [htag] at hl; cases hl
      · have := (hs.tags _ _ htag).1; omega
      · rw [htag] at h5; cases h5; exact h6 rfl
    · rw [Array.getElem?_setIfInBounds, if_pos rfl, if_pos hlt]
    · obtain ⟨x, y, z⟩ := hs.tags b t ht
      exact ⟨x, by rw [hsize]; exact y, z⟩
  · intro d cs h
    obtain ⟨ht, cs', el', hb', ha⟩ := hf.own d cs h
    have : lam d ≠ (φ id).blk := fun e => by rw [e, htag] at ht; cases ht
    exact ⟨ht, cs', el', by simp only; rw [hsame _ this]; exact hb', ha⟩
  · rintro rfl
    exact hown ⟨id, _, htag, hfl, hv, hg⟩

theorem run_setObj {r : Nat} {ob ob' : Obj} (h : w.heap[r]? = some ob) (hc : ob.isCells = false) : (setObj r ob').run g.P w = .ok () { w with heap := w.heap.setIfInBounds r ob' } := by
  simp only [setObj, Sem.run, h]
  cases ob <;> first | rfl | simp [Obj.isCells] at hc

theorem update_ok (hs : SRel g base φ ω c s w) (hf : FRel φ c s.next lam ω fr rs a w) {o : Oper} {t : TypeId} {x ix y : Operand} (ho : o.op = .mapUpdate t x ix y ∨ o.op = .insert t x ix y) {r : St} (h : doUpdate g c fr s t x ix y = some r) :
    OpOk g base c φ ω lam fr s a w o undef fr.loc r := by
  unfold doUpdate at h
  replace h := bind_some h; obtain ⟨m, hm, h⟩ := h
  replace h := bind_some h; obtain ⟨k, hk, h⟩ := h
  replace h := bind_some h; obtain ⟨v, hv, h⟩ := h
  replace h := bind_some h; obtain ⟨_, hp, h⟩ := h
  rw [chk_some] at hp
  have hmr := gev_rel hs hf hm
  have hkr := plain_eq 8 _ _ hp (gev_rel hs hf hk)
  have hvr := gev_rel hs hf hv
  split at h
  · rename_i key elem id hu
    replace h := bind_some h; obtain ⟨es, hes, h⟩ := h
    replace h := bind_some h; obtain ⟨_, hc, h⟩ := h
    rw [chk_some] at hc
    replace h := bind_some h; obtain ⟨u, hck, h⟩ := h
    replace h := bind_some h; obtain ⟨r1, hr1, h⟩ := h
    obtain ⟨es', clock, h1, hsz, hall⟩ := map_obj hs hes
    have hx : a.eval x = .map (some (φ id).blk) := by generalize a.eval x = z at hmr; cases hmr; rfl
    obtain ⟨r', hr', hrm, hrv⟩ := findKey_rel (g := g) key k (es' := es'.toList) (by simpa using hsz) (fun i e e' h1 h2 => by
      obtain ⟨e2, a1, _, a3, _⟩ := hall i e h1
      have : es'.toList[i]? = some e2 := by simpa using a1
      rw [this] at h2; cases h2; exact a3) hr1
    have hgo := run_getObj (g := g) h1 rfl
    have hck' := purely_run hck w
    have hfk := purely_run hr' w
    have lift : ∀ W, (Instr.mapUpdate t (a.eval x) (a.eval ix) (a.eval y)).run g.P w = .ok () W → (execOp a.eval o).run g.P w = .ok .skip W := by
      intro W hW
      rcases ho with ho | ho <;> simp only [execOp, ho, Sem.run_bind, hW, Result.andThen_ok, Sem.run_pure]
    have undefR : ∀ (n : Nat), Trel φ c n lam undef undef := fun n => (plain_rel φ c n 1 undef (by simp [plainN, undef])).trel
    split at h
    · rename_i i v0
      replace h := bind_some h; obtain ⟨e, he, h⟩ := h
      replace h := bind_some h; obtain ⟨_, hsb, h⟩ := h
      rw [chk_some] at hsb
      cases h
      obtain ⟨⟨i', v'⟩, rfl, hi'⟩ := Option.map_eq_some_iff.1 hrm
      simp only at hi'; subst hi'
      obtain ⟨e2, a1, a2, a3, a4⟩ := hall _ _ he
      have run : (Instr.mapUpdate t (a.eval x) (a.eval ix) (a.eval y)).run g.P w = .ok () { w with heap := w.heap.setIfInBounds (φ id).blk (.map (es'.modify i' fun e => { e with key := k, val := a.eval y }) clock) } := by
        unfold Instr.mapUpdate
        have hkey : ((es'[i']?).map (·.key)).getD k = e.1 := by rw [a1]; exact a3
        simp only [hx, hkr, Sem.run_bind, run_under hu, Result.andThen_ok, hgo, hck', hfk, hkey, Instr.keyThatStays, hsb, if_true, Sem.run_pure, run_setObj (g := g) h1 rfl]
      refine ⟨undef, φ, ω, lam, _, .skip, lift _ run, .inr ⟨rfl, rfl⟩, undefR _, live_glob rfl, map_post hs hf hes hc h1 (by simp [hsz]) (fun j e0 hj => ?_)⟩
      rw [List.getElem?_set] at hj
      by_cases hij : i' = j
      · subst hij
        rw [if_pos rfl] at hj
        split at hj
        · cases hj
          refine ⟨{ e2 with key := k, val := a.eval y }, ?_, hp, rfl, hvr⟩
          rw [Array.getElem?_modify, if_pos rfl, a1]; rfl
        · cases hj
      · rw [if_neg hij] at hj
        obtain ⟨e3, b1, b2, b3, b4⟩ := hall _ _ hj
        exact ⟨e3, by rw [Array.getElem?_modify, if_neg hij]; exact b1, b2, b3, b4⟩
    · cases h
      have hr0 : r' = none := Option.map_eq_none_iff.1 hrm
      subst hr0
      have run : (Instr.mapUpdate t (a.eval x) (a.eval ix) (a.eval y)).run g.P w = .ok () { w with heap := w.heap.setIfInBounds (φ id).blk (.map (es'.push { key := k, val := a.eval y, born := clock }) (clock + 1)) } := by
        unfold Instr.mapUpdate
        simp only [hx, hkr, Sem.run_bind, run_under hu, Result.andThen_ok, hgo, hck', hfk, run_setObj (g := g) h1 rfl]
      refine ⟨undef, φ, ω, lam, _, .skip, lift _ run, .inr ⟨rfl, rfl⟩, undefR _, live_glob rfl, map_post hs hf hes hc h1 (by simp [hsz]) (fun j e0 hj => ?_)⟩
      rw [List.getElem?_append] at hj
      split at hj
      · rename_i hlt
        obtain ⟨e3, b1, b2, b3, b4⟩ := hall _ _ hj
        exact ⟨e3, by rw [Array.getElem?_push, if_neg (by omega)]; exact b1, b2, b3, b4⟩
      · rename_i hge
        have : j = es.length := by
          have := (List.getElem?_eq_some_iff.1 hj).1
          simp at this; omega
        subst this
        simp at hj; subst hj
        exact ⟨{ key := k, val := a.eval y, born := clock }, by rw [← hsz]; simp, hp, rfl, hvr⟩
  · cases h

theorem delete_ok (hs : SRel g base φ ω c s w) (hf : FRel φ c s.next lam ω fr rs a w) {o : Oper} {cl : Call} (ho : o.op = .call cl) (hcl : cl.callee = .builtin .delete) {as : List Value} (has : evL g fr cl.args.toList = some as)
    {r : St} (h : doDelete g c s cl.argTypes as = some r) : OpOk g base c φ ω lam fr s a w o (.tuple #[]) fr.loc r := by
  unfold doDelete at h
  split at h
  · rename_i m k
    replace h := bind_some h; obtain ⟨t, ht, h⟩ := h
    replace h := bind_some h; obtain ⟨_, hp, h⟩ := h
    rw [chk_some] at hp
    obtain ⟨m', k', hA, hmr, hkr⟩ := args2 hs hf has
    have hkr := plain_eq 8 _ _ hp hkr
    rw [hkr] at hA
    have lift : ∀ {v2 : Value} {W : World}, (Builtin.delete_ cl.argTypes o.type #[m', k]).run g.P w = .ok v2 W → (execOp a.eval o).run g.P w = .ok (.value v2) W := fun h => by
      refine builtin_run ho hcl ?_
      rw [hA]
      simp only [builtin, Sem.run_bind, h, Result.andThen_ok, Sem.run_pure]
    have e0 : ∀ n, Vrel φ c n (.tuple #[]) (.tuple #[]) := fun n => plain_rel φ c n 1 _ (by simp [plainN])
    split at h
    · rename_i key elem id hu
      replace h := bind_some h; obtain ⟨es, hes, h⟩ := h
      replace h := bind_some h; obtain ⟨_, hc, h⟩ := h
      rw [chk_some] at hc
      replace h := bind_some h; obtain ⟨f, hfe, h⟩ := h
      unfold findEntry at hfe
      replace hfe := bind_some hfe; obtain ⟨u, hck, hfe⟩ := hfe
      replace hfe := bind_some hfe; obtain ⟨r1, hr1, hfe⟩ := hfe
      cases hfe
      obtain ⟨es', clock, h1, hsz, hall⟩ := map_obj hs hes
      have hm : m' = .map (some (φ id).blk) := by cases hmr; rfl
      have hemp : es'.isEmpty = es.isEmpty := by
        have : es'.toList.length = es.length := by simpa using hsz
        rw [← Array.isEmpty_toList]
        cases es with
        | nil => simp only [List.length_nil, List.length_eq_zero_iff] at this; rw [this]; rfl
        | cons e r => cases hl : es'.toList with
          | nil => rw [hl] at this; simp at this
          | cons => rfl
      obtain ⟨r', hr', hrm, hrv⟩ := findKey_rel (g := g) key k (es' := es'.toList) (by simpa using hsz) (fun i e e' h1 h2 => by
        obtain ⟨e2, a1, _, a3, _⟩ := hall i e h1
        have : es'.toList[i]? = some e2 := by simpa using a1
        rw [this] at h2; cases h2; exact a3) hr1
      rw [← hemp] at hck
      have hgo := run_getObj (g := g) h1 rfl
      have hck' := purely_run hck w
      have hfk := purely_run hr' w
      cases r1 with
      | some p =>
        obtain ⟨i, v0⟩ := p
        simp only [Option.map_some] at h hrm
        cases h
        obtain ⟨⟨i', v'⟩, rfl, hi'⟩ := Option.map_eq_some_iff.1 hrm
        simp only at hi'; subst hi'
        have run : (Builtin.delete_ cl.argTypes o.type #[m', k]).run g.P w = .ok (.tuple #[]) { w with heap := w.heap.setIfInBounds (φ id).blk (.map (es'.eraseIdxIfInBounds i') clock) } := by
          subst hm
          unfold Builtin.delete_
          simp only [ht, List.size_toArray, List.length_cons, List.length_nil, Nat.zero_add, Nat.reduceAdd, Nat.reduceLT, getElem?_pos, List.getElem_toArray, List.getElem_cons_zero, List.getElem_cons_succ, Sem.run_bind, run_under hu, Result.andThen_ok, hgo, hck', hfk, run_setObj (g := g) h1 rfl, Sem.run_pure]
        have hel : (es'.eraseIdxIfInBounds i').toList = es'.toList.eraseIdx i' := by
          unfold Array.eraseIdxIfInBounds
          split
          · simp
          · rename_i hge; rw [List.eraseIdx_of_length_le (by simp at hge ⊢; omega)]
        refine ⟨.tuple #[], φ, ω, lam, _, _, lift run, .inl rfl, (e0 _).trel, live_glob rfl, map_post hs hf hes hc h1 ?_ (fun j e0 hj => ?_)⟩
        · rw [← Array.length_toList, hel, List.length_eraseIdx, List.length_eraseIdx]
          simp [hsz]
        · rw [List.getElem?_eraseIdx] at hj
          have conv : ∀ q, (es'.eraseIdxIfInBounds i')[j]? = q ↔ (es'.toList.eraseIdx i')[j]? = q := fun q => by rw [← Array.getElem?_toList, hel]
          split at hj
          · rename_i hlt
            obtain ⟨e3, b1, b2, b3, b4⟩ := hall _ _ hj
            exact ⟨e3, by rw [conv, List.getElem?_eraseIdx, if_pos hlt]; simpa using b1, b2, b3, b4⟩
          · rename_i hlt
            obtain ⟨e3, b1, b2, b3, b4⟩ := hall _ _ hj
            exact ⟨e3, by rw [conv, List.getElem?_eraseIdx, if_neg hlt]; simpa using b1, b2, b3, b4⟩
      | none =>
        simp only [Option.map_none] at h hrm
        cases h
        have hr0 : r' = none := Option.map_eq_none_iff.1 hrm
        subst hr0
        have hself : w.heap.setIfInBounds (φ id).blk (.map es' clock) = w.heap := by
          apply Array.ext
          · simp
          · intro i h1' h2'
            rw [Array.getElem_setIfInBounds]
            split
            · rename_i e; subst e
              exact ((Array.getElem?_eq_some_iff.1 h1).2).symm
            · rfl
        have run : (Builtin.delete_ cl.argTypes o.type #[m', k]).run g.P w = .ok (.tuple #[]) w := by
          subst hm
          unfold Builtin.delete_
          simp only [ht, List.size_toArray, List.length_cons, List.length_nil, Nat.zero_add, Nat.reduceAdd, Nat.reduceLT, getElem?_pos, List.getElem_toArray, List.getElem_cons_zero, List.getElem_cons_succ, Sem.run_bind, run_under hu, Result.andThen_ok, hgo, hck', hfk, run_setObj (g := g) h1 rfl, Sem.run_pure, hself]
        exact OpOk.sameV hs hf (lift run) (e0 _)
    · rename_i key elem hu
      replace h := bind_some h; obtain ⟨f, hfe, h⟩ := h
      cases h
      unfold findEntry at hfe
      replace hfe := bind_some hfe; obtain ⟨u, hck, hfe⟩ := hfe
      have hm : m' = .map none := by cases hmr; rfl
      have hck' := purely_run hck w
      have run : (Builtin.delete_ cl.argTypes o.type #[m', k]).run g.P w = .ok (.tuple #[]) w := by
        subst hm
        unfold Builtin.delete_
        simp only [ht, List.size_toArray, List.length_cons, List.length_nil, Nat.zero_add, Nat.reduceAdd, Nat.reduceLT, getElem?_pos, List.getElem_toArray, List.getElem_cons_zero, List.getElem_cons_succ, Sem.run_bind, run_under hu, Result.andThen_ok]
        simp only [List.isEmpty_nil] at hck'
        rw [hck']; rfl
      exact OpOk.sameV hs hf (lift run) (e0 _)
    · cases h
  · cases h

end
end Go.Am
