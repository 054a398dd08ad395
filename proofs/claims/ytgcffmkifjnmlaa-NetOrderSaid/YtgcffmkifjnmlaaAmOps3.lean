/- Operations that pass values on. -/
import Derived.Test.YtgcffmkifjnmlaaAmOps2
namespace Go.Am
section
variable {g : Cfg} {base : Base} {c : Ctx} {φ : Nat → Pl} {ω : Nat → Option Tag} {lam : Nat → Nat} {fr : Fr} {s : St} {rs : List Nat} {a : Act} {w : World}

/-- Filling places: parts that stand in the relation. -/
theorem fold_rel {φ : Nat → Pl} {c : Ctx} {n : Nat} (off : Nat) : ∀ (l l' : List Value) (k : Nat) (cs cs' : Array Value), Arel φ c n cs cs' → l.length = l'.length → (∀ (i : Nat) (x x' : Value), l[i]? = some x → l'[i]? = some x' → Vrel φ c n x x') →
    Arel φ c n ((l.zipIdx k).foldl (fun cs (x : Value × Nat) => cs.setIfInBounds (off + x.2) x.1) cs) ((l'.zipIdx k).foldl (fun cs (x : Value × Nat) => cs.setIfInBounds (off + x.2) x.1) cs') := by
  intro l
  induction l with
  | nil => intro l' k cs cs' h hl _; cases l' with
    | nil => exact h
    | cons => simp at hl
  | cons x r ih =>
    intro l' k cs cs' h hl hr
    cases l' with
    | nil => simp at hl
    | cons x' r' =>
      simp only [List.zipIdx_cons, List.foldl_cons]
      refine ih r' (k + 1) _ _ ⟨by simp [h.1], fun i y y' hy hy' => ?_⟩ (by simpa using hl) (fun i y y' hy hy' => hr (i + 1) y y' (by simpa using hy) (by simpa using hy'))
      rw [Array.getElem?_setIfInBounds] at hy hy'
      split at hy
      · rename_i e
        rw [if_pos e] at hy'
        rw [h.1] at hy
        split at hy
        · rename_i hlt
          rw [if_pos hlt] at hy'
          cases hy; cases hy'
          exact hr 0 _ _ rfl rfl
        · cases hy
      · rename_i e
        rw [if_neg e] at hy'
        exact h.2 i _ _ hy hy'

theorem fill_rel {φ : Nat → Pl} {c : Ctx} {n : Nat} (place : Nat → Option (Nat × Nat)) : ∀ (ps ps' : List (Nat × Value)) (cs cs' r : Array Value), Arel φ c n cs cs' → ps.length = ps'.length →
    (∀ (i : Nat) (x x' : Nat × Value), ps[i]? = some x → ps'[i]? = some x' → x'.1 = x.1 ∧ Vrel φ c n x.2 x'.2) → Instr.fill place cs ps = some r → ∃ r', Instr.fill place cs' ps' = some r' ∧ Arel φ c n r r' := by
  intro ps
  induction ps with
  | nil => intro ps' cs cs' r h hl _ hf; cases ps' with
    | nil => simp only [Instr.fill] at hf; cases hf; exact ⟨cs', rfl, h⟩
    | cons => simp at hl
  | cons p r0 ih =>
    intro ps' cs cs' r h hl hr hf
    cases ps' with
    | nil => simp at hl
    | cons p' r1 =>
      obtain ⟨k, v⟩ := p
      obtain ⟨k', v'⟩ := p'
      obtain ⟨hk, hv⟩ := hr 0 _ _ rfl rfl
      simp only at hk hv; subst hk
      have hc := cells_rel hv
      simp only [Instr.fill] at hf ⊢
      split at hf
      · cases hf
      · rename_i off size hp
        split at hf
        · cases hf
        · rename_i hcond
          rw [if_neg (by rw [← hc.1, ← h.1]; exact hcond)]
          refine ih r1 _ _ r ?_ (by simpa using hl) (fun i x x' hx hx' => hr (i + 1) x x' (by simpa using hx) (by simpa using hx')) hf
          have := fold_rel (φ := φ) (n := n) off v.cells.toList v'.cells.toList 0 cs cs' h (by simpa using hc.1) (fun i x x' hx hx' => hc.2 i x x' (by simpa using hx) (by simpa using hx'))
          have e : ∀ (b init : Array Value), b.zipIdx.foldl (fun cs (x : Value × Nat) => cs.setIfInBounds (off + x.2) x.1) init = (b.toList.zipIdx).foldl (fun cs (x : Value × Nat) => cs.setIfInBounds (off + x.2) x.1) init := by
            intro b init; rw [← Array.foldl_toList, Array.toList_zipIdx]
          exact (e v.cells cs).symm ▸ (e v'.cells cs').symm ▸ this

theorem plain_arel {φ : Nat → Pl} {c : Ctx} {n d : Nat} {v : Value} (h : plainN d v = true) : Arel φ c n v.cells v.cells := cells_rel (plain_rel φ c n d v h)

theorem parts_rel (hs : SRel g base φ ω c s w) (hf : FRel φ c s.next lam ω fr rs a w) {parts : Array (Nat × Operand)} {vs : List Value} (h : evL g fr (parts.toList.map (·.2)) = some vs) :
    ((parts.toList.map (·.1)).zip vs).length = (parts.map fun x => (x.1, a.eval x.2)).toList.length ∧
    ∀ (i : Nat) (x x' : Nat × Value), ((parts.toList.map (·.1)).zip vs)[i]? = some x → (parts.map fun x => (x.1, a.eval x.2)).toList[i]? = some x' → x'.1 = x.1 ∧ Vrel φ c s.next x.2 x'.2 := by
  obtain ⟨h1, h2⟩ := evL_rel hs hf _ _ h
  simp only [List.length_map] at h1
  refine ⟨by simp [h1], fun i x x' hx hx' => ?_⟩
  rw [List.getElem?_zip_eq_some] at hx
  obtain ⟨hx1, hx2⟩ := hx
  obtain ⟨y, hy, hv, _⟩ := h2 i _ hx2
  rw [List.getElem?_map] at hx1 hy
  simp only [Array.toList_map, List.getElem?_map] at hx'
  cases hp : parts.toList[i]? with
  | none => rw [hp] at hx1; cases hx1
  | some p =>
    rw [hp] at hx1 hy hx'
    simp only [Option.map_some, Option.some.injEq] at hx1 hy hx'
    subst hx' hy
    exact ⟨hx1, hv⟩

theorem mapM_sizes {fields : Array Field} {places : Array (Nat × Nat)} (h : fields.mapM (fun f => (sizeOf? g f.type).map fun n => (f.offset, n)) = some places) (w : World) :
    (fields.mapM fun f => do pure (f.offset, ← Go.sizeOf f.type) : Sem (Array (Nat × Nat))).run g.P w = .ok places w := by
  rw [Array.mapM_eq_mapM_toList] at h ⊢
  simp only [Option.map_eq_map, Option.map_eq_some_iff] at h
  obtain ⟨l, hl, rfl⟩ := h
  simp only [Sem.run_map]
  suffices ∀ (fs : List Field) (l : List (Nat × Nat)), fs.mapM (fun f => (sizeOf? g f.type).map fun n => (f.offset, n)) = some l → (fs.mapM (fun f => do pure (f.offset, ← Go.sizeOf f.type)) : Sem (List (Nat × Nat))).run g.P w = .ok l w by
    rw [this _ _ hl]; rfl
  intro fs
  induction fs with
  | nil => intro l h; simp at h; subst h; rfl
  | cons f r ih =>
    intro l h
    simp only [List.mapM_cons] at h ⊢
    replace h := bind_some h; obtain ⟨x, hx, h⟩ := h
    replace h := bind_some h; obtain ⟨y, hy, h⟩ := h
    cases h
    obtain ⟨n, hn, rfl⟩ := Option.map_eq_some_iff.1 hx
    unfold sizeOf? at hn
    simp only [Sem.run_bind, run_size hn, Result.andThen_ok, Sem.run_pure, ih y hy]

theorem build_ok (hs : SRel g base φ ω c s w) (hf : FRel φ c s.next lam ω fr rs a w) {o : Oper} {t : TypeId} {parts : Array (Nat × Operand)} (ho : o.op = .build t parts) {v : Value} (h : doBuild g fr t parts = some v) : OpOk g base c φ ω lam fr s a w o v fr.loc s := by
  unfold doBuild at h
  replace h := bind_some h; obtain ⟨vs, hvs, h⟩ := h
  replace h := bind_some h; obtain ⟨zero, hz, h⟩ := h
  replace h := bind_some h; obtain ⟨_, hp, h⟩ := h
  rw [chk_some] at hp
  obtain ⟨hl, hr⟩ := parts_rel hs hf hvs
  simp only at h
  split at h
  · rename_i fields hu
    replace h := bind_some h; obtain ⟨places, hpl, h⟩ := h
    replace h := bind_some h; obtain ⟨cells, hc, h⟩ := h
    cases h
    obtain ⟨r', hr', hrel⟩ := fill_rel (φ := φ) (c := c) (n := s.next) _ _ _ _ zero.cells _ (plain_arel hp) hl hr hc
    refine OpOk.sameV hs hf (v' := .agg r') ?_ (.agg _ _ hrel.1 hrel.2)
    simp only [execOp, ho, Instr.build, Sem.run_bind, run_zero hz, Result.andThen_ok, run_under hu, mapM_sizes hpl, hr', Sem.run_pure]
  · rename_i len elem hu
    replace h := bind_some h; obtain ⟨n, hn, h⟩ := h
    replace h := bind_some h; obtain ⟨cells, hc, h⟩ := h
    cases h
    unfold sizeOf? at hn
    obtain ⟨r', hr', hrel⟩ := fill_rel (φ := φ) (c := c) (n := s.next) _ _ _ _ zero.cells _ (plain_arel hp) hl hr hc
    refine OpOk.sameV hs hf (v' := .agg r') ?_ (.agg _ _ hrel.1 hrel.2)
    simp only [execOp, ho, Instr.build, Sem.run_bind, run_zero hz, Result.andThen_ok, run_under hu, run_size hn, hr', Sem.run_pure]
  · cases h

theorem extract_ok (hs : SRel g base φ ω c s w) (hf : FRel φ c s.next lam ω fr rs a w) {o : Oper} {x : Operand} {i : Nat} (ho : o.op = .extract x i) {v : Value} (h : doExtract g fr x i = some v) : OpOk g base c φ ω lam fr s a w o v fr.loc s := by
  unfold doExtract at h
  replace h := bind_some h; obtain ⟨t, ht, h⟩ := h
  have hrel := gev_rel hs hf ht
  split at h
  · rename_i vs
    cases hx : a.eval x <;> rw [hx] at hrel <;> cases hrel
    rename_i vs' ha hA
    obtain ⟨v', hv', hv⟩ := Arel.get ⟨ha, hA⟩ h
    exact OpOk.sameV hs hf (v' := v') (by simp [execOp, ho, hx, Instr.extract, hv']) hv
  · cases h

/-- A part of an aggregate. -/
theorem part_ok {φ : Nat → Pl} {c : Ctx} {n : Nat} {cs cs' : Array Value} (hr : Arel φ c n cs cs') {t : TypeId} {o : Nat} {v : Value} (h : readVar g t cs o = some v) (w : World) : ∃ v', (part t cs' o).run g.P w = .ok v' w ∧ Vrel φ c n v v' := by
  replace h := readVar_old _ h
  unfold readVar0 at h
  replace h := bind_some h; obtain ⟨ag, ha, h⟩ := h
  cases ag with
  | true =>
    simp only [if_true] at h
    replace h := bind_some h; obtain ⟨m, hm, h⟩ := h
    replace h := bind_some h; obtain ⟨_, hc, h⟩ := h
    rw [chk_some, decide_eq_true_eq] at hc
    cases h
    unfold sizeOf? at hm
    refine ⟨.agg (cs'.extract o (o + m)), by simp [part, aggT_run ha, run_size hm], ?_⟩
    refine .agg _ _ (by simp [hr.1]) (fun i x x' hx hx' => ?_)
    rw [Array.getElem?_extract] at hx hx'
    split at hx
    · split at hx'
      · exact hr.2 _ _ _ hx hx'
      · cases hx'
    · cases hx
  | false =>
    simp only [Bool.false_eq_true, if_false] at h
    obtain ⟨v', hv', hv⟩ := hr.get h
    exact ⟨v', by simp [part, aggT_run ha, hv'], hv⟩

theorem field_ok (hs : SRel g base φ ω c s w) (hf : FRel φ c s.next lam ω fr rs a w) {o : Oper} {t : TypeId} {x : Operand} {i : Nat} (ho : o.op = .field t x i) {v : Value} (h : doField g fr t x i = some v) : OpOk g base c φ ω lam fr s a w o v fr.loc s := by
  unfold doField at h
  replace h := bind_some h; obtain ⟨t, ht, h⟩ := h
  have hrel := gev_rel hs hf ht
  split at h
  · rename_i cs fields hu
    replace h := bind_some h; obtain ⟨fd, hfd, h⟩ := h
    cases hx : a.eval x <;> rw [hx] at hrel <;> cases hrel
    rename_i vs' ha hA
    obtain ⟨v', hv', hv⟩ := part_ok ⟨ha, hA⟩ h w
    exact OpOk.sameV hs hf (v' := v') (by simp [execOp, ho, hx, Instr.field, run_under hu, hfd, asAgg, hv']) hv
  · cases h

theorem index_ok (hs : SRel g base φ ω c s w) (hf : FRel φ c s.next lam ω fr rs a w) {o : Oper} {t : TypeId} {x ix : Operand} (ho : o.op = .index t x ix) {v : Value} (h : doIndex g fr t x ix = some v) : OpOk g base c φ ω lam fr s a w o v fr.loc s := by
  unfold doIndex at h
  replace h := bind_some h; obtain ⟨p, hp, h⟩ := h
  replace h := bind_some h; obtain ⟨iv, hi, h⟩ := h
  replace h := bind_some h; obtain ⟨i, hi', h⟩ := h
  obtain ⟨k, hk, _⟩ := int_of (gev_rel hs hf hi) hi'
  have hrel := gev_rel hs hf hp
  split at h
  · rename_i len elem cs hu
    replace h := bind_some h; obtain ⟨n, hn, h⟩ := h
    replace h := bind_some h; obtain ⟨_, hc, h⟩ := h
    rw [chk_some, Bool.and_eq_true, decide_eq_true_eq, decide_eq_true_eq] at hc
    unfold sizeOf? at hn
    cases hx : a.eval x <;> rw [hx] at hrel <;> cases hrel
    rename_i vs' ha hA
    obtain ⟨v', hv', hv⟩ := part_ok ⟨ha, hA⟩ h w
    exact OpOk.sameV hs hf (v' := v') (by simp only [execOp, ho, hx, hk, Instr.index, asIntOf, Sem.run_bind, Sem.run_pure, Result.andThen_ok, run_under hu, if_pos hc, run_size hn, hv']) hv
  · rename_i b hu
    replace h := bind_some h; obtain ⟨_, hc, h⟩ := h
    rw [chk_some, decide_eq_true_eq] at hc
    replace h := bind_some h; obtain ⟨y, hy, h⟩ := h
    cases h
    cases hx : a.eval x <;> rw [hx] at hrel <;> cases hrel
    refine OpOk.sameV hs hf (v' := .int .u8 y.toNat) ?_ (.int _ _)
    simp only [execOp, ho, hx, hk, Instr.index, asIntOf, Sem.run_bind, Sem.run_pure, Result.andThen_ok, run_under hu, if_pos hc, hy]
  · cases h

theorem makeFunc_ok (hs : SRel g base φ ω c s w) (hf : FRel φ c s.next lam ω fr rs a w) {o : Oper} {fn : Fn} {x y : Array Operand} (ho : o.op = .makeFunc fn x y) {v : Value} (h : doMakeFunc g fr fn x y = some v) : OpOk g base c φ ω lam fr s a w o v fr.loc s := by
  unfold doMakeFunc at h
  replace h := bind_some h; obtain ⟨p, hp, h⟩ := h
  replace h := bind_some h; obtain ⟨q, hq, h⟩ := h
  replace h := bind_some h; obtain ⟨_, hc, h⟩ := h
  rw [chk_some] at hc
  cases h
  have hp := evL_arel hs hf hp
  have hq := evL_arel hs hf hq
  cases fn with
  | func f => exact OpOk.sameV hs hf (v' := .func (.func f) (x.map a.eval) (y.map a.eval)) (by simp [execOp, ho, Instr.makeFunc]) (.func f _ _ _ _ hp.1 hq.1 hp.2 hq.2)
  | _ => simp [plainFn] at hc

theorem makeInterface_ok (hs : SRel g base φ ω c s w) (hf : FRel φ c s.next lam ω fr rs a w) {o : Oper} {t : TypeId} {x : Operand} (ho : o.op = .makeInterface t x) {v : Value} (h : doMakeInterface g fr t x = some v) : OpOk g base c φ ω lam fr s a w o v fr.loc s := by
  unfold doMakeInterface at h
  replace h := bind_some h; obtain ⟨p, hp, h⟩ := h
  split at h
  · cases h
  · rename_i d hd hu
    cases h
    refine OpOk.sameV hs hf (v' := .iface t (a.eval x)) ?_ (.iface _ _ _ (gev_rel hs hf hp))
    simp only [execOp, ho, Instr.makeInterface, Sem.run_bind, run_under hu, Result.andThen_ok]
    cases d <;> first | rfl | exact (hd _ hu).elim
  · cases h

theorem typeAssert_ok (hs : SRel g base φ ω c s w) (hf : FRel φ c s.next lam ω fr rs a w) {o : Oper} {x : Operand} {xt t : TypeId} {ok : Bool} (ho : o.op = .typeAssert x xt t ok) {v : Value} (h : doTypeAssert g fr x t ok = some v) : OpOk g base c φ ω lam fr s a w o v fr.loc s := by
  unfold doTypeAssert at h
  replace h := bind_some h; obtain ⟨p, hp, h⟩ := h
  have hrel := gev_rel hs hf hp
  split at h
  · cases h
  · rename_i t' w' d hd hu
    replace h := bind_some h; obtain ⟨_, hc, h⟩ := h
    rw [chk_some, beq_iff_eq] at hc
    subst hc
    cases hx : a.eval x <;> rw [hx] at hrel <;> cases hrel
    rename_i v1 hv1
    have run : (execOp a.eval o).run g.P w = .ok (.value (if ok then .tuple #[v1, .bool true] else v1)) w := by
      simp only [execOp, ho, hx, Instr.typeAssert, Sem.run_bind, run_under hu, Result.andThen_ok]
      cases d <;> first | exact (hd _ _ _ rfl hu).elim | simp
    cases h
    refine OpOk.sameV hs hf run ?_
    cases ok with
    | true =>
      simp only [if_true]
      refine .tuple _ _ rfl (fun i y y' hy hy' => ?_)
      match i with
      | 0 => simp at hy hy'; subst hy hy'; exact hv1
      | 1 => simp at hy hy'; subst hy hy'; exact .bool _
      | i + 2 => simp at hy
    | false => exact hv1
  · cases h

theorem nilCheck_ok (hs : SRel g base φ ω c s w) (hf : FRel φ c s.next lam ω fr rs a w) {o : Oper} {x : Operand} (ho : o.op = .nilCheck x) {v : Value} (h : doNilCheck g fr x = some v) : OpOk g base c φ ω lam fr s a w o v fr.loc s := by
  unfold doNilCheck at h
  replace h := bind_some h; obtain ⟨p, hp, h⟩ := h
  have hrel := ev_rel hs hf hp
  have hlive := ev_live hf hp
  split at h
  · rename_i ad
    cases h
    obtain ⟨b, off, spot⟩ := ad
    cases spot with
    | some sp =>
      have hrel' := hrel
      simp only [Trel] at hrel'
      exact OpOk.same hs hf (v' := a.eval x) (by simp [execOp, ho, hrel']) hrel hlive
    | none =>
      have hrel' : Vrel φ c s.next (.pointer (some ⟨b, off, none⟩)) (a.eval x) := (trel_global rfl).1 hrel
      refine OpOk.sameV hs hf (v' := a.eval x) ?_ hrel'
      cases hx : a.eval x <;> rw [hx] at hrel' <;> cases hrel'
      simp [execOp, ho, hx]
  · cases h
    have hrel' := (trel_global rfl).1 hrel
    refine OpOk.sameV hs hf (v' := a.eval x) ?_ hrel'
    cases hx : a.eval x <;> rw [hx] at hrel' <;> cases hrel'
    simp [execOp, ho, hx]
  · cases h
    have hrel' := (trel_global rfl).1 hrel
    refine OpOk.sameV hs hf (v' := a.eval x) ?_ hrel'
    cases hx : a.eval x <;> rw [hx] at hrel' <;> cases hrel' <;> simp [execOp, ho, hx]
  · cases h
    have hrel' := (trel_global rfl).1 hrel
    refine OpOk.sameV hs hf (v' := a.eval x) ?_ hrel'
    cases hx : a.eval x <;> rw [hx] at hrel' <;> cases hrel' <;> simp [execOp, ho, hx]
  · cases h

theorem equalIn_nil (k : Nat) {d : TypeDesc} {p q p' q' : Value} {r : Bool} (hp : Vrel φ c s.next p p') (hq : Vrel φ c s.next q q') (h : nilEqB d p q = some r) {t : TypeId} (hu : g.P.underlying t = some d) :
    (Op.equalIn (k + 1) t p' q').run g.P w = .ok r w := by
  unfold nilEqB at h
  split at h <;> cases h <;> cases hp <;> cases hq <;> simp only [Op.equalIn, Sem.run_bind, run_under hu, Result.andThen_ok] <;> rfl

theorem nilEq_forms {d : TypeDesc} {p q p' q' : Value} {r : Bool} (hp : Vrel φ c s.next p p') (hq : Vrel φ c s.next q q') (h : nilEqB d p q = some r) (t : TypeId) (x y : Operand) (op : BinOp) (ho : op = .eql ∨ op = .neq) :
    eqGuard op t x y p' q' = pure () ∧ Go.binOp .eql t p' q' = (do pure (.bool (← Op.equal t p' q'))) ∧ Go.binOp .neq t p' q' = (do pure (.bool (!(← Op.equal t p' q')))) := by
  unfold nilEqB at h
  split at h <;> cases h <;> cases hp <;> cases hq <;> (refine ⟨?_, rfl, rfl⟩; rcases ho with rfl | rfl <;> rfl)

theorem nilEq_run {d : TypeDesc} {p q p' q' : Value} {r : Bool} (hp : Vrel φ c s.next p p') (hq : Vrel φ c s.next q q') (h : nilEqB d p q = some r) {t : TypeId} (hu : g.P.underlying t = some d) (x y : Operand) :
    (do eqGuard .eql t x y p' q'; Go.binOp .eql t p' q' : Sem Value).run g.P w = .ok (.bool r) w ∧ (do eqGuard .neq t x y p' q'; Go.binOp .neq t p' q' : Sem Value).run g.P w = .ok (.bool (!r)) w := by
  have e : (Op.equal t p' q').run g.P w = .ok r w := equalIn_nil 9999 hp hq h hu
  obtain ⟨e1, e2, _⟩ := nilEq_forms hp hq h t x y .eql (.inl rfl)
  obtain ⟨e3, _, e4⟩ := nilEq_forms hp hq h t x y .neq (.inr rfl)
  rw [e1, e2, e3, e4]
  constructor <;> simp [e]

theorem nilEq_ok (hs : SRel g base φ ω c s w) (hf : FRel φ c s.next lam ω fr rs a w) {o : Oper} {op : BinOp} {t yt : TypeId} {x y : Operand} (ho : o.op = .binOp op t x y yt) {v : Value} (h : doNilEq g fr op t x y = some v) : OpOk g base c φ ω lam fr s a w o v fr.loc s := by
  unfold doNilEq at h
  replace h := bind_some h; obtain ⟨p, hp, h⟩ := h
  replace h := bind_some h; obtain ⟨q, hq, h⟩ := h
  replace h := bind_some h; obtain ⟨d, hu, h⟩ := h
  replace h := bind_some h; obtain ⟨r, hr, h⟩ := h
  have hp := gev_rel hs hf hp
  have hq := gev_rel hs hf hq
  have run := nilEq_run (w := w) hp hq hr hu x y
  split at h
  · cases h
    refine OpOk.sameV hs hf (v' := .bool r) ?_ (.bool _)
    simp only [execOp, ho, Sem.run_bind, Sem.run_pure] at run ⊢
    rw [run.1]; rfl
  · cases h
    refine OpOk.sameV hs hf (v' := .bool (!r)) ?_ (.bool _)
    simp only [execOp, ho, Sem.run_bind, Sem.run_pure] at run ⊢
    rw [run.2]; rfl
  · cases h

end
end Go.Am
