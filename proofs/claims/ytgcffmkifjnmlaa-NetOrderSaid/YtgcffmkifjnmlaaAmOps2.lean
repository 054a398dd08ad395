/- Operations that leave what is held alone. -/
import Derived.Test.YtgcffmkifjnmlaaAmOps1
namespace Go.Am

structure Post (g : Cfg) (base : Base) (c : Ctx) (φ φ' : Nat → Pl) (ω ω' : Nat → Option Tag) (lam lam' : Nat → Nat) (loc loc' : Tr (Array Value)) (s s' : St) (w w' : World) : Prop where
  agree : ∀ id, id < s.next → φ' id = φ id
  next : s.next ≤ s'.next
  srel : SRel g base φ' ω' c s' w'
  own : ∀ d cs, loc'.get d = some cs → ω' (lam' d) = some (.loc d) ∧ ∃ cs' el, w'.heap[lam' d]? = some (.cells cs' el (0, 0)) ∧ Arel φ' c s'.next cs cs'
  lamW : ∀ d cs, loc'.get d = some cs → (lam' d = lam d ∧ ∃ cs0, loc.get d = some cs0) ∨ w.heap.size ≤ lam' d
  old : ∀ d cs, loc.get d = some cs → lam' d = lam d ∧ ∃ cs', loc'.get d = some cs'
  keep : Keep ω ω' c s (LocB lam loc) w w'

def Live (v : Value) (loc : Tr (Array Value)) : Prop :=
  match v with
  | .pointer (some ⟨d, _, some _⟩) => ∃ cs, loc.get d = some cs
  | _ => True

theorem live_glob {v : Value} {loc : Tr (Array Value)} (h : local? v = false) : Live v loc := by
  unfold Live; split
  · simp [local?] at h
  · trivial

def OpOk (g : Cfg) (base : Base) (c : Ctx) (φ : Nat → Pl) (ω : Nat → Option Tag) (lam : Nat → Nat) (fr : Fr) (s : St) (a : Act) (w : World) (o : Oper) (v : Value) (loc' : Tr (Array Value)) (s' : St) : Prop :=
  ∃ v' φ' ω' lam' w' nx, (execOp a.eval o).run g.P w = .ok nx w' ∧ (nx = .value v' ∨ nx = .skip ∧ v' = undef) ∧ Trel φ' c s'.next lam' v v' ∧ Live v loc' ∧ Post g base c φ φ' ω ω' lam lam' fr.loc loc' s s' w w'

section
variable {g : Cfg} {base : Base} {c : Ctx} {φ : Nat → Pl} {ω : Nat → Option Tag} {lam : Nat → Nat} {fr : Fr} {s : St} {rs : List Nat} {a : Act} {w : World}

theorem Post.refl (hs : SRel g base φ ω c s w) (hf : FRel φ c s.next lam ω fr rs a w) : Post g base c φ φ ω ω lam lam fr.loc fr.loc s s w w where
  agree _ _ := rfl
  next := Nat.le_refl _
  srel := hs
  own := hf.own
  lamW d cs h := .inl ⟨rfl, cs, h⟩
  old d cs h := ⟨rfl, cs, h⟩
  keep := Keep.refl _ _ _ _ _

theorem ev_rel (hs : SRel g base φ ω c s w) (hf : FRel φ c s.next lam ω fr rs a w) {x : Operand} {v : Value} (h : fr.ev g x = some v) : Trel φ c s.next lam v (a.eval x) := by
  cases x with
  | tmp t =>
    simp only [Fr.ev] at h
    split at h
    · rename_i p hp; cases h
      exact (hf.pt t p hp).2
    · exact (hf.tm t v h).trel
  | const v' =>
    simp only [Fr.ev] at h
    split at h
    · rename_i hp; cases h; exact (plain_rel φ c s.next 8 _ hp).trel
    · cases h
  | global i =>
    simp only [Fr.ev] at h
    split at h
    · rename_i hi; cases h
      have hg := hs.glob i hi
      have := Vrel.pointer (φ := φ) (c := c) (n := s.next) i 0 ⟨Nat.lt_of_lt_of_le hg.1 hs.bn, hs.vlow _ hg.1⟩
      rw [hg.2] at this
      exact this.trel
    · cases h
  | func f =>
    simp only [Fr.ev] at h; cases h
    exact (Vrel.func f #[] #[] #[] #[] rfl rfl (fun _ _ _ h => by simp at h) (fun _ _ _ h => by simp at h)).trel

theorem ev_live (hf : FRel φ c s.next lam ω fr rs a w) {x : Operand} {v : Value} (h : fr.ev g x = some v) : Live v fr.loc := by
  cases x with
  | tmp t =>
    simp only [Fr.ev] at h
    split at h
    · rename_i p hp; cases h
      exact (hf.pt t p hp).1
    · exact live_glob (hf.tm t v h).glob
  | const v' =>
    simp only [Fr.ev] at h
    split at h
    · rename_i hp; cases h; exact live_glob (plain_rel φ c s.next 8 _ hp).glob
    · cases h
  | global i =>
    simp only [Fr.ev] at h
    split at h
    · cases h; exact live_glob rfl
    · cases h
  | func f => simp only [Fr.ev] at h; cases h; exact live_glob rfl

theorem gev_some {x : Operand} {v : Value} (h : fr.gev g x = some v) : fr.ev g x = some v ∧ local? v = false := by
  unfold Fr.gev at h
  replace h := bind_some h; obtain ⟨v', hv, h⟩ := h
  replace h := bind_some h; obtain ⟨_, hc, h⟩ := h
  rw [chk_some] at hc
  cases h
  exact ⟨hv, by simpa using hc⟩

theorem gev_rel (hs : SRel g base φ ω c s w) (hf : FRel φ c s.next lam ω fr rs a w) {x : Operand} {v : Value} (h : fr.gev g x = some v) : Vrel φ c s.next v (a.eval x) := by
  obtain ⟨h, hl⟩ := gev_some h
  exact (trel_global hl).1 (ev_rel hs hf h)

theorem evL_rel (hs : SRel g base φ ω c s w) (hf : FRel φ c s.next lam ω fr rs a w) : ∀ (xs : List Operand) (vs : List Value), evL g fr xs = some vs → vs.length = xs.length ∧ ∀ (i : Nat) (v : Value), vs[i]? = some v → ∃ x, xs[i]? = some x ∧ Vrel φ c s.next v (a.eval x) ∧ fr.gev g x = some v := by
  intro xs
  induction xs with
  | nil => intro vs h; simp only [evL] at h; cases h; exact ⟨rfl, fun i v h => by simp at h⟩
  | cons x r ih =>
    intro vs h
    simp only [evL] at h
    replace h := bind_some h; obtain ⟨v, hv, h⟩ := h
    replace h := bind_some h; obtain ⟨vs', hvs, h⟩ := h
    cases h
    obtain ⟨h1, h2⟩ := ih vs' hvs
    refine ⟨by simp [h1], fun i u hu => ?_⟩
    cases i with
    | zero => simp at hu; subst hu; exact ⟨x, rfl, gev_rel hs hf hv, hv⟩
    | succ i => simpa using h2 i u (by simpa using hu)

theorem evL_arel (hs : SRel g base φ ω c s w) (hf : FRel φ c s.next lam ω fr rs a w) {xs : Array Operand} {vs : List Value} (h : evL g fr xs.toList = some vs) : Arel φ c s.next vs.toArray (xs.map a.eval) := by
  obtain ⟨h1, h2⟩ := evL_rel hs hf _ _ h
  refine ⟨by simpa using h1, fun i x x' hx hx' => ?_⟩
  obtain ⟨y, hy, hr, _⟩ := h2 i x (by simpa using hx)
  have hy' : xs[i]? = some y := by simpa using hy
  rw [Array.getElem?_map, hy'] at hx'
  cases hx'; exact hr

/-- A value in the same world. -/
theorem OpOk.same (hs : SRel g base φ ω c s w) (hf : FRel φ c s.next lam ω fr rs a w) {o : Oper} {v v' : Value} (hr : (execOp a.eval o).run g.P w = .ok (.value v') w) (hv : Trel φ c s.next lam v v') (hl : Live v fr.loc) :
    OpOk g base c φ ω lam fr s a w o v fr.loc s :=
  ⟨v', φ, ω, lam, w, _, hr, .inl rfl, hv, hl, Post.refl hs hf⟩

theorem OpOk.sameV (hs : SRel g base φ ω c s w) (hf : FRel φ c s.next lam ω fr rs a w) {o : Oper} {v v' : Value} (hr : (execOp a.eval o).run g.P w = .ok (.value v') w) (hv : Vrel φ c s.next v v') :
    OpOk g base c φ ω lam fr s a w o v fr.loc s :=
  OpOk.same hs hf hr hv.trel (live_glob hv.glob)

theorem quietOp_ok (hs : SRel g base φ ω c s w) (hf : FRel φ c s.next lam ω fr rs a w) {o : Oper} (ho : ∀ cs b, o.op ≠ .select cs b) {v : Value} (h : quietOp g fr o = some v) : OpOk g base c φ ω lam fr s a w o v fr.loc s := by
  unfold quietOp at h
  replace h := bind_some h; obtain ⟨vs, hvs, h⟩ := h
  replace h := bind_some h; obtain ⟨_, hp, h⟩ := h
  replace h := bind_some h; obtain ⟨n, hn, h⟩ := h
  rw [chk_some] at hp
  split at h
  · rename_i v'
    replace h := bind_some h; obtain ⟨_, hp', h⟩ := h
    rw [chk_some] at hp'
    cases h
    obtain ⟨hl, hr⟩ := evL_rel hs hf _ _ hvs
    have hcon : execOp (fun x => (fr.ev g x).getD undef) o = execOp a.eval o := by
      refine execOp_congr o ho fun x hx => ?_
      obtain ⟨i, hi⟩ := List.mem_iff_getElem?.1 (Array.mem_toList_iff.2 hx)
      have hlt : i < vs.length := by rw [hl]; exact (List.getElem?_eq_some_iff.1 hi).1
      obtain ⟨y, hy, hv, hg⟩ := hr i vs[i] (List.getElem?_eq_getElem hlt)
      rw [hi] at hy; cases hy
      have hpl : plainN 8 vs[i] = true := (List.all_eq_true.1 hp) _ (List.getElem_mem hlt)
      rw [(gev_some hg).1, plain_eq 8 _ _ hpl hv]; rfl
    rw [hcon] at hn
    exact OpOk.sameV hs hf (purely_run hn w) (plain_rel φ _ _ 9 _ hp')
  · cases h

theorem doLoad_ok (hs : SRel g base φ ω c s w) (hf : FRel φ c s.next lam ω fr rs a w) {t : TypeId} {x : Operand} {v : Value} (h : doLoad g c fr s t x = some v) :
    ∃ v', (Instr.loadAt t (a.eval x)).run g.P w = .ok v' w ∧ Vrel φ c s.next v v' := by
  unfold doLoad at h
  replace h := bind_some h; obtain ⟨p, hp, h⟩ := h
  split at h
  · rename_i ad
    replace h := bind_some h; obtain ⟨cs, hcs, h⟩ := h
    have hrel := ev_rel hs hf hp
    unfold rowOf at hcs
    split at hcs
    · rename_i sp hsp
      obtain ⟨b, o, spot⟩ := ad
      simp only at hsp hcs; subst hsp
      simp only [Trel] at hrel
      rw [hrel]
      obtain ⟨_, cs', el, hb, ha⟩ := hf.own b cs hcs
      have hrow : RowHas φ c s.next cs' 0 cs := fun i x hx => by rw [Nat.zero_add]; exact ha.get hx
      have := readVar_run hb hrow h
      simp only [Nat.zero_add] at this
      obtain ⟨v', hv', hr'⟩ := this
      exact ⟨v', by simpa [Instr.loadAt, Instr.sureAddr] using hv', hr'⟩
    · rename_i hsp
      obtain ⟨b, o, spot⟩ := ad
      simp only at hsp hcs; subst hsp
      have hrel : Vrel φ c s.next (.pointer (some ⟨b, o, none⟩)) (a.eval x) := (trel_global rfl).1 hrel
      cases hx : a.eval x <;> rw [hx] at hrel <;> cases hrel
      unfold St.rowAt at hcs
      split at hcs
      · rename_i cs0 sz sp hl
        cases hcs
        obtain ⟨hv, hg⟩ := look_some hl
        have ho := hs.obj b _ hg hv
        by_cases hso : cs.size ≠ 0 ∨ sp = true
        · obtain ⟨cs', el, fz, h1, _, _, h4⟩ := ho.2 hso
          obtain ⟨v', hv', hr'⟩ := readVar_run h1 h4 h
          exact ⟨v', by simpa [Instr.loadAt, Instr.sureAddr] using hv', hr'⟩
        · -- nothing lies there
          have h0 : cs.size = 0 := by simp at hso; simp [hso.1]
          replace h := readVar_old _ h
          unfold readVar0 at h
          replace h := bind_some h; obtain ⟨ag, hag, h⟩ := h
          cases ag with
          | true =>
            simp only [if_true] at h
            replace h := bind_some h; obtain ⟨m, hm, h⟩ := h
            replace h := bind_some h; obtain ⟨_, hc, h⟩ := h
            rw [chk_some, decide_eq_true_eq] at hc
            cases h
            obtain ⟨rfl, rfl⟩ : o = 0 ∧ m = 0 := by omega
            refine ⟨.agg #[], ?_, ?_⟩
            · unfold sizeOf? at hm
              simp [Instr.loadAt, Instr.sureAddr, loadVar, aggT_run hag, run_size hm, loadCells, loadCellsFrom]
            · have : cs.extract 0 (0 + 0) = #[] := by simp
              rw [this]; exact .agg _ _ rfl (fun i x x' h _ => by simp at h)
          | false =>
            simp only [Bool.false_eq_true, if_false] at h
            have := (Array.getElem?_eq_some_iff.1 h).1
            omega
      · cases hcs
  · cases h

theorem load_ok (hs : SRel g base φ ω c s w) (hf : FRel φ c s.next lam ω fr rs a w) {o : Oper} {t : TypeId} {x : Operand} (ho : o.op = .load t x) {v : Value} (h : doLoad g c fr s t x = some v) : OpOk g base c φ ω lam fr s a w o v fr.loc s := by
  obtain ⟨v', h1, h2⟩ := doLoad_ok hs hf h
  exact OpOk.sameV hs hf (by simp [execOp, ho, h1]) h2

theorem move_ok (hs : SRel g base φ ω c s w) (hf : FRel φ c s.next lam ω fr rs a w) {o : Oper} {x : Operand} (ho : o.op = .move x ∨ o.op = .assign x) {v : Value} (h : fr.gev g x = some v) : OpOk g base c φ ω lam fr s a w o v fr.loc s := by
  refine OpOk.sameV hs hf (v' := a.eval x) ?_ (gev_rel hs hf h)
  rcases ho with ho | ho <;> simp [execOp, ho]

theorem fieldAddr_ok (hs : SRel g base φ ω c s w) (hf : FRel φ c s.next lam ω fr rs a w) {o : Oper} {t : TypeId} {x : Operand} {f : Nat} (ho : o.op = .fieldAddr t x f) {v : Value} (h : doFieldAddr g fr t x f = some v) : OpOk g base c φ ω lam fr s a w o v fr.loc s := by
  unfold doFieldAddr at h
  replace h := bind_some h; obtain ⟨p, hp, h⟩ := h
  split at h
  · rename_i ad fields hu
    replace h := bind_some h; obtain ⟨fd, hfd, h⟩ := h
    replace h := bind_some h; obtain ⟨n, hn, h⟩ := h
    replace h := bind_some h; obtain ⟨_, hc, h⟩ := h
    rw [chk_some] at hc
    cases h
    have hrel := ev_rel hs hf hp
    have hlive := ev_live hf hp
    unfold sizeOf? at hn
    have run : ∀ b off, a.eval x = .pointer (some ⟨b, off, none⟩) → (execOp a.eval o).run g.P w = .ok (.value (.pointer (some ⟨b, off + fd.offset, none⟩))) w := by
      intro b off hx
      have hn0 : ¬ n = 0 := by simpa using hc
      simp only [execOp, ho, hx, Instr.fieldAt, Sem.run_bind, run_under hu, Result.andThen_ok, hfd, Instr.sureAddr, Sem.run_pure, fieldPlace, run_size hn, if_neg hn0, addr_add]
    obtain ⟨b, off, spot⟩ := ad
    cases spot with
    | some sp =>
      simp only [Trel] at hrel
      exact OpOk.same hs hf (run _ _ hrel) rfl hlive
    | none =>
      have hrel : Vrel φ c s.next (.pointer (some ⟨b, off, none⟩)) (a.eval x) := (trel_global rfl).1 hrel
      cases hx : a.eval x <;> rw [hx] at hrel <;> cases hrel
      rename_i hlt
      refine OpOk.sameV hs hf (run _ _ hx) ?_
      have := Vrel.pointer (φ := φ) (c := c) (n := s.next) b (off + fd.offset) hlt
      rw [← Nat.add_assoc] at this
      exact this
  · cases h

theorem int_of {φ : Nat → Pl} {c : Ctx} {n : Nat} {v v' : Value} {i : Int} (hv : Vrel φ c n v v') (h : intV v = some i) : ∃ k, v' = .int k i ∧ v = .int k i := by
  unfold intV at h
  split at h
  · cases h; cases hv; exact ⟨_, rfl, rfl⟩
  · cases h

theorem indexAddr_ok (hs : SRel g base φ ω c s w) (hf : FRel φ c s.next lam ω fr rs a w) {o : Oper} {t : TypeId} {x ix : Operand} (ho : o.op = .indexAddr t x ix) {v : Value} (h : doIndexAddr g fr t x ix = some v) : OpOk g base c φ ω lam fr s a w o v fr.loc s := by
  unfold doIndexAddr at h
  replace h := bind_some h; obtain ⟨p, hp, h⟩ := h
  replace h := bind_some h; obtain ⟨iv, hi, h⟩ := h
  replace h := bind_some h; obtain ⟨i, hi', h⟩ := h
  obtain ⟨k, hk, _⟩ := int_of (gev_rel hs hf hi) hi'
  have hrel := ev_rel hs hf hp
  have hlive := ev_live hf hp
  split at h
  · rename_i len elem ad hu
    replace h := bind_some h; obtain ⟨n, hn, h⟩ := h
    replace h := bind_some h; obtain ⟨_, hc, h⟩ := h
    rw [chk_some, Bool.and_eq_true, decide_eq_true_eq, decide_eq_true_eq] at hc
    cases h
    unfold sizeOf? at hn
    have run : ∀ b off, a.eval x = .pointer (some ⟨b, off, none⟩) → (execOp a.eval o).run g.P w = .ok (.value (.pointer (some ⟨b, off + i.toNat * n, none⟩))) w := by
      intro b off hx
      simp only [execOp, ho, hx, hk, Instr.indexAt, asIntOf, Sem.run_bind, Sem.run_pure, run_under hu, Result.andThen_ok, Instr.sureAddr, if_pos hc, run_size hn, addr_add]
    obtain ⟨b, off, spot⟩ := ad
    cases spot with
    | some sp =>
      simp only [Trel] at hrel
      exact OpOk.same hs hf (run _ _ hrel) rfl hlive
    | none =>
      have hrel : Vrel φ c s.next (.pointer (some ⟨b, off, none⟩)) (a.eval x) := (trel_global rfl).1 hrel
      cases hx : a.eval x <;> rw [hx] at hrel <;> cases hrel
      rename_i hlt
      refine OpOk.sameV hs hf (run _ _ hx) ?_
      have := Vrel.pointer (φ := φ) (c := c) (n := s.next) b (off + i.toNat * n) hlt
      rw [← Nat.add_assoc] at this
      exact this
  · rename_i elem id off len cap hu
    replace h := bind_some h; obtain ⟨n, hn, h⟩ := h
    replace h := bind_some h; obtain ⟨_, hc, h⟩ := h
    rw [chk_some, Bool.and_eq_true, decide_eq_true_eq, decide_eq_true_eq] at hc
    cases h
    unfold sizeOf? at hn
    have hrel : Vrel φ c s.next (.slice (some ⟨id, off, none⟩) len cap) (a.eval x) := (trel_global rfl).1 hrel
    cases hx : a.eval x <;> rw [hx] at hrel <;> cases hrel
    rename_i hlt
    refine OpOk.sameV hs hf (v' := .pointer (some ⟨(φ id).blk, (φ id).off + off + i.toNat * n, none⟩)) ?_ ?_
    · simp only [execOp, ho, hx, hk, Instr.indexAt, asIntOf, Sem.run_bind, Sem.run_pure, run_under hu, Result.andThen_ok, if_pos hc, run_size hn, addr_add]
    · have := Vrel.pointer (φ := φ) (c := c) (n := s.next) id (off + i.toNat * n) hlt
      rw [← Nat.add_assoc] at this
      exact this
  · cases h

end
end Go.Am
