/- Regions in the text's order, and code. -/
import Derived.Test.YtmpokdnpkjcnbaaDoorAmStep
import Derived.LoopNIn
import Derived.RangeFuncNested
import Derived.RangeFuncLeaves
import Derived.Scope
namespace Go.Am
variable {Z : Zone}

/-! ### A scope out of which nothing jumps -/
theorem stepR_scope {P : Program} {b : Frame} {a : Act} {k : List Item} {cs : List Frame} {w : World} {c : Code} : Go.step P (lone (b.atR a (.code (.scope c) :: k)) cs w) = .next (lone (b.atR a (.code c :: .inScope c :: k)) cs w) :=
  step_lone_go (by simp [stepG, stepG.exec, Frame.atR])
theorem stepR_inScope {P : Program} {b : Frame} {a : Act} {k : List Item} {cs : List Frame} {w : World} {c : Code} : Go.step P (lone (b.atR a (.inScope c :: k)) cs w) = .next (lone (b.atR a k) cs w) :=
  step_lone_go (by simp [stepG, stepG.exec, Frame.atR])
theorem wpIn_scope {F : Fence} {n : Nat} {P : Program} {Q : Exit → Act → World → Prop} {a : Act} {w : World} {c : Code} (h : c.wpIn F n P (Exit.noGoto Q) a w) : (Code.scope c).wpIn F n P Q a w := by
  intro b k cs hro hb hr
  have h0 : (lone (b.atR a (.code (.scope c) :: k)) cs w).fenced P F := fenced_calm hb hr rfl
  obtain ⟨e, a₁, w₁, hq, harr⟩ := h b (.inScope c :: k) cs hro hb hr
  cases e with
  | normal => exact ⟨.normal, a₁, w₁, hq, .head h0 stepR_scope (StepsIn.trans harr (.one (fenced_calm hb hr rfl) stepR_inScope))⟩
  | exit id' =>
    have hx : exitTo id' (.inScope c :: k) = exitTo id' k := by simp [exitTo]
    exact ⟨.exit id', a₁, w₁, hq, fun k' hk => .head h0 stepR_scope (harr.1 k' (by rw [hx]; exact hk)),
      fun hr' hk => let ⟨k₁, h1, h2⟩ := harr.2 hr' (by rw [hx]; exact hk); ⟨k₁, h1, .head h0 stepR_scope h2⟩⟩
  | goto l => exact hq.elim
  | ret => exact ⟨_, a₁, w₁, hq, .of_steps (.one h0 stepR_scope) harr⟩
  | panic ch => exact ⟨_, a₁, w₁, hq, .of_steps (.one h0 stepR_scope) harr⟩
  | outgrown => exact ⟨_, a₁, w₁, hq, .of_steps (.one h0 stepR_scope) harr⟩

variable [Z]
inductive ExRel (φ : Nat → Pl) (c : Ctx) (n : Nat) : Ex → Exit → Prop where
  | normal : ExRel φ c n .normal .normal
  | ret : ExRel φ c n .ret .ret
  | exit (i : Nat) : ExRel φ c n (.exit i) (.exit i)
  | pan (v v' : Value) (h : Vrel φ c n v v') : ExRel φ c n (.pan v) (.panic [{ v := v', recovered := false }])
variable {Z}

variable [Z]
def CodeQ (g : Cfg) (base : Base) (c : Ctx) (φ : Nat → Pl) (ω : Nat → Option Tag) (lam : Nat → Nat) (fr : Fr) (s : St) (rs : List Nat) (w : World) (ex : Ex) (fr' : Fr) (s' : St) (Q : Exit → Act → World → Prop) : Prop :=
  ∀ φ' ω' lam' rs' a' w' e, FPost g base c φ φ' ω ω' lam lam' fr fr' s s' rs rs' a' w w' → ExRel φ' c s'.next ex e → Q e a' w'
variable {Z}

def RoundOk (φ : Nat → Pl) (n : Nat) (ro : Option Nat) (fr : Fr) : Prop :=
  match fr.round with
  | none => ro = none
  | some i => i < n ∧ ro = some (φ i).blk

section
variable {g : Cfg} {base : Base} {c : Ctx} {φ φ' φ'' : Nat → Pl} {ω ω' ω'' : Nat → Option Tag} {lam lam' lam'' : Nat → Nat} {fr fr' fr'' : Fr} {s s' s'' : St} {rs rs' rs'' : List Nat} {a a' a'' : Act} {w w' w'' : World}

theorem FPost.refl (hs : SRel g base φ ω c s w) (hf : FRel φ c s.next lam ω fr rs a w) : FPost g base c φ φ ω ω lam lam fr fr s s rs rs a w w :=
  ⟨fun _ _ => rfl, Nat.le_refl _, hs, hf, fun d cs h => .inl ⟨rfl, cs, h⟩, Keep.refl _ _ _ _ _, ⟨[], rfl, fun _ h => by cases h⟩, rfl⟩

theorem FPost.trans (hs : SRel g base φ ω c s w) (hg : Grow c s s') (h : FPost g base c φ φ' ω ω' lam lam' fr fr' s s' rs rs' a' w w') (k : FPost g base c φ' φ'' ω' ω'' lam' lam'' fr' fr'' s' s'' rs' rs'' a'' w' w'') :
    FPost g base c φ φ'' ω ω'' lam lam'' fr fr'' s s'' rs rs'' a'' w w'' where
  agree id hi := (k.agree id (Nat.lt_of_lt_of_le hi h.next)).trans (h.agree id hi)
  next := Nat.le_trans h.next k.next
  srel := k.srel
  frel := k.frel
  lamW d cs hd := by
    rcases k.lamW d cs hd with ⟨e, cs0, h0⟩ | hge
    · rw [e]; exact h.lamW d cs0 h0
    · exact .inr (Nat.le_trans h.keep.size hge)
  keep := h.keep.trans k.keep hg (fun b id hb => (hs.tags b _ hb).2.2 id rfl) (by
    rintro b hb ⟨d, cs, hd, e⟩
    rcases h.lamW d cs hd with ⟨e', cs0, h0⟩ | hge
    · exact ⟨d, cs0, h0, by rw [← e']; exact e⟩
    · omega)
  marks := by
    obtain ⟨n1, e1, h1⟩ := h.marks
    obtain ⟨n2, e2, h2⟩ := k.marks
    refine ⟨n2 ++ n1, by rw [e2, e1, List.append_assoc], fun r hr => ?_⟩
    rcases List.mem_append.1 hr with hr | hr
    · exact Nat.le_trans h.keep.size (h2 r hr)
    · exact h1 r hr
  round := k.round.trans h.round

theorem RoundOk.post {ro : Option Nat} (h : RoundOk φ s.next ro fr) (k : FPost g base c φ φ' ω ω' lam lam' fr fr' s s' rs rs' a' w w') : RoundOk φ' s'.next ro fr' := by
  unfold RoundOk at *
  rw [k.round]
  split
  · rename_i e; rw [e] at h; exact h
  · rename_i i e; rw [e] at h
    exact ⟨Nat.lt_of_lt_of_le h.1 k.next, by rw [k.agree i h.1]; exact h.2⟩

theorem CodeQ.after {Q : Exit → Act → World → Prop} {ex : Ex} (hs : SRel g base φ ω c s w) (hg : Grow c s s') (h : FPost g base c φ φ' ω ω' lam lam' fr fr' s s' rs rs' a' w w')
    (hQ : CodeQ g base c φ ω lam fr s rs w ex fr'' s'' Q) : CodeQ g base c φ' ω' lam' fr' s' rs' w' ex fr'' s'' Q :=
  fun _ _ _ _ _ _ _ k he => hQ _ _ _ _ _ _ _ (h.trans hs hg k) he

theorem stepsIn_sim {hd : Handler} (H : HSim g base hd) (HG : HGrow hd) {ops : Array Oper} {ro : Option Nat} {Q : Exit → Act → World → Prop} : ∀ (l : List Oper) (i : Nat) (φ : Nat → Pl) (ω : Nat → Option Tag) (lam : Nat → Nat) (fr : Fr) (s : St) (a : Act) (w : World) (ex : Ex) (fr' : Fr) (s' : St),
    ops.toList.drop i = l → SRel g base φ ω c s w → FRel φ c s.next lam ω fr rs a w → stepsIn g hd c ops l fr s = some (ex, fr', s') → CodeQ g base c φ ω lam fr s rs w ex fr' s' Q →
    wpOpsIn (FF ro) 0 g.P ops Q (List.range' i l.length) a w := by
  intro l
  induction l with
  | nil =>
    intro i φ ω lam fr s a w ex fr' s' _ hs hf h hQ
    simp only [stepsIn, Option.some.injEq, Prod.mk.injEq] at h
    obtain ⟨rfl, rfl, rfl⟩ := h
    exact hQ _ _ _ _ _ _ _ (FPost.refl hs hf) .normal
  | cons o rest ih =>
    intro i φ ω lam fr s a w ex fr' s' hl hs hf h hQ
    have ho : ops[i]? = some o := by
      have : (ops.toList.drop i)[0]? = some o := by rw [hl]; rfl
      rw [List.getElem?_drop, Nat.add_zero] at this
      simpa using this
    have hl' : ops.toList.drop (i + 1) = rest := by
      have := congrArg (List.drop 1) hl
      rw [List.drop_drop] at this
      simpa [Nat.add_comm] using this
    simp only [stepsIn] at h
    replace h := bind_some h; obtain ⟨⟨ex1, fr1, s1⟩, hst, h⟩ := h
    rw [List.length_cons, List.range'_succ]
    simp only [wpOpsIn, ho]
    have hg := step_grow HG hst
    refine step_sim H hs hf hst ?_ ?_
    · rintro rfl φ' ω' lam' v' w' hp _
      simp only at h
      exact ih (i + 1) φ' ω' lam' fr1 s1 _ w' ex fr' s' hl' hp.srel hp.frel h (hQ.after hs hg hp)
    · rintro v rfl φ' ω' v' w' hp hv
      simp only [pure, Option.some.injEq, Prod.mk.injEq] at h
      obtain ⟨rfl, rfl, rfl⟩ := h
      exact hQ _ _ _ _ _ _ _ hp (.pan _ _ hv)

variable [Z]
def DrawSim (g : Cfg) (base : Base) (hd : Handler) : Prop :=
  ∀ (i : Nat) (ops : Array Oper) (c : Ctx) (ro : Option Nat) (Q : Exit → Act → World → Prop) (φ : Nat → Pl) (ω : Nat → Option Tag) (lam : Nat → Nat) (fr : Fr) (s : St) (rs : List Nat) (a : Act) (w : World) (ex : Ex) (fr' : Fr) (s' : St),
    SRel g base φ ω c s w → FRel φ c s.next lam ω fr rs a w → region g hd c ops true fr s = some (ex, fr', s') → CodeQ g base c φ ω lam fr s rs w ex fr' s' Q → (Code.region i ops true).wpIn (FF ro) 0 g.P Q a w
variable {Z}

theorem region_sim {hd : Handler} (H : HSim g base hd) (HG : HGrow hd) (HD : DrawSim g base hd) {i : Nat} {ops : Array Oper} {draw : Bool} {ro : Option Nat} {Q : Exit → Act → World → Prop} {ex : Ex}
    (hs : SRel g base φ ω c s w) (hf : FRel φ c s.next lam ω fr rs a w) (h : region g hd c ops draw fr s = some (ex, fr', s')) (hQ : CodeQ g base c φ ω lam fr s rs w ex fr' s' Q) :
    (Code.region i ops draw).wpIn (FF ro) 0 g.P Q a w := by
  cases draw with
  | true => exact HD _ _ _ _ _ _ _ _ _ _ _ _ _ _ _ _ hs hf h hQ
  | false =>
    refine wpIn_region ?_
    simp only [region, Bool.false_eq_true, if_false] at h
    have := stepsIn_sim (ro := ro) H HG ops.toList 0 φ ω lam fr s a w ex fr' s' rfl hs hf h hQ
    rw [List.range_eq_range']
    simpa using this

/-! ### A round of a loop forgets what the round before has made -/
theorem Tr.get_wipe {α : Type} : ∀ (ds : List Tmp) (t : Tr α) (k : Nat), (wipe ds t).get k = if k ∈ ds then none else t.get k := by
  intro ds
  induction ds with
  | nil => intro t k; simp [wipe]
  | cons d r ih =>
    intro t k
    simp only [wipe, ih, Tr.get_set, List.mem_cons]
    by_cases h1 : k ∈ r
    · simp [h1]
    · by_cases h2 : k = d <;> simp [h1, h2]

theorem Tr.get_filt {α : Type} (p : α → Bool) (t : Tr α) (k : Nat) (x : α) (h : (t.filt p).get k = some x) : t.get k = some x ∧ p x = true := by
  induction t generalizing k with
  | nil => simp [Tr.filt, Tr.get_nil] at h
  | node l v r il ir =>
    simp only [Tr.filt, Tr.get_node] at h ⊢
    by_cases k0 : k = 0
    · rw [if_pos k0] at h ⊢
      split at h
      · rename_i x'
        split at h
        · rename_i hp; cases h; exact ⟨rfl, hp⟩
        · cases h
      · cases h
    · rw [if_neg k0] at h ⊢
      by_cases k1 : k % 2 = 1
      · rw [if_pos k1] at h ⊢; exact il _ h
      · rw [if_neg k1] at h ⊢; exact ir _ h

theorem frel_wiped (hs : SRel g base φ ω c s w) (hf : FRel φ c s.next lam ω fr rs a w) (ds : List Tmp) : FPost g base c φ φ ω ω lam lam fr (fr.wiped ds) s s rs rs a w w := by
  refine ⟨fun _ _ => rfl, Nat.le_refl _, hs, ⟨hf.size, fun t v h => ?_, fun t p h => ?_, fun d cs h => ?_, hf.defers, hf.nodup, hf.marks⟩, fun d cs h => ?_, Keep.refl _ _ _ _ _, ⟨[], rfl, fun _ h => by cases h⟩, rfl⟩
  · simp only [Fr.wiped, Tr.get_wipe] at h
    split at h
    · cases h
    · exact hf.tm t v h
  · simp only [Fr.wiped] at h
    obtain ⟨h1, h2⟩ := Tr.get_filt _ _ _ _ h
    rw [Tr.get_wipe] at h1
    split at h1
    · cases h1
    · obtain ⟨⟨cs, hc⟩, e⟩ := hf.pt t p h1
      refine ⟨⟨cs, ?_⟩, e⟩
      simp only [Fr.wiped, Tr.get_wipe]
      rw [if_neg (by simpa using h2)]; exact hc
  · simp only [Fr.wiped, Tr.get_wipe] at h
    split at h
    · cases h
    · exact hf.own d cs h
  · simp only [Fr.wiped, Tr.get_wipe] at h
    split at h
    · cases h
    · exact .inl ⟨rfl, cs, h⟩

theorem rounds_sim {ro : Option Nat} {Q : Exit → Act → World → Prop} {k : Code} {body : Fr → St → Option (Ex × Fr × St)} {ds : List Tmp}
    (hb : ∀ (φ : Nat → Pl) (ω : Nat → Option Tag) (lam : Nat → Nat) (fr : Fr) (s : St) (rs : List Nat) (a : Act) (w : World) (ex : Ex) (fr' : Fr) (s' : St) (Q : Exit → Act → World → Prop),
      SRel g base φ ω c s w → FRel φ c s.next lam ω fr rs a w → RoundOk φ s.next ro fr → body fr s = some (ex, fr', s') → CodeQ g base c φ ω lam fr s rs w ex fr' s' Q → k.wpIn (FF ro) 0 g.P Q a w)
    (hg : ∀ fr s r, body fr s = some r → Grow c s r.2.2) :
    ∀ (n : Nat) (φ : Nat → Pl) (ω : Nat → Option Tag) (lam : Nat → Nat) (fr : Fr) (s : St) (rs : List Nat) (a : Act) (w : World) (ex : Ex) (fr' : Fr) (s' : St),
      SRel g base φ ω c s w → FRel φ c s.next lam ω fr rs a w → RoundOk φ s.next ro fr → rounds body ds n fr s = some (ex, fr', s') → CodeQ g base c φ ω lam fr s rs w ex fr' s' Q → Code.roundsIn (FF ro) 0 g.P k Q n a w := by
  intro n
  induction n with
  | zero => intro φ ω lam fr s rs a w ex fr' s' _ _ _ h; cases h
  | succ n ih =>
    intro φ ω lam fr s rs a w ex fr' s' hs hf hro h hQ
    simp only [rounds] at h
    replace h := bind_some h; obtain ⟨⟨ex1, fr1, s1⟩, hst, h⟩ := h
    have hw := frel_wiped hs hf ds
    have hQ1 := hQ.after hs (Grow.refl _ _) hw
    have hg1 := hg _ _ _ hst
    refine hb _ _ _ _ _ _ _ _ _ _ _ _ hs hw.frel (hro.post hw) hst ?_
    intro φ' ω' lam' rs' a' w' e hp he
    cases he with
    | normal =>
      simp only at h
      exact ih _ _ _ _ _ _ _ _ _ _ _ hp.srel hp.frel ((hro.post hw).post hp) h (hQ1.after hs hg1 hp)
    | ret =>
      simp only [pure, Option.some.injEq, Prod.mk.injEq] at h
      obtain ⟨rfl, rfl, rfl⟩ := h
      exact hQ1 _ _ _ _ _ _ _ hp .ret
    | exit i =>
      simp only [pure, Option.some.injEq, Prod.mk.injEq] at h
      obtain ⟨rfl, rfl, rfl⟩ := h
      exact hQ1 _ _ _ _ _ _ _ hp (.exit i)
    | pan v v' hv =>
      simp only [pure, Option.some.injEq, Prod.mk.injEq] at h
      obtain ⟨rfl, rfl, rfl⟩ := h
      exact hQ1 _ _ _ _ _ _ _ hp (.pan v v' hv)

/-! ### A range over a function -/
theorem mark_post (hs : SRel g base φ ω c s w) (hf : FRel φ c s.next lam ω fr rs a w) (hw : w'.heap = w.heap.push (.deferred (some []))) (h1 : w'.os = w.os) (h2 : w'.tape = w.tape) (h3 : w'.output = w.output) :
    FPost g base c φ φ ω (upd ω w.heap.size (some .mark)) lam lam fr fr s s rs (w.heap.size :: rs) { a with defers := markOf w.heap.size :: a.defers } w w' := by
  have hold : ∀ b, b < w.heap.size → w'.heap[b]? = w.heap[b]? ∧ (upd ω w.heap.size (some .mark)) b = ω b := fun b hb => ⟨by rw [hw]; exact push_old hb, upd_ne _ _ (by omega)⟩
  have hsize : w.heap.size ≤ w'.heap.size := by rw [hw]; simp
  have hlt : ∀ r, r ∈ rs → r < w.heap.size := fun r hr => (hs.tags _ _ (hf.marks r hr).2).2.1
  refine ⟨fun _ _ => rfl, Nat.le_refl _, ?_, ⟨hf.size, hf.tm, hf.pt, fun d cs h => ?_, by rw [hf.defers]; rfl, List.nodup_cons.2 ⟨fun h => Nat.lt_irrefl _ (hlt _ h), hf.nodup⟩, fun r hr => ?_⟩, fun d cs h => .inl ⟨rfl, cs, h⟩, ⟨h1, h2, h3, hsize, fun b hb _ _ => hold b hb⟩,
    ⟨[w.heap.size], rfl, fun r hr => by simp at hr; omega⟩, rfl⟩
  · refine SRel.move hs hsize (fun b hb _ => hold b hb) (fun b t ht => ?_)
    by_cases e : b = w.heap.size
    · subst e; rw [upd_self] at ht; cases ht
      exact ⟨hs.bw, by rw [hw]; simp, fun i hi => by cases hi⟩
    · rw [upd_ne _ _ e] at ht
      obtain ⟨x, y, z⟩ := hs.tags b t ht
      exact ⟨x, Nat.lt_of_lt_of_le y hsize, z⟩
  · obtain ⟨ht, cs', el, hb, ha⟩ := hf.own d cs h
    have hl := (hs.tags _ _ ht).2.1
    exact ⟨by rw [(hold _ hl).2]; exact ht, cs', el, by rw [(hold _ hl).1]; exact hb, ha⟩
  · rcases List.mem_cons.1 hr with rfl | hr
    · exact ⟨by rw [hw]; exact push_new, upd_self _ _ _⟩
    · obtain ⟨x, y⟩ := hf.marks r hr
      exact ⟨by rw [(hold _ (hlt r hr)).1]; exact x, by rw [(hold _ (hlt r hr)).2]; exact y⟩

theorem new_fpost (hs : SRel g base φ ω c s w) (hf : FRel φ c s.next lam ω fr rs a w) (o' : AObj) (ob : Obj) (hw : w'.heap = w.heap.push ob) (h1 : w'.os = w.os) (h2 : w'.tape = w.tape) (h3 : w'.output = w.output)
    (ho : ORel (upd φ s.next ⟨w.heap.size, 0, 0⟩) c (s.next + 1) base s.next (upd ω w.heap.size (some (.obj s.next))) w' o') :
    FPost g base c φ (upd φ s.next ⟨w.heap.size, 0, 0⟩) ω (upd ω w.heap.size (some (.obj s.next))) lam lam fr fr s (s.new o') rs rs a w w' :=
  frel_put hf (new_post hs hf o' ob 0 hw h1 h2 h3 ho) (v := undef) (v' := undef) (plain_rel _ _ _ 1 undef (by simp [plainN, undef])).trel (live_glob rfl) (dst := none) (fr' := fr) rfl (fun b t h => (hs.tags b t h).2.1)

theorem loop_orel (hs : SRel g base φ ω c s w) (hf : FRel φ c s.next lam ω fr rs a w) (fn D : Nat) (ps : Array Tmp) (as body : Code) (hw : w'.heap = w.heap.push (.loop { state := .ready, pending := none, fn, tmps := a.tmps, params := ps, assign := as, body, defers := D })) :
    ORel (upd φ s.next ⟨w.heap.size, 0, 0⟩) c (s.next + 1) base s.next (upd ω w.heap.size (some (.obj s.next))) w' (.loop { fn := fr.fn, nt := fr.nt, tm := fr.tm, params := ps, assign := as, body := body, state := .ready, pending := none }) := by
  refine ⟨_, by rw [upd_self, hw]; exact push_new, rfl, rfl, rfl, rfl, rfl, hf.size, fun t v h => ?_⟩
  exact (hf.tm t v h).mono (fun i hi => upd_ne _ _ (by omega)) (Nat.le_succ _)

/-- Two new blocks, at most: a block for deferred calls, and the loop's record. -/
theorem enter_loop (hs : SRel g base φ ω c s w) (hf : FRel φ c s.next lam ω fr rs a w) {ro : Option Nat} (hro : RoundOk φ s.next ro fr) (fn : FuncId) {ps : Array Tmp} {as body : Code}
    (hlk : (match fr.round with | none => true | some i => (match s.look c i with | some (.loop _) => true | _ => false)) = true) :
    ∃ l mark w1 φ' ω' rs', (Instr.enterLoop fn a.tmps ps as body ro).run g.P w = .ok (l, mark) w1 ∧
      FPost g base c φ φ' ω ω' lam lam fr fr s (s.new (.loop { fn := fr.fn, nt := fr.nt, tm := fr.tm, params := ps, assign := as, body, state := .ready, pending := none })) rs rs' { a with defers := mark ++ a.defers } w w1 ∧
      φ' s.next = ⟨l, 0, 0⟩ ∧ w.heap.size ≤ l := by
  unfold RoundOk at hro
  split at hro
  · subst hro
    have hm := mark_post (w' := w.alloc (.deferred (some []))) hs hf rfl rfl rfl rfl
    have hsz : (w.alloc (.deferred (some []))).heap.size = w.heap.size + 1 := by simp
    have hn := new_fpost (w' := (w.alloc (.deferred (some []))).alloc (.loop { state := .ready, pending := none, fn, tmps := a.tmps, params := ps, assign := as, body, defers := w.heap.size })) hm.srel hm.frel _ _ rfl rfl rfl rfl (loop_orel hm.srel hm.frel fn w.heap.size ps as body rfl)
    rw [hsz] at hn
    exact ⟨_, _, _, _, _, _, run_enterLoop_outer fn a.tmps ps as body, hm.trans hs (Grow.refl _ _) hn, upd_self _ _ _, by omega⟩
  · rename_i i hi
    obtain ⟨hlt, rfl⟩ := hro
    rw [hi] at hlk
    simp only at hlk
    split at hlk
    · rename_i lr hl
      obtain ⟨hv, hg⟩ := look_some hl
      obtain ⟨L, hL, _⟩ := hs.obj _ _ hg hv
      have hn := new_fpost (w' := w.alloc (.loop { state := .ready, pending := none, fn, tmps := a.tmps, params := ps, assign := as, body, defers := L.defers })) hs hf _ _ rfl rfl rfl rfl (loop_orel hs hf fn L.defers ps as body rfl)
      exact ⟨_, [], _, _, _, rs, run_enterLoop_inner hL fn a.tmps ps as body, hn, upd_self _ _ _, Nat.le_refl _⟩
    · cases hlk

theorem callR_fpost (hs : SRel g base φ ω c s w) (hf : FRel φ c s.next lam ω fr rs a w) {r : Outc} {e : Ending} (h : CallR g base c φ ω s s' w r e w') :
    ∃ φ' ω', FPost g base c φ φ' ω ω' lam lam fr fr s s' rs rs a w w' ∧ EndRel φ' c s'.next r e := by
  obtain ⟨φ', ω', hag, hnx1, hsr, hke, her⟩ := h
  have hms : ∀ b t, ω b = some t → b < w.heap.size := fun b t h => (hs.tags b t h).2.1
  have hpost : Post g base c φ φ' ω ω' lam lam fr.loc fr.loc s s' w w' := by
    refine ⟨hag, hnx1, hsr, fun d cs hd => ?_, fun d cs h => .inl ⟨rfl, cs, h⟩, fun d cs h => ⟨rfl, cs, h⟩, hke.weaken (fun _ h => h.elim)⟩
    obtain ⟨ht, cs', el, hb, ha⟩ := hf.own d cs hd
    obtain ⟨e1, e2⟩ := hke.same (lam d) (hms _ _ ht) (by rintro ⟨id, o, h, _⟩; rw [ht] at h; cases h) (fun h => h)
    exact ⟨by rw [e2]; exact ht, cs', el, by rw [e1]; exact hb, ha.mono hag hnx1⟩
  exact ⟨φ', ω', frel_put hf hpost (v := undef) (v' := undef) (plain_rel φ' _ _ 1 undef (by simp [plainN, undef])).trel (live_glob rfl) (dst := none) (fr' := fr) rfl hms, her⟩

/-- The record of a loop that was made since is let go. -/
theorem FPost.shut (k : FPost g base c φ φ' ω ω' lam lam' fr fr' s s' rs rs' a' w w') {id l : Nat} {lr : LoopRec} (hg : s'.heap.get id = some (.loop lr)) (hv : c.vis id = true) (hbi : base.id ≤ id) (hl : (φ' id).blk = l) (hge : w.heap.size ≤ l) (ob : Obj)
    (hw : w'.heap.size ≤ w''.heap.size) (hk : ∀ b, b ≠ l → w''.heap[b]? = w'.heap[b]?) (h1 : w''.os = w'.os) (h2 : w''.tape = w'.tape) (h3 : w''.output = w'.output) :
    FPost g base c φ φ' ω ω' lam lam' fr fr' s { s' with heap := s'.heap.set id none } rs rs' a' w w'' := by
  have htag : ω' l = some (.obj id) := by rw [← hl]; exact k.srel.tag id _ hg hv hbi trivial
  refine ⟨k.agree, k.next, ?_, ⟨k.frel.size, k.frel.tm, k.frel.pt, fun d cs h => ?_, k.frel.defers, k.frel.nodup, fun r hr => ?_⟩, k.lamW, ⟨h1.trans k.keep.os, h2.trans k.keep.tape, h3.trans k.keep.output, Nat.le_trans k.keep.size hw, fun b hb ho hx => ?_⟩, k.marks, k.round⟩
  · refine SRel.move (k.srel.drop id) hw (fun b hb hle => ⟨hk b ?_, rfl⟩) (fun b t ht => ?_)
    · rintro rfl
      rcases hle with hle | hle | ⟨i, o, hi, _, _, _, ht, _⟩
      · rw [htag] at hle; cases hle
      · have := (k.srel.tags _ _ htag).1; omega
      · rw [htag] at ht; cases ht
        simp only at hi; rw [Tr.get_set, if_pos rfl] at hi; cases hi
    · obtain ⟨x, y, z⟩ := k.srel.tags b t ht
      exact ⟨x, Nat.lt_of_lt_of_le y hw, z⟩
  · obtain ⟨ht, cs', el, hb, ha⟩ := k.frel.own d cs h
    exact ⟨ht, cs', el, by rw [hk _ (by rintro rfl; rw [htag] at ht; cases ht)]; exact hb, ha⟩
  · obtain ⟨x, y⟩ := k.frel.marks r hr
    exact ⟨by rw [hk _ (by rintro rfl; rw [htag] at y; cases y)]; exact x, y⟩
  · obtain ⟨x, y⟩ := k.keep.same b hb ho hx
    exact ⟨by rw [hk _ (by omega)]; exact x, y⟩

theorem code_sim {hd : Handler} (H : HSim g base hd) (HG : HGrow hd) (HD : DrawSim g base hd) {lim : Nat} {ro : Option Nat} : ∀ (k : Code) (φ : Nat → Pl) (ω : Nat → Option Tag) (lam : Nat → Nat) (fr : Fr) (s : St) (rs : List Nat) (a : Act) (w : World) (ex : Ex) (fr' : Fr) (s' : St) (Q : Exit → Act → World → Prop),
    SRel g base φ ω c s w → FRel φ c s.next lam ω fr rs a w → RoundOk φ s.next ro fr → code g hd lim c k fr s = some (ex, fr', s') → CodeQ g base c φ ω lam fr s rs w ex fr' s' Q → k.wpIn (FF ro) 0 g.P Q a w := by
  intro k
  induction k with
  | skip =>
    intro φ ω lam fr s rs a w ex fr' s' Q hs hf hro h hQ
    simp only [code, Option.some.injEq, Prod.mk.injEq] at h
    obtain ⟨rfl, rfl, rfl⟩ := h
    exact wpIn_skip (hQ _ _ _ _ _ _ _ (FPost.refl hs hf) .normal)
  | label l =>
    intro φ ω lam fr s rs a w ex fr' s' Q hs hf hro h hQ
    simp only [code, Option.some.injEq, Prod.mk.injEq] at h
    obtain ⟨rfl, rfl, rfl⟩ := h
    exact wpIn_label (hQ _ _ _ _ _ _ _ (FPost.refl hs hf) .normal)
  | ret =>
    intro φ ω lam fr s rs a w ex fr' s' Q hs hf hro h hQ
    simp only [code, Option.some.injEq, Prod.mk.injEq] at h
    obtain ⟨rfl, rfl, rfl⟩ := h
    exact wpIn_ret (hQ _ _ _ _ _ _ _ (FPost.refl hs hf) .ret)
  | exit i =>
    intro φ ω lam fr s rs a w ex fr' s' Q hs hf hro h hQ
    simp only [code, Option.some.injEq, Prod.mk.injEq] at h
    obtain ⟨rfl, rfl, rfl⟩ := h
    exact wpIn_exit (hQ _ _ _ _ _ _ _ (FPost.refl hs hf) (.exit i))
  | goto l => intro φ ω lam fr s rs a w ex fr' s' Q hs hf hro h hQ; simp only [code] at h; cases h
  | region i ops draw =>
    intro φ ω lam fr s rs a w ex fr' s' Q hs hf hro h hQ
    simp only [code] at h
    exact region_sim H HG HD hs hf h hQ
  | seq x y ix iy =>
    intro φ ω lam fr s rs a w ex fr' s' Q hs hf hro h hQ
    simp only [code] at h
    replace h := bind_some h; obtain ⟨⟨ex1, fr1, s1⟩, hst, h⟩ := h
    have hg1 := code_grow HG _ _ _ _ hst
    refine wpIn_seq (ix _ _ _ _ _ _ _ _ _ _ _ _ hs hf hro hst ?_)
    intro φ' ω' lam' rs' a' w' e hp he
    cases he with
    | normal =>
      simp only at h
      exact iy _ _ _ _ _ _ _ _ _ _ _ _ hp.srel hp.frel (hro.post hp) h (hQ.after hs hg1 hp)
    | ret =>
      simp only [pure, Option.some.injEq, Prod.mk.injEq] at h
      obtain ⟨rfl, rfl, rfl⟩ := h
      exact hQ _ _ _ _ _ _ _ hp .ret
    | exit i =>
      simp only [pure, Option.some.injEq, Prod.mk.injEq] at h
      obtain ⟨rfl, rfl, rfl⟩ := h
      exact hQ _ _ _ _ _ _ _ hp (.exit i)
    | pan v v' hv =>
      simp only [pure, Option.some.injEq, Prod.mk.injEq] at h
      obtain ⟨rfl, rfl, rfl⟩ := h
      exact hQ _ _ _ _ _ _ _ hp (.pan v v' hv)
  | cond x y z iy iz =>
    intro φ ω lam fr s rs a w ex fr' s' Q hs hf hro h hQ
    simp only [code] at h
    replace h := bind_some h; obtain ⟨v, hv, h⟩ := h
    have hr := ev_rel hs hf hv
    split at h
    · have hr : Vrel φ c s.next (.bool true) (a.eval x) := hr
      have e : a.eval x = .bool true := by generalize a.eval x = z at hr; cases hr; rfl
      exact wpIn_cond_true e (iy _ _ _ _ _ _ _ _ _ _ _ _ hs hf hro h hQ)
    · have hr : Vrel φ c s.next (.bool false) (a.eval x) := hr
      have e : a.eval x = .bool false := by generalize a.eval x = z at hr; cases hr; rfl
      exact wpIn_cond_false e (iz _ _ _ _ _ _ _ _ _ _ _ _ hs hf hro h hQ)
    · cases h
  | block i x ix =>
    intro φ ω lam fr s rs a w ex fr' s' Q hs hf hro h hQ
    simp only [code] at h
    replace h := bind_some h; obtain ⟨⟨ex1, fr1, s1⟩, hst, h⟩ := h
    refine wpIn_block (ix _ _ _ _ _ _ _ _ _ _ _ _ hs hf hro hst ?_)
    intro φ' ω' lam' rs' a' w' e hp he
    cases he with
    | normal =>
      simp only [pure, Option.some.injEq, Prod.mk.injEq] at h
      obtain ⟨rfl, rfl, rfl⟩ := h
      exact hQ _ _ _ _ _ _ _ hp .normal
    | ret =>
      simp only [pure, Option.some.injEq, Prod.mk.injEq] at h
      obtain ⟨rfl, rfl, rfl⟩ := h
      exact hQ _ _ _ _ _ _ _ hp .ret
    | exit j =>
      simp only [pure, Option.some.injEq, Prod.mk.injEq] at h
      obtain ⟨e1, rfl, rfl⟩ := h
      simp only [Exit.inBlock]
      split
      · rename_i e; rw [if_pos e] at e1; subst e1; exact hQ _ _ _ _ _ _ _ hp .normal
      · rename_i e; rw [if_neg e] at e1; subst e1; exact hQ _ _ _ _ _ _ _ hp (.exit j)
    | pan v v' hv =>
      simp only [pure, Option.some.injEq, Prod.mk.injEq] at h
      obtain ⟨rfl, rfl, rfl⟩ := h
      exact hQ _ _ _ _ _ _ _ hp (.pan v v' hv)
  | loop x ix =>
    intro φ ω lam fr s rs a w ex fr' s' Q hs hf hro h hQ
    simp only [code] at h
    refine wpIn_loop_rounds lim ?_
    exact rounds_sim (body := code g hd lim c x) (fun φ ω lam fr s rs a w ex fr' s' Q hs hf hro h hQ => ix φ ω lam fr s rs a w ex fr' s' Q hs hf hro h hQ) (fun fr s r h => code_grow HG _ _ _ _ h) _ _ _ _ _ _ _ _ _ _ _ _ hs hf hro h hQ
  | refuse why => intro φ ω lam fr s rs a w ex fr' s' Q hs hf hro h hQ; simp only [code] at h; cases h
  | scope x ix =>
    intro φ ω lam fr s rs a w ex fr' s' Q hs hf hro h hQ
    simp only [code] at h
    refine wpIn_scope (ix _ _ _ _ _ _ _ _ _ _ _ _ hs hf hro h ?_)
    intro φ' ω' lam' rs' a' w' e hp he
    have hq := hQ φ' ω' lam' rs' a' w' e hp he
    cases he with
    | normal => exact hq
    | ret => exact hq
    | exit j => exact hq
    | pan v v' hv => exact hq
  | rangeFunc f ps as body ias ibody =>
    intro φ ω lam fr s rs a w ex fr' s' Q hs hf hro h hQ
    simp only [code] at h
    replace h := bind_some h; obtain ⟨fv, hfv, h⟩ := h
    replace h := bind_some h; obtain ⟨_, hfn, h⟩ := h
    replace h := bind_some h; obtain ⟨_, hlk, h⟩ := h
    replace h := bind_some h; obtain ⟨⟨r1, s1⟩, hcall, h⟩ := h
    rw [chk_some] at hfn hlk
    unfold isFn at hfn
    unfold roundSeen at hlk
    refine wpIn_rangeFunc fun fn _ => ?_
    obtain ⟨l, mark, w1, φ1, ω1, rs1, hrun, hp, hl, hge⟩ := enter_loop hs hf hro fn (ps := ps) (as := as) (body := body) hlk
    have hy : Arel φ1 c (s.next + 1) #[.func (.yield s.next) #[] #[]] #[.func (.yield l) #[] #[]] := by
      have hv := Vrel.yield (φ := φ1) (c := c) (n := s.next + 1) s.next ⟨Nat.lt_succ_self _, hs.vnew _ (Nat.le_refl _)⟩
      rw [hl] at hv
      refine ⟨rfl, fun i x x' hx hx' => ?_⟩
      cases i with
      | zero => simp at hx hx'; subst hx hx'; exact hv
      | succ i => simp at hx
    have hfr := (gev_rel hs hf hfv).mono hp.agree (Nat.le_succ s.next)
    obtain ⟨nx, hnx, hact⟩ := H _ _ _ _ _ _ hcall φ1 ω1 w1 (a.eval f) #[.func (.yield l) #[] #[]] hp.srel hfr hy
    -- the function that is ranged over
    have hfn' : ∃ f0 x y, a.eval f = .func (.func f0) x y := by
      generalize a.eval f = z at hfr
      split at hfn
      · cases hfr; exact ⟨_, _, _, rfl⟩
      · cases hfn
    obtain ⟨f0, x0, y0, hz⟩ := hfn'
    rw [hz] at hnx hact
    simp only [Deferred.ofValue, Sem.run_bind, Sem.run_pure, Result.andThen_ok] at hnx
    have hst : s.next ≤ (s.new (.loop { fn := fr.fn, nt := fr.nt, tm := fr.tm, params := ps, assign := as, body, state := .ready, pending := none })).next := Nat.le_succ _
    cases nx with
    | enter f2 as2 =>
      refine ⟨l, mark, w1, { target := .fn (.func f0) y0, args := x0 ++ #[.func (.yield l) #[] #[]] }, w1, f2, as2, w1, hrun, ?_, fun _ _ => trivial, hnx, fun h => by simp [FF, Fence.wide] at h, ?_⟩
      · simp only [resolve, rangeCall, hz, Deferred.ofValue, Sem.run_pure]
        simp [Act.eval]
      · refine callsIn_FF (hact.mono fun e w3 hR => ?_)
        obtain ⟨φ3, ω3, hp3, her⟩ := callR_fpost hp.srel hp.frel hR
        have hg3 : Grow c s s1 := (Grow.new c s _).trans (HG _ _ _ _ _ hcall)
        have hall := hp.trans hs (Grow.new c s _) hp3
        cases her with
        | pan v v' hv => simp only at h; cases h
        | ret v v' hv =>
          simp only at h
          split at h
          · rename_i lr hlr
            replace h := bind_some h; obtain ⟨ex1, hex, h⟩ := h
            replace h := bind_some h; obtain ⟨_, hnb, h⟩ := h
            rw [chk_some] at hnb
            simp only [pure, Option.some.injEq, Prod.mk.injEq] at h
            obtain ⟨rfl, rfl, rfl⟩ := h
            have hvis := hs.vnew s.next (Nat.le_refl _)
            obtain ⟨L, hL, hst1, hpe, _⟩ := hall.srel.obj _ _ hlr hvis
            have hphi : (φ3 s.next) = ⟨l, 0, 0⟩ := by rw [hp3.agree s.next (Nat.lt_succ_self _)]; exact hl
            rw [hphi] at hL
            have hend := run_endLoop (P := g.P) hL (by rw [hst1]; simpa using hnb)
            refine ⟨_, _, hend, ?_⟩
            have hfin := hall.shut (w'' := w3.putObj l (.loop { L with state := .exhausted })) hlr hvis hs.bn (by rw [hphi]) hge (.loop { L with state := .exhausted }) (by simp [World.putObj]) (fun b hb => World.putObj_heap_other hb) rfl rfl rfl
            generalize w3.putObj (Pl.mk l 0 0).blk (.loop { L with state := .exhausted }) = W4 at hfin ⊢
            rw [hpe]
            unfold exitOf at hex
            split at hex
            · rename_i e0; cases hex; rw [e0]; exact hQ _ _ _ _ _ _ _ hfin .normal
            · rename_i e0; cases hex; rw [e0]; exact wpIn_ret (hQ _ _ _ _ _ _ _ hfin .ret)
            · rename_i i0 e0; cases hex; rw [e0]; exact wpIn_exit (hQ _ _ _ _ _ _ _ hfin (.exit i0))
            · cases hex
          · cases h
    | round l2 f2 ts x y =>
      obtain ⟨⟨_, _, _, e⟩, _⟩ := hact
      cases e
    | _ => exact hact.elim

end
end Go.Am
