/- One operation, as the machine's calculus wants it. -/
import Derived.Test.YtmpokdnpkjcnbaaDoorAmOps
namespace Go.Am
variable {Z : Zone}

/-- The fence that keeps nothing out; a round's frame bears its loop. -/
def FF (r : Option Nat) : Fence := { Fence.wide with round := r }
theorem FF_none : FF none = Fence.wide := rfl
theorem FF_some (l : Nat) : FF (some l) = Fence.wide.inRound l := rfl
theorem FF_fn (r : Option Nat) (f : FuncId) : (FF r).fn f := trivial
theorem FF_room (r : Option Nat) (n : Nat) : (FF r).room n := fun _ h => by simp [FF, Fence.wide] at h

theorem callsIn_FF {r r' : Option Nat} {n : Nat} {P : Program} {f : FuncId} {args : Array Value} {w : World} {R : Ending → World → Prop} (h : CallsIn (FF r) n P f args w R) : CallsIn (FF r') n P f args w R := h
theorem roundIn_FF {r r' : Option Nat} {n : Nat} {P : Program} {l : Nat} {f : FuncId} {ts : Array Value} {x y : Code} {w : World} {R : Ending → World → Prop} (h : RoundIn (FF r) n P l f ts x y w R) : RoundIn (FF r') n P l f ts x y w R := h

variable [Z]
inductive EndRel (φ : Nat → Pl) (c : Ctx) (n : Nat) : Outc → Ending → Prop where
  | ret (v v' : Value) (h : Vrel φ c n v v') : EndRel φ c n (.ret v) (.returned v')
  | pan (v v' : Value) (h : Vrel φ c n v v') : EndRel φ c n (.pan v) (.panicked [{ v := v', recovered := false }])
variable {Z}

variable [Z]
/-- What is known behind a call. -/
def CallR (g : Cfg) (base : Base) (c : Ctx) (φ : Nat → Pl) (ω : Nat → Option Tag) (s s' : St) (w : World) (r : Outc) (e : Ending) (w' : World) : Prop :=
  ∃ φ' ω', (∀ id, id < s.next → φ' id = φ id) ∧ s.next ≤ s'.next ∧ SRel g base φ' ω' c s' w' ∧ Keep ω ω' c s (fun _ => False) w w' ∧ EndRel φ' c s'.next r e
variable {Z}

/-- A call of a function value, as the machine makes it. -/
def Acts (P : Program) (fv : Value) (args : Array Value) (w : World) (R : Ending → World → Prop) : Prop :=
  ∃ nx, (do let d ← Deferred.ofValue fv args; invoke d.target d.args : Sem Next).run P w = .ok nx w ∧
    match nx with
    | .enter f as => CallsIn (FF none) 0 P f as w R
    | .round l f ts x y => (∃ l0 a b, fv = .func (.yield l0) a b) ∧ RoundIn (FF none) 0 P l f ts x y w R
    | _ => False

variable [Z]
def HSim (g : Cfg) (base : Base) (h : Handler) : Prop :=
  ∀ fv args c s r s', h fv args c s = some (r, s') → ∀ φ ω w fv' args', SRel g base φ ω c s w → Vrel φ c s.next fv fv' → Arel φ c s.next args args' → Acts g.P fv' args' w (CallR g base c φ ω s s' w r)
variable {Z}

variable [Z]
structure FPost (g : Cfg) (base : Base) (c : Ctx) (φ φ' : Nat → Pl) (ω ω' : Nat → Option Tag) (lam lam' : Nat → Nat) (fr fr' : Fr) (s s' : St) (rs rs' : List Nat) (a' : Act) (w w' : World) : Prop where
  agree : ∀ id, id < s.next → φ' id = φ id
  next : s.next ≤ s'.next
  srel : SRel g base φ' ω' c s' w'
  frel : FRel φ' c s'.next lam' ω' fr' rs' a' w'
  lamW : ∀ d cs, fr'.loc.get d = some cs → (lam' d = lam d ∧ ∃ cs0, fr.loc.get d = some cs0) ∨ w.heap.size ≤ lam' d
  keep : Keep ω ω' c s (LocB lam fr.loc) w w'
  marks : ∃ new, rs' = new ++ rs ∧ ∀ r, r ∈ new → w.heap.size ≤ r
  round : fr'.round = fr.round
variable {Z}

section
variable {g : Cfg} {base : Base} {c : Ctx} {φ : Nat → Pl} {ω : Nat → Option Tag} {lam : Nat → Nat} {fr : Fr} {s : St} {rs : List Nat} {a : Act} {w : World}

/-- Every operation that hands over a value at once. -/
theorem op_value (hs : SRel g base φ ω c s w) (hf : FRel φ c s.next lam ω fr rs a w) {hd : Handler} {o : Oper} {v : Value} {loc' : Tr (Array Value)} {s' : St} (h : op g hd c fr s o = some (.ret v, loc', s'))
    (hnc : ∀ cl f, o.op = .call cl → cl.callee ≠ .value f) : OpOk g base c φ ω lam fr s a w o v loc' s' := by
  have same : ∀ {q : Option Value}, (∀ x, q = some x → OpOk g base c φ ω lam fr s a w o x fr.loc s) → (q.map fun v => (Outc.ret v, fr.loc, s)) = some (.ret v, loc', s') → OpOk g base c φ ω lam fr s a w o v loc' s' := fun hq h => by
    obtain ⟨x, hx, e⟩ := same_some h
    cases e; exact hq _ hx
  unfold op at h
  simp only at h
  split at h
  · rename_i ho; exact same (fun x hx => move_ok hs hf (.inl ho) hx) h
  · rename_i ho; exact same (fun x hx => move_ok hs hf (.inr ho) hx) h
  · rename_i t ho
    replace h := bind_some h; obtain ⟨zero, hz, h⟩ := h
    replace h := bind_some h; obtain ⟨_, hp, h⟩ := h
    rw [chk_some] at hp
    replace h := bind_some h; obtain ⟨r, hn, h⟩ := h
    cases h; exact alloc_ok hs hf ho hz hp hn
  · rename_i t x ho
    replace h := bind_some h; obtain ⟨v0, hv, h⟩ := h
    replace h := bind_some h; obtain ⟨r, hn, h⟩ := h
    cases h; exact box_ok hs hf ho hv hn
  · rename_i ho; exact same (fun x hx => build_ok hs hf ho hx) h
  · rename_i ho
    obtain ⟨x, hx, e⟩ := Option.map_eq_some_iff.1 h; cases e; exact buildSlice_ok hs hf ho hx
  · rename_i ho; exact same (fun x hx => load_ok hs hf ho hx) h
  · rename_i ho
    obtain ⟨x, hx, e⟩ := Option.map_eq_some_iff.1 h; cases e; exact store_ok hs hf ho hx
  · rename_i ho; exact same (fun x hx => nilCheck_ok hs hf ho hx) h
  · rename_i ho
    refine same (fun x hx => ?_) h
    rcases orElse_some hx with hx | hx
    · exact quietOp_ok hs hf (fun cs b e => by rw [ho] at e; cases e) hx
    · exact nilEq_ok hs hf ho hx
  · rename_i ho; exact same (fun x hx => makeInterface_ok hs hf ho hx) h
  · rename_i ho; exact same (fun x hx => makeFunc_ok hs hf ho hx) h
  · rename_i ho; cases h; exact makeMap_ok hs hf ho
  · rename_i ho
    obtain ⟨x, hx, e⟩ := Option.map_eq_some_iff.1 h; cases e; exact makeSlice_ok hs hf ho hx
  · rename_i ho
    rcases orElse_some h with h | h
    · exact same (fun x hx => quietOp_ok hs hf (fun cs b e => by rw [ho] at e; cases e) hx) h
    · obtain ⟨x, hx, e⟩ := Option.map_eq_some_iff.1 h; cases e; exact slice_ok hs hf ho hx
  · rename_i ho; exact same (fun x hx => fieldAddr_ok hs hf ho hx) h
  · rename_i ho; exact same (fun x hx => field_ok hs hf ho hx) h
  · rename_i ho; exact same (fun x hx => indexAddr_ok hs hf ho hx) h
  · rename_i ho; exact same (fun x hx => index_ok hs hf ho hx) h
  · rename_i ho; exact same (fun x hx => lookup_ok hs hf ho hx) h
  · rename_i ho
    obtain ⟨x, hx, e⟩ := Option.map_eq_some_iff.1 h; cases e; exact update_ok hs hf (.inl ho) hx
  · rename_i ho
    obtain ⟨x, hx, e⟩ := Option.map_eq_some_iff.1 h; cases e; exact update_ok hs hf (.inr ho) hx
  · rename_i ho; exact same (fun x hx => typeAssert_ok hs hf ho hx) h
  · rename_i ho; exact same (fun x hx => extract_ok hs hf ho hx) h
  · rename_i ho; exact same (fun x hx => quietOp_ok hs hf (fun cs b e => by rw [ho] at e; cases e) hx) h
  · rename_i ho; exact same (fun x hx => quietOp_ok hs hf (fun cs b e => by rw [ho] at e; cases e) hx) h
  · rename_i ho; exact same (fun x hx => quietOp_ok hs hf (fun cs b e => by rw [ho] at e; cases e) hx) h
  · replace h := bind_some h; obtain ⟨_, _, h⟩ := h
    split at h
    · cases h
    · cases h
  · rename_i cl ho
    split at h
    · rename_i b hcl
      rcases orElse_some h with h | h
      · exact same (fun x hx => quietOp_ok hs hf (fun cs b e => by rw [ho] at e; cases e) hx) h
      · unfold doBuiltin at h
        replace h := bind_some h; obtain ⟨as, has, h⟩ := h
        split at h
        · replace h := bind_some h; obtain ⟨x, hx, h⟩ := h
          cases h; exact append_ok hs hf ho hcl has hx
        · replace h := bind_some h; obtain ⟨x, hx, h⟩ := h
          cases h; exact copy_ok hs hf ho hcl has hx
        · replace h := bind_some h; obtain ⟨x, hx, h⟩ := h
          cases h; exact len_ok hs hf ho hcl has hx
        · replace h := bind_some h; obtain ⟨x, hx, h⟩ := h
          cases h; exact clear_ok hs hf ho hcl has hx
        · replace h := bind_some h; obtain ⟨x, hx, h⟩ := h
          cases h; exact delete_ok hs hf ho hcl has hx
        · split at h
          · cases h
          · cases h
        · cases h
    · rename_i f hcl; exact (hnc cl f ho hcl).elim
    · cases h
  · cases h

/-- The operations that panic. -/
theorem op_pan (hs : SRel g base φ ω c s w) (hf : FRel φ c s.next lam ω fr rs a w) {hd : Handler} {o : Oper} {v : Value} {loc' : Tr (Array Value)} {s' : St} (h : op g hd c fr s o = some (.pan v, loc', s'))
    (hnc : ∀ cl f, o.op = .call cl → cl.callee ≠ .value f) : (s' = s ∧ loc' = fr.loc) ∧ ∃ t u v', v = .iface t u ∧ (execOp a.eval o).run g.P w = .halt (.panic v') w ∧ Vrel φ c s.next v v' := by
  have same : ∀ {q : Option Value} {P : Prop}, (q.map fun v => (Outc.ret v, fr.loc, s)) = some (.pan v, loc', s') → P := fun h => by
    obtain ⟨x, hx, e⟩ := same_some h
    cases e
  unfold op at h
  simp only at h
  split at h
  · exact same h
  · exact same h
  · replace h := bind_some h; obtain ⟨zero, hz, h⟩ := h
    replace h := bind_some h; obtain ⟨_, hp, h⟩ := h
    replace h := bind_some h; obtain ⟨r, hn, h⟩ := h
    cases h
  · replace h := bind_some h; obtain ⟨v0, hv, h⟩ := h
    replace h := bind_some h; obtain ⟨r, hn, h⟩ := h
    cases h
  · exact same h
  · obtain ⟨x, hx, e⟩ := Option.map_eq_some_iff.1 h; cases e
  · exact same h
  · obtain ⟨x, hx, e⟩ := Option.map_eq_some_iff.1 h; cases e
  · exact same h
  · exact same h
  · exact same h
  · exact same h
  · cases h
  · obtain ⟨x, hx, e⟩ := Option.map_eq_some_iff.1 h; cases e
  · rcases orElse_some h with h | h
    · exact same h
    · obtain ⟨x, hx, e⟩ := Option.map_eq_some_iff.1 h; cases e
  · exact same h
  · exact same h
  · exact same h
  · exact same h
  · exact same h
  · obtain ⟨x, hx, e⟩ := Option.map_eq_some_iff.1 h; cases e
  · obtain ⟨x, hx, e⟩ := Option.map_eq_some_iff.1 h; cases e
  · exact same h
  · exact same h
  · exact same h
  · exact same h
  · exact same h
  · rename_i x ho
    replace h := bind_some h; obtain ⟨v0, hv0, h⟩ := h
    split at h
    · rename_i t u
      cases h
      have hr := gev_rel hs hf hv0
      refine ⟨⟨rfl, rfl⟩, t, u, a.eval x, rfl, ?_, hr⟩
      generalize hz : a.eval x = z at hr
      cases hr
      simp only [execOp, ho, hz, Sem.run_bind]
      rfl
    · cases h
  · rename_i cl ho
    split at h
    · rename_i b hcl
      rcases orElse_some h with h | h
      · exact same h
      · unfold doBuiltin at h
        replace h := bind_some h; obtain ⟨as, has, h⟩ := h
        split at h
        · replace h := bind_some h; obtain ⟨x, hx, h⟩ := h
          cases h
        · replace h := bind_some h; obtain ⟨x, hx, h⟩ := h
          cases h
        · replace h := bind_some h; obtain ⟨x, hx, h⟩ := h
          cases h
        · replace h := bind_some h; obtain ⟨x, hx, h⟩ := h
          cases h
        · replace h := bind_some h; obtain ⟨x, hx, h⟩ := h
          cases h
        · split at h
          · rename_i t u
            cases h
            obtain ⟨v', hA, hr⟩ := args1 hs hf has
            refine ⟨⟨rfl, rfl⟩, t, u, v', rfl, ?_, hr⟩
            obtain ⟨callee, cargs, ts⟩ := cl
            simp only at hcl hA; subst hcl
            cases hr
            simp only [execOp, ho, resolve, Sem.run_bind, Sem.run_pure, Result.andThen_ok, invoke, hA, builtin]
            rfl
          · cases h
        · cases h
    · rename_i f hcl; exact (hnc cl f ho hcl).elim
    · cases h
  · cases h

theorem getD_set {ts : Array Value} {d t : Nat} {v : Value} (hd : d < ts.size) : (ts.setIfInBounds d v).getD t undef = if t = d then v else ts.getD t undef := by
  simp only [Array.getD_eq_getD_getElem?, Array.getElem?_setIfInBounds]
  by_cases e : d = t
  · subst e; simp [hd]
  · rw [if_neg e, if_neg (fun h => e h.symm)]

/-- A value comes into its slot. -/
theorem frel_put {φ' : Nat → Pl} {ω' : Nat → Option Tag} {lam' : Nat → Nat} {loc' : Tr (Array Value)} {s' : St} {w' : World} (hf : FRel φ c s.next lam ω fr rs a w) (hp : Post g base c φ φ' ω ω' lam lam' fr.loc loc' s s' w w')
    {v v' : Value} (hv : Trel φ' c s'.next lam' v v') (hl : Live v loc') {dst : Option Tmp} {fr' : Fr} (h : ({ fr with loc := loc' } : Fr).putO dst v = some fr') (hms : ∀ b t, ω b = some t → b < w.heap.size) :
    FPost g base c φ φ' ω ω' lam lam' fr fr' s s' rs rs (a.put dst v') w w' := by
  -- what stays
  have htm : ∀ t u, fr.tm.get t = some u → Vrel φ' c s'.next u (a.tmps.getD t undef) := fun t u h => (hf.tm t u h).mono hp.agree hp.next
  have hpt : ∀ t p, fr.pt.get t = some p → (∃ cs, loc'.get p.1 = some cs) ∧ a.tmps.getD t undef = .pointer (some ⟨lam' p.1, p.2, none⟩) := fun t p h => by
    obtain ⟨⟨cs, hc⟩, e⟩ := hf.pt t p h
    obtain ⟨e1, cs', hc'⟩ := hp.old _ _ hc
    exact ⟨⟨cs', hc'⟩, by rw [e1]; exact e⟩
  have hmk : ∀ r, r ∈ rs → w'.heap[r]? = some (.deferred (some [])) ∧ ω' r = some .mark := fun r hr => by
    obtain ⟨h1, h2⟩ := hf.marks r hr
    obtain ⟨e1, e2⟩ := hp.keep.same r (hms _ _ h2) (by rintro ⟨id, o, h, _⟩; rw [h2] at h; cases h) (by
      rintro ⟨d, cs, hc, e⟩
      have := (hf.own d cs hc).1
      rw [e, h2] at this; cases this)
    exact ⟨by rw [e1]; exact h1, by rw [e2]; exact h2⟩
  unfold Fr.putO at h
  cases dst with
  | none =>
    simp only [Option.some.injEq] at h; subst h
    exact ⟨hp.agree, hp.next, hp.srel, ⟨hf.size, htm, hpt, hp.own, hf.defers, hf.nodup, hmk⟩, hp.lamW, hp.keep, ⟨[], rfl, fun _ h => by cases h⟩, rfl⟩
  | some d =>
    simp only at h
    split at h
    · rename_i hlt
      simp only [Option.some.injEq] at h; subst h
      have hd : d < a.tmps.size := by rw [hf.size]; exact hlt
      have hget : ∀ t, (a.put (some d) v').tmps.getD t undef = if t = d then v' else a.tmps.getD t undef := fun t => getD_set hd
      have hsz : (a.put (some d) v').tmps.size = fr.nt := by simp only [Act.put, Array.size_setIfInBounds]; exact hf.size
      unfold Fr.putV
      split
      · rename_i b off sp
        simp only [Trel] at hv
        refine ⟨hp.agree, hp.next, hp.srel, ⟨hsz, fun t u hu => ?_, fun t p hu => ?_, hp.own, hf.defers, hf.nodup, hmk⟩, hp.lamW, hp.keep, ⟨[], rfl, fun _ h => by cases h⟩, rfl⟩
        · simp only at hu; rw [Tr.get_set] at hu
          split at hu
          · cases hu
          · rename_i ne; rw [hget, if_neg ne]; exact htm t u hu
        · simp only at hu; rw [Tr.get_put] at hu
          split at hu
          · rename_i e; subst e; cases hu
            rw [hget, if_pos rfl]
            exact ⟨hl, hv⟩
          · rename_i ne; rw [hget, if_neg ne]; exact hpt t p hu
      · rename_i ne
        have hv' : Vrel φ' c s'.next v v' := by
          unfold Trel at hv
          split at hv
          · exact (ne _ _ _ rfl).elim
          · exact hv
        refine ⟨hp.agree, hp.next, hp.srel, ⟨hsz, fun t u hu => ?_, fun t p hu => ?_, hp.own, hf.defers, hf.nodup, hmk⟩, hp.lamW, hp.keep, ⟨[], rfl, fun _ h => by cases h⟩, rfl⟩
        · simp only at hu; rw [Tr.get_put] at hu
          split at hu
          · rename_i e; subst e; cases hu; rw [hget, if_pos rfl]; exact hv'
          · rename_i ne; rw [hget, if_neg ne]; exact htm t u hu
        · have key : fr.pt.get t = some p ∧ t ≠ d := by
            simp only at hu
            split at hu
            · rw [Tr.get_set] at hu
              split at hu
              · cases hu
              · rename_i ne; exact ⟨hu, ne⟩
            · rename_i hn
              refine ⟨hu, ?_⟩
              rintro rfl
              rw [hu] at hn; simp at hn
          rw [hget, if_neg key.2]; exact hpt t p key.1
    · cases h

/-- Is it wanted? -/
theorem wanted_rel (hf : FRel φ c s.next lam ω fr rs a w) {ops : Array Oper} {o : Oper} {b : Bool} (h : fr.wanted ops o = some b) : Region.wanted o (yielded ops a.tmps) = b := by
  unfold Fr.wanted at h
  unfold Region.wanted
  split at h
  · rename_i hg; cases h; simp only [hg]
  · rename_i j want hg
    simp only [hg]
    split at h
    · cases h
    · rename_i d hd
      have hy : yielded ops a.tmps j = match (some (a.tmps.getD d undef) : Option Value) with | some (.bool b) => some b | _ => none := by
        unfold yielded
        rw [hd]
        simp only [Option.bind_some, Array.getD_eq_getD_getElem?]
        cases a.tmps[d]? <;> rfl
      split at h
      · rename_i b0 hb
        have := hf.tm d _ hb
        cases h
        rw [hy]
        generalize a.tmps.getD d undef = z at this
        cases this
        cases b0 <;> cases want <;> rfl
      · rename_i vs hb
        have := hf.tm d _ hb
        cases h
        rw [hy]
        generalize a.tmps.getD d undef = z at this
        cases this
        rfl
      · cases h

theorem putO_loc {fr fr' : Fr} {dst : Option Tmp} {v : Value} (h : fr.putO dst v = some fr') : fr'.loc = fr.loc := by
  unfold Fr.putO at h
  split at h
  · split at h
    · cases h
      unfold Fr.putV
      split <;> rfl
    · cases h
  · cases h; rfl

/-- One operation of a region. -/
theorem step_sim {hd : Handler} (H : HSim g base hd) (hs : SRel g base φ ω c s w) (hf : FRel φ c s.next lam ω fr rs a w) {ops : Array Oper} {o : Oper} {ex : Ex} {fr' : Fr} {s' : St} (h : step g hd c fr s ops o = some (ex, fr', s'))
    {ro : Option Nat} {next : Act → World → Prop} {Q : Exit → Act → World → Prop}
    (hn : ex = .normal → ∀ φ' ω' lam' v' w', FPost g base c φ φ' ω ω' lam lam' fr fr' s s' rs rs (a.put o.dst v') w w' → (∀ d cs, fr.loc.get d = some cs → lam' d = lam d ∧ ∃ cs', fr'.loc.get d = some cs') → next (a.put o.dst v') w')
    (hp : ∀ v, ex = .pan v → ∀ φ' ω' v' w', FPost g base c φ φ' ω ω' lam lam fr fr' s s' rs rs a w w' → Vrel φ' c s'.next v v' → Q (.panic [{ v := v', recovered := false }]) a w') :
    if Region.wanted o (yielded ops a.tmps) then o.wpIn (FF ro) 0 g.P a w next Q else (∀ f, o.about g.P w a.eval = some f → (FF ro).fn f) ∧ next (a.put o.dst undef) w := by
  have hms : ∀ b t, ω b = some t → b < w.heap.size := fun b t h => (hs.tags b t h).2.1
  unfold step at h
  replace h := bind_some h; obtain ⟨wt, hwt, h⟩ := h
  rw [wanted_rel hf hwt]
  cases wt with
  | false =>
    simp only [Bool.false_eq_true, if_false] at h ⊢
    replace h := bind_some h; obtain ⟨fr1, hfr, h⟩ := h
    cases h
    have hfr' : ({ fr with loc := fr.loc } : Fr).putO o.dst undef = some fr' := hfr
    refine ⟨fun _ _ => trivial, hn rfl φ ω lam undef w ?_ ?_⟩
    · exact frel_put hf (Post.refl hs hf) (plain_rel φ c s.next 1 undef (by simp [plainN, undef])).trel (live_glob rfl) hfr' hms
    · exact fun d cs h => ⟨rfl, cs, by rw [putO_loc hfr']; exact h⟩
  | true =>
    simp only [if_true] at h ⊢
    replace h := bind_some h; obtain ⟨⟨r, loc1, s1⟩, hop, h⟩ := h
    refine ⟨fun _ _ => trivial, ?_⟩
    have hsem : o.semAt (FF ro).round a.eval = execOp a.eval o := by
      refine Oper.semAt_eq _ _ _ (fun c0 e => ?_)
      unfold op at hop
      simp only [e] at hop
      cases hop
    rw [hsem]
    by_cases hcall : ∃ cl f, o.op = .call cl ∧ cl.callee = .value f
    · -- a call
      obtain ⟨cl, f, ho, hcl⟩ := hcall
      unfold op at hop
      simp only [ho, hcl] at hop
      replace hop := bind_some hop; obtain ⟨fv, hfv, hop⟩ := hop
      replace hop := bind_some hop; obtain ⟨as, has, hop⟩ := hop
      replace hop := bind_some hop; obtain ⟨⟨r0, s0⟩, hh, hop⟩ := hop
      cases hop
      obtain ⟨nx, hnx, hact⟩ := H _ _ _ _ _ _ hh φ ω w (a.eval f) (cl.args.map a.eval) hs (gev_rel hs hf hfv) (evL_arel hs hf has)
      have hrun : (execOp a.eval o).run g.P w = .ok nx w := by
        obtain ⟨callee, cargs, ts⟩ := cl
        simp only at hcl; subst hcl
        simp only [execOp, ho, resolve]
        exact hnx
      rw [hrun]
      -- behind the call
      have behind : ∀ e w', CallR g base c φ ω s s0 w r0 e w' → (match e, w' with
          | .returned v, w'' => next (a.put o.dst v) w''
          | .panicked chain, w'' => Q (.panic chain) a w''
          | .outgrown, _ => LetsOut Q) := by
        rintro e w' ⟨φ', ω', hag, hnx1, hsr, hke, her⟩
        have hpost : Post g base c φ φ' ω ω' lam lam fr.loc fr.loc s s0 w w' := by
          refine ⟨hag, hnx1, hsr, fun d cs hd => ?_, fun d cs h => .inl ⟨rfl, cs, h⟩, fun d cs h => ⟨rfl, cs, h⟩, hke.weaken (fun _ h => h.elim)⟩
          obtain ⟨ht, cs', el, hb, ha⟩ := hf.own d cs hd
          obtain ⟨e1, e2⟩ := hke.same (lam d) (hms _ _ ht) (by rintro ⟨id, o, h, _⟩; rw [ht] at h; cases h) (fun h => h)
          exact ⟨by rw [e2]; exact ht, cs', el, by rw [e1]; exact hb, ha.mono hag hnx1⟩
        cases her with
        | ret v v' hv =>
          simp only at h
          replace h := bind_some h; obtain ⟨fr1, hfr, h⟩ := h
          cases h
          exact hn rfl φ' ω' lam v' w' (frel_put hf hpost hv.trel (live_glob hv.glob) hfr hms) (fun d cs h => ⟨rfl, cs, by rw [putO_loc hfr]; exact h⟩)
        | pan v v' hv =>
          simp only at h
          cases h
          refine hp v rfl φ' ω' v' w' ?_ hv
          have := frel_put hf hpost (v := undef) (v' := undef) (plain_rel φ' _ _ 1 undef (by simp [plainN, undef])).trel (live_glob rfl) (dst := none) (fr' := fr) rfl hms
          exact this
      cases nx with
      | enter f2 as2 => exact ⟨fun h => by simp [FF, Fence.wide] at h, callsIn_FF (hact.mono behind)⟩
      | round l f2 ts x y => exact ⟨fun h => by simp [FF, Fence.wide] at h, roundIn_FF (hact.2.mono behind)⟩
      | _ => exact hact.elim
    · have hnc : ∀ cl f, o.op = .call cl → cl.callee ≠ .value f := fun cl f h1 h2 => hcall ⟨cl, f, h1, h2⟩
      cases r with
      | ret v =>
        obtain ⟨v', φ', ω', lam', w', nx, hrun, hnx, hv, hl, hpost⟩ := op_value hs hf hop hnc
        simp only at h
        replace h := bind_some h; obtain ⟨fr1, hfr, h⟩ := h
        cases h
        have := hn rfl φ' ω' lam' v' w' (frel_put hf hpost hv hl hfr hms) (fun d cs h => ⟨(hpost.old d cs h).1, let ⟨cs', e⟩ := (hpost.old d cs h).2; ⟨cs', by rw [putO_loc hfr]; exact e⟩⟩)
        rw [hrun]
        rcases hnx with rfl | ⟨rfl, rfl⟩
        · exact this
        · exact this
      | pan v =>
        simp only at h
        cases h
        obtain ⟨hss, t, u, v', hv0, hrun, hv⟩ := op_pan hs hf hop hnc
        obtain ⟨rfl, rfl⟩ := hss
        rw [hrun]
        have hpost := Post.refl hs hf
        refine hp v rfl φ ω v' w ?_ hv
        exact frel_put hf hpost (v := undef) (v' := undef) (plain_rel φ _ _ 1 undef (by simp [plainN, undef])).trel (live_glob rfl) (dst := none) (fr' := fr) rfl hms

end
end Go.Am
