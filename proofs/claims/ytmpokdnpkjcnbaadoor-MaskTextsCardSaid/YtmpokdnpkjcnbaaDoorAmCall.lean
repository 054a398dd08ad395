/- A function's body, a round, and calls. -/
import Derived.Test.YtmpokdnpkjcnbaaDoorAmCode
namespace Go.Am
variable {Z : Zone}

section
variable {g : Cfg} {base : Base} {c : Ctx} {φ φ' φ'' : Nat → Pl} {ω ω' ω'' : Nat → Option Tag} {lam lam' lam'' : Nat → Nat} {fr fr' fr'' : Fr} {s s' s'' : St} {rs rs' rs'' : List Nat} {a a' a'' : Act} {w w' w'' : World}

/-! ### What is handed back -/
def resRun (tmps : Array Value) : ResultVar → Sem Value
  | .tmp t => pure (tmps.getD t undef)
  | .cell x t => do loadVar t (← asAddr (tmps.getD x undef))

theorem results_eq (fn : Func) (tmps : Array Value) : results fn tmps = (do
    let vs ← fn.results.mapM (resRun tmps)
    pure (if h : vs.size = 1 then vs[0] else .tuple vs)) := by
  unfold results
  congr 1

theorem resultsL_run (hs : SRel g base φ ω c s w) (hf : FRel φ c s.next lam ω fr rs a w) : ∀ (L : List ResultVar) (vs : List Value), resultsL g c fr s L = some vs →
    ∃ vs' : List Value, (L.mapM (resRun a.tmps)).run g.P w = .ok vs' w ∧ vs.length = vs'.length ∧ ∀ (i : Nat) (x x' : Value), vs[i]? = some x → vs'[i]? = some x' → Vrel φ c s.next x x' := by
  intro L
  induction L with
  | nil => intro vs h; cases h; exact ⟨[], by simp, rfl, fun i x x' hx => by simp at hx⟩
  | cons r L ih =>
    intro vs h
    simp only [resultsL] at h
    replace h := bind_some h; obtain ⟨v, hv, h⟩ := h
    replace h := bind_some h; obtain ⟨us, hus, h⟩ := h
    simp only [pure, Option.some.injEq] at h
    subst h
    obtain ⟨us', h1, h2, h3⟩ := ih us hus
    have hone : ∃ v', (resRun a.tmps r).run g.P w = .ok v' w ∧ Vrel φ c s.next v v' := by
      cases r with
      | tmp t =>
        simp only [resultOf] at hv
        replace hv := bind_some hv; obtain ⟨u, hu, hv⟩ := hv
        replace hv := bind_some hv; obtain ⟨_, _, hv⟩ := hv
        simp only [pure, Option.some.injEq] at hv
        subst hv
        exact ⟨_, by simp [resRun], hf.tm t u hu⟩
      | cell x t =>
        simp only [resultOf] at hv
        obtain ⟨v', hrun, hr⟩ := doLoad_ok hs hf hv
        refine ⟨v', ?_, hr⟩
        have hp : ∃ ad, a.eval (.tmp x) = .pointer (some ad) := by
          unfold doLoad at hv
          replace hv := bind_some hv; obtain ⟨p, hp, hv⟩ := hv
          split at hv
          · rename_i ad
            have hr := ev_rel hs hf hp
            obtain ⟨b, off, spot⟩ := ad
            cases spot with
            | some sp => simp only [Trel] at hr; exact ⟨_, hr⟩
            | none =>
              have hr : Vrel φ c s.next (.pointer (some ⟨b, off, none⟩)) (a.eval (.tmp x)) := (trel_global rfl).1 hr
              generalize a.eval (.tmp x) = z at hr
              cases hr; exact ⟨_, rfl⟩
          · rename_i t' nm X o l
            have hr : Vrel φ c s.next (.func (.methodOf t' nm) X #[.slice none o l]) (a.eval (.tmp x)) := (trel_global rfl).1 (ev_rel hs hf hp)
            generalize a.eval (.tmp x) = z at hr
            cases hr with
            | vptr => exact ⟨_, rfl⟩
            | psame _ _ _ _ _ hz => exact (hs.nosame hz).elim
          · cases hv
        obtain ⟨ad, had⟩ := hp
        rw [had] at hrun
        have had' : a.tmps.getD x undef = .pointer (some ad) := had
        simp only [resRun, had', asAddr, Sem.run_bind, Sem.run_pure, Result.andThen_ok]
        simpa only [Instr.loadAt, Instr.sureAddr, Sem.run_bind, Sem.run_pure, Result.andThen_ok] using hrun
    obtain ⟨v', hv1, hv2⟩ := hone
    refine ⟨v' :: us', ?_, by simp [h2], fun i x x' hx hx' => ?_⟩
    · rw [List.mapM_cons]
      simp only [Sem.run_bind, hv1, Result.andThen_ok, h1, Sem.run_pure]
    · cases i with
      | zero => simp at hx hx'; subst hx hx'; exact hv2
      | succ i => exact h3 i x x' (by simpa using hx) (by simpa using hx')

theorem resultsV_run (hs : SRel g base φ ω c s w) (hf : FRel φ c s.next lam ω fr rs a w) {F : Func} {v : Value} (h : resultsV g c fr s F.results.toList = some v) :
    ∃ v', (results F a.tmps).run g.P w = .ok v' w ∧ Vrel φ c s.next v v' := by
  unfold resultsV at h
  replace h := bind_some h; obtain ⟨vs, hvs, h⟩ := h
  obtain ⟨vs', h1, h2, h3⟩ := resultsL_run hs hf _ _ hvs
  have hrun : (F.results.mapM (resRun a.tmps)).run g.P w = .ok vs'.toArray w := by
    rw [Array.mapM_eq_mapM_toList]
    rw [map_eq_pure_bind]
    simp only [Sem.run_bind, h1, Result.andThen_ok, Sem.run_pure]
  rw [results_eq]
  simp only [Sem.run_bind, hrun, Result.andThen_ok, Sem.run_pure]
  refine ⟨_, rfl, ?_⟩
  split at h
  · rename_i u
    cases h
    simp only [List.length_singleton] at h2
    rw [dif_pos (by simpa using h2.symm)]
    refine h3 0 _ _ rfl ?_
    cases vs' with
    | nil => simp at h2
    | cons x r => simp
  · rename_i hne
    cases h
    have : ¬ vs'.toArray.size = 1 := fun e => by
      have e' : vs.length = 1 := by rw [h2]; simpa using e
      match vs, e' with
      | [x], _ => exact hne x rfl
    rw [dif_neg this]
    exact .tuple _ _ (by simpa using h2) (fun i x x' hx hx' => h3 i x x' (by simpa using hx) (by simpa using hx'))

/-! ### The marks are shut at a function's end -/
structure ShutBy (rs : List Nat) (w w' : World) : Prop where
  size : w'.heap.size = w.heap.size
  same : ∀ b, b ∉ rs → w'.heap[b]? = w.heap[b]?
  os : w'.os = w.os
  tape : w'.tape = w.tape
  output : w'.output = w.output

theorem leaves_marks {F : Fence} {n : Nat} {P : Program} {fn : Func} {tmps : Array Value} {R : Ending → World → Prop} {u : FrameMode} (hu : u ≠ .run) : ∀ (rs : List Nat) (w : World), rs.Nodup → (∀ r, r ∈ rs → w.heap[r]? = some (.deferred (some []))) →
    (∀ w', ShutBy rs w w' → LeavesIn F n P fn tmps R [] u w') → LeavesInM F n P fn tmps R (rs.map markOf) u w := by
  intro rs
  induction rs with
  | nil => intro w _ _ h; exact h w ⟨rfl, fun _ _ => rfl, rfl, rfl, rfl⟩
  | cons r rs ih =>
    intro w hnd hm h
    obtain ⟨hr, hnd⟩ := List.nodup_cons.1 hnd
    refine ⟨hu, .inl ⟨r, _, rfl, run_takeDeferred (hm r (by simp)), ih _ hnd (fun r' hr' => ?_) fun w' hw' => h w' ?_⟩⟩
    · rw [World.putObj_heap_other (by rintro rfl; exact hr hr')]; exact hm r' (by simp [hr'])
    · refine ⟨hw'.size.trans (by simp [World.putObj]), fun b hb => ?_, hw'.os, hw'.tape, hw'.output⟩
      rw [hw'.same b (fun e => hb (by simp [e])), World.putObj_heap_other (by rintro rfl; exact hb (by simp))]

theorem SRel.shut (hs : SRel g base φ ω c s w) {rs : List Nat} (hm : ∀ r, r ∈ rs → ω r = some .mark) (hd : ∀ r, r ∈ rs → w.heap[r]? = some (.deferred (some []))) (hw : ShutBy rs w w') : SRel g base φ ω c s w' where
  dom := hs.dom
  bn := hs.bn
  bf := hs.bf
  vlow := hs.vlow
  vnew := hs.vnew
  bw := by rw [hw.size]; exact hs.bw
  obj id o ho hv := (hs.obj id o ho hv).keep' (fun _ _ => rfl) (hs.dom id o ho) (Nat.le_refl _) (fun hso => hw.same _ fun hr => by
    have h1 := hm _ hr
    by_cases hb : id < base.id
    · have := hs.low id hb; have := (hs.tags _ _ h1).1; omega
    · rw [hs.tag id o ho hv (by omega) hso] at h1; cases h1)
  low := hs.low
  tag := hs.tag
  tags b t h := by rw [hw.size]; exact hs.tags b t h
  glob := hs.glob
  zone X b o hz := (hs.zone X b o hz).keep fun _ => ⟨hw.same _ (fun hr => by
    obtain ⟨_, X', el, fz, h2, _⟩ := hs.zone X b o hz
    rw [hd _ hr] at h2
    cases h2), fun e => e⟩
  nosame := hs.nosame
  isreal := hs.isreal

theorem get_args0 : ∀ (L : List Value) (i : Nat) (t : Tr Value) (k : Nat) (x : Value), (args0 i L t).get k = some x → (i ≤ k ∧ L[k - i]? = some x) ∨ t.get k = some x := by
  intro L
  induction L with
  | nil => intro i t k x h; exact .inr h
  | cons v r ih =>
    intro i t k x h
    simp only [args0] at h
    rcases ih _ _ _ _ h with ⟨h1, h2⟩ | h3
    · refine .inl ⟨by omega, ?_⟩
      rw [show k - i = (k - (i + 1)) + 1 by omega, List.getElem?_cons_succ]; exact h2
    · rw [Tr.get_put] at h3
      split at h3
      · rename_i e; subst e; cases h3; exact .inl ⟨Nat.le_refl _, by simp⟩
      · exact .inr h3

/-- From what is known behind a body to what is known behind its call. -/
theorem callR_of (hp : FPost g base c φ φ' ω ω' lam lam' fr fr' s s' [] rs' a' w w') (hl : ∀ d, fr.loc.get d = none) (hw : ShutBy rs' w' w'') {r : Outc} {e : Ending} (he : EndRel φ' c s'.next r e) : CallR g base c φ ω s s' w r e w'' := by
  obtain ⟨new, e1, h1⟩ := hp.marks
  rw [List.append_nil] at e1; subst e1
  refine ⟨φ', ω', hp.agree, hp.next, hp.srel.shut (fun r hr => (hp.frel.marks r hr).2) (fun r hr => (hp.frel.marks r hr).1) hw, ⟨hw.os.trans hp.keep.os, hw.tape.trans hp.keep.tape, hw.output.trans hp.keep.output, by rw [hw.size]; exact hp.keep.size, fun b hb ho _ => ?_⟩, he⟩
  obtain ⟨x, y⟩ := hp.keep.same b hb ho (by rintro ⟨d, cs, h, _⟩; rw [hl d] at h; cases h)
  exact ⟨by rw [hw.same b (fun hr => by have := h1 b hr; omega)]; exact x, y⟩

theorem runBody_sim {hd : Handler} (H : HSim g base hd) (HG : HGrow hd) (HD : DrawSim g base hd) {lim : Nat} {i : FnI} {f : FuncId} {F : Func} (hF : g.P.funcs[f]? = some F) (hb : F.body = some i.body) (hn : F.ntmps = i.nt) (hR : F.results.toList = i.results)
    {args args' : Array Value} {r : Outc} (h : runBody g hd lim i f args c s = some (r, s')) (hs : SRel g base φ ω c s w) (ha : Arel φ c s.next args args') : CallsIn (FF none) 0 g.P f args' w (CallR g base c φ ω s s' w r) := by
  unfold runBody at h
  replace h := bind_some h; obtain ⟨_, hle, h⟩ := h
  rw [chk_some, decide_eq_true_eq] at hle
  simp only at h
  replace h := bind_some h; obtain ⟨⟨ex, fr1, s1⟩, hc, h⟩ := h
  refine callsIn_of_wp_marks hF hb trivial ?_ rfl
  have hf : FRel φ c s.next (fun _ => 0) ω { fn := f, nt := i.nt, tm := args0 0 args.toList .nil, pt := .nil, loc := .nil, round := none } [] { tmps := args' ++ Array.replicate (F.ntmps - args'.size) undef, defers := [] } w := by
    refine ⟨?_, fun t v hv => ?_, fun t p hp => by simp [Tr.get_nil] at hp, fun d cs hd => by simp [Tr.get_nil] at hd, rfl, List.nodup_nil, fun r hr => by cases hr⟩
    · simp only [Array.size_append, Array.size_replicate]
      rw [hn, ← ha.1]; omega
    · rcases get_args0 _ _ _ _ _ hv with ⟨_, h2⟩ | h2
      · simp only [Nat.sub_zero, Array.getElem?_toList] at h2
        obtain ⟨x', hx', hr⟩ := ha.get h2
        obtain ⟨hlt, e⟩ := Array.getElem?_eq_some_iff.1 hx'
        rw [Array.getD_eq_getD_getElem?, Array.getElem?_append_left hlt, hx']; exact hr
      · simp [Tr.get_nil] at h2
  have hloc : ∀ d, (Fr.mk f i.nt (args0 0 args.toList .nil) .nil .nil none).loc.get d = none := fun d => Tr.get_nil d
  refine code_sim H HG HD i.body φ ω _ _ s [] _ w ex fr1 s1 _ hs hf rfl hc ?_
  intro φ' ω' lam' rs' a' w' e hp he
  have fin : ∀ v, resultsV g c fr1 s1 i.results = some v → s' = s1 → r = .ret v → LeavesInM (FF none) 0 g.P F a'.tmps (CallR g base c φ ω s s' w r) a'.defers .returning w' := by
    intro v hv e1 e2
    subst e1 e2
    rw [hp.frel.defers]
    refine leaves_marks (by simp) rs' w' hp.frel.nodup (fun r hr => (hp.frel.marks r hr).1) fun w'' hw => ?_
    have hs'' := hp.srel.shut (fun r hr => (hp.frel.marks r hr).2) (fun r hr => (hp.frel.marks r hr).1) hw
    have hf'' : FRel φ' c s'.next lam' ω' fr1 [] { a' with defers := [] } w'' := by
      refine ⟨hp.frel.size, hp.frel.tm, hp.frel.pt, fun d cs hd => ?_, rfl, List.nodup_nil, fun r hr => by cases hr⟩
      obtain ⟨ht, cs', el, hb, hA⟩ := hp.frel.own d cs hd
      refine ⟨ht, cs', el, ?_, hA⟩
      rw [hw.same _ fun hr => by have := (hp.frel.marks _ hr).2; rw [ht] at this; cases this]; exact hb
    rw [← hR] at hv
    obtain ⟨v', h1, h2⟩ := resultsV_run hs'' hf'' hv
    exact ⟨v', h1, callR_of hp hloc hw (.ret v v' h2)⟩
  cases he with
  | normal =>
    simp only at h
    replace h := bind_some h; obtain ⟨v, hv, h⟩ := h
    simp only [pure, Option.some.injEq, Prod.mk.injEq] at h
    exact fin v hv h.2.symm h.1.symm
  | ret =>
    simp only at h
    replace h := bind_some h; obtain ⟨v, hv, h⟩ := h
    simp only [pure, Option.some.injEq, Prod.mk.injEq] at h
    exact fin v hv h.2.symm h.1.symm
  | exit j => simp only at h; cases h
  | pan v v' hv =>
    simp only [pure, Option.some.injEq, Prod.mk.injEq] at h
    obtain ⟨rfl, rfl⟩ := h
    simp only [bodyPostM]
    rw [hp.frel.defers]
    refine leaves_marks (by simp) rs' w' hp.frel.nodup (fun r hr => (hp.frel.marks r hr).1) fun w'' hw => ?_
    exact callR_of hp hloc hw (.pan v v' hv)

/-! ### A round -/
theorem get_putAll : ∀ (L L' : List (Tmp × Value)) (tm : Tr Value) (ts : Array Value) (nt : Nat), ts.size = nt → (∀ t v, tm.get t = some v → Vrel φ c s.next v (ts.getD t undef)) → L.length = L'.length →
    (∀ (i : Nat) (x x' : Tmp × Value), L[i]? = some x → L'[i]? = some x' → x.1 = x'.1 ∧ x.1 < nt ∧ Vrel φ c s.next x.2 x'.2) →
    (L'.foldl (fun ts (x : Tmp × Value) => ts.setIfInBounds x.1 x.2) ts).size = nt ∧ ∀ t v, (putAll L tm).get t = some v → Vrel φ c s.next v ((L'.foldl (fun ts (x : Tmp × Value) => ts.setIfInBounds x.1 x.2) ts).getD t undef) := by
  intro L
  induction L with
  | nil =>
    intro L' tm ts nt hn h hl _
    cases L' with
    | nil => exact ⟨hn, h⟩
    | cons y r => simp at hl
  | cons x r ih =>
    intro L' tm ts nt hn h hl hx
    cases L' with
    | nil => simp at hl
    | cons y r' =>
      obtain ⟨e, hlt, hr⟩ := hx 0 x y rfl rfl
      simp only [putAll, List.foldl_cons]
      refine ih r' _ _ nt (by simpa using hn) (fun t v hv => ?_) (by simpa using hl) (fun i a b ha hb => hx (i + 1) a b (by simpa using ha) (by simpa using hb))
      rw [getD_set (by rw [← e, hn]; exact hlt)]
      rw [Tr.get_put] at hv
      split at hv
      · rename_i e2; cases hv; rw [if_pos (e2.trans e)]; exact hr
      · rename_i e2; rw [if_neg (by rw [← e]; exact e2)]; exact h t v hv

/-- The record of a loop is turned. -/
theorem FPost.turn (k : FPost g base c φ φ' ω ω' lam lam' fr fr' s s' rs rs' a' w w') {id : Nat} {lr lr' : LoopRec} {L : Loop} {o0 : AObj} (h0 : s.heap.get id = some o0) (hg : s'.heap.get id = some (.loop lr)) (hv : c.vis id = true) (hw : c.wr id = true)
    (ho : ORel φ' c s'.next base id ω' (w'.putObj (φ' id).blk (.loop L)) (.loop lr')) : FPost g base c φ φ' ω ω' lam lam' fr fr' s { s' with heap := s'.heap.put id (.loop lr') } rs rs' a' w (w'.putObj (φ' id).blk (.loop L)) := by
  have hbi := k.srel.bf id hw
  have htag : ω' (φ' id).blk = some (.obj id) := k.srel.tag id _ hg hv hbi trivial
  have hlt := (k.srel.tags _ _ htag).2.1
  have hsz : w'.heap.size ≤ (w'.putObj (φ' id).blk (.loop L)).heap.size := by simp [World.putObj]
  have hk : ∀ b, b ≠ (φ' id).blk → (w'.putObj (φ' id).blk (.loop L)).heap[b]? = w'.heap[b]? := fun b hb => World.putObj_heap_other hb
  refine ⟨k.agree, k.next, ?_, ⟨k.frel.size, k.frel.tm, k.frel.pt, fun d cs h => ?_, k.frel.defers, k.frel.nodup, fun r hr => ?_⟩, k.lamW, ⟨k.keep.os, k.keep.tape, k.keep.output, Nat.le_trans k.keep.size hsz, fun b hb ho hx => ?_⟩, k.marks, k.round⟩
  · refine SRel.putObj k.srel hsz hbi (k.srel.dom _ _ hg) (Nat.le_refl _) (fun _ _ => rfl) (fun b hb hle => ⟨hk b ?_, rfl⟩) (fun _ => ho) (fun _ _ => htag) (fun b t ht => ?_)
    · rintro rfl
      rcases hle with hle | hle | ⟨i, o, hi, _, _, _, ht, hne⟩
      · rw [htag] at hle; cases hle
      · have := (k.srel.tags _ _ htag).1; omega
      · rw [htag] at ht; cases ht; exact hne rfl
    · obtain ⟨x, y, z⟩ := k.srel.tags b t ht
      exact ⟨x, Nat.lt_of_lt_of_le y hsz, z⟩
  · obtain ⟨ht, cs', el, hb, ha⟩ := k.frel.own d cs h
    exact ⟨ht, cs', el, by rw [hk _ (fun e => by rw [e, htag] at ht; cases ht)]; exact hb, ha⟩
  · obtain ⟨x, y⟩ := k.frel.marks r hr
    exact ⟨by rw [hk _ (fun e => by rw [e, htag] at y; cases y)]; exact x, y⟩
  · obtain ⟨x, y⟩ := k.keep.same b hb ho hx
    refine ⟨?_, y⟩
    rw [hk _ ?_]
    · exact x
    · intro e
      rw [e, htag] at y
      exact ho ⟨id, o0, by rw [e]; exact y.symm, hw, hv, h0⟩

theorem putObj_at {l : Nat} {o o0 : Obj} (h : w.heap[l]? = some o0) : (w.putObj l o).heap[l]? = some o := by
  obtain ⟨hlt, _⟩ := Array.getElem?_eq_some_iff.1 h
  simp [World.putObj, hlt]

theorem runRound_sim {hd : Handler} (H : HSim g base hd) (HG : HGrow hd) (HD : DrawSim g base hd) {lim id : Nat} {args args' : Array Value} {r : Outc} (h : runRound g hd lim id args c s = some (r, s')) (hs : SRel g base φ ω c s w) (ha : Arel φ c s.next args args') :
    Acts g.P (.func (.yield (φ id).blk) #[] #[]) args' w (CallR g base c φ ω s s' w r) := by
  unfold runRound at h
  split at h
  · rename_i l hl
    obtain ⟨hv, hg⟩ := look_some hl
    replace h := bind_some h; obtain ⟨_, hc, h⟩ := h
    rw [chk_some] at hc
    simp only [Bool.and_eq_true, beq_iff_eq] at hc
    obtain ⟨⟨hwr, hps⟩, hall⟩ := hc
    simp only at h
    replace h := bind_some h; obtain ⟨⟨ex, fr1, s1⟩, hca, h⟩ := h
    obtain ⟨L, hL, hst, hpe, hpa, has, hbo, hsz, htm⟩ := hs.obj _ _ hg hv
    have hrun : (do let d ← Deferred.ofValue (.func (.yield (φ id).blk) #[] #[]) args'; invoke d.target d.args : Sem Next).run g.P w = .ok (.round (φ id).blk L.fn ((L.params.zip args').foldl (fun tmps (x : Tmp × Value) => tmps.setIfInBounds x.1 x.2) L.tmps) L.assign L.body) w := by
      simp only [Deferred.ofValue, Sem.run_bind, Sem.run_pure, Result.andThen_ok, invoke, Array.empty_append]
      exact run_yield hL (by rw [← ha.1, hps, hpa])
    refine ⟨_, hrun, ⟨_, _, _, rfl⟩, roundIn_of_wpIn (F := FF none) trivial ?_⟩
    have hput := get_putAll (φ := φ) (c := c) (s := s) (l.params.toList.zip args.toList) (l.params.toList.zip args'.toList) l.tm L.tmps l.nt hsz htm (by simp [ha.1]) (by
      intro i x x' hx hx'
      rw [List.getElem?_zip_eq_some] at hx hx'
      obtain ⟨x1, x2⟩ := hx
      obtain ⟨y1, y2⟩ := hx'
      rw [x1] at y1; injection y1 with y1
      refine ⟨y1, ?_, ha.2 i _ _ (by simpa using x2) (by simpa using y2)⟩
      have := Array.all_eq_true.1 hall
      have hx1 : l.params[i]? = some x.1 := by simpa using x1
      obtain ⟨hi, e⟩ := Array.getElem?_eq_some_iff.1 hx1
      have := this i hi
      rw [e] at this; simpa using this)
    have hlist : (L.params.zip args').foldl (fun tmps (x : Tmp × Value) => tmps.setIfInBounds x.1 x.2) L.tmps = (l.params.toList.zip args'.toList).foldl (fun tmps (x : Tmp × Value) => tmps.setIfInBounds x.1 x.2) L.tmps := by
      rw [hpa, ← Array.foldl_toList, Array.toList_zip]
    rw [hlist, has, hbo]
    generalize (l.params.toList.zip args'.toList).foldl (fun tmps (x : Tmp × Value) => tmps.setIfInBounds x.1 x.2) L.tmps = ts0 at hput
    have hf : FRel φ c s.next (fun _ => 0) ω { fn := l.fn, nt := l.nt, tm := putAll (l.params.toList.zip args.toList) l.tm, pt := .nil, loc := .nil, round := some id } [] { tmps := ts0, defers := [] } w :=
      ⟨hput.1, hput.2, fun t p hp => by simp [Tr.get_nil] at hp, fun d cs hd => by simp [Tr.get_nil] at hd, rfl, List.nodup_nil, fun r hr => by cases hr⟩
    have hro : RoundOk φ s.next (some (φ id).blk) { fn := l.fn, nt := l.nt, tm := putAll (l.params.toList.zip args.toList) l.tm, pt := .nil, loc := .nil, round := some id } := ⟨hs.dom _ _ hg, rfl⟩
    refine code_sim H HG HD (ro := some (φ id).blk) l.assign φ ω _ _ s [] _ w ex fr1 s1 _ hs hf hro hca ?_
    intro φ1 ω1 lam1 rs1 a1 w1 e hp he
    cases he with
    | ret => simp only at h; cases h
    | exit => simp only at h; cases h
    | pan => simp only at h; cases h
    | normal =>
    simp only at h
    split at h
    · rename_i l1 hl1
      obtain ⟨_, hg1⟩ := look_some hl1
      replace h := bind_some h; obtain ⟨_, hready, h⟩ := h
      rw [chk_some, beq_iff_eq] at hready
      replace h := bind_some h; obtain ⟨⟨ex2, fr2, s2⟩, hcb, h⟩ := h
      replace h := bind_some h; obtain ⟨p, hpend, h⟩ := h
      simp only at h hpend
      have hid := hs.dom _ _ hg
      have hφ1 : φ1 id = φ id := hp.agree id hid
      obtain ⟨L1, hL1, hst1, hpe1, hpa1, has1, hbo1, hsz1, htm1⟩ := hp.srel.obj _ _ hg1 hv
      rw [hφ1] at hL1
      refine ⟨_, run_beginRound hL1 (by rw [hst1]; exact hready), ?_⟩
      have hp1 := hp.turn (L := { L1 with state := .busy }) (lr' := { l1 with state := .busy }) hg hg1 hv hwr ⟨_, putObj_at (by rw [hφ1]; exact hL1), rfl, hpe1, hpa1, has1, hbo1, hsz1, htm1⟩
      rw [hφ1] at hp1
      have hG1 : Grow c s { s1 with heap := s1.heap.put id (.loop { l1 with state := .busy }) } := (code_grow HG _ _ _ _ hca).trans (Grow.set _ hwr hv hg1)
      refine code_sim H HG HD (ro := some (φ id).blk) l.body φ1 ω1 _ _ _ rs1 _ _ ex2 fr2 s2 _ hp1.srel hp1.frel (hro.post hp1) hcb ?_
      intro φ2 ω2 lam2 rs2 a2 w2 e2 hp2 he2
      have hall2 := hp1.trans hs hG1 hp2
      have hφ2 : φ2 id = φ id := hall2.agree id hid
      split at h
      · rename_i l2 hl2
        obtain ⟨_, hg2⟩ := look_some hl2
        simp only [Option.some.injEq, Prod.mk.injEq] at h
        obtain ⟨rfl, rfl⟩ := h
        obtain ⟨L2, hL2, hst2, hpe2, hpa2, has2, hbo2, hsz2, htm2⟩ := hall2.srel.obj _ _ hg2 hv
        rw [hφ2] at hL2
        have fin : ∀ jump, p = jump → ∃ v w', (Instr.endRound (φ id).blk jump).run g.P w2 = .ok v w' ∧ CallR g base c φ ω s { s2 with heap := s2.heap.put id (.loop { l2 with state := if p.isNone then .ready else .done, pending := p }) } w (.ret (.bool p.isNone)) (.returned v) w' := by
          rintro jump rfl
          refine ⟨_, _, run_endRound p hL2, ?_⟩
          have hp3 := hall2.turn (L := { L2 with state := if p.isNone then .ready else .done, pending := p }) (lr' := { l2 with state := if p.isNone then .ready else .done, pending := p }) hg hg2 hv hwr ⟨_, putObj_at (by rw [hφ2]; exact hL2), rfl, rfl, hpa2, has2, hbo2, hsz2, htm2⟩
          rw [hφ2] at hp3
          refine ⟨φ2, ω2, hp3.agree, hp3.next, hp3.srel, ⟨hp3.keep.os, hp3.keep.tape, hp3.keep.output, hp3.keep.size, fun b hb ho _ => hp3.keep.same b hb ho ?_⟩, .ret _ _ (.bool _)⟩
          rintro ⟨d, cs, hd, _⟩
          simp [Tr.get_nil] at hd
        cases he2 with
        | normal => cases hpend; exact fin none rfl
        | ret => cases hpend; exact fin (some .ret) rfl
        | exit i => cases hpend; exact fin (some (.exit i)) rfl
        | pan => cases hpend
      · cases h
    · cases h
  · cases h

/-! ### What is kept of a call of a function that is reckoned apart -/
/-- Nothing that was there is turned: what was known is known. -/
theorem SRel.back (hs : SRel g base φ ω c s w) (hk : Keep ω ω' { floor := s.next, own := [], hide := c.hide } s (fun _ => False) w w') : SRel g base φ (fun b => if b < w.heap.size then ω b else none) c s w' := by
  have hsame : ∀ b, b < w.heap.size → w'.heap[b]? = w.heap[b]? := fun b hb => (hk.same b hb (by
    rintro ⟨id, o, _, hw, _, hg⟩
    have := hs.dom id o hg
    simp [Ctx.wr] at hw
    omega) (fun h => h)).1
  refine SRel.move hs hk.size (fun b hb _ => ⟨hsame b hb, if_pos hb⟩) (fun b t ht => ?_)
  by_cases hb : b < w.heap.size
  · rw [if_pos hb] at ht
    obtain ⟨x, y, z⟩ := hs.tags b t ht
    exact ⟨x, Nat.lt_of_lt_of_le y hk.size, z⟩
  · rw [if_neg hb] at ht; cases ht

theorem keep_back (hs : SRel g base φ ω c s w) (hk : Keep ω ω' { floor := s.next, own := [], hide := c.hide } s (fun _ => False) w w') (t : Option (Nat × Tag)) (ht : ∀ b u, t = some (b, u) → w.heap.size ≤ b) :
    Keep ω (fun b => match t with | some (b', u) => if b = b' then some u else if b < w.heap.size then ω b else none | none => if b < w.heap.size then ω b else none) c s (fun _ => False) w w' := by
  refine ⟨hk.os, hk.tape, hk.output, hk.size, fun b hb _ _ => ⟨(hk.same b hb (by
    rintro ⟨id, o, _, hw, _, hg⟩
    have := hs.dom id o hg
    simp [Ctx.wr] at hw
    omega) (fun h => h)).1, ?_⟩⟩
  cases t with
  | none => simp only; rw [if_pos hb]
  | some p =>
    obtain ⟨b', u⟩ := p
    have := ht b' u rfl
    simp only
    rw [if_neg (by omega), if_pos hb]

theorem shed_sim {v : Value} {x : Value × St} (h : shed s s' v = some x) (hs : SRel g base φ ω c s w) {e : Ending} (hc : CallR g base { floor := s.next, own := [], hide := c.hide } φ ω s s' w (.ret v) e w') : CallR g base c φ ω s x.2 w (.ret x.1) e w' := by
  obtain ⟨φ', ω', hag, hnx, hsr, hk, he⟩ := hc
  cases he with
  | ret v v' hv =>
  have hback := hs.back hk
  unfold shed at h
  split at h
  · rename_i id l cp
    split at h
    · rename_i cs sz sp hg
      split at h
      · rename_i hcnd
        simp only [Bool.and_eq_true, decide_eq_true_eq] at hcnd
        cases h
        have hvis : (Ctx.mk s.next [] c.hide).vis id = true := by cases hv with | slice _ _ _ _ hin => exact hin.2
        have hobj := hsr.obj id _ hg hvis
        have hbi : base.id ≤ id := Nat.le_trans hs.bn hcnd.1
        have hφ : ∀ i, i < s.next → upd φ s.next (φ' id) i = φ i := fun i hi => upd_ne _ _ (by omega)
        have hv' : v' = .slice (some ⟨(φ' id).blk, (φ' id).off + 0, none⟩) l (cp + (φ' id).ex) := by cases hv; rfl
        have hplain : ∀ {i : Nat} {y y' : Value}, cs[i]? = some y → Vrel φ' { floor := s.next, own := [], hide := c.hide } s'.next y y' → Vrel (upd φ s.next (φ' id)) c (s.next + 1) y y' := fun hy hr => by
          have hp := all_get hcnd.2 hy
          exact free_move 6 _ _ hp hr
        have hge : cs.size ≠ 0 ∨ sp = true → ω' (φ' id).blk = some (.obj id) ∧ w.heap.size ≤ (φ' id).blk := fun hso => by
          have ht := hsr.tag id _ hg hvis hbi hso
          refine ⟨ht, ?_⟩
          by_cases hlt : (φ' id).blk < w.heap.size
          · have := (hk.same _ hlt (by
              rintro ⟨i, o, _, hw, _, hg⟩
              have := hs.dom i o hg
              simp [Ctx.wr] at hw
              omega) (fun h => h)).2
            rw [ht] at this
            have := (hs.tags _ _ this.symm).2.2 id rfl
            omega
          · omega
        by_cases hso : cs.size ≠ 0 ∨ sp = true
        · obtain ⟨ht, hlt⟩ := hge hso
          refine ⟨upd φ s.next (φ' id), _, hφ, by simp [St.new], ?_, keep_back hs hk (some ((φ' id).blk, .obj s.next)) (fun b u e => by cases e; exact hlt), ?_⟩
          · refine SRel.putObj hback (Nat.le_refl _) hs.bn (Nat.lt_succ_self _) (Nat.le_succ _) hφ (fun b hb hle => ⟨rfl, ?_⟩) (fun _ => ?_) (fun _ _ => ?_) (fun b t htt => ?_)
            · simp only
              rw [if_neg]
              rintro rfl
              rcases hle with hle | hle | ⟨i, o, hi, hvi, hbi', hsoi, hti, _⟩
              · simp only at hle; rw [if_neg (by omega)] at hle; cases hle
              · have := hs.bw; omega
              · simp only at hti; rw [if_neg (by omega)] at hti; cases hti
            · refine ⟨fun e => by rw [upd_self]; exact hobj.1 e, fun e => ?_⟩
              obtain ⟨cs', el, fz, h1, h2, h3, h4⟩ := hobj.2 e
              rw [upd_self]
              exact ⟨cs', el, fz, h1, fun _ => h2 hbi, h3, fun i y hy => let ⟨y', p, q⟩ := h4 i y hy; ⟨y', p, hplain hy q⟩⟩
            · simp only [upd_self, if_true]
            · simp only at htt
              split at htt
              · rename_i e; cases htt; subst e
                exact ⟨(hsr.tags _ _ ht).1, (hsr.tags _ _ ht).2.1, fun i hi => by cases hi; exact Nat.lt_succ_self _⟩
              · obtain ⟨p, q, r⟩ := hback.tags b t htt
                exact ⟨p, q, fun i hi => Nat.lt_succ_of_lt (r i hi)⟩
          · rw [hv']
            have := Vrel.slice (φ := upd φ s.next (φ' id)) (c := c) (n := s.next + 1) s.next 0 l cp ⟨Nat.lt_succ_self _, hs.vnew _ (Nat.le_refl _)⟩
            rw [upd_self] at this
            exact .ret _ _ this
        · refine ⟨upd φ s.next (φ' id), _, hφ, by simp [St.new], ?_, keep_back hs hk none (fun b u e => by cases e), ?_⟩
          · refine SRel.putObj hback (Nat.le_refl _) hs.bn (Nat.lt_succ_self _) (Nat.le_succ _) hφ (fun b hb hle => ⟨rfl, rfl⟩) (fun _ => ?_) (fun _ e => (hso e).elim) (fun b t htt => ?_)
            · exact ⟨fun e => by rw [upd_self]; exact hobj.1 e, fun e => (hso e).elim⟩
            · obtain ⟨p, q, r⟩ := hback.tags b t htt
              exact ⟨p, q, fun i hi => Nat.lt_succ_of_lt (r i hi)⟩
          · rw [hv']
            have := Vrel.slice (φ := upd φ s.next (φ' id)) (c := c) (n := s.next + 1) s.next 0 l cp ⟨Nat.lt_succ_self _, hs.vnew _ (Nat.le_refl _)⟩
            rw [upd_self] at this
            exact .ret _ _ this
      · cases h
    · cases h
  · split at h
    · rename_i hp
      cases h
      exact ⟨φ, _, fun _ _ => rfl, Nat.le_refl _, hback, keep_back hs hk none (fun b u e => by cases e), .ret _ _ (free_move 9 _ _ hp hv)⟩
    · cases h

/-! ### Calls -/
variable [Z]
structure Good (g : Cfg) (base : Base) : Prop where
  fns : ∀ f i, g.fns f = some i → ∃ F : Func, g.P.funcs[f]? = some F ∧ F.body = some i.body ∧ F.ntmps = i.nt ∧ F.results.toList = i.results ∧ (F.name == "runtime.NumGoroutine") = false
  hgrow : ∀ f hd, g.hand f = some hd → ∀ args c s r, hd args c s = some r → Grow c s r.2
  hand : ∀ f hd, g.hand f = some hd → ∀ args c s r s', hd args c s = some (r, s') → ∀ φ ω w args', SRel g base φ ω c s w → Arel φ c s.next args args' →
    ∃ f' as', (callFunc f args').run g.P w = .ok (.enter f' as') w ∧ CallsIn (FF none) 0 g.P f' as' w (CallR g base c φ ω s s' w r)
variable {Z}

theorem run_callFunc {f : FuncId} {F : Func} {c0 : Code} (hF : g.P.funcs[f]? = some F) (hb : F.body = some c0) (hn : (F.name == "runtime.NumGoroutine") = false) (args : Array Value) : (callFunc f args).run g.P w = .ok (.enter f args) w := by
  unfold callFunc
  have hp : (Go.program : Sem Program).run g.P w = .ok g.P w := rfl
  simp only [Sem.run_bind, hp, Result.andThen_ok, hF, hn, hb, Option.isNone_some, Bool.false_eq_true, if_false, Sem.run_pure]

theorem call_sim (hg : Good g base) (HDraw : ∀ hd, HSim g base hd → HGrow hd → DrawSim g base hd) : ∀ n, HSim g base (call g n) := by
  intro n
  induction n with
  | zero => intro fv args c s r s' h; cases h
  | succ n ih =>
    have HG : HGrow (call g n) := call_grow hg.hgrow n
    have HD := HDraw _ ih HG
    intro fv args c s r s' h φ ω w fv' args' hs hfv ha
    simp only [call] at h
    split at h
    · rename_i f a b
      cases hfv with
      | func _ _ _ a' b' hsa hsb hA hB =>
      have hall : Arel φ c s.next (a ++ args ++ b) (a' ++ args' ++ b') := Arel.append (Arel.append ⟨hsa, hA⟩ ha) ⟨hsb, hB⟩
      have hof : ∀ nx, (callFunc f (a' ++ args' ++ b')).run g.P w = .ok nx w → (do let d ← Deferred.ofValue (.func (.func f) a' b') args'; invoke d.target d.args : Sem Next).run g.P w = .ok nx w := fun nx hnx => by
        simp only [Deferred.ofValue, Sem.run_bind, Sem.run_pure, Result.andThen_ok, invoke]
        exact hnx
      split at h
      · rename_i hd hhd
        obtain ⟨f', as', h1, h2⟩ := hg.hand f hd hhd _ _ _ _ _ h φ ω w _ hs hall
        exact ⟨_, hof _ h1, h2⟩
      · split at h
        · cases h
        · rename_i i hi
          obtain ⟨F, hF, hb, hn, hR, hname⟩ := hg.fns f i hi
          refine ⟨_, hof _ (run_callFunc hF hb hname _), ?_⟩
          simp only
          split at h
          · replace h := bind_some h; obtain ⟨⟨r1, s1⟩, hrun, h⟩ := h
            have hs' : SRel g base φ ω { floor := s.next, own := [], hide := c.hide } s w :=
              { dom := hs.dom, bn := hs.bn, bf := fun id h => by simp [Ctx.wr] at h; exact Nat.le_trans hs.bn h, vlow := hs.vlow, vnew := hs.vnew, bw := hs.bw, obj := fun id o h1 h2 => (hs.obj id o h1 h2).conv (fun i hi => ⟨hi, rfl⟩) rfl (fun _ => rfl), low := hs.low, tag := hs.tag, tags := hs.tags, glob := hs.glob, zone := hs.zone, nosame := hs.nosame, isreal := hs.isreal }
            have hall' : Arel φ { floor := s.next, own := [], hide := c.hide } s.next (a ++ args ++ b) (a' ++ args' ++ b') := Arel.conv (c := c) (c' := { floor := s.next, own := [], hide := c.hide }) (n := s.next) (n' := s.next) (φ := φ) (φ' := φ) (fun i hi => ⟨⟨hi.1, hi.2⟩, rfl⟩) hall
            have hcall := runBody_sim ih HG HD hF hb hn hR hrun hs' hall'
            simp only at h
            split at h
            · replace h := bind_some h; obtain ⟨x, hx, h⟩ := h
              cases h
              exact hcall.mono fun e w' hR => shed_sim hx hs hR
            · cases h
          · exact runBody_sim ih HG HD hF hb hn hR h hs hall
    · rename_i id a b
      split at h
      · rename_i hsz
        have ea : a = #[] := Array.eq_empty_of_size_eq_zero hsz.1
        have eb : b = #[] := Array.eq_empty_of_size_eq_zero hsz.2
        subst ea eb
        cases hfv
        exact runRound_sim ih HG HD h hs ha
      · cases h
    · cases h

end
end Go.Am
