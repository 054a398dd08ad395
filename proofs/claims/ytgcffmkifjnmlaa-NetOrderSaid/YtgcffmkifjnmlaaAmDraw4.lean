/- Regions that draw their order: every order. -/
import Derived.Test.YtgcffmkifjnmlaaAmDraw3
namespace Go.Am
section
variable {g : Cfg} {base : Base} {hd : Handler} {c : Ctx} {ops : Array Oper} {T : Trace} {m : Nat} {rs : List Nat} {φ0 φ φ' : Nat → Pl} {ω0 ω ω' : Nat → Option Tag} {lam0 lam lam' : Nat → Nat} {a0 a : Act} {w0 w w' : World} {S : Nat → Prop}

theorem getD_tf {l : Array Bool} {i : Nat} (hi : i < l.size) : l.getD i true = l.getD i false := by
  simp [hi]

/-! ### While something is left, something may be carried out -/
theorem go_ready {md : Region.Mode} {L : Array Bool} (hL : L.size = ops.size) : ∀ (fuel t : Nat) (listed : Array Bool), (∀ i, listed.getD i false = true → L.getD i false = true) → (∃ j ∈ Region.linearise.go md ops fuel t listed [], L.getD j false = false) →
    Region.ready md ops L ≠ [] := by
  intro fuel
  induction fuel with
  | zero => rintro t listed _ ⟨j, hj, _⟩; simp [Region.linearise.go] at hj
  | succ fuel ih =>
    rintro t listed hsub ⟨j, hj, hjl⟩
    simp only [Region.linearise.go] at hj
    change j ∈ (match (Region.ready md ops listed)[t % (Region.ready md ops listed).length]? with
      | some i => Region.linearise.go md ops fuel (t / (Region.ready md ops listed).length) (listed.setIfInBounds i true) [i]
      | none => [].reverse) at hj
    split at hj
    · rename_i i hi
      have hir := List.mem_of_getElem? hi
      obtain ⟨hun, o, ho, hall⟩ := mem_ready.1 hir
      obtain ⟨hlt, _⟩ := Array.getElem?_eq_some_iff.1 ho
      cases hLi : L.getD i false with
      | false =>
        intro he
        have : i ∈ Region.ready md ops L := mem_ready.2 ⟨by rw [getD_tf (by omega)]; exact hLi, o, ho, fun e h1 h2 => hsub _ (hall e h1 h2)⟩
        rw [he] at this; cases this
      | true =>
        rw [linearise_go_acc, List.reverse_singleton, List.singleton_append, List.mem_cons] at hj
        rcases hj with rfl | hj
        · rw [hLi] at hjl; cases hjl
        · refine ih _ _ (fun k hk => ?_) ⟨j, hj, hjl⟩
          by_cases e : i = k
          · subst e; exact hLi
          · rw [getD_set_ne _ e] at hk; exact hsub k hk
    · simp at hj

theorem ready_none (D : DrawFacts ops) {md : Region.Mode} {L : Array Bool} (hL : L.size = ops.size) (hr : Region.ready md ops L = []) : ∀ j, j < ops.size → L.getD j false = true := by
  by_cases hgc : md = .gc
  · subst hgc
    intro j hj
    cases h : L.getD j false with
    | true => rfl
    | false =>
      refine (go_ready hL ops.size 0 (Array.replicate ops.size false) (fun i hi => ?_) ⟨j, D.gc j hj, h⟩ hr).elim
      by_cases e : i < ops.size <;> simp [e] at hi
  · intro j
    induction j using Nat.strongRecOn with
    | _ j ih =>
      intro hj
      cases h : L.getD j false with
      | true => rfl
      | false =>
        have ho : ops[j]? = some ops[j] := Array.getElem?_eq_getElem hj
        have : j ∈ Region.ready md ops L := mem_ready.2 ⟨by rw [getD_tf (by omega)]; exact h, _, ho, fun e he hb => by
          rcases D.edge j _ ho e he with hlt | ⟨x, hx⟩
          · exact ih _ hlt (by omega)
          · unfold Region.binds at hb
            rw [hx] at hb
            simp only [beq_iff_eq] at hb
            exact (hgc hb).elim⟩
        rw [hr] at this; cases this

def unl (ops : Array Oper) (L : Array Bool) : Nat := (List.range ops.size).countP fun k => !L.getD k false

theorem countP_less {p q : Nat → Bool} {i : Nat} : ∀ (l : List Nat), (∀ x, q x = true → p x = true) → i ∈ l → p i = true → q i = false → l.countP q < l.countP p := by
  intro l
  induction l with
  | nil => intro _ h; cases h
  | cons x r ih =>
    intro hs hm hp hq
    have hle : r.countP q ≤ r.countP p := List.countP_mono_left fun y _ h => hs y h
    rw [List.countP_cons, List.countP_cons]
    rcases List.mem_cons.1 hm with rfl | hm
    · rw [hp, hq]; simp; omega
    · have := ih hs hm hp hq
      by_cases h : q x = true
      · rw [h, hs x h]; simp; omega
      · by_cases h2 : p x = true
        · simp [h, h2]; omega
        · simp [h, h2]; omega

theorem unl_set {L : Array Bool} {i : Nat} (hi : i < ops.size) (hL : L.size = ops.size) (h : L.getD i false = false) : unl ops (L.setIfInBounds i true) < unl ops L := by
  refine countP_less (i := i) _ (fun x hx => ?_) (by simpa using hi) (by simp [h]) ?_
  · by_cases e : i = x
    · subst e; simp [h]
    · rwa [getD_set_ne _ e] at hx
  · simp [hi, hL]

theorem set_eq {L : Array Bool} {i : Nat} (hi : i < L.size) : (fun k => (L.setIfInBounds i true).getD k false = true) = fun k => L.getD k false = true ∨ k = i := by
  funext k
  by_cases e : i = k
  · subst e; simp [hi]
  · rw [getD_set_ne _ e]; simp; intro h; exact (e h.symm).elim

/-- Whatever the order: what may be carried out is carried out as in the text's order. -/
theorem any_sim (H : HSim g base hd) (E : Env g base hd c ops T m rs φ0 ω0 lam0 a0 w0) {ro : Option Nat} {Q : Exit → Act → World → Prop} {md : Region.Mode}
    (fin : ∀ S φ ω lam a w, Inv base c ops T m rs φ0 ω0 lam0 w0 S φ ω lam a w → (∀ k, k < ops.size → S k) → Q .normal a w)
    (pan : ∀ i S φ ω lam a w K, Inv base c ops T m rs φ0 ω0 lam0 w0 S φ ω lam a w → i < ops.size → ¬ i < m → ¬ S i → (∀ k, Wt ops k i → S k) → wpOpIn (FF ro) 0 g.P ops Q i K a w) :
    ∀ (fuel : Nat) (L : Array Bool) (φ : Nat → Pl) (ω : Nat → Option Tag) (lam : Nat → Nat) (a : Act) (w : World), L.size = ops.size → Inv base c ops T m rs φ0 ω0 lam0 w0 (fun k => L.getD k false = true) φ ω lam a w → unl ops L ≤ fuel →
      wpAnyIn (FF ro) 0 g.P md ops Q fuel L a w := by
  intro fuel
  induction fuel with
  | zero =>
    intro L φ ω lam a w hL I hu
    have hall : ∀ k, k < ops.size → L.getD k false = true := fun k hk => by
      cases h : L.getD k false with
      | true => rfl
      | false => have := unl_set hk hL h; omega
    refine ⟨?_, fin _ _ _ _ _ _ I hall⟩
    cases hr : Region.ready md ops L with
    | nil => rfl
    | cons x r =>
      have hx : x ∈ Region.ready md ops L := by rw [hr]; simp
      obtain ⟨hun, o, ho, _⟩ := mem_ready.1 hx
      obtain ⟨hlt, _⟩ := Array.getElem?_eq_some_iff.1 ho
      rw [getD_tf (by omega), hall x hlt] at hun; cases hun
  | succ fuel ih =>
    intro L φ ω lam a w hL I hu
    refine ⟨fun hr => fin _ _ _ _ _ _ I (ready_none E.D hL hr), fun i hi => ?_⟩
    obtain ⟨hun, o, ho, hall⟩ := mem_ready.1 hi
    obtain ⟨hlt, _⟩ := Array.getElem?_eq_some_iff.1 ho
    rw [getD_tf (by omega)] at hun
    have hni : ¬ L.getD i false = true := by rw [hun]; simp
    have hb : ∀ k, Wt ops k i → L.getD k false = true := fun k hk => by
      obtain ⟨p, hp, h⟩ := (wt_iff hlt E.D.back).1 hk
      have hpl : L.getD p false = true := by
        unfold preds at hp
        simp only [ho, Option.map_some, Option.getD_some, List.mem_map, List.mem_filter] at hp
        obtain ⟨e, ⟨he, hbi⟩, rfl⟩ := hp
        refine hall e (by simpa using he) ?_
        unfold Region.binds at hbi ⊢
        split at hbi
        · cases hbi
        · cases hbi
        · rfl
      rcases h with rfl | h
      · exact hpl
      · exact I.closed p hpl k h
    by_cases him : i < m
    · unfold wpOpIn
      rw [E.hT.op i him]
      obtain ⟨sA, sB, hst, hA, hB, hAB⟩ := E.hT.step i him
      obtain ⟨hsv0, hfv⟩ := I.view E him hni hb
      have hsv := hsv0 sA hA (by rcases hAB with ⟨h1, h2, _⟩ | ⟨_, h2, _⟩; exact .inl ⟨h1, h2⟩; exact .inr h2)
      rw [← hA] at hfv
      have hfv' : FRel φ (T.ctx c ops i) sA.next lam (cutTag (T.N i) ω) ((T.fr i).only ops (T.o i) (T.acc ops i)) rs a w := by rw [hA] at hfv ⊢; exact hfv
      refine step_sim H hsv hfv' hst ?_ ?_
      · intro _ φ1 ω1 lam1 v1 w1 hp hold
        obtain ⟨φ2, ω2, lam2, I2⟩ := I.next E him hni hb hst hA hB hAB hp hold
        rw [← set_eq (by omega)] at I2
        refine ih _ φ2 ω2 lam2 _ _ (by simpa using hL) I2 ?_
        have := unl_set hlt hL hun; omega
      · intro v hv; cases hv
    · exact pan i _ φ ω lam a w _ I hlt him hni hb

theorem grow_all (E : Env g base hd c ops T m rs φ0 ω0 lam0 a0 w0) : ∀ j, j ≤ m → GrowN c (T.N 0) (T.s 0) (T.s j) := by
  intro j
  induction j with
  | zero => intro _; exact GrowN.refl _ _ _
  | succ j ih =>
    intro hj
    have hg := step_grow_at E.HG E.hT (j := j) (by omega)
    have hn := N0_le E (j := j) (by omega)
    have hsn : ∀ x, x ∈ T.feet ops j → T.N 0 ≤ x.lo := fun x hx => by
      simp only [Trace.feet, List.mem_map, List.mem_range] at hx
      obtain ⟨k, hk, rfl⟩ := hx
      exact N0_le E (by omega)
    refine (ih (by omega)).trans ⟨hg.next, hg.gone, fun id hw hi => hg.low id (drawCtx_wr hsn hn hi hw) (Nat.lt_of_lt_of_le hi hn), fun id hv hi => hg.hid id (drawCtx_vis hv) hi, hg.dom⟩

theorem frel_only {fr : Fr} {s : St} {o : Oper} {acc : List Nat} (hs : SRel g base φ ω c s w) (hf : FRel φ c s.next lam ω fr rs a w) (ha : ∀ t p, t ∈ seenTmps ops o → fr.pt.get t = some p → p.1 ∈ acc) :
    FPost g base c φ φ ω ω lam lam fr (fr.only ops o acc) s s rs rs a w w := by
  refine ⟨fun _ _ => rfl, Nat.le_refl _, hs, ⟨hf.size, fun t v h => ?_, fun t p h => ?_, fun d cs h => ?_, hf.defers, hf.nodup, hf.marks⟩, fun d cs h => ?_, Keep.refl _ _ _ _ _, ⟨[], rfl, fun _ h => by cases h⟩, rfl⟩
  · simp only [Fr.only, pick_nil] at h
    split at h
    · exact hf.tm t v h
    · cases h
  · simp only [Fr.only, pick_nil] at h
    split at h
    · rename_i ht
      obtain ⟨⟨cs, x⟩, y⟩ := hf.pt t p h
      exact ⟨⟨cs, by simp only [Fr.only, pick_nil]; rw [if_pos (ha t p ht h)]; exact x⟩, y⟩
    · cases h
  · simp only [Fr.only, pick_nil] at h
    split at h
    · exact hf.own d cs h
    · cases h
  · simp only [Fr.only, pick_nil] at h
    split at h
    · exact .inl ⟨rfl, cs, h⟩
    · cases h

theorem draw_sim (H : HSim g base hd) (HG : HGrow hd) : DrawSim g base hd := by
  intro rid ops c ro Q φ ω lam fr s rs a w ex fr' s' hs hf h hQ
  unfold region at h
  simp only [if_true] at h
  replace h := bind_some h; obtain ⟨_, hok, h⟩ := h
  rw [chk_some] at hok
  have D := drawOk_facts hok
  have key : ∃ T m, Env g base hd c ops T m rs φ ω lam a w ∧
      (∀ S φ' ω' lam' a' w', Inv base c ops T m rs φ ω lam w S φ' ω' lam' a' w' → (∀ k, k < ops.size → S k) → Q .normal a' w') ∧
      (∀ i S φ' ω' lam' a' w' K, Inv base c ops T m rs φ ω lam w S φ' ω' lam' a' w' → i < ops.size → ¬ i < m → ¬ S i → (∀ k, Wt ops k i → S k) → wpOpIn (FF ro) 0 g.P ops Q i K a' w') := by
    rcases stepsDraw_at (fr0 := fr) (s0 := s) ops.toList 0 (fr, s, []) _ rfl (Nat.zero_le _) rfl h with ⟨y, e1, hy, e2, e3⟩ | ⟨v, m, y, o, e1, hm, hy, ho, hao, hst⟩
    · obtain ⟨T, hT, h1, h2, h3, h4, _⟩ := trace_of (Nat.le_refl _) hy
      subst h1 h2
      simp only at e1 e2 e3; subst e1
      have E : Env g base hd c ops T ops.size rs φ ω lam a w := ⟨D, HG, hT, hs, hf⟩
      refine ⟨T, ops.size, E, fun S φ' ω' lam' a' w' I hall => ?_, fun i S φ' ω' lam' a' w' K I h1 h2 => (h2 h1).elim⟩
      have hS : S = fun k => k < ops.size := by funext k; exact propext ⟨I.below k, hall k⟩
      subst hS
      have := I.done E
      rw [h3, h4, ← e2, ← e3] at this
      exact hQ _ _ _ _ _ _ _ this .normal
    · obtain ⟨T, hT, h1, h2, h3, h4, h5⟩ := trace_of (Nat.le_of_lt hm) hy
      subst h1 h2
      simp only at e1; subst e1
      have E : Env g base hd c ops T m rs φ ω lam a w := ⟨D, HG, hT, hs, hf⟩
      refine ⟨T, m, E, fun S φ' ω' lam' a' w' I hall => ?_, fun i S φ' ω' lam' a' w' K I h1 h2 hni hb => ?_⟩
      · have := I.below m (hall m hm); omega
      · rw [Bool.and_eq_true] at hao
        obtain ⟨hfo, hao⟩ := hao
        have hi : i = m := Classical.byContradiction fun hne => by
          rcases fullOrdered_iff hfo h1 hne with ⟨hlt, _⟩ | ⟨_, hw⟩
          · exact h2 hlt
          · have := I.below m (hb m hw); omega
        subst hi
        have hS : S = fun k => k < i := by
          funext k
          refine propext ⟨I.below k, fun hk => ?_⟩
          rcases fullOrdered_iff hfo (i := k) (by omega) (by omega) with ⟨_, hw⟩ | ⟨hlt, _⟩
          · exact hb k hw
          · omega
        subst hS
        have hd0 := I.done E
        rw [← h3, ← h4] at hst
        have hctx : drawCtx c ops (closure ops ops.size) ops.size i (T.s i).next y.2.2 = c := by unfold drawCtx; rw [if_pos hao]
        rw [hctx] at hst
        have hd1 := frel_only (ops := ops) (o := o) (acc := (footOf ops (T.fr i) o).1) hd0.srel hd0.frel (fun t p ht hp => by
          unfold footOf
          refine List.mem_append_left _ (List.mem_flatMap.2 ⟨t, ht, ?_⟩)
          simp [ptd, hp])
        have hd2 := hd0.trans hs (grow_all E i (Nat.le_refl _)).grow hd1
        unfold wpOpIn
        rw [ho]
        refine step_sim H hd1.srel hd1.frel hst (fun e => by cases e) ?_
        intro v2 hv2 φ2 ω2 v3 w3 hp hv
        cases hv2
        exact hQ _ _ _ _ _ _ _ (hd2.trans hs (grow_all E i (Nat.le_refl _)).grow hp) (.pan _ _ hv)
  obtain ⟨T, m, E, fin, pan⟩ := key
  have hlin : ∀ md t, wpOpsIn (FF ro) 0 g.P ops Q (Region.linearise md ops t) a { w with drawn := w.drawn + 1 } := fun md t => by
    refine wpAnyIn_sound ops.size t _ a _ ?_
    have I0 := Inv.start E (w1 := { w with drawn := w.drawn + 1 }) rfl rfl rfl rfl
    have e0 : (fun k => (Array.replicate ops.size false).getD k false = true) = fun _ => False := by
      funext k
      by_cases e : k < ops.size <;> simp [e]
    rw [← e0] at I0
    refine any_sim H E fin pan ops.size _ _ _ _ _ _ (by simp) I0 ?_
    unfold unl
    have := List.countP_le_length (p := fun k => !(Array.replicate ops.size false).getD k false) (l := List.range ops.size)
    simpa using this
  refine wpIn_region_draw fun t => ?_
  unfold Region.schedule
  split
  · exact hlin _ _
  · exact hlin _ _

theorem call_ok (hg : Good g base) (n : Nat) : HSim g base (call g n) := call_sim hg (fun _ H HG => draw_sim H HG) n

end
end Go.Am
