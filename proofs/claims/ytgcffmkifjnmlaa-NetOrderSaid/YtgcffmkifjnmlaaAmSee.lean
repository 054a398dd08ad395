/- Regions that draw their order: what each operation may see and write. -/
import Derived.Test.YtgcffmkifjnmlaaAmTrace
namespace Go.Am

structure DrawFacts (ops : Array Oper) : Prop where
  back : ∀ j, j < ops.size → ∀ k ∈ preds ops j, k < j
  edge : ∀ (j : Nat) (o : Oper), ops[j]? = some o → ∀ e ∈ o.after, e.on < j ∨ ∃ w, e.ground = .gcOnly w
  guard : ∀ (j : Nat) (o : Oper), ops[j]? = some o → ∀ i b, o.guard = some (i, b) → Wt ops i j
  gc : ∀ j, j < ops.size → j ∈ Region.linearise .gc ops 0
  one : ∀ i j t, i < ops.size → j < ops.size → i ≠ j → dstOf ops i = some t → dstOf ops j ≠ some t
  reads : ∀ (i j : Nat) (t : Tmp) (o : Oper), i < ops.size → i ≠ j → dstOf ops i = some t → ops[j]? = some o → t ∈ opTmps o → Ord ops i j

theorem drawOk_facts {ops : Array Oper} (h : drawOk ops (closure ops ops.size) = true) : DrawFacts ops := by
  unfold drawOk at h
  simp only [Bool.and_eq_true] at h
  obtain ⟨h1, h2⟩ := h
  rw [List.all_eq_true] at h1 h2
  have f1 : ∀ (j : Nat) (o : Oper), ops[j]? = some o → (∀ e ∈ o.after, e.on < j ∨ ∃ w, e.ground = .gcOnly w) ∧ (∀ i b, o.guard = some (i, b) → Wt ops i j) ∧ j ∈ Region.linearise .gc ops 0 := by
    intro j o ho
    obtain ⟨hlt, _⟩ := Array.getElem?_eq_some_iff.1 ho
    have := h1 j (by simpa using hlt)
    simp only [ho, Bool.and_eq_true, List.all_eq_true, Bool.or_eq_true, decide_eq_true_eq] at this
    obtain ⟨⟨a1, a2⟩, a3⟩ := this
    refine ⟨fun e he => ?_, fun i b hg => ?_, by simpa using a3⟩
    · rcases a1 e (by simpa using he) with hlt | hgc
      · exact .inl hlt
      · split at hgc
        · rename_i w hw; exact .inr ⟨w, hw⟩
        · cases hgc
    · rw [hg] at a2
      simp only at a2
      unfold Wt; simpa using a2
  have f2 : ∀ (i j : Nat) (t : Tmp), i < ops.size → j < ops.size → i ≠ j → dstOf ops i = some t → dstOf ops j ≠ some t ∧ ∀ o, ops[j]? = some o → t ∈ opTmps o → Ord ops i j := by
    intro i j t hi hj hne ht
    have := h2 i (by simpa using hi)
    rw [ht] at this
    simp only at this
    rw [List.all_eq_true] at this
    have := this j (by simpa using hj)
    simp only [Bool.or_eq_true, beq_iff_eq, Bool.and_eq_true, bne_iff_ne, ne_eq] at this
    rcases this with e | ⟨h3, h4⟩
    · exact (hne e).elim
    · refine ⟨h3, fun o ho hto => ?_⟩
      simp only [ho, Bool.or_eq_true, Bool.not_eq_true'] at h4
      rcases h4 with h4 | h4
      · rw [List.contains_eq_mem] at h4
        simp only [decide_eq_false_iff_not] at h4
        exact (h4 hto).elim
      · exact ordered_iff hne h4
  refine ⟨fun j hj k hk => ?_, fun j o ho => (f1 j o ho).1, fun j o ho => (f1 j o ho).2.1, fun j hj => ?_, fun i j t hi hj hne ht => (f2 i j t hi hj hne ht).1, fun i j t o hi hne ht ho hto => ?_⟩
  · unfold preds at hk
    have ho : ops[j]? = some ops[j] := Array.getElem?_eq_getElem hj
    simp only [ho, Option.map_some, Option.getD_some, List.mem_map, List.mem_filter] at hk
    obtain ⟨e, ⟨he, hb⟩, rfl⟩ := hk
    rcases (f1 j _ ho).1 e (by simpa using he) with hlt | ⟨w, hw⟩
    · exact hlt
    · unfold Region.binds at hb
      rw [hw] at hb
      cases hb
  · exact (f1 j _ (Array.getElem?_eq_getElem hj)).2.2
  · obtain ⟨hlt, _⟩ := Array.getElem?_eq_some_iff.1 ho
    exact (f2 i j t hi hlt hne ht).2 o ho hto

section
variable {g : Cfg} {hd : Handler} {c : Ctx} {ops : Array Oper} {T : Trace} {m : Nat}

theorem step_grow_at (HG : HGrow hd) (hT : T.Ok g hd c ops m) {j : Nat} (hj : j < m) : Grow (T.ctx c ops j) (T.s j) (T.s (j + 1)) := by
  obtain ⟨sA, sB, hst, _, _, ⟨_, rfl, rfl⟩ | ⟨_, _, e⟩⟩ := hT.step j hj
  · exact step_grow HG hst
  · rw [e]; exact Grow.refl _ _

theorem silent_N (hT : T.Ok g hd c ops m) {j : Nat} (hj : j < m) (hs : silent ops j = true) : T.s (j + 1) = T.s j := by
  obtain ⟨sA, sB, hst, _, _, ⟨h, _⟩ | ⟨_, _, e⟩⟩ := hT.step j hj
  · rw [hs] at h; cases h
  · exact e

theorem mayWrite_wt {i j : Nat} (h : mayWrite ops (closure ops ops.size) ops.size i j = true) : Wt ops i j ∧ ∀ k, k < ops.size → k ≠ j → silent ops k = false → Wt ops i k → Ord ops k j := by
  unfold mayWrite at h
  simp only [Bool.and_eq_true, List.all_eq_true] at h
  refine ⟨by unfold Wt; simpa using h.1, fun k hk hne hsil hw => ?_⟩
  have := h.2 k (by simpa using hk)
  simp only [Bool.or_eq_true, beq_iff_eq, Bool.not_eq_true', hsil, Bool.false_eq_true, or_false] at this
  rcases this with (e | h) | h
  · exact (hne e).elim
  · rw [List.contains_eq_mem] at h
    simp only [decide_eq_false_iff_not] at h
    exact (h hw).elim
  · exact ordered_iff hne h

theorem feet_zip {j : Nat} {x : Foot × Nat} : x ∈ (T.feet ops j).zipIdx ↔ x.2 < j ∧ x.1 = ⟨T.N x.2, T.N (x.2 + 1), T.acc ops x.2, T.wrl ops x.2⟩ := by
  obtain ⟨y, i⟩ := x
  rw [List.mk_mem_zipIdx_iff_getElem?]
  simp only [Trace.feet, List.getElem?_map]
  constructor
  · intro h
    obtain ⟨k, hk, e⟩ := Option.map_eq_some_iff.1 h
    obtain ⟨hlt, rfl⟩ := List.getElem?_eq_some_iff.1 hk
    simp at hlt e ⊢
    exact ⟨hlt, e.symm⟩
  · rintro ⟨hlt, rfl⟩
    simp [hlt]

/-- An operation sees what it waits for, and what was there. -/
theorem vis_ctx (D : DrawFacts ops) (hT : T.Ok g hd c ops m) {j : Nat} (hjm : j < m) {id : Nat} : (T.ctx c ops j).vis id = true ↔ c.vis id = true ∧ ∀ k, k < j → ¬ Wt ops k j → ¬ (T.N k ≤ id ∧ id < T.N (k + 1)) := by
  have hj : j < ops.size := Nat.lt_of_lt_of_le hjm hT.hm
  unfold Trace.ctx drawCtx
  split
  · rename_i ha
    refine ⟨fun h => ⟨h, fun k hk hn hr => ?_⟩, fun h => h.1⟩
    cases hsil : silent ops k with
    | true =>
      have := silent_N hT (j := k) (by omega) hsil
      unfold Trace.N at hr
      rw [this] at hr; omega
    | false =>
      rcases allOrdered_iff ha (i := k) (by omega) (by omega) hsil with ⟨_, h⟩ | ⟨h, _⟩
      · exact (hn h).elim
      · omega
  · rw [vis_hide, Bool.and_eq_true]
    constructor
    · rintro ⟨h1, h2⟩
      refine ⟨h2, fun k hk hn hr => ?_⟩
      simp only [Ctx.vis, List.all_eq_true] at h1
      have := h1 (T.N k, T.N (k + 1)) (by
        rw [List.mem_map]
        refine ⟨(⟨T.N k, T.N (k + 1), T.acc ops k, T.wrl ops k⟩, k), ?_, rfl⟩
        rw [List.mem_filter]
        refine ⟨feet_zip.2 ⟨hk, rfl⟩, ?_⟩
        simp only [Bool.and_eq_true, Bool.not_eq_true', decide_eq_true_eq]
        exact ⟨by rw [List.contains_eq_mem]; simp only [decide_eq_false_iff_not]; exact hn, by omega⟩)
      simp only [Bool.or_eq_true, decide_eq_true_eq] at this
      omega
    · rintro ⟨h1, h2⟩
      refine ⟨?_, h1⟩
      simp only [Ctx.vis, List.all_eq_true]
      intro r hr
      rw [List.mem_map] at hr
      obtain ⟨x, hx, rfl⟩ := hr
      rw [List.mem_filter] at hx
      obtain ⟨hz, hc⟩ := hx
      obtain ⟨hlt, hxe⟩ := feet_zip.1 hz
      simp only [Bool.and_eq_true, Bool.not_eq_true', decide_eq_true_eq] at hc
      have hn : ¬ Wt ops x.2 j := by
        have := hc.1
        rw [List.contains_eq_mem] at this
        simp only [decide_eq_false_iff_not] at this
        exact this
      have := h2 x.2 hlt hn
      rw [hxe]
      simp only [Bool.or_eq_true, decide_eq_true_eq]
      omega

theorem wr_ctx {j : Nat} {id : Nat} (h : (T.ctx c ops j).wr id = true) : allOrdered ops (closure ops ops.size) ops.size j = true ∨ T.N j ≤ id ∨ ∃ k, k < j ∧ mayWrite ops (closure ops ops.size) ops.size k j = true ∧ T.N k ≤ id ∧ id < T.N (k + 1) := by
  unfold Trace.ctx drawCtx at h
  split at h
  · rename_i ha; exact .inl ha
  · refine .inr ?_
    simp only [Ctx.wr, Bool.or_eq_true, decide_eq_true_eq, List.any_eq_true] at h
    rcases h with h | ⟨r, hr, h⟩
    · exact .inl h
    · refine .inr ?_
      rw [List.mem_map] at hr
      obtain ⟨x, hx, rfl⟩ := hr
      rw [List.mem_filter] at hx
      obtain ⟨hlt, hxe⟩ := feet_zip.1 hx.1
      rw [hxe] at h
      simp only [Bool.and_eq_true, decide_eq_true_eq] at h
      exact ⟨x.2, hlt, hx.2, h⟩

/-- The writers of an object. -/
def WrO (c : Ctx) (ops : Array Oper) (T : Trace) (id j : Nat) : Prop := silent ops j = false ∧ (((T.ctx c ops j).wr id = true ∧ (T.ctx c ops j).vis id = true ∧ id < T.N (j + 1)) ∨ (T.N j ≤ id ∧ id < T.N (j + 1)))

theorem N_mono (HG : HGrow hd) (hT : T.Ok g hd c ops m) : ∀ d j, j + d ≤ m → T.N j ≤ T.N (j + d) := by
  intro d
  induction d with
  | zero => intro j _; exact Nat.le_refl _
  | succ d ih =>
    intro j h
    exact Nat.le_trans (ih j (by omega)) (step_grow_at HG hT (j := j + d) (by omega)).next
theorem N_le (HG : HGrow hd) (hT : T.Ok g hd c ops m) {i j : Nat} (h : i ≤ j) (hj : j ≤ m) : T.N i ≤ T.N j := by
  have := N_mono HG hT (j - i) i (by omega)
  rwa [Nat.add_sub_cancel' h] at this

theorem ranges_apart (HG : HGrow hd) (hT : T.Ok g hd c ops m) {i j id : Nat} (hi : i < m) (hj : j < m) (h1 : T.N i ≤ id ∧ id < T.N (i + 1)) (h2 : T.N j ≤ id ∧ id < T.N (j + 1)) : i = j := by
  rcases Nat.lt_trichotomy i j with h | h | h
  · have := N_le HG hT (i := i + 1) (j := j) h (by omega); omega
  · exact h
  · have := N_le HG hT (i := j + 1) (j := i) h (by omega); omega

/-- Whoever writes what another one may come to waits for him, or he for him. -/
theorem acc_ord (D : DrawFacts ops) (HG : HGrow hd) (hT : T.Ok g hd c ops m) {j k id : Nat} (hj : j < m) (hsj : silent ops j = false) (hk : k < m) (hne : k ≠ j) (hlt : id < T.N j) (hv : (T.ctx c ops j).vis id = true) (hw : WrO c ops T id k) : Ord ops j k := by
  have hjs : j < ops.size := Nat.lt_of_lt_of_le hj hT.hm
  have hks : k < ops.size := Nat.lt_of_lt_of_le hk hT.hm
  have hvis := ((vis_ctx D hT hj).1 hv).2
  by_cases haj : allOrdered ops (closure ops ops.size) ops.size j = true
  · exact (allOrdered_iff haj hks hne hw.1).symm
  have own : ∀ p, p < m → T.N p ≤ id ∧ id < T.N (p + 1) → Wt ops p j := fun p hp hr => by
    by_cases hpj : p < j
    · exact Classical.byContradiction fun hn => hvis p hpj hn hr
    · have := N_le HG hT (i := j) (j := p) (by omega) (by omega); omega
  have main : allOrdered ops (closure ops ops.size) ops.size k = true ∨ (T.N k ≤ id ∧ id < T.N (k + 1)) ∨ ∃ p, p < k ∧ mayWrite ops (closure ops ops.size) ops.size p k = true ∧ T.N p ≤ id ∧ id < T.N (p + 1) := by
    rcases hw.2 with ⟨h1, h2, h3⟩ | h
    · rcases wr_ctx h1 with h | h | h
      · exact .inl h
      · exact .inr (.inl ⟨h, h3⟩)
      · exact .inr (.inr h)
    · exact .inr (.inl h)
  rcases main with h | h | ⟨p, hp, hmw, hr⟩
  · exact allOrdered_iff h hjs (fun e => hne e.symm) hsj
  · have hw := own k hk h
    exact .inr ⟨wt_lt D.back j hjs k hw, hw⟩
  · have hw := own p (by omega) hr
    exact (mayWrite_wt hmw).2 j hjs (fun e => hne e.symm) hsj hw

theorem wr_ord (D : DrawFacts ops) (HG : HGrow hd) (hT : T.Ok g hd c ops m) {j k id : Nat} (hj : j < m) (hk : k < m) (hne : k ≠ j) (hwj : WrO c ops T id j) (hw : WrO c ops T id k) : Ord ops j k := by
  have hjs : j < ops.size := Nat.lt_of_lt_of_le hj hT.hm
  have hks : k < ops.size := Nat.lt_of_lt_of_le hk hT.hm
  have main : ∀ k, WrO c ops T id k → allOrdered ops (closure ops ops.size) ops.size k = true ∨ (T.N k ≤ id ∧ id < T.N (k + 1)) ∨ ∃ p, p < k ∧ mayWrite ops (closure ops ops.size) ops.size p k = true ∧ T.N p ≤ id ∧ id < T.N (p + 1) := by
    rintro k ⟨_, ⟨h1, h2, h3⟩ | h⟩
    · rcases wr_ctx h1 with h | h | h
      · exact .inl h
      · exact .inr (.inl ⟨h, h3⟩)
      · exact .inr (.inr h)
    · exact .inr (.inl h)
  rcases main j hwj with h1 | h1 | ⟨p, hp, hmp, hr⟩
  · exact (allOrdered_iff h1 hks hne hw.1).symm
  · rcases main k hw with h2 | h2 | ⟨q, hq, hmq, hr2⟩
    · exact allOrdered_iff h2 hjs (fun e => hne e.symm) hwj.1
    · exact (hne (ranges_apart HG hT hk hj h2 h1)).elim
    · have : q = j := ranges_apart HG hT (by omega) hj hr2 h1
      subst this
      exact .inl ⟨hq, (mayWrite_wt hmq).1⟩
  · rcases main k hw with h2 | h2 | ⟨q, hq, hmq, hr2⟩
    · exact allOrdered_iff h2 hjs (fun e => hne e.symm) hwj.1
    · have : p = k := ranges_apart HG hT (by omega) hk hr h2
      subst this
      exact .inr ⟨hp, (mayWrite_wt hmp).1⟩
    · have : p = q := ranges_apart HG hT (by omega) (by omega) hr hr2
      subst this
      exact (mayWrite_wt hmq).2 j hjs (fun e => hne e.symm) hwj.1 (mayWrite_wt hmp).1

/-- What is not written is as it was. -/
theorem obj_keep (HG : HGrow hd) (hT : T.Ok g hd c ops m) (hdom : ∀ j, j ≤ m → ∀ id o, (T.s j).heap.get id = some o → id < T.N j) {j id : Nat} (hj : j < m) (hw : ¬ WrO c ops T id j) : (T.s (j + 1)).heap.get id = (T.s j).heap.get id := by
  cases hsil : silent ops j with
  | true => rw [silent_N hT hj hsil]
  | false =>
  have hg := step_grow_at HG hT hj
  by_cases h1 : id < T.N j
  · have h2 : id < T.N (j + 1) := Nat.lt_of_lt_of_le h1 hg.next
    by_cases h3 : (T.ctx c ops j).wr id = true
    · by_cases h4 : (T.ctx c ops j).vis id = true
      · exact (hw ⟨hsil, .inl ⟨h3, h4, h2⟩⟩).elim
      · exact hg.hid id (by simpa using h4) h1
    · exact hg.low id (by simpa using h3) h1
  · have h2 : ¬ id < T.N (j + 1) := fun h => hw ⟨hsil, .inr ⟨by omega, h⟩⟩
    have e1 : (T.s j).heap.get id = none := by
      cases h : (T.s j).heap.get id with
      | none => rfl
      | some o => exact (h1 (hdom j (by omega) id o h)).elim
    have e2 : (T.s (j + 1)).heap.get id = none := by
      cases h : (T.s (j + 1)).heap.get id with
      | none => rfl
      | some o => exact (h2 (hdom (j + 1) hj id o h)).elim
    rw [e1, e2]

/-- Places that are known to a set of operations. -/
def InD (c : Ctx) (T : Trace) (m : Nat) (p : Nat → Prop) (id : Nat) : Prop := id < T.N m ∧ c.vis id = true ∧ ∀ k, k < m → ¬ p k → ¬ (T.N k ≤ id ∧ id < T.N (k + 1))

open Classical in
noncomputable def ctxD (c : Ctx) (T : Trace) (m : Nat) (p : Nat → Prop) : Ctx :=
  { floor := 0, own := [], hide := (((List.range m).filter fun k => decide (¬ p k)).map fun k => (T.N k, T.N (k + 1))) ++ c.hide }

theorem in_ctxD {p : Nat → Prop} {id : Nat} : In (ctxD c T m p) (T.N m) id ↔ InD c T m p id := by
  unfold In InD ctxD
  rw [vis_hide, Bool.and_eq_true]
  refine and_congr_right fun _ => ⟨fun ⟨h1, h2⟩ => ⟨h2, fun k hk hn hr => ?_⟩, fun ⟨h1, h2⟩ => ⟨?_, h1⟩⟩
  · simp only [Ctx.vis, List.all_eq_true] at h1
    have := h1 (T.N k, T.N (k + 1)) (by
      rw [List.mem_map]
      exact ⟨k, by rw [List.mem_filter]; exact ⟨by simpa using hk, by simpa using hn⟩, rfl⟩)
    simp only [Bool.or_eq_true, decide_eq_true_eq] at this
    omega
  · simp only [Ctx.vis, List.all_eq_true]
    intro r hr
    rw [List.mem_map] at hr
    obtain ⟨k, hk, rfl⟩ := hr
    rw [List.mem_filter] at hk
    have := h2 k (by simpa using hk.1) (by simpa using hk.2)
    simp only [Bool.or_eq_true, decide_eq_true_eq]
    omega

theorem InD.sub {p q : Nat → Prop} {id : Nat} (hpq : ∀ k, p k → q k) (h : InD c T m p id) : InD c T m q id := ⟨h.1, h.2.1, fun k hk hn => h.2.2 k hk fun hp => hn (hpq k hp)⟩

theorem cover : ∀ d j id, T.N j ≤ id → id < T.N (j + d) → ∃ k, j ≤ k ∧ k < j + d ∧ T.N k ≤ id ∧ id < T.N (k + 1) := by
  intro d
  induction d with
  | zero => intro j id h1 h2; rw [Nat.add_zero] at h2; omega
  | succ d ih =>
    intro j id h1 h2
    by_cases h : id < T.N (j + d)
    · obtain ⟨k, a, b, e⟩ := ih j id h1 h
      exact ⟨k, a, by omega, e⟩
    · exact ⟨j + d, by omega, by omega, by omega, h2⟩

theorem in_pre (D : DrawFacts ops) (HG : HGrow hd) (hT : T.Ok g hd c ops m) {j id : Nat} (hj : j < m) : In (T.ctx c ops j) (T.N j) id ↔ InD c T m (fun k => Wt ops k j) id := by
  have hjs : j < ops.size := Nat.lt_of_lt_of_le hj hT.hm
  unfold In InD
  rw [vis_ctx D hT hj]
  constructor
  · rintro ⟨h1, h2, h3⟩
    refine ⟨Nat.lt_of_lt_of_le h1 (N_le HG hT (by omega) (Nat.le_refl _)), h2, fun k hk hn hr => ?_⟩
    by_cases hkj : k < j
    · exact h3 k hkj hn hr
    · have := N_le HG hT (i := j) (j := k) (by omega) (by omega); omega
  · rintro ⟨h1, h2, h3⟩
    refine ⟨?_, h2, fun k hk hn => h3 k (by omega) hn⟩
    by_cases h : id < T.N j
    · exact h
    · obtain ⟨k, a, b, e⟩ := cover (T := T) (m - j) j id (by omega) (by rw [Nat.add_sub_cancel' (by omega)]; exact h1)
      refine (h3 k (by omega) (fun hw => ?_) e).elim
      have := wt_lt D.back j hjs k hw; omega

theorem in_post (D : DrawFacts ops) (HG : HGrow hd) (hT : T.Ok g hd c ops m) {j id : Nat} (hj : j < m) : In (T.ctx c ops j) (T.N (j + 1)) id ↔ InD c T m (fun k => k = j ∨ Wt ops k j) id := by
  have hjs : j < ops.size := Nat.lt_of_lt_of_le hj hT.hm
  unfold In InD
  rw [vis_ctx D hT hj]
  constructor
  · rintro ⟨h1, h2, h3⟩
    refine ⟨Nat.lt_of_lt_of_le h1 (N_le HG hT (by omega) (Nat.le_refl _)), h2, fun k hk hn hr => ?_⟩
    by_cases hkj : k < j
    · exact h3 k hkj (fun h => hn (.inr h)) hr
    · have : k ≠ j := fun h => hn (.inl h)
      have := N_le HG hT (i := j + 1) (j := k) (by omega) (by omega); omega
  · rintro ⟨h1, h2, h3⟩
    refine ⟨?_, h2, fun k hk hn => h3 k (by omega) (fun h => h.elim (by omega) hn)⟩
    by_cases h : id < T.N (j + 1)
    · exact h
    · obtain ⟨k, a, b, e⟩ := cover (T := T) (m - (j + 1)) (j + 1) id (by omega) (by rw [Nat.add_sub_cancel' (by omega)]; exact h1)
      refine (h3 k (by omega) (fun hw => ?_) e).elim
      rcases hw with hw | hw
      · omega
      · have := wt_lt D.back j hjs k hw; omega

end
end Go.Am
