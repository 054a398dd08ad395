/- Regions that draw their order: the run in the text's order, laid open. -/
import Derived.Test.YtgcffmkifjnmlaaAmHist
namespace Go.Am

section
variable (g : Cfg) (hd : Handler) (c : Ctx) (ops : Array Oper) (fr0 : Fr) (s0 : St)

noncomputable def feetOk (j : Nat) (fr : Fr) (seen : List Foot) (o : Oper) : Bool :=
  seen.zipIdx.all fun x => ((closure ops ops.size).getD j []).contains x.2 || (x.1.acc.all (fun d => !(footOf ops fr o).2.contains d) && x.1.wrl.all (fun d => !(footOf ops fr o).1.contains d))

noncomputable def drawAt : Nat → Option (Fr × St × List Foot)
  | 0 => some (fr0, s0, [])
  | j + 1 => (drawAt j).bind fun x => (ops[j]?).bind fun o => (chk (feetOk ops j x.1 x.2.2 o)).bind fun _ =>
      if silentOp o.op then
        (step g hd (drawCtx c ops (closure ops ops.size) ops.size j x.2.1.next x.2.2) (x.1.only ops o (footOf ops x.1 o).1) { heap := .nil, next := x.2.1.next } ops o).bind fun r =>
        (chk (r.2.2.next == x.2.1.next)).bind fun _ =>
        match r.1 with
        | .normal => some (x.1.with' r.2.1 o (footOf ops x.1 o).2, x.2.1, x.2.2 ++ [⟨x.2.1.next, x.2.1.next, (footOf ops x.1 o).1, (footOf ops x.1 o).2⟩])
        | _ => none
      else
      (step g hd (drawCtx c ops (closure ops ops.size) ops.size j x.2.1.next x.2.2) (x.1.only ops o (footOf ops x.1 o).1) x.2.1 ops o).bind fun r =>
      match r.1 with
      | .normal => some (x.1.with' r.2.1 o (footOf ops x.1 o).2, r.2.2, x.2.2 ++ [⟨x.2.1.next, r.2.2.next, (footOf ops x.1 o).1, (footOf ops x.1 o).2⟩])
      | _ => none

variable {g hd c ops fr0 s0}

theorem drawAt_succ {j : Nat} {y : Fr × St × List Foot} (h : drawAt g hd c ops fr0 s0 (j + 1) = some y) :
    ∃ x o fr1 sA sB s1, drawAt g hd c ops fr0 s0 j = some x ∧ ops[j]? = some o ∧ feetOk ops j x.1 x.2.2 o = true ∧
      step g hd (drawCtx c ops (closure ops ops.size) ops.size j x.2.1.next x.2.2) (x.1.only ops o (footOf ops x.1 o).1) sA ops o = some (.normal, fr1, sB) ∧
      sA.next = x.2.1.next ∧ sB.next = s1.next ∧ ((silentOp o.op = false ∧ sA = x.2.1 ∧ sB = s1) ∨ (silentOp o.op = true ∧ sA.heap = .nil ∧ s1 = x.2.1)) ∧
      y = (x.1.with' fr1 o (footOf ops x.1 o).2, s1, x.2.2 ++ [⟨x.2.1.next, s1.next, (footOf ops x.1 o).1, (footOf ops x.1 o).2⟩]) := by
  simp only [drawAt] at h
  obtain ⟨x, hx, h⟩ := bind_some h
  obtain ⟨o, ho, h⟩ := bind_some h
  obtain ⟨_, hf, h⟩ := bind_some h
  rw [chk_some] at hf
  split at h
  · rename_i hsil
    obtain ⟨⟨ex, fr1, s1⟩, hs, h⟩ := bind_some h
    obtain ⟨_, hn, h⟩ := bind_some h
    rw [chk_some, beq_iff_eq] at hn
    split at h
    · rename_i e
      simp only at e; subst e
      simp only [Option.some.injEq] at h
      exact ⟨x, o, fr1, _, s1, x.2.1, hx, ho, hf, hs, rfl, hn, .inr ⟨hsil, rfl, rfl⟩, h.symm⟩
    · cases h
  · rename_i hsil
    obtain ⟨⟨ex, fr1, s1⟩, hs, h⟩ := bind_some h
    split at h
    · rename_i e
      simp only at e; subst e
      simp only [Option.some.injEq] at h
      exact ⟨x, o, fr1, _, s1, s1, hx, ho, hf, hs, rfl, rfl, .inl ⟨by simpa using hsil, rfl, rfl⟩, h.symm⟩
    · cases h

theorem stepsDraw_at : ∀ (l : List Oper) (j : Nat) (x : Fr × St × List Foot) (r : Ex × Fr × St), ops.toList.drop j = l → j ≤ ops.size → drawAt g hd c ops fr0 s0 j = some x → stepsDraw g hd c ops (closure ops ops.size) j x.2.2 l x.1 x.2.1 = some r →
    (∃ y, r.1 = .normal ∧ drawAt g hd c ops fr0 s0 ops.size = some y ∧ r.2.1 = y.1 ∧ r.2.2 = y.2.1) ∨
    (∃ v m y o, r.1 = .pan v ∧ m < ops.size ∧ drawAt g hd c ops fr0 s0 m = some y ∧ ops[m]? = some o ∧ (fullOrdered (closure ops ops.size) ops.size m && allOrdered ops (closure ops ops.size) ops.size m) = true ∧
      step g hd (drawCtx c ops (closure ops ops.size) ops.size m y.2.1.next y.2.2) (y.1.only ops o (footOf ops y.1 o).1) y.2.1 ops o = some r) := by
  intro l
  induction l with
  | nil =>
    intro j x r hl hj hx h
    simp only [stepsDraw, Option.some.injEq] at h
    subst h
    have : j = ops.size := by
      have := congrArg List.length hl
      simp at this; omega
    subst this
    exact .inl ⟨x, rfl, hx, rfl, rfl⟩
  | cons o rest ih =>
    intro j x r hl hj hx h
    have hlt : j < ops.size := by
      have := congrArg List.length hl
      simp at this; omega
    have ho : ops[j]? = some o := by
      have : (ops.toList.drop j)[0]? = some o := by rw [hl]; rfl
      rw [List.getElem?_drop, Nat.add_zero] at this
      simpa using this
    have hl' : ops.toList.drop (j + 1) = rest := by
      have := congrArg (List.drop 1) hl
      rw [List.drop_drop] at this
      simpa [Nat.add_comm] using this
    rw [stepsDraw_eq] at h
    obtain ⟨_, hf, h⟩ := bind_some h
    have hf' : feetOk ops j x.1 x.2.2 o = true := chk_some.1 hf
    split at h
    · rename_i hsil
      obtain ⟨⟨ex, fr1, s1⟩, hst, h⟩ := bind_some h
      obtain ⟨_, hn, h⟩ := bind_some h
      have hn' := chk_some.1 hn
      split at h
      · rename_i e
        simp only at e; subst e
        refine ih (j + 1) (x.1.with' fr1 o (footOf ops x.1 o).2, x.2.1, x.2.2 ++ [⟨x.2.1.next, x.2.1.next, (footOf ops x.1 o).1, (footOf ops x.1 o).2⟩]) r hl' hlt ?_ h
        simp only [drawAt, hx, Option.bind_some, ho, hf', chk, if_true, hst, hsil]
        simp only at hn'
        rw [if_pos hn']
        rfl
      · cases h
    · rename_i hsil
      obtain ⟨⟨ex, fr1, s1⟩, hst, h⟩ := bind_some h
      split at h
      · rename_i e
        simp only at e; subst e
        refine ih (j + 1) (x.1.with' fr1 o (footOf ops x.1 o).2, s1, x.2.2 ++ [⟨x.2.1.next, s1.next, (footOf ops x.1 o).1, (footOf ops x.1 o).2⟩]) r hl' hlt ?_ h
        simp only [drawAt, hx, Option.bind_some, ho, hf', chk, if_true, hst, hsil, if_false]
        rfl
      · rename_i v e
        simp only at e; subst e
        obtain ⟨_, ha, h⟩ := bind_some h
        cases h
        exact .inr ⟨v, j, x, o, rfl, hlt, hx, ho, chk_some.1 ha, hst⟩
      · cases h

theorem drawAt_le : ∀ (d j : Nat) (y : Fr × St × List Foot), drawAt g hd c ops fr0 s0 (j + d) = some y → ∃ x, drawAt g hd c ops fr0 s0 j = some x := by
  intro d
  induction d with
  | zero => intro j y h; exact ⟨y, h⟩
  | succ d ih =>
    intro j y h
    obtain ⟨x, o, fr1, _, _, s1, hx, _⟩ := drawAt_succ (j := j + d) h
    exact ih j x hx
end

structure Trace where
  fr : Nat → Fr
  s : Nat → St
  fr1 : Nat → Fr
  o : Nat → Oper

section
variable (g : Cfg) (hd : Handler) (c : Ctx) (ops : Array Oper) (T : Trace)

noncomputable def Trace.acc (j : Nat) : List Nat := (footOf ops (T.fr j) (T.o j)).1
noncomputable def Trace.wrl (j : Nat) : List Nat := (footOf ops (T.fr j) (T.o j)).2
def Trace.N (j : Nat) : Nat := (T.s j).next
noncomputable def Trace.feet (j : Nat) : List Foot := (List.range j).map fun k => ⟨T.N k, T.N (k + 1), T.acc ops k, T.wrl ops k⟩
noncomputable def Trace.ctx (j : Nat) : Ctx := drawCtx c ops (closure ops ops.size) ops.size j (T.N j) (T.feet ops j)

structure Trace.Ok (m : Nat) : Prop where
  hm : m ≤ ops.size
  op : ∀ j, j < m → ops[j]? = some (T.o j)
  step : ∀ j, j < m → ∃ sA sB, step g hd (T.ctx c ops j) ((T.fr j).only ops (T.o j) (T.acc ops j)) sA ops (T.o j) = some (.normal, T.fr1 j, sB) ∧ sA.next = T.N j ∧ sB.next = T.N (j + 1) ∧
    ((silent ops j = false ∧ sA = T.s j ∧ sB = T.s (j + 1)) ∨ (silent ops j = true ∧ sA.heap = .nil ∧ T.s (j + 1) = T.s j))
  next : ∀ j, j < m → T.fr (j + 1) = (T.fr j).with' (T.fr1 j) (T.o j) (T.wrl ops j)
  feet : ∀ j, j < m → ∀ i, i < j → Wt ops i j ∨ ((∀ d, d ∈ T.acc ops i → d ∉ T.wrl ops j) ∧ (∀ d, d ∈ T.wrl ops i → d ∉ T.acc ops j))

theorem Trace.feet_succ (j : Nat) : T.feet ops (j + 1) = T.feet ops j ++ [⟨T.N j, T.N (j + 1), T.acc ops j, T.wrl ops j⟩] := by
  simp [Trace.feet, List.range_succ]

variable {g hd c ops}
theorem trace_of {fr0 : Fr} {s0 : St} {m : Nat} {y : Fr × St × List Foot} (hm : m ≤ ops.size) (h : drawAt g hd c ops fr0 s0 m = some y) :
    ∃ T : Trace, T.Ok g hd c ops m ∧ T.fr 0 = fr0 ∧ T.s 0 = s0 ∧ T.fr m = y.1 ∧ T.s m = y.2.1 ∧ T.feet ops m = y.2.2 := by
  let at' : Nat → Fr × St × List Foot := fun j => (drawAt g hd c ops fr0 s0 j).getD (fr0, s0, [])
  let o : Nat → Oper := fun j => (ops[j]?).getD default
  have hat : ∀ j, j ≤ m → drawAt g hd c ops fr0 s0 j = some (at' j) := fun j hj => by
    obtain ⟨x, hx⟩ := drawAt_le (m - j) j y (by rw [Nat.add_sub_cancel' hj]; exact h)
    simp only [at', hx, Option.getD_some]
  have hex : ∀ j, ∃ fr1, j < m → ops[j]? = some (o j) ∧ feetOk ops j (at' j).1 (at' j).2.2 (o j) = true ∧
      (∃ sA sB, step g hd (drawCtx c ops (closure ops ops.size) ops.size j (at' j).2.1.next (at' j).2.2) ((at' j).1.only ops (o j) (footOf ops (at' j).1 (o j)).1) sA ops (o j) = some (.normal, fr1, sB) ∧
        sA.next = (at' j).2.1.next ∧ sB.next = (at' (j + 1)).2.1.next ∧ ((silentOp (o j).op = false ∧ sA = (at' j).2.1 ∧ sB = (at' (j + 1)).2.1) ∨ (silentOp (o j).op = true ∧ sA.heap = .nil ∧ (at' (j + 1)).2.1 = (at' j).2.1))) ∧
      at' (j + 1) = ((at' j).1.with' fr1 (o j) (footOf ops (at' j).1 (o j)).2, (at' (j + 1)).2.1, (at' j).2.2 ++ [⟨(at' j).2.1.next, (at' (j + 1)).2.1.next, (footOf ops (at' j).1 (o j)).1, (footOf ops (at' j).1 (o j)).2⟩]) := fun j => by
    by_cases hj : j < m
    · obtain ⟨x, o', fr1, sA, sB, s1, hx, ho, hf, hst, n1, n2, hc, e⟩ := drawAt_succ (hat (j + 1) hj)
      rw [hat j (by omega)] at hx
      cases hx
      have e0 : o j = o' := by simp only [o, ho, Option.getD_some]
      have e2 : (at' (j + 1)).2.1 = s1 := by rw [e]
      refine ⟨fr1, fun _ => ?_⟩
      rw [e0, e2]
      exact ⟨ho, hf, ⟨sA, sB, hst, n1, n2, hc⟩, e⟩
    · exact ⟨fr0, fun h => (hj h).elim⟩
  have hch := Classical.axiomOfChoice hex
  obtain ⟨f1, hstep⟩ := hch
  let T : Trace := ⟨fun j => (at' j).1, fun j => (at' j).2.1, f1, o⟩
  have hfeet : ∀ j, j ≤ m → T.feet ops j = (at' j).2.2 := by
    intro j
    induction j with
    | zero => intro _; simp only [Trace.feet, List.range_zero, List.map_nil]; rfl
    | succ j ih =>
      intro hj
      rw [Trace.feet_succ, ih (by omega), (hstep j (by omega)).2.2.2]
      rfl
  have hm' := hat m (Nat.le_refl _)
  rw [h] at hm'
  simp only [Option.some.injEq] at hm'
  refine ⟨T, ⟨hm, fun j hj => (hstep j hj).1, fun j hj => ?_, fun j hj => ?_, fun j hj i hi => ?_⟩, rfl, rfl, by rw [hm'], by rw [hm'], by rw [hfeet m (Nat.le_refl _), hm']⟩
  · obtain ⟨sA, sB, hst, n1, n2, hc⟩ := (hstep j hj).2.2.1
    refine ⟨sA, sB, ?_, n1, n2, ?_⟩
    · unfold Trace.ctx
      rw [hfeet j (by omega)]
      exact hst
    · have : silent ops j = silentOp (o j).op := by unfold silent; rw [(hstep j hj).1]
      rw [this]
      exact hc
  · have := (hstep j hj).2.2.2
    show (at' (j + 1)).1 = _
    rw [this]; rfl
  · have := (hstep j hj).2.1
    unfold feetOk at this
    rw [← hfeet j (by omega), List.all_eq_true] at this
    have hmem : (Foot.mk (T.N i) (T.N (i + 1)) (T.acc ops i) (T.wrl ops i), i) ∈ (T.feet ops j).zipIdx := by
      rw [List.mk_mem_zipIdx_iff_getElem?]
      simp [Trace.feet, hi]
    have := this _ hmem
    simp only [Bool.or_eq_true, Bool.and_eq_true, List.all_eq_true, Bool.not_eq_true'] at this
    refine this.imp (fun h => by unfold Wt; simpa using h) fun h => ⟨fun d hd hw => ?_, fun d hd hw => ?_⟩
    · have := h.1 d hd
      rw [List.contains_eq_mem] at this
      simp only [decide_eq_false_iff_not] at this
      exact this hw
    · have := h.2 d hd
      rw [List.contains_eq_mem] at this
      simp only [decide_eq_false_iff_not] at this
      exact this hw
end
end Go.Am
