/- Regions that draw their order: what waits for what; the run in the text's order; what each operation may come to. -/
import Derived.Test.YtmpokdnpkjcnbaaDoorAmCall
namespace Go.Am
variable {Z : Zone}

/-! ### What waits for what -/
section waits
variable (ops : Array Oper)

theorem closure_length : ∀ j, (closure ops j).length = j := by
  intro j
  induction j with
  | zero => rfl
  | succ j ih => simp [closure, ih]

theorem closure_get : ∀ (n i : Nat), i < n → (closure ops n).getD i [] = ((preds ops i).flatMap fun k => k :: ((closure ops i).getD k [])).eraseDups := by
  intro n
  induction n with
  | zero => intro i h; omega
  | succ n ih =>
    intro i h
    show (closure ops n ++ [_]).getD i [] = _
    rw [List.getD_eq_getElem?_getD]
    by_cases e : i < n
    · rw [List.getElem?_append_left (by rw [closure_length]; exact e), ← List.getD_eq_getElem?_getD, ih i e]
    · have : i = n := by omega
      subst this
      rw [List.getElem?_append_right (by rw [closure_length]; exact Nat.le_refl _), closure_length]
      simp

theorem closure_stable (n i : Nat) (h : i < n) : (closure ops n).getD i [] = (closure ops (i + 1)).getD i [] := by
  rw [closure_get ops n i h, closure_get ops (i + 1) i (by omega)]

/-- i is waited for by j -/
def Wt (i j : Nat) : Prop := i ∈ (closure ops ops.size).getD j []

variable {ops}
theorem wt_iff {i j : Nat} (hj : j < ops.size) (hp : ∀ j, j < ops.size → ∀ k ∈ preds ops j, k < j) : Wt ops i j ↔ ∃ k ∈ preds ops j, i = k ∨ Wt ops i k := by
  unfold Wt
  rw [closure_get ops _ j hj]
  simp only [List.mem_eraseDups, List.mem_flatMap, List.mem_cons]
  constructor
  · rintro ⟨k, hk, h⟩
    refine ⟨k, hk, h.imp id fun h => ?_⟩
    have hlt := hp j hj k hk
    rw [closure_stable ops j k hlt] at h
    rw [closure_stable ops _ k (by omega)]; exact h
  · rintro ⟨k, hk, h⟩
    refine ⟨k, hk, h.imp id fun h => ?_⟩
    have hlt := hp j hj k hk
    rw [closure_stable ops j k hlt]
    rw [closure_stable ops _ k (by omega)] at h; exact h

theorem wt_lt (hp : ∀ j, j < ops.size → ∀ k ∈ preds ops j, k < j) : ∀ j, j < ops.size → ∀ i, Wt ops i j → i < j := by
  intro j
  induction j using Nat.strongRecOn with
  | _ j ih =>
    intro hj i h
    obtain ⟨k, hk, h⟩ := (wt_iff hj hp).1 h
    have hlt := hp j hj k hk
    rcases h with rfl | h
    · exact hlt
    · have := ih k hlt (by omega) i h; omega

theorem wt_trans (hp : ∀ j, j < ops.size → ∀ k ∈ preds ops j, k < j) : ∀ j, j < ops.size → ∀ i k, Wt ops i j → Wt ops k i → Wt ops k j := by
  intro j
  induction j using Nat.strongRecOn with
  | _ j ih =>
    intro hj i k h1 h2
    obtain ⟨p, hpj, h⟩ := (wt_iff hj hp).1 h1
    have hlt := hp j hj p hpj
    rcases h with rfl | h
    · exact (wt_iff hj hp).2 ⟨i, hpj, .inr h2⟩
    · exact (wt_iff hj hp).2 ⟨p, hpj, .inr (ih p hlt (by omega) i k h h2)⟩

def Ord (ops : Array Oper) (i j : Nat) : Prop := (i < j ∧ Wt ops i j) ∨ (j < i ∧ Wt ops j i)
theorem Ord.symm {i j : Nat} (h : Ord ops i j) : Ord ops j i := Or.symm h

theorem ordered_iff {i j : Nat} (hne : i ≠ j) : ordered (closure ops ops.size) i j = true → Ord ops i j := by
  unfold ordered Ord Wt
  intro h
  split at h
  · rename_i hlt; exact .inl ⟨hlt, by simpa using h⟩
  · rename_i hlt; exact .inr ⟨by omega, by simpa using h⟩

theorem allOrdered_iff {j : Nat} (h : allOrdered ops (closure ops ops.size) ops.size j = true) {i : Nat} (hi : i < ops.size) (hne : i ≠ j) (hs : silent ops i = false) : Ord ops i j := by
  unfold allOrdered at h
  rw [List.all_eq_true] at h
  have := h i (by simpa using hi)
  simp only [Bool.or_eq_true, beq_iff_eq, hs, Bool.false_eq_true, or_false] at this
  rcases this with e | h
  · exact (hne e).elim
  · refine ordered_iff hne ?_
    unfold ordered; exact h

theorem fullOrdered_iff {j : Nat} (h : fullOrdered (closure ops ops.size) ops.size j = true) {i : Nat} (hi : i < ops.size) (hne : i ≠ j) : Ord ops i j := by
  unfold fullOrdered at h
  rw [List.all_eq_true] at h
  have := h i (by simpa using hi)
  simp only [Bool.or_eq_true, beq_iff_eq] at this
  rcases this with e | h
  · exact (hne e).elim
  · refine ordered_iff hne ?_
    unfold ordered; exact h

end waits

/-! ### Writers of one thing, and how far its story has come -/
section hist
variable {ops : Array Oper} {m : Nat}

def Cut (m : Nat) (W S : Nat → Prop) (j : Nat) : Prop := ∀ k, k < m → W k → (S k ↔ k < j)
def Closed (ops : Array Oper) (S : Nat → Prop) : Prop := ∀ j, S j → ∀ i, Wt ops i j → S i

open Classical in
/-- what the last writer knew -/
noncomputable def lastD (ops : Array Oper) (W : Nat → Prop) : Nat → Nat → Prop
  | 0 => fun _ => False
  | j + 1 => if W j then fun k => k = j ∨ Wt ops k j else lastD ops W j

theorem lastD_hit {W : Nat → Prop} {j : Nat} (h : W j) : lastD ops W (j + 1) = fun k => k = j ∨ Wt ops k j := by simp [lastD, h]
theorem lastD_skip {W : Nat → Prop} {j : Nat} (h : ¬ W j) : lastD ops W (j + 1) = lastD ops W j := by simp [lastD, h]

theorem lastD_same {W : Nat → Prop} : ∀ (d j : Nat), (∀ k, j ≤ k → k < j + d → ¬ W k) → lastD ops W (j + d) = lastD ops W j := by
  intro d
  induction d with
  | zero => intro j _; rfl
  | succ d ih =>
    intro j h
    rw [← Nat.add_assoc, lastD_skip (h (j + d) (by omega) (by omega))]
    exact ih j fun k h1 h2 => h k h1 (by omega)

theorem val_same {α : Type} {W : Nat → Prop} {val : Nat → α} {m : Nat} (hv : ∀ k, k < m → ¬ W k → val (k + 1) = val k) : ∀ (d j : Nat), j + d ≤ m → (∀ k, j ≤ k → k < j + d → ¬ W k) → val (j + d) = val j := by
  intro d
  induction d with
  | zero => intro j _ _; rfl
  | succ d ih =>
    intro j hm h
    rw [← Nat.add_assoc, hv (j + d) (by omega) (h (j + d) (by omega) (by omega))]
    exact ih j (by omega) fun k h1 h2 => h k h1 (by omega)

/-- Two cuts show the same. -/
theorem cut_same {W S : Nat → Prop} {j j' : Nat} (h : Cut m W S j) (h' : Cut m W S j') (hj : j ≤ m) (hj' : j' ≤ m) :
    lastD ops W j = lastD ops W j' ∧ ∀ {α : Type} (val : Nat → α), (∀ k, k < m → ¬ W k → val (k + 1) = val k) → val j = val j' := by
  rcases Nat.le_total j j' with hle | hle
  · have hno : ∀ k, j ≤ k → k < j + (j' - j) → ¬ W k := fun k h1 h2 hw => by
      have e1 := h k (by omega) hw; have e2 := h' k (by omega) hw
      have := e1.1 (e2.2 (by omega)); omega
    have e : j' = j + (j' - j) := by omega
    refine ⟨?_, fun val hv => ?_⟩
    · rw [e, lastD_same _ _ hno]
    · rw [e, val_same hv _ _ (by omega) hno]
  · have hno : ∀ k, j' ≤ k → k < j' + (j - j') → ¬ W k := fun k h1 h2 hw => by
      have e1 := h k (by omega) hw; have e2 := h' k (by omega) hw
      have := e2.1 (e1.2 (by omega)); omega
    have e : j = j' + (j - j') := by omega
    refine ⟨?_, fun val hv => ?_⟩
    · rw [e, lastD_same _ _ hno]
    · rw [e, val_same hv _ _ (by omega) hno]

theorem lastD_lt {W : Nat → Prop} : ∀ j x, lastD ops W j x → ∃ k, k < j ∧ W k ∧ (x = k ∨ Wt ops x k) := by
  intro j
  induction j with
  | zero => intro x h; exact h.elim
  | succ j ih =>
    intro x h
    by_cases hw : W j
    · rw [lastD_hit hw] at h; exact ⟨j, by omega, hw, h⟩
    · rw [lastD_skip hw] at h
      obtain ⟨k, h1, h2, h3⟩ := ih x h
      exact ⟨k, by omega, h2, h3⟩

theorem cut_here {W S : Nat → Prop} {i : Nat} (hS : Closed ops S) (hi : ¬ S i) (hb : ∀ k, Wt ops k i → S k) (ho : ∀ k, k < m → k ≠ i → W k → Ord ops i k) : Cut m W S i := by
  intro k hk hw
  by_cases e : k = i
  · subst e; exact ⟨fun h => (hi h).elim, fun h => by omega⟩
  · rcases ho k hk e hw with ⟨h1, h2⟩ | ⟨h1, h2⟩
    · exact ⟨fun h => (hi (hS k h i h2)).elim, fun h => by omega⟩
    · exact ⟨fun _ => h1, fun _ => hb k h2⟩

theorem cut_next {W S : Nat → Prop} {i : Nat} (hS : Closed ops S) (hi : ¬ S i) (hb : ∀ k, Wt ops k i → S k) (ho : ∀ k, k < m → k ≠ i → W k → Ord ops i k) : Cut m W (fun k => S k ∨ k = i) (i + 1) := by
  intro k hk hw
  by_cases e : k = i
  · subst e; exact ⟨fun _ => by omega, fun _ => .inr rfl⟩
  · rcases ho k hk e hw with ⟨h1, h2⟩ | ⟨h1, h2⟩
    · exact ⟨fun h => h.elim (fun h => (hi (hS k h i h2)).elim) (fun h => (e h).elim), fun h => by omega⟩
    · exact ⟨fun _ => by omega, fun _ => .inl (hb k h2)⟩

theorem cut_other {W S : Nat → Prop} {i j : Nat} (hw : ¬ W i) (h : Cut m W (fun k => S k ∨ k = i) j) : Cut m W S j := by
  intro k hk hwk
  have := h k hk hwk
  constructor
  · intro hs; exact this.1 (.inl hs)
  · intro hlt
    rcases this.2 hlt with h | h
    · exact h
    · subst h; exact (hw hwk).elim
theorem cut_other' {W S : Nat → Prop} {i j : Nat} (hw : ¬ W i) (h : Cut m W S j) : Cut m W (fun k => S k ∨ k = i) j := by
  intro k hk hwk
  have := h k hk hwk
  constructor
  · rintro (hs | e)
    · exact this.1 hs
    · subst e; exact (hw hwk).elim
  · intro hlt; exact .inl (this.2 hlt)

theorem lastD_in {W S : Nat → Prop} {j : Nat} (hj : j ≤ m) (hS : Closed ops S) (h : Cut m W S j) : ∀ x, lastD ops W j x → S x := by
  intro x hx
  obtain ⟨k, h1, h2, h3⟩ := lastD_lt j x hx
  have hk := (h k (by omega) h2).2 h1
  rcases h3 with rfl | h3
  · exact hk
  · exact hS k hk x h3

theorem lastD_waits {W : Nat → Prop} {i : Nat} (hp : ∀ j, j < ops.size → ∀ k ∈ preds ops j, k < j) (hi : i < ops.size) (him : i ≤ m) (ho : ∀ k, k < m → k ≠ i → W k → Ord ops i k) : ∀ x, lastD ops W i x → Wt ops x i := by
  intro x hx
  obtain ⟨k, h1, h2, h3⟩ := lastD_lt i x hx
  have hki : Wt ops k i := by
    rcases ho k (by omega) (by omega) h2 with ⟨h4, _⟩ | ⟨_, h5⟩
    · omega
    · exact h5
  rcases h3 with rfl | h3
  · exact hki
  · exact wt_trans hp i hi k x hki h3

end hist
end Go.Am

/- Regions that draw their order: the run in the text's order, laid open. -/
namespace Go.Am
variable {Z : Zone}

section
variable (g : Cfg) (hd : Handler) (c : Ctx) (ops : Array Oper) (fr0 : Fr) (s0 : St)

noncomputable def feetOk (j : Nat) (fr : Fr) (seen : List Foot) (o : Oper) : Bool :=
  seen.zipIdx.all fun x => ((closure ops ops.size).getD j []).contains x.2 || (x.1.acc.all (fun d => !(footOf ops fr o).2.contains d) && x.1.wrl.all (fun d => !(footOf ops fr o).1.contains d))

noncomputable def drawAt : Nat → Option (Fr × St × List Foot)
  | 0 => some (fr0, s0, [])
  | j + 1 => (drawAt j).bind fun x => (ops[j]?).bind fun o => (chk (feetOk ops j x.1 x.2.2 o)).bind fun _ =>
      if silentO ops o then
        (step g hd (drawCtx c ops (closure ops ops.size) ops.size j x.2.1.next x.2.2) (x.1.only ops o (footOf ops x.1 o).1) { heap := .nil, next := x.2.1.next } ops o).bind fun r =>
        (chk (r.2.2.next == x.2.1.next)).bind fun _ =>
        match r.1 with
        | .normal => some (x.1.with' r.2.1 o (footOf ops x.1 o).2, x.2.1, x.2.2 ++ [⟨x.2.1.next, x.2.1.next, (footOf ops x.1 o).1, (footOf ops x.1 o).2⟩])
        | _ => none
      else
      (step g hd (drawCtx c ops (closure ops ops.size) ops.size j x.2.1.next x.2.2) (x.1.only ops o (footOf ops x.1 o).1) x.2.1 ops o).bind fun r =>
      match r.1 with
      | .normal => some (x.1.with' r.2.1 o (footOf ops x.1 o).2, r.2.2, x.2.2 ++ [⟨x.2.1.next, r.2.2.next, (footOf ops x.1 o).1, (footOf ops x.1 o).2⟩])
      | _ => none

variable {g hd c ops fr0 s0}

theorem drawAt_succ {j : Nat} {y : Fr × St × List Foot} (h : drawAt g hd c ops fr0 s0 (j + 1) = some y) :
    ∃ x o fr1 sA sB s1, drawAt g hd c ops fr0 s0 j = some x ∧ ops[j]? = some o ∧ feetOk ops j x.1 x.2.2 o = true ∧
      step g hd (drawCtx c ops (closure ops ops.size) ops.size j x.2.1.next x.2.2) (x.1.only ops o (footOf ops x.1 o).1) sA ops o = some (.normal, fr1, sB) ∧
      sA.next = x.2.1.next ∧ sB.next = s1.next ∧ ((silentO ops o = false ∧ sA = x.2.1 ∧ sB = s1) ∨ (silentO ops o = true ∧ sA.heap = .nil ∧ s1 = x.2.1)) ∧
      y = (x.1.with' fr1 o (footOf ops x.1 o).2, s1, x.2.2 ++ [⟨x.2.1.next, s1.next, (footOf ops x.1 o).1, (footOf ops x.1 o).2⟩]) := by
  simp only [drawAt] at h
  obtain ⟨x, hx, h⟩ := bind_some h
  obtain ⟨o, ho, h⟩ := bind_some h
  obtain ⟨_, hf, h⟩ := bind_some h
  rw [chk_some] at hf
  split at h
  · rename_i hsil
    obtain ⟨⟨ex, fr1, s1⟩, hs, h⟩ := bind_some h
    obtain ⟨_, hn, h⟩ := bind_some h
    rw [chk_some, beq_iff_eq] at hn
    split at h
    · rename_i e
      simp only at e; subst e
      simp only [Option.some.injEq] at h
      exact ⟨x, o, fr1, _, s1, x.2.1, hx, ho, hf, hs, rfl, hn, .inr ⟨hsil, rfl, rfl⟩, h.symm⟩
    · cases h
  · rename_i hsil
    obtain ⟨⟨ex, fr1, s1⟩, hs, h⟩ := bind_some h
    split at h
    · rename_i e
      simp only at e; subst e
      simp only [Option.some.injEq] at h
      exact ⟨x, o, fr1, _, s1, s1, hx, ho, hf, hs, rfl, rfl, .inl ⟨by simpa using hsil, rfl, rfl⟩, h.symm⟩
    · cases h

theorem stepsDraw_at : ∀ (l : List Oper) (j : Nat) (x : Fr × St × List Foot) (r : Ex × Fr × St), ops.toList.drop j = l → j ≤ ops.size → drawAt g hd c ops fr0 s0 j = some x → stepsDraw g hd c ops (closure ops ops.size) j x.2.2 l x.1 x.2.1 = some r →
    (∃ y, r.1 = .normal ∧ drawAt g hd c ops fr0 s0 ops.size = some y ∧ r.2.1 = y.1 ∧ r.2.2 = y.2.1) ∨
    (∃ v m y o, r.1 = .pan v ∧ m < ops.size ∧ drawAt g hd c ops fr0 s0 m = some y ∧ ops[m]? = some o ∧ (fullOrdered (closure ops ops.size) ops.size m && allOrdered ops (closure ops ops.size) ops.size m) = true ∧
      step g hd (drawCtx c ops (closure ops ops.size) ops.size m y.2.1.next y.2.2) (y.1.only ops o (footOf ops y.1 o).1) y.2.1 ops o = some r) := by
  intro l
  induction l with
  | nil =>
    intro j x r hl hj hx h
    simp only [stepsDraw, Option.some.injEq] at h
    subst h
    have : j = ops.size := by
      have := congrArg List.length hl
      simp at this; omega
    subst this
    exact .inl ⟨x, rfl, hx, rfl, rfl⟩
  | cons o rest ih =>
    intro j x r hl hj hx h
    have hlt : j < ops.size := by
      have := congrArg List.length hl
      simp at this; omega
    have ho : ops[j]? = some o := by
      have : (ops.toList.drop j)[0]? = some o := by rw [hl]; rfl
      rw [List.getElem?_drop, Nat.add_zero] at this
      simpa using this
    have hl' : ops.toList.drop (j + 1) = rest := by
      have := congrArg (List.drop 1) hl
      rw [List.drop_drop] at this
      simpa [Nat.add_comm] using this
    rw [stepsDraw_eq] at h
    obtain ⟨_, hf, h⟩ := bind_some h
    have hf' : feetOk ops j x.1 x.2.2 o = true := chk_some.1 hf
    split at h
    · rename_i hsil
      obtain ⟨⟨ex, fr1, s1⟩, hst, h⟩ := bind_some h
      obtain ⟨_, hn, h⟩ := bind_some h
      have hn' := chk_some.1 hn
      split at h
      · rename_i e
        simp only at e; subst e
        refine ih (j + 1) (x.1.with' fr1 o (footOf ops x.1 o).2, x.2.1, x.2.2 ++ [⟨x.2.1.next, x.2.1.next, (footOf ops x.1 o).1, (footOf ops x.1 o).2⟩]) r hl' hlt ?_ h
        simp only [drawAt, hx, Option.bind_some, ho, hf', chk, if_true, hst, hsil]
        simp only at hn'
        rw [if_pos hn']
        rfl
      · cases h
    · rename_i hsil
      obtain ⟨⟨ex, fr1, s1⟩, hst, h⟩ := bind_some h
      split at h
      · rename_i e
        simp only at e; subst e
        refine ih (j + 1) (x.1.with' fr1 o (footOf ops x.1 o).2, s1, x.2.2 ++ [⟨x.2.1.next, s1.next, (footOf ops x.1 o).1, (footOf ops x.1 o).2⟩]) r hl' hlt ?_ h
        simp only [drawAt, hx, Option.bind_some, ho, hf', chk, if_true, hst, hsil, if_false]
        rfl
      · rename_i v e
        simp only at e; subst e
        obtain ⟨_, ha, h⟩ := bind_some h
        cases h
        exact .inr ⟨v, j, x, o, rfl, hlt, hx, ho, chk_some.1 ha, hst⟩
      · cases h

theorem drawAt_le : ∀ (d j : Nat) (y : Fr × St × List Foot), drawAt g hd c ops fr0 s0 (j + d) = some y → ∃ x, drawAt g hd c ops fr0 s0 j = some x := by
  intro d
  induction d with
  | zero => intro j y h; exact ⟨y, h⟩
  | succ d ih =>
    intro j y h
    obtain ⟨x, o, fr1, _, _, s1, hx, _⟩ := drawAt_succ (j := j + d) h
    exact ih j x hx
end

structure Trace where
  fr : Nat → Fr
  s : Nat → St
  fr1 : Nat → Fr
  o : Nat → Oper

section
variable (g : Cfg) (hd : Handler) (c : Ctx) (ops : Array Oper) (T : Trace)

noncomputable def Trace.acc (j : Nat) : List Nat := (footOf ops (T.fr j) (T.o j)).1
noncomputable def Trace.wrl (j : Nat) : List Nat := (footOf ops (T.fr j) (T.o j)).2
def Trace.N (j : Nat) : Nat := (T.s j).next
noncomputable def Trace.feet (j : Nat) : List Foot := (List.range j).map fun k => ⟨T.N k, T.N (k + 1), T.acc ops k, T.wrl ops k⟩
noncomputable def Trace.ctx (j : Nat) : Ctx := drawCtx c ops (closure ops ops.size) ops.size j (T.N j) (T.feet ops j)

structure Trace.Ok (m : Nat) : Prop where
  hm : m ≤ ops.size
  op : ∀ j, j < m → ops[j]? = some (T.o j)
  step : ∀ j, j < m → ∃ sA sB, step g hd (T.ctx c ops j) ((T.fr j).only ops (T.o j) (T.acc ops j)) sA ops (T.o j) = some (.normal, T.fr1 j, sB) ∧ sA.next = T.N j ∧ sB.next = T.N (j + 1) ∧
    ((silent ops j = false ∧ sA = T.s j ∧ sB = T.s (j + 1)) ∨ (silent ops j = true ∧ sA.heap = .nil ∧ T.s (j + 1) = T.s j))
  next : ∀ j, j < m → T.fr (j + 1) = (T.fr j).with' (T.fr1 j) (T.o j) (T.wrl ops j)
  feet : ∀ j, j < m → ∀ i, i < j → Wt ops i j ∨ ((∀ d, d ∈ T.acc ops i → d ∉ T.wrl ops j) ∧ (∀ d, d ∈ T.wrl ops i → d ∉ T.acc ops j))

theorem Trace.feet_succ (j : Nat) : T.feet ops (j + 1) = T.feet ops j ++ [⟨T.N j, T.N (j + 1), T.acc ops j, T.wrl ops j⟩] := by
  simp [Trace.feet, List.range_succ]

variable {g hd c ops}
theorem trace_of {fr0 : Fr} {s0 : St} {m : Nat} {y : Fr × St × List Foot} (hm : m ≤ ops.size) (h : drawAt g hd c ops fr0 s0 m = some y) :
    ∃ T : Trace, T.Ok g hd c ops m ∧ T.fr 0 = fr0 ∧ T.s 0 = s0 ∧ T.fr m = y.1 ∧ T.s m = y.2.1 ∧ T.feet ops m = y.2.2 := by
  let at' : Nat → Fr × St × List Foot := fun j => (drawAt g hd c ops fr0 s0 j).getD (fr0, s0, [])
  let o : Nat → Oper := fun j => (ops[j]?).getD default
  have hat : ∀ j, j ≤ m → drawAt g hd c ops fr0 s0 j = some (at' j) := fun j hj => by
    obtain ⟨x, hx⟩ := drawAt_le (m - j) j y (by rw [Nat.add_sub_cancel' hj]; exact h)
    simp only [at', hx, Option.getD_some]
  have hex : ∀ j, ∃ fr1, j < m → ops[j]? = some (o j) ∧ feetOk ops j (at' j).1 (at' j).2.2 (o j) = true ∧
      (∃ sA sB, step g hd (drawCtx c ops (closure ops ops.size) ops.size j (at' j).2.1.next (at' j).2.2) ((at' j).1.only ops (o j) (footOf ops (at' j).1 (o j)).1) sA ops (o j) = some (.normal, fr1, sB) ∧
        sA.next = (at' j).2.1.next ∧ sB.next = (at' (j + 1)).2.1.next ∧ ((silentO ops (o j) = false ∧ sA = (at' j).2.1 ∧ sB = (at' (j + 1)).2.1) ∨ (silentO ops (o j) = true ∧ sA.heap = .nil ∧ (at' (j + 1)).2.1 = (at' j).2.1))) ∧
      at' (j + 1) = ((at' j).1.with' fr1 (o j) (footOf ops (at' j).1 (o j)).2, (at' (j + 1)).2.1, (at' j).2.2 ++ [⟨(at' j).2.1.next, (at' (j + 1)).2.1.next, (footOf ops (at' j).1 (o j)).1, (footOf ops (at' j).1 (o j)).2⟩]) := fun j => by
    by_cases hj : j < m
    · obtain ⟨x, o', fr1, sA, sB, s1, hx, ho, hf, hst, n1, n2, hc, e⟩ := drawAt_succ (hat (j + 1) hj)
      rw [hat j (by omega)] at hx
      cases hx
      have e0 : o j = o' := by simp only [o, ho, Option.getD_some]
      have e2 : (at' (j + 1)).2.1 = s1 := by rw [e]
      refine ⟨fr1, fun _ => ?_⟩
      rw [e0, e2]
      exact ⟨ho, hf, ⟨sA, sB, hst, n1, n2, hc⟩, e⟩
    · exact ⟨fr0, fun h => (hj h).elim⟩
  have hch := Classical.axiomOfChoice hex
  obtain ⟨f1, hstep⟩ := hch
  let T : Trace := ⟨fun j => (at' j).1, fun j => (at' j).2.1, f1, o⟩
  have hfeet : ∀ j, j ≤ m → T.feet ops j = (at' j).2.2 := by
    intro j
    induction j with
    | zero => intro _; simp only [Trace.feet, List.range_zero, List.map_nil]; rfl
    | succ j ih =>
      intro hj
      rw [Trace.feet_succ, ih (by omega), (hstep j (by omega)).2.2.2]
      rfl
  have hm' := hat m (Nat.le_refl _)
  rw [h] at hm'
  simp only [Option.some.injEq] at hm'
  refine ⟨T, ⟨hm, fun j hj => (hstep j hj).1, fun j hj => ?_, fun j hj => ?_, fun j hj i hi => ?_⟩, rfl, rfl, by rw [hm'], by rw [hm'], by rw [hfeet m (Nat.le_refl _), hm']⟩
  · obtain ⟨sA, sB, hst, n1, n2, hc⟩ := (hstep j hj).2.2.1
    refine ⟨sA, sB, ?_, n1, n2, ?_⟩
    · unfold Trace.ctx
      rw [hfeet j (by omega)]
      exact hst
    · have : silent ops j = silentO ops (o j) := by unfold silent; rw [(hstep j hj).1]
      rw [this]
      exact hc
  · have := (hstep j hj).2.2.2
    show (at' (j + 1)).1 = _
    rw [this]; rfl
  · have := (hstep j hj).2.1
    unfold feetOk at this
    rw [← hfeet j (by omega), List.all_eq_true] at this
    have hmem : (Foot.mk (T.N i) (T.N (i + 1)) (T.acc ops i) (T.wrl ops i), i) ∈ (T.feet ops j).zipIdx := by
      rw [List.mk_mem_zipIdx_iff_getElem?]
      simp [Trace.feet, hi]
    have := this _ hmem
    simp only [Bool.or_eq_true, Bool.and_eq_true, List.all_eq_true, Bool.not_eq_true'] at this
    refine this.imp (fun h => by unfold Wt; simpa using h) fun h => ⟨fun d hd hw => ?_, fun d hd hw => ?_⟩
    · have := h.1 d hd
      rw [List.contains_eq_mem] at this
      simp only [decide_eq_false_iff_not] at this
      exact this hw
    · have := h.2 d hd
      rw [List.contains_eq_mem] at this
      simp only [decide_eq_false_iff_not] at this
      exact this hw
end
end Go.Am

/- Regions that draw their order: what each operation may see and write. -/
namespace Go.Am
variable {Z : Zone}

structure DrawFacts (ops : Array Oper) : Prop where
  back : ∀ j, j < ops.size → ∀ k ∈ preds ops j, k < j
  edge : ∀ (j : Nat) (o : Oper), ops[j]? = some o → ∀ e ∈ o.after, e.on < j ∨ ∃ w, e.ground = .gcOnly w
  guard : ∀ (j : Nat) (o : Oper), ops[j]? = some o → ∀ i b, o.guard = some (i, b) → Wt ops i j
  gc : ∀ j, j < ops.size → j ∈ Region.linearise .gc ops 0
  one : ∀ i j t, i < ops.size → j < ops.size → i ≠ j → dstOf ops i = some t → dstOf ops j ≠ some t
  reads : ∀ (i j : Nat) (t : Tmp) (o : Oper), i < ops.size → i ≠ j → dstOf ops i = some t → ops[j]? = some o → t ∈ opTmps o → Ord ops i j

theorem drawOk_facts {ops : Array Oper} (h : drawOk ops (closure ops ops.size) = true) : DrawFacts ops := by
  unfold drawOk at h
  simp only [Bool.and_eq_true] at h
  obtain ⟨h1, h2⟩ := h
  rw [List.all_eq_true] at h1 h2
  have f1 : ∀ (j : Nat) (o : Oper), ops[j]? = some o → (∀ e ∈ o.after, e.on < j ∨ ∃ w, e.ground = .gcOnly w) ∧ (∀ i b, o.guard = some (i, b) → Wt ops i j) ∧ j ∈ Region.linearise .gc ops 0 := by
    intro j o ho
    obtain ⟨hlt, _⟩ := Array.getElem?_eq_some_iff.1 ho
    have := h1 j (by simpa using hlt)
    simp only [ho, Bool.and_eq_true, List.all_eq_true, Bool.or_eq_true, decide_eq_true_eq] at this
    obtain ⟨⟨a1, a2⟩, a3⟩ := this
    refine ⟨fun e he => ?_, fun i b hg => ?_, by simpa using a3⟩
    · rcases a1 e (by simpa using he) with hlt | hgc
      · exact .inl hlt
      · split at hgc
        · rename_i w hw; exact .inr ⟨w, hw⟩
        · cases hgc
    · rw [hg] at a2
      simp only at a2
      unfold Wt; simpa using a2
  have f2 : ∀ (i j : Nat) (t : Tmp), i < ops.size → j < ops.size → i ≠ j → dstOf ops i = some t → dstOf ops j ≠ some t ∧ ∀ o, ops[j]? = some o → t ∈ opTmps o → Ord ops i j := by
    intro i j t hi hj hne ht
    have := h2 i (by simpa using hi)
    rw [ht] at this
    simp only at this
    rw [List.all_eq_true] at this
    have := this j (by simpa using hj)
    simp only [Bool.or_eq_true, beq_iff_eq, Bool.and_eq_true, bne_iff_ne, ne_eq] at this
    rcases this with e | ⟨h3, h4⟩
    · exact (hne e).elim
    · refine ⟨h3, fun o ho hto => ?_⟩
      simp only [ho, Bool.or_eq_true, Bool.not_eq_true'] at h4
      rcases h4 with h4 | h4
      · rw [List.contains_eq_mem] at h4
        simp only [decide_eq_false_iff_not] at h4
        exact (h4 hto).elim
      · exact ordered_iff hne h4
  refine ⟨fun j hj k hk => ?_, fun j o ho => (f1 j o ho).1, fun j o ho => (f1 j o ho).2.1, fun j hj => ?_, fun i j t hi hj hne ht => (f2 i j t hi hj hne ht).1, fun i j t o hi hne ht ho hto => ?_⟩
  · unfold preds at hk
    have ho : ops[j]? = some ops[j] := Array.getElem?_eq_getElem hj
    simp only [ho, Option.map_some, Option.getD_some, List.mem_map, List.mem_filter] at hk
    obtain ⟨e, ⟨he, hb⟩, rfl⟩ := hk
    rcases (f1 j _ ho).1 e (by simpa using he) with hlt | ⟨w, hw⟩
    · exact hlt
    · unfold Region.binds at hb
      rw [hw] at hb
      cases hb
  · exact (f1 j _ (Array.getElem?_eq_getElem hj)).2.2
  · obtain ⟨hlt, _⟩ := Array.getElem?_eq_some_iff.1 ho
    exact (f2 i j t hi hlt hne ht).2 o ho hto

section
variable {g : Cfg} {hd : Handler} {c : Ctx} {ops : Array Oper} {T : Trace} {m : Nat}

theorem step_grow_at (HG : HGrow hd) (hT : T.Ok g hd c ops m) {j : Nat} (hj : j < m) : Grow (T.ctx c ops j) (T.s j) (T.s (j + 1)) := by
  obtain ⟨sA, sB, hst, _, _, ⟨_, rfl, rfl⟩ | ⟨_, _, e⟩⟩ := hT.step j hj
  · exact step_grow HG hst
  · rw [e]; exact Grow.refl _ _

theorem silent_N (hT : T.Ok g hd c ops m) {j : Nat} (hj : j < m) (hs : silent ops j = true) : T.s (j + 1) = T.s j := by
  obtain ⟨sA, sB, hst, _, _, ⟨h, _⟩ | ⟨_, _, e⟩⟩ := hT.step j hj
  · rw [hs] at h; cases h
  · exact e

theorem mayWrite_wt {i j : Nat} (h : mayWrite ops (closure ops ops.size) ops.size i j = true) : Wt ops i j ∧ ∀ k, k < ops.size → k ≠ j → silent ops k = false → Wt ops i k → Ord ops k j := by
  unfold mayWrite at h
  simp only [Bool.and_eq_true, List.all_eq_true] at h
  refine ⟨by unfold Wt; simpa using h.1, fun k hk hne hsil hw => ?_⟩
  have := h.2 k (by simpa using hk)
  simp only [Bool.or_eq_true, beq_iff_eq, Bool.not_eq_true', hsil, Bool.false_eq_true, or_false] at this
  rcases this with (e | h) | h
  · exact (hne e).elim
  · rw [List.contains_eq_mem] at h
    simp only [decide_eq_false_iff_not] at h
    exact (h hw).elim
  · exact ordered_iff hne h

theorem feet_zip {j : Nat} {x : Foot × Nat} : x ∈ (T.feet ops j).zipIdx ↔ x.2 < j ∧ x.1 = ⟨T.N x.2, T.N (x.2 + 1), T.acc ops x.2, T.wrl ops x.2⟩ := by
  obtain ⟨y, i⟩ := x
  rw [List.mk_mem_zipIdx_iff_getElem?]
  simp only [Trace.feet, List.getElem?_map]
  constructor
  · intro h
    obtain ⟨k, hk, e⟩ := Option.map_eq_some_iff.1 h
    obtain ⟨hlt, rfl⟩ := List.getElem?_eq_some_iff.1 hk
    simp at hlt e ⊢
    exact ⟨hlt, e.symm⟩
  · rintro ⟨hlt, rfl⟩
    simp [hlt]

/-- An operation sees what it waits for, and what was there. -/
theorem vis_ctx (D : DrawFacts ops) (hT : T.Ok g hd c ops m) {j : Nat} (hjm : j < m) {id : Nat} : (T.ctx c ops j).vis id = true ↔ c.vis id = true ∧ ∀ k, k < j → ¬ Wt ops k j → ¬ (T.N k ≤ id ∧ id < T.N (k + 1)) := by
  have hj : j < ops.size := Nat.lt_of_lt_of_le hjm hT.hm
  unfold Trace.ctx drawCtx
  split
  · rename_i ha
    refine ⟨fun h => ⟨h, fun k hk hn hr => ?_⟩, fun h => h.1⟩
    cases hsil : silent ops k with
    | true =>
      have := silent_N hT (j := k) (by omega) hsil
      unfold Trace.N at hr
      rw [this] at hr; omega
    | false =>
      rcases allOrdered_iff ha (i := k) (by omega) (by omega) hsil with ⟨_, h⟩ | ⟨h, _⟩
      · exact (hn h).elim
      · omega
  · rw [vis_hide, Bool.and_eq_true]
    constructor
    · rintro ⟨h1, h2⟩
      refine ⟨h2, fun k hk hn hr => ?_⟩
      simp only [Ctx.vis, List.all_eq_true] at h1
      have := h1 (T.N k, T.N (k + 1)) (by
        rw [List.mem_map]
        refine ⟨(⟨T.N k, T.N (k + 1), T.acc ops k, T.wrl ops k⟩, k), ?_, rfl⟩
        rw [List.mem_filter]
        refine ⟨feet_zip.2 ⟨hk, rfl⟩, ?_⟩
        simp only [Bool.and_eq_true, Bool.not_eq_true', decide_eq_true_eq]
        exact ⟨by rw [List.contains_eq_mem]; simp only [decide_eq_false_iff_not]; exact hn, by omega⟩)
      simp only [Bool.or_eq_true, decide_eq_true_eq] at this
      omega
    · rintro ⟨h1, h2⟩
      refine ⟨?_, h1⟩
      simp only [Ctx.vis, List.all_eq_true]
      intro r hr
      rw [List.mem_map] at hr
      obtain ⟨x, hx, rfl⟩ := hr
      rw [List.mem_filter] at hx
      obtain ⟨hz, hc⟩ := hx
      obtain ⟨hlt, hxe⟩ := feet_zip.1 hz
      simp only [Bool.and_eq_true, Bool.not_eq_true', decide_eq_true_eq] at hc
      have hn : ¬ Wt ops x.2 j := by
        have := hc.1
        rw [List.contains_eq_mem] at this
        simp only [decide_eq_false_iff_not] at this
        exact this
      have := h2 x.2 hlt hn
      rw [hxe]
      simp only [Bool.or_eq_true, decide_eq_true_eq]
      omega

theorem wr_ctx {j : Nat} {id : Nat} (h : (T.ctx c ops j).wr id = true) : allOrdered ops (closure ops ops.size) ops.size j = true ∨ T.N j ≤ id ∨ ∃ k, k < j ∧ mayWrite ops (closure ops ops.size) ops.size k j = true ∧ T.N k ≤ id ∧ id < T.N (k + 1) := by
  unfold Trace.ctx drawCtx at h
  split at h
  · rename_i ha; exact .inl ha
  · refine .inr ?_
    simp only [Ctx.wr, Bool.or_eq_true, decide_eq_true_eq, List.any_eq_true] at h
    rcases h with h | ⟨r, hr, h⟩
    · exact .inl h
    · refine .inr ?_
      rw [List.mem_map] at hr
      obtain ⟨x, hx, rfl⟩ := hr
      rw [List.mem_filter] at hx
      obtain ⟨hlt, hxe⟩ := feet_zip.1 hx.1
      rw [hxe] at h
      simp only [Bool.and_eq_true, decide_eq_true_eq] at h
      exact ⟨x.2, hlt, hx.2, h⟩

/-- The writers of an object. -/
def WrO (c : Ctx) (ops : Array Oper) (T : Trace) (id j : Nat) : Prop := silent ops j = false ∧ (((T.ctx c ops j).wr id = true ∧ (T.ctx c ops j).vis id = true ∧ id < T.N (j + 1)) ∨ (T.N j ≤ id ∧ id < T.N (j + 1)))

theorem N_mono (HG : HGrow hd) (hT : T.Ok g hd c ops m) : ∀ d j, j + d ≤ m → T.N j ≤ T.N (j + d) := by
  intro d
  induction d with
  | zero => intro j _; exact Nat.le_refl _
  | succ d ih =>
    intro j h
    exact Nat.le_trans (ih j (by omega)) (step_grow_at HG hT (j := j + d) (by omega)).next
theorem N_le (HG : HGrow hd) (hT : T.Ok g hd c ops m) {i j : Nat} (h : i ≤ j) (hj : j ≤ m) : T.N i ≤ T.N j := by
  have := N_mono HG hT (j - i) i (by omega)
  rwa [Nat.add_sub_cancel' h] at this

theorem ranges_apart (HG : HGrow hd) (hT : T.Ok g hd c ops m) {i j id : Nat} (hi : i < m) (hj : j < m) (h1 : T.N i ≤ id ∧ id < T.N (i + 1)) (h2 : T.N j ≤ id ∧ id < T.N (j + 1)) : i = j := by
  rcases Nat.lt_trichotomy i j with h | h | h
  · have := N_le HG hT (i := i + 1) (j := j) h (by omega); omega
  · exact h
  · have := N_le HG hT (i := j + 1) (j := i) h (by omega); omega

/-- Whoever writes what another one may come to waits for him, or he for him. -/
theorem acc_ord (D : DrawFacts ops) (HG : HGrow hd) (hT : T.Ok g hd c ops m) {j k id : Nat} (hj : j < m) (hsj : silent ops j = false) (hk : k < m) (hne : k ≠ j) (hlt : id < T.N j) (hv : (T.ctx c ops j).vis id = true) (hw : WrO c ops T id k) : Ord ops j k := by
  have hjs : j < ops.size := Nat.lt_of_lt_of_le hj hT.hm
  have hks : k < ops.size := Nat.lt_of_lt_of_le hk hT.hm
  have hvis := ((vis_ctx D hT hj).1 hv).2
  by_cases haj : allOrdered ops (closure ops ops.size) ops.size j = true
  · exact (allOrdered_iff haj hks hne hw.1).symm
  have own : ∀ p, p < m → T.N p ≤ id ∧ id < T.N (p + 1) → Wt ops p j := fun p hp hr => by
    by_cases hpj : p < j
    · exact Classical.byContradiction fun hn => hvis p hpj hn hr
    · have := N_le HG hT (i := j) (j := p) (by omega) (by omega); omega
  have main : allOrdered ops (closure ops ops.size) ops.size k = true ∨ (T.N k ≤ id ∧ id < T.N (k + 1)) ∨ ∃ p, p < k ∧ mayWrite ops (closure ops ops.size) ops.size p k = true ∧ T.N p ≤ id ∧ id < T.N (p + 1) := by
    rcases hw.2 with ⟨h1, h2, h3⟩ | h
    · rcases wr_ctx h1 with h | h | h
      · exact .inl h
      · exact .inr (.inl ⟨h, h3⟩)
      · exact .inr (.inr h)
    · exact .inr (.inl h)
  rcases main with h | h | ⟨p, hp, hmw, hr⟩
  · exact allOrdered_iff h hjs (fun e => hne e.symm) hsj
  · have hw := own k hk h
    exact .inr ⟨wt_lt D.back j hjs k hw, hw⟩
  · have hw := own p (by omega) hr
    exact (mayWrite_wt hmw).2 j hjs (fun e => hne e.symm) hsj hw

theorem wr_ord (D : DrawFacts ops) (HG : HGrow hd) (hT : T.Ok g hd c ops m) {j k id : Nat} (hj : j < m) (hk : k < m) (hne : k ≠ j) (hwj : WrO c ops T id j) (hw : WrO c ops T id k) : Ord ops j k := by
  have hjs : j < ops.size := Nat.lt_of_lt_of_le hj hT.hm
  have hks : k < ops.size := Nat.lt_of_lt_of_le hk hT.hm
  have main : ∀ k, WrO c ops T id k → allOrdered ops (closure ops ops.size) ops.size k = true ∨ (T.N k ≤ id ∧ id < T.N (k + 1)) ∨ ∃ p, p < k ∧ mayWrite ops (closure ops ops.size) ops.size p k = true ∧ T.N p ≤ id ∧ id < T.N (p + 1) := by
    rintro k ⟨_, ⟨h1, h2, h3⟩ | h⟩
    · rcases wr_ctx h1 with h | h | h
      · exact .inl h
      · exact .inr (.inl ⟨h, h3⟩)
      · exact .inr (.inr h)
    · exact .inr (.inl h)
  rcases main j hwj with h1 | h1 | ⟨p, hp, hmp, hr⟩
  · exact (allOrdered_iff h1 hks hne hw.1).symm
  · rcases main k hw with h2 | h2 | ⟨q, hq, hmq, hr2⟩
    · exact allOrdered_iff h2 hjs (fun e => hne e.symm) hwj.1
    · exact (hne (ranges_apart HG hT hk hj h2 h1)).elim
    · have : q = j := ranges_apart HG hT (by omega) hj hr2 h1
      subst this
      exact .inl ⟨hq, (mayWrite_wt hmq).1⟩
  · rcases main k hw with h2 | h2 | ⟨q, hq, hmq, hr2⟩
    · exact allOrdered_iff h2 hjs (fun e => hne e.symm) hwj.1
    · have : p = k := ranges_apart HG hT (by omega) hk hr h2
      subst this
      exact .inr ⟨hp, (mayWrite_wt hmp).1⟩
    · have : p = q := ranges_apart HG hT (by omega) (by omega) hr hr2
      subst this
      exact (mayWrite_wt hmq).2 j hjs (fun e => hne e.symm) hwj.1 (mayWrite_wt hmp).1

/-- What is not written is as it was. -/
theorem obj_keep (HG : HGrow hd) (hT : T.Ok g hd c ops m) (hdom : ∀ j, j ≤ m → ∀ id o, (T.s j).heap.get id = some o → id < T.N j) {j id : Nat} (hj : j < m) (hw : ¬ WrO c ops T id j) : (T.s (j + 1)).heap.get id = (T.s j).heap.get id := by
  cases hsil : silent ops j with
  | true => rw [silent_N hT hj hsil]
  | false =>
  have hg := step_grow_at HG hT hj
  by_cases h1 : id < T.N j
  · have h2 : id < T.N (j + 1) := Nat.lt_of_lt_of_le h1 hg.next
    by_cases h3 : (T.ctx c ops j).wr id = true
    · by_cases h4 : (T.ctx c ops j).vis id = true
      · exact (hw ⟨hsil, .inl ⟨h3, h4, h2⟩⟩).elim
      · exact hg.hid id (by simpa using h4) h1
    · exact hg.low id (by simpa using h3) h1
  · have h2 : ¬ id < T.N (j + 1) := fun h => hw ⟨hsil, .inr ⟨by omega, h⟩⟩
    have e1 : (T.s j).heap.get id = none := by
      cases h : (T.s j).heap.get id with
      | none => rfl
      | some o => exact (h1 (hdom j (by omega) id o h)).elim
    have e2 : (T.s (j + 1)).heap.get id = none := by
      cases h : (T.s (j + 1)).heap.get id with
      | none => rfl
      | some o => exact (h2 (hdom (j + 1) hj id o h)).elim
    rw [e1, e2]

/-- Places that are known to a set of operations. -/
def InD (c : Ctx) (T : Trace) (m : Nat) (p : Nat → Prop) (id : Nat) : Prop := id < T.N m ∧ c.vis id = true ∧ ∀ k, k < m → ¬ p k → ¬ (T.N k ≤ id ∧ id < T.N (k + 1))

open Classical in
noncomputable def ctxD (c : Ctx) (T : Trace) (m : Nat) (p : Nat → Prop) : Ctx :=
  { floor := 0, own := [], hide := (((List.range m).filter fun k => decide (¬ p k)).map fun k => (T.N k, T.N (k + 1))) ++ c.hide }

theorem in_ctxD {p : Nat → Prop} {id : Nat} : In (ctxD c T m p) (T.N m) id ↔ InD c T m p id := by
  unfold In InD ctxD
  rw [vis_hide, Bool.and_eq_true]
  refine and_congr_right fun _ => ⟨fun ⟨h1, h2⟩ => ⟨h2, fun k hk hn hr => ?_⟩, fun ⟨h1, h2⟩ => ⟨?_, h1⟩⟩
  · simp only [Ctx.vis, List.all_eq_true] at h1
    have := h1 (T.N k, T.N (k + 1)) (by
      rw [List.mem_map]
      exact ⟨k, by rw [List.mem_filter]; exact ⟨by simpa using hk, by simpa using hn⟩, rfl⟩)
    simp only [Bool.or_eq_true, decide_eq_true_eq] at this
    omega
  · simp only [Ctx.vis, List.all_eq_true]
    intro r hr
    rw [List.mem_map] at hr
    obtain ⟨k, hk, rfl⟩ := hr
    rw [List.mem_filter] at hk
    have := h2 k (by simpa using hk.1) (by simpa using hk.2)
    simp only [Bool.or_eq_true, decide_eq_true_eq]
    omega

theorem InD.sub {p q : Nat → Prop} {id : Nat} (hpq : ∀ k, p k → q k) (h : InD c T m p id) : InD c T m q id := ⟨h.1, h.2.1, fun k hk hn => h.2.2 k hk fun hp => hn (hpq k hp)⟩

theorem cover : ∀ d j id, T.N j ≤ id → id < T.N (j + d) → ∃ k, j ≤ k ∧ k < j + d ∧ T.N k ≤ id ∧ id < T.N (k + 1) := by
  intro d
  induction d with
  | zero => intro j id h1 h2; rw [Nat.add_zero] at h2; omega
  | succ d ih =>
    intro j id h1 h2
    by_cases h : id < T.N (j + d)
    · obtain ⟨k, a, b, e⟩ := ih j id h1 h
      exact ⟨k, a, by omega, e⟩
    · exact ⟨j + d, by omega, by omega, by omega, h2⟩

theorem in_pre (D : DrawFacts ops) (HG : HGrow hd) (hT : T.Ok g hd c ops m) {j id : Nat} (hj : j < m) : In (T.ctx c ops j) (T.N j) id ↔ InD c T m (fun k => Wt ops k j) id := by
  have hjs : j < ops.size := Nat.lt_of_lt_of_le hj hT.hm
  unfold In InD
  rw [vis_ctx D hT hj]
  constructor
  · rintro ⟨h1, h2, h3⟩
    refine ⟨Nat.lt_of_lt_of_le h1 (N_le HG hT (by omega) (Nat.le_refl _)), h2, fun k hk hn hr => ?_⟩
    by_cases hkj : k < j
    · exact h3 k hkj hn hr
    · have := N_le HG hT (i := j) (j := k) (by omega) (by omega); omega
  · rintro ⟨h1, h2, h3⟩
    refine ⟨?_, h2, fun k hk hn => h3 k (by omega) hn⟩
    by_cases h : id < T.N j
    · exact h
    · obtain ⟨k, a, b, e⟩ := cover (T := T) (m - j) j id (by omega) (by rw [Nat.add_sub_cancel' (by omega)]; exact h1)
      refine (h3 k (by omega) (fun hw => ?_) e).elim
      have := wt_lt D.back j hjs k hw; omega

theorem in_post (D : DrawFacts ops) (HG : HGrow hd) (hT : T.Ok g hd c ops m) {j id : Nat} (hj : j < m) : In (T.ctx c ops j) (T.N (j + 1)) id ↔ InD c T m (fun k => k = j ∨ Wt ops k j) id := by
  have hjs : j < ops.size := Nat.lt_of_lt_of_le hj hT.hm
  unfold In InD
  rw [vis_ctx D hT hj]
  constructor
  · rintro ⟨h1, h2, h3⟩
    refine ⟨Nat.lt_of_lt_of_le h1 (N_le HG hT (by omega) (Nat.le_refl _)), h2, fun k hk hn hr => ?_⟩
    by_cases hkj : k < j
    · exact h3 k hkj (fun h => hn (.inr h)) hr
    · have : k ≠ j := fun h => hn (.inl h)
      have := N_le HG hT (i := j + 1) (j := k) (by omega) (by omega); omega
  · rintro ⟨h1, h2, h3⟩
    refine ⟨?_, h2, fun k hk hn => h3 k (by omega) (fun h => h.elim (by omega) hn)⟩
    by_cases h : id < T.N (j + 1)
    · exact h
    · obtain ⟨k, a, b, e⟩ := cover (T := T) (m - (j + 1)) (j + 1) id (by omega) (by rw [Nat.add_sub_cancel' (by omega)]; exact h1)
      refine (h3 k (by omega) (fun hw => ?_) e).elim
      rcases hw with hw | hw
      · omega
      · have := wt_lt D.back j hjs k hw; omega

end
end Go.Am
