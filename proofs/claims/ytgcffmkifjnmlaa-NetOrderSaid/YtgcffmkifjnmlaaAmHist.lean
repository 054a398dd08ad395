/- Regions that draw their order: what waits for what; the run in the text's order; what each operation may come to. -/
import Derived.Test.YtgcffmkifjnmlaaAmCall
namespace Go.Am

/-! ### What waits for what -/
section waits
variable (ops : Array Oper)

theorem closure_length : ∀ j, (closure ops j).length = j := by
  intro j
  induction j with
  | zero => rfl
  | succ j ih => simp [closure, ih]

theorem closure_get : ∀ (n i : Nat), i < n → (closure ops n).getD i [] = ((preds ops i).flatMap fun k => k :: ((closure ops i).getD k [])).eraseDups := by
  intro n
  induction n with
  | zero => intro i h; omega
  | succ n ih =>
    intro i h
    show (closure ops n ++ [_]).getD i [] = _
    rw [List.getD_eq_getElem?_getD]
    by_cases e : i < n
    · rw [List.getElem?_append_left (by rw [closure_length]; exact e), ← List.getD_eq_getElem?_getD, ih i e]
    · have : i = n := by omega
      subst this
      rw [List.getElem?_append_right (by rw [closure_length]; exact Nat.le_refl _), closure_length]
      simp

theorem closure_stable (n i : Nat) (h : i < n) : (closure ops n).getD i [] = (closure ops (i + 1)).getD i [] := by
  rw [closure_get ops n i h, closure_get ops (i + 1) i (by omega)]

/-- i is waited for by j -/
def Wt (i j : Nat) : Prop := i ∈ (closure ops ops.size).getD j []

variable {ops}
theorem wt_iff {i j : Nat} (hj : j < ops.size) (hp : ∀ j, j < ops.size → ∀ k ∈ preds ops j, k < j) : Wt ops i j ↔ ∃ k ∈ preds ops j, i = k ∨ Wt ops i k := by
  unfold Wt
  rw [closure_get ops _ j hj]
  simp only [List.mem_eraseDups, List.mem_flatMap, List.mem_cons]
  constructor
  · rintro ⟨k, hk, h⟩
    refine ⟨k, hk, h.imp id fun h => ?_⟩
    have hlt := hp j hj k hk
    rw [closure_stable ops j k hlt] at h
    rw [closure_stable ops _ k (by omega)]; exact h
  · rintro ⟨k, hk, h⟩
    refine ⟨k, hk, h.imp id fun h => ?_⟩
    have hlt := hp j hj k hk
    rw [closure_stable ops j k hlt]
    rw [closure_stable ops _ k (by omega)] at h; exact h

theorem wt_lt (hp : ∀ j, j < ops.size → ∀ k ∈ preds ops j, k < j) : ∀ j, j < ops.size → ∀ i, Wt ops i j → i < j := by
  intro j
  induction j using Nat.strongRecOn with
  | _ j ih =>
    intro hj i h
    obtain ⟨k, hk, h⟩ := (wt_iff hj hp).1 h
    have hlt := hp j hj k hk
    rcases h with rfl | h
    · exact hlt
    · have := ih k hlt (by omega) i h; omega

theorem wt_trans (hp : ∀ j, j < ops.size → ∀ k ∈ preds ops j, k < j) : ∀ j, j < ops.size → ∀ i k, Wt ops i j → Wt ops k i → Wt ops k j := by
  intro j
  induction j using Nat.strongRecOn with
  | _ j ih =>
    intro hj i k h1 h2
    obtain ⟨p, hpj, h⟩ := (wt_iff hj hp).1 h1
    have hlt := hp j hj p hpj
    rcases h with rfl | h
    · exact (wt_iff hj hp).2 ⟨i, hpj, .inr h2⟩
    · exact (wt_iff hj hp).2 ⟨p, hpj, .inr (ih p hlt (by omega) i k h h2)⟩

def Ord (ops : Array Oper) (i j : Nat) : Prop := (i < j ∧ Wt ops i j) ∨ (j < i ∧ Wt ops j i)
theorem Ord.symm {i j : Nat} (h : Ord ops i j) : Ord ops j i := Or.symm h

theorem ordered_iff {i j : Nat} (hne : i ≠ j) : ordered (closure ops ops.size) i j = true → Ord ops i j := by
  unfold ordered Ord Wt
  intro h
  split at h
  · rename_i hlt; exact .inl ⟨hlt, by simpa using h⟩
  · rename_i hlt; exact .inr ⟨by omega, by simpa using h⟩

theorem allOrdered_iff {j : Nat} (h : allOrdered ops (closure ops ops.size) ops.size j = true) {i : Nat} (hi : i < ops.size) (hne : i ≠ j) (hs : silent ops i = false) : Ord ops i j := by
  unfold allOrdered at h
  rw [List.all_eq_true] at h
  have := h i (by simpa using hi)
  simp only [Bool.or_eq_true, beq_iff_eq, hs, Bool.false_eq_true, or_false] at this
  rcases this with e | h
  · exact (hne e).elim
  · refine ordered_iff hne ?_
    unfold ordered; exact h

theorem fullOrdered_iff {j : Nat} (h : fullOrdered (closure ops ops.size) ops.size j = true) {i : Nat} (hi : i < ops.size) (hne : i ≠ j) : Ord ops i j := by
  unfold fullOrdered at h
  rw [List.all_eq_true] at h
  have := h i (by simpa using hi)
  simp only [Bool.or_eq_true, beq_iff_eq] at this
  rcases this with e | h
  · exact (hne e).elim
  · refine ordered_iff hne ?_
    unfold ordered; exact h

end waits

/-! ### Writers of one thing, and how far its story has come -/
section hist
variable {ops : Array Oper} {m : Nat}

def Cut (m : Nat) (W S : Nat → Prop) (j : Nat) : Prop := ∀ k, k < m → W k → (S k ↔ k < j)
def Closed (ops : Array Oper) (S : Nat → Prop) : Prop := ∀ j, S j → ∀ i, Wt ops i j → S i

open Classical in
/-- what the last writer knew -/
noncomputable def lastD (ops : Array Oper) (W : Nat → Prop) : Nat → Nat → Prop
  | 0 => fun _ => False
  | j + 1 => if W j then fun k => k = j ∨ Wt ops k j else lastD ops W j

theorem lastD_hit {W : Nat → Prop} {j : Nat} (h : W j) : lastD ops W (j + 1) = fun k => k = j ∨ Wt ops k j := by simp [lastD, h]
theorem lastD_skip {W : Nat → Prop} {j : Nat} (h : ¬ W j) : lastD ops W (j + 1) = lastD ops W j := by simp [lastD, h]

theorem lastD_same {W : Nat → Prop} : ∀ (d j : Nat), (∀ k, j ≤ k → k < j + d → ¬ W k) → lastD ops W (j + d) = lastD ops W j := by
  intro d
  induction d with
  | zero => intro j _; rfl
  | succ d ih =>
    intro j h
    rw [← Nat.add_assoc, lastD_skip (h (j + d) (by omega) (by omega))]
    exact ih j fun k h1 h2 => h k h1 (by omega)

theorem val_same {α : Type} {W : Nat → Prop} {val : Nat → α} {m : Nat} (hv : ∀ k, k < m → ¬ W k → val (k + 1) = val k) : ∀ (d j : Nat), j + d ≤ m → (∀ k, j ≤ k → k < j + d → ¬ W k) → val (j + d) = val j := by
  intro d
  induction d with
  | zero => intro j _ _; rfl
  | succ d ih =>
    intro j hm h
    rw [← Nat.add_assoc, hv (j + d) (by omega) (h (j + d) (by omega) (by omega))]
    exact ih j (by omega) fun k h1 h2 => h k h1 (by omega)

/-- Two cuts show the same. -/
theorem cut_same {W S : Nat → Prop} {j j' : Nat} (h : Cut m W S j) (h' : Cut m W S j') (hj : j ≤ m) (hj' : j' ≤ m) :
    lastD ops W j = lastD ops W j' ∧ ∀ {α : Type} (val : Nat → α), (∀ k, k < m → ¬ W k → val (k + 1) = val k) → val j = val j' := by
  rcases Nat.le_total j j' with hle | hle
  · have hno : ∀ k, j ≤ k → k < j + (j' - j) → ¬ W k := fun k h1 h2 hw => by
      have e1 := h k (by omega) hw; have e2 := h' k (by omega) hw
      have := e1.1 (e2.2 (by omega)); omega
    have e : j' = j + (j' - j) := by omega
    refine ⟨?_, fun val hv => ?_⟩
    · rw [e, lastD_same _ _ hno]
    · rw [e, val_same hv _ _ (by omega) hno]
  · have hno : ∀ k, j' ≤ k → k < j' + (j - j') → ¬ W k := fun k h1 h2 hw => by
      have e1 := h k (by omega) hw; have e2 := h' k (by omega) hw
      have := e2.1 (e1.2 (by omega)); omega
    have e : j = j' + (j - j') := by omega
    refine ⟨?_, fun val hv => ?_⟩
    · rw [e, lastD_same _ _ hno]
    · rw [e, val_same hv _ _ (by omega) hno]

theorem lastD_lt {W : Nat → Prop} : ∀ j x, lastD ops W j x → ∃ k, k < j ∧ W k ∧ (x = k ∨ Wt ops x k) := by
  intro j
  induction j with
  | zero => intro x h; exact h.elim
  | succ j ih =>
    intro x h
    by_cases hw : W j
    · rw [lastD_hit hw] at h; exact ⟨j, by omega, hw, h⟩
    · rw [lastD_skip hw] at h
      obtain ⟨k, h1, h2, h3⟩ := ih x h
      exact ⟨k, by omega, h2, h3⟩

theorem cut_here {W S : Nat → Prop} {i : Nat} (hS : Closed ops S) (hi : ¬ S i) (hb : ∀ k, Wt ops k i → S k) (ho : ∀ k, k < m → k ≠ i → W k → Ord ops i k) : Cut m W S i := by
  intro k hk hw
  by_cases e : k = i
  · subst e; exact ⟨fun h => (hi h).elim, fun h => by omega⟩
  · rcases ho k hk e hw with ⟨h1, h2⟩ | ⟨h1, h2⟩
    · exact ⟨fun h => (hi (hS k h i h2)).elim, fun h => by omega⟩
    · exact ⟨fun _ => h1, fun _ => hb k h2⟩

theorem cut_next {W S : Nat → Prop} {i : Nat} (hS : Closed ops S) (hi : ¬ S i) (hb : ∀ k, Wt ops k i → S k) (ho : ∀ k, k < m → k ≠ i → W k → Ord ops i k) : Cut m W (fun k => S k ∨ k = i) (i + 1) := by
  intro k hk hw
  by_cases e : k = i
  · subst e; exact ⟨fun _ => by omega, fun _ => .inr rfl⟩
  · rcases ho k hk e hw with ⟨h1, h2⟩ | ⟨h1, h2⟩
    · exact ⟨fun h => h.elim (fun h => (hi (hS k h i h2)).elim) (fun h => (e h).elim), fun h => by omega⟩
    · exact ⟨fun _ => by omega, fun _ => .inl (hb k h2)⟩

theorem cut_other {W S : Nat → Prop} {i j : Nat} (hw : ¬ W i) (h : Cut m W (fun k => S k ∨ k = i) j) : Cut m W S j := by
  intro k hk hwk
  have := h k hk hwk
  constructor
  · intro hs; exact this.1 (.inl hs)
  · intro hlt
    rcases this.2 hlt with h | h
    · exact h
    · subst h; exact (hw hwk).elim
theorem cut_other' {W S : Nat → Prop} {i j : Nat} (hw : ¬ W i) (h : Cut m W S j) : Cut m W (fun k => S k ∨ k = i) j := by
  intro k hk hwk
  have := h k hk hwk
  constructor
  · rintro (hs | e)
    · exact this.1 hs
    · subst e; exact (hw hwk).elim
  · intro hlt; exact .inl (this.2 hlt)

theorem lastD_in {W S : Nat → Prop} {j : Nat} (hj : j ≤ m) (hS : Closed ops S) (h : Cut m W S j) : ∀ x, lastD ops W j x → S x := by
  intro x hx
  obtain ⟨k, h1, h2, h3⟩ := lastD_lt j x hx
  have hk := (h k (by omega) h2).2 h1
  rcases h3 with rfl | h3
  · exact hk
  · exact hS k hk x h3

theorem lastD_waits {W : Nat → Prop} {i : Nat} (hp : ∀ j, j < ops.size → ∀ k ∈ preds ops j, k < j) (hi : i < ops.size) (him : i ≤ m) (ho : ∀ k, k < m → k ≠ i → W k → Ord ops i k) : ∀ x, lastD ops W i x → Wt ops x i := by
  intro x hx
  obtain ⟨k, h1, h2, h3⟩ := lastD_lt i x hx
  have hki : Wt ops k i := by
    rcases ho k (by omega) (by omega) h2 with ⟨h4, _⟩ | ⟨_, h5⟩
    · omega
    · exact h5
  rcases h3 with rfl | h3
  · exact hki
  · exact wt_trans hp i hi k x hki h3

end hist
end Go.Am
