/- What the abstract machine leaves alone. -/
import Derived.Test.YtgcffmkifjnmlaaAmRun
namespace Go.Am

structure Grow (c : Ctx) (s s' : St) : Prop where
  next : s.next ≤ s'.next
  gone : ∀ id, id < s.next → s.heap.get id = none → s'.heap.get id = none
  low : ∀ id, c.wr id = false → id < s.next → s'.heap.get id = s.heap.get id
  hid : ∀ id, c.vis id = false → id < s.next → s'.heap.get id = s.heap.get id
  dom : (∀ id o, s.heap.get id = some o → id < s.next) → ∀ id o, s'.heap.get id = some o → id < s'.next

theorem Grow.refl (c : Ctx) (s : St) : Grow c s s := ⟨Nat.le_refl _, fun _ _ h => h, fun _ _ _ => rfl, fun _ _ _ => rfl, fun h => h⟩
theorem Grow.trans {c : Ctx} {a b d : St} (h : Grow c a b) (k : Grow c b d) : Grow c a d where
  next := Nat.le_trans h.next k.next
  gone id hi hn := k.gone id (Nat.lt_of_lt_of_le hi h.next) (h.gone id hi hn)
  low id hf hi := (k.low id hf (Nat.lt_of_lt_of_le hi h.next)).trans (h.low id hf hi)
  hid id hf hi := (k.hid id hf (Nat.lt_of_lt_of_le hi h.next)).trans (h.hid id hf hi)
  dom hd := k.dom (h.dom hd)

theorem Grow.new (c : Ctx) (s : St) (o : AObj) : Grow c s (s.new o) where
  next := by simp [St.new]
  gone id hi hn := by simp only [St.new]; rw [Tr.get_put, if_neg (by omega)]; exact hn
  low id _ hi := by simp only [St.new]; rw [Tr.get_put, if_neg (by omega)]
  hid id _ hi := by simp only [St.new]; rw [Tr.get_put, if_neg (by omega)]
  dom hd id o h := by
    simp only [St.new] at h ⊢
    rw [Tr.get_put] at h
    split at h
    · omega
    · have := hd id o h; omega

theorem Grow.skip (c : Ctx) (s : St) : Grow c s { s with next := s.next + 1 } where
  next := by simp
  gone _ _ hn := hn
  low _ _ _ := rfl
  hid _ _ _ := rfl
  dom hd id o h := by have := hd id o h; simp only; omega

theorem Grow.set {c : Ctx} {s : St} {id : Nat} {o : AObj} (v : Option AObj) (hf : c.wr id = true) (hv : c.vis id = true) (ho : s.heap.get id = some o) : Grow c s { s with heap := s.heap.set id v } where
  next := Nat.le_refl _
  gone i hi hn := by
    simp only; rw [Tr.get_set]
    split
    · rename_i e; subst e; rw [ho] at hn; cases hn
    · exact hn
  low i hf' hi := by
    simp only; rw [Tr.get_set, if_neg]
    rintro rfl; rw [hf] at hf'; cases hf'
  hid i hf' hi := by
    simp only; rw [Tr.get_set, if_neg]
    rintro rfl; rw [hv] at hf'; cases hf'
  dom hd i o' h := by
    simp only at h ⊢
    rw [Tr.get_set] at h
    split at h
    · rename_i e; subst e; exact hd _ _ ho
    · exact hd _ _ h

/-- The same, of an object made since. -/
theorem Grow.setNew {c : Ctx} {s s' : St} {id : Nat} (v : Option AObj) (h : Grow c s s') (hi : s.next ≤ id) (hi' : id < s'.next) : Grow c s { s' with heap := s'.heap.set id v } where
  next := h.next
  gone i hi2 hn := by simp only; rw [Tr.get_set, if_neg (by omega)]; exact h.gone i hi2 hn
  low i hf' hi2 := by simp only; rw [Tr.get_set, if_neg (by omega)]; exact h.low i hf' hi2
  hid i hf' hi2 := by simp only; rw [Tr.get_set, if_neg (by omega)]; exact h.hid i hf' hi2
  dom hd i o' h' := by
    simp only at h' ⊢
    rw [Tr.get_set] at h'
    split at h'
    · omega
    · exact h.dom hd _ _ h'

theorem look_some {c : Ctx} {s : St} {id : Nat} {o : AObj} (h : s.look c id = some o) : c.vis id = true ∧ s.heap.get id = some o := by
  unfold St.look at h; split at h <;> simp_all

theorem bind_some {α β : Type} {x : Option α} {f : α → Option β} {b : β} (h : x.bind f = some b) : ∃ a, x = some a ∧ f a = some b := by
  cases x with
  | none => cases h
  | some a => exact ⟨a, rfl, h⟩

theorem write_some {c : Ctx} {s s' : St} {id o : Nat} {vs : List Value} (h : s.write c id o vs = some s') :
    ∃ cs sz sp, c.vis id = true ∧ s.heap.get id = some (.cells cs sz sp) ∧ c.wr id = true ∧ o + vs.length ≤ cs.size ∧ vs.all Value.oneCell' = true ∧
      s' = { s with heap := s.heap.put id (.cells (blit cs o vs) sz sp) } := by
  unfold St.write at h
  split at h
  · rename_i cs sz sp hl
    obtain ⟨hv, hg⟩ := look_some hl
    obtain ⟨_, hc, h⟩ := bind_some h
    rw [chk_some] at hc
    simp only [Bool.and_eq_true, decide_eq_true_eq] at hc
    simp only [pure, Option.some.injEq] at h
    exact ⟨cs, sz, sp, hv, hg, hc.1.1, hc.1.2, hc.2, h.symm⟩
  · cases h

theorem Grow.write {c : Ctx} {s s' : St} {id o : Nat} {vs : List Value} (h : s.write c id o vs = some s') : Grow c s s' := by
  obtain ⟨cs, sz, sp, hv, hg, hf, _, _, rfl⟩ := write_some h
  exact Grow.set _ hf hv hg

end Go.Am
