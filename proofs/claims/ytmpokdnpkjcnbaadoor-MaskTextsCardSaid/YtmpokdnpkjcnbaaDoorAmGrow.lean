/- What the abstract machine leaves alone. -/
import Derived.Test.YtmpokdnpkjcnbaaDoorAmRun
namespace Go.Am

structure Grow (c : Ctx) (s s' : St) : Prop where
  next : s.next ≤ s'.next
  gone : ∀ id, id < s.next → s.heap.get id = none → s'.heap.get id = none
  low : ∀ id, c.wr id = false → id < s.next → s'.heap.get id = s.heap.get id
  hid : ∀ id, c.vis id = false → id < s.next → s'.heap.get id = s.heap.get id
  dom : (∀ id o, s.heap.get id = some o → id < s.next) → ∀ id o, s'.heap.get id = some o → id < s'.next

theorem Grow.refl (c : Ctx) (s : St) : Grow c s s := ⟨Nat.le_refl _, fun _ _ h => h, fun _ _ _ => rfl, fun _ _ _ => rfl, fun h => h⟩
theorem Grow.trans {c : Ctx} {a b d : St} (h : Grow c a b) (k : Grow c b d) : Grow c a d where
  next := Nat.le_trans h.next k.next
  gone id hi hn := k.gone id (Nat.lt_of_lt_of_le hi h.next) (h.gone id hi hn)
  low id hf hi := (k.low id hf (Nat.lt_of_lt_of_le hi h.next)).trans (h.low id hf hi)
  hid id hf hi := (k.hid id hf (Nat.lt_of_lt_of_le hi h.next)).trans (h.hid id hf hi)
  dom hd := k.dom (h.dom hd)

theorem Grow.new (c : Ctx) (s : St) (o : AObj) : Grow c s (s.new o) where
  next := by simp [St.new]
  gone id hi hn := by simp only [St.new]; rw [Tr.get_put, if_neg (by omega)]; exact hn
  low id _ hi := by simp only [St.new]; rw [Tr.get_put, if_neg (by omega)]
  hid id _ hi := by simp only [St.new]; rw [Tr.get_put, if_neg (by omega)]
  dom hd id o h := by
    simp only [St.new] at h ⊢
    rw [Tr.get_put] at h
    split at h
    · omega
    · have := hd id o h; omega

theorem Grow.skip (c : Ctx) (s : St) : Grow c s { s with next := s.next + 1 } where
  next := by simp
  gone _ _ hn := hn
  low _ _ _ := rfl
  hid _ _ _ := rfl
  dom hd id o h := by have := hd id o h; simp only; omega

theorem Grow.set {c : Ctx} {s : St} {id : Nat} {o : AObj} (v : Option AObj) (hf : c.wr id = true) (hv : c.vis id = true) (ho : s.heap.get id = some o) : Grow c s { s with heap := s.heap.set id v } where
  next := Nat.le_refl _
  gone i hi hn := by
    simp only; rw [Tr.get_set]
    split
    · rename_i e; subst e; rw [ho] at hn; cases hn
    · exact hn
  low i hf' hi := by
    simp only; rw [Tr.get_set, if_neg]
    rintro rfl; rw [hf] at hf'; cases hf'
  hid i hf' hi := by
    simp only; rw [Tr.get_set, if_neg]
    rintro rfl; rw [hv] at hf'; cases hf'
  dom hd i o' h := by
    simp only at h ⊢
    rw [Tr.get_set] at h
    split at h
    · rename_i e; subst e; exact hd _ _ ho
    · exact hd _ _ h

/-- The same, of an object made since. -/
theorem Grow.setNew {c : Ctx} {s s' : St} {id : Nat} (v : Option AObj) (h : Grow c s s') (hi : s.next ≤ id) (hi' : id < s'.next) : Grow c s { s' with heap := s'.heap.set id v } where
  next := h.next
  gone i hi2 hn := by simp only; rw [Tr.get_set, if_neg (by omega)]; exact h.gone i hi2 hn
  low i hf' hi2 := by simp only; rw [Tr.get_set, if_neg (by omega)]; exact h.low i hf' hi2
  hid i hf' hi2 := by simp only; rw [Tr.get_set, if_neg (by omega)]; exact h.hid i hf' hi2
  dom hd i o' h' := by
    simp only at h' ⊢
    rw [Tr.get_set] at h'
    split at h'
    · omega
    · exact h.dom hd _ _ h'

theorem look_some {c : Ctx} {s : St} {id : Nat} {o : AObj} (h : s.look c id = some o) : c.vis id = true ∧ s.heap.get id = some o := by
  unfold St.look at h; split at h <;> simp_all

theorem bind_some {α β : Type} {x : Option α} {f : α → Option β} {b : β} (h : x.bind f = some b) : ∃ a, x = some a ∧ f a = some b := by
  cases x with
  | none => cases h
  | some a => exact ⟨a, rfl, h⟩

theorem write_some {c : Ctx} {s s' : St} {id o : Nat} {vs : List Value} (h : s.write c id o vs = some s') :
    ∃ cs sz sp, c.vis id = true ∧ s.heap.get id = some (.cells cs sz sp) ∧ c.wr id = true ∧ o + vs.length ≤ cs.size ∧ vs.all Value.oneCell' = true ∧
      s' = { s with heap := s.heap.put id (.cells (blit cs o vs) sz sp) } := by
  unfold St.write at h
  split at h
  · rename_i cs sz sp hl
    obtain ⟨hv, hg⟩ := look_some hl
    obtain ⟨_, hc, h⟩ := bind_some h
    rw [chk_some] at hc
    simp only [Bool.and_eq_true, decide_eq_true_eq] at hc
    simp only [pure, Option.some.injEq] at h
    exact ⟨cs, sz, sp, hv, hg, hc.1.1, hc.1.2, hc.2, h.symm⟩
  · cases h

theorem Grow.write {c : Ctx} {s s' : St} {id o : Nat} {vs : List Value} (h : s.write c id o vs = some s') : Grow c s s' := by
  obtain ⟨cs, sz, sp, hv, hg, hf, _, _, rfl⟩ := write_some h
  exact Grow.set _ hf hv hg

end Go.Am

/- What the abstract machine leaves alone: operations. -/
namespace Go.Am
variable {g : Cfg}

theorem doStore_grow {c : Ctx} {fr : Fr} {s : St} {t : TypeId} {x y : Operand} {r : Tr (Array Value) × St} (h : doStore g c fr s t x y = some r) : Grow c s r.2 := by
  unfold doStore at h
  obtain ⟨p, _, h⟩ := bind_some h
  obtain ⟨v, _, h⟩ := bind_some h
  obtain ⟨n, _, h⟩ := bind_some h
  obtain ⟨_, _, h⟩ := bind_some h
  split at h
  · obtain ⟨cs, _, h⟩ := bind_some h
    obtain ⟨_, _, h⟩ := bind_some h
    simp only [pure, Option.some.injEq] at h
    subst h; exact Grow.refl _ _
  · obtain ⟨s', hs, h⟩ := bind_some h
    simp only [pure, Option.some.injEq] at h
    subst h; exact Grow.write hs
  · cases h

theorem doNew_grow {c : Ctx} {fr : Fr} {s : St} {d : Option Tmp} {cells : Array Value} {r : Value × Tr (Array Value) × St} (h : doNew g fr s d cells = some r) : Grow c s r.2.2 := by
  unfold doNew at h
  split at h
  · split at h
    · split at h
      · cases h; exact Grow.refl _ _
      · cases h
    · cases h; exact Grow.new _ _ _
  · cases h

theorem doSlice_grow {c : Ctx} {fr : Fr} {s : St} {t : TypeId} {x : Operand} {lo hi mx : Option Operand} {r : Value × St} (h : doSlice g c fr s t x lo hi mx = some r) : Grow c s r.2 := by
  unfold doSlice at h
  obtain ⟨v, _, h⟩ := bind_some h
  split at h
  · obtain ⟨_, _, h⟩ := bind_some h
    obtain ⟨_, _, h⟩ := bind_some h
    obtain ⟨_, _, h⟩ := bind_some h
    obtain ⟨_, _, h⟩ := bind_some h
    obtain ⟨_, _, h⟩ := bind_some h
    split at h
    · cases h; exact Grow.refl _ _
    · cases h
  · obtain ⟨_, _, h⟩ := bind_some h
    obtain ⟨_, _, h⟩ := bind_some h
    obtain ⟨_, _, h⟩ := bind_some h
    split at h
    · obtain ⟨_, _, h⟩ := bind_some h
      obtain ⟨_, _, h⟩ := bind_some h
      split at h
      · cases h; exact Grow.new _ _ _
      · cases h; exact Grow.skip _ _
    · obtain ⟨_, _, h⟩ := bind_some h
      split at h
      · cases h; exact Grow.refl _ _
      · split at h
        · cases h; exact Grow.refl _ _
        · cases h; exact Grow.skip _ _
  · obtain ⟨_, _, h⟩ := bind_some h
    obtain ⟨_, _, h⟩ := bind_some h
    obtain ⟨_, _, h⟩ := bind_some h
    obtain ⟨_, _, h⟩ := bind_some h
    cases h; exact Grow.refl _ _
  · cases h

theorem doMakeSlice_grow {c : Ctx} {fr : Fr} {s : St} {t : TypeId} {x y : Operand} {r : Value × St} (h : doMakeSlice g fr s t x y = some r) : Grow c s r.2 := by
  unfold doMakeSlice at h
  obtain ⟨_, _, h⟩ := bind_some h
  obtain ⟨_, _, h⟩ := bind_some h
  obtain ⟨_, _, h⟩ := bind_some h
  obtain ⟨_, _, h⟩ := bind_some h
  split at h
  · obtain ⟨_, _, h⟩ := bind_some h
    obtain ⟨_, _, h⟩ := bind_some h
    obtain ⟨_, _, h⟩ := bind_some h
    cases h; exact Grow.new _ _ _
  · cases h

theorem doBuildSlice_grow {c : Ctx} {fr : Fr} {s : St} {t : TypeId} {n : Nat} {ps : Array (Nat × Operand)} {r : Value × St} (h : doBuildSlice g fr s t n ps = some r) : Grow c s r.2 := by
  unfold doBuildSlice at h
  obtain ⟨_, _, h⟩ := bind_some h
  split at h
  · obtain ⟨_, _, h⟩ := bind_some h
    obtain ⟨_, _, h⟩ := bind_some h
    obtain ⟨_, _, h⟩ := bind_some h
    obtain ⟨_, _, h⟩ := bind_some h
    cases h; exact Grow.new _ _ _
  · cases h

theorem doAppend_grow {c : Ctx} {s : St} {ts : Array TypeId} {as : List Value} {r : Value × St} (h : doAppend g c s ts as = some r) : Grow c s r.2 := by
  unfold doAppend at h
  split at h
  · obtain ⟨_, _, h⟩ := bind_some h
    obtain ⟨_, _, h⟩ := bind_some h
    split at h
    · obtain ⟨_, _, h⟩ := bind_some h
      obtain ⟨_, _, h⟩ := bind_some h
      obtain ⟨_, _, h⟩ := bind_some h
      obtain ⟨_, _, h⟩ := bind_some h
      split at h
      · cases h; exact Grow.refl _ _
      · obtain ⟨_, _, h⟩ := bind_some h
        obtain ⟨_, _, h⟩ := bind_some h
        split at h
        · obtain ⟨_, _, h⟩ := bind_some h
          cases h; exact Grow.new _ _ _
        · split at h
          · rename_i hl
            obtain ⟨hv, hg⟩ := look_some hl
            obtain ⟨_, _, h⟩ := bind_some h
            split at h
            · obtain ⟨_, hw, h⟩ := bind_some h
              cases h; exact Grow.write hw
            · obtain ⟨_, _, h⟩ := bind_some h
              simp only at h
              split at h
              · obtain ⟨_, hc, h⟩ := bind_some h
                rw [chk_some] at hc
                simp only [Bool.and_eq_true, decide_eq_true_eq] at hc
                cases h
                exact (Grow.set none hc.1.1 hv hg).trans (Grow.new _ _ _)
              · cases h; exact Grow.new _ _ _
          · cases h
        · cases h
    · cases h
  · cases h

theorem doCopy_grow {c : Ctx} {s : St} {ts : Array TypeId} {as : List Value} {r : Value × St} (h : doCopy g c s ts as = some r) : Grow c s r.2 := by
  unfold doCopy at h
  split at h
  · obtain ⟨_, _, h⟩ := bind_some h
    split at h
    · obtain ⟨_, _, h⟩ := bind_some h
      obtain ⟨_, _, h⟩ := bind_some h
      simp only at h
      split at h
      · cases h; exact Grow.refl _ _
      · obtain ⟨_, _, h⟩ := bind_some h
        split at h
        · obtain ⟨_, _, h⟩ := bind_some h
          obtain ⟨_, hw, h⟩ := bind_some h
          cases h; exact Grow.write hw
        · cases h
    · cases h
  · cases h

theorem doClear_grow {c : Ctx} {s : St} {ts : Array TypeId} {as : List Value} {r : Value × St} (h : doClear g c s ts as = some r) : Grow c s r.2 := by
  unfold doClear at h
  split at h
  · obtain ⟨_, _, h⟩ := bind_some h
    split at h
    · cases h; exact Grow.refl _ _
    · obtain ⟨_, _, h⟩ := bind_some h
      obtain ⟨_, _, h⟩ := bind_some h
      obtain ⟨_, _, h⟩ := bind_some h
      obtain ⟨_, hw, h⟩ := bind_some h
      cases h; exact Grow.write hw
    · cases h
  · cases h

theorem mapAt_some {c : Ctx} {s : St} {id : Nat} {es : List (Value × Value)} (h : mapAt c s id = some es) : c.vis id = true ∧ s.heap.get id = some (.map es) := by
  unfold mapAt at h
  split at h
  · rename_i hl; cases h; exact look_some hl
  · cases h

theorem doUpdate_grow {c : Ctx} {fr : Fr} {s r : St} {t : TypeId} {x y z : Operand} (h : doUpdate g c fr s t x y z = some r) : Grow c s r := by
  unfold doUpdate at h
  obtain ⟨_, _, h⟩ := bind_some h
  obtain ⟨_, _, h⟩ := bind_some h
  obtain ⟨_, _, h⟩ := bind_some h
  obtain ⟨_, _, h⟩ := bind_some h
  split at h
  · obtain ⟨es, he, h⟩ := bind_some h
    obtain ⟨_, hc, h⟩ := bind_some h
    rw [chk_some] at hc
    obtain ⟨hv, hg⟩ := mapAt_some he
    obtain ⟨_, _, h⟩ := bind_some h
    obtain ⟨_, _, h⟩ := bind_some h
    split at h
    · obtain ⟨_, _, h⟩ := bind_some h
      obtain ⟨_, _, h⟩ := bind_some h
      cases h; exact Grow.set _ hc hv hg
    · cases h; exact Grow.set _ hc hv hg
  · cases h

theorem doDelete_grow {c : Ctx} {s r : St} {ts : Array TypeId} {as : List Value} (h : doDelete g c s ts as = some r) : Grow c s r := by
  unfold doDelete at h
  split at h
  · obtain ⟨_, _, h⟩ := bind_some h
    obtain ⟨_, _, h⟩ := bind_some h
    split at h
    · obtain ⟨es, he, h⟩ := bind_some h
      obtain ⟨_, hc, h⟩ := bind_some h
      rw [chk_some] at hc
      obtain ⟨hv, hg⟩ := mapAt_some he
      obtain ⟨_, _, h⟩ := bind_some h
      split at h
      · cases h; exact Grow.set _ hc hv hg
      · cases h; exact Grow.refl _ _
    · obtain ⟨_, _, h⟩ := bind_some h
      cases h; exact Grow.refl _ _
    · cases h
  · cases h

theorem doBuiltin_grow {c : Ctx} {fr : Fr} {s : St} {b : Builtin} {ts : Array TypeId} {xs : List Operand} {r : Outc × Tr (Array Value) × St} (h : doBuiltin g c fr s b ts xs = some r) : Grow c s r.2.2 := by
  unfold doBuiltin at h
  obtain ⟨as, _, h⟩ := bind_some h
  split at h
  · obtain ⟨_, hx, h⟩ := bind_some h; cases h; exact doAppend_grow hx
  · obtain ⟨_, hx, h⟩ := bind_some h; cases h; exact doCopy_grow hx
  · obtain ⟨_, hx, h⟩ := bind_some h; cases h; exact Grow.refl _ _
  · obtain ⟨_, hx, h⟩ := bind_some h; cases h; exact doClear_grow hx
  · obtain ⟨_, hx, h⟩ := bind_some h; cases h; exact doDelete_grow hx
  · split at h
    · cases h; exact Grow.refl _ _
    · cases h
  · cases h

theorem orElse_some {α : Type} {a b : Option α} {x : α} (h : orElse' a b = some x) : a = some x ∨ b = some x := by
  unfold orElse' at h
  split at h
  · exact .inl h
  · exact .inr h

def HGrow (h : Handler) : Prop := ∀ fv args c s r, h fv args c s = some r → Grow c s r.2

theorem same_some {fr : Fr} {s : St} {v : Option Value} {r : Outc × Tr (Array Value) × St} (h : (v.map fun v => (Outc.ret v, fr.loc, s)) = some r) : ∃ x, v = some x ∧ r = (.ret x, fr.loc, s) := by
  cases v with
  | none => cases h
  | some x => cases h; exact ⟨x, rfl, rfl⟩

theorem op_grow {hd : Handler} (hh : HGrow hd) {c : Ctx} {fr : Fr} {s : St} {o : Oper} {r : Outc × Tr (Array Value) × St} (h : op g hd c fr s o = some r) : Grow c s r.2.2 := by
  have same : ∀ {v : Option Value}, (v.map fun v => (Outc.ret v, fr.loc, s)) = some r → Grow c s r.2.2 := fun h => by
    obtain ⟨x, _, rfl⟩ := same_some h; exact Grow.refl _ _
  unfold op at h
  simp only at h
  split at h
  · exact same h
  · exact same h
  · obtain ⟨_, _, h⟩ := bind_some h
    obtain ⟨_, _, h⟩ := bind_some h
    obtain ⟨_, hn, h⟩ := bind_some h
    cases h; exact doNew_grow hn
  · obtain ⟨_, _, h⟩ := bind_some h
    obtain ⟨_, hn, h⟩ := bind_some h
    cases h; exact doNew_grow hn
  · exact same h
  · obtain ⟨x, hx, rfl⟩ := Option.map_eq_some_iff.1 h; exact doBuildSlice_grow hx
  · exact same h
  · obtain ⟨x, hx, rfl⟩ := Option.map_eq_some_iff.1 h; exact doStore_grow hx
  · exact same h
  · exact same h
  · exact same h
  · exact same h
  · cases h; exact Grow.new _ _ _
  · obtain ⟨x, hx, rfl⟩ := Option.map_eq_some_iff.1 h; exact doMakeSlice_grow hx
  · rcases orElse_some h with h | h
    · exact same h
    · obtain ⟨x, hx, rfl⟩ := Option.map_eq_some_iff.1 h; exact doSlice_grow hx
  · exact same h
  · exact same h
  · exact same h
  · exact same h
  · exact same h
  · obtain ⟨x, hx, rfl⟩ := Option.map_eq_some_iff.1 h; exact doUpdate_grow hx
  · obtain ⟨x, hx, rfl⟩ := Option.map_eq_some_iff.1 h; exact doUpdate_grow hx
  · exact same h
  · exact same h
  · exact same h
  · exact same h
  · exact same h
  · obtain ⟨_, _, h⟩ := bind_some h
    split at h
    · cases h; exact Grow.refl _ _
    · cases h
  · split at h
    · rcases orElse_some h with h | h
      · exact same h
      · exact doBuiltin_grow h
    · obtain ⟨_, _, h⟩ := bind_some h
      obtain ⟨_, _, h⟩ := bind_some h
      obtain ⟨_, hx, h⟩ := bind_some h
      cases h; exact hh _ _ _ _ _ hx
    · cases h
  · cases h

theorem step_grow {hd : Handler} (hh : HGrow hd) {c : Ctx} {fr : Fr} {s : St} {ops : Array Oper} {o : Oper} {r : Ex × Fr × St} (h : step g hd c fr s ops o = some r) : Grow c s r.2.2 := by
  unfold step at h
  obtain ⟨w, _, h⟩ := bind_some h
  split at h
  · obtain ⟨x, hx, h⟩ := bind_some h
    have := op_grow hh hx
    split at h
    · obtain ⟨_, _, h⟩ := bind_some h
      cases h; exact this
    · cases h; exact this
  · obtain ⟨_, _, h⟩ := bind_some h
    cases h; exact Grow.refl _ _

theorem stepsIn_grow {hd : Handler} (hh : HGrow hd) {c : Ctx} {ops : Array Oper} : ∀ (l : List Oper) (fr : Fr) (s : St) (r : Ex × Fr × St), stepsIn g hd c ops l fr s = some r → Grow c s r.2.2 := by
  intro l
  induction l with
  | nil => intro fr s r h; cases h; exact Grow.refl _ _
  | cons o rest ih =>
    intro fr s r h
    unfold stepsIn at h
    obtain ⟨x, hx, h⟩ := bind_some h
    have := step_grow hh hx
    split at h
    · exact this.trans (ih _ _ _ h)
    · cases h; exact this

/-- The same, of what lay when the region began. -/
structure GrowN (c : Ctx) (n0 : Nat) (s s' : St) : Prop where
  next : s.next ≤ s'.next
  gone : ∀ id, id < s.next → s.heap.get id = none → s'.heap.get id = none
  low : ∀ id, c.wr id = false → id < n0 → s'.heap.get id = s.heap.get id
  hid : ∀ id, c.vis id = false → id < s.next → s'.heap.get id = s.heap.get id
  dom : (∀ id o, s.heap.get id = some o → id < s.next) → ∀ id o, s'.heap.get id = some o → id < s'.next

theorem GrowN.refl (c : Ctx) (n0 : Nat) (s : St) : GrowN c n0 s s := ⟨Nat.le_refl _, fun _ _ h => h, fun _ _ _ => rfl, fun _ _ _ => rfl, fun h => h⟩
theorem GrowN.trans {c : Ctx} {n0 : Nat} {a b d : St} (h : GrowN c n0 a b) (k : GrowN c n0 b d) : GrowN c n0 a d where
  next := Nat.le_trans h.next k.next
  gone id hi hn := k.gone id (Nat.lt_of_lt_of_le hi h.next) (h.gone id hi hn)
  low id hf hi := (k.low id hf hi).trans (h.low id hf hi)
  hid id hf hi := (k.hid id hf (Nat.lt_of_lt_of_le hi h.next)).trans (h.hid id hf hi)
  dom hd := k.dom (h.dom hd)
theorem GrowN.grow {c : Ctx} {s s' : St} (h : GrowN c s.next s s') : Grow c s s' := ⟨h.next, h.gone, h.low, h.hid, h.dom⟩

theorem vis_hide (f : Nat) (o a b : List (Nat × Nat)) (id : Nat) : (Ctx.mk f o (a ++ b)).vis id = ((Ctx.mk f o a).vis id && (Ctx.mk f o b).vis id) := by
  simp [Ctx.vis, List.all_append]

theorem drawCtx_vis {c : Ctx} {ops : Array Oper} {b : List (List Nat)} {n j next : Nat} {seen : List Foot} {id : Nat} (h : c.vis id = false) : (drawCtx c ops b n j next seen).vis id = false := by
  unfold drawCtx
  split
  · exact h
  · rw [vis_hide]
    have : ∀ f o, (Ctx.mk f o c.hide).vis id = c.vis id := fun _ _ => rfl
    rw [this, h, Bool.and_false]

theorem drawCtx_wr {c : Ctx} {ops : Array Oper} {b : List (List Nat)} {n j next n0 : Nat} {seen : List Foot} {id : Nat} (hs : ∀ x, x ∈ seen → n0 ≤ x.lo) (hn : n0 ≤ next) (hi : id < n0) (h : c.wr id = false) : (drawCtx c ops b n j next seen).wr id = false := by
  unfold drawCtx
  split
  · exact h
  · unfold Ctx.wr
    simp only [Bool.or_eq_false_iff, decide_eq_false_iff_not, List.any_eq_false, List.mem_map, List.mem_filter, Bool.and_eq_true, decide_eq_true_eq, not_and]
    refine ⟨by omega, ?_⟩
    rintro r ⟨x, ⟨hx, _⟩, rfl⟩ h1
    have := hs x.1 (List.fst_mem_of_mem_zipIdx hx)
    simp only at h1
    omega

noncomputable def feetChk (ops : Array Oper) (b : List (List Nat)) (j : Nat) (seen : List Foot) (fr : Fr) (o : Oper) : Bool :=
  seen.zipIdx.all fun x => (b.getD j []).contains x.2 || (x.1.acc.all (fun d => !(footOf ops fr o).2.contains d) && x.1.wrl.all (fun d => !(footOf ops fr o).1.contains d))

theorem stepsDraw_eq {hd : Handler} {c : Ctx} {ops : Array Oper} {b : List (List Nat)} {j : Nat} {seen : List Foot} {o : Oper} {rest : List Oper} {fr : Fr} {s : St} :
    stepsDraw g hd c ops b j seen (o :: rest) fr s = (chk (feetChk ops b j seen fr o)).bind fun _ =>
      if silentO ops o then
        (step g hd (drawCtx c ops b ops.size j s.next seen) (fr.only ops o (footOf ops fr o).1) { heap := .nil, next := s.next } ops o).bind fun r =>
        (chk (r.2.2.next == s.next)).bind fun _ =>
        match r.1 with
        | .normal => stepsDraw g hd c ops b (j + 1) (seen ++ [⟨s.next, s.next, (footOf ops fr o).1, (footOf ops fr o).2⟩]) rest (fr.with' r.2.1 o (footOf ops fr o).2) s
        | _ => none
      else
      (step g hd (drawCtx c ops b ops.size j s.next seen) (fr.only ops o (footOf ops fr o).1) s ops o).bind fun r =>
      match r.1 with
      | .normal => stepsDraw g hd c ops b (j + 1) (seen ++ [⟨s.next, r.2.2.next, (footOf ops fr o).1, (footOf ops fr o).2⟩]) rest (fr.with' r.2.1 o (footOf ops fr o).2) r.2.2
      | .pan v => (chk (fullOrdered b ops.size j && allOrdered ops b ops.size j)).bind fun _ => some (.pan v, r.2.1, r.2.2)
      | _ => none := by
  rfl

theorem stepsDraw_grow {hd : Handler} (hh : HGrow hd) {c : Ctx} {ops : Array Oper} {b : List (List Nat)} {n0 : Nat} : ∀ (l : List Oper) (j : Nat) (seen : List Foot) (fr : Fr) (s : St) (r : Ex × Fr × St),
    (∀ x, x ∈ seen → n0 ≤ x.lo) → n0 ≤ s.next → stepsDraw g hd c ops b j seen l fr s = some r → GrowN c n0 s r.2.2 := by
  intro l
  induction l with
  | nil => intro j seen fr s r _ _ h; cases h; exact GrowN.refl _ _ _
  | cons o rest ih =>
    intro j seen fr s r hsn hn h
    rw [stepsDraw_eq] at h
    obtain ⟨_, _, h⟩ := bind_some h
    split at h
    · obtain ⟨x, hx, h⟩ := bind_some h
      obtain ⟨_, _, h⟩ := bind_some h
      split at h
      · refine ih _ _ _ _ _ (fun y hy => ?_) hn h
        rw [List.mem_append] at hy
        rcases hy with hy | hy
        · exact hsn y hy
        · simp at hy; subst hy; exact hn
      · cases h
    · obtain ⟨x, hx, h⟩ := bind_some h
      have hg := step_grow hh hx
      have this : GrowN c n0 s x.2.2 := ⟨hg.next, hg.gone, fun id hw hi => hg.low id (drawCtx_wr hsn hn hi hw) (Nat.lt_of_lt_of_le hi hn), fun id hv hi => hg.hid id (drawCtx_vis hv) hi, hg.dom⟩
      split at h
      · refine this.trans (ih _ _ _ _ _ (fun y hy => ?_) (Nat.le_trans hn hg.next) h)
        rw [List.mem_append] at hy
        rcases hy with hy | hy
        · exact hsn y hy
        · simp at hy; subst hy; exact hn
      · obtain ⟨_, _, h⟩ := bind_some h
        cases h; exact this
      · cases h

theorem region_grow {hd : Handler} (hh : HGrow hd) {c : Ctx} {ops : Array Oper} {draw : Bool} {fr : Fr} {s : St} {r : Ex × Fr × St} (h : region g hd c ops draw fr s = some r) : Grow c s r.2.2 := by
  unfold region at h
  split at h
  · obtain ⟨_, _, h⟩ := bind_some h
    exact (stepsDraw_grow hh _ _ _ _ _ _ (fun x hx => by cases hx) (Nat.le_refl _) h).grow
  · exact stepsIn_grow hh _ _ _ _ h

theorem rounds_grow {c : Ctx} {body : Fr → St → Option (Ex × Fr × St)} (hb : ∀ fr s r, body fr s = some r → Grow c s r.2.2) (ds : List Tmp) : ∀ (n : Nat) (fr : Fr) (s : St) (r : Ex × Fr × St), rounds body ds n fr s = some r → Grow c s r.2.2 := by
  intro n
  induction n with
  | zero => intro fr s r h; cases h
  | succ n ih =>
    intro fr s r h
    unfold rounds at h
    obtain ⟨x, hx, h⟩ := bind_some h
    have := hb _ _ _ hx
    split at h
    · exact this.trans (ih _ _ _ h)
    · cases h; exact this

theorem code_grow {hd : Handler} (hh : HGrow hd) {lim : Nat} {c : Ctx} : ∀ (k : Code) (fr : Fr) (s : St) (r : Ex × Fr × St), code g hd lim c k fr s = some r → Grow c s r.2.2 := by
  intro k
  induction k with
  | skip => intro fr s r h; simp only [code] at h; cases h; exact Grow.refl _ _
  | label l => intro fr s r h; simp only [code] at h; cases h; exact Grow.refl _ _
  | ret => intro fr s r h; simp only [code] at h; cases h; exact Grow.refl _ _
  | exit l => intro fr s r h; simp only [code] at h; cases h; exact Grow.refl _ _
  | goto l => intro fr s r h; simp only [code] at h; cases h
  | refuse l => intro fr s r h; simp only [code] at h; cases h
  | region i ops draw => intro fr s r h; simp only [code] at h; exact region_grow hh h
  | seq a b ia ib =>
    intro fr s r h
    simp only [code] at h
    obtain ⟨x, hx, h⟩ := bind_some h
    have := ia _ _ _ hx
    split at h
    · exact this.trans (ib _ _ _ h)
    · cases h; exact this
  | cond x a b ia ib =>
    intro fr s r h
    simp only [code] at h
    obtain ⟨v, _, h⟩ := bind_some h
    split at h
    · exact ia _ _ _ h
    · exact ib _ _ _ h
    · cases h
  | block i a ia =>
    intro fr s r h
    simp only [code] at h
    obtain ⟨x, hx, h⟩ := bind_some h
    have := ia _ _ _ hx
    split at h
    · cases h; exact this
    · cases h; exact this
  | loop a ia =>
    intro fr s r h
    simp only [code] at h
    exact rounds_grow (fun fr s r h => ia fr s r h) _ _ _ _ _ h
  | scope a ia => intro fr s r h; simp only [code] at h; exact ia fr s r h
  | rangeFunc f ps as body ia ib =>
    intro fr s r h
    simp only [code] at h
    obtain ⟨fv, _, h⟩ := bind_some h
    obtain ⟨_, _, h⟩ := bind_some h
    obtain ⟨_, _, h⟩ := bind_some h
    obtain ⟨x, hx, h⟩ := bind_some h
    have h1 := (Grow.new c s (.loop { fn := fr.fn, nt := fr.nt, tm := fr.tm, params := ps, assign := as, body := body, state := .ready, pending := none }))
    have h2 := h1.trans (hh _ _ _ _ _ hx)
    split at h
    · split at h
      · obtain ⟨_, _, h⟩ := bind_some h
        obtain ⟨_, _, h⟩ := bind_some h
        cases h
        exact Grow.setNew none h2 (Nat.le_refl _) (by have := (hh _ _ _ _ _ hx).next; simp only [St.new] at this; omega)
      · cases h
    · cases h

theorem runBody_grow {hd : Handler} (hh : HGrow hd) {lim : Nat} {i : FnI} {f : FuncId} {args : Array Value} {c : Ctx} {s : St} {r : Outc × St} (h : runBody g hd lim i f args c s = some r) : Grow c s r.2 := by
  unfold runBody at h
  obtain ⟨_, _, h⟩ := bind_some h
  simp only at h
  obtain ⟨x, hx, h⟩ := bind_some h
  have := code_grow hh _ _ _ _ hx
  split at h
  · obtain ⟨_, _, h⟩ := bind_some h; cases h; exact this
  · obtain ⟨_, _, h⟩ := bind_some h; cases h; exact this
  · cases h; exact this
  · cases h

theorem runRound_grow {hd : Handler} (hh : HGrow hd) {lim id : Nat} {args : Array Value} {c : Ctx} {s : St} {r : Outc × St} (h : runRound g hd lim id args c s = some r) : Grow c s r.2 := by
  unfold runRound at h
  split at h
  · rename_i l hl
    obtain ⟨hv, hg⟩ := look_some hl
    obtain ⟨_, hc, h⟩ := bind_some h
    rw [chk_some] at hc
    simp only [Bool.and_eq_true, decide_eq_true_eq] at hc
    have hf := hc.1.1
    simp only at h
    obtain ⟨x, hx, h⟩ := bind_some h
    have h1 := code_grow hh _ _ _ _ hx
    split at h
    · split at h
      · rename_i l1 hl1
        obtain ⟨hv1, hg1⟩ := look_some hl1
        obtain ⟨_, _, h⟩ := bind_some h
        obtain ⟨y, hy, h⟩ := bind_some h
        obtain ⟨p, _, h⟩ := bind_some h
        have h2 := (h1.trans (Grow.set _ hf hv1 hg1)).trans (code_grow hh _ _ _ _ hy)
        split at h
        · rename_i l2 hl2
          obtain ⟨hv2, hg2⟩ := look_some hl2
          cases h
          exact h2.trans (Grow.set _ hf hv2 hg2)
        · cases h
      · cases h
    · cases h
  · cases h

theorem shed_grow {c : Ctx} {s s' : St} {v : Value} {r : Value × St} (h : shed s s' v = some r) : Grow c s r.2 := by
  unfold shed at h
  split at h
  · split at h
    · split at h
      · cases h; exact Grow.new _ _ _
      · cases h
    · cases h
  · split at h
    · cases h; exact Grow.refl _ _
    · cases h

theorem call_grow (hH : ∀ f hd, g.hand f = some hd → ∀ args c s r, hd args c s = some r → Grow c s r.2) : ∀ n, HGrow (call g n) := by
  intro n
  induction n with
  | zero => intro fv args c s r h; cases h
  | succ n ih =>
    intro fv args c s r h
    unfold call at h
    split at h
    · simp only at h
      split at h
      · rename_i hd hhd; exact hH _ _ hhd _ _ _ _ h
      · split at h
        · cases h
        · split at h
          · obtain ⟨x, hx, h⟩ := bind_some h
            split at h
            · obtain ⟨y, hy, h⟩ := bind_some h
              cases h; exact shed_grow hy
            · cases h
          · exact runBody_grow ih h
    · split at h
      · exact runRound_grow ih h
      · cases h
    · cases h

end Go.Am
