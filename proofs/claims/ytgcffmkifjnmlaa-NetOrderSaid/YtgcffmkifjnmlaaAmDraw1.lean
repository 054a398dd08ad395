/- Regions that draw their order: parts of frames; own variables. -/
import Derived.Test.YtgcffmkifjnmlaaAmSee
namespace Go.Am

theorem pick_get {α : Type} : ∀ (ks : List Nat) (src t : Tr α) (x : Nat), (pick ks src t).get x = if x ∈ ks ∧ (src.get x).isSome then src.get x else t.get x := by
  intro ks
  induction ks with
  | nil => intro src t x; simp [pick]
  | cons k r ih =>
    intro src t x
    simp only [pick, ih, List.mem_cons]
    by_cases h1 : x ∈ r ∧ (src.get x).isSome = true
    · rw [if_pos h1, if_pos ⟨.inr h1.1, h1.2⟩]
    · rw [if_neg h1]
      cases hk : src.get k with
      | none =>
        simp only
        by_cases e : x = k
        · subst e
          rw [if_neg (by simp [hk])]
        · rw [if_neg (by rintro ⟨h | h, h2⟩; exact e h; exact h1 ⟨h, h2⟩)]
      | some v =>
        simp only [Tr.get_put]
        by_cases e : x = k
        · subst e; rw [if_pos rfl, if_pos ⟨.inl rfl, by simp [hk]⟩, hk]
        · rw [if_neg e, if_neg (by rintro ⟨h | h, h2⟩; exact e h; exact h1 ⟨h, h2⟩)]

theorem pick_nil {α : Type} (ks : List Nat) (src : Tr α) (x : Nat) : (pick ks src .nil).get x = if x ∈ ks then src.get x else none := by
  rw [pick_get, Tr.get_nil]
  by_cases h : x ∈ ks
  · cases hs : src.get x <;> simp [h]
  · simp [h]

theorem copy_get {α : Type} : ∀ (ks : List Nat) (src t : Tr α) (x : Nat), (copyAt ks src t).get x = if x ∈ ks then src.get x else t.get x := by
  intro ks
  induction ks with
  | nil => intro src t x; simp [copyAt]
  | cons k r ih =>
    intro src t x
    simp only [copyAt, ih, Tr.get_set, List.mem_cons]
    by_cases h1 : x ∈ r
    · simp [h1]
    · by_cases h2 : x = k <;> simp [h1, h2]

theorem Vrel.det {φ φ' : Nat → Pl} {c c' : Ctx} {n n' : Nat} (hi : ∀ id, In c n id → In c' n' id → φ' id = φ id) {v v1 v2 : Value} (h : Vrel φ c n v v1) (k : Vrel φ' c' n' v v2) : v2 = v1 := by
  induction h generalizing v2 with
  | bool | int | float | string | nilPointer | nilSlice | nilMap | nilFunc | nilIface => cases k; rfl
  | pointer id o h => cases k with | pointer _ _ h' => rw [hi id h h']
  | slice id o l cp h => cases k with | slice _ _ _ _ h' => rw [hi id h h']
  | map id h => cases k with | map _ h' => rw [hi id h h']
  | yield id h => cases k with
    | yield _ h' => rw [hi id h h']
  | iface t v v' _ ih => cases k with | iface _ _ _ hk => rw [ih hk]
  | func f a b a' b' ha hb hA hB iA iB => cases k with
    | func _ _ _ a2 b2 ha2 hb2 hA2 hB2 =>
      have e1 : a2 = a' := by
        apply Array.ext (by rw [← ha, ← ha2])
        intro i h1 h2
        have h3 : i < a.size := by rw [ha2]; exact h1
        exact iA i _ _ (Array.getElem?_eq_getElem h3) (Array.getElem?_eq_getElem h2) (hA2 i _ _ (Array.getElem?_eq_getElem h3) (Array.getElem?_eq_getElem h1))
      have e2 : b2 = b' := by
        apply Array.ext (by rw [← hb, ← hb2])
        intro i h1 h2
        have h3 : i < b.size := by rw [hb2]; exact h1
        exact iB i _ _ (Array.getElem?_eq_getElem h3) (Array.getElem?_eq_getElem h2) (hB2 i _ _ (Array.getElem?_eq_getElem h3) (Array.getElem?_eq_getElem h1))
      rw [e1, e2]
  | agg a a' ha hA iA => cases k with
    | agg _ a2 ha2 hA2 =>
      have e1 : a2 = a' := by
        apply Array.ext (by rw [← ha, ← ha2])
        intro i h1 h2
        have h3 : i < a.size := by rw [ha2]; exact h1
        exact iA i _ _ (Array.getElem?_eq_getElem h3) (Array.getElem?_eq_getElem h2) (hA2 i _ _ (Array.getElem?_eq_getElem h3) (Array.getElem?_eq_getElem h1))
      rw [e1]
  | tuple a a' ha hA iA => cases k with
    | tuple _ a2 ha2 hA2 =>
      have e1 : a2 = a' := by
        apply Array.ext (by rw [← ha, ← ha2])
        intro i h1 h2
        have h3 : i < a.size := by rw [ha2]; exact h1
        exact iA i _ _ (Array.getElem?_eq_getElem h3) (Array.getElem?_eq_getElem h2) (hA2 i _ _ (Array.getElem?_eq_getElem h3) (Array.getElem?_eq_getElem h1))
      rw [e1]

theorem Arel.det {φ φ' : Nat → Pl} {c c' : Ctx} {n n' : Nat} (hi : ∀ id, In c n id → In c' n' id → φ' id = φ id) {v v1 v2 : Array Value} (h : Arel φ c n v v1) (k : Arel φ' c' n' v v2) : v2 = v1 := by
  apply Array.ext (by rw [← h.1, ← k.1])
  intro i h1 h2
  have h3 : i < v.size := by rw [k.1]; exact h1
  exact (h.2 i _ _ (Array.getElem?_eq_getElem h3) (Array.getElem?_eq_getElem h2)).det hi (k.2 i _ _ (Array.getElem?_eq_getElem h3) (Array.getElem?_eq_getElem h1))

/-! ### Which own variables an operation turns -/
section
variable {g : Cfg} {c : Ctx} {fr : Fr} {s : St}

theorem doNew_loc {d : Option Tmp} {cells : Array Value} {r : Value × Tr (Array Value) × St} (h : doNew g fr s d cells = some r) {x : Nat} (hx : x ∉ d.toList) : r.2.1.get x = fr.loc.get x := by
  unfold doNew at h
  split at h
  · rename_i d
    split at h
    · split at h
      · cases h
        simp only [Tr.get_put]
        rw [if_neg (by simpa using hx)]
      · cases h
    · cases h; rfl
  · cases h

theorem doStore_loc (htm : ∀ t v, fr.tm.get t = some v → local? v = false) {t : TypeId} {x y : Operand} {r : Tr (Array Value) × St} (h : doStore g c fr s t x y = some r) {d : Nat} (hd : ∀ u, x = .tmp u → d ∉ ptd fr u) : r.1.get d = fr.loc.get d := by
  unfold doStore at h
  obtain ⟨p, hp, h⟩ := bind_some h
  obtain ⟨v, _, h⟩ := bind_some h
  obtain ⟨n, _, h⟩ := bind_some h
  obtain ⟨_, _, h⟩ := bind_some h
  split at h
  · rename_i b o sp
    obtain ⟨cs, _, h⟩ := bind_some h
    obtain ⟨_, _, h⟩ := bind_some h
    cases h
    simp only [Tr.get_put]
    rw [if_neg]
    rintro rfl
    cases x with
    | tmp u =>
      simp only [Fr.ev] at hp
      split at hp
      · rename_i q hq
        cases hp
        exact hd u rfl (by simp [ptd, hq])
      · have := htm _ _ hp; simp [local?] at this
    | const v =>
      simp only [Fr.ev] at hp
      split at hp
      · rename_i hpl; cases hp; simp [plainN] at hpl
      · cases hp
    | global i =>
      simp only [Fr.ev] at hp
      split at hp
      · cases hp
      · cases hp
    | func f => simp only [Fr.ev] at hp; cases hp
  · obtain ⟨s', _, h⟩ := bind_some h
    cases h; rfl
  · cases h

theorem op_loc (htm : ∀ t v, fr.tm.get t = some v → local? v = false) {hd : Handler} {o : Oper} {r : Outc} {loc' : Tr (Array Value)} {s' : St} (h : op g hd c fr s o = some (r, loc', s')) {d : Nat} (hd : d ∉ wrlOf fr o) : loc'.get d = fr.loc.get d := by
  have same : ∀ {q : Option Value}, (q.map fun v => (Outc.ret v, fr.loc, s)) = some (r, loc', s') → loc'.get d = fr.loc.get d := fun h => by
    obtain ⟨x, hx, e⟩ := same_some h
    cases e; rfl
  unfold op at h
  simp only at h
  split at h
  · exact same h
  · exact same h
  · rename_i ho
    replace h := bind_some h; obtain ⟨zero, hz, h⟩ := h
    replace h := bind_some h; obtain ⟨_, hp, h⟩ := h
    replace h := bind_some h; obtain ⟨r, hn, h⟩ := h
    cases h; exact doNew_loc hn (by simpa [wrlOf, ho] using hd)
  · rename_i ho
    replace h := bind_some h; obtain ⟨v0, hv, h⟩ := h
    replace h := bind_some h; obtain ⟨r, hn, h⟩ := h
    cases h; exact doNew_loc hn (by simpa [wrlOf, ho] using hd)
  · exact same h
  · obtain ⟨x, hx, e⟩ := Option.map_eq_some_iff.1 h; cases e; rfl
  · exact same h
  · rename_i ho
    obtain ⟨x, hx, e⟩ := Option.map_eq_some_iff.1 h; cases e
    exact doStore_loc htm hx (fun u e => by simpa [wrlOf, ho, e] using hd)
  · exact same h
  · exact same h
  · exact same h
  · exact same h
  · cases h; rfl
  · obtain ⟨x, hx, e⟩ := Option.map_eq_some_iff.1 h; cases e; rfl
  · rcases orElse_some h with h | h
    · exact same h
    · obtain ⟨x, hx, e⟩ := Option.map_eq_some_iff.1 h; cases e; rfl
  · exact same h
  · exact same h
  · exact same h
  · exact same h
  · exact same h
  · obtain ⟨x, hx, e⟩ := Option.map_eq_some_iff.1 h; cases e; rfl
  · obtain ⟨x, hx, e⟩ := Option.map_eq_some_iff.1 h; cases e; rfl
  · exact same h
  · exact same h
  · exact same h
  · exact same h
  · exact same h
  · replace h := bind_some h; obtain ⟨_, _, h⟩ := h
    split at h
    · cases h; rfl
    · cases h
  · split at h
    · rcases orElse_some h with h | h
      · exact same h
      · unfold doBuiltin at h
        replace h := bind_some h; obtain ⟨as, has, h⟩ := h
        split at h
        · replace h := bind_some h; obtain ⟨x, hx, h⟩ := h
          cases h; rfl
        · replace h := bind_some h; obtain ⟨x, hx, h⟩ := h
          cases h; rfl
        · replace h := bind_some h; obtain ⟨x, hx, h⟩ := h
          cases h; rfl
        · replace h := bind_some h; obtain ⟨x, hx, h⟩ := h
          cases h; rfl
        · replace h := bind_some h; obtain ⟨x, hx, h⟩ := h
          cases h; rfl
        · split at h
          · cases h; rfl
          · cases h
        · cases h
    · replace h := bind_some h; obtain ⟨fv, hfv, h⟩ := h
      replace h := bind_some h; obtain ⟨as, has, h⟩ := h
      replace h := bind_some h; obtain ⟨⟨r0, s0⟩, hh, h⟩ := h
      cases h; rfl
    · cases h
  · cases h

theorem step_loc (htm : ∀ t v, fr.tm.get t = some v → local? v = false) {hd : Handler} {ops : Array Oper} {o : Oper} {fr' : Fr} {s' : St} (h : step g hd c fr s ops o = some (.normal, fr', s')) {d : Nat} (hd : d ∉ wrlOf fr o) : fr'.loc.get d = fr.loc.get d := by
  unfold step at h
  replace h := bind_some h; obtain ⟨w, _, h⟩ := h
  split at h
  · replace h := bind_some h; obtain ⟨⟨r, loc1, s1⟩, hop, h⟩ := h
    simp only at h
    split at h
    · replace h := bind_some h; obtain ⟨fr1, hfr, h⟩ := h
      cases h
      rw [putO_loc hfr]
      exact op_loc htm hop hd
    · cases h
  · replace h := bind_some h; obtain ⟨fr1, hfr, h⟩ := h
    cases h
    rw [putO_loc hfr]
end
end Go.Am
