/- Checks of a region that draws its order, made quicker. -/
import Derived.Test.YtgcffmkifjnmlaaAmGrow2
namespace Go.Am
noncomputable section

def memN (d : Nat) : List Nat → Bool
  | [] => false
  | x :: r => cond (Nat.beq x d) true (memN d r)
theorem memN_eq (d : Nat) : ∀ l : List Nat, memN d l = l.contains d := by
  intro l
  induction l with
  | nil => rfl
  | cons x r ih =>
    simp only [memN, cond_beq, ih, List.contains_cons]
    by_cases h : x = d
    · subst h; simp
    · have : ¬ d = x := fun e => h e.symm
      simp [h, this]
def isDst (d : Nat) : Option Tmp → Bool
  | none => false
  | some x => Nat.beq x d

def row (b : List (List Nat)) (j : Nat) : List Nat := b.getD j []
def orderedF (b : List (List Nat)) (i j : Nat) : Bool := cond (Nat.blt i j) (memN i (row b j)) (memN j (row b i))
theorem orderedF_eq (b : List (List Nat)) (i j : Nat) : orderedF b i j = ordered b i j := by
  unfold orderedF ordered row
  rw [memN_eq, memN_eq]
  by_cases h : i < j
  · rw [if_pos h, show Nat.blt i j = true from by simp [Nat.blt]; omega]; rfl
  · rw [if_neg h, show Nat.blt i j = false from by
      cases hb : Nat.blt i j with
      | false => rfl
      | true => simp [Nat.blt] at hb; omega]; rfl

/-- Which operation writes which slot; none: one is written twice. -/
def dstTr : List (Oper × Nat) → Tr Nat → Option (Tr Nat)
  | [], t => some t
  | x :: r, t => match x.1.dst with
    | none => dstTr r t
    | some d => match t.get d with
      | some _ => none
      | none => dstTr r (t.put d x.2)

theorem dstTr_some : ∀ {l : List (Oper × Nat)} {t0 tr : Tr Nat}, dstTr l t0 = some tr → (∀ d i, t0.get d = some i → tr.get d = some i) ∧ ∀ o i d, (o, i) ∈ l → o.dst = some d → tr.get d = some i := by
  intro l
  induction l with
  | nil => intro t0 tr h; cases h; exact ⟨fun _ _ h => h, fun o i d h => by cases h⟩
  | cons x r ih =>
    intro t0 tr h
    simp only [dstTr] at h
    split at h
    · rename_i hd
      obtain ⟨a, b⟩ := ih h
      refine ⟨a, fun o i d hm ho => ?_⟩
      rcases List.mem_cons.1 hm with e | hm
      · subst e; simp only at hd; rw [hd] at ho; cases ho
      · exact b o i d hm ho
    · rename_i d hd
      split at h
      · cases h
      · rename_i hn
        obtain ⟨a, b⟩ := ih h
        refine ⟨fun d' i hg => a d' i ?_, fun o i d' hm ho => ?_⟩
        · rw [Tr.get_put, if_neg]
          · exact hg
          · rintro rfl; rw [hn] at hg; cases hg
        · rcases List.mem_cons.1 hm with e | hm
          · subst e
            simp only at hd
            rw [hd] at ho; cases ho
            exact a _ _ (by rw [Tr.get_put, if_pos rfl])
          · exact b o i d' hm ho

/-- Do all edges that bind lead back? -/
def backF (ops : Array Oper) : Bool := ops.toList.zipIdx.all fun x => x.1.after.toList.all fun e => !Region.binds .gc e || decide (e.on < x.2)

def drawOkF (ops : Array Oper) (b : List (List Nat)) : Bool :=
  ((ops.toList.zipIdx).all fun x =>
      x.1.after.toList.all (fun e => decide (e.on < x.2) || (match e.ground with | .gcOnly _ => true | _ => false)) &&
      (match x.1.guard with | none => true | some (i, _) => memN i (row b x.2))) &&
  (backF ops || (ops.toList.zipIdx).all fun x => memN x.2 (Region.linearise .gc ops 0)) &&
  (match dstTr ops.toList.zipIdx .nil with
    | none => false
    | some tr => (ops.toList.zipIdx).all fun x => (opTmps x.1).all fun t => match tr.get t with
      | none => true
      | some i => Nat.beq i x.2 || orderedF b i x.2)

theorem go_acc (m : Region.Mode) (ops : Array Oper) : ∀ (fuel t : Nat) (listed : Array Bool) (acc : List Nat), Region.linearise.go m ops fuel t listed acc = acc.reverse ++ Region.linearise.go m ops fuel t listed [] := by
  intro fuel
  induction fuel with
  | zero => intro t listed acc; simp [Region.linearise.go]
  | succ n ih =>
    intro t listed acc
    simp only [Region.linearise.go]
    split
    · rename_i i _
      rw [ih _ _ (i :: acc), ih _ _ [i]]
      simp
    · simp

def open_ (listed : Array Bool) (n : Nat) : Nat := (List.range n).countP fun i => !listed.getD i true

theorem countP_lt {p q : Nat → Bool} {l : List Nat} (hpq : ∀ x ∈ l, q x = true → p x = true) {i : Nat} (hi : i ∈ l) (hp : p i = true) (hq : q i = false) : l.countP q < l.countP p := by
  induction l with
  | nil => cases hi
  | cons a r ih =>
    simp only [List.countP_cons]
    have hle : r.countP q ≤ r.countP p := List.countP_mono_left fun x hx => hpq x (List.mem_cons_of_mem _ hx)
    rcases List.mem_cons.1 hi with rfl | hi
    · rw [hp, hq]; simp; omega
    · have := ih (fun x hx => hpq x (List.mem_cons_of_mem _ hx)) hi
      by_cases ha : q a = true
      · rw [ha, hpq a (List.mem_cons_self) ha]; simp; omega
      · have : q a = false := by simpa using ha
        rw [this]; simp; split <;> omega

theorem go_all {ops : Array Oper} (hb : ∀ j o, ops[j]? = some o → ∀ e ∈ o.after, Region.binds .gc e = true → e.on < j) : ∀ (fuel t : Nat) (listed : Array Bool), listed.size = ops.size → open_ listed ops.size ≤ fuel → ∀ j, j < ops.size → listed.getD j true = false → j ∈ Region.linearise.go .gc ops fuel t listed [] := by
  intro fuel
  induction fuel with
  | zero =>
    intro t listed hsz hle j hj hl
    have : 0 < open_ listed ops.size := List.countP_pos_iff.2 ⟨j, by simpa using hj, by simp [hl]⟩
    omega
  | succ fuel ih =>
    intro t listed hsz hle j hj hl
    -- the least one that is open is ready
    have hready : ∃ i, i ∈ (List.range ops.size).filter fun i => !listed.getD i true && ((ops[i]?).map (·.after.all fun e => !Region.binds .gc e || listed.getD e.on false)).getD false := by
      have : ∀ n j, j < n → j < ops.size → listed.getD j true = false → ∃ i, i < ops.size ∧ listed.getD i true = false ∧ ∀ k, k < i → listed.getD k true = true := by
        intro n
        induction n with
        | zero => intro j h; omega
        | succ n ihn =>
          intro j hjn hj hl
          by_cases h : ∃ k, k < j ∧ listed.getD k true = false
          · obtain ⟨k, hk, hkl⟩ := h
            exact ihn k (by omega) (by omega) hkl
          · refine ⟨j, hj, hl, fun k hk => ?_⟩
            cases hc : listed.getD k true with
            | true => rfl
            | false => exact (h ⟨k, hk, hc⟩).elim
      obtain ⟨i, hi, hil, hmin⟩ := this (j + 1) j (Nat.lt_succ_self _) hj hl
      refine ⟨i, List.mem_filter.2 ⟨by simpa using hi, ?_⟩⟩
      rw [hil, Array.getElem?_eq_getElem hi]
      simp only [Bool.not_false, Bool.true_and, Option.map_some, Option.getD_some, Array.all_eq_true']
      intro e he
      cases hbe : Region.binds .gc e with
      | false => rfl
      | true =>
        have hlt := hb i _ (Array.getElem?_eq_getElem hi) e he hbe
        have hk := hmin _ hlt
        have hks : e.on < listed.size := by omega
        simp only [Bool.not_true, Bool.false_or]
        simp only [Array.getD, hks, dif_pos] at hk ⊢
        exact hk
    simp only [Region.linearise.go]
    generalize hrs : ((List.range ops.size).filter fun i => !listed.getD i true && ((ops[i]?).map (·.after.all fun e => !Region.binds .gc e || listed.getD e.on false)).getD false) = rs at hready ⊢
    obtain ⟨i0, hi0⟩ := hready
    have hpos : 0 < rs.length := List.length_pos_of_mem hi0
    have hlt : t % rs.length < rs.length := Nat.mod_lt _ hpos
    rw [List.getElem?_eq_getElem hlt]
    simp only
    generalize hi : rs[t % rs.length] = i
    have hmem : i ∈ rs := by rw [← hi]; exact List.getElem_mem _
    rw [← hrs] at hmem
    obtain ⟨hir, hic⟩ := List.mem_filter.1 hmem
    have hin : i < ops.size := by simpa using hir
    have hil : listed.getD i true = false := by
      simp only [Bool.and_eq_true, Bool.not_eq_true'] at hic
      exact hic.1
    rw [go_acc, List.reverse_singleton, List.singleton_append, List.mem_cons]
    by_cases e : j = i
    · exact .inl e
    · right
      have hget : ∀ k, (listed.setIfInBounds i true).getD k true = if k = i then true else listed.getD k true := by
        intro k
        by_cases hk : k < listed.size
        · by_cases hki : k = i
          · subst hki; simp [Array.getD, hk]
          · have : ¬ i = k := fun e => hki e.symm
            simp [Array.getD, hk, hki, this, Array.getElem_setIfInBounds]
        · simp [Array.getD, hk]
      refine ih _ _ (by simpa using hsz) ?_ j hj (by rw [hget, if_neg e]; exact hl)
      have : open_ (listed.setIfInBounds i true) ops.size < open_ listed ops.size := by
        refine countP_lt (fun x _ hx => ?_) hir (by simp [hil]) (by rw [hget, if_pos rfl]; rfl)
        rw [hget] at hx
        split at hx
        · cases hx
        · exact hx
      omega

theorem drawOkF_ok {ops : Array Oper} {b : List (List Nat)} (h : drawOkF ops b = true) : drawOk ops b = true := by
  unfold drawOkF at h
  simp only [Bool.and_eq_true] at h
  obtain ⟨⟨h1, hg⟩, h2⟩ := h
  rw [List.all_eq_true] at h1
  have hmem : ∀ j (hj : j < ops.size), (ops[j], j) ∈ ops.toList.zipIdx := fun j hj => by
    rw [List.mem_zipIdx_iff_getElem?]
    simp [hj]
  have hgc : ∀ j, j < ops.size → (Region.linearise .gc ops 0).contains j = true := by
    intro j hj
    rcases (by simpa using hg : backF ops = true ∨ ((ops.toList.zipIdx).all fun x => memN x.2 (Region.linearise .gc ops 0)) = true) with hb | ha
    · have hback : ∀ j o, ops[j]? = some o → ∀ e ∈ o.after, Region.binds .gc e = true → e.on < j := by
        intro j o ho e he hbe
        obtain ⟨hlt, rfl⟩ := Array.getElem?_eq_some_iff.1 ho
        have := List.all_eq_true.1 hb _ (hmem j hlt)
        have := List.all_eq_true.1 this e (by simpa using he)
        simpa [hbe] using this
      have := go_all hback ops.size 0 (Array.replicate ops.size false) (by simp) (by
        unfold open_
        exact Nat.le_trans List.countP_le_length (by simp)) j hj (by simp [Array.getD, hj])
      simpa [Region.linearise] using this
    · have := List.all_eq_true.1 ha _ (hmem j hj)
      rw [memN_eq] at this
      exact this
  unfold drawOk
  simp only [Bool.and_eq_true, List.all_eq_true, List.mem_range]
  refine ⟨fun j hj => ?_, fun i hi => ?_⟩
  · have a := h1 _ (hmem j hj)
    simp only [Bool.and_eq_true, List.all_eq_true] at a
    obtain ⟨a1, a2⟩ := a
    rw [Array.getElem?_eq_getElem hj]
    simp only [Bool.and_eq_true, List.all_eq_true]
    refine ⟨⟨a1, ?_⟩, hgc j hj⟩
    cases hgd : ops[j].guard with
    | none => rfl
    | some p => rw [hgd] at a2; simp only at a2 ⊢; rw [memN_eq] at a2; exact a2
  · split at h2
    · cases h2
    · rename_i tr htr
      obtain ⟨_, hb⟩ := dstTr_some htr
      have hat : ∀ k (hk : k < ops.size) d, ops[k].dst = some d → tr.get d = some k := fun k hk d hd => hb _ _ _ (hmem k hk) hd
      cases hd : dstOf ops i with
      | none => rfl
      | some d =>
        simp only [List.all_eq_true, List.mem_range]
        intro j hj
        have hdi : ops[i].dst = some d := by
          unfold dstOf at hd
          rw [Array.getElem?_eq_getElem hi] at hd
          exact hd
        have hti := hat i hi d hdi
        by_cases e : i = j
        · simp [e]
        · have hdj : dstOf ops j = ops[j].dst := by unfold dstOf; rw [Array.getElem?_eq_getElem hj]; rfl
          rw [hdj, Array.getElem?_eq_getElem hj]
          have e0 : (i == j) = false := by simp [e]
          have e1 : (ops[j].dst != some d) = true := by
            simp only [bne_iff_ne, ne_eq]
            intro hc
            have := hat j hj d hc
            rw [hti] at this
            exact e (Option.some.inj this)
          simp only [e0, e1, Bool.false_or, Bool.true_and]
          cases hc : (opTmps ops[j]).contains d with
          | false => rfl
          | true =>
            have := List.all_eq_true.1 (List.all_eq_true.1 h2 _ (hmem j hj)) d (by simpa using hc)
            simp only [hti] at this
            rw [orderedF_eq, show Nat.beq i j = false from by
              cases hb : Nat.beq i j with
              | false => rfl
              | true => exact (e (Nat.eq_of_beq_eq_true hb)).elim] at this
            simpa using this
end
end Go.Am
