/- When a job has ended on all its nodes, none of its steps has a core: what is computed. -/
import Derived.Test.YtbhemcpmklkepaaU
namespace Go.Proofs.Ytbhemcpmklkepaa
open Go.Am
noncomputable section
theorem evM_iff {k : Int} {x y : Ev} : evM k x y = true ↔ y.kind = k ∧ y.job = x.job ∧ y.epoch = x.epoch ∧ y.node = x.node ∧ (whole k = true ∨ y.step = x.step) := by
  unfold evM
  simp only [Bool.and_eq_true, Bool.or_eq_true, beq_iff_eq]
theorem hasE_iff {X : Array Value} {o n : Nat} {k : Int} {x : Ev} : hasE X o n k x = true ↔ ∃ j, j < n ∧ evM k x (evAt X (o + j * 6)) = true := by
  unfold hasE firstN
  constructor
  · intro h
    cases hf : findN (evP X o k x) n with
    | none => rw [hf] at h; cases h
    | some j => exact ⟨j, (findN_get hf).1, (findN_get hf).2.1⟩
  · rintro ⟨j, hj, he⟩
    cases hf : findN (evP X o k x) n with
    | some _ => rfl
    | none =>
      have := findN_no hf j hj
      unfold evP at this
      rw [he] at this; cases this
section
variable {X : Array Value} {o n : Nat} {K : Array Value} {ko kn : Nat} {S : Array Value} {so : Nat} {x : Ev}
theorem may0 (hk : x.kind = 0) (h : mayB X o n K ko kn S so x = true) : hasE X o n 7 x = false := by
  unfold mayB at h
  rw [hk] at h
  have h : (!hasE X o n 0 x && !hasE X o n 7 x) = true := h
  simp only [Bool.and_eq_true, Bool.not_eq_true'] at h
  exact h.2
theorem may7 (hk : x.kind = 7) (h : mayB X o n K ko kn S so x = true) : hasE X o n 0 x = false := by
  unfold mayB at h
  rw [hk] at h
  have h : (!hasE X o n 0 x && !hasE X o n 7 x) = true := h
  simp only [Bool.and_eq_true, Bool.not_eq_true'] at h
  exact h.1
theorem may1 (hk : x.kind = 1) (h : mayB X o n K ko kn S so x = true) : hasE X o n 0 x = true ∧ hasE X o n 6 x = false ∧ hasE X o n 1 x = false := by
  unfold mayB at h
  rw [hk] at h
  have h : (hasE X o n 0 x && ((fstE X o n 0 x).arg == 0 && (!hasE X o n 6 x && (!hasE X o n 1 x && !hasE X o n 2 x)))) = true := h
  simp only [Bool.and_eq_true, Bool.not_eq_true'] at h
  exact ⟨h.1, h.2.2.1, h.2.2.2.1⟩
theorem may3 (hk : x.kind = 3) (h : mayB X o n K ko kn S so x = true) : hasE X o n 1 x = true := by
  unfold mayB at h
  rw [hk] at h
  have h : (hasE X o n 1 x && (!hasE X o n 3 x && (!hasE X o n 4 x && hasE X o n 10 (x.at (-1))))) = true := h
  simp only [Bool.and_eq_true] at h
  exact h.1
theorem may4 (hk : x.kind = 4) (h : mayB X o n K ko kn S so x = true) : hasE X o n 1 x = true := by
  unfold mayB at h
  rw [hk] at h
  have h : (hasE X o n 1 x && (!hasE X o n 3 x && (!hasE X o n 4 x && !hasE X o n 10 (x.at (-1))))) = true := h
  simp only [Bool.and_eq_true] at h
  exact h.1
theorem may5 (hk : x.kind = 5) (h : mayB X o n K ko kn S so x = true) : hasE X o n 3 x = true := by
  unfold mayB at h
  rw [hk] at h
  have h : (hasE X o n 3 x && !hasE X o n 5 x) = true := h
  simp only [Bool.and_eq_true] at h
  exact h.1
theorem may6 (hk : x.kind = 6) (h : mayB X o n K ko kn S so x = true) : alvB X o n x = false := by
  unfold mayB at h
  rw [hk] at h
  have h : (hasE X o n 0 x && (!hasE X o n 6 x && !alvB X o n x)) = true := h
  simp only [Bool.and_eq_true, Bool.not_eq_true'] at h
  exact h.2.2
end
/-- No event behind an end has cores. -/
theorem free_cnd {J : Array Value} {jo : Nat} {X : Array Value} {o n : Nat} {nd : Int} (hno : ∀ i, i < n → badC J jo 1 X o i = false) (hep : ∀ i, i < n → (evAt X (o + i * 6)).epoch = 0)
    (hend : hasE X o n 6 ⟨0, nd, 1, 0, 0, 0⟩ = true ∨ hasE X o n 7 ⟨0, nd, 1, 0, 0, 0⟩ = true) (i : Nat) (hi : i < n) : cndA J jo 1 X o n nd i = false := by
  have hmay : ∀ j, j < n → mayB X o j (ndX J (jobK jo (evAt X (o + j * 6)).job)) (ndO J (jobK jo (evAt X (o + j * 6)).job)) (ndL J (jobK jo (evAt X (o + j * 6)).job)) (stX J (jobK jo (evAt X (o + j * 6)).job)) (stO J (jobK jo (evAt X (o + j * 6)).job)) (evAt X (o + j * 6)) = true := fun j hj => by
    have := hno j hj
    unfold badC mayC mayJ at this
    cases h : mayB X o j (ndX J (jobK jo (evAt X (o + j * 6)).job)) (ndO J (jobK jo (evAt X (o + j * 6)).job)) (ndL J (jobK jo (evAt X (o + j * 6)).job)) (stX J (jobK jo (evAt X (o + j * 6)).job)) (stO J (jobK jo (evAt X (o + j * 6)).job)) (evAt X (o + j * 6)) with
    | true => rfl
    | false => rw [h] at this; simp at this
  cases hc : cndA J jo 1 X o n nd i with
  | false => rfl
  | true =>
    exfalso
    unfold cndA at hc
    simp only [Bool.and_eq_true, Bool.not_eq_true', beq_iff_eq] at hc
    obtain ⟨c1, c2, c3, c4, c5⟩ := hc
    obtain ⟨j1, j2, _, _⟩ := told_job c3
    have cj : (evAt X (o + i * 6)).job = 1 := by omega
    have ce := hep i hi
    obtain ⟨m0, m6, m1⟩ := may1 c1 (hmay i hi)
    -- one hold at most
    have once : ∀ q, q < i → (evAt X (o + q * 6)).kind = 1 → (evAt X (o + q * 6)).job = 1 → (evAt X (o + q * 6)).epoch = 0 → (evAt X (o + q * 6)).node = nd → (evAt X (o + q * 6)).step = (evAt X (o + i * 6)).step → False := fun q hq q1 q2 q3 q4 q5 => by
      rw [hasE_iff.2 ⟨q, hq, evM_iff.2 ⟨q1, by rw [q2, cj], by rw [q3, ce], by rw [q4, c2], .inr q5⟩⟩] at m1
      cases m1
    have rest : ∀ (k : Int) m, m < n → hasE X (o + (i + 1) * 6) (n - (i + 1)) k (evAt X (o + i * 6)) = false → evM k (evAt X (o + i * 6)) (evAt X (o + m * 6)) = true → i < m → False := fun k m hm hf he him => by
      rw [hasE_iff.2 ⟨m - (i + 1), by omega, by rw [show o + (i + 1) * 6 + (m - (i + 1)) * 6 = o + m * 6 by omega]; exact he⟩] at hf
      cases hf
    rcases hend with h | h
    · obtain ⟨j, hj, he⟩ := hasE_iff.1 h
      obtain ⟨e1, e2, e3, e4, _⟩ := evM_iff.1 he
      simp only at e2 e3 e4
      rcases Nat.lt_trichotomy i j with hij | rfl | hij
      · have hal := may6 e1 (hmay j hj)
        unfold alvB at hal
        have hnone : findN (alvP X o j X o j (evAt X (o + j * 6))) j = none := by
          cases hf : findN (alvP X o j X o j (evAt X (o + j * 6))) j with
          | none => rfl
          | some _ => rw [hf] at hal; cases hal
        have hp := findN_no hnone i hij
        unfold alvP at hp
        have b1 : ((evAt X (o + i * 6)).kind == 1) = true := by simp [c1]
        have b2 : ((evAt X (o + i * 6)).job == (evAt X (o + j * 6)).job) = true := by simp [cj, e2]
        have b3 : ((evAt X (o + i * 6)).epoch == (evAt X (o + j * 6)).epoch) = true := by simp [ce, e3]
        have b4 : ((evAt X (o + i * 6)).node == (evAt X (o + j * 6)).node) = true := by simp [c2, e4]
        rw [b1, b2, b3, b4] at hp
        simp only [Bool.true_and, Bool.and_eq_false_iff, Bool.not_eq_false'] at hp
        rcases hp with hp | hp
        · obtain ⟨m, hm, he4⟩ := hasE_iff.1 hp
          obtain ⟨f1, f2, f3, f4, f5⟩ := evM_iff.1 he4
          have f5 : (evAt X (o + m * 6)).step = (evAt X (o + i * 6)).step := by
            rcases f5 with f5 | f5
            · cases f5
            · exact f5
          rcases Nat.lt_trichotomy i m with him | rfl | him
          · exact rest 4 m (by omega) c4 he4 him
          · omega
          · obtain ⟨q, hq, he1⟩ := hasE_iff.1 (may4 f1 (hmay m (by omega)))
            obtain ⟨g1, g2, g3, g4, g5⟩ := evM_iff.1 he1
            have g5 : (evAt X (o + q * 6)).step = (evAt X (o + m * 6)).step := by
              rcases g5 with g5 | g5
              · cases g5
              · exact g5
            exact once q (by omega) g1 (by rw [g2, f2, cj]) (by rw [g3, f3, ce]) (by rw [g4, f4, c2]) (by rw [g5, f5])
        · obtain ⟨m, hm, he5⟩ := hasE_iff.1 hp
          obtain ⟨f1, f2, f3, f4, f5⟩ := evM_iff.1 he5
          have f5 : (evAt X (o + m * 6)).step = (evAt X (o + i * 6)).step := by
            rcases f5 with f5 | f5
            · cases f5
            · exact f5
          rcases Nat.lt_trichotomy i m with him | rfl | him
          · exact rest 5 m (by omega) c5 he5 him
          · omega
          · obtain ⟨p, hp, he3⟩ := hasE_iff.1 (may5 f1 (hmay m (by omega)))
            obtain ⟨k1, k2, k3, k4, k5⟩ := evM_iff.1 he3
            have k5 : (evAt X (o + p * 6)).step = (evAt X (o + m * 6)).step := by
              rcases k5 with k5 | k5
              · cases k5
              · exact k5
            obtain ⟨q, hq, he1⟩ := hasE_iff.1 (may3 k1 (hmay p (by omega)))
            obtain ⟨g1, g2, g3, g4, g5⟩ := evM_iff.1 he1
            have g5 : (evAt X (o + q * 6)).step = (evAt X (o + p * 6)).step := by
              rcases g5 with g5 | g5
              · cases g5
              · exact g5
            exact once q (by omega) g1 (by rw [g2, k2, f2, cj]) (by rw [g3, k3, f3, ce]) (by rw [g4, k4, f4, c2]) (by rw [g5, k5, f5])
      · omega
      · rw [hasE_iff.2 ⟨j, hij, evM_iff.2 ⟨e1, by rw [e2, cj], by rw [e3, ce], by rw [e4, c2], .inl rfl⟩⟩] at m6
        cases m6
    · obtain ⟨j, hj, he⟩ := hasE_iff.1 h
      obtain ⟨e1, e2, e3, e4, _⟩ := evM_iff.1 he
      simp only at e2 e3 e4
      have v0 := may7 e1 (hmay j hj)
      obtain ⟨p, hp, he0⟩ := hasE_iff.1 m0
      obtain ⟨f1, f2, f3, f4, _⟩ := evM_iff.1 he0
      rcases Nat.lt_trichotomy p j with hpj | rfl | hpj
      · rw [hasE_iff.2 ⟨p, hpj, evM_iff.2 ⟨f1, by rw [f2, cj, e2], by rw [f3, ce, e3], by rw [f4, c2, e4], .inl rfl⟩⟩] at v0
        cases v0
      · omega
      · have w0 := may0 f1 (hmay p (by omega))
        rw [hasE_iff.2 ⟨j, hpj, evM_iff.2 ⟨e1, by rw [f2, cj, e2], by rw [f3, ce, e3], by rw [f4, c2, e4], .inl rfl⟩⟩] at w0
        cases w0
theorem acc_zero {J : Array Value} {jo jn : Nat} {X : Array Value} {o n : Nat} {nd : Int} (h : ∀ i, i < n → cndA J jo jn X o n nd i = false) : ∀ i, i ≤ n → accA J jo jn X o n nd i = 0 := by
  intro i
  induction i with
  | zero => intro _; rfl
  | succ i ih =>
    intro hi
    simp only [accA, h i (by omega), cond_false]
    exact ih (by omega)
end
end Go.Proofs.Ytbhemcpmklkepaa
