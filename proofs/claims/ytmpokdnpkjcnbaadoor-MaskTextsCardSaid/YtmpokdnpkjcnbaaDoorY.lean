/- The least cores, and the others: the plain law. -/
import Derived.Test.YtmpokdnpkjcnbaaDoorX
namespace Go.Proofs.YtmpokdnpkjcnbaaDoor
open Go.Am
noncomputable section
theorem wd_eq {y : B64} {x : B256} {k : Nat} (h : ∀ j, j < 64 → y.getLsbD j = x.getLsbD (64 * k + j)) : U y = wd x k := by
  unfold wd
  refine congrArg U (BitVec.eq_of_getLsbD_eq fun j hj => ?_)
  rw [BitVec.getLsbD_extractLsb', decide_eq_true hj, Bool.true_and, h j hj]
theorem wd_not (x y : B256) {k : Nat} (hk : k < 4) : not64 (wd x k) (wd y k) = wd (x &&& ~~~y) k := by
  show not64 (U _) (U _) = _
  rw [u_not]
  refine wd_eq fun j hj => ?_
  rw [BitVec.getLsbD_and, BitVec.getLsbD_not, BitVec.getLsbD_extractLsb', BitVec.getLsbD_extractLsb', BitVec.getLsbD_and, BitVec.getLsbD_not, decide_eq_true hj, decide_eq_true (by omega), Bool.true_and, Bool.true_and, Bool.true_and, Bool.true_and]
theorem wd_and (x y : B256) (k : Nat) : and64 (wd x k) (wd y k) = wd (x &&& y) k := by
  show and64 (U _) (U _) = _
  rw [u_and]
  refine wd_eq fun j hj => ?_
  rw [BitVec.getLsbD_and, BitVec.getLsbD_extractLsb', BitVec.getLsbD_extractLsb', BitVec.getLsbD_and, decide_eq_true hj, Bool.true_and, Bool.true_and]
theorem wd_or (x y : B256) (k : Nat) : or64 (wd x k) (wd y k) = wd (x ||| y) k := by
  show or64 (U _) (U _) = _
  rw [u_or]
  refine wd_eq fun j hj => ?_
  rw [BitVec.getLsbD_or, BitVec.getLsbD_extractLsb', BitVec.getLsbD_extractLsb', BitVec.getLsbD_or, decide_eq_true hj, Bool.true_and, Bool.true_and]
theorem wd_zero (k : Nat) : wd 0#256 k = 0 := by unfold wd U; simp
theorem w0_wd (m : B256) (n : Int) (k : Nat) : w0 (wd m 0) (wd m 1) (wd m 2) (wd m 3) n k = wd (lowB m n.toNat 256) k := by
  unfold w0 lowW
  rw [ofI_wd]
theorem lowB_bit (m : B256) (k : Nat) : ∀ i, i ≤ 256 → ∀ j, (lowB m k i).getLsbD j = (decide (j < i) && (m.getLsbD j && decide (cntB m j < k))) := by
  intro i
  induction i with
  | zero => intro _ j; simp [lowB]
  | succ i ih =>
    intro hi j
    have h := ih (by omega) j
    have e : lowB m k (i + 1) = cond (m.getLsbD i && decide (cntB m i < k)) (plus (lowB m k i) i) (lowB m k i) := rfl
    rw [e]
    by_cases hj : j = i
    · subst hj
      rw [decide_eq_true (by omega : j < j + 1), Bool.true_and]
      rw [decide_eq_false (by omega : ¬ j < j), Bool.false_and] at h
      cases hc : (m.getLsbD j && decide (cntB m j < k)) with
      | true => rw [cond_true, plus_bit _ (by omega), h, decide_eq_true rfl]; rfl
      | false => rw [cond_false, h]
    · have e2 : decide (j < i + 1) = decide (j < i) := decide_eq_decide.2 ⟨fun h => by omega, fun h => by omega⟩
      rw [e2, ← h]
      cases hc : (m.getLsbD i && decide (cntB m i < k)) with
      | true => rw [cond_true, plus_bit _ (by omega), decide_eq_false hj, Bool.or_false]
      | false => rw [cond_false]
theorem cntB_low (m : B256) (k : Nat) : ∀ i, i ≤ 256 → cntB (lowB m k 256) i = min (cntB m i) k := by
  intro i
  induction i with
  | zero => intro _; show 0 = min 0 k; omega
  | succ i ih =>
    intro hi
    have h := ih (by omega)
    show cond ((lowB m k 256).getLsbD i) (cntB (lowB m k 256) i + 1) (cntB (lowB m k 256) i) = min (cond (m.getLsbD i) (cntB m i + 1) (cntB m i)) k
    rw [lowB_bit m k 256 (Nat.le_refl _), decide_eq_true (by omega : i < 256), Bool.true_and, h]
    cases m.getLsbD i with
    | false => rfl
    | true =>
      by_cases hc : cntB m i < k
      · rw [decide_eq_true hc]; show min (cntB m i) k + 1 = min (cntB m i + 1) k; omega
      · rw [decide_eq_false hc]; show min (cntB m i) k = min (cntB m i + 1) k; omega
theorem lstE_get (m : B256) : ∀ i t, t < cntB m i → ∃ j, j < i ∧ m.getLsbD j = true ∧ (lstE m i)[t]? = some (.int .i64 (j : Int)) := by
  intro i
  induction i with
  | zero => intro t ht; exact absurd ht (Nat.not_lt_zero _)
  | succ i ih =>
    intro t ht
    have e1 : cntB m (i + 1) = cond (m.getLsbD i) (cntB m i + 1) (cntB m i) := rfl
    have e2 : lstE m (i + 1) = cond (m.getLsbD i) (lstE m i ++ #[.int .i64 i]) (lstE m i) := rfl
    rw [e1] at ht
    rw [e2]
    cases hb : m.getLsbD i with
    | false =>
      rw [hb, cond_false] at ht
      obtain ⟨j, h1, h2, h3⟩ := ih t ht
      exact ⟨j, by omega, h2, h3⟩
    | true =>
      rw [hb, cond_true] at ht
      rw [cond_true]
      by_cases hl : t < cntB m i
      · obtain ⟨j, h1, h2, h3⟩ := ih t hl
        exact ⟨j, by omega, h2, by rw [Array.getElem?_append_left (by rw [lstE_size]; exact hl)]; exact h3⟩
      · have e : t = (lstE m i).size := by rw [lstE_size]; omega
        refine ⟨i, by omega, hb, ?_⟩
        rw [Array.getElem?_append_right (by omega), e, Nat.sub_self]
        rfl
theorem n_wd (x y : B256) : p0.N (wd x 0) (wd y 0) = wd (x &&& ~~~y) 0 ∧ p0.N (wd x 1) (wd y 1) = wd (x &&& ~~~y) 1 ∧ p0.N (wd x 2) (wd y 2) = wd (x &&& ~~~y) 2 ∧ p0.N (wd x 3) (wd y 3) = wd (x &&& ~~~y) 3 :=
  ⟨wd_not x y (by omega), wd_not x y (by omega), wd_not x y (by omega), wd_not x y (by omega)⟩
theorem la_true (m : B256) {n : Int} (h : n < 0) : la_c p0 g0 w0 (wd m 0) (wd m 1) (wd m 2) (wd m 3) n = true := by
  unfold la_c
  rw [p0Q, decide_eq_true h]; rfl
theorem lb_true (m : B256) {n : Int} (h : ¬ n < 0) (h1 : n > ((cntB m 256 : Nat) : Int)) : lb_c p0 g0 w0 (wd m 0) (wd m 1) (wd m 2) (wd m 3) n = true := by
  unfold lb_c
  rw [p0Q, p0C, decide_eq_false h, decide_eq_true h1]; rfl
/-- what stands in the rows -/
theorem rows (m : B256) (k : Nat) : lnA g0 w0 (wd m 0) (wd m 1) (wd m 2) (wd m 3) (k : Int) = cntB (lowB m k 256) 256 ∧ lnB p0 g0 w0 (wd m 0) (wd m 1) (wd m 2) (wd m 3) (k : Int) = cntB (m &&& ~~~(lowB m k 256)) 256 ∧
    rwA g0 w0 (wd m 0) (wd m 1) (wd m 2) (wd m 3) (k : Int) = lstE (lowB m k 256) 256 ∧ rwB p0 g0 w0 (wd m 0) (wd m 1) (wd m 2) (wd m 3) (k : Int) = lstE (m &&& ~~~(lowB m k 256)) 256 := by
  obtain ⟨n0, n1, n2, n3⟩ := n_wd m (lowB m k 256)
  unfold lnA lnB rwA rwB
  simp only [w0_wd, Int.toNat_natCast]
  rw [n0, n1, n2, n3]
  exact ⟨(g0_wd _).1, (g0_wd _).1, (g0_wd _).2, (g0_wd _).2⟩
theorem low_sub (m : B256) (k : Nat) : lowB m k 256 &&& ~~~m = 0#256 := by
  apply wd_ext
  intro n hn
  rw [BitVec.getLsbD_and, BitVec.getLsbD_not, lowB_bit m k 256 (Nat.le_refl _), decide_eq_true hn]
  cases m.getLsbD n <;> simp
theorem law6 (m : B256) (n : Int) : ∃ v s', call cfU 60 (.func (.func 6) #[] #[]) #[mkB m, .int .i64 n] (ctx0 0) st0 = some (.ret v, s') ∧ shed st0 s' v = some (.bool true, st0) := by
  by_cases h0 : n < 0
  · exact path_call tX_ok ((la_cond p0 g0 w0 ..).trans (la_true m h0)) (la_leaf p0 g0 w0 ..)
  by_cases h1 : n > ((cntB m 256 : Nat) : Int)
  · exact path_call tX_ok ((lb_cond p0 g0 w0 ..).trans (lb_true m h0 h1)) (lb_leaf p0 g0 w0 ..)
  obtain ⟨k, rfl⟩ : ∃ k : Nat, n = k := ⟨n.toNat, by omega⟩
  have hk : k ≤ cntB m 256 := by omega
  have hk2 := cntB_le m 256
  obtain ⟨r1, r2, r3, r4⟩ := rows m k
  have hA : cntB (lowB m k 256) 256 = k := by rw [cntB_low m k 256 (Nat.le_refl _)]; omega
  rw [hA] at r1
  obtain ⟨n0, n1, n2, n3⟩ := n_wd m (lowB m k 256)
  obtain ⟨l0, l1, l2, l3⟩ := n_wd (lowB m k 256) m
  rw [low_sub, wd_zero] at l0 l1 l2 l3
  have d0 : decide ((k : Int) < 0) = false := decide_eq_false h0
  have d1 : decide ((k : Int) > ((cntB m 256 : Nat) : Int)) = false := decide_eq_false h1
  have gA := (g0_wd (lowB m k 256)).1
  have gB := (g0_wd (m &&& ~~~(lowB m k 256))).1
  rw [hA] at gA
  cases za : Nat.beq k 0 with
  | true =>
    have hk0 := Nat.eq_of_beq_eq_true za
    cases zb : Nat.beq (cntB (m &&& ~~~(lowB m k 256)) 256) 0 with
    | true =>
      refine path_call tX_ok ((lc_cond p0 g0 w0 ..).trans ?_) (lc_leaf p0 g0 w0 (wd m 0) (wd m 1) (wd m 2) (wd m 3) (k : Int))
      unfold lc_c
      simp only [w0_wd, Int.toNat_natCast, p0Q, p0C, wd_inQ, n0, n1, n2, n3, l0, l1, l2, l3, d0, d1, gA, gB, za, zb]
      subst hk0
      rfl
    | false =>
      refine path_call tX_ok ((ld_cond p0 g0 w0 ..).trans ?_) (ld_leaf p0 g0 w0 (wd m 0) (wd m 1) (wd m 2) (wd m 3) (k : Int))
      unfold ld_c
      simp only [w0_wd, Int.toNat_natCast, p0Q, p0C, wd_inQ, n0, n1, n2, n3, l0, l1, l2, l3, d0, d1, gA, gB, za, zb]
      subst hk0
      rfl
  | false =>
    have hk0 : k ≠ 0 := Nat.ne_of_beq_eq_false za
    have e0 : ((k : Int) == 0) = false := by
      cases h : ((k : Int) == 0) with
      | false => rfl
      | true => rw [beq_iff_eq] at h; omega
    cases zb : Nat.beq (cntB (m &&& ~~~(lowB m k 256)) 256) 0 with
    | true =>
      refine path_call tX_ok ((le_cond p0 g0 w0 ..).trans ?_) (le_leaf p0 g0 w0 (wd m 0) (wd m 1) (wd m 2) (wd m 3) (k : Int))
      unfold le_c
      simp only [r1, r2, w0_wd, Int.toNat_natCast, p0Q, p0C, wd_inQ, n0, n1, n2, n3, l0, l1, l2, l3, d0, d1, gA, gB, za, zb, e0, beq_self_eq_true]
      rfl
    | false =>
      have hb0 : cntB (m &&& ~~~(lowB m k 256)) 256 ≠ 0 := Nat.ne_of_beq_eq_false zb
      have eb : (((cntB (m &&& ~~~(lowB m k 256)) 256 : Nat) : Int) == 0) = false := by
        cases h : (((cntB (m &&& ~~~(lowB m k 256)) 256 : Nat) : Int) == 0) with
        | false => rfl
        | true => rw [beq_iff_eq] at h; omega
      refine path_call tX_ok ((lf_cond p0 g0 w0 ..).trans ?_) (lf_leaf p0 g0 w0 (wd m 0) (wd m 1) (wd m 2) (wd m 3) (k : Int))
      unfold lf_c
      have ew : IntKind.wrap .i64 ((k : Int) - 1) = ((k - 1 : Nat) : Int) := by
        rw [wrapI (by omega) (by omega)]; omega
      obtain ⟨j, j1, j2, j3⟩ := lstE_get (lowB m k 256) 256 (k - 1) (by omega)
      obtain ⟨i, i1, i2, i3⟩ := lstE_get (m &&& ~~~(lowB m k 256)) 256 0 (by omega)
      have ji : j < i := by
        rw [lowB_bit m k 256 (Nat.le_refl _), decide_eq_true j1, Bool.true_and, Bool.and_eq_true, decide_eq_true_eq] at j2
        rw [BitVec.getLsbD_and, BitVec.getLsbD_not, lowB_bit m k 256 (Nat.le_refl _), decide_eq_true i1, Bool.true_and, Bool.true_and, Bool.and_eq_true] at i2
        obtain ⟨i4, i5⟩ := i2
        rw [i4, Bool.true_and, Bool.not_eq_true', decide_eq_false_iff_not] at i5
        rcases Nat.lt_or_ge j i with h | h
        · exact h
        · have := cntB_mono m h
          omega
      have x1 : decide ((0 : Int) ≤ ((k - 1 : Nat) : Int)) = true := decide_eq_true (by omega)
      have x2 : decide (((k - 1 : Nat) : Int) < (k : Int)) = true := decide_eq_true (by omega)
      have x3 : decide ((0 : Int) < ((cntB (m &&& ~~~(lowB m k 256)) 256 : Nat) : Int)) = true := decide_eq_true (by omega)
      have x4 : 0 + (k - 1) * 1 = k - 1 := by omega
      have x5 : decide (toI (some (Value.int .i64 (j : Int))) < toI (some (Value.int .i64 (i : Int)))) = true := decide_eq_true (by show (j : Int) < (i : Int); omega)
      simp only [r1, r2, r3, r4, ew, w0_wd, Int.toNat_natCast, p0Q, p0C, wd_inQ, n0, n1, n2, n3, l0, l1, l2, l3, d0, d1, gA, gB, za, zb, e0, eb, beq_self_eq_true, x1, x2, x3, x4, j3, i3, x5]
      rfl
end
end Go.Proofs.YtmpokdnpkjcnbaaDoor
