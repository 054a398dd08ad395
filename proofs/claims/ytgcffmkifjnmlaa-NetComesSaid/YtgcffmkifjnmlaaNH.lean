/- What is doubled, told. -/
import Derived.Test.YtgcffmkifjnmlaaNG
namespace Go.Proofs.Ytgcffmkifjnmlaa
open Go.Am
noncomputable section
theorem toStr_one {r : Option Value} : strs #[.string (toStr r)] = true := by simp [strs, isS]
theorem laid_one {a : Int} {m : Nat} (h1 : 1 ≤ a) (h2 : a ≤ 1000) (h : (m : Int) < a) : laid a m 1 = ((1 : Nat) : Int) := by
  rw [laid_eq h1 h2 (by omega) (by decide)]
  congr 1; omega
theorem twice_row {n : Net} {i : Int} {p : Nat} (h : fullN n = false) (hp : plI n.M.size i = p) : twiceE.row n [.int .i64 i] = some (false, n.M ++ #[.string (toStr n.M[p]?)]) := by
  show (if fullN n = true then none else some (false, n.M ++ #[.string (toStr n.M[(plI n.M.size i).toNat]?)])) = _
  rw [h, hp]; rfl
theorem twice_none {n : Net} {i : Int} (h : fullN n = true) : twiceE.row n [.int .i64 i] = none ∧ twiceE.res n [.int .i64 i] = .bool false := by
  refine ⟨if_pos h, ?_⟩
  show Value.bool (!fullN n) = _
  rw [h]; rfl
theorem twice_res {n : Net} {i : Int} (h : fullN n = false) : twiceE.res n [.int .i64 i] = .bool true := by
  show Value.bool (!fullN n) = _
  rw [h]; rfl
theorem fullN_of {n : Net} (h1 : n.M.size ≠ 0) (h2 : (n.M.size : Int) < n.a) : fullN n = false := by
  unfold fullN
  rw [decide_eq_false h1, decide_eq_false (by omega)]; rfl
theorem fullN_0 {n : Net} (h1 : n.M.size = 0) : fullN n = true := by
  unfold fullN
  rw [decide_eq_true h1]; rfl
theorem fullN_1 {n : Net} (h1 : n.a ≤ (n.M.size : Int)) : fullN n = true := by
  unfold fullN
  rw [decide_eq_true h1]; simp

theorem tells20 [Z : Zone] : EffTells cfg (fnOf 20 [.tmp 4]) 20 false twiceE := by
  intro n l hok _ _
  obtain ⟨hn, i, rfl, hi1, hi2⟩ := twiceE_arg hok
  refine ⟨nt17.2.1, fun B => ?_⟩
  obtain ⟨a, b, nl, M⟩ := n
  obtain ⟨h1, h2, h3, h4, h5, h6, h7⟩ := netOk_iff.1 hn
  simp only at h1 h2 h3 h4 h5 h6 h7
  cases nl with
  | true =>
    obtain rfl := h7 rfl
    exact eff_p1 good noT_ok rfl (da_cond a b i) (da_leaf a b i) (.inr rfl) rfl rfl rfl fun s e0 e1 _ _ => ⟨e0, e1⟩
  | false =>
    by_cases hm : M.size = 0
    · obtain ⟨hr, hv⟩ := twice_none (n := ⟨a, b, false, M⟩) (i := i) (fullN_0 hm)
      rw [hr, hv]
      exact eff_p1 good noT_ok rfl (db_cond a b i M) (db_leaf a b i M) (.inr rfl) (by simp [db_c, hm]) rfl rfl fun s e0 e1 _ _ => ⟨e0, e1⟩
    · obtain ⟨p, hp, hpm, hqn, hqp, _⟩ := plI_q (i := i) hm (by omega)
      have hp0 : ¬ ((p : Int) < 0) := by omega
      have hst := isStr_at h6 hpm
      by_cases hf : a ≤ (M.size : Int)
      · obtain ⟨hr, hv⟩ := twice_none (n := ⟨a, b, false, M⟩) (i := i) (fullN_1 hf)
        rw [hr, hv]
        by_cases hs : qp i M.size < 0
        · have hq := hqn hs
          exact eff_p1 good noT_ok rfl (dc_cond a b i M) (dc_leaf a b i M) (.inr rfl) (by simp [dc_c, hm, hs, hq, hf]) rfl rfl fun s e0 e1 _ _ => ⟨e0, e1⟩
        · have hq := hqp hs
          exact eff_p1 good noT_ok rfl (dd_cond a b i M) (dd_leaf a b i M) (.inr rfl) (by simp [dd_c, hm, hs, hq, hp0, hf]) rfl rfl fun s e0 e1 _ _ => ⟨e0, e1⟩
      · have hfl : (M.size : Int) < a := by omega
        have hfn := fullN_of (n := ⟨a, b, false, M⟩) hm hfl
        rw [twice_row hfn hp, twice_res hfn]
        have hL := laid_one h1 h2 hfl
        have hw : IntKind.wrap .i64 (b + IntKind.wrap .i64 (((1 : Nat) : Int) - ((1 : Nat) : Int))) = b := by
          rw [wrap64 (x := ((1 : Nat) : Int) - ((1 : Nat) : Int)) (by omega) (by omega), wrap64 (by omega) (by omega)]; omega
        have fin : ∀ (s : St), s.heap.get 0 = some (boxO false a b (.slice (some ⟨3, 0, none⟩) (M.size + 1) (M.size + 1))) → s.heap.get 3 = some (.cells (M ++ #[.string (toStr M[p]?)]) 1 true) → EffEnd false a b ⟨a, b, false, M⟩ (some (false, M ++ #[.string (toStr M[p]?)])) s := fun s e0 e3 =>
          ⟨3, M.size + 1, M.size + 1, _, true, e0, e3, by decide, by decide, by rw [Array.extract_eq_self_of_le (by simp)], by simp, Nat.le_refl _, by simp, strs_free (strs_app h6 toStr_one), .inr rfl⟩
        have hsg : ∀ bb, (sing bb).extract 0 1 = #[.string bb] := fun bb => by simp [sing]
        by_cases hs : qp i M.size < 0
        · have hq := hqn hs
          refine eff_p1 good noT_ok rfl (de_cond a b i M) (de_leaf a b i M) (.inr rfl) ?_ rfl rfl fun s e0 _ _ e3 => ?_
          · simp [de_c, hm, hs, hq, hL, hst, nLim, sing, Value.oneCell']
            repeat' apply And.intro
            all_goals first | omega | rfl | exact decide_eq_true (by omega)
          · rw [hL, hw] at e0
            rw [hL, hq] at e3
            simp only [Int.toNat_natCast, Nat.sub_zero, Nat.mul_one, Nat.zero_mul, Nat.add_zero, Nat.zero_add, Array.extract_size, hsg] at e0 e3
            exact fin s e0 e3
        · have hq := hqp hs
          refine eff_p1 good noT_ok rfl (df_cond a b i M) (df_leaf a b i M) (.inr rfl) ?_ rfl rfl fun s e0 _ _ e3 => ?_
          · simp [df_c, hm, hs, hq, hp0, hL, hst, nLim, sing, Value.oneCell']
            repeat' apply And.intro
            all_goals first | omega | rfl | exact decide_eq_true (by omega)
          · rw [hL, hw] at e0
            rw [hL, hq] at e3
            simp only [Int.toNat_natCast, Nat.sub_zero, Nat.mul_one, Nat.zero_mul, Nat.add_zero, Nat.zero_add, Array.extract_size, hsg] at e0 e3
            exact fin s e0 e3

theorem tells24 [Z : Zone] : EffTells cfg (fnOf 24 [.tmp 4]) 24 true twiceE := by
  intro n l hok _ _
  obtain ⟨hn, i, rfl, hi1, hi2⟩ := twiceE_arg hok
  refine ⟨nt17.2.2, fun B => ?_⟩
  obtain ⟨a, b, nl, M⟩ := n
  obtain ⟨h1, h2, h3, h4, h5, h6, h7⟩ := netOk_iff.1 hn
  simp only at h1 h2 h3 h4 h5 h6 h7
  cases nl with
  | true =>
    obtain rfl := h7 rfl
    exact eff_p1 good noT_ok rfl (ea_cond a b i) (ea_leaf a b i) (.inr rfl) rfl rfl rfl fun s e0 e1 _ _ => ⟨e0, e1⟩
  | false =>
    by_cases hm : M.size = 0
    · obtain ⟨hr, hv⟩ := twice_none (n := ⟨a, b, false, M⟩) (i := i) (fullN_0 hm)
      rw [hr, hv]
      exact eff_p1 good noT_ok rfl (eb_cond a b i M) (eb_leaf a b i M) (.inr rfl) (by simp [eb_c, hm]) rfl rfl fun s e0 e1 _ _ => ⟨e0, e1⟩
    · obtain ⟨p, hp, hpm, _, _, hq⟩ := plI_q (i := i) hm (by omega)
      have hp0 : ¬ ((p : Int) < 0) := by omega
      have hst := isStr_at h6 hpm
      have hone := strs_one h6
      by_cases hf : a ≤ (M.size : Int)
      · obtain ⟨hr, hv⟩ := twice_none (n := ⟨a, b, false, M⟩) (i := i) (fullN_1 hf)
        rw [hr, hv]
        exact eff_p1 good noT_ok rfl (ec_cond a b i M) (ec_leaf a b i M) (.inr rfl) (by simp [ec_c, hm, hq, hp0, hf]) rfl rfl fun s e0 e1 _ _ => ⟨e0, e1⟩
      · have hfl : (M.size : Int) < a := by omega
        have hfn := fullN_of (n := ⟨a, b, false, M⟩) hm hfl
        rw [twice_row hfn hp, twice_res hfn]
        have hsg : ∀ bb, (sing bb).extract 0 1 = #[.string bb] := fun bb => by simp [sing]
        refine eff_pk good noT_ok rfl (ed_cond a b i M) (ed_leaf a b i M) (.inr rfl) ?_ rfl rfl fun s e => ?_
        · simp [ed_c, hm, hq, hp0, hst, nLim, sing, cpy_eq, hone, Value.oneCell']
          repeat' apply And.intro
          all_goals first | omega | rfl | exact decide_eq_true (by omega)
        · simp only [List.map_cons, List.map_nil, List.cons.injEq, and_true] at e
          obtain ⟨e0, e5⟩ := e
          rw [hq] at e5
          simp only [Int.toNat_natCast, Nat.sub_zero, Nat.mul_one, Nat.zero_mul, Nat.add_zero, Nat.zero_add, cpy_eq, Array.extract_size, hsg] at e0 e5
          exact ⟨5, M.size + 1, M.size + 1, _, true, e0, e5, by decide, by decide, by rw [Array.extract_eq_self_of_le (by simp)], by simp, Nat.le_refl _, by simp, strs_free (strs_app h6 toStr_one), .inr rfl⟩
end
end Go.Proofs.Ytgcffmkifjnmlaa
