/- Places, what was lost, and what is sent, told. -/
import Derived.Test.YtgcffmkifjnmlaaND
namespace Go.Proofs.Ytgcffmkifjnmlaa
open Go.Am
noncomputable section
abbrev fnOf (f : FuncId) (rs : List ResultVar) : FnI := { body := bodyOf f, nt := ntOf f, results := rs, pure := false }
theorem i26 : cfg.fns 26 = some (fnOf 26 [.tmp 4]) := by kernel_rfl
theorem i28 : cfg.fns 28 = some (fnOf 28 [.tmp 4]) := by kernel_rfl
theorem i15 : cfg.fns 15 = some (fnOf 15 [.tmp 2]) := by kernel_rfl
theorem i16 : cfg.fns 16 = some (fnOf 16 [.tmp 4]) := by kernel_rfl
theorem nt26 : 2 ≤ ntOf 26 ∧ 2 ≤ ntOf 28 ∧ 1 ≤ ntOf 15 ∧ 2 ≤ ntOf 16 := by
  refine ⟨?_, ?_, ?_, ?_⟩ <;> exact of_decide_eq_true (by kernel_rfl)

theorem placeE_arg {n : Net} {l : List Value} (h : placeE.ok n l = true) : netOk n = true ∧ ∃ i, l = [.int .i64 i] ∧ -9223372036854775808 ≤ i ∧ i ≤ 9223372036854775807 := by
  simp only [placeE, Bool.and_eq_true] at h
  refine ⟨h.1, ?_⟩
  obtain ⟨_, h⟩ := h
  split at h
  · rename_i i
    simp only [intOk, Bool.and_eq_true, decide_eq_true_eq] at h
    exact ⟨i, rfl, h⟩
  · cases h
theorem tmod_pl {m : Nat} {i : Int} (hm : m ≠ 0) (hl : (m : Int) ≤ 1000) : (Int.tmod i m < 0 → IntKind.wrap .i64 (Int.tmod i m + m) = plI m i) ∧ (¬ Int.tmod i m < 0 → Int.tmod i m = plI m i) ∧ Int.tmod (IntKind.wrap .i64 (Int.tmod i m + m)) m = plI m i := by
  have hp : (0 : Int) < m := by omega
  have e1 := Int.emod_nonneg i (b := (m : Int)) (by omega)
  have e2 := Int.emod_lt_of_pos i hp
  have h1 := Int.tmod_lt_of_pos i hp
  have h2 : -(m : Int) < Int.tmod i m := by
    have := Int.tmod_lt_of_pos (-i) hp
    rw [Int.neg_tmod] at this
    omega
  have h3 : (Int.tmod i m) % m = i % m := by
    rw [Int.tmod_def, Int.sub_mul_emod_self_left]
  unfold plI
  rw [if_neg hm]
  have hw := wrap64 (x := Int.tmod i m + m) (by omega) (by omega)
  refine ⟨fun hn => ?_, fun hn => ?_, ?_⟩
  · rw [hw, ← h3, ← Int.add_emod_right]
    exact (Int.emod_eq_of_lt (by omega) (by omega)).symm
  · rw [← h3]
    exact (Int.emod_eq_of_lt (by omega) (by omega)).symm
  · rw [hw, Int.tmod_eq_emod_of_nonneg (by omega), Int.add_emod_right, h3]

theorem tells26 [Z : Zone] : EffTells cfg (fnOf 26 [.tmp 4]) 26 false placeE := by
  intro n l hok _ _
  obtain ⟨hn, i, rfl, hi1, hi2⟩ := placeE_arg hok
  refine ⟨nt26.1, fun B => ?_⟩
  obtain ⟨a, b, nl, M⟩ := n
  obtain ⟨h1, h2, h3, h4, h5, h6, h7⟩ := netOk_iff.1 hn
  simp only at h1 h2 h3 h4 h5 h6 h7
  cases nl with
  | true =>
    obtain rfl := h7 rfl
    exact eff_one good rfl (.inr rfl) rfl (path_eval noT_ok (pa_cond a b i) (pa_leaf a b i)) fun s e0 e1 _ _ => ⟨e0, e1⟩
  | false =>
    by_cases hm : M.size = 0
    · refine eff_p1 good noT_ok rfl (pb_cond a b i M) (pb_leaf a b i M) (.inr rfl) ?_ ?_ rfl fun s e0 e1 _ _ => ⟨e0, e1⟩
      · simp [pb_c, hm]
      · show _ = Value.int .i64 (plI M.size i)
        unfold plI; rw [if_pos hm]
    · obtain ⟨q1, q2, _⟩ := tmod_pl (i := i) hm (by omega)
      by_cases hs : Int.tmod i (M.size : Int) < 0
      · refine eff_p1 good noT_ok rfl (pc_cond a b i M) (pc_leaf a b i M) (.inr rfl) ?_ ?_ rfl fun s e0 e1 _ _ => ⟨e0, e1⟩
        · simp [pc_c, hm, hs]
        · rw [q1 hs]; rfl
      · refine eff_p1 good noT_ok rfl (pd_cond a b i M) (pd_leaf a b i M) (.inr rfl) ?_ ?_ rfl fun s e0 e1 _ _ => ⟨e0, e1⟩
        · simp only [pd_c, hs, decide_false, Bool.not_false, Bool.true_and, Bool.and_true]
          simp [hm]
        · rw [q2 hs]; rfl
theorem tells28 [Z : Zone] : EffTells cfg (fnOf 28 [.tmp 4]) 28 true placeE := by
  intro n l hok _ _
  obtain ⟨hn, i, rfl, hi1, hi2⟩ := placeE_arg hok
  refine ⟨nt26.2.1, fun B => ?_⟩
  obtain ⟨a, b, nl, M⟩ := n
  obtain ⟨h1, h2, h3, h4, h5, h6, h7⟩ := netOk_iff.1 hn
  simp only at h1 h2 h3 h4 h5 h6 h7
  cases nl with
  | true =>
    obtain rfl := h7 rfl
    exact eff_one good rfl (.inr rfl) rfl (path_eval noT_ok (qa_cond a b i) (qa_leaf a b i)) fun s e0 e1 _ _ => ⟨e0, e1⟩
  | false =>
    by_cases hm : M.size = 0
    · refine eff_p1 good noT_ok rfl (qb_cond a b i M) (qb_leaf a b i M) (.inr rfl) ?_ ?_ rfl fun s e0 e1 _ _ => ⟨e0, e1⟩
      · simp [qb_c, hm]
      · show _ = Value.int .i64 (plI M.size i)
        unfold plI; rw [if_pos hm]
    · obtain ⟨_, _, q3⟩ := tmod_pl (i := i) hm (by omega)
      refine eff_p1 good noT_ok rfl (qc_cond a b i M) (qc_leaf a b i M) (.inr rfl) ?_ ?_ rfl fun s e0 e1 _ _ => ⟨e0, e1⟩
      · simp [qc_c, hm]
      · rw [q3]; rfl
theorem tells15 [Z : Zone] : EffTells cfg (fnOf 15 [.tmp 2]) 15 false lostE := by
  intro n l hok _ _
  have hl : netOk n = true ∧ l = [] := by
    simp only [lostE, Bool.and_eq_true] at hok
    refine ⟨hok.1, ?_⟩
    obtain ⟨_, h⟩ := hok
    split at h
    · rfl
    · cases h
  obtain ⟨hn, rfl⟩ := hl
  refine ⟨nt26.2.2.1, fun B => ?_⟩
  obtain ⟨a, b, nl, M⟩ := n
  obtain ⟨h1, h2, h3, h4, h5, h6, h7⟩ := netOk_iff.1 hn
  simp only at h1 h2 h3 h4 h5 h6 h7
  cases nl with
  | true =>
    obtain rfl := h7 rfl
    exact eff_one good rfl (.inr rfl) rfl (path_eval noT_ok (la_cond a b) (la_leaf a b)) fun s e0 e1 _ _ => ⟨e0, e1⟩
  | false => exact eff_one good rfl (.inr rfl) rfl (path_eval noT_ok (lb_cond a b M) (lb_leaf a b M)) fun s e0 e1 _ _ => ⟨e0, e1⟩

/-! ### What is sent -/
def laidN (n : Net) (k : Nat) : Nat := min k (n.a.toNat - n.M.size)
def rowOk (X : Array Value) (o k : Nat) : Bool := decide (o + k ≤ X.size) && (decide (k ≤ 1048576) && strs (X.extract o (o + k)))
def sendE : Eff where
  ok n l := netOk n && (match l with | [.func (.method nm) X ⟨[.slice none o k]⟩] => decide (nm = "") && rowOk X o k && decide (n.b + (k : Int) ≤ 1099511627776) | _ => false)
  res n l := .int .i64 (match l with | [.func (.method _) _ ⟨[.slice none _ k]⟩] => ((laidN n k : Nat) : Int) | _ => 0)
  a n _ := n.a
  b n l := n.b + (match l with | [.func (.method _) _ ⟨[.slice none _ k]⟩] => (((k - laidN n k : Nat)) : Int) | _ => 0)
  row n l := match l with | [.func (.method _) X ⟨[.slice none o k]⟩] => (if laidN n k = 0 then none else some (false, n.M ++ X.extract o (o + laidN n k))) | _ => none
theorem laid_eq {a : Int} {m k : Nat} (h1 : 1 ≤ a) (h2 : a ≤ 1000) (h3 : (m : Int) ≤ a) (hk : k ≤ 1048576) : laid a m k = ((min k (a.toNat - m) : Nat) : Int) := by
  unfold laid
  rw [wrap64 (by omega) (by omega)]
  split <;> omega
theorem sendE_arg {n : Net} {l : List Value} (h : sendE.ok n l = true) : netOk n = true ∧ ∃ X o k, l = [VS X o k] ∧ o + k ≤ X.size ∧ k ≤ 1048576 ∧ strs (X.extract o (o + k)) = true ∧ n.b + (k : Int) ≤ 1099511627776 := by
  simp only [sendE, Bool.and_eq_true] at h
  refine ⟨h.1, ?_⟩
  obtain ⟨_, h⟩ := h
  split at h
  · rename_i nm X o k
    simp only [rowOk, Bool.and_eq_true, decide_eq_true_eq] at h
    obtain ⟨⟨rfl, h1, h2, h3⟩, h4⟩ := h
    exact ⟨X, o, k, rfl, h1, h2, h3, h4⟩
  · cases h
theorem ext_ext {X : Array Value} {o k m : Nat} (h : m ≤ k) : X.extract o (o + m) = (X.extract o (o + k)).extract 0 m := by
  rw [Array.extract_extract]
  congr 1 <;> omega
theorem tells16 [Z : Zone] : EffTells cfg (fnOf 16 [.tmp 4]) 16 false sendE := by
  intro n l hok _ _
  obtain ⟨hn, X, o, k, rfl, hX, hk, hS, hb⟩ := sendE_arg hok
  refine ⟨nt26.2.2.2, fun B => ?_⟩
  obtain ⟨a, b, nl, M⟩ := n
  obtain ⟨h1, h2, h3, h4, h5, h6, h7⟩ := netOk_iff.1 hn
  simp only at h1 h2 h3 h4 h5 h6 h7 hb
  have hL := laid_eq (m := M.size) h1 h2 h3 hk
  generalize hLd : min k (a.toNat - M.size) = L at hL
  have hLk : L ≤ k := by omega
  have hLa : M.size + L ≤ 1000 := by omega
  have hLN : laidN ⟨a, b, nl, M⟩ k = L := hLd
  have hsb : (sendE.b ⟨a, b, nl, M⟩ [VS X o k]) = b + ((k - L : Nat) : Int) := by show b + ((k - laidN _ k : Nat) : Int) = _; rw [hLN]
  have hrs : (sendE.res ⟨a, b, nl, M⟩ [VS X o k]) = .int .i64 (L : Int) := by show Value.int .i64 ((laidN _ k : Nat) : Int) = _; rw [hLN]
  have hrw : (sendE.row ⟨a, b, nl, M⟩ [VS X o k]) = if L = 0 then none else some (false, M ++ X.extract o (o + L)) := by show (if laidN _ k = 0 then none else some (false, M ++ X.extract o (o + laidN _ k))) = _; rw [hLN]
  have hw : IntKind.wrap .i64 (b + IntKind.wrap .i64 ((k : Int) - (L : Int))) = b + ((k - L : Nat) : Int) := by
    rw [wrap64 (x := (k : Int) - (L : Int)) (by omega) (by omega), wrap64 (by omega) (by omega)]; omega
  have hone : (X.extract o (o + L)).toList.all Value.oneCell' = true := by
    rw [ext_ext hLk]; exact strs_one (strs_ext hS _ _)
  have hstr : strs (X.extract o (o + L)) = true := by
    rw [ext_ext hLk]; exact strs_ext hS _ _
  have hsz : (X.extract o (o + L)).size = L := by simp; omega
  have hnl : L ≤ nLim := by unfold nLim; omega
  rw [hrs, hsb, hrw]
  cases nl with
  | true =>
    obtain rfl := h7 rfl
    have hL0 : laid a 0 k = (L : Int) := hL
    by_cases h0 : L = 0
    · subst h0
      refine eff_p1 good noT_ok rfl (sa_cond a b X o k) (sa_leaf a b X o k) (.inr rfl) ?_ ?_ rfl fun s e0 e1 _ _ => ?_
      · simp [sa_c, hL0]
      · rw [hL0]
      · rw [hL0, hw] at e0
        exact ⟨e0, e1⟩
    · refine eff_p1 good noT_ok rfl (sb_cond a b X o k) (sb_leaf a b X o k) (.inr rfl) ?_ ?_ rfl fun s e0 e1 e2 _ => ?_
      · simp only [sb_c, hL0, Int.toNat_natCast, Nat.sub_zero, Nat.mul_one, Nat.zero_mul, Nat.add_zero, Nat.zero_add, hone, h0, Nat.le_refl, hLk, decide_true, decide_false, Bool.and_true, Bool.not_false, Bool.true_and, hnl]
        simp; omega
      · rw [hL0]
      · rw [hL0, hw] at e0
        rw [if_neg h0]
        rw [hL0] at e2
        simp only [Int.toNat_natCast, Nat.sub_zero, Nat.mul_one, Nat.zero_mul, Nat.add_zero] at e0 e2
        exact ⟨2, L, L, _, true, e0, e2, by decide, by decide, by rw [Array.empty_append, Array.extract_eq_self_of_le (by omega)], by omega, Nat.le_refl _, by omega, strs_free hstr, .inr rfl⟩
  | false =>
    by_cases h0 : L = 0
    · subst h0
      refine eff_p1 good noT_ok rfl (sc_cond a b M X o k) (sc_leaf a b M X o k) (.inr rfl) ?_ ?_ rfl fun s e0 e1 _ _ => ?_
      · simp only [sc_c, hL]; simp [nLim]; omega
      · rw [hL]
      · rw [hL, hw] at e0
        exact ⟨e0, e1⟩
    · refine eff_p1 good noT_ok rfl (sd_cond a b M X o k) (sd_leaf a b M X o k) (.inr rfl) ?_ ?_ rfl fun s e0 e1 e2 _ => ?_
      · simp only [sd_c, hL, Int.toNat_natCast, Nat.sub_zero, Nat.mul_one, Nat.zero_mul, Nat.add_zero, Nat.zero_add, hone, h0, Nat.le_refl, hLk, decide_true, decide_false, Bool.and_true, Bool.not_false, Bool.true_and]
        simp [nLim]
        exact ⟨decide_eq_true (by omega), by omega, by omega⟩
      · rw [hL]
      · rw [hL, hw] at e0
        rw [if_neg h0]
        rw [hL] at e2
        simp only [Int.toNat_natCast, Nat.sub_zero, Nat.mul_one, Nat.zero_mul, Nat.add_zero, Nat.zero_add, Array.extract_size] at e0 e2
        exact ⟨2, M.size + L, M.size + L, _, true, e0, e2, by decide, by decide, by rw [Array.extract_eq_self_of_le (by simp; omega)], by simp; omega, Nat.le_refl _, by simp; omega, strs_free (strs_app h6 hstr), .inr rfl⟩
end
end Go.Proofs.Ytgcffmkifjnmlaa
