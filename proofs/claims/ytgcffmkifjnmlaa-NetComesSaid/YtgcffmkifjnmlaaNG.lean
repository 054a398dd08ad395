/- What is taken, and doubled, told. -/
import Derived.Test.YtgcffmkifjnmlaaNF
namespace Go.Proofs.Ytgcffmkifjnmlaa
open Go.Am
noncomputable section
theorem i17 : cfg.fns 17 = some (fnOf 17 [.tmp 4, .tmp 5]) := by kernel_rfl
theorem i20 : cfg.fns 20 = some (fnOf 20 [.tmp 4]) := by kernel_rfl
theorem i24 : cfg.fns 24 = some (fnOf 24 [.tmp 4]) := by kernel_rfl
theorem nt17 : 2 ≤ ntOf 17 ∧ 2 ≤ ntOf 20 ∧ 2 ≤ ntOf 24 := by
  refine ⟨?_, ?_, ?_⟩ <;> exact of_decide_eq_true (by kernel_rfl)
/-- A row without the one at a place. -/
def cutM (M : Array Value) (p : Nat) : Array Value := M.extract 0 p ++ M.extract (p + 1) M.size
def takeE (z : Bool) : Eff where
  ok n l := netOk n && (match l with | [.int .i64 i] => intOk i | _ => false)
  res n l := .tuple #[.string (if n.M.size = 0 then ⟨#[]⟩ else toStr n.M[(plI n.M.size (match l with | [.int .i64 i] => i | _ => 0)).toNat]?), .bool (!decide (n.M.size = 0))]
  a n _ := n.a
  b n _ := n.b
  row n l := if n.M.size = 0 then none else some (z && decide (n.M.size = 1), cutM n.M (plI n.M.size (match l with | [.int .i64 i] => i | _ => 0)).toNat)
def fullN (n : Net) : Bool := decide (n.M.size = 0) || decide (n.a ≤ (n.M.size : Int))
def twiceE : Eff where
  ok n l := netOk n && (match l with | [.int .i64 i] => intOk i | _ => false)
  res n _ := .bool (!fullN n)
  a n _ := n.a
  b n _ := n.b
  row n l := if fullN n then none else some (false, n.M ++ #[.string (toStr n.M[(plI n.M.size (match l with | [.int .i64 i] => i | _ => 0)).toNat]?)])
theorem cpy_eq (M : Array Value) : cpy M = M := by
  have e : Array.extract (Array.map (fun x => (Value.cells (Value.string { data := #[] }))[x % 1]!) (Array.range (0 * 1))) 0 (0 + 0 * 1) = #[] := by simp
  unfold cpy
  rw [e]; simp
theorem zeroS1 : zeroS 1 = #[.string ⟨#[]⟩] := by kernel_rfl
theorem row_cut {M : Array Value} {p : Nat} (hp : p < M.size) (v : Value) : (blit (blit M p (M.extract (p + 1) M.size).toList) (M.size - 1) [v]).extract 0 (M.size - 1) = cutM M p := by
  have hl : (M.extract (p + 1) M.size).toList.length = M.size - (p + 1) := by simp
  have h1 : p + (M.extract (p + 1) M.size).toList.length ≤ M.size := by rw [hl]; omega
  have h2 : M.size - 1 + [v].length ≤ (blit M p (M.extract (p + 1) M.size).toList).size := by rw [blit_size]; simp; omega
  apply Array.ext_getElem?
  intro k
  unfold cutM
  rw [Array.getElem?_extract, Array.getElem?_append, Array.getElem?_extract, Array.getElem?_extract]
  simp only [blit_size, Nat.zero_add, Nat.sub_zero, Array.size_extract]
  rw [blit_get _ _ _ _ h2, blit_get _ _ _ _ h1, hl]
  simp only [List.length_cons, List.length_nil, Nat.zero_add]
  by_cases hk : k < M.size - 1
  · have e1 : k < min (M.size - 1) M.size := by omega
    rw [if_pos e1, if_neg (by omega)]
    by_cases hkp : k < p
    · rw [if_neg (by omega), if_pos (by omega), if_pos (by omega)]
    · rw [if_pos (by omega), if_neg (by omega), if_pos (by omega), Array.getElem?_toList, Array.getElem?_extract, if_pos (by omega)]
      congr 1; omega
  · rw [if_neg (by omega)]
    split
    · omega
    · rw [if_neg (by omega)]
theorem strs_blit {M : Array Value} (h : strs M = true) {o : Nat} {vs : List Value} (hle : o + vs.length ≤ M.size) (hv : vs.all isS = true) : strs (blit M o vs) = true := by
  unfold strs at *
  rw [Array.all_eq_true] at h ⊢
  intro i hi
  have hi' : i < M.size := by rw [blit_size] at hi; exact hi
  have e := blit_get vs M o i hle
  rw [Array.getElem?_eq_getElem hi] at e
  split at e
  · have hm := List.mem_of_getElem? e.symm
    exact List.all_eq_true.1 hv _ hm
  · rw [Array.getElem?_eq_getElem hi', Option.some.injEq] at e
    rw [e]; exact h i hi'
theorem strs_all {M : Array Value} (h : strs M = true) : M.toList.all isS = true := by
  unfold strs at h
  rw [Array.all_toList]; exact h
theorem row_free {M : Array Value} (hM : strs M = true) {p : Nat} (hp : p < M.size) : (blit (blit M p (M.extract (p + 1) M.size).toList) (M.size - 1) [.string ⟨#[]⟩]).all (freeN 9) = true := by
  have hl : (M.extract (p + 1) M.size).toList.length = M.size - (p + 1) := by simp
  refine strs_free (strs_blit (strs_blit hM (by rw [hl]; omega) (strs_all (strs_ext hM _ _))) ?_ rfl)
  rw [blit_size]; simp; omega
theorem isStr_at {M : Array Value} (h : strs M = true) {p : Nat} (hp : p < M.size) : isStr M[p]? = true := by
  obtain ⟨b, e⟩ := strs_get h hp
  rw [e]; rfl
theorem wrapS {p : Nat} (h : p ≤ 4294967296) : IntKind.wrap .i64 ((p : Int) + 1) = ((p + 1 : Nat) : Int) := by
  rw [wrap64 (by omega) (by omega)]; omega
theorem plI_q {m : Nat} {i : Int} (hm : m ≠ 0) (hl : (m : Int) ≤ 1000) : ∃ p : Nat, plI m i = p ∧ p < m ∧ (qp i m < 0 → qn i m = p) ∧ (¬ qp i m < 0 → qp i m = p) ∧ qr i m = p := by
  obtain ⟨p, h1, h2⟩ := plI_nat (i := i) hm
  obtain ⟨a1, a2, a3⟩ := tmod_pl (i := i) hm hl
  exact ⟨p, h1, h2, fun h => (a1 h).trans h1, fun h => (a2 h).trans h1, a3.trans h1⟩

theorem takeE_arg {z : Bool} {n : Net} {l : List Value} (h : (takeE z).ok n l = true) : netOk n = true ∧ ∃ i, l = [.int .i64 i] ∧ -9223372036854775808 ≤ i ∧ i ≤ 9223372036854775807 := placeE_arg h
theorem twiceE_arg {n : Net} {l : List Value} (h : twiceE.ok n l = true) : netOk n = true ∧ ∃ i, l = [.int .i64 i] ∧ -9223372036854775808 ≤ i ∧ i ≤ 9223372036854775807 := placeE_arg h

theorem tells17 [Z : Zone] : EffTells cfg (fnOf 17 [.tmp 4, .tmp 5]) 17 false (takeE false) := by
  intro n l hok _ _
  obtain ⟨hn, i, rfl, hi1, hi2⟩ := takeE_arg hok
  refine ⟨nt17.1, fun B => ?_⟩
  obtain ⟨a, b, nl, M⟩ := n
  obtain ⟨h1, h2, h3, h4, h5, h6, h7⟩ := netOk_iff.1 hn
  simp only at h1 h2 h3 h4 h5 h6 h7
  cases nl with
  | true =>
    obtain rfl := h7 rfl
    exact eff_p2 good noT_ok rfl (ta_cond a b i) (ta_leaf a b i) (.inr rfl) rfl rfl rfl rfl rfl fun s e0 e1 _ _ => ⟨e0, e1⟩
  | false =>
    by_cases hm : M.size = 0
    · have hr : (takeE false).row ⟨a, b, false, M⟩ [.int .i64 i] = none := if_pos hm
      have hv : (takeE false).res ⟨a, b, false, M⟩ [.int .i64 i] = .tuple #[.string ⟨#[]⟩, .bool false] := by
        show Value.tuple #[.string (if M.size = 0 then ⟨#[]⟩ else toStr M[(plI M.size i).toNat]?), .bool (!decide (M.size = 0))] = _
        rw [if_pos hm, decide_eq_true hm]; rfl
      rw [hr, hv]
      exact eff_p2 good noT_ok rfl (tb_cond a b i M) (tb_leaf a b i M) (.inr rfl) (by simp [tb_c, hm]) rfl rfl rfl rfl fun s e0 e1 _ _ => ⟨e0, e1⟩
    · obtain ⟨p, hp, hpm, hqn, hqp, _⟩ := plI_q (i := i) hm (by omega)
      have hr : (takeE false).row ⟨a, b, false, M⟩ [.int .i64 i] = some (false, cutM M p) := by
        show (if M.size = 0 then none else some (false && _, cutM M (plI M.size i).toNat)) = _
        rw [if_neg hm, hp]; rfl
      have hv : (takeE false).res ⟨a, b, false, M⟩ [.int .i64 i] = .tuple #[.string (toStr M[p]?), .bool true] := by
        show Value.tuple #[.string (if M.size = 0 then ⟨#[]⟩ else toStr M[(plI M.size i).toNat]?), .bool (!decide (M.size = 0))] = _
        rw [if_neg hm, hp, decide_eq_false hm]; rfl
      have hone := strs_one h6
      have hone2 := fun x y => strs_one (strs_ext h6 x y)
      have hW := wrapS (p := p) (by omega)
      have hst := isStr_at h6 hpm
      rw [hr, hv]
      have fin : ∀ (s : St) (R : Array Value) (l : Nat), s.heap.get 0 = some (boxO false a b (.slice (some ⟨3, 0, none⟩) l M.size)) → s.heap.get 3 = some (.cells R 1 true) → l = M.size - 1 → R = blit (blit M p (M.extract (p + 1) M.size).toList) (M.size - 1) [.string ⟨#[]⟩] → EffEnd false a b ⟨a, b, false, M⟩ (some (false, cutM M p)) s := fun s R l e0 e3 hl hR => by
        have hsz : R.size = M.size := by rw [hR, blit_size, blit_size]
        refine ⟨3, l, M.size, R, true, e0, e3, by decide, by decide, ?_, by omega, by omega, by omega, ?_, .inr rfl⟩
        · rw [hl, hR, row_cut hpm]
        · rw [hR]; exact row_free h6 hpm
      have hx := hone2 (p + 1) M.size
      have hk : ((p : Int) + ((M.size - (p + 1) : Nat) : Int)).toNat = M.size - 1 := by omega
      have hz : M.size - (M.size - 1) = 1 := by omega
      simp at hx
      by_cases hs : qp i M.size < 0
      · have hq := hqn hs
        by_cases hlast : p + 1 < M.size
        · skip
          refine eff_p2 good noT_ok rfl (t1_cond a b i M) (t1_leaf a b i M) (.inr rfl) ?_ ?_ rfl rfl rfl fun s e0 _ _ e3 => ?_
          · simp [t1_c, hq, hW, hs, hst, hm, cpy_eq, hone, hone2, nLim, hk, hz, zeroS1, blit_size, hlast]
            repeat' apply And.intro
            all_goals first | omega | exact hx | exact fun y hy => hx y hy | rfl
          · rw [hq]; simp
          · rw [hq] at e0 e3
            simp only [Int.toNat_natCast, Nat.sub_zero, Nat.mul_one, Nat.zero_mul, Nat.add_zero, Nat.zero_add, hW, cpy_eq] at e0 e3
            refine fin s _ _ e0 e3 (by omega) ?_
            rw [show p + 1 + (M.size - (p + 1)) = M.size by omega, show p + (M.size - (p + 1)) = M.size - 1 by omega, hz, zeroS1]
        · have hpe : p = M.size - 1 := by omega
          have hz2 : M.size - p = 1 := by omega
          refine eff_p2 good noT_ok rfl (t2_cond a b i M) (t2_leaf a b i M) (.inr rfl) ?_ ?_ rfl rfl rfl fun s e0 _ _ e3 => ?_
          · simp [t2_c, hq, hW, hs, hst, hm, cpy_eq, hone, hone2, nLim, hk, hz, zeroS1, blit_size, hlast, hz2]
            repeat' apply And.intro
            all_goals first | omega | exact hx | exact fun y hy => hx y hy | rfl
          · rw [hq]; simp
          · rw [hq] at e0 e3
            simp only [Int.toNat_natCast, Nat.sub_zero, Nat.mul_one, Nat.zero_mul, Nat.add_zero, Nat.zero_add, hW, cpy_eq] at e0 e3
            refine fin s _ _ e0 e3 (by omega) ?_
            rw [hz2, zeroS1, show M.extract (p + 1) M.size = #[] by simp; omega]
            simp [blit]; rw [hpe]
      · have hq := hqp hs
        have hs2 : ¬ ((p : Int) < 0) := by omega
        by_cases hlast : p + 1 < M.size
        · skip
          refine eff_p2 good noT_ok rfl (t3_cond a b i M) (t3_leaf a b i M) (.inr rfl) ?_ ?_ rfl rfl rfl fun s e0 _ _ e3 => ?_
          · simp [t3_c, hq, hW, hs, hs2, hst, hm, cpy_eq, hone, hone2, nLim, hk, hz, zeroS1, blit_size, hlast]
            repeat' apply And.intro
            all_goals first | omega | exact hx | exact fun y hy => hx y hy | rfl
          · rw [hq]; simp
          · rw [hq] at e0 e3
            simp only [Int.toNat_natCast, Nat.sub_zero, Nat.mul_one, Nat.zero_mul, Nat.add_zero, Nat.zero_add, hW, cpy_eq] at e0 e3
            refine fin s _ _ e0 e3 (by omega) ?_
            rw [show p + 1 + (M.size - (p + 1)) = M.size by omega, show p + (M.size - (p + 1)) = M.size - 1 by omega, hz, zeroS1]
        · have hpe : p = M.size - 1 := by omega
          have hz2 : M.size - p = 1 := by omega
          refine eff_p2 good noT_ok rfl (t4_cond a b i M) (t4_leaf a b i M) (.inr rfl) ?_ ?_ rfl rfl rfl fun s e0 _ _ e3 => ?_
          · simp [t4_c, hq, hW, hs, hs2, hst, hm, cpy_eq, hone, hone2, nLim, hk, hz, zeroS1, blit_size, hlast, hz2]
            repeat' apply And.intro
            all_goals first | omega | exact hx | exact fun y hy => hx y hy | rfl
          · rw [hq]; simp
          · rw [hq] at e0 e3
            simp only [Int.toNat_natCast, Nat.sub_zero, Nat.mul_one, Nat.zero_mul, Nat.add_zero, Nat.zero_add, hW, cpy_eq] at e0 e3
            refine fin s _ _ e0 e3 (by omega) ?_
            rw [hz2, zeroS1, show M.extract (p + 1) M.size = #[] by simp; omega]
            simp [blit]; rw [hpe]
end
end Go.Proofs.Ytgcffmkifjnmlaa
