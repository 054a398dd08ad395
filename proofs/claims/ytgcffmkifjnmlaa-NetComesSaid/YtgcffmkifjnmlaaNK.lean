/- What the document sends where there is no row yet; told. -/
import Derived.Test.YtgcffmkifjnmlaaNJ
namespace Go.Proofs.Ytgcffmkifjnmlaa
open Go.Am
noncomputable section
section
variable {a b : Int} {X : Array Value} {o k : Nat}
theorem round_N (h1 : 1 ≤ a) (h2 : a ≤ 1000) (h4 : 0 ≤ b) (hX : o + k ≤ X.size) (hk : k ≤ 1048576) (hS : strs (X.extract o (o + k)) = true) (hb : b + (k : Int) ≤ 1099511627776) {i : Nat} (hi : i ≤ k) :
    gcObs 0 0 (selN a k i) (code cfg (call cfg 60) 60 cz k21 (hd21 a #[] X o k i) (stN a b X o i)) = some (match stop21 a #[] X o k (stN a b X o) i with | some r => r | none => (.normal, hd21 a #[] X o k (i + 1), stN a b X o (i + 1))) := by
  have hin := incN (i := i) (by omega)
  have h6 : strs (#[] : Array Value) = true := by simp [strs]
  have hz0 : (#[] : Array Value).size = 0 := rfl
  have hsm := size_m (a := a) (M0 := #[]) hX hi
  rw [hz0, Nat.zero_add] at hsm
  have hst := strs_m (a := a) h6 hS hi
  have hlI : ∀ j, lI a #[] j = min j a.toNat := fun j => by unfold lI; rw [hz0, Nat.sub_zero]
  by_cases hik : i < k
  · have hs : stop21 a #[] X o k (stN a b X o) i = none := if_pos hik
    rw [hs]
    obtain ⟨xb, hxb⟩ := ext_get hS hX hik
    have hxs : isStr X[o + i]? = true := by rw [hxb]; rfl
    have hnx : stN a b X o (i + 1) = sR true a (bI a b #[] (i + 1)) (mI a #[] X o (i + 1)) := by unfold stN; rw [if_neg (by omega)]
    by_cases hr : i < a.toNat
    · have hl : lI a #[] i = i := by rw [hlI]; omega
      have hl1 : lI a #[] (i + 1) = i + 1 := by rw [hlI]; omega
      have hb0 : bI a b #[] i = b := by unfold bI; rw [hl]; omega
      have hb1 : bI a b #[] (i + 1) = b := by unfold bI; rw [hl1]; omega
      have hpm := push_m (M0 := #[]) (a := a) hX hS hik (by rw [hz0]; omega)
      rw [hnx, hb1]
      by_cases h0 : i = 0
      · subst h0
        have hc : stN a b X o 0 = sN1 true a b := by unfold stN; rw [if_pos rfl]
        have hsel : selN a k 0 = kp [0, 1, 5, 6] [.cells 0, .plain 3] := by unfold selN; rw [if_pos ⟨hik, hr⟩, if_pos rfl]
        have hm0 : mI a #[] X o 0 = #[] := by unfold mI; rw [hl, Nat.add_zero, show X.extract o o = #[] by rw [Array.extract_empty_of_stop_le_start (Nat.le_refl _)], Array.append_empty]
        rw [hm0] at hpm
        have hik' : 0 < k := hik
        have hxs' : isStr X[o]? = true := hxs
        rw [hc, hsel]
        refine path_eval noT_ok ((ua_cond a b X o k _ _).trans ?_) ((ua_leaf a b X o k _ _).trans ?_)
        · simp [ua_c, nLim, hik', hxs']
          omega
        · rw [Int.toNat_natCast, Nat.mul_one, sing_ext, emp_eq, hpm, s2_eq (by rw [size_m hX (by omega), hl1]; rfl), hl, hin]
          unfold hd21
          rw [hl1]
      · have hc : stN a b X o i = sR true a b (mI a #[] X o i) := by unfold stN; rw [if_neg h0, hb0]
        have hsel : selN a k i = kp [0, 1, 5, 6] [.cells 0, .plain 5] := by unfold selN; rw [if_pos ⟨hik, hr⟩, if_neg h0]
        have hone := strs_one hst
        have hone' := hone
        rw [hl] at hsm
        have hlt : ((i : Nat) : Int) < a := by omega
        rw [hc, hsel]
        refine path_eval noT_ok ((ub_cond a b X _ o k _ _).trans ?_) ((ub_leaf a b X _ o k _ _).trans ?_)
        · have hall : ∀ x, x ∈ List.take i (mI a #[] X o i).toList → x.oneCell' = true := fun x hx => List.all_eq_true.1 hone x (List.mem_of_mem_take hx)
          simp [ub_c, hone, cpy_eq, nLim, hsm, hlt, hik, hxs, h0]
          exact ⟨by omega, hall, by omega⟩
        · rw [Int.toNat_natCast, cpy_ext, sing_ext, Nat.mul_one, hpm, s2_eq (by rw [size_m hX (by omega), size_m hX (by omega), hl, hl1]; omega), hl, hin]
          unfold hd21
          rw [hl1]
    · have hl1 : lI a #[] (i + 1) = lI a #[] i := by rw [hlI, hlI]; omega
      have hb1 : IntKind.wrap .i64 (bI a b #[] i + 1) = bI a b #[] (i + 1) := by
        have : lI a #[] i ≤ i := by rw [hlI]; omega
        unfold bI
        rw [hl1, wrap64 (by omega) (by omega)]; omega
      have hm1 : mI a #[] X o (i + 1) = mI a #[] X o i := by unfold mI; rw [hl1]
      have h0 : i ≠ 0 := by omega
      have hsel : selN a k i = kp [0, 1, 5, 6] kR := by unfold selN; rw [if_neg (by omega), if_neg h0]
      have hc : stN a b X o i = sR true a (bI a b #[] i) (mI a #[] X o i) := by unfold stN; rw [if_neg h0]
      have hnl : ¬ (((mI a #[] X o i).size : Int) < a) := by rw [hsm, hlI]; omega
      rw [hsel, hc, hnx]
      unfold hd21
      rw [hl1]
      refine path_eval noT_ok ((uc_cond a (bI a b #[] i) X (mI a #[] X o i) o k (lI a #[] i : Nat) (i : Nat)).trans ?_) ((uc_leaf a (bI a b #[] i) X (mI a #[] X o i) o k (lI a #[] i : Nat) (i : Nat)).trans ?_)
      · simp [uc_c, hik, hnl]
      · rw [hin, hb1, hm1]
  · have hs : stop21 a #[] X o k (stN a b X o) i = some (.exit 0, hd21 a #[] X o k i, stN a b X o i) := if_neg hik
    rw [hs]
    have hsel : selN a k i = kp [0, 1, 5, 6] (if i = 0 then kN else kR) := by unfold selN; rw [if_neg (by omega)]
    rw [hsel]
    have hni : ¬ ((i : Int) < (k : Int)) := by omega
    unfold stN hd21
    by_cases h0 : i = 0
    · rw [if_pos h0, if_pos h0]
      exact path_eval noT_ok ((uz_cond a b X o k (lI a #[] i : Nat) (i : Nat)).trans (by simp only [uz_c, hni, decide_false, Bool.not_false, Bool.true_and])) (uz_leaf a b X o k (lI a #[] i : Nat) (i : Nat))
    · rw [if_neg h0, if_neg h0]
      exact path_eval noT_ok ((ud_cond a (bI a b #[] i) X (mI a #[] X o i) o k (lI a #[] i : Nat) (i : Nat)).trans (by simp only [ud_c, hni, decide_false, Bool.not_false, Bool.true_and])) (ud_leaf a (bI a b #[] i) X (mI a #[] X o i) o k (lI a #[] i : Nat) (i : Nat))

theorem one_pin {ks : List Kept} (h : ∃ r, ks = .cells 0 :: r) : pinned 1 ks := by
  obtain ⟨r, rfl⟩ := h
  refine ⟨by simp, fun j hj => ?_⟩
  match j, hj with
  | 0, _ => rfl
theorem send_N [Z : Zone] (h1 : 1 ≤ a) (h2 : a ≤ 1000) (h4 : 0 ≤ b) (hX : o + k ≤ X.size) (hk : k ≤ 1048576) (hS : strs (X.extract o (o + k)) = true) (hb : b + (k : Int) ≤ 1099511627776) {B : Nat} :
    AWp cfg ⟨0, B⟩ cz b21 (frame0 21 (ntOf 21) #[p0, VS X o k]) (sN true a b) fun ex fr' s' => (ex = .normal ∨ ex = .ret) ∧ fr'.tm.get 4 = some (.int .i64 (lI a #[] k : Nat)) ∧ EffEnd true a (bI a b #[] k) ⟨a, b, true, #[]⟩ (if lI a #[] k = 0 then none else some (false, mI a #[] X o k)) s' := by
  rw [b21_eq]
  have h6 : strs (#[] : Array Value) = true := by simp [strs]
  have hz0 : (#[] : Array Value).size = 0 := rfl
  have hlI : ∀ j, lI a #[] j = min j a.toNat := fun j => by unfold lI; rw [hz0, Nat.sub_zero]
  have hl0 : lI a #[] 0 = 0 := by rw [hlI]; omega
  have hst0 : stN a b X o 0 = sN1 true a b := by unfold stN; rw [if_pos rfl]
  have hhd0 : hd21 a #[] X o k 0 = fr21 X o k 0 0 := by unfold hd21; rw [hl0]; rfl
  have hm : ∀ i, i ≤ k → strs (mI a #[] X o i) = true := fun i hi => strs_m h6 hS hi
  refine AWp.nestP good (m := 1) (sel := kp [0, 1, 5] kN) (path_eval noT_ok (xa_cond a b X o k) (xa_leaf a b X o k)) trivial (one_pin ⟨_, rfl⟩) (Nat.zero_le _) fun fr1 s1 hS1 hG1 => ?_
  refine AWp.forP good rfl (N := k) (sel2 := selN a k) (head := hd21 a #[] X o k) (sh := stN a b X o) (stop := stop21 a #[] X o k (stN a b X o)) hS1 hG1 (Nat.le_refl 1) (sel := kp [0, 1, 5, 6] kN)
    ((path_eval noT_ok (xc_cond a b X o k) (xc_leaf a b X o k)).trans (by rw [hst0, hhd0])) (by rw [hst0]; exact trivial) (one_pin ⟨_, rfl⟩) (fun i hi => ?_) (fun i hi _ => round_N h1 h2 h4 hX hk hS hb hi) (fun i hi => ?_) (fun i ex hi => ?_) ⟨k, Nat.le_refl _, by simp [stop21]⟩ (fun i r hi hno hr fr2 s2 hS2 hG2 => ?_)
  · unfold stN
    split
    · exact Nat.le_refl 1
    · exact (by decide : 1 ≤ 2)
  · unfold stop21
    by_cases hik : i < k
    · rw [if_pos hik]
      simp only
      have hnx : stN a b X o (i + 1) = sR true a (bI a b #[] (i + 1)) (mI a #[] X o (i + 1)) := by unfold stN; rw [if_neg (by omega)]
      rw [hnx]
      by_cases hr : i < a.toNat
      · unfold selN
        rw [if_pos ⟨hik, hr⟩]
        split <;> exact plainJ_2 (hm _ (by omega))
      · have hsel : selN a k i = kp [0, 1, 5, 6] kR := by unfold selN; rw [if_neg (by omega), if_neg (by omega)]
        rw [hsel]
        exact plainJ_R (hm _ (by omega))
    · rw [if_neg hik]
      simp only
      have hsel : selN a k i = kp [0, 1, 5, 6] (if i = 0 then kN else kR) := by unfold selN; rw [if_neg (by omega)]
      rw [hsel]
      unfold stN
      split
      · exact trivial
      · exact plainJ_R (hm _ (by omega))
  · unfold selN kp
    simp only
    refine one_pin ?_
    split
    · split
      · exact ⟨_, rfl⟩
      · exact ⟨_, rfl⟩
    · split
      · exact ⟨_, rfl⟩
      · exact ⟨_, rfl⟩
  · unfold stop21 at hr
    by_cases hik : i < k
    · rw [if_pos hik] at hr; cases hr
    · rw [if_neg hik] at hr
      cases hr
      have e : i = k := by omega
      subst e
      refine ⟨rfl, ?_⟩
      simp only at hS2
      by_cases h0 : i = 0
      · subst h0
        rw [hst0] at hS2
        have hb0 : bI a b #[] 0 = b := by unfold bI; rw [hl0]; omega
        refine AWp.seenP good rfl (sel := kp [4] kN) hS2 (Nat.le_refl 1) (Nat.zero_le _) (path_eval noT_ok (ya_cond a b X o 0 (lI a #[] 0 : Nat) ((0 : Nat) : Int)) (ya_leaf a b X o 0 (lI a #[] 0 : Nat) ((0 : Nat) : Int))) trivial (one_pin ⟨_, rfl⟩) fun fr3 s3 hS3 hG3 => ⟨.inr rfl, ?_, ?_⟩
        · exact hS3.sn.slot (frS_one 21 4 _) rfl
        · rw [if_pos hl0, hb0]
          exact end_same1 hS3 rfl rfl (hG2.trans hG3)
      · have hst : stN a b X o i = sR true a (bI a b #[] i) (mI a #[] X o i) := by unfold stN; rw [if_neg h0]
        rw [hst] at hS2
        have hl : lI a #[] i ≠ 0 := by rw [hlI]; omega
        refine AWp.seenP good rfl (sel := kp [4] kR) hS2 (show (1 : Nat) ≤ 2 by decide) (Nat.zero_le _) (path_eval noT_ok (yb_cond a (bI a b #[] i) X (mI a #[] X o i) o i (lI a #[] i : Nat) (i : Nat)) (yb_leaf a (bI a b #[] i) X (mI a #[] X o i) o i (lI a #[] i : Nat) (i : Nat))) (plainJ_R (hm _ (by omega))) (one_pin ⟨_, rfl⟩) fun fr3 s3 hS3 hG3 => ⟨.inr rfl, ?_, ?_⟩
        · exact hS3.sn.slot (frS_one 21 4 _) rfl
        · rw [if_neg hl]
          exact end_new1 hS3 rfl rfl (strs_plain (hm _ (by omega))) (strs_free (hm _ (by omega))) rfl (hG2.trans hG3) (by simp) (Nat.le_refl _) (Nat.le_refl _) (Nat.le_refl _) (.inr rfl)
end

theorem tells21 [Z : Zone] : EffTells cfg (fnOf 21 [.tmp 4]) 21 true sendE := by
  intro n l hok _ _
  obtain ⟨hn, X, o, k, rfl, hX, hk, hS, hb⟩ := sendE_arg hok
  refine ⟨nt21, fun B => ?_⟩
  obtain ⟨a, b, nl, M⟩ := n
  obtain ⟨h1, h2, h3, h4, h5, h6, h7⟩ := netOk_iff.1 hn
  simp only at h1 h2 h3 h4 h5 h6 h7 hb
  have hrs : (sendE.res ⟨a, b, nl, M⟩ [VS X o k]) = .int .i64 (lI a M k : Nat) := rfl
  cases nl with
  | true =>
    obtain rfl := h7 rfl
    refine (send_N h1 h2 h4 hX hk hS hb (B := B)).mono fun ex fr' s' ⟨q1, q2, q3⟩ => ⟨q1, _, resultsV_one q2 rfl, rfl, ?_⟩
    exact q3
  | false =>
    refine (send_R h1 h2 h3 h4 h6 hX hk hS hb (B := B)).mono fun ex fr' s' ⟨q1, q2, q3⟩ => ⟨q1, _, resultsV_one q2 rfl, rfl, ?_⟩
    exact q3
end
end Go.Proofs.Ytgcffmkifjnmlaa
