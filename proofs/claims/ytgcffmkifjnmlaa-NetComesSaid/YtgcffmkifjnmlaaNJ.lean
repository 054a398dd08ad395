/- What the document sends, told. -/
import Derived.Test.YtgcffmkifjnmlaaNI
namespace Go.Proofs.Ytgcffmkifjnmlaa
open Go.Am
noncomputable section
theorem i21 : cfg.fns 21 = some (fnOf 21 [.tmp 4]) := by kernel_rfl
theorem nt21 : 2 ≤ ntOf 21 := of_decide_eq_true (by kernel_rfl)
theorem isS_plain {v : Value} (h : isS v = true) : plainN 9 v = true := by
  unfold isS at h
  split at h
  · rfl
  · cases h
theorem strs_plain {M : Array Value} (h : strs M = true) : M.all (plainN 9) = true := by
  unfold strs at h
  rw [Array.all_eq_true] at h ⊢
  exact fun i hi => isS_plain (h i hi)
theorem incN {i : Nat} (h : i ≤ 4294967296) : inc (i : Int) = ((i + 1 : Nat) : Int) := wrapS h
theorem str_eq {r : Option Value} {b : ByteArray} (h : r = some (.string b)) : Value.string (toStr r) = .string b := by rw [h]; rfl
theorem ext_get {X : Array Value} {o k i : Nat} (hS : strs (X.extract o (o + k)) = true) (hX : o + k ≤ X.size) (hi : i < k) : ∃ b, X[o + i]? = some (.string b) := by
  obtain ⟨b, h⟩ := strs_get hS (i := i) (by simp; omega)
  rw [Array.getElem?_extract, if_pos (by omega)] at h
  exact ⟨b, h⟩
theorem ext_push {X : Array Value} {o k i : Nat} (hS : strs (X.extract o (o + k)) = true) (hX : o + k ≤ X.size) (hi : i < k) : X.extract o (o + (i + 1)) = X.extract o (o + i) ++ #[.string (toStr X[o + i]?)] := by
  obtain ⟨b, h⟩ := ext_get hS hX hi
  rw [str_eq h]
  apply Array.ext_getElem?
  intro j
  have hsz : (X.extract o (o + i)).size = i := by simp; omega
  rw [Array.getElem?_append, hsz, Array.getElem?_extract, Array.getElem?_extract]
  by_cases hj : j < i
  · rw [if_pos (by omega), if_pos hj, if_pos (by omega)]
  · rw [if_neg hj]
    by_cases e : j = i
    · subst e
      rw [if_pos (by omega), h]; simp
    · rw [if_neg (by omega)]
      simp; omega
theorem emp_eq : emp = #[] := by simp [emp]
theorem sing_ext (b : ByteArray) : (sing b).extract 0 (0 + 1 * 1) = #[.string b] := by simp [sing]
theorem cpy_ext (M : Array Value) : (cpy M).extract 0 (0 + (0 + M.size) * 1) = M := by
  rw [cpy_eq]; simp

theorem s3_eq {a b : Int} {M0 M : Array Value} {l : Nat} (h : l = M.size) : s3' a b M0 l M = s3 a b M0 M := by subst h; rfl
theorem s2_eq {a b : Int} {M : Array Value} {l : Nat} (h : l = M.size) : s2 a b l M = sR true a b M := by subst h; rfl
section
variable {a b : Int} {M0 X : Array Value} {o k : Nat}
/-- what has been laid of the first i; the row; what was lost -/
def lI (a : Int) (M0 : Array Value) (i : Nat) : Nat := min i (a.toNat - M0.size)
def mI (a : Int) (M0 X : Array Value) (o i : Nat) : Array Value := M0 ++ X.extract o (o + lI a M0 i)
def bI (a b : Int) (M0 : Array Value) (i : Nat) : Int := b + ((i - lI a M0 i : Nat) : Int)
def hd21 (a : Int) (M0 X : Array Value) (o k i : Nat) : Fr := fr21 X o k (lI a M0 i : Nat) (i : Nat)
def stR (a b : Int) (M0 X : Array Value) (o i : Nat) : St := if lI a M0 i = 0 then sR true a (bI a b M0 i) M0 else s3 a (bI a b M0 i) M0 (mI a M0 X o i)
def stN (a b : Int) (X : Array Value) (o i : Nat) : St := if i = 0 then sN1 true a b else sR true a (bI a b #[] i) (mI a #[] X o i)
def selR (a : Int) (M0 : Array Value) (k i : Nat) : Ex → List Tmp × List Kept := kp [0, 1, 5, 6]
  (if i < k ∧ i < a.toNat - M0.size then (if i = 0 then (if M0.size = 0 then [.cells 0, .plain 1, .plain 4] else [.cells 0, .plain 1, .plain 5]) else [.cells 0, .plain 1, .plain 6]) else (if lI a M0 i = 0 then kR else k3))
def selN (a : Int) (k i : Nat) : Ex → List Tmp × List Kept := kp [0, 1, 5, 6]
  (if i < k ∧ i < a.toNat then (if i = 0 then [.cells 0, .plain 3] else [.cells 0, .plain 5]) else (if i = 0 then kN else kR))
def stop21 (a : Int) (M0 X : Array Value) (o k : Nat) (st : Nat → St) (i : Nat) : Option (Ex × Fr × St) := if i < k then none else some (.exit 0, hd21 a M0 X o k i, st i)

theorem push_m (hX : o + k ≤ X.size) (hS : strs (X.extract o (o + k)) = true) {i : Nat} (hi : i < k) (hr : i < a.toNat - M0.size) : mI a M0 X o i ++ #[.string (toStr X[o + i]?)] = mI a M0 X o (i + 1) := by
  unfold mI lI
  rw [show min i (a.toNat - M0.size) = i by omega, show min (i + 1) (a.toNat - M0.size) = i + 1 by omega, ext_push hS hX hi, Array.append_assoc]
theorem size_m (hX : o + k ≤ X.size) {i : Nat} (hi : i ≤ k) : (mI a M0 X o i).size = M0.size + lI a M0 i := by
  unfold mI
  have : lI a M0 i ≤ i := by unfold lI; omega
  simp; omega
theorem strs_m (h6 : strs M0 = true) (hS : strs (X.extract o (o + k)) = true) {i : Nat} (hi : i ≤ k) : strs (mI a M0 X o i) = true := by
  unfold mI
  refine strs_app h6 ?_
  rw [ext_ext (k := k) (by unfold lI; omega)]
  exact strs_ext hS _ _

theorem round_R (h1 : 1 ≤ a) (h2 : a ≤ 1000) (h3 : (M0.size : Int) ≤ a) (h4 : 0 ≤ b) (h6 : strs M0 = true) (hX : o + k ≤ X.size) (hk : k ≤ 1048576) (hS : strs (X.extract o (o + k)) = true) (hb : b + (k : Int) ≤ 1099511627776) {i : Nat} (hi : i ≤ k) :
    gcObs 0 0 (selR a M0 k i) (code cfg (call cfg 60) 60 cz k21 (hd21 a M0 X o k i) (stR a b M0 X o i)) = some (match stop21 a M0 X o k (stR a b M0 X o) i with | some r => r | none => (.normal, hd21 a M0 X o k (i + 1), stR a b M0 X o (i + 1))) := by
  have hin := incN (i := i) (by omega)
  have hsm := size_m (a := a) (M0 := M0) hX hi
  have hst := strs_m (a := a) h6 hS hi
  by_cases hik : i < k
  · have hs : stop21 a M0 X o k (stR a b M0 X o) i = none := if_pos hik
    rw [hs]
    obtain ⟨xb, hxb⟩ := ext_get hS hX hik
    have hxs : isStr X[o + i]? = true := by rw [hxb]; rfl
    by_cases hr : i < a.toNat - M0.size
    · have hl : lI a M0 i = i := by unfold lI; omega
      have hl1 : lI a M0 (i + 1) = i + 1 := by unfold lI; omega
      have hb0 : bI a b M0 i = b := by unfold bI; rw [hl]; omega
      have hb1 : bI a b M0 (i + 1) = b := by unfold bI; rw [hl1]; omega
      have hlt : ((M0.size + i : Nat) : Int) < a := by omega
      have hnx : stR a b M0 X o (i + 1) = s3 a b M0 (mI a M0 X o (i + 1)) := by unfold stR; rw [if_neg (by omega), hb1]
      by_cases h0 : i = 0
      · subst h0
        have hc : stR a b M0 X o 0 = sR true a b M0 := by unfold stR; rw [if_pos hl, hb0]
        rw [hc, hnx]
        have hlt2 : (M0.size : Int) < a := by omega
        have hpm := push_m (M0 := M0) (a := a) hX hS hik hr
        have hm0 : mI a M0 X o 0 = M0 := by unfold mI; rw [hl, Nat.add_zero, show X.extract o o = #[] by rw [Array.extract_empty_of_stop_le_start (Nat.le_refl _)], Array.append_empty]
        rw [hm0] at hpm
        have hone := strs_one h6
        have hik' : 0 < k := hik
        have hxs' : isStr X[o]? = true := hxs
        by_cases hz : M0.size = 0
        · have hsel : selR a M0 k 0 = kp [0, 1, 5, 6] [.cells 0, .plain 1, .plain 4] := by unfold selR; rw [if_pos ⟨hik, hr⟩, if_pos rfl, if_pos hz]
          have hM0 : M0 = #[] := Array.eq_empty_of_size_eq_zero hz
          rw [hsel]
          refine path_eval noT_ok ((vz_cond a b X M0 o k _ _).trans ?_) ((vz_leaf a b X M0 o k _ _).trans ?_)
          · simp [vz_c, hM0, nLim, hik', hxs']
            omega
          · rw [Int.toNat_natCast, Nat.mul_one, sing_ext, emp_eq, ← hM0, hpm, s3_eq (by rw [size_m hX (by omega), hl1]; omega), hl, hin]
            unfold hd21
            rw [hl1]
        · have hsel : selR a M0 k 0 = kp [0, 1, 5, 6] [.cells 0, .plain 1, .plain 5] := by unfold selR; rw [if_pos ⟨hik, hr⟩, if_pos rfl, if_neg hz]
          have hM0 : ¬ M0 = #[] := fun e => hz (by rw [e]; rfl)
          rw [hsel]
          refine path_eval noT_ok ((vb_cond a b X M0 o k _ _).trans ?_) ((vb_leaf a b X M0 o k _ _).trans ?_)
          · simp [vb_c, hone, cpy_eq, nLim, hlt2, hik', hM0, hxs']
            omega
          · rw [Int.toNat_natCast, cpy_ext, sing_ext, Nat.mul_one, hpm, s3_eq (by rw [size_m hX (by omega), hl1]; omega), hl, hin]
            unfold hd21
            rw [hl1]
      · have hc : stR a b M0 X o i = s3 a b M0 (mI a M0 X o i) := by unfold stR; rw [if_neg (by omega), hb0]
        have hsel : selR a M0 k i = kp [0, 1, 5, 6] [.cells 0, .plain 1, .plain 6] := by unfold selR; rw [if_pos ⟨hik, hr⟩, if_neg h0]
        rw [hc, hsel, hnx]
        have hpm := push_m (M0 := M0) (a := a) hX hS hik hr
        have hone := strs_one hst
        rw [hl] at hsm
        refine path_eval noT_ok ((wb_cond a b X M0 _ o k _ _).trans ?_) ((wb_leaf a b X M0 _ o k _ _).trans ?_)
        · have hall : ∀ x, x ∈ List.take (M0.size + i) (mI a M0 X o i).toList → x.oneCell' = true := fun x hx => List.all_eq_true.1 hone x (List.mem_of_mem_take hx)
          simp [wb_c, hone, cpy_eq, nLim, hsm, hlt, hik, hxs, h0]
          exact ⟨by omega, by omega, hall, by omega⟩
        · rw [Int.toNat_natCast, cpy_ext, sing_ext, Nat.mul_one, hpm, s3_eq (by rw [size_m hX (by omega), size_m hX (by omega), hl, hl1]; omega), hl, hin]
          unfold hd21
          rw [hl1]
    · have hl1 : lI a M0 (i + 1) = lI a M0 i := by unfold lI; omega
      have hb1 : IntKind.wrap .i64 (bI a b M0 i + 1) = bI a b M0 (i + 1) := by
        have : lI a M0 i ≤ i := by unfold lI; omega
        unfold bI
        rw [hl1, wrap64 (by omega) (by omega)]; omega
      have hm1 : mI a M0 X o (i + 1) = mI a M0 X o i := by unfold mI; rw [hl1]
      have hsel : selR a M0 k i = kp [0, 1, 5, 6] (if lI a M0 i = 0 then kR else k3) := by unfold selR; rw [if_neg (by omega)]
      rw [hsel]
      have hnl : ¬ (((mI a M0 X o i).size : Int) < a) := by rw [hsm]; unfold lI; omega
      unfold stR hd21
      rw [hl1]
      by_cases h0 : lI a M0 i = 0
      · have hnl0 : ¬ ((M0.size : Int) < a) := by rw [hsm, h0] at hnl; exact hnl
        rw [if_pos h0, if_pos h0, if_pos h0]
        refine path_eval noT_ok ((uc_cond a (bI a b M0 i) X M0 o k (lI a M0 i : Nat) (i : Nat)).trans ?_) ((uc_leaf a (bI a b M0 i) X M0 o k (lI a M0 i : Nat) (i : Nat)).trans ?_)
        · simp [uc_c, hik, hnl0]
        · rw [hin, hb1]
      · rw [if_neg h0, if_neg h0, if_neg h0]
        refine path_eval noT_ok ((wc_cond a (bI a b M0 i) X M0 (mI a M0 X o i) o k (lI a M0 i : Nat) (i : Nat)).trans ?_) ((wc_leaf a (bI a b M0 i) X M0 (mI a M0 X o i) o k (lI a M0 i : Nat) (i : Nat)).trans ?_)
        · simp [wc_c, hik, hnl]
        · rw [hin, hb1, hm1]
  · have hs : stop21 a M0 X o k (stR a b M0 X o) i = some (.exit 0, hd21 a M0 X o k i, stR a b M0 X o i) := if_neg hik
    rw [hs]
    have hsel : selR a M0 k i = kp [0, 1, 5, 6] (if lI a M0 i = 0 then kR else k3) := by unfold selR; rw [if_neg (by omega)]
    rw [hsel]
    have hni : ¬ ((i : Int) < (k : Int)) := by omega
    unfold stR hd21
    by_cases h0 : lI a M0 i = 0
    · rw [if_pos h0, if_pos h0]
      exact path_eval noT_ok ((ud_cond a (bI a b M0 i) X M0 o k (lI a M0 i : Nat) (i : Nat)).trans (by simp only [ud_c, hni, decide_false, Bool.not_false, Bool.true_and])) (ud_leaf a (bI a b M0 i) X M0 o k (lI a M0 i : Nat) (i : Nat))
    · rw [if_neg h0, if_neg h0]
      exact path_eval noT_ok ((wd_cond a (bI a b M0 i) X M0 (mI a M0 X o i) o k (lI a M0 i : Nat) (i : Nat)).trans (by simp only [wd_c, hni, decide_false, Bool.not_false, Bool.true_and])) (wd_leaf a (bI a b M0 i) X M0 (mI a M0 X o i) o k (lI a M0 i : Nat) (i : Nat))

theorem plainJ_R {a b : Int} {M : Array Value} (h : strs M = true) : plainJ (sR true a b M) kR 0 := ⟨strs_free h, trivial⟩
theorem plainJ_3 {a b : Int} {M0 M : Array Value} (h0 : strs M0 = true) (h : strs M = true) {i j : Nat} : plainJ (s3 a b M0 M) [.cells 0, .plain i, .plain j] 0 := ⟨strs_free h0, strs_free h, trivial⟩
theorem plainJ_2 {a b : Int} {M : Array Value} (h : strs M = true) {i : Nat} : plainJ (sR true a b M) [.cells 0, .plain i] 0 := ⟨strs_free h, trivial⟩

theorem end21 (h1 : 1 ≤ a) (h2 : a ≤ 1000) : (lI a M0 k : Int) = ((laidN ⟨a, b, false, M0⟩ k : Nat) : Int) := rfl

theorem send_R [Z : Zone] (h1 : 1 ≤ a) (h2 : a ≤ 1000) (h3 : (M0.size : Int) ≤ a) (h4 : 0 ≤ b) (h6 : strs M0 = true) (hX : o + k ≤ X.size) (hk : k ≤ 1048576) (hS : strs (X.extract o (o + k)) = true) (hb : b + (k : Int) ≤ 1099511627776) {B : Nat} :
    AWp cfg ⟨0, B⟩ cz b21 (frame0 21 (ntOf 21) #[p0, VS X o k]) (sR true a b M0) fun ex fr' s' => (ex = .normal ∨ ex = .ret) ∧ fr'.tm.get 4 = some (.int .i64 (lI a M0 k : Nat)) ∧ EffEnd true a (bI a b M0 k) ⟨a, b, false, M0⟩ (if lI a M0 k = 0 then none else some (false, mI a M0 X o k)) s' := by
  rw [b21_eq]
  have hl0 : lI a M0 0 = 0 := by unfold lI; omega
  have hst0 : stR a b M0 X o 0 = sR true a b M0 := by unfold stR bI; rw [if_pos hl0, hl0]; simp
  have hhd0 : hd21 a M0 X o k 0 = fr21 X o k 0 0 := by unfold hd21; rw [hl0]; rfl
  have hm : ∀ i, i ≤ k → strs (mI a M0 X o i) = true := fun i hi => strs_m h6 hS hi
  refine AWp.nestP good (m := 2) (sel := kp [0, 1, 5] kR) (path_eval noT_ok (xb_cond a b X M0 o k) (xb_leaf a b X M0 o k)) (plainJ_R h6) ⟨by decide, fun j hj => ?_⟩ (Nat.zero_le _) fun fr1 s1 hS1 hG1 => ?_
  · match j, hj with
    | 0, _ => rfl
    | 1, _ => rfl
  refine AWp.forP good rfl (N := k) (sel2 := selR a M0 k) (head := hd21 a M0 X o k) (sh := stR a b M0 X o) (stop := stop21 a M0 X o k (stR a b M0 X o)) hS1 hG1 (Nat.le_refl 2) (sel := kp [0, 1, 5, 6] kR)
    ((path_eval noT_ok (xd_cond a b X M0 o k) (xd_leaf a b X M0 o k)).trans (by rw [hst0, hhd0])) (by rw [hst0]; exact plainJ_R h6) ⟨by decide, fun j hj => ?_⟩ (fun i hi => ?_) (fun i hi _ => round_R h1 h2 h3 h4 h6 hX hk hS hb hi) (fun i hi => ?_) (fun i ex hi => ?_) ⟨k, Nat.le_refl _, by simp [stop21]⟩ (fun i r hi hno hr fr2 s2 hS2 hG2 => ?_)
  · match j, hj with
    | 0, _ => rfl
    | 1, _ => rfl
  · unfold stR
    split
    · exact (by decide : 2 ≤ 2)
    · exact (by decide : 2 ≤ 3)
  · unfold stop21
    by_cases hik : i < k
    · rw [if_pos hik]
      simp only
      by_cases hr : i < a.toNat - M0.size
      · have hl1 : lI a M0 (i + 1) ≠ 0 := by unfold lI; omega
        unfold stR selR
        rw [if_neg hl1, if_pos ⟨hik, hr⟩]
        split
        · split <;> exact plainJ_3 h6 (hm _ (by omega))
        · exact plainJ_3 h6 (hm _ (by omega))
      · have hl1 : lI a M0 (i + 1) = lI a M0 i := by unfold lI; omega
        have hsel : selR a M0 k i = kp [0, 1, 5, 6] (if lI a M0 i = 0 then kR else k3) := by unfold selR; rw [if_neg (by omega)]
        rw [hsel]
        unfold stR
        rw [hl1]
        split
        · exact plainJ_R h6
        · exact plainJ_3 h6 (hm _ (by omega))
    · rw [if_neg hik]
      simp only
      have hsel : selR a M0 k i = kp [0, 1, 5, 6] (if lI a M0 i = 0 then kR else k3) := by unfold selR; rw [if_neg (by omega)]
      rw [hsel]
      unfold stR
      split
      · exact plainJ_R h6
      · exact plainJ_3 h6 (hm _ (by omega))
  · unfold selR kp
    simp only
    have two : ∀ (ks : List Kept), (∃ r, ks = .cells 0 :: .plain 1 :: r) → pinned 2 ks := by
      rintro ks ⟨r, rfl⟩
      refine ⟨by simp, fun j hj => ?_⟩
      match j, hj with
      | 0, _ => rfl
      | 1, _ => rfl
    refine two _ ?_
    split
    · split
      · split
        · exact ⟨_, rfl⟩
        · exact ⟨_, rfl⟩
      · exact ⟨_, rfl⟩
    · split
      · exact ⟨_, rfl⟩
      · exact ⟨_, rfl⟩
  · unfold stop21 at hr
    by_cases hik : i < k
    · rw [if_pos hik] at hr; cases hr
    · rw [if_neg hik] at hr
      cases hr
      have e : i = k := by omega
      subst e
      refine ⟨rfl, ?_⟩
      simp only at hS2
      have two : ∀ (ks : List Kept), (∃ r, ks = .cells 0 :: .plain 1 :: r) → pinned 2 ks := by
        rintro ks ⟨r, rfl⟩
        refine ⟨by simp, fun j hj => ?_⟩
        match j, hj with
        | 0, _ => rfl
        | 1, _ => rfl
      by_cases h0 : lI a M0 i = 0
      · have hst : stR a b M0 X o i = sR true a (bI a b M0 i) M0 := by unfold stR; rw [if_pos h0]
        rw [hst] at hS2
        refine AWp.seenP good rfl (sel := kp [4] kR) hS2 (Nat.le_refl 2) (Nat.zero_le _) (path_eval noT_ok (yb_cond a (bI a b M0 i) X M0 o i (lI a M0 i : Nat) (i : Nat)) (yb_leaf a (bI a b M0 i) X M0 o i (lI a M0 i : Nat) (i : Nat))) (plainJ_R h6) (two _ ⟨_, rfl⟩) fun fr3 s3 hS3 hG3 => ⟨.inr rfl, ?_, ?_⟩
        · exact hS3.sn.slot (frS_one 21 4 _) rfl
        · rw [if_pos h0]
          exact end_same2 hS3 rfl rfl rfl (strs_plain h6)
      · have hst : stR a b M0 X o i = s3 a (bI a b M0 i) M0 (mI a M0 X o i) := by unfold stR; rw [if_neg h0]
        rw [hst] at hS2
        refine AWp.seenP good rfl (sel := kp [4] k3) hS2 (show (2 : Nat) ≤ 3 by decide) (Nat.zero_le _) (path_eval noT_ok (yc_cond a (bI a b M0 i) X M0 (mI a M0 X o i) o i (lI a M0 i : Nat) (i : Nat)) (yc_leaf a (bI a b M0 i) X M0 (mI a M0 X o i) o i (lI a M0 i : Nat) (i : Nat))) (plainJ_3 h6 (hm _ (by omega))) (two _ ⟨_, rfl⟩) fun fr3 s3 hS3 hG3 => ⟨.inr rfl, ?_, ?_⟩
        · exact hS3.sn.slot (frS_one 21 4 _) rfl
        · rw [if_neg h0]
          exact end_new2 hS3 rfl rfl (strs_plain (hm _ (by omega))) (strs_free (hm _ (by omega))) (by simp) (Nat.le_refl _) (Nat.le_refl _) (Nat.le_refl _) (.inr rfl)
end
end
end Go.Proofs.Ytgcffmkifjnmlaa
