/- What the document takes, told. -/
import Derived.Test.YtgcffmkifjnmlaaNL
namespace Go.Proofs.Ytgcffmkifjnmlaa
open Go.Am
noncomputable section
theorem i22 : cfg.fns 22 = some (fnOf 22 [.tmp 4, .tmp 5]) := by kernel_rfl
theorem nt22 : 2 ≤ ntOf 22 := of_decide_eq_true (by kernel_rfl)
def leftI (M : Array Value) (p i : Nat) : Array Value := M.extract 0 (min i p) ++ M.extract (p + 1) i
theorem leftI_size {M : Array Value} {p i : Nat} (hp : p < M.size) (hi : i ≤ M.size) : (leftI M p i).size = if i ≤ p then i else i - 1 := by
  unfold leftI
  simp
  split <;> omega
theorem leftI_all {M : Array Value} {p : Nat} (hp : p < M.size) : leftI M p M.size = cutM M p := by
  unfold leftI cutM
  rw [show min M.size p = p by omega]
theorem leftI_strs {M : Array Value} (h : strs M = true) (p i : Nat) : strs (leftI M p i) = true := strs_app (strs_ext h _ _) (strs_ext h _ _)
theorem leftI_skip {M : Array Value} {p : Nat} (hp : p < M.size) : leftI M p (p + 1) = leftI M p p := by
  unfold leftI
  rw [show min (p + 1) p = min p p by omega, Array.extract_empty_of_stop_le_start (show p + 1 ≤ p + 1 from Nat.le_refl _), Array.extract_empty_of_stop_le_start (show p ≤ p + 1 by omega)]
theorem leftI_push {M : Array Value} (h : strs M = true) {p i : Nat} (hi : i < M.size) (hne : i ≠ p) : leftI M p (i + 1) = leftI M p i ++ #[.string (toStr M[i]?)] := by
  obtain ⟨x, hx⟩ := strs_get h hi
  rw [str_eq hx]
  unfold leftI
  have one : ∀ a, a ≤ i → M.extract a (i + 1) = M.extract a i ++ #[.string x] := fun a ha => by
    apply Array.ext_getElem?
    intro j
    have hsz : (M.extract a i).size = i - a := by simp; omega
    rw [Array.getElem?_append, hsz, Array.getElem?_extract, Array.getElem?_extract]
    by_cases hj : j < i - a
    · rw [if_pos (by omega), if_pos hj, if_pos (by omega)]
    · rw [if_neg hj]
      by_cases e : j = i - a
      · subst e
        rw [if_pos (by omega), show a + (i - a) = i by omega, hx]; simp
      · rw [if_neg (by omega)]
        simp; omega
  by_cases hlt : i < p
  · rw [show min (i + 1) p = i + 1 by omega, show min i p = i by omega, one 0 (by omega), Array.extract_empty_of_stop_le_start (show i + 1 ≤ p + 1 by omega), Array.extract_empty_of_stop_le_start (show i ≤ p + 1 by omega), Array.append_empty, Array.append_empty]
  · rw [show min (i + 1) p = p by omega, show min i p = p by omega, one (p + 1) (by omega), Array.append_assoc]

section
variable {a b : Int} {M : Array Value} {p : Nat} {t : ByteArray}
def lv (M : Array Value) (p i : Nat) : Value := if (leftI M p i).size = 0 then nilV else sl2 (leftI M p i).size
def hd22 (M : Array Value) (p : Nat) (t : ByteArray) (i : Nat) : Fr := fr22 (p : Nat) t (lv M p i) (i : Nat)
def st22 (a b : Int) (M : Array Value) (p i : Nat) : St := if (leftI M p i).size = 0 then sR true a b M else sL a b M (leftI M p i)
def sel22 (M : Array Value) (p i : Nat) : Ex → List Tmp × List Kept := kp [0, 6, 7, 8, 9]
  (if i < M.size ∧ i ≠ p then (if (leftI M p i).size = 0 then [.cells 0, .plain 1, .plain 3] else [.cells 0, .plain 1, .plain 4]) else (if (leftI M p i).size = 0 then kR else k3))
def stop22 (a b : Int) (M : Array Value) (p : Nat) (t : ByteArray) (i : Nat) : Option (Ex × Fr × St) := if i < M.size then none else some (.exit 0, hd22 M p t i, st22 a b M p i)

theorem round22 (h6 : strs M = true) (hM : M.size ≤ 1000) (hp : p < M.size) {i : Nat} (hi : i ≤ M.size) :
    gcObs 0 0 (sel22 M p i) (code cfg (call cfg 60) 60 cz k22 (hd22 M p t i) (st22 a b M p i)) = some (match stop22 a b M p t i with | some r => r | none => (.normal, hd22 M p t (i + 1), st22 a b M p (i + 1))) := by
  have hin := incN (i := i) (by omega)
  have hsz := leftI_size hp hi
  by_cases hik : i < M.size
  · have hs : stop22 a b M p t i = none := if_pos hik
    rw [hs]
    have hxs := isStr_at h6 hik
    have hxs2 : isStr (some M[i]) = true := by rw [← Array.getElem?_eq_getElem hik]; exact hxs
    by_cases hne : i = p
    · have hsk : leftI M p (i + 1) = leftI M p i := by rw [hne]; exact leftI_skip hp
      have hsel : sel22 M p i = kp [0, 6, 7, 8, 9] (if (leftI M p i).size = 0 then kR else k3) := by unfold sel22; rw [if_neg (fun h => h.2 hne)]
      have hnn : ((i : Int) != (p : Int)) = false := by simp [hne]
      rw [hsel]
      unfold hd22 st22 lv
      rw [hsk]
      by_cases h0 : (leftI M p i).size = 0
      · rw [if_pos h0, if_pos h0, if_pos h0]
        refine path_eval noT_ok ((hb_cond a b (p : Nat) (i : Nat) t M).trans ?_) ((hb_leaf a b (p : Nat) (i : Nat) t M).trans ?_)
        · simp [hb_c, hnn, hik]
        · rw [hin]
      · rw [if_neg h0, if_neg h0, if_neg h0]
        refine path_eval noT_ok ((he_cond a b (p : Nat) (i : Nat) t M (leftI M p i)).trans ?_) ((he_leaf a b (p : Nat) (i : Nat) t M (leftI M p i)).trans ?_)
        · simp [he_c, hnn, hik]
        · rw [hin]
    · have hpu := leftI_push h6 hik hne
      have hnn : ((i : Int) != (p : Int)) = true := by simp; omega
      have hsz1 : (leftI M p (i + 1)).size = (leftI M p i).size + 1 := by rw [hpu]; simp
      unfold hd22 st22 lv sel22
      rw [if_pos (show i < M.size ∧ i ≠ p from ⟨hik, hne⟩), if_neg (show ¬ (leftI M p (i + 1)).size = 0 by omega)]
      by_cases h0 : (leftI M p i).size = 0
      · have he : leftI M p i = #[] := Array.eq_empty_of_size_eq_zero h0
        rw [if_pos h0, if_pos h0, if_pos h0]
        refine path_eval noT_ok ((ha_cond a b (p : Nat) (i : Nat) t M).trans ?_) ((ha_leaf a b (p : Nat) (i : Nat) t M).trans ?_)
        · simp [ha_c, hnn, hik, hxs2]
        · rw [hin, sing_ext, Int.toNat_natCast, Nat.mul_one, Nat.zero_add, hpu, he]
          simp
      · rw [if_neg h0, if_neg h0, if_neg h0]
        refine path_eval noT_ok ((hd_cond a b (p : Nat) (i : Nat) t M (leftI M p i)).trans ?_) ((hd_leaf a b (p : Nat) (i : Nat) t M (leftI M p i)).trans ?_)
        · have hlim : (leftI M p i).size + 1 ≤ nLim := by unfold nLim; split at hsz <;> omega
          simp [hd_c, hnn, hik, hxs2, hlim]
        · rw [hin, sing_ext, Int.toNat_natCast, Nat.mul_one, Nat.mul_one, Nat.zero_add, Nat.zero_add, Array.extract_size, hpu]
          simp
  · have hs : stop22 a b M p t i = some (.exit 0, hd22 M p t i, st22 a b M p i) := if_neg hik
    have hsel : sel22 M p i = kp [0, 6, 7, 8, 9] (if (leftI M p i).size = 0 then kR else k3) := by unfold sel22; rw [if_neg (fun h => hik h.1)]
    rw [hs, hsel]
    have hni : ¬ ((i : Int) < (M.size : Int)) := by omega
    unfold hd22 st22 lv
    by_cases h0 : (leftI M p i).size = 0
    · rw [if_pos h0, if_pos h0, if_pos h0]
      exact path_eval noT_ok ((hc_cond a b (p : Nat) (i : Nat) t M).trans (by simp only [hc_c, hni, decide_false, Bool.not_false, Bool.true_and])) (hc_leaf a b (p : Nat) (i : Nat) t M)
    · rw [if_neg h0, if_neg h0, if_neg h0]
      exact path_eval noT_ok ((hf_cond a b (p : Nat) (i : Nat) t M (leftI M p i)).trans (by simp only [hf_c, hni, decide_false, Bool.not_false, Bool.true_and])) (hf_leaf a b (p : Nat) (i : Nat) t M (leftI M p i))

theorem two_pin {ks : List Kept} (h : ∃ r, ks = .cells 0 :: .plain 1 :: r) : pinned 2 ks := by
  obtain ⟨r, rfl⟩ := h
  refine ⟨by simp, fun j hj => ?_⟩
  match j, hj with
  | 0, _ => rfl
  | 1, _ => rfl
theorem plainJ_L {a b : Int} {M L : Array Value} (h0 : strs M = true) (h : strs L = true) {i j : Nat} : plainJ (sL a b M L) [.cells 0, .plain i, .plain j] 0 := ⟨strs_free h0, strs_free h, trivial⟩
theorem take_R [Z : Zone] (h1 : 1 ≤ a) (h2 : a ≤ 1000) (h3 : (M.size : Int) ≤ a) (h6 : strs M = true) (hp : p < M.size) {i : Int} (hq : qr i M.size = (p : Int)) (hm : M.size ≠ 0) {B : Nat} :
    AWp cfg ⟨0, B⟩ cz b22 (frame0 22 (ntOf 22) #[p0, .int .i64 i]) (sR true a b M) fun ex fr' s' => (ex = .normal ∨ ex = .ret) ∧ (fr'.tm.get 4 = some (.string (toStr M[p]?)) ∧ fr'.tm.get 5 = some (.bool true)) ∧ EffEnd true a b ⟨a, b, false, M⟩ (some (decide (M.size = 1), cutM M p)) s' := by
  rw [b22_eq]
  have hM : M.size ≤ 1000 := by omega
  have hp0 : ¬ ((p : Int) < 0) := by omega
  have hst := isStr_at h6 hp
  have hst2 : isStr (some M[p]) = true := by rw [← Array.getElem?_eq_getElem hp]; exact hst
  have hl0 : (leftI M p 0).size = 0 := by rw [leftI_size hp (by omega)]; simp
  have hst0 : st22 a b M p 0 = sR true a b M := by unfold st22; rw [if_pos hl0]
  have hhd0 : hd22 M p (toStr M[p]?) 0 = fr22 (p : Nat) (toStr M[p]?) nilV 0 := by unfold hd22 lv; rw [if_pos hl0]; rfl
  have hpre := path_eval noT_ok ((gc_cond a b i M).trans (by simp [gc_c, hm, hq, hp0, hst2, hp])) (gc_leaf a b i M)
  rw [hq, Int.toNat_natCast, Nat.mul_one, Nat.zero_add] at hpre
  refine AWp.nestP good (m := 2) hpre (plainJ_R h6) (two_pin ⟨_, rfl⟩) (Nat.zero_le _) fun fr1 s1 hS1 hG1 => ?_
  refine AWp.forP good rfl (N := M.size) (sel2 := sel22 M p) (head := hd22 M p (toStr M[p]?)) (sh := st22 a b M p) (stop := stop22 a b M p (toStr M[p]?)) hS1 hG1 (Nat.le_refl 2) (sel := kp [0, 6, 7, 8, 9] kR)
    ((path_eval noT_ok (gd_cond a b (p : Nat) (toStr M[p]?) M) (gd_leaf a b (p : Nat) (toStr M[p]?) M)).trans (by rw [hst0, hhd0])) (by rw [hst0]; exact plainJ_R h6) (two_pin ⟨_, rfl⟩) (fun i hi => ?_) (fun i hi _ => round22 h6 hM hp hi) (fun i hi => ?_) (fun i ex hi => ?_) ⟨M.size, Nat.le_refl _, by simp [stop22]⟩ (fun i r hi hno hr fr2 s2 hS2 hG2 => ?_)
  · unfold st22
    split
    · exact Nat.le_refl 2
    · exact (by decide : 2 ≤ 3)
  · unfold stop22
    by_cases hik : i < M.size
    · rw [if_pos hik]
      simp only
      by_cases hne : i = p
      · have hsk : leftI M p (i + 1) = leftI M p i := by rw [hne]; exact leftI_skip hp
        have hsel : sel22 M p i = kp [0, 6, 7, 8, 9] (if (leftI M p i).size = 0 then kR else k3) := by unfold sel22; rw [if_neg (fun h => h.2 hne)]
        rw [hsel]
        unfold st22
        rw [hsk]
        split
        · exact plainJ_R h6
        · exact plainJ_L h6 (leftI_strs h6 _ _)
      · have hsz1 : (leftI M p (i + 1)).size = (leftI M p i).size + 1 := by rw [leftI_push h6 hik hne]; simp
        unfold st22 sel22
        rw [if_pos (show i < M.size ∧ i ≠ p from ⟨hik, hne⟩), if_neg (show ¬ (leftI M p (i + 1)).size = 0 by omega)]
        split <;> exact plainJ_L h6 (leftI_strs h6 _ _)
    · rw [if_neg hik]
      simp only
      have hsel : sel22 M p i = kp [0, 6, 7, 8, 9] (if (leftI M p i).size = 0 then kR else k3) := by unfold sel22; rw [if_neg (fun h => hik h.1)]
      rw [hsel]
      unfold st22
      split
      · exact plainJ_R h6
      · exact plainJ_L h6 (leftI_strs h6 _ _)
  · unfold sel22 kp
    simp only
    refine two_pin ?_
    split
    · split
      · exact ⟨_, rfl⟩
      · exact ⟨_, rfl⟩
    · split
      · exact ⟨_, rfl⟩
      · exact ⟨_, rfl⟩
  · unfold stop22 at hr
    by_cases hik : i < M.size
    · rw [if_pos hik] at hr; cases hr
    · rw [if_neg hik] at hr
      cases hr
      have e : i = M.size := by omega
      subst e
      refine ⟨rfl, ?_⟩
      simp only at hS2
      have hla := leftI_all hp
      have hls := leftI_size hp (Nat.le_refl M.size)
      rw [if_neg (by omega)] at hls
      have hcs := leftI_strs h6 p M.size
      rw [hla] at hcs
      by_cases h0 : (leftI M p M.size).size = 0
      · have hs1 : M.size = 1 := by omega
        have hst : st22 a b M p M.size = sR true a b M := by unfold st22; rw [if_pos h0]
        have hhd : hd22 M p (toStr M[p]?) M.size = fr22 (p : Nat) (toStr M[p]?) nilV (M.size : Nat) := by unfold hd22 lv; rw [if_pos h0]
        rw [hst, hhd] at hS2
        refine AWp.seenP good rfl (sel := kp [4, 5] kR) hS2 (Nat.le_refl 2) (Nat.zero_le _) (path_eval noT_ok (hg_cond a b (p : Nat) (M.size : Nat) (toStr M[p]?) M) (hg_leaf a b (p : Nat) (M.size : Nat) (toStr M[p]?) M)) ⟨strs_free h6, trivial⟩ (two_pin ⟨_, rfl⟩) fun fr3 s3 hS3 hG3 => ⟨.inr rfl, ⟨?_, ?_⟩, ?_⟩
        · exact hS3.sn.slot (frS_two 22 4 5 _ _ (by decide)).1 rfl
        · exact hS3.sn.slot (frS_two 22 4 5 _ _ (by decide)).2 rfl
        · rw [decide_eq_true hs1]
          exact end_nil hS3 (by decide) rfl
      · have hs1 : ¬ M.size = 1 := by omega
        have hst : st22 a b M p M.size = sL a b M (leftI M p M.size) := by unfold st22; rw [if_neg h0]
        have hhd : hd22 M p (toStr M[p]?) M.size = fr22 (p : Nat) (toStr M[p]?) (sl2 (leftI M p M.size).size) (M.size : Nat) := by unfold hd22 lv; rw [if_neg h0]
        rw [hst, hhd, hla] at hS2
        refine AWp.seenP good rfl (sel := kp [4, 5] k3) hS2 (show (2 : Nat) ≤ 3 by decide) (Nat.zero_le _) (path_eval noT_ok (hh_cond a b (p : Nat) (M.size : Nat) (toStr M[p]?) M (cutM M p)) (hh_leaf a b (p : Nat) (M.size : Nat) (toStr M[p]?) M (cutM M p))) (plainJ_3 h6 hcs) (two_pin ⟨_, rfl⟩) fun fr3 s3 hS3 hG3 => ⟨.inr rfl, ⟨?_, ?_⟩, ?_⟩
        · exact hS3.sn.slot (frS_two 22 4 5 _ _ (by decide)).1 rfl
        · exact hS3.sn.slot (frS_two 22 4 5 _ _ (by decide)).2 rfl
        · rw [decide_eq_false hs1]
          exact end_new2 hS3 rfl rfl (strs_plain hcs) (strs_free hcs) (by simp) (Nat.le_refl _) (Nat.le_refl _) (Nat.le_refl _) (.inr rfl)
end

theorem tells22 [Z : Zone] : EffTells cfg (fnOf 22 [.tmp 4, .tmp 5]) 22 true (takeE true) := by
  intro n l hok _ _
  obtain ⟨hn, i, rfl, hi1, hi2⟩ := takeE_arg hok
  refine ⟨nt22, fun B => ?_⟩
  obtain ⟨a, b, nl, M⟩ := n
  obtain ⟨h1, h2, h3, h4, h5, h6, h7⟩ := netOk_iff.1 hn
  simp only at h1 h2 h3 h4 h5 h6 h7
  cases nl with
  | true =>
    obtain rfl := h7 rfl
    exact eff_p2 good noT_ok rfl (ga_cond a b i) (ga_leaf a b i) (.inr rfl) rfl rfl rfl rfl rfl fun s e0 e1 _ _ => ⟨e0, e1⟩
  | false =>
    by_cases hm : M.size = 0
    · have hr : (takeE true).row ⟨a, b, false, M⟩ [.int .i64 i] = none := if_pos hm
      have hv : (takeE true).res ⟨a, b, false, M⟩ [.int .i64 i] = .tuple #[.string ⟨#[]⟩, .bool false] := by
        show Value.tuple #[.string (if M.size = 0 then ⟨#[]⟩ else toStr M[(plI M.size i).toNat]?), .bool (!decide (M.size = 0))] = _
        rw [if_pos hm, decide_eq_true hm]; rfl
      rw [hr, hv]
      exact eff_p2 good noT_ok rfl (gb_cond a b i M) (gb_leaf a b i M) (.inr rfl) (by simp [gb_c, hm]) rfl rfl rfl rfl fun s e0 e1 _ _ => ⟨e0, e1⟩
    · obtain ⟨p, hp, hpm, _, _, hq⟩ := plI_q (i := i) hm (by omega)
      have hr : (takeE true).row ⟨a, b, false, M⟩ [.int .i64 i] = some (decide (M.size = 1), cutM M p) := by
        show (if M.size = 0 then none else some (true && _, cutM M (plI M.size i).toNat)) = _
        rw [if_neg hm, hp]; rfl
      have hv : (takeE true).res ⟨a, b, false, M⟩ [.int .i64 i] = .tuple #[.string (toStr M[p]?), .bool true] := by
        show Value.tuple #[.string (if M.size = 0 then ⟨#[]⟩ else toStr M[(plI M.size i).toNat]?), .bool (!decide (M.size = 0))] = _
        rw [if_neg hm, hp, decide_eq_false hm]; rfl
      rw [hr, hv]
      exact (take_R h1 h2 h3 h6 hpm hq hm (B := B)).mono fun ex fr' s' ⟨q1, ⟨q2, q3⟩, q4⟩ => ⟨q1, _, resultsV_two q2 rfl q3 rfl, rfl, q4⟩
end
end Go.Proofs.Ytgcffmkifjnmlaa
