/- NetTurns: where a take is made, and what it hands over. -/
import Derived.Test.YtgcffmkifjnmlaaU4
namespace Go.Proofs.Ytgcffmkifjnmlaa
open Go.Am
noncomputable section

theorem place_eq (I : Int) {n : Nat} (hn : 0 < n) : (0 ≤ Int.tmod I n ∧ Int.tmod I n = I % n) ∨ (Int.tmod I n < 0 ∧ Int.tmod I n + n = I % n) := by
  have h1 := Int.emod_nonneg I (show (n : Int) ≠ 0 by omega)
  have h2 := Int.emod_lt_of_pos I (show (0 : Int) < n by omega)
  have e := @Int.tmod_eq_emod I n
  by_cases h : 0 ≤ I ∨ (n : Int) ∣ I
  · rw [if_pos h] at e
    left; omega
  · rw [if_neg h] at e
    have : ((n : Int).natAbs : Int) = n := by omega
    right; omega

theorem take_a {A P Q : Array Value} (hS : Str P) {n cp : Nat} {I la lb : Int} {n1 k1 n2 k2 : Nat} (h1 : 1 ≤ n1) (hn : n1 ≤ 4294967295) (hP : n1 ≤ P.size) :
    ∃ R x, gcObs 1 1 selW (code cfg2 (call cfg2 60) 60 c1 (cL rest7) (frU n cp I) (sU A P Q la lb n1 k1 n2 k2)) = some (.normal, frW n cp I x, sU A R Q la lb (n1 - 1) n1 n2 k2) ∧ P[(I % (n1 : Int)).toNat]? = some (.string x) ∧ Cut P n1 (I % (n1 : Int)).toNat R := by
  have b1 := Int.emod_nonneg I (show (n1 : Int) ≠ 0 by omega)
  have b2 := Int.emod_lt_of_pos I (show (0 : Int) < n1 by omega)
  obtain ⟨x, hx⟩ := hS.at (show (I % (n1 : Int)).toNat < P.size by omega)
  have hx' : P[0 + (I % (n1 : Int)).toNat * 1]? = some (.string x) := by rw [show 0 + (I % (n1 : Int)).toNat * 1 = (I % (n1 : Int)).toNat from by omega]; exact hx
  have hts : toStr P[0 + (I % (n1 : Int)).toNat * 1]? = x := by rw [hx']; rfl
  have hz : 0 + n1 - 0 = n1 := by omega
  rcases place_eq I (n := n1) (by omega) with ⟨s1, s2⟩ | ⟨s1, s2⟩
  · by_cases hl : I % (n1 : Int) + 1 < n1
    · have hc := ta_true (A := A) (Q := Q) hS (n := n) (cp := cp) (la := la) (lb := lb) (k1 := k1) (n2 := n2) (k2 := k2) s2 b1 hl hn hP
      have hr := path_ok t2_ok ((congrFun (congrFun (congrFun (congrFun (congrFun (congrFun (congrFun (congrFun (congrFun (congrFun (congrFun (congrFun ta_cond A) P) Q) n) cp) I) la) lb) n1) k1) n2) k2).trans hc) (congrFun (congrFun (congrFun (congrFun (congrFun (congrFun (congrFun (congrFun (congrFun (congrFun (congrFun (congrFun ta_leaf A) P) Q) n) cp) I) la) lb) n1) k1) n2) k2)
      rw [s2, hts, hz, mOf_eq b1 b2 (by omega)] at hr
      exact ⟨_, x, hr, hx, cutA_ok hS b1 b2 (by omega) hP⟩
    · have hc := tb_true (A := A) (Q := Q) hS (n := n) (cp := cp) (la := la) (lb := lb) (k1 := k1) (n2 := n2) (k2 := k2) s2 b1 (by omega) hn hP
      have hr := path_ok t2_ok ((congrFun (congrFun (congrFun (congrFun (congrFun (congrFun (congrFun (congrFun (congrFun (congrFun (congrFun (congrFun tb_cond A) P) Q) n) cp) I) la) lb) n1) k1) n2) k2).trans hc) (congrFun (congrFun (congrFun (congrFun (congrFun (congrFun (congrFun (congrFun (congrFun (congrFun (congrFun (congrFun tb_leaf A) P) Q) n) cp) I) la) lb) n1) k1) n2) k2)
      rw [s2, hts, hz, show (I % (n1 : Int)).toNat - 0 = n1 - 1 from by omega] at hr
      exact ⟨_, x, hr, hx, cutB_ok hS b1 (by omega) hP⟩
  · have hw : IntKind.wrap .i64 (Int.tmod I (n1 : Int) + (n1 : Int)) = I % (n1 : Int) := by rw [s2]; exact wrap_id (by omega) (by omega)
    by_cases hl : I % (n1 : Int) + 1 < n1
    · have hc := tc_true (A := A) (Q := Q) hS (n := n) (cp := cp) (la := la) (lb := lb) (k1 := k1) (n2 := n2) (k2 := k2) s1 hw b1 hl hn hP
      have hr := path_ok t2_ok ((congrFun (congrFun (congrFun (congrFun (congrFun (congrFun (congrFun (congrFun (congrFun (congrFun (congrFun (congrFun tc_cond A) P) Q) n) cp) I) la) lb) n1) k1) n2) k2).trans hc) (congrFun (congrFun (congrFun (congrFun (congrFun (congrFun (congrFun (congrFun (congrFun (congrFun (congrFun (congrFun tc_leaf A) P) Q) n) cp) I) la) lb) n1) k1) n2) k2)
      rw [hw, hts, hz, mOf_eq b1 b2 (by omega)] at hr
      exact ⟨_, x, hr, hx, cutA_ok hS b1 b2 (by omega) hP⟩
    · have hc := td_true (A := A) (Q := Q) hS (n := n) (cp := cp) (la := la) (lb := lb) (k1 := k1) (n2 := n2) (k2 := k2) s1 hw b1 (by omega) hn hP
      have hr := path_ok t2_ok ((congrFun (congrFun (congrFun (congrFun (congrFun (congrFun (congrFun (congrFun (congrFun (congrFun (congrFun (congrFun td_cond A) P) Q) n) cp) I) la) lb) n1) k1) n2) k2).trans hc) (congrFun (congrFun (congrFun (congrFun (congrFun (congrFun (congrFun (congrFun (congrFun (congrFun (congrFun (congrFun td_leaf A) P) Q) n) cp) I) la) lb) n1) k1) n2) k2)
      rw [hw, hts, hz, show (I % (n1 : Int)).toNat - 0 = n1 - 1 from by omega] at hr
      exact ⟨_, x, hr, hx, cutB_ok hS b1 (by omega) hP⟩
end
end Go.Proofs.Ytgcffmkifjnmlaa
