/- NetTurns: the second take. -/
import Derived.Test.YtgcffmkifjnmlaaU5
import Derived.Test.YtgcffmkifjnmlaaU6
namespace Go.Proofs.Ytgcffmkifjnmlaa
open Go.Am
noncomputable section
theorem va_true {A P Q : Array Value} (hS : Str Q) {n cp : Nat} {I la lb : Int} {n1 k1 n2 k2 : Nat} {y : ByteArray} {a : Int} (ha : Int.tmod (Jof I n) (n2 : Int) = a) (h : 0 ≤ a) (h' : a + 1 < n2) (hn : n2 ≤ 4294967295) (hP : n2 ≤ Q.size) : va_c A P Q n cp I la lb n1 k1 n2 k2 y = true := by
  have hw : IntKind.wrap .i64 (a + 1) = a + 1 := wrap_id (by omega) (by omega)
  have hC : (#[] ++ Q.extract 0 (0 + n2 * 1) : Array Value) = Q.extract 0 n2 := by simp
  have hX : (Q.extract 0 n2).extract (0 + Int.toNat (a + 1) * 1) (0 + Int.toNat (a + 1) * 1 + (0 + n2 - Int.toNat (a + 1)) * 1) = Q.extract (a.toNat + 1) n2 := by
    rw [show Int.toNat (a + 1) = a.toNat + 1 from by omega]
    apply Array.ext
    · simp; omega
    · intro i h1 h2
      simp
  have hs0 : (Q.extract 0 n2).size = n2 := by simp; omega
  have hs1 : (Q.extract (a.toNat + 1) n2).toList.length = n2 - (a.toNat + 1) := len_toList Q _ n2 hP
  have e0 : (Q.extract 0 (0 + n2 * 1)).toList.all Value.oneCell' = true := (hS.extract _ _).all
  have e1 : (Q.extract (a.toNat + 1) n2).toList.all Value.oneCell' = true := (hS.extract _ _).all
  obtain ⟨x, hx⟩ := hS.at (show a.toNat < Q.size by omega)
  have hx' : Q[0 + a.toNat * 1]? = some (.string x) := by rw [show 0 + a.toNat * 1 = a.toNat from by omega]; exact hx
  simp only [va_c, ha, hw, hC, hX, zc]
  simp only [Bool.and_eq_true, Bool.not_eq_true', decide_eq_true_eq, decide_eq_false_iff_not, beq_eq_false_iff_ne, blit_size, hs0, hs1, List.length_replicate, and_true, e0, e1, all_rep, isStr_of ⟨x, hx'⟩, true_and]
  unfold nLim
  omega

theorem vb_true {A P Q : Array Value} (hS : Str Q) {n cp : Nat} {I la lb : Int} {n1 k1 n2 k2 : Nat} {y : ByteArray} {a : Int} (ha : Int.tmod (Jof I n) (n2 : Int) = a) (h : 0 ≤ a) (h' : a + 1 = n2) (hn : n2 ≤ 4294967295) (hP : n2 ≤ Q.size) : vb_c A P Q n cp I la lb n1 k1 n2 k2 y = true := by
  have hw : IntKind.wrap .i64 (a + 1) = a + 1 := wrap_id (by omega) (by omega)
  have hC : (#[] ++ Q.extract 0 (0 + n2 * 1) : Array Value) = Q.extract 0 n2 := by simp
  have hs0 : (Q.extract 0 n2).size = n2 := by simp; omega
  have e0 : (Q.extract 0 (0 + n2 * 1)).toList.all Value.oneCell' = true := (hS.extract _ _).all
  obtain ⟨x, hx⟩ := hS.at (show a.toNat < Q.size by omega)
  have hx' : Q[0 + a.toNat * 1]? = some (.string x) := by rw [show 0 + a.toNat * 1 = a.toNat from by omega]; exact hx
  simp only [vb_c, ha, hw, hC, zc]
  simp only [Bool.and_eq_true, Bool.not_eq_true', decide_eq_true_eq, decide_eq_false_iff_not, beq_eq_false_iff_ne, blit_size, hs0, List.length_replicate, and_true, e0, all_rep, isStr_of ⟨x, hx'⟩, true_and]
  unfold nLim
  omega

theorem vc_true {A P Q : Array Value} (hS : Str Q) {n cp : Nat} {I la lb : Int} {n1 k1 n2 k2 : Nat} {y : ByteArray} {a : Int} (h0 : Int.tmod (Jof I n) (n2 : Int) < 0) (ha : IntKind.wrap .i64 (Int.tmod (Jof I n) (n2 : Int) + (n2 : Int)) = a) (h : 0 ≤ a) (h' : a + 1 < n2) (hn : n2 ≤ 4294967295) (hP : n2 ≤ Q.size) : vc_c A P Q n cp I la lb n1 k1 n2 k2 y = true := by
  have hw : IntKind.wrap .i64 (a + 1) = a + 1 := wrap_id (by omega) (by omega)
  have hC : (#[] ++ Q.extract 0 (0 + n2 * 1) : Array Value) = Q.extract 0 n2 := by simp
  have hX : (Q.extract 0 n2).extract (0 + Int.toNat (a + 1) * 1) (0 + Int.toNat (a + 1) * 1 + (0 + n2 - Int.toNat (a + 1)) * 1) = Q.extract (a.toNat + 1) n2 := by
    rw [show Int.toNat (a + 1) = a.toNat + 1 from by omega]
    apply Array.ext
    · simp; omega
    · intro i h1 h2
      simp
  have hs0 : (Q.extract 0 n2).size = n2 := by simp; omega
  have hs1 : (Q.extract (a.toNat + 1) n2).toList.length = n2 - (a.toNat + 1) := len_toList Q _ n2 hP
  have e0 : (Q.extract 0 (0 + n2 * 1)).toList.all Value.oneCell' = true := (hS.extract _ _).all
  have e1 : (Q.extract (a.toNat + 1) n2).toList.all Value.oneCell' = true := (hS.extract _ _).all
  obtain ⟨x, hx⟩ := hS.at (show a.toNat < Q.size by omega)
  have hx' : Q[0 + a.toNat * 1]? = some (.string x) := by rw [show 0 + a.toNat * 1 = a.toNat from by omega]; exact hx
  simp only [vc_c, ha, hw, hC, hX, zc]
  simp only [Bool.and_eq_true, Bool.not_eq_true', decide_eq_true_eq, decide_eq_false_iff_not, beq_eq_false_iff_ne, blit_size, hs0, hs1, List.length_replicate, and_true, e0, e1, all_rep, isStr_of ⟨x, hx'⟩, true_and]
  unfold nLim
  omega

theorem vd_true {A P Q : Array Value} (hS : Str Q) {n cp : Nat} {I la lb : Int} {n1 k1 n2 k2 : Nat} {y : ByteArray} {a : Int} (h0 : Int.tmod (Jof I n) (n2 : Int) < 0) (ha : IntKind.wrap .i64 (Int.tmod (Jof I n) (n2 : Int) + (n2 : Int)) = a) (h : 0 ≤ a) (h' : a + 1 = n2) (hn : n2 ≤ 4294967295) (hP : n2 ≤ Q.size) : vd_c A P Q n cp I la lb n1 k1 n2 k2 y = true := by
  have hw : IntKind.wrap .i64 (a + 1) = a + 1 := wrap_id (by omega) (by omega)
  have hC : (#[] ++ Q.extract 0 (0 + n2 * 1) : Array Value) = Q.extract 0 n2 := by simp
  have hs0 : (Q.extract 0 n2).size = n2 := by simp; omega
  have e0 : (Q.extract 0 (0 + n2 * 1)).toList.all Value.oneCell' = true := (hS.extract _ _).all
  obtain ⟨x, hx⟩ := hS.at (show a.toNat < Q.size by omega)
  have hx' : Q[0 + a.toNat * 1]? = some (.string x) := by rw [show 0 + a.toNat * 1 = a.toNat from by omega]; exact hx
  simp only [vd_c, ha, hw, hC, zc]
  simp only [Bool.and_eq_true, Bool.not_eq_true', decide_eq_true_eq, decide_eq_false_iff_not, beq_eq_false_iff_ne, blit_size, hs0, List.length_replicate, and_true, e0, all_rep, isStr_of ⟨x, hx'⟩, true_and]
  unfold nLim
  omega
theorem take_b {A P Q : Array Value} (hS : Str Q) {n cp : Nat} {I la lb J : Int} {n1 k1 n2 k2 : Nat} {x : ByteArray} (hJ : Jof I n = J) (h1 : 1 ≤ n2) (hn : n2 ≤ 4294967295) (hP : n2 ≤ Q.size) :
    ∃ R y, gcObs 1 1 selX (code cfg2 (call cfg2 60) 60 c1 (cL (cR rest7)) (frW n cp I x) (sU A P Q la lb n1 k1 n2 k2)) = some (.normal, frX n cp x y, sU A P R la lb n1 k1 (n2 - 1) n2) ∧ Q[(J % (n2 : Int)).toNat]? = some (.string y) ∧ Cut Q n2 (J % (n2 : Int)).toNat R := by
  subst hJ
  have b1 := Int.emod_nonneg (Jof I n) (show (n2 : Int) ≠ 0 by omega)
  have b2 := Int.emod_lt_of_pos (Jof I n) (show (0 : Int) < n2 by omega)
  obtain ⟨y, hy⟩ := hS.at (show (Jof I n % (n2 : Int)).toNat < Q.size by omega)
  have hx' : Q[0 + (Jof I n % (n2 : Int)).toNat * 1]? = some (.string y) := by rw [show 0 + (Jof I n % (n2 : Int)).toNat * 1 = (Jof I n % (n2 : Int)).toNat from by omega]; exact hy
  have hts : toStr Q[0 + (Jof I n % (n2 : Int)).toNat * 1]? = y := by rw [hx']; rfl
  have hz : 0 + n2 - 0 = n2 := by omega
  rcases place_eq (Jof I n) (n := n2) (by omega) with ⟨s1, s2⟩ | ⟨s1, s2⟩
  · by_cases hl : Jof I n % (n2 : Int) + 1 < n2
    · have hc := va_true (A := A) (P := P) hS (n := n) (cp := cp) (I := I) (la := la) (lb := lb) (n1 := n1) (k1 := k1) (k2 := k2) (y := x) s2 b1 hl hn hP
      have hr := path_ok t2_ok ((congrFun (congrFun (congrFun (congrFun (congrFun (congrFun (congrFun (congrFun (congrFun (congrFun (congrFun (congrFun (congrFun va_cond A) P) Q) n) cp) I) la) lb) n1) k1) n2) k2) x).trans hc) (congrFun (congrFun (congrFun (congrFun (congrFun (congrFun (congrFun (congrFun (congrFun (congrFun (congrFun (congrFun (congrFun va_leaf A) P) Q) n) cp) I) la) lb) n1) k1) n2) k2) x)
      rw [s2, hts, hz, mOf_eq b1 b2 (by omega)] at hr
      exact ⟨_, y, hr, hy, cutA_ok hS b1 b2 (by omega) hP⟩
    · have hc := vb_true (A := A) (P := P) hS (n := n) (cp := cp) (I := I) (la := la) (lb := lb) (n1 := n1) (k1 := k1) (k2 := k2) (y := x) s2 b1 (by omega) hn hP
      have hr := path_ok t2_ok ((congrFun (congrFun (congrFun (congrFun (congrFun (congrFun (congrFun (congrFun (congrFun (congrFun (congrFun (congrFun (congrFun vb_cond A) P) Q) n) cp) I) la) lb) n1) k1) n2) k2) x).trans hc) (congrFun (congrFun (congrFun (congrFun (congrFun (congrFun (congrFun (congrFun (congrFun (congrFun (congrFun (congrFun (congrFun vb_leaf A) P) Q) n) cp) I) la) lb) n1) k1) n2) k2) x)
      rw [s2, hts, hz, show (Jof I n % (n2 : Int)).toNat - 0 = n2 - 1 from by omega] at hr
      exact ⟨_, y, hr, hy, cutB_ok hS b1 (by omega) hP⟩
  · have hw : IntKind.wrap .i64 (Int.tmod (Jof I n) (n2 : Int) + (n2 : Int)) = Jof I n % (n2 : Int) := by rw [s2]; exact wrap_id (by omega) (by omega)
    by_cases hl : Jof I n % (n2 : Int) + 1 < n2
    · have hc := vc_true (A := A) (P := P) hS (n := n) (cp := cp) (I := I) (la := la) (lb := lb) (n1 := n1) (k1 := k1) (k2 := k2) (y := x) s1 hw b1 hl hn hP
      have hr := path_ok t2_ok ((congrFun (congrFun (congrFun (congrFun (congrFun (congrFun (congrFun (congrFun (congrFun (congrFun (congrFun (congrFun (congrFun vc_cond A) P) Q) n) cp) I) la) lb) n1) k1) n2) k2) x).trans hc) (congrFun (congrFun (congrFun (congrFun (congrFun (congrFun (congrFun (congrFun (congrFun (congrFun (congrFun (congrFun (congrFun vc_leaf A) P) Q) n) cp) I) la) lb) n1) k1) n2) k2) x)
      rw [hw, hts, hz, mOf_eq b1 b2 (by omega)] at hr
      exact ⟨_, y, hr, hy, cutA_ok hS b1 b2 (by omega) hP⟩
    · have hc := vd_true (A := A) (P := P) hS (n := n) (cp := cp) (I := I) (la := la) (lb := lb) (n1 := n1) (k1 := k1) (k2 := k2) (y := x) s1 hw b1 (by omega) hn hP
      have hr := path_ok t2_ok ((congrFun (congrFun (congrFun (congrFun (congrFun (congrFun (congrFun (congrFun (congrFun (congrFun (congrFun (congrFun (congrFun vd_cond A) P) Q) n) cp) I) la) lb) n1) k1) n2) k2) x).trans hc) (congrFun (congrFun (congrFun (congrFun (congrFun (congrFun (congrFun (congrFun (congrFun (congrFun (congrFun (congrFun (congrFun vd_leaf A) P) Q) n) cp) I) la) lb) n1) k1) n2) k2) x)
      rw [hw, hts, hz, show (Jof I n % (n2 : Int)).toNat - 0 = n2 - 1 from by omega] at hr
      exact ⟨_, y, hr, hy, cutB_ok hS b1 (by omega) hP⟩
end
end Go.Proofs.Ytgcffmkifjnmlaa
