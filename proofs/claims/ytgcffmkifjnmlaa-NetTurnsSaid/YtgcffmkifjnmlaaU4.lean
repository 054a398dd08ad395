/- NetTurns: a take's conditions. -/
import Derived.Test.YtgcffmkifjnmlaaU3
namespace Go.Proofs.Ytgcffmkifjnmlaa
open Go.Am
noncomputable section
theorem all_rep (n : Nat) : (List.replicate n (Value.string ⟨#[]⟩)).all Value.oneCell' = true := by simp [Value.oneCell', plainN]

theorem ta_true {A P Q : Array Value} (hS : Str P) {n cp : Nat} {I la lb : Int} {n1 k1 n2 k2 : Nat} {a : Int} (ha : Int.tmod I (n1 : Int) = a) (h : 0 ≤ a) (h' : a + 1 < n1) (hn : n1 ≤ 4294967295) (hP : n1 ≤ P.size) : ta_c A P Q n cp I la lb n1 k1 n2 k2 = true := by
  have hw : IntKind.wrap .i64 (a + 1) = a + 1 := wrap_id (by omega) (by omega)
  have hC : (#[] ++ P.extract 0 (0 + n1 * 1) : Array Value) = P.extract 0 n1 := by simp
  have hX : (P.extract 0 n1).extract (0 + Int.toNat (a + 1) * 1) (0 + Int.toNat (a + 1) * 1 + (0 + n1 - Int.toNat (a + 1)) * 1) = P.extract (a.toNat + 1) n1 := by
    rw [show Int.toNat (a + 1) = a.toNat + 1 from by omega]
    apply Array.ext
    · simp; omega
    · intro i h1 h2
      simp
  have hs0 : (P.extract 0 n1).size = n1 := by simp; omega
  have hs1 : (P.extract (a.toNat + 1) n1).toList.length = n1 - (a.toNat + 1) := len_toList P _ n1 hP
  have e0 : (P.extract 0 (0 + n1 * 1)).toList.all Value.oneCell' = true := (hS.extract _ _).all
  have e1 : (P.extract (a.toNat + 1) n1).toList.all Value.oneCell' = true := (hS.extract _ _).all
  obtain ⟨x, hx⟩ := hS.at (show a.toNat < P.size by omega)
  have hx' : P[0 + a.toNat * 1]? = some (.string x) := by rw [show 0 + a.toNat * 1 = a.toNat from by omega]; exact hx
  simp only [ta_c, ha, hw, hC, hX, zc]
  simp only [Bool.and_eq_true, Bool.not_eq_true', decide_eq_true_eq, decide_eq_false_iff_not, beq_eq_false_iff_ne, blit_size, hs0, hs1, List.length_replicate, and_true, e0, e1, all_rep, isStr_of ⟨x, hx'⟩, true_and]
  unfold nLim
  omega

theorem tb_true {A P Q : Array Value} (hS : Str P) {n cp : Nat} {I la lb : Int} {n1 k1 n2 k2 : Nat} {a : Int} (ha : Int.tmod I (n1 : Int) = a) (h : 0 ≤ a) (h' : a + 1 = n1) (hn : n1 ≤ 4294967295) (hP : n1 ≤ P.size) : tb_c A P Q n cp I la lb n1 k1 n2 k2 = true := by
  have hw : IntKind.wrap .i64 (a + 1) = a + 1 := wrap_id (by omega) (by omega)
  have hC : (#[] ++ P.extract 0 (0 + n1 * 1) : Array Value) = P.extract 0 n1 := by simp
  have hs0 : (P.extract 0 n1).size = n1 := by simp; omega
  have e0 : (P.extract 0 (0 + n1 * 1)).toList.all Value.oneCell' = true := (hS.extract _ _).all
  obtain ⟨x, hx⟩ := hS.at (show a.toNat < P.size by omega)
  have hx' : P[0 + a.toNat * 1]? = some (.string x) := by rw [show 0 + a.toNat * 1 = a.toNat from by omega]; exact hx
  simp only [tb_c, ha, hw, hC, zc]
  simp only [Bool.and_eq_true, Bool.not_eq_true', decide_eq_true_eq, decide_eq_false_iff_not, beq_eq_false_iff_ne, blit_size, hs0, List.length_replicate, and_true, e0, all_rep, isStr_of ⟨x, hx'⟩, true_and]
  unfold nLim
  omega

theorem tc_true {A P Q : Array Value} (hS : Str P) {n cp : Nat} {I la lb : Int} {n1 k1 n2 k2 : Nat} {a : Int} (h0 : Int.tmod I (n1 : Int) < 0) (ha : IntKind.wrap .i64 (Int.tmod I (n1 : Int) + (n1 : Int)) = a) (h : 0 ≤ a) (h' : a + 1 < n1) (hn : n1 ≤ 4294967295) (hP : n1 ≤ P.size) : tc_c A P Q n cp I la lb n1 k1 n2 k2 = true := by
  have hw : IntKind.wrap .i64 (a + 1) = a + 1 := wrap_id (by omega) (by omega)
  have hC : (#[] ++ P.extract 0 (0 + n1 * 1) : Array Value) = P.extract 0 n1 := by simp
  have hX : (P.extract 0 n1).extract (0 + Int.toNat (a + 1) * 1) (0 + Int.toNat (a + 1) * 1 + (0 + n1 - Int.toNat (a + 1)) * 1) = P.extract (a.toNat + 1) n1 := by
    rw [show Int.toNat (a + 1) = a.toNat + 1 from by omega]
    apply Array.ext
    · simp; omega
    · intro i h1 h2
      simp
  have hs0 : (P.extract 0 n1).size = n1 := by simp; omega
  have hs1 : (P.extract (a.toNat + 1) n1).toList.length = n1 - (a.toNat + 1) := len_toList P _ n1 hP
  have e0 : (P.extract 0 (0 + n1 * 1)).toList.all Value.oneCell' = true := (hS.extract _ _).all
  have e1 : (P.extract (a.toNat + 1) n1).toList.all Value.oneCell' = true := (hS.extract _ _).all
  obtain ⟨x, hx⟩ := hS.at (show a.toNat < P.size by omega)
  have hx' : P[0 + a.toNat * 1]? = some (.string x) := by rw [show 0 + a.toNat * 1 = a.toNat from by omega]; exact hx
  simp only [tc_c, ha, hw, hC, hX, zc]
  simp only [Bool.and_eq_true, Bool.not_eq_true', decide_eq_true_eq, decide_eq_false_iff_not, beq_eq_false_iff_ne, blit_size, hs0, hs1, List.length_replicate, and_true, e0, e1, all_rep, isStr_of ⟨x, hx'⟩, true_and]
  unfold nLim
  omega

theorem td_true {A P Q : Array Value} (hS : Str P) {n cp : Nat} {I la lb : Int} {n1 k1 n2 k2 : Nat} {a : Int} (h0 : Int.tmod I (n1 : Int) < 0) (ha : IntKind.wrap .i64 (Int.tmod I (n1 : Int) + (n1 : Int)) = a) (h : 0 ≤ a) (h' : a + 1 = n1) (hn : n1 ≤ 4294967295) (hP : n1 ≤ P.size) : td_c A P Q n cp I la lb n1 k1 n2 k2 = true := by
  have hw : IntKind.wrap .i64 (a + 1) = a + 1 := wrap_id (by omega) (by omega)
  have hC : (#[] ++ P.extract 0 (0 + n1 * 1) : Array Value) = P.extract 0 n1 := by simp
  have hs0 : (P.extract 0 n1).size = n1 := by simp; omega
  have e0 : (P.extract 0 (0 + n1 * 1)).toList.all Value.oneCell' = true := (hS.extract _ _).all
  obtain ⟨x, hx⟩ := hS.at (show a.toNat < P.size by omega)
  have hx' : P[0 + a.toNat * 1]? = some (.string x) := by rw [show 0 + a.toNat * 1 = a.toNat from by omega]; exact hx
  simp only [td_c, ha, hw, hC, zc]
  simp only [Bool.and_eq_true, Bool.not_eq_true', decide_eq_true_eq, decide_eq_false_iff_not, beq_eq_false_iff_ne, blit_size, hs0, List.length_replicate, and_true, e0, all_rep, isStr_of ⟨x, hx'⟩, true_and]
  unfold nLim
  omega
end
end Go.Proofs.Ytgcffmkifjnmlaa
