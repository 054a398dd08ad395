/- NetTurns: what a take leaves. -/
import Derived.Test.YtgcffmkifjnmlaaU2
namespace Go.Proofs.Ytgcffmkifjnmlaa
open Go.Am
noncomputable section

theorem jOf_eq {a : Int} (h : 0 ≤ a) (h' : a < 4294967296) : jOf a = a.toNat + 1 := by
  unfold jOf
  rw [wrap_id (by omega) (by omega)]
  omega
theorem rowC_eq (P : Array Value) (n1 : Nat) : rowC P n1 = P.extract 0 n1 := by unfold rowC; simp
theorem rowX_eq {P : Array Value} {n1 : Nat} {a : Int} (h : 0 ≤ a) (h' : a < n1) (hn : n1 ≤ 4294967296) (hP : n1 ≤ P.size) : rowX P n1 a = P.extract (a.toNat + 1) n1 := by
  unfold rowX
  rw [jOf_eq h (by omega), rowC_eq]
  apply Array.ext
  · simp; omega
  · intro i h1 h2
    simp
theorem mOf_eq {n1 : Nat} {a : Int} (h : 0 ≤ a) (h' : a < n1) (hn : n1 ≤ 4294967296) : mOf n1 a = n1 - 1 := by
  unfold mOf
  rw [jOf_eq h (by omega)]
  omega
/-- A row without the text at a place: how it looks. -/
structure Cut (P : Array Value) (n1 k : Nat) (R : Array Value) : Prop where
  str : Str R
  size : R.size = n1
  get : ∀ j, j < n1 - 1 → R[j]? = P[if j < k then j else j + 1]?

theorem cutA_ok {P : Array Value} (hS : Str P) {n1 : Nat} {a : Int} (h : 0 ≤ a) (h' : a < n1) (hn : n1 ≤ 4294967296) (hP : n1 ≤ P.size) : Cut P n1 a.toNat (cutA P n1 a) := by
  have e : cutA P n1 a = blit (blit (P.extract 0 n1) a.toNat (P.extract (a.toNat + 1) n1).toList) (n1 - 1) [.string ⟨#[]⟩] := by
    unfold cutA
    rw [mOf_eq h h' hn, rowX_eq h h' hn hP, rowC_eq, zc]
    rw [show Int.toNat ((0 + n1 : Nat) : Int) - Int.toNat ((n1 - 1 : Nat) : Int) = 1 from by omega, show 0 + 0 * 1 + Int.toNat ((n1 - 1 : Nat) : Int) * 1 = n1 - 1 from by omega, show 0 + 0 * 1 + (a.toNat - 0) * 1 = a.toNat from by omega]
    rfl
  rw [e]
  have e1 : (P.extract 0 n1).size = n1 := by simp; omega
  have el : (P.extract (a.toNat + 1) n1).toList.length = n1 - (a.toNat + 1) := len_toList P _ n1 hP
  have e2 : a.toNat + (P.extract (a.toNat + 1) n1).toList.length ≤ (P.extract 0 n1).size := by rw [el, e1]; omega
  have e3 : (n1 - 1) + [Value.string ⟨#[]⟩].length ≤ (blit (P.extract 0 n1) a.toNat (P.extract (a.toNat + 1) n1).toList).size := by rw [blit_size, e1]; simp; omega
  refine ⟨((hS.extract 0 n1).blit e2 (hS.extract _ n1).mem).blit e3 (fun x hx => ⟨⟨#[]⟩, by simpa using hx⟩), by rw [blit_size, blit_size, e1], fun j hj => ?_⟩
  rw [blit_get _ _ _ _ e3, if_neg (by omega), blit_get _ _ _ _ e2, el]
  by_cases hk : j < a.toNat
  · rw [if_neg (by omega), if_pos hk, Array.getElem?_extract, if_pos (by omega), Nat.zero_add]
  · rw [if_pos (by omega), if_neg hk, Array.getElem?_toList, Array.getElem?_extract, if_pos (by omega)]
    congr 1; omega
theorem cutB_ok {P : Array Value} (hS : Str P) {n1 : Nat} {a : Int} (h : 0 ≤ a) (h' : a.toNat + 1 = n1) (hP : n1 ≤ P.size) : Cut P n1 a.toNat (cutB P n1 a) := by
  have e : cutB P n1 a = blit (P.extract 0 n1) a.toNat [.string ⟨#[]⟩] := by
    unfold cutB
    rw [rowC_eq, zc]
    rw [show Int.toNat ((0 + n1 : Nat) : Int) - Int.toNat ((a.toNat - 0 : Nat) : Int) = 1 from by omega, show 0 + 0 * 1 + Int.toNat ((a.toNat - 0 : Nat) : Int) * 1 = a.toNat from by omega]
    rfl
  rw [e]
  have e1 : (P.extract 0 n1).size = n1 := by simp; omega
  have e3 : a.toNat + [Value.string ⟨#[]⟩].length ≤ (P.extract 0 n1).size := by rw [e1]; simp; omega
  refine ⟨(hS.extract 0 n1).blit e3 (fun x hx => ⟨⟨#[]⟩, by simpa using hx⟩), by rw [blit_size, e1], fun j hj => ?_⟩
  rw [blit_get _ _ _ _ e3, if_neg (by simp; omega), if_pos (by omega), Array.getElem?_extract, if_pos (by omega), Nat.zero_add]
end
end Go.Proofs.Ytgcffmkifjnmlaa
