/- NetOrder: what a round of the loop comes to. -/
import Derived.Test.YtgcffmkifjnmlaaO1
namespace Go.Proofs.Ytgcffmkifjnmlaa
open Go.Am
noncomputable section

def Str (R : Array Value) : Prop := ∀ (i : Nat) x, R[i]? = some x → ∃ b, x = .string b
theorem Str.all {R : Array Value} (h : Str R) : R.toList.all Value.oneCell' = true := by
  rw [List.all_eq_true]
  intro x hx
  obtain ⟨i, hi, rfl⟩ := List.getElem_of_mem hx
  obtain ⟨b, hb⟩ := h i _ (by rw [Array.getElem?_eq_getElem (by simpa using hi)])
  have : R.toList[i] = .string b := by simpa using hb
  rw [this]; rfl
theorem Str.plain {R : Array Value} (h : Str R) : R.all (plainN 9) = true := by
  rw [Array.all_eq_true]
  intro i hi
  obtain ⟨b, hb⟩ := h i _ (Array.getElem?_eq_getElem hi)
  rw [hb]; rfl
theorem Str.extract {R : Array Value} (h : Str R) (a b : Nat) : Str (R.extract a b) := by
  intro i x hx
  rw [Array.getElem?_extract] at hx
  split at hx
  · exact h _ x hx
  · cases hx
theorem Str.blit {R : Array Value} (h : Str R) {o : Nat} {vs : List Value} (hle : o + vs.length ≤ R.size) (hv : ∀ x ∈ vs, ∃ b, x = .string b) : Str (blit R o vs) := by
  intro i x hx
  rw [blit_get vs R o i hle] at hx
  split at hx
  · exact hv x (List.mem_of_getElem? hx)
  · exact h i x hx
theorem Str.mem {R : Array Value} (h : Str R) : ∀ x ∈ R.toList, ∃ b, x = .string b := by
  intro x hx
  obtain ⟨i, hi, rfl⟩ := List.getElem_of_mem hx
  exact h i _ (by rw [Array.getElem?_eq_getElem (by simpa using hi)]; simp)

theorem z0_eq (len : Nat) : z0 len = 0 := Int.zero_tmod _
theorem w1 : IntKind.wrap .i64 (0 + 1) = 1 := by decide +kernel
theorem j0_eq (len : Nat) : j0 len = 1 := by unfold j0; rw [z0_eq, w1]; rfl
theorem C0_eq (B : Array Value) (len : Nat) : C0 B len = B.extract 0 len := by unfold C0; simp
theorem m0_eq (len : Nat) : m0 len = len - 1 := by unfold m0; rw [z0_eq, j0_eq]; simp
theorem X0_eq (B : Array Value) {len : Nat} (h : 1 ≤ len) (hB : len ≤ B.size) : X0 B len = B.extract 1 len := by
  unfold X0
  rw [j0_eq, C0_eq]
  apply Array.ext
  · simp; omega
  · intro i h1 h2
    simp
theorem zc (n : Nat) : (Builtin.zeroCells #[Value.string ⟨#[]⟩] n).toList = List.replicate n (.string ⟨#[]⟩) := by
  unfold Builtin.zeroCells
  simp
  apply List.ext_getElem
  · simp
  · intro i h1 h2
    simp
    rw [Nat.mod_one]; rfl

theorem row1_eq (B : Array Value) {len : Nat} (h : 1 ≤ len) (hB : len ≤ B.size) : row1 B len = blit (blit (B.extract 0 len) 0 (B.extract 1 len).toList) (len - 1) [.string ⟨#[]⟩] := by
  unfold row1
  rw [z0_eq, m0_eq, C0_eq, X0_eq B h hB, zc]
  rw [show Int.toNat ((0 + len : Nat) : Int) - Int.toNat ((len - 1 : Nat) : Int) = 1 from by omega, show 0 + 0 * 1 + Int.toNat ((len - 1 : Nat) : Int) * 1 = len - 1 from by omega]
  rfl
theorem row2_eq (B : Array Value) {len : Nat} (h : len = 1) : row2 B len = blit (B.extract 0 1) 0 [.string ⟨#[]⟩] := by
  subst h
  unfold row2
  rw [z0_eq, C0_eq, zc]
  rfl

theorem len_toList (R : Array Value) (a b : Nat) (hb : b ≤ R.size) : (R.extract a b).toList.length = b - a := by simp; omega

theorem row1_ok {B : Array Value} (hS : Str B) {len : Nat} (h : 1 ≤ len) (hB : len ≤ B.size) : (row1 B len).size = len ∧ Str (row1 B len) ∧ ∀ j, j < len - 1 → (row1 B len)[j]? = B[j + 1]? := by
  rw [row1_eq B h hB]
  have e1 : (B.extract 0 len).size = len := by simp; omega
  have e2 : 0 + (B.extract 1 len).toList.length ≤ (B.extract 0 len).size := by rw [len_toList B 1 len hB, e1]; omega
  have e3 : (len - 1) + [Value.string ⟨#[]⟩].length ≤ (blit (B.extract 0 len) 0 (B.extract 1 len).toList).size := by rw [blit_size, e1]; simp; omega
  refine ⟨by rw [blit_size, blit_size, e1], ((hS.extract 0 len).blit e2 (hS.extract 1 len).mem).blit e3 (fun x hx => ⟨⟨#[]⟩, by simpa using hx⟩), fun j hj => ?_⟩
  rw [blit_get _ _ _ _ e3, if_neg (by omega), blit_get _ _ _ _ e2, if_pos (by rw [len_toList B 1 len hB]; omega)]
  simp only [Nat.sub_zero, Array.getElem?_toList, Array.getElem?_extract]
  rw [if_pos (by omega), Nat.add_comm]
theorem row2_ok {B : Array Value} (hS : Str B) {len : Nat} (h : len = 1) (hB : len ≤ B.size) : (row2 B len).size = len ∧ Str (row2 B len) := by
  rw [row2_eq B h]
  subst h
  have e1 : (B.extract 0 1).size = 1 := by simp; omega
  have e3 : 0 + [Value.string ⟨#[]⟩].length ≤ (B.extract 0 1).size := by rw [e1]; simp
  exact ⟨by rw [blit_size, e1], (hS.extract 0 1).blit e3 (fun x hx => ⟨⟨#[]⟩, by simpa using hx⟩)⟩

theorem isStr_of {r : Option Value} (h : ∃ b, r = some (.string b)) : isStr r = true := by
  obtain ⟨b, rfl⟩ := h; rfl
theorem Str.at {R : Array Value} (h : Str R) {i : Nat} (hi : i < R.size) : ∃ b, R[i]? = some (.string b) := by
  obtain ⟨b, hb⟩ := h i _ (Array.getElem?_eq_getElem hi)
  exact ⟨b, by rw [Array.getElem?_eq_getElem hi, hb]⟩

theorem r1_true {A B : Array Value} {n cp : Nat} {laid i M lost : Int} {len cap k : Nat} (hA : Str A) (hBs : Str B) (hi : i = (k : Int)) (hil : i < laid) (hkn : k < n) (hn : n ≤ A.size) (hl : 1 < len) (hlm : len ≤ 4294967296) (hB : len ≤ B.size) (h0 : B[0]? = A[k]?) :
    r1_c A B n cp laid i M lost len cap = true := by
  obtain ⟨a, ha⟩ := hA.at (show k < A.size by omega)
  have hz : Int.tmod 0 (len : Int) = 0 := Int.zero_tmod _
  have hx : X0 B len = B.extract 1 len := X0_eq B (by omega) hB
  subst hi
  have e0 : (B.extract 0 len).toList.all Value.oneCell' = true := (hBs.extract 0 len).all
  have e1 : (B.extract 1 len).toList.all Value.oneCell' = true := (hBs.extract 1 len).all
  have hC : (#[] ++ B.extract 0 (0 + len * 1) : Array Value) = B.extract 0 len := by simp
  have hX : (B.extract 0 len).extract (0 + Int.toNat 1 * 1) (0 + Int.toNat 1 * 1 + (0 + len - Int.toNat 1) * 1) = B.extract 1 len := by
    rw [show Int.toNat 1 = 1 from rfl]
    apply Array.ext
    · simp; omega
    · intro i h1 h2
      simp
  have hs0 : (B.extract 0 len).size = len := by simp; omega
  have hs1 : (B.extract 1 len).toList.length = len - 1 := len_toList B 1 len hB
  have t1 : Int.toNat 1 = 1 := rfl
  have hB0 : B[0 + Int.toNat 0 * 1]? = some (.string a) := h0.trans ha
  have hA0 : A[0 + Int.toNat (k : Int) * 1]? = some (.string a) := by
    rw [show 0 + Int.toNat (k : Int) * 1 = k from by simp]; exact ha
  simp only [r1_c, hz, w1, zc, hC, hX]
  simp only [Bool.and_eq_true, Bool.not_eq_true', decide_eq_true_eq, decide_eq_false_iff_not, beq_eq_false_iff_ne]
  refine ⟨hil, by omega, by omega, by omega, isStr_of ⟨a, hB0⟩, ?_, by omega, ?_, ?_, by omega, ?_, by omega, by omega, ?_, by omega, ?_, by omega, ?_, e1, by omega, ⟨?_, e1⟩, ?_, by omega, by omega, ⟨?_, ?_⟩, by omega, isStr_of ⟨a, hA0⟩, ?_, trivial⟩
  · unfold nLim; simp; omega
  · simp; omega
  · simpa using e0
  · simp; omega
  · omega
  · unfold nLim; simp; omega
  · rw [hs0]; omega
  · rw [hs1, hs0]; simp
  · simp
  · rw [blit_size, hs0, List.length_replicate]; omega
  · simp [Value.oneCell', plainN]
  · rw [hB0, hA0]; simp [toStr]

theorem r2_true {A B : Array Value} {n cp : Nat} {laid i M lost : Int} {len cap k : Nat} (hA : Str A) (hBs : Str B) (hi : i = (k : Int)) (hil : i < laid) (hkn : k < n) (hn : n ≤ A.size) (hl : len = 1) (hB : len ≤ B.size) (h0 : B[0]? = A[k]?) :
    r2_c A B n cp laid i M lost len cap = true := by
  obtain ⟨a, ha⟩ := hA.at (show k < A.size by omega)
  subst hi hl
  have hz : Int.tmod 0 ((1 : Nat) : Int) = 0 := Int.zero_tmod _
  have e0 : (B.extract 0 1).toList.all Value.oneCell' = true := (hBs.extract 0 1).all
  have hC : (#[] ++ B.extract 0 (0 + 1 * 1) : Array Value) = B.extract 0 1 := by simp
  have hs0 : (B.extract 0 1).size = 1 := by simp; omega
  have t1 : Int.toNat 1 = 1 := rfl
  have hB0 : B[0 + Int.toNat 0 * 1]? = some (.string a) := h0.trans ha
  have hA0 : A[0 + Int.toNat (k : Int) * 1]? = some (.string a) := by
    rw [show 0 + Int.toNat (k : Int) * 1 = k from by simp]; exact ha
  simp only [r2_c, hz, w1, zc, hC]
  simp only [Bool.and_eq_true, Bool.not_eq_true', decide_eq_true_eq, decide_eq_false_iff_not, beq_eq_false_iff_ne]
  refine ⟨hil, by omega, by omega, by omega, isStr_of ⟨a, hB0⟩, ?_, by omega, ?_, ?_, by omega, ?_, by omega, by omega, ?_, by omega, ?_, ?_, ?_, ⟨?_, ?_⟩, by omega, isStr_of ⟨a, hA0⟩, ?_, trivial⟩
  · unfold nLim; simp
  · simp; omega
  · simpa using e0
  · simp
  · omega
  · omega
  · omega
  · omega
  · rw [hs0, List.length_replicate]; omega
  · simp [Value.oneCell', plainN]
  · rw [hB0, hA0]; simp [toStr]

/-- How far the loop is. -/
structure At where
  k : Nat
  B : Array Value
  len : Nat
  cap : Nat
structure At.Ok (A : Array Value) (laid : Nat) (p : At) : Prop where
  str : Str p.B
  le : p.k ≤ laid
  len : p.len = laid - p.k
  size : p.len ≤ p.B.size
  row : ∀ j, j < p.len → p.B[j]? = A[p.k + j]?
end
end Go.Proofs.Ytgcffmkifjnmlaa
