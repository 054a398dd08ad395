/- NetTurns: what stands ahead of the takes. -/
import Derived.Test.YtgcffmkifjnmlaaU
namespace Go.Proofs.Ytgcffmkifjnmlaa
open Go.Am
noncomputable section
def ua_bits : List Bool := [false, false, false, false, false, false, false, false, false, false, false, false, false, false, false, false, false, false, false, false, false, false, false, false, false, false, false, false, false, false, false, false, false, false, false, false, false, false, false, false, true, true, true, false, true, true, true, false, true, false, true, true, true, true, false, false, false, true, true, true, false, true, true, true, false, true, false, true, true, true, true, false]
def ua_c (A : Array Value) (n cp : Nat) (I : Int) : Bool :=
  !(decide ((n : Int) < 1))
   && (!(decide ((n : Int) > 50))
   && (!(decide (I < -1099511627776))
   && (!(decide (I > 1099511627776))
   && ((decide (0 ≤ if IntKind.wrap IntKind.i64 (50 - ((0 : Nat) : Int)) < ↑n then IntKind.wrap IntKind.i64 (50 - ((0 : Nat) : Int)) else ↑n))
   && ((decide (Int.toNat (if IntKind.wrap IntKind.i64 (50 - ((0 : Nat) : Int)) < ↑n then IntKind.wrap IntKind.i64 (50 - ((0 : Nat) : Int)) else ↑n) ≤ cp))
   && ((decide (0 < cp))
   && ((decide (0 + (Int.toNat (if IntKind.wrap IntKind.i64 (50 - ((0 : Nat) : Int)) < ↑n then IntKind.wrap IntKind.i64 (50 - ((0 : Nat) : Int)) else ↑n) - 0) ≤ nLim) && true && true && true && true && true)
   && (!(decide (Int.toNat (if IntKind.wrap IntKind.i64 (50 - ((0 : Nat) : Int)) < ↑n then IntKind.wrap IntKind.i64 (50 - ((0 : Nat) : Int)) else ↑n) - 0 = 0))
   && ((decide (Int.toNat (if IntKind.wrap IntKind.i64 (50 - ((0 : Nat) : Int)) < ↑n then IntKind.wrap IntKind.i64 (50 - ((0 : Nat) : Int)) else ↑n) - 0 ≤ Int.toNat (if IntKind.wrap IntKind.i64 (50 - ((0 : Nat) : Int)) < ↑n then IntKind.wrap IntKind.i64 (50 - ((0 : Nat) : Int)) else ↑n) - 0) && decide (0 + 0 * 1 + (Int.toNat (if IntKind.wrap IntKind.i64 (50 - ((0 : Nat) : Int)) < ↑n then IntKind.wrap IntKind.i64 (50 - ((0 : Nat) : Int)) else ↑n) - 0) * 1 ≤ Array.size A))
   && ((List.all (Array.extract A (0 + 0 * 1) (0 + 0 * 1 + (Int.toNat (if IntKind.wrap IntKind.i64 (50 - ((0 : Nat) : Int)) < ↑n then IntKind.wrap IntKind.i64 (50 - ((0 : Nat) : Int)) else ↑n) - 0) * 1)).toList Value.oneCell')
   && ((decide (0 ≤ if IntKind.wrap IntKind.i64 (50 - ((0 : Nat) : Int)) < ↑n then IntKind.wrap IntKind.i64 (50 - ((0 : Nat) : Int)) else ↑n))
   && ((decide (Int.toNat (if IntKind.wrap IntKind.i64 (50 - ((0 : Nat) : Int)) < ↑n then IntKind.wrap IntKind.i64 (50 - ((0 : Nat) : Int)) else ↑n) ≤ cp))
   && ((decide (0 < cp))
   && ((decide (0 + (Int.toNat (if IntKind.wrap IntKind.i64 (50 - ((0 : Nat) : Int)) < ↑n then IntKind.wrap IntKind.i64 (50 - ((0 : Nat) : Int)) else ↑n) - 0) ≤ nLim) && true && true && true && true && true)
   && (!(decide (Int.toNat (if IntKind.wrap IntKind.i64 (50 - ((0 : Nat) : Int)) < ↑n then IntKind.wrap IntKind.i64 (50 - ((0 : Nat) : Int)) else ↑n) - 0 = 0))
   && ((decide (Int.toNat (if IntKind.wrap IntKind.i64 (50 - ((0 : Nat) : Int)) < ↑n then IntKind.wrap IntKind.i64 (50 - ((0 : Nat) : Int)) else ↑n) - 0 ≤ Int.toNat (if IntKind.wrap IntKind.i64 (50 - ((0 : Nat) : Int)) < ↑n then IntKind.wrap IntKind.i64 (50 - ((0 : Nat) : Int)) else ↑n) - 0) && decide (0 + 0 * 1 + (Int.toNat (if IntKind.wrap IntKind.i64 (50 - ((0 : Nat) : Int)) < ↑n then IntKind.wrap IntKind.i64 (50 - ((0 : Nat) : Int)) else ↑n) - 0) * 1 ≤ Array.size A))
   && ((List.all (Array.extract A (0 + 0 * 1) (0 + 0 * 1 + (Int.toNat (if IntKind.wrap IntKind.i64 (50 - ((0 : Nat) : Int)) < ↑n then IntKind.wrap IntKind.i64 (50 - ((0 : Nat) : Int)) else ↑n) - 0) * 1)).toList Value.oneCell')
   && true)))))))))))))))))
theorem ua_cond : (fun (A : Array Value) (n cp : Nat) (I : Int) => (followT ua_bits (codeT cfg2 (callT cfg2 t2 60) 60 c1 (seqOf pre7) (fr7 n cp I) (heap1 A))).1) = fun (A : Array Value) (n cp : Nat) (I : Int) => ua_c A n cp I := by kernel_rfl
def ub_bits : List Bool := [false, true, true, true, true, true, true, true, true, true, true, true, true, true, true, true, true, true, true]
def ub_c (A : Array Value) (n cp : Nat) (I : Int) : Bool :=
  (decide ((n : Int) < 1))
   && true
theorem ub_cond : (fun (A : Array Value) (n cp : Nat) (I : Int) => (followT ub_bits (codeT cfg2 (callT cfg2 t2 60) 60 c1 b7 (fr7 n cp I) (heap1 A))).1) = fun (A : Array Value) (n cp : Nat) (I : Int) => ub_c A n cp I := by kernel_rfl
def uc_bits : List Bool := [false, false, false, false, false, false, false, false, false, true, true, true, true, true, true, true, true, true, true, true]
def uc_c (A : Array Value) (n cp : Nat) (I : Int) : Bool :=
  !(decide ((n : Int) < 1))
   && ((decide ((n : Int) > 50))
   && true)
theorem uc_cond : (fun (A : Array Value) (n cp : Nat) (I : Int) => (followT uc_bits (codeT cfg2 (callT cfg2 t2 60) 60 c1 b7 (fr7 n cp I) (heap1 A))).1) = fun (A : Array Value) (n cp : Nat) (I : Int) => uc_c A n cp I := by kernel_rfl
def ud_bits : List Bool := [false, false, false, false, false, false, false, false, false, false, false, false, false, false, true, true, true, true, true, true]
def ud_c (A : Array Value) (n cp : Nat) (I : Int) : Bool :=
  !(decide ((n : Int) < 1))
   && (!(decide ((n : Int) > 50))
   && ((decide (I < -1099511627776))
   && true))
theorem ud_cond : (fun (A : Array Value) (n cp : Nat) (I : Int) => (followT ud_bits (codeT cfg2 (callT cfg2 t2 60) 60 c1 b7 (fr7 n cp I) (heap1 A))).1) = fun (A : Array Value) (n cp : Nat) (I : Int) => ud_c A n cp I := by kernel_rfl
def ue_bits : List Bool := [false, false, false, false, false, false, false, false, false, false, false, false, false, false, false, false, false, false, false, true]
def ue_c (A : Array Value) (n cp : Nat) (I : Int) : Bool :=
  !(decide ((n : Int) < 1))
   && (!(decide ((n : Int) > 50))
   && (!(decide (I < -1099511627776))
   && ((decide (I > 1099511627776))
   && true)))
theorem ue_cond : (fun (A : Array Value) (n cp : Nat) (I : Int) => (followT ue_bits (codeT cfg2 (callT cfg2 t2 60) 60 c1 b7 (fr7 n cp I) (heap1 A))).1) = fun (A : Array Value) (n cp : Nat) (I : Int) => ue_c A n cp I := by kernel_rfl
def un_bits : List Bool := [true, true, true, true, true, true, true, true, true, true, true, true, true, true, true, true, true, true, true]
def un_c (I : Int) : Bool := true
theorem un_cond : (fun (I : Int) => (followT un_bits (codeT cfg2 (callT cfg2 t2 60) 60 c0 b7 (fr7n I) st0)).1) = fun (I : Int) => un_c I := by kernel_rfl
theorem ub_leaf : (fun (A : Array Value) (n cp : Nat) (I : Int) => pathObs (gcObs 1 1 selV) ub_bits (codeT cfg2 (callT cfg2 t2 60) 60 c1 b7 (fr7 n cp I) (heap1 A))) = fun (A : Array Value) (n cp : Nat) (I : Int) => some (Ex.ret, frV, heap1 A) := by kernel_rfl
theorem uc_leaf : (fun (A : Array Value) (n cp : Nat) (I : Int) => pathObs (gcObs 1 1 selV) uc_bits (codeT cfg2 (callT cfg2 t2 60) 60 c1 b7 (fr7 n cp I) (heap1 A))) = fun (A : Array Value) (n cp : Nat) (I : Int) => some (Ex.ret, frV, heap1 A) := by kernel_rfl
theorem ud_leaf : (fun (A : Array Value) (n cp : Nat) (I : Int) => pathObs (gcObs 1 1 selV) ud_bits (codeT cfg2 (callT cfg2 t2 60) 60 c1 b7 (fr7 n cp I) (heap1 A))) = fun (A : Array Value) (n cp : Nat) (I : Int) => some (Ex.ret, frV, heap1 A) := by kernel_rfl
theorem ue_leaf : (fun (A : Array Value) (n cp : Nat) (I : Int) => pathObs (gcObs 1 1 selV) ue_bits (codeT cfg2 (callT cfg2 t2 60) 60 c1 b7 (fr7 n cp I) (heap1 A))) = fun (A : Array Value) (n cp : Nat) (I : Int) => some (Ex.ret, frV, heap1 A) := by kernel_rfl
theorem un_leaf : (fun (I : Int) => pathObs (gcObs 0 0 selN) un_bits (codeT cfg2 (callT cfg2 t2 60) 60 c0 b7 (fr7n I) st0)) = fun (I : Int) => some (Ex.ret, frV, st0) := by kernel_rfl
/-- The row that a net holds behind the sending. -/
def sent (A : Array Value) (n : Nat) : Array Value := A.extract (0 + 0 * 1) (0 + 0 * 1 + (Int.toNat (lE n 50) - 0) * 1)
def lostE (n : Nat) : Int := IntKind.wrap .i64 (0 + IntKind.wrap .i64 ((n : Int) - lE n 50))
theorem ua_leaf : (fun (A : Array Value) (n cp : Nat) (I : Int) => pathObs (gcObs 1 1 selV) ua_bits (codeT cfg2 (callT cfg2 t2 60) 60 c1 (seqOf pre7) (fr7 n cp I) (heap1 A))) = fun (A : Array Value) (n cp : Nat) (I : Int) => some (Ex.normal, frU n cp I, sU A (sent A n) (sent A n) (lostE n) (lostE n) (Int.toNat (lE n 50) - 0) (Int.toNat (lE n 50) - 0) (Int.toNat (lE n 50) - 0) (Int.toNat (lE n 50) - 0)) := by kernel_rfl
theorem lE50 {n : Nat} (h : n ≤ 50) : lE n 50 = (n : Int) := by
  rw [lE_eq (by omega) (by omega)]
  omega
theorem sent_eq (A : Array Value) {n : Nat} (h : n ≤ 50) : sent A n = A.extract 0 n := by
  unfold sent; rw [lE50 h]; simp
theorem ua_true {A : Array Value} (hA : Str A) {n cp : Nat} {I : Int} (hn : n ≤ A.size) (hcp : n ≤ cp) (h1 : 1 ≤ n) (h2 : n ≤ 50) (h3 : ¬ I < -1099511627776) (h4 : ¬ I > 1099511627776) : ua_c A n cp I = true := by
  have hl : (if IntKind.wrap IntKind.i64 (50 - ((0 : Nat) : Int)) < (n : Int) then IntKind.wrap IntKind.i64 (50 - ((0 : Nat) : Int)) else (n : Int)) = (n : Int) := lE50 h2
  have e0 : (A.extract (0 + 0 * 1) (0 + 0 * 1 + (Int.toNat (n : Int) - 0) * 1)).toList.all Value.oneCell' = true := (hA.extract _ _).all
  simp only [ua_c, hl]
  simp only [Bool.and_eq_true, Bool.not_eq_true', decide_eq_true_eq, decide_eq_false_iff_not]
  have hlim : (((((0 + (Int.toNat (n : Int) - 0) ≤ nLim ∧ True) ∧ True) ∧ True) ∧ True) ∧ True) := by unfold nLim; simp; omega
  have hx : Int.toNat (n : Int) - 0 ≤ Int.toNat (n : Int) - 0 ∧ 0 + 0 * 1 + (Int.toNat (n : Int) - 0) * 1 ≤ A.size := ⟨by omega, by omega⟩
  exact ⟨by omega, by omega, h3, h4, by omega, by omega, by omega, by simpa using hlim, by omega, hx, e0, by omega, by omega, by omega, by simpa using hlim, by omega, hx, e0, trivial⟩
end
end Go.Proofs.Ytgcffmkifjnmlaa
