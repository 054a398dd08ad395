/- NetTurns: the end, paths. -/
import Derived.Test.YtgcffmkifjnmlaaU7
namespace Go.Proofs.Ytgcffmkifjnmlaa
open Go.Am
noncomputable section
def selE : Ex → List Tmp × List Kept := fun _ => ([4], [.plain 0])
def rowD (P : Array Value) (n1 : Nat) : Array Value := (#[] : Array Value) ++ P.extract 0 (0 + n1 * 1)
def e1_bits : List Bool := [true, true, true, true, true, true, true, true, true, true, true, true, true, true, false, false, false, true, false, true, true, true, false, true, false, true, true, true, true, false, false, false, true, false, true, true, true, false, true, false, true, true, true, true, true, true, true]
def e1_c (A P Q : Array Value) (n cp : Nat) (la lb : Int) (n1 k1 n2 k2 : Nat) (x y : ByteArray) : Bool :=
  (ByteArray.toList x == ByteArray.toList y) && ((decide (0 + n1 ≤ nLim) && true && true && true && true && true) && ((!(decide (n1 = 0))) && ((decide (n1 ≤ n1) && decide (0 + n1 * 1 ≤ Array.size P)) && ((List.all (Array.extract P 0 (0 + n1 * 1)).toList Value.oneCell') && ((!(decide (0 + n1 ≤ 0))) &&
  ((decide (0 + n2 ≤ nLim) && true && true && true && true && true) && ((!(decide (n2 = 0))) && ((decide (n2 ≤ n2) && decide (0 + n2 * 1 ≤ Array.size Q)) && ((List.all (Array.extract Q 0 (0 + n2 * 1)).toList Value.oneCell') && ((!(decide (0 + n2 ≤ 0))) &&
  ((strB (rowD P n1) && (strB (rowD Q n2) && (decide (0 + (0 + n1) ≤ (rowD P n1).size) && (decide (0 + (0 + n2) ≤ (rowD Q n2).size) && decide (0 + n1 ≤ 4294967296))))) &&
  ((sameB (rowD P n1) (rowD Q n2) 0 0 (0 + n1) (0 + n2)) && true))))))))))))
theorem e1_cond : (fun (A P Q : Array Value) (n cp : Nat) (la lb : Int) (n1 k1 n2 k2 : Nat) (x y : ByteArray) => (followT e1_bits (codeT cfg2 (callT cfg2 t2 60) 60 c1 (cR (cR rest7)) (frX n cp x y) (sU A P Q la lb n1 k1 n2 k2))).1) = fun (A P Q : Array Value) (n cp : Nat) (la lb : Int) (n1 k1 n2 k2 : Nat) (x y : ByteArray) => e1_c A P Q n cp la lb n1 k1 n2 k2 x y := by kernel_rfl
theorem e1_leaf : (fun (A P Q : Array Value) (n cp : Nat) (la lb : Int) (n1 k1 n2 k2 : Nat) (x y : ByteArray) => pathObs (gcObs 1 1 selE) e1_bits (codeT cfg2 (callT cfg2 t2 60) 60 c1 (cR (cR rest7)) (frX n cp x y) (sU A P Q la lb n1 k1 n2 k2))) = fun (A P Q : Array Value) (n cp : Nat) (la lb : Int) (n1 k1 n2 k2 : Nat) (x y : ByteArray) => some (Ex.ret, frV, heap1 A) := by kernel_rfl
def e0_bits : List Bool := [true, true, true, true, true, true, true, true, true, true, true, true, true, true, false, false, false, true, true, true, true, true, true, false, false, false, true, true, true, true, true, true, true, true, true]
def e0_c (A P Q : Array Value) (n cp : Nat) (la lb : Int) (k1 k2 : Nat) (x y : ByteArray) : Bool :=
  (ByteArray.toList x == ByteArray.toList y)
   && true
theorem e0_cond : (fun (A P Q : Array Value) (n cp : Nat) (la lb : Int) (k1 k2 : Nat) (x y : ByteArray) => (followT e0_bits (codeT cfg2 (callT cfg2 t2 60) 60 c1 (cR (cR rest7)) (frX n cp x y) (sU A P Q la lb 0 k1 0 k2))).1) = fun (A P Q : Array Value) (n cp : Nat) (la lb : Int) (k1 k2 : Nat) (x y : ByteArray) => e0_c A P Q n cp la lb k1 k2 x y := by kernel_rfl
theorem e0_leaf : (fun (A P Q : Array Value) (n cp : Nat) (la lb : Int) (k1 k2 : Nat) (x y : ByteArray) => pathObs (gcObs 1 1 selE) e0_bits (codeT cfg2 (callT cfg2 t2 60) 60 c1 (cR (cR rest7)) (frX n cp x y) (sU A P Q la lb 0 k1 0 k2))) = fun (A P Q : Array Value) (n cp : Nat) (la lb : Int) (k1 k2 : Nat) (x y : ByteArray) => some (Ex.ret, frV, heap1 A) := by kernel_rfl
end
end Go.Proofs.Ytgcffmkifjnmlaa
