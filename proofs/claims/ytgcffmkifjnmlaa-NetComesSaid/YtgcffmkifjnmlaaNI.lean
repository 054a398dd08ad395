/- What the document sends: the walk. -/
import Derived.Test.YtgcffmkifjnmlaaNH
import Derived.Test.YtgcffmkifjnmlaaAmEff
namespace Go.Proofs.Ytgcffmkifjnmlaa
open Go.Am
noncomputable section
def cN : Nat → Code → Code
  | 0, c => c
  | n + 1, c => cN n (cR c)
def b21 : Code := bodyOf 21
def k21 : Code := cB (cB (cR (cL (cN 2 b21))))
theorem b21_eq : b21 = nest [cL b21, cL (cN 1 b21)] (.seq (.seq (cL (cL (cN 2 b21))) (.block 0 (.loop k21))) (cN 3 b21)) := by kernel_rfl
def fr21a (X : Array Value) (o k : Nat) : Fr := frS 21 [(0, p0), (1, VS X o k), (5, .int .i64 0)]
def fr21 (X : Array Value) (o k : Nat) (L i : Int) : Fr := frS 21 [(0, p0), (1, VS X o k), (5, .int .i64 L), (6, .int .i64 i)]
/-- the thing, and behind it the row that it has -/
def s3 (a b : Int) (M0 M : Array Value) : St := ⟨((Tr.nil.put 0 (boxO true a b (.slice (some ⟨2, 0, none⟩) M.size M.size))).put 1 (.cells M0 1 true)).put 2 (.cells M 1 true), 3⟩
def sN1 (j : Bool) (a b : Int) : St := ⟨Tr.nil.put 0 (boxO j a b (.slice none 0 0)), 1⟩
def s2 (a b : Int) (l : Nat) (M : Array Value) : St := ⟨(Tr.nil.put 0 (boxO true a b (.slice (some ⟨1, 0, none⟩) l l))).put 1 (.cells M 1 true), 2⟩
def s3' (a b : Int) (M0 : Array Value) (l : Nat) (M : Array Value) : St := ⟨((Tr.nil.put 0 (boxO true a b (.slice (some ⟨2, 0, none⟩) l l))).put 1 (.cells M0 1 true)).put 2 (.cells M 1 true), 3⟩
def emp : Array Value := Array.extract (Array.map (fun x => (Value.cells (Value.string { data := #[] }))[x % 1]!) (Array.range (0 * 1))) 0 (0 + 0 * 1)
def inc (i : Int) : Int := IntKind.wrap .i64 (i + 1)
def kN : List Kept := [.cells 0]
def kR : List Kept := [.cells 0, .plain 1]
def k3 : List Kept := [.cells 0, .plain 1, .plain 2]
def kp (L : List Tmp) (ks : List Kept) : Ex → List Tmp × List Kept := fun _ => (L, ks)
def ua_bits : List Bool := [false, true, true, true, true, false, true, true, true, true, false, true, false, true, true, true, false, true, false]
def ua_c (a b : Int) (X : Array Value) (o k : Nat) (L i : Int) : Bool :=
  (decide (i < ((k : Nat) : Int)))
   && ((decide (((0 : Nat) : Int) < a))
   && ((decide (0 ≤ i) && decide (i < ((k : Nat) : Int)))
   && ((isStr X[o + Int.toNat i * 1]?)
   && true)))
theorem ua_cond_k : (fun (a b : Int) (X : Array Value) (o k : Nat) (L i : Int) => (followT ua_bits (codeT cfg (callT cfg noT 60) 60 cz k21 (fr21 X o k L i) (sN1 true a b))).1) = fun (a b : Int) (X : Array Value) (o k : Nat) (L i : Int) => ua_c a b X o k L i := by kernel_rfl
theorem ua_cond (a b : Int) (X : Array Value) (o k : Nat) (L i : Int) : (followT ua_bits (codeT cfg (callT cfg noT 60) 60 cz k21 (fr21 X o k L i) (sN1 true a b))).1 = ua_c a b X o k L i := congrFun (congrFun (congrFun (congrFun (congrFun (congrFun (congrFun ua_cond_k a) b) X) o) k) L) i
theorem ua_leaf_k : (fun (a b : Int) (X : Array Value) (o k : Nat) (L i : Int) => pathObs (gcObs 0 0 (kp [0, 1, 5, 6] [.cells 0, .plain 3])) ua_bits (codeT cfg (callT cfg noT 60) 60 cz k21 (fr21 X o k L i) (sN1 true a b))) = fun (a b : Int) (X : Array Value) (o k : Nat) (L i : Int) => some (.normal, (fr21 X o k (inc L) (inc i)), s2 a b (0 + 1) (emp ++ (sing (toStr X[o + i.toNat * 1]?)).extract 0 (0 + 1 * 1))) := by kernel_rfl
theorem ua_leaf (a b : Int) (X : Array Value) (o k : Nat) (L i : Int) : pathObs (gcObs 0 0 (kp [0, 1, 5, 6] [.cells 0, .plain 3])) ua_bits (codeT cfg (callT cfg noT 60) 60 cz k21 (fr21 X o k L i) (sN1 true a b)) = some (.normal, (fr21 X o k (inc L) (inc i)), s2 a b (0 + 1) (emp ++ (sing (toStr X[o + i.toNat * 1]?)).extract 0 (0 + 1 * 1))) := congrFun (congrFun (congrFun (congrFun (congrFun (congrFun (congrFun ua_leaf_k a) b) X) o) k) L) i
def uz_bits : List Bool := [false, false]
def uz_c (a b : Int) (X : Array Value) (o k : Nat) (L i : Int) : Bool :=
  !(decide (i < ((k : Nat) : Int)))
   && true
theorem uz_cond_k : (fun (a b : Int) (X : Array Value) (o k : Nat) (L i : Int) => (followT uz_bits (codeT cfg (callT cfg noT 60) 60 cz k21 (fr21 X o k L i) (sN1 true a b))).1) = fun (a b : Int) (X : Array Value) (o k : Nat) (L i : Int) => uz_c a b X o k L i := by kernel_rfl
theorem uz_cond (a b : Int) (X : Array Value) (o k : Nat) (L i : Int) : (followT uz_bits (codeT cfg (callT cfg noT 60) 60 cz k21 (fr21 X o k L i) (sN1 true a b))).1 = uz_c a b X o k L i := congrFun (congrFun (congrFun (congrFun (congrFun (congrFun (congrFun uz_cond_k a) b) X) o) k) L) i
theorem uz_leaf_k : (fun (a b : Int) (X : Array Value) (o k : Nat) (L i : Int) => pathObs (gcObs 0 0 (kp [0, 1, 5, 6] kN)) uz_bits (codeT cfg (callT cfg noT 60) 60 cz k21 (fr21 X o k L i) (sN1 true a b))) = fun (a b : Int) (X : Array Value) (o k : Nat) (L i : Int) => some (.exit 0, (fr21 X o k L i), sN1 true a b) := by kernel_rfl
theorem uz_leaf (a b : Int) (X : Array Value) (o k : Nat) (L i : Int) : pathObs (gcObs 0 0 (kp [0, 1, 5, 6] kN)) uz_bits (codeT cfg (callT cfg noT 60) 60 cz k21 (fr21 X o k L i) (sN1 true a b)) = some (.exit 0, (fr21 X o k L i), sN1 true a b) := congrFun (congrFun (congrFun (congrFun (congrFun (congrFun (congrFun uz_leaf_k a) b) X) o) k) L) i
def ub_bits : List Bool := [false, true, false, true, true, false, true, false, true, true, true, false, true, false, true, true, false, true, false, true, true, true, false, true, true, true]
def ub_c (a b : Int) (X M : Array Value) (o k : Nat) (L i : Int) : Bool :=
  (decide (i < ((k : Nat) : Int)))
   && ((decide ((M.size : Int) < a))
   && ((decide (0 + Array.size M ≤ nLim) && true && true && true && true && true)
   && (!(decide (Array.size M = 0))
   && ((decide (Array.size M ≤ Array.size M) && decide (0 + Array.size M * 1 ≤ Array.size M))
   && ((List.all (Array.extract M 0 (0 + Array.size M * 1)).toList Value.oneCell')
   && (!(decide (0 + Array.size M ≤ 0))
   && ((decide (0 ≤ i) && decide (i < ((k : Nat) : Int)))
   && ((isStr X[o + Int.toNat i * 1]?)
   && ((decide (0 + Array.size M ≤ 0 + Array.size M) && decide (0 + Array.size M + 1 ≤ nLim) && true && true && true && true && true)
   && (!(decide (0 + Array.size M + 1 ≤ 0 + Array.size M))
   && ((decide (0 + (0 + Array.size M) * 1 ≤ Array.size (cpy M)))
   && ((0 + Array.size M == 0 + Array.size M && 0 + (0 + Array.size M) * 1 == Array.size (cpy M))
   && true))))))))))))
theorem ub_cond_k : (fun (a b : Int) (X M : Array Value) (o k : Nat) (L i : Int) => (followT ub_bits (codeT cfg (callT cfg noT 60) 60 cz k21 (fr21 X o k L i) (sR true a b M))).1) = fun (a b : Int) (X M : Array Value) (o k : Nat) (L i : Int) => ub_c a b X M o k L i := by kernel_rfl
theorem ub_cond (a b : Int) (X M : Array Value) (o k : Nat) (L i : Int) : (followT ub_bits (codeT cfg (callT cfg noT 60) 60 cz k21 (fr21 X o k L i) (sR true a b M))).1 = ub_c a b X M o k L i := congrFun (congrFun (congrFun (congrFun (congrFun (congrFun (congrFun (congrFun ub_cond_k a) b) X) M) o) k) L) i
theorem ub_leaf_k : (fun (a b : Int) (X M : Array Value) (o k : Nat) (L i : Int) => pathObs (gcObs 0 0 (kp [0, 1, 5, 6] [.cells 0, .plain 5])) ub_bits (codeT cfg (callT cfg noT 60) 60 cz k21 (fr21 X o k L i) (sR true a b M))) = fun (a b : Int) (X M : Array Value) (o k : Nat) (L i : Int) => some (.normal, (fr21 X o k (inc L) (inc i)), s2 a b (0 + M.size + 1) ((cpy M).extract 0 (0 + (0 + M.size) * 1) ++ (sing (toStr X[o + i.toNat * 1]?)).extract 0 (0 + 1 * 1))) := by kernel_rfl
theorem ub_leaf (a b : Int) (X M : Array Value) (o k : Nat) (L i : Int) : pathObs (gcObs 0 0 (kp [0, 1, 5, 6] [.cells 0, .plain 5])) ub_bits (codeT cfg (callT cfg noT 60) 60 cz k21 (fr21 X o k L i) (sR true a b M)) = some (.normal, (fr21 X o k (inc L) (inc i)), s2 a b (0 + M.size + 1) ((cpy M).extract 0 (0 + (0 + M.size) * 1) ++ (sing (toStr X[o + i.toNat * 1]?)).extract 0 (0 + 1 * 1))) := congrFun (congrFun (congrFun (congrFun (congrFun (congrFun (congrFun (congrFun ub_leaf_k a) b) X) M) o) k) L) i
def vb_bits : List Bool := [false, true, false, true, true, false, true, false, true, true, true, false, true, false, true, true, false, true, false, true, true, true, false, true, true, true]
def vb_c (a b : Int) (X M : Array Value) (o k : Nat) (L i : Int) : Bool :=
  (decide (i < ((k : Nat) : Int)))
   && ((decide ((M.size : Int) < a))
   && ((decide (0 + Array.size M ≤ nLim) && true && true && true && true && true)
   && (!(decide (Array.size M = 0))
   && ((decide (Array.size M ≤ Array.size M) && decide (0 + Array.size M * 1 ≤ Array.size M))
   && ((List.all (Array.extract M 0 (0 + Array.size M * 1)).toList Value.oneCell')
   && (!(decide (0 + Array.size M ≤ 0))
   && ((decide (0 ≤ i) && decide (i < ((k : Nat) : Int)))
   && ((isStr X[o + Int.toNat i * 1]?)
   && ((decide (0 + Array.size M ≤ 0 + Array.size M) && decide (0 + Array.size M + 1 ≤ nLim) && true && true && true && true && true)
   && (!(decide (0 + Array.size M + 1 ≤ 0 + Array.size M))
   && ((decide (0 + (0 + Array.size M) * 1 ≤ Array.size (cpy M)))
   && ((0 + Array.size M == 0 + Array.size M && 0 + (0 + Array.size M) * 1 == Array.size (cpy M))
   && true))))))))))))
theorem vb_cond_k : (fun (a b : Int) (X M : Array Value) (o k : Nat) (L i : Int) => (followT vb_bits (codeT cfg (callT cfg noT 60) 60 cz k21 (fr21 X o k L i) (sR true a b M))).1) = fun (a b : Int) (X M : Array Value) (o k : Nat) (L i : Int) => vb_c a b X M o k L i := by kernel_rfl
theorem vb_cond (a b : Int) (X M : Array Value) (o k : Nat) (L i : Int) : (followT vb_bits (codeT cfg (callT cfg noT 60) 60 cz k21 (fr21 X o k L i) (sR true a b M))).1 = vb_c a b X M o k L i := congrFun (congrFun (congrFun (congrFun (congrFun (congrFun (congrFun (congrFun vb_cond_k a) b) X) M) o) k) L) i
theorem vb_leaf_k : (fun (a b : Int) (X M : Array Value) (o k : Nat) (L i : Int) => pathObs (gcObs 0 0 (kp [0, 1, 5, 6] [.cells 0, .plain 1, .plain 5])) vb_bits (codeT cfg (callT cfg noT 60) 60 cz k21 (fr21 X o k L i) (sR true a b M))) = fun (a b : Int) (X M : Array Value) (o k : Nat) (L i : Int) => some (.normal, (fr21 X o k (inc L) (inc i)), s3' a b M (0 + M.size + 1) ((cpy M).extract 0 (0 + (0 + M.size) * 1) ++ (sing (toStr X[o + i.toNat * 1]?)).extract 0 (0 + 1 * 1))) := by kernel_rfl
theorem vb_leaf (a b : Int) (X M : Array Value) (o k : Nat) (L i : Int) : pathObs (gcObs 0 0 (kp [0, 1, 5, 6] [.cells 0, .plain 1, .plain 5])) vb_bits (codeT cfg (callT cfg noT 60) 60 cz k21 (fr21 X o k L i) (sR true a b M)) = some (.normal, (fr21 X o k (inc L) (inc i)), s3' a b M (0 + M.size + 1) ((cpy M).extract 0 (0 + (0 + M.size) * 1) ++ (sing (toStr X[o + i.toNat * 1]?)).extract 0 (0 + 1 * 1))) := congrFun (congrFun (congrFun (congrFun (congrFun (congrFun (congrFun (congrFun vb_leaf_k a) b) X) M) o) k) L) i
def vz_bits : List Bool := [false, true, false, true, true, false, true, true, true, true, false, true, false, true, true, true, false, true, false]
def vz_c (a b : Int) (X M : Array Value) (o k : Nat) (L i : Int) : Bool :=
  (decide (i < ((k : Nat) : Int)))
   && ((decide ((M.size : Int) < a))
   && ((decide (0 + Array.size M ≤ nLim) && true && true && true && true && true)
   && ((decide (Array.size M = 0))
   && ((decide (0 ≤ i) && decide (i < ((k : Nat) : Int)))
   && ((isStr X[o + Int.toNat i * 1]?)
   && true)))))
theorem vz_cond_k : (fun (a b : Int) (X M : Array Value) (o k : Nat) (L i : Int) => (followT vz_bits (codeT cfg (callT cfg noT 60) 60 cz k21 (fr21 X o k L i) (sR true a b M))).1) = fun (a b : Int) (X M : Array Value) (o k : Nat) (L i : Int) => vz_c a b X M o k L i := by kernel_rfl
theorem vz_cond (a b : Int) (X M : Array Value) (o k : Nat) (L i : Int) : (followT vz_bits (codeT cfg (callT cfg noT 60) 60 cz k21 (fr21 X o k L i) (sR true a b M))).1 = vz_c a b X M o k L i := congrFun (congrFun (congrFun (congrFun (congrFun (congrFun (congrFun (congrFun vz_cond_k a) b) X) M) o) k) L) i
theorem vz_leaf_k : (fun (a b : Int) (X M : Array Value) (o k : Nat) (L i : Int) => pathObs (gcObs 0 0 (kp [0, 1, 5, 6] [.cells 0, .plain 1, .plain 4])) vz_bits (codeT cfg (callT cfg noT 60) 60 cz k21 (fr21 X o k L i) (sR true a b M))) = fun (a b : Int) (X M : Array Value) (o k : Nat) (L i : Int) => some (.normal, (fr21 X o k (inc L) (inc i)), s3' a b M (0 + 1) (emp ++ (sing (toStr X[o + i.toNat * 1]?)).extract 0 (0 + 1 * 1))) := by kernel_rfl
theorem vz_leaf (a b : Int) (X M : Array Value) (o k : Nat) (L i : Int) : pathObs (gcObs 0 0 (kp [0, 1, 5, 6] [.cells 0, .plain 1, .plain 4])) vz_bits (codeT cfg (callT cfg noT 60) 60 cz k21 (fr21 X o k L i) (sR true a b M)) = some (.normal, (fr21 X o k (inc L) (inc i)), s3' a b M (0 + 1) (emp ++ (sing (toStr X[o + i.toNat * 1]?)).extract 0 (0 + 1 * 1))) := congrFun (congrFun (congrFun (congrFun (congrFun (congrFun (congrFun (congrFun vz_leaf_k a) b) X) M) o) k) L) i
def uc_bits : List Bool := [false, true, false, true, false, true]
def uc_c (a b : Int) (X M : Array Value) (o k : Nat) (L i : Int) : Bool :=
  (decide (i < ((k : Nat) : Int)))
   && (!(decide ((M.size : Int) < a))
   && true)
theorem uc_cond_k : (fun (a b : Int) (X M : Array Value) (o k : Nat) (L i : Int) => (followT uc_bits (codeT cfg (callT cfg noT 60) 60 cz k21 (fr21 X o k L i) (sR true a b M))).1) = fun (a b : Int) (X M : Array Value) (o k : Nat) (L i : Int) => uc_c a b X M o k L i := by kernel_rfl
theorem uc_cond (a b : Int) (X M : Array Value) (o k : Nat) (L i : Int) : (followT uc_bits (codeT cfg (callT cfg noT 60) 60 cz k21 (fr21 X o k L i) (sR true a b M))).1 = uc_c a b X M o k L i := congrFun (congrFun (congrFun (congrFun (congrFun (congrFun (congrFun (congrFun uc_cond_k a) b) X) M) o) k) L) i
theorem uc_leaf_k : (fun (a b : Int) (X M : Array Value) (o k : Nat) (L i : Int) => pathObs (gcObs 0 0 (kp [0, 1, 5, 6] kR)) uc_bits (codeT cfg (callT cfg noT 60) 60 cz k21 (fr21 X o k L i) (sR true a b M))) = fun (a b : Int) (X M : Array Value) (o k : Nat) (L i : Int) => some (.normal, (fr21 X o k L (inc i)), sR true a (IntKind.wrap .i64 (b + 1)) M) := by kernel_rfl
theorem uc_leaf (a b : Int) (X M : Array Value) (o k : Nat) (L i : Int) : pathObs (gcObs 0 0 (kp [0, 1, 5, 6] kR)) uc_bits (codeT cfg (callT cfg noT 60) 60 cz k21 (fr21 X o k L i) (sR true a b M)) = some (.normal, (fr21 X o k L (inc i)), sR true a (IntKind.wrap .i64 (b + 1)) M) := congrFun (congrFun (congrFun (congrFun (congrFun (congrFun (congrFun (congrFun uc_leaf_k a) b) X) M) o) k) L) i
def ud_bits : List Bool := [false, false]
def ud_c (a b : Int) (X M : Array Value) (o k : Nat) (L i : Int) : Bool :=
  !(decide (i < ((k : Nat) : Int)))
   && true
theorem ud_cond_k : (fun (a b : Int) (X M : Array Value) (o k : Nat) (L i : Int) => (followT ud_bits (codeT cfg (callT cfg noT 60) 60 cz k21 (fr21 X o k L i) (sR true a b M))).1) = fun (a b : Int) (X M : Array Value) (o k : Nat) (L i : Int) => ud_c a b X M o k L i := by kernel_rfl
theorem ud_cond (a b : Int) (X M : Array Value) (o k : Nat) (L i : Int) : (followT ud_bits (codeT cfg (callT cfg noT 60) 60 cz k21 (fr21 X o k L i) (sR true a b M))).1 = ud_c a b X M o k L i := congrFun (congrFun (congrFun (congrFun (congrFun (congrFun (congrFun (congrFun ud_cond_k a) b) X) M) o) k) L) i
theorem ud_leaf_k : (fun (a b : Int) (X M : Array Value) (o k : Nat) (L i : Int) => pathObs (gcObs 0 0 (kp [0, 1, 5, 6] kR)) ud_bits (codeT cfg (callT cfg noT 60) 60 cz k21 (fr21 X o k L i) (sR true a b M))) = fun (a b : Int) (X M : Array Value) (o k : Nat) (L i : Int) => some (.exit 0, (fr21 X o k L i), sR true a b M) := by kernel_rfl
theorem ud_leaf (a b : Int) (X M : Array Value) (o k : Nat) (L i : Int) : pathObs (gcObs 0 0 (kp [0, 1, 5, 6] kR)) ud_bits (codeT cfg (callT cfg noT 60) 60 cz k21 (fr21 X o k L i) (sR true a b M)) = some (.exit 0, (fr21 X o k L i), sR true a b M) := congrFun (congrFun (congrFun (congrFun (congrFun (congrFun (congrFun (congrFun ud_leaf_k a) b) X) M) o) k) L) i
def wb_bits : List Bool := [false, true, false, true, true, false, true, false, true, true, true, false, true, false, true, true, false, true, false, true, true, true, false, true, true, true]
def wb_c (a b : Int) (X M0 M : Array Value) (o k : Nat) (L i : Int) : Bool :=
  (decide (i < ((k : Nat) : Int)))
   && ((decide ((M.size : Int) < a))
   && ((decide (0 + Array.size M ≤ nLim) && true && true && true && true && true)
   && (!(decide (Array.size M = 0))
   && ((decide (Array.size M ≤ Array.size M) && decide (0 + Array.size M * 1 ≤ Array.size M))
   && ((List.all (Array.extract M 0 (0 + Array.size M * 1)).toList Value.oneCell')
   && (!(decide (0 + Array.size M ≤ 0))
   && ((decide (0 ≤ i) && decide (i < ((k : Nat) : Int)))
   && ((isStr X[o + Int.toNat i * 1]?)
   && ((decide (0 + Array.size M ≤ 0 + Array.size M) && decide (0 + Array.size M + 1 ≤ nLim) && true && true && true && true && true)
   && (!(decide (0 + Array.size M + 1 ≤ 0 + Array.size M))
   && ((decide (0 + (0 + Array.size M) * 1 ≤ Array.size (cpy M)))
   && ((0 + Array.size M == 0 + Array.size M && 0 + (0 + Array.size M) * 1 == Array.size (cpy M))
   && true))))))))))))
theorem wb_cond_k : (fun (a b : Int) (X M0 M : Array Value) (o k : Nat) (L i : Int) => (followT wb_bits (codeT cfg (callT cfg noT 60) 60 cz k21 (fr21 X o k L i) (s3 a b M0 M))).1) = fun (a b : Int) (X M0 M : Array Value) (o k : Nat) (L i : Int) => wb_c a b X M0 M o k L i := by kernel_rfl
theorem wb_cond (a b : Int) (X M0 M : Array Value) (o k : Nat) (L i : Int) : (followT wb_bits (codeT cfg (callT cfg noT 60) 60 cz k21 (fr21 X o k L i) (s3 a b M0 M))).1 = wb_c a b X M0 M o k L i := congrFun (congrFun (congrFun (congrFun (congrFun (congrFun (congrFun (congrFun (congrFun wb_cond_k a) b) X) M0) M) o) k) L) i
theorem wb_leaf_k : (fun (a b : Int) (X M0 M : Array Value) (o k : Nat) (L i : Int) => pathObs (gcObs 0 0 (kp [0, 1, 5, 6] [.cells 0, .plain 1, .plain 6])) wb_bits (codeT cfg (callT cfg noT 60) 60 cz k21 (fr21 X o k L i) (s3 a b M0 M))) = fun (a b : Int) (X M0 M : Array Value) (o k : Nat) (L i : Int) => some (.normal, (fr21 X o k (inc L) (inc i)), s3' a b M0 (0 + M.size + 1) ((cpy M).extract 0 (0 + (0 + M.size) * 1) ++ (sing (toStr X[o + i.toNat * 1]?)).extract 0 (0 + 1 * 1))) := by kernel_rfl
theorem wb_leaf (a b : Int) (X M0 M : Array Value) (o k : Nat) (L i : Int) : pathObs (gcObs 0 0 (kp [0, 1, 5, 6] [.cells 0, .plain 1, .plain 6])) wb_bits (codeT cfg (callT cfg noT 60) 60 cz k21 (fr21 X o k L i) (s3 a b M0 M)) = some (.normal, (fr21 X o k (inc L) (inc i)), s3' a b M0 (0 + M.size + 1) ((cpy M).extract 0 (0 + (0 + M.size) * 1) ++ (sing (toStr X[o + i.toNat * 1]?)).extract 0 (0 + 1 * 1))) := congrFun (congrFun (congrFun (congrFun (congrFun (congrFun (congrFun (congrFun (congrFun wb_leaf_k a) b) X) M0) M) o) k) L) i
def wc_bits : List Bool := [false, true, false, true, false, true]
def wc_c (a b : Int) (X M0 M : Array Value) (o k : Nat) (L i : Int) : Bool :=
  (decide (i < ((k : Nat) : Int)))
   && (!(decide ((M.size : Int) < a))
   && true)
theorem wc_cond_k : (fun (a b : Int) (X M0 M : Array Value) (o k : Nat) (L i : Int) => (followT wc_bits (codeT cfg (callT cfg noT 60) 60 cz k21 (fr21 X o k L i) (s3 a b M0 M))).1) = fun (a b : Int) (X M0 M : Array Value) (o k : Nat) (L i : Int) => wc_c a b X M0 M o k L i := by kernel_rfl
theorem wc_cond (a b : Int) (X M0 M : Array Value) (o k : Nat) (L i : Int) : (followT wc_bits (codeT cfg (callT cfg noT 60) 60 cz k21 (fr21 X o k L i) (s3 a b M0 M))).1 = wc_c a b X M0 M o k L i := congrFun (congrFun (congrFun (congrFun (congrFun (congrFun (congrFun (congrFun (congrFun wc_cond_k a) b) X) M0) M) o) k) L) i
theorem wc_leaf_k : (fun (a b : Int) (X M0 M : Array Value) (o k : Nat) (L i : Int) => pathObs (gcObs 0 0 (kp [0, 1, 5, 6] k3)) wc_bits (codeT cfg (callT cfg noT 60) 60 cz k21 (fr21 X o k L i) (s3 a b M0 M))) = fun (a b : Int) (X M0 M : Array Value) (o k : Nat) (L i : Int) => some (.normal, (fr21 X o k L (inc i)), s3 a (IntKind.wrap .i64 (b + 1)) M0 M) := by kernel_rfl
theorem wc_leaf (a b : Int) (X M0 M : Array Value) (o k : Nat) (L i : Int) : pathObs (gcObs 0 0 (kp [0, 1, 5, 6] k3)) wc_bits (codeT cfg (callT cfg noT 60) 60 cz k21 (fr21 X o k L i) (s3 a b M0 M)) = some (.normal, (fr21 X o k L (inc i)), s3 a (IntKind.wrap .i64 (b + 1)) M0 M) := congrFun (congrFun (congrFun (congrFun (congrFun (congrFun (congrFun (congrFun (congrFun wc_leaf_k a) b) X) M0) M) o) k) L) i
def wd_bits : List Bool := [false, false]
def wd_c (a b : Int) (X M0 M : Array Value) (o k : Nat) (L i : Int) : Bool :=
  !(decide (i < ((k : Nat) : Int)))
   && true
theorem wd_cond_k : (fun (a b : Int) (X M0 M : Array Value) (o k : Nat) (L i : Int) => (followT wd_bits (codeT cfg (callT cfg noT 60) 60 cz k21 (fr21 X o k L i) (s3 a b M0 M))).1) = fun (a b : Int) (X M0 M : Array Value) (o k : Nat) (L i : Int) => wd_c a b X M0 M o k L i := by kernel_rfl
theorem wd_cond (a b : Int) (X M0 M : Array Value) (o k : Nat) (L i : Int) : (followT wd_bits (codeT cfg (callT cfg noT 60) 60 cz k21 (fr21 X o k L i) (s3 a b M0 M))).1 = wd_c a b X M0 M o k L i := congrFun (congrFun (congrFun (congrFun (congrFun (congrFun (congrFun (congrFun (congrFun wd_cond_k a) b) X) M0) M) o) k) L) i
theorem wd_leaf_k : (fun (a b : Int) (X M0 M : Array Value) (o k : Nat) (L i : Int) => pathObs (gcObs 0 0 (kp [0, 1, 5, 6] k3)) wd_bits (codeT cfg (callT cfg noT 60) 60 cz k21 (fr21 X o k L i) (s3 a b M0 M))) = fun (a b : Int) (X M0 M : Array Value) (o k : Nat) (L i : Int) => some (.exit 0, (fr21 X o k L i), s3 a b M0 M) := by kernel_rfl
theorem wd_leaf (a b : Int) (X M0 M : Array Value) (o k : Nat) (L i : Int) : pathObs (gcObs 0 0 (kp [0, 1, 5, 6] k3)) wd_bits (codeT cfg (callT cfg noT 60) 60 cz k21 (fr21 X o k L i) (s3 a b M0 M)) = some (.exit 0, (fr21 X o k L i), s3 a b M0 M) := congrFun (congrFun (congrFun (congrFun (congrFun (congrFun (congrFun (congrFun (congrFun wd_leaf_k a) b) X) M0) M) o) k) L) i
def xa_bits : List Bool := []
def xa_c (a b : Int) (X : Array Value) (o k : Nat) : Bool :=
  true
theorem xa_cond_k : (fun (a b : Int) (X : Array Value) (o k : Nat) => (followT xa_bits (codeT cfg (callT cfg noT 60) 60 cz (seqOf [cL b21, cL (cN 1 b21)]) (frame0 21 (ntOf 21) #[p0, VS X o k]) (sN true a b))).1) = fun (a b : Int) (X : Array Value) (o k : Nat) => xa_c a b X o k := by kernel_rfl
theorem xa_cond (a b : Int) (X : Array Value) (o k : Nat) : (followT xa_bits (codeT cfg (callT cfg noT 60) 60 cz (seqOf [cL b21, cL (cN 1 b21)]) (frame0 21 (ntOf 21) #[p0, VS X o k]) (sN true a b))).1 = xa_c a b X o k := congrFun (congrFun (congrFun (congrFun (congrFun xa_cond_k a) b) X) o) k
theorem xa_leaf_k : (fun (a b : Int) (X : Array Value) (o k : Nat) => pathObs (gcObs 0 0 (kp [0, 1, 5] kN)) xa_bits (codeT cfg (callT cfg noT 60) 60 cz (seqOf [cL b21, cL (cN 1 b21)]) (frame0 21 (ntOf 21) #[p0, VS X o k]) (sN true a b))) = fun (a b : Int) (X : Array Value) (o k : Nat) => some (.normal, fr21a X o k, sN1 true a b) := by kernel_rfl
theorem xa_leaf (a b : Int) (X : Array Value) (o k : Nat) : pathObs (gcObs 0 0 (kp [0, 1, 5] kN)) xa_bits (codeT cfg (callT cfg noT 60) 60 cz (seqOf [cL b21, cL (cN 1 b21)]) (frame0 21 (ntOf 21) #[p0, VS X o k]) (sN true a b)) = some (.normal, fr21a X o k, sN1 true a b) := congrFun (congrFun (congrFun (congrFun (congrFun xa_leaf_k a) b) X) o) k
def xb_bits : List Bool := []
def xb_c (a b : Int) (X M : Array Value) (o k : Nat) : Bool :=
  true
theorem xb_cond_k : (fun (a b : Int) (X M : Array Value) (o k : Nat) => (followT xb_bits (codeT cfg (callT cfg noT 60) 60 cz (seqOf [cL b21, cL (cN 1 b21)]) (frame0 21 (ntOf 21) #[p0, VS X o k]) (sR true a b M))).1) = fun (a b : Int) (X M : Array Value) (o k : Nat) => xb_c a b X M o k := by kernel_rfl
theorem xb_cond (a b : Int) (X M : Array Value) (o k : Nat) : (followT xb_bits (codeT cfg (callT cfg noT 60) 60 cz (seqOf [cL b21, cL (cN 1 b21)]) (frame0 21 (ntOf 21) #[p0, VS X o k]) (sR true a b M))).1 = xb_c a b X M o k := congrFun (congrFun (congrFun (congrFun (congrFun (congrFun xb_cond_k a) b) X) M) o) k
theorem xb_leaf_k : (fun (a b : Int) (X M : Array Value) (o k : Nat) => pathObs (gcObs 0 0 (kp [0, 1, 5] kR)) xb_bits (codeT cfg (callT cfg noT 60) 60 cz (seqOf [cL b21, cL (cN 1 b21)]) (frame0 21 (ntOf 21) #[p0, VS X o k]) (sR true a b M))) = fun (a b : Int) (X M : Array Value) (o k : Nat) => some (.normal, fr21a X o k, sR true a b M) := by kernel_rfl
theorem xb_leaf (a b : Int) (X M : Array Value) (o k : Nat) : pathObs (gcObs 0 0 (kp [0, 1, 5] kR)) xb_bits (codeT cfg (callT cfg noT 60) 60 cz (seqOf [cL b21, cL (cN 1 b21)]) (frame0 21 (ntOf 21) #[p0, VS X o k]) (sR true a b M)) = some (.normal, fr21a X o k, sR true a b M) := congrFun (congrFun (congrFun (congrFun (congrFun (congrFun xb_leaf_k a) b) X) M) o) k
def xc_bits : List Bool := []
def xc_c (a b : Int) (X : Array Value) (o k : Nat) : Bool :=
  true
theorem xc_cond_k : (fun (a b : Int) (X : Array Value) (o k : Nat) => (followT xc_bits (codeT cfg (callT cfg noT 60) 60 cz (cL (cL (cN 2 b21))) (fr21a X o k) (sN1 true a b))).1) = fun (a b : Int) (X : Array Value) (o k : Nat) => xc_c a b X o k := by kernel_rfl
theorem xc_cond (a b : Int) (X : Array Value) (o k : Nat) : (followT xc_bits (codeT cfg (callT cfg noT 60) 60 cz (cL (cL (cN 2 b21))) (fr21a X o k) (sN1 true a b))).1 = xc_c a b X o k := congrFun (congrFun (congrFun (congrFun (congrFun xc_cond_k a) b) X) o) k
theorem xc_leaf_k : (fun (a b : Int) (X : Array Value) (o k : Nat) => pathObs (gcObs 0 0 (kp [0, 1, 5, 6] kN)) xc_bits (codeT cfg (callT cfg noT 60) 60 cz (cL (cL (cN 2 b21))) (fr21a X o k) (sN1 true a b))) = fun (a b : Int) (X : Array Value) (o k : Nat) => some (.normal, fr21 X o k 0 0, sN1 true a b) := by kernel_rfl
theorem xc_leaf (a b : Int) (X : Array Value) (o k : Nat) : pathObs (gcObs 0 0 (kp [0, 1, 5, 6] kN)) xc_bits (codeT cfg (callT cfg noT 60) 60 cz (cL (cL (cN 2 b21))) (fr21a X o k) (sN1 true a b)) = some (.normal, fr21 X o k 0 0, sN1 true a b) := congrFun (congrFun (congrFun (congrFun (congrFun xc_leaf_k a) b) X) o) k
def xd_bits : List Bool := []
def xd_c (a b : Int) (X M : Array Value) (o k : Nat) : Bool :=
  true
theorem xd_cond_k : (fun (a b : Int) (X M : Array Value) (o k : Nat) => (followT xd_bits (codeT cfg (callT cfg noT 60) 60 cz (cL (cL (cN 2 b21))) (fr21a X o k) (sR true a b M))).1) = fun (a b : Int) (X M : Array Value) (o k : Nat) => xd_c a b X M o k := by kernel_rfl
theorem xd_cond (a b : Int) (X M : Array Value) (o k : Nat) : (followT xd_bits (codeT cfg (callT cfg noT 60) 60 cz (cL (cL (cN 2 b21))) (fr21a X o k) (sR true a b M))).1 = xd_c a b X M o k := congrFun (congrFun (congrFun (congrFun (congrFun (congrFun xd_cond_k a) b) X) M) o) k
theorem xd_leaf_k : (fun (a b : Int) (X M : Array Value) (o k : Nat) => pathObs (gcObs 0 0 (kp [0, 1, 5, 6] kR)) xd_bits (codeT cfg (callT cfg noT 60) 60 cz (cL (cL (cN 2 b21))) (fr21a X o k) (sR true a b M))) = fun (a b : Int) (X M : Array Value) (o k : Nat) => some (.normal, fr21 X o k 0 0, sR true a b M) := by kernel_rfl
theorem xd_leaf (a b : Int) (X M : Array Value) (o k : Nat) : pathObs (gcObs 0 0 (kp [0, 1, 5, 6] kR)) xd_bits (codeT cfg (callT cfg noT 60) 60 cz (cL (cL (cN 2 b21))) (fr21a X o k) (sR true a b M)) = some (.normal, fr21 X o k 0 0, sR true a b M) := congrFun (congrFun (congrFun (congrFun (congrFun (congrFun xd_leaf_k a) b) X) M) o) k
def ya_bits : List Bool := []
def ya_c (a b : Int) (X : Array Value) (o k : Nat) (L i : Int) : Bool :=
  true
theorem ya_cond_k : (fun (a b : Int) (X : Array Value) (o k : Nat) (L i : Int) => (followT ya_bits (codeT cfg (callT cfg noT 60) 60 cz (cN 3 b21) (fr21 X o k L i) (sN1 true a b))).1) = fun (a b : Int) (X : Array Value) (o k : Nat) (L i : Int) => ya_c a b X o k L i := by kernel_rfl
theorem ya_cond (a b : Int) (X : Array Value) (o k : Nat) (L i : Int) : (followT ya_bits (codeT cfg (callT cfg noT 60) 60 cz (cN 3 b21) (fr21 X o k L i) (sN1 true a b))).1 = ya_c a b X o k L i := congrFun (congrFun (congrFun (congrFun (congrFun (congrFun (congrFun ya_cond_k a) b) X) o) k) L) i
theorem ya_leaf_k : (fun (a b : Int) (X : Array Value) (o k : Nat) (L i : Int) => pathObs (gcObs 0 0 (kp [4] kN)) ya_bits (codeT cfg (callT cfg noT 60) 60 cz (cN 3 b21) (fr21 X o k L i) (sN1 true a b))) = fun (a b : Int) (X : Array Value) (o k : Nat) (L i : Int) => some (.ret, frS 21 [(4, .int .i64 L)], sN1 true a b) := by kernel_rfl
theorem ya_leaf (a b : Int) (X : Array Value) (o k : Nat) (L i : Int) : pathObs (gcObs 0 0 (kp [4] kN)) ya_bits (codeT cfg (callT cfg noT 60) 60 cz (cN 3 b21) (fr21 X o k L i) (sN1 true a b)) = some (.ret, frS 21 [(4, .int .i64 L)], sN1 true a b) := congrFun (congrFun (congrFun (congrFun (congrFun (congrFun (congrFun ya_leaf_k a) b) X) o) k) L) i
def yb_bits : List Bool := []
def yb_c (a b : Int) (X M : Array Value) (o k : Nat) (L i : Int) : Bool :=
  true
theorem yb_cond_k : (fun (a b : Int) (X M : Array Value) (o k : Nat) (L i : Int) => (followT yb_bits (codeT cfg (callT cfg noT 60) 60 cz (cN 3 b21) (fr21 X o k L i) (sR true a b M))).1) = fun (a b : Int) (X M : Array Value) (o k : Nat) (L i : Int) => yb_c a b X M o k L i := by kernel_rfl
theorem yb_cond (a b : Int) (X M : Array Value) (o k : Nat) (L i : Int) : (followT yb_bits (codeT cfg (callT cfg noT 60) 60 cz (cN 3 b21) (fr21 X o k L i) (sR true a b M))).1 = yb_c a b X M o k L i := congrFun (congrFun (congrFun (congrFun (congrFun (congrFun (congrFun (congrFun yb_cond_k a) b) X) M) o) k) L) i
theorem yb_leaf_k : (fun (a b : Int) (X M : Array Value) (o k : Nat) (L i : Int) => pathObs (gcObs 0 0 (kp [4] kR)) yb_bits (codeT cfg (callT cfg noT 60) 60 cz (cN 3 b21) (fr21 X o k L i) (sR true a b M))) = fun (a b : Int) (X M : Array Value) (o k : Nat) (L i : Int) => some (.ret, frS 21 [(4, .int .i64 L)], sR true a b M) := by kernel_rfl
theorem yb_leaf (a b : Int) (X M : Array Value) (o k : Nat) (L i : Int) : pathObs (gcObs 0 0 (kp [4] kR)) yb_bits (codeT cfg (callT cfg noT 60) 60 cz (cN 3 b21) (fr21 X o k L i) (sR true a b M)) = some (.ret, frS 21 [(4, .int .i64 L)], sR true a b M) := congrFun (congrFun (congrFun (congrFun (congrFun (congrFun (congrFun (congrFun yb_leaf_k a) b) X) M) o) k) L) i
def yc_bits : List Bool := []
def yc_c (a b : Int) (X M0 M : Array Value) (o k : Nat) (L i : Int) : Bool :=
  true
theorem yc_cond_k : (fun (a b : Int) (X M0 M : Array Value) (o k : Nat) (L i : Int) => (followT yc_bits (codeT cfg (callT cfg noT 60) 60 cz (cN 3 b21) (fr21 X o k L i) (s3 a b M0 M))).1) = fun (a b : Int) (X M0 M : Array Value) (o k : Nat) (L i : Int) => yc_c a b X M0 M o k L i := by kernel_rfl
theorem yc_cond (a b : Int) (X M0 M : Array Value) (o k : Nat) (L i : Int) : (followT yc_bits (codeT cfg (callT cfg noT 60) 60 cz (cN 3 b21) (fr21 X o k L i) (s3 a b M0 M))).1 = yc_c a b X M0 M o k L i := congrFun (congrFun (congrFun (congrFun (congrFun (congrFun (congrFun (congrFun (congrFun yc_cond_k a) b) X) M0) M) o) k) L) i
theorem yc_leaf_k : (fun (a b : Int) (X M0 M : Array Value) (o k : Nat) (L i : Int) => pathObs (gcObs 0 0 (kp [4] k3)) yc_bits (codeT cfg (callT cfg noT 60) 60 cz (cN 3 b21) (fr21 X o k L i) (s3 a b M0 M))) = fun (a b : Int) (X M0 M : Array Value) (o k : Nat) (L i : Int) => some (.ret, frS 21 [(4, .int .i64 L)], s3 a b M0 M) := by kernel_rfl
theorem yc_leaf (a b : Int) (X M0 M : Array Value) (o k : Nat) (L i : Int) : pathObs (gcObs 0 0 (kp [4] k3)) yc_bits (codeT cfg (callT cfg noT 60) 60 cz (cN 3 b21) (fr21 X o k L i) (s3 a b M0 M)) = some (.ret, frS 21 [(4, .int .i64 L)], s3 a b M0 M) := congrFun (congrFun (congrFun (congrFun (congrFun (congrFun (congrFun (congrFun (congrFun yc_leaf_k a) b) X) M0) M) o) k) L) i
end
end Go.Proofs.Ytgcffmkifjnmlaa
