/- Few calls of few messages; what was lost: the walk. -/
import Derived.Test.YtgcffmkifjnmlaaNP
namespace Go.Proofs.Ytgcffmkifjnmlaa
open Go.Am
noncomputable section
def b8 : Code := bodyOf 8
def k8 : Code := cB (cB (cR (cL (cN 1 b8))))
theorem b8_eq : b8 = nest [cL b8] (.seq (.seq (cL (cL (cN 1 b8))) (.block 0 (.loop k8))) (cN 2 b8)) := by kernel_rfl
def fr8a (X : Array Value) (o n : Nat) (m : Int) : Fr := frS 8 [(0, VS X o n), (1, .int .i64 m)]
def fr8 (X : Array Value) (o n : Nat) (m i : Int) : Fr := frS 8 [(0, VS X o n), (1, .int .i64 m), (5, .int .i64 i)]
def oa_bits : List Bool := [false, true]
def oa_c (a b : Int) : Bool :=
  true
theorem oa_cond_k : (fun (a b : Int) => (followT oa_bits (codeT cfg (callT cfg noT 60) 60 (cf 1) (bodyOf 15) (frame0 15 (ntOf 15) #[p0]) (sN1 false a b))).1) = fun (a b : Int) => oa_c a b := by kernel_rfl
theorem oa_cond (a b : Int) : (followT oa_bits (codeT cfg (callT cfg noT 60) 60 (cf 1) (bodyOf 15) (frame0 15 (ntOf 15) #[p0]) (sN1 false a b))).1 = oa_c a b := congrFun (congrFun oa_cond_k a) b
theorem oa_leaf_k : (fun (a b : Int) => pathObs (leaves [2]) oa_bits (codeT cfg (callT cfg noT 60) 60 (cf 1) (bodyOf 15) (frame0 15 (ntOf 15) #[p0]) (sN1 false a b))) = fun (a b : Int) => some (.ret, [some (.int .i64 b)], some (boxO false a b (.slice none 0 0)), none, none, none) := by kernel_rfl
theorem oa_leaf (a b : Int) : pathObs (leaves [2]) oa_bits (codeT cfg (callT cfg noT 60) 60 (cf 1) (bodyOf 15) (frame0 15 (ntOf 15) #[p0]) (sN1 false a b)) = some (.ret, [some (.int .i64 b)], some (boxO false a b (.slice none 0 0)), none, none, none) := congrFun (congrFun oa_leaf_k a) b
def ob_bits : List Bool := [false, true]
def ob_c (a b : Int) (M : Array Value) : Bool :=
  true
theorem ob_cond_k : (fun (a b : Int) (M : Array Value) => (followT ob_bits (codeT cfg (callT cfg noT 60) 60 (cf 2) (bodyOf 15) (frame0 15 (ntOf 15) #[p0]) (sR false a b M))).1) = fun (a b : Int) (M : Array Value) => ob_c a b M := by kernel_rfl
theorem ob_cond (a b : Int) (M : Array Value) : (followT ob_bits (codeT cfg (callT cfg noT 60) 60 (cf 2) (bodyOf 15) (frame0 15 (ntOf 15) #[p0]) (sR false a b M))).1 = ob_c a b M := congrFun (congrFun (congrFun ob_cond_k a) b) M
theorem ob_leaf_k : (fun (a b : Int) (M : Array Value) => pathObs (leaves [2]) ob_bits (codeT cfg (callT cfg noT 60) 60 (cf 2) (bodyOf 15) (frame0 15 (ntOf 15) #[p0]) (sR false a b M))) = fun (a b : Int) (M : Array Value) => some (.ret, [some (.int .i64 b)], some (boxO false a b (.slice (some ⟨1, 0, none⟩) M.size M.size)), some (.cells M 1 true), none, none) := by kernel_rfl
theorem ob_leaf (a b : Int) (M : Array Value) : pathObs (leaves [2]) ob_bits (codeT cfg (callT cfg noT 60) 60 (cf 2) (bodyOf 15) (frame0 15 (ntOf 15) #[p0]) (sR false a b M)) = some (.ret, [some (.int .i64 b)], some (boxO false a b (.slice (some ⟨1, 0, none⟩) M.size M.size)), some (.cells M 1 true), none, none) := congrFun (congrFun (congrFun ob_leaf_k a) b) M
def oc_bits : List Bool := []
def oc_c (X : Array Value) (o n : Nat) (m : Int) : Bool :=
  true
theorem oc_cond_k : (fun (X : Array Value) (o n : Nat) (m : Int) => (followT oc_bits (codeT cfg (callT cfg noT 60) 60 cz (seqOf [cL b8]) (frame0 8 (ntOf 8) #[VS X o n, .int .i64 m]) st0)).1) = fun (X : Array Value) (o n : Nat) (m : Int) => oc_c X o n m := by kernel_rfl
theorem oc_cond (X : Array Value) (o n : Nat) (m : Int) : (followT oc_bits (codeT cfg (callT cfg noT 60) 60 cz (seqOf [cL b8]) (frame0 8 (ntOf 8) #[VS X o n, .int .i64 m]) st0)).1 = oc_c X o n m := congrFun (congrFun (congrFun (congrFun oc_cond_k X) o) n) m
theorem oc_leaf_k : (fun (X : Array Value) (o n : Nat) (m : Int) => pathObs (gcObs 0 0 (kp [0, 1] [])) oc_bits (codeT cfg (callT cfg noT 60) 60 cz (seqOf [cL b8]) (frame0 8 (ntOf 8) #[VS X o n, .int .i64 m]) st0)) = fun (X : Array Value) (o n : Nat) (m : Int) => some (.normal, fr8a X o n m, st0) := by kernel_rfl
theorem oc_leaf (X : Array Value) (o n : Nat) (m : Int) : pathObs (gcObs 0 0 (kp [0, 1] [])) oc_bits (codeT cfg (callT cfg noT 60) 60 cz (seqOf [cL b8]) (frame0 8 (ntOf 8) #[VS X o n, .int .i64 m]) st0) = some (.normal, fr8a X o n m, st0) := congrFun (congrFun (congrFun (congrFun oc_leaf_k X) o) n) m
def od_bits : List Bool := []
def od_c (X : Array Value) (o n : Nat) (m : Int) : Bool :=
  true
theorem od_cond_k : (fun (X : Array Value) (o n : Nat) (m : Int) => (followT od_bits (codeT cfg (callT cfg noT 60) 60 cz (cL (cL (cN 1 b8))) (fr8a X o n m) st0)).1) = fun (X : Array Value) (o n : Nat) (m : Int) => od_c X o n m := by kernel_rfl
theorem od_cond (X : Array Value) (o n : Nat) (m : Int) : (followT od_bits (codeT cfg (callT cfg noT 60) 60 cz (cL (cL (cN 1 b8))) (fr8a X o n m) st0)).1 = od_c X o n m := congrFun (congrFun (congrFun (congrFun od_cond_k X) o) n) m
theorem od_leaf_k : (fun (X : Array Value) (o n : Nat) (m : Int) => pathObs (gcObs 0 0 (kp [0, 1, 5] [])) od_bits (codeT cfg (callT cfg noT 60) 60 cz (cL (cL (cN 1 b8))) (fr8a X o n m) st0)) = fun (X : Array Value) (o n : Nat) (m : Int) => some (.normal, fr8 X o n m 0, st0) := by kernel_rfl
theorem od_leaf (X : Array Value) (o n : Nat) (m : Int) : pathObs (gcObs 0 0 (kp [0, 1, 5] [])) od_bits (codeT cfg (callT cfg noT 60) 60 cz (cL (cL (cN 1 b8))) (fr8a X o n m) st0) = some (.normal, fr8 X o n m 0, st0) := congrFun (congrFun (congrFun (congrFun od_leaf_k X) o) n) m
def oe_bits : List Bool := [false, false]
def oe_c (X : Array Value) (o n : Nat) (m i : Int) : Bool :=
  !(decide (i < ((n : Nat) : Int)))
   && true
theorem oe_cond_k : (fun (X : Array Value) (o n : Nat) (m i : Int) => (followT oe_bits (codeT cfg (callT cfg noT 60) 60 cz k8 (fr8 X o n m i) st0)).1) = fun (X : Array Value) (o n : Nat) (m i : Int) => oe_c X o n m i := by kernel_rfl
theorem oe_cond (X : Array Value) (o n : Nat) (m i : Int) : (followT oe_bits (codeT cfg (callT cfg noT 60) 60 cz k8 (fr8 X o n m i) st0)).1 = oe_c X o n m i := congrFun (congrFun (congrFun (congrFun (congrFun oe_cond_k X) o) n) m) i
theorem oe_leaf_k : (fun (X : Array Value) (o n : Nat) (m i : Int) => pathObs (gcObs 0 0 (kp [0, 1, 5] [])) oe_bits (codeT cfg (callT cfg noT 60) 60 cz k8 (fr8 X o n m i) st0)) = fun (X : Array Value) (o n : Nat) (m i : Int) => some (.exit 0, fr8 X o n m i, st0) := by kernel_rfl
theorem oe_leaf (X : Array Value) (o n : Nat) (m i : Int) : pathObs (gcObs 0 0 (kp [0, 1, 5] [])) oe_bits (codeT cfg (callT cfg noT 60) 60 cz k8 (fr8 X o n m i) st0) = some (.exit 0, fr8 X o n m i, st0) := congrFun (congrFun (congrFun (congrFun (congrFun oe_leaf_k X) o) n) m) i
def og_bits : List Bool := [false, true, true, true, false, true]
def og_c (X : Array Value) (o n : Nat) (m i : Int) : Bool :=
  (decide (i < ((n : Nat) : Int)))
   && ((decide (0 ≤ i) && decide (i < ((n : Nat) : Int)))
   && ((isV X[o + Int.toNat i * 3 + 1]?)
   && ((decide (((vL X[o + Int.toNat i * 3 + 1]? : Nat) : Int) > 50))
   && true)))
theorem og_cond_k : (fun (X : Array Value) (o n : Nat) (m i : Int) => (followT og_bits (codeT cfg (callT cfg noT 60) 60 cz k8 (fr8 X o n m i) st0)).1) = fun (X : Array Value) (o n : Nat) (m i : Int) => og_c X o n m i := by kernel_rfl
theorem og_cond (X : Array Value) (o n : Nat) (m i : Int) : (followT og_bits (codeT cfg (callT cfg noT 60) 60 cz k8 (fr8 X o n m i) st0)).1 = og_c X o n m i := congrFun (congrFun (congrFun (congrFun (congrFun og_cond_k X) o) n) m) i
theorem og_leaf_k : (fun (X : Array Value) (o n : Nat) (m i : Int) => pathObs (gcObs 0 0 (kp [4] [])) og_bits (codeT cfg (callT cfg noT 60) 60 cz k8 (fr8 X o n m i) st0)) = fun (X : Array Value) (o n : Nat) (m i : Int) => some (.ret, frS 8 [(4, .bool false)], st0) := by kernel_rfl
theorem og_leaf (X : Array Value) (o n : Nat) (m i : Int) : pathObs (gcObs 0 0 (kp [4] [])) og_bits (codeT cfg (callT cfg noT 60) 60 cz k8 (fr8 X o n m i) st0) = some (.ret, frS 8 [(4, .bool false)], st0) := congrFun (congrFun (congrFun (congrFun (congrFun og_leaf_k X) o) n) m) i
def oh_bits : List Bool := [false, true, true, true, false, false]
def oh_c (X : Array Value) (o n : Nat) (m i : Int) : Bool :=
  (decide (i < ((n : Nat) : Int)))
   && ((decide (0 ≤ i) && decide (i < ((n : Nat) : Int)))
   && ((isV X[o + Int.toNat i * 3 + 1]?)
   && (!(decide (((vL X[o + Int.toNat i * 3 + 1]? : Nat) : Int) > 50))
   && true)))
theorem oh_cond_k : (fun (X : Array Value) (o n : Nat) (m i : Int) => (followT oh_bits (codeT cfg (callT cfg noT 60) 60 cz k8 (fr8 X o n m i) st0)).1) = fun (X : Array Value) (o n : Nat) (m i : Int) => oh_c X o n m i := by kernel_rfl
theorem oh_cond (X : Array Value) (o n : Nat) (m i : Int) : (followT oh_bits (codeT cfg (callT cfg noT 60) 60 cz k8 (fr8 X o n m i) st0)).1 = oh_c X o n m i := congrFun (congrFun (congrFun (congrFun (congrFun oh_cond_k X) o) n) m) i
theorem oh_leaf_k : (fun (X : Array Value) (o n : Nat) (m i : Int) => pathObs (gcObs 0 0 (kp [0, 1, 5] [])) oh_bits (codeT cfg (callT cfg noT 60) 60 cz k8 (fr8 X o n m i) st0)) = fun (X : Array Value) (o n : Nat) (m i : Int) => some (.normal, fr8 X o n m (inc i), st0) := by kernel_rfl
theorem oh_leaf (X : Array Value) (o n : Nat) (m i : Int) : pathObs (gcObs 0 0 (kp [0, 1, 5] [])) oh_bits (codeT cfg (callT cfg noT 60) 60 cz k8 (fr8 X o n m i) st0) = some (.normal, fr8 X o n m (inc i), st0) := congrFun (congrFun (congrFun (congrFun (congrFun oh_leaf_k X) o) n) m) i
def oi_bits : List Bool := [false]
def oi_c (X : Array Value) (o n : Nat) (m i : Int) : Bool :=
  true
theorem oi_cond_k : (fun (X : Array Value) (o n : Nat) (m i : Int) => (followT oi_bits (codeT cfg (callT cfg noT 60) 60 cz (cN 2 b8) (fr8 X o n m i) st0)).1) = fun (X : Array Value) (o n : Nat) (m i : Int) => oi_c X o n m i := by kernel_rfl
theorem oi_cond (X : Array Value) (o n : Nat) (m i : Int) : (followT oi_bits (codeT cfg (callT cfg noT 60) 60 cz (cN 2 b8) (fr8 X o n m i) st0)).1 = oi_c X o n m i := congrFun (congrFun (congrFun (congrFun (congrFun oi_cond_k X) o) n) m) i
theorem oi_leaf_k : (fun (X : Array Value) (o n : Nat) (m i : Int) => pathObs (gcObs 0 0 (kp [4] [])) oi_bits (codeT cfg (callT cfg noT 60) 60 cz (cN 2 b8) (fr8 X o n m i) st0)) = fun (X : Array Value) (o n : Nat) (m i : Int) => some (.ret, frS 8 [(4, .bool (decide ((n : Int) ≤ m)))], st0) := by kernel_rfl
theorem oi_leaf (X : Array Value) (o n : Nat) (m i : Int) : pathObs (gcObs 0 0 (kp [4] [])) oi_bits (codeT cfg (callT cfg noT 60) 60 cz (cN 2 b8) (fr8 X o n m i) st0) = some (.ret, frS 8 [(4, .bool (decide ((n : Int) ≤ m)))], st0) := congrFun (congrFun (congrFun (congrFun (congrFun oi_leaf_k X) o) n) m) i
end
end Go.Proofs.Ytgcffmkifjnmlaa
