/- What a net has, listed: the walk. -/
import Derived.Test.YtgcffmkifjnmlaaNN
import Derived.Test.YtgcffmkifjnmlaaAmEff
namespace Go.Proofs.Ytgcffmkifjnmlaa
open Go.Am
noncomputable section
abbrev cf (n : Nat) : Ctx := { floor := n, own := [], hide := [] }
def b13 : Code := bodyOf 13
def k13 : Code := cB (cB (cR (cL (cN 2 b13))))
theorem b13_eq : b13 = nest [cL b13, cL (cN 1 b13)] (.seq (.seq (cL (cL (cN 2 b13))) (.block 0 (.loop k13))) (cN 3 b13)) := by kernel_rfl
def fr13a (X Y : Array Value) : Fr := frS 13 [(0, VS X 0 X.size), (1, VS Y 0 Y.size)]
def fr13 (X Y : Array Value) (i : Int) : Fr := frS 13 [(0, VS X 0 X.size), (1, VS Y 0 Y.size), (5, .int .i64 i)]
def ma_bits : List Bool := [false, true]
def ma_c (a b : Int) : Bool :=
  true
theorem ma_cond_k : (fun (a b : Int) => (followT ma_bits (codeT cfg (callT cfg noT 60) 60 (cf 1) (bodyOf 14) (frame0 14 (ntOf 14) #[p0]) (sN1 false a b))).1) = fun (a b : Int) => ma_c a b := by kernel_rfl
theorem ma_cond (a b : Int) : (followT ma_bits (codeT cfg (callT cfg noT 60) 60 (cf 1) (bodyOf 14) (frame0 14 (ntOf 14) #[p0]) (sN1 false a b))).1 = ma_c a b := congrFun (congrFun ma_cond_k a) b
theorem ma_leaf_k : (fun (a b : Int) => pathObs (leaves [2]) ma_bits (codeT cfg (callT cfg noT 60) 60 (cf 1) (bodyOf 14) (frame0 14 (ntOf 14) #[p0]) (sN1 false a b))) = fun (a b : Int) => some (.ret, [some (.slice none 0 0)], some (boxO false a b (.slice none 0 0)), none, none, none) := by kernel_rfl
theorem ma_leaf (a b : Int) : pathObs (leaves [2]) ma_bits (codeT cfg (callT cfg noT 60) 60 (cf 1) (bodyOf 14) (frame0 14 (ntOf 14) #[p0]) (sN1 false a b)) = some (.ret, [some (.slice none 0 0)], some (boxO false a b (.slice none 0 0)), none, none, none) := congrFun (congrFun ma_leaf_k a) b
def mb_bits : List Bool := [false, false, false, true, true]
def mb_c (a b : Int) (M : Array Value) : Bool :=
  (decide (0 + Array.size M ≤ nLim) && true && true && true && true && true)
   && ((decide (Array.size M = 0))
   && true)
theorem mb_cond_k : (fun (a b : Int) (M : Array Value) => (followT mb_bits (codeT cfg (callT cfg noT 60) 60 (cf 2) (bodyOf 14) (frame0 14 (ntOf 14) #[p0]) (sR false a b M))).1) = fun (a b : Int) (M : Array Value) => mb_c a b M := by kernel_rfl
theorem mb_cond (a b : Int) (M : Array Value) : (followT mb_bits (codeT cfg (callT cfg noT 60) 60 (cf 2) (bodyOf 14) (frame0 14 (ntOf 14) #[p0]) (sR false a b M))).1 = mb_c a b M := congrFun (congrFun (congrFun mb_cond_k a) b) M
theorem mb_leaf_k : (fun (a b : Int) (M : Array Value) => pathObs (leaves [2]) mb_bits (codeT cfg (callT cfg noT 60) 60 (cf 2) (bodyOf 14) (frame0 14 (ntOf 14) #[p0]) (sR false a b M))) = fun (a b : Int) (M : Array Value) => some (.ret, [some (.slice (some ⟨2, 0, none⟩) 0 0)], some (boxO false a b (.slice (some ⟨1, 0, none⟩) M.size M.size)), some (.cells M 1 true), some (.cells #[] 1 false), none) := by kernel_rfl
theorem mb_leaf (a b : Int) (M : Array Value) : pathObs (leaves [2]) mb_bits (codeT cfg (callT cfg noT 60) 60 (cf 2) (bodyOf 14) (frame0 14 (ntOf 14) #[p0]) (sR false a b M)) = some (.ret, [some (.slice (some ⟨2, 0, none⟩) 0 0)], some (boxO false a b (.slice (some ⟨1, 0, none⟩) M.size M.size)), some (.cells M 1 true), some (.cells #[] 1 false), none) := congrFun (congrFun (congrFun mb_leaf_k a) b) M
def mc_bits : List Bool := [false, false, false, true, false, true, true, true, false, true, false]
def mc_c (a b : Int) (M : Array Value) : Bool :=
  (decide (0 + Array.size M ≤ nLim) && true && true && true && true && true)
   && (!(decide (Array.size M = 0))
   && ((decide (Array.size M ≤ Array.size M) && decide (0 + Array.size M * 1 ≤ Array.size M))
   && ((List.all (Array.extract M 0 (0 + Array.size M * 1)).toList Value.oneCell')
   && (!(decide (0 + Array.size M ≤ 0))
   && true))))
theorem mc_cond_k : (fun (a b : Int) (M : Array Value) => (followT mc_bits (codeT cfg (callT cfg noT 60) 60 (cf 2) (bodyOf 14) (frame0 14 (ntOf 14) #[p0]) (sR false a b M))).1) = fun (a b : Int) (M : Array Value) => mc_c a b M := by kernel_rfl
theorem mc_cond (a b : Int) (M : Array Value) : (followT mc_bits (codeT cfg (callT cfg noT 60) 60 (cf 2) (bodyOf 14) (frame0 14 (ntOf 14) #[p0]) (sR false a b M))).1 = mc_c a b M := congrFun (congrFun (congrFun mc_cond_k a) b) M
theorem mc_leaf_k : (fun (a b : Int) (M : Array Value) => pathObs (leaves [2]) mc_bits (codeT cfg (callT cfg noT 60) 60 (cf 2) (bodyOf 14) (frame0 14 (ntOf 14) #[p0]) (sR false a b M))) = fun (a b : Int) (M : Array Value) => some (.ret, [some (.slice (some ⟨3, 0, none⟩) (0 + M.size) (0 + M.size))], some (boxO false a b (.slice (some ⟨1, 0, none⟩) M.size M.size)), some (.cells M 1 true), some (.cells #[] 1 false), some (.cells (cpy M) 1 true)) := by kernel_rfl
theorem mc_leaf (a b : Int) (M : Array Value) : pathObs (leaves [2]) mc_bits (codeT cfg (callT cfg noT 60) 60 (cf 2) (bodyOf 14) (frame0 14 (ntOf 14) #[p0]) (sR false a b M)) = some (.ret, [some (.slice (some ⟨3, 0, none⟩) (0 + M.size) (0 + M.size))], some (boxO false a b (.slice (some ⟨1, 0, none⟩) M.size M.size)), some (.cells M 1 true), some (.cells #[] 1 false), some (.cells (cpy M) 1 true)) := congrFun (congrFun (congrFun mc_leaf_k a) b) M
def na_bits : List Bool := [false, false, true]
def na_c (X Y : Array Value) : Bool :=
  (((Array.size X : Nat) : Int) != ((Array.size Y : Nat) : Int))
   && true
theorem na_cond_k : (fun (X Y : Array Value) => (followT na_bits (codeT cfg (callT cfg noT 60) 60 cz (seqOf [cL b13, cL (cN 1 b13)]) (frame0 13 (ntOf 13) #[VS X 0 X.size, VS Y 0 Y.size]) st0)).1) = fun (X Y : Array Value) => na_c X Y := by kernel_rfl
theorem na_cond (X Y : Array Value) : (followT na_bits (codeT cfg (callT cfg noT 60) 60 cz (seqOf [cL b13, cL (cN 1 b13)]) (frame0 13 (ntOf 13) #[VS X 0 X.size, VS Y 0 Y.size]) st0)).1 = na_c X Y := congrFun (congrFun na_cond_k X) Y
theorem na_leaf_k : (fun (X Y : Array Value) => pathObs (gcObs 0 0 (kp [4] [])) na_bits (codeT cfg (callT cfg noT 60) 60 cz (seqOf [cL b13, cL (cN 1 b13)]) (frame0 13 (ntOf 13) #[VS X 0 X.size, VS Y 0 Y.size]) st0)) = fun (X Y : Array Value) => some (.ret, frS 13 [(4, .bool false)], st0) := by kernel_rfl
theorem na_leaf (X Y : Array Value) : pathObs (gcObs 0 0 (kp [4] [])) na_bits (codeT cfg (callT cfg noT 60) 60 cz (seqOf [cL b13, cL (cN 1 b13)]) (frame0 13 (ntOf 13) #[VS X 0 X.size, VS Y 0 Y.size]) st0) = some (.ret, frS 13 [(4, .bool false)], st0) := congrFun (congrFun na_leaf_k X) Y
def nb_bits : List Bool := [false, false, false]
def nb_c (X Y : Array Value) : Bool :=
  !(((Array.size X : Nat) : Int) != ((Array.size Y : Nat) : Int))
   && true
theorem nb_cond_k : (fun (X Y : Array Value) => (followT nb_bits (codeT cfg (callT cfg noT 60) 60 cz (seqOf [cL b13, cL (cN 1 b13)]) (frame0 13 (ntOf 13) #[VS X 0 X.size, VS Y 0 Y.size]) st0)).1) = fun (X Y : Array Value) => nb_c X Y := by kernel_rfl
theorem nb_cond (X Y : Array Value) : (followT nb_bits (codeT cfg (callT cfg noT 60) 60 cz (seqOf [cL b13, cL (cN 1 b13)]) (frame0 13 (ntOf 13) #[VS X 0 X.size, VS Y 0 Y.size]) st0)).1 = nb_c X Y := congrFun (congrFun nb_cond_k X) Y
theorem nb_leaf_k : (fun (X Y : Array Value) => pathObs (gcObs 0 0 (kp [0, 1] [])) nb_bits (codeT cfg (callT cfg noT 60) 60 cz (seqOf [cL b13, cL (cN 1 b13)]) (frame0 13 (ntOf 13) #[VS X 0 X.size, VS Y 0 Y.size]) st0)) = fun (X Y : Array Value) => some (.normal, fr13a X Y, st0) := by kernel_rfl
theorem nb_leaf (X Y : Array Value) : pathObs (gcObs 0 0 (kp [0, 1] [])) nb_bits (codeT cfg (callT cfg noT 60) 60 cz (seqOf [cL b13, cL (cN 1 b13)]) (frame0 13 (ntOf 13) #[VS X 0 X.size, VS Y 0 Y.size]) st0) = some (.normal, fr13a X Y, st0) := congrFun (congrFun nb_leaf_k X) Y
def nc_bits : List Bool := []
def nc_c (X Y : Array Value) : Bool :=
  true
theorem nc_cond_k : (fun (X Y : Array Value) => (followT nc_bits (codeT cfg (callT cfg noT 60) 60 cz (cL (cL (cN 2 b13))) (fr13a X Y) st0)).1) = fun (X Y : Array Value) => nc_c X Y := by kernel_rfl
theorem nc_cond (X Y : Array Value) : (followT nc_bits (codeT cfg (callT cfg noT 60) 60 cz (cL (cL (cN 2 b13))) (fr13a X Y) st0)).1 = nc_c X Y := congrFun (congrFun nc_cond_k X) Y
theorem nc_leaf_k : (fun (X Y : Array Value) => pathObs (gcObs 0 0 (kp [0, 1, 5] [])) nc_bits (codeT cfg (callT cfg noT 60) 60 cz (cL (cL (cN 2 b13))) (fr13a X Y) st0)) = fun (X Y : Array Value) => some (.normal, fr13 X Y 0, st0) := by kernel_rfl
theorem nc_leaf (X Y : Array Value) : pathObs (gcObs 0 0 (kp [0, 1, 5] [])) nc_bits (codeT cfg (callT cfg noT 60) 60 cz (cL (cL (cN 2 b13))) (fr13a X Y) st0) = some (.normal, fr13 X Y 0, st0) := congrFun (congrFun nc_leaf_k X) Y
def nd_bits : List Bool := [false, false]
def nd_c (X Y : Array Value) (i : Int) : Bool :=
  !(decide (i < ((Array.size X : Nat) : Int)))
   && true
theorem nd_cond_k : (fun (X Y : Array Value) (i : Int) => (followT nd_bits (codeT cfg (callT cfg noT 60) 60 cz k13 (fr13 X Y i) st0)).1) = fun (X Y : Array Value) (i : Int) => nd_c X Y i := by kernel_rfl
theorem nd_cond (X Y : Array Value) (i : Int) : (followT nd_bits (codeT cfg (callT cfg noT 60) 60 cz k13 (fr13 X Y i) st0)).1 = nd_c X Y i := congrFun (congrFun (congrFun nd_cond_k X) Y) i
theorem nd_leaf_k : (fun (X Y : Array Value) (i : Int) => pathObs (gcObs 0 0 (kp [0, 1, 5] [])) nd_bits (codeT cfg (callT cfg noT 60) 60 cz k13 (fr13 X Y i) st0)) = fun (X Y : Array Value) (i : Int) => some (.exit 0, fr13 X Y i, st0) := by kernel_rfl
theorem nd_leaf (X Y : Array Value) (i : Int) : pathObs (gcObs 0 0 (kp [0, 1, 5] [])) nd_bits (codeT cfg (callT cfg noT 60) 60 cz k13 (fr13 X Y i) st0) = some (.exit 0, fr13 X Y i, st0) := congrFun (congrFun (congrFun nd_leaf_k X) Y) i
def ne_bits : List Bool := [false, true, true, true, true, true, true]
def ne_c (X Y : Array Value) (i : Int) : Bool :=
  (decide (i < ((Array.size X : Nat) : Int)))
   && ((decide (0 ≤ i) && decide (i < ((Array.size X : Nat) : Int)))
   && ((isStr X[0 + Int.toNat i * 1]?)
   && ((decide (0 ≤ i) && decide (i < ((Array.size Y : Nat) : Int)))
   && ((isStr Y[0 + Int.toNat i * 1]?)
   && ((!ByteArray.toList (toStr X[0 + Int.toNat i * 1]?) == ByteArray.toList (toStr Y[0 + Int.toNat i * 1]?))
   && true)))))
theorem ne_cond_k : (fun (X Y : Array Value) (i : Int) => (followT ne_bits (codeT cfg (callT cfg noT 60) 60 cz k13 (fr13 X Y i) st0)).1) = fun (X Y : Array Value) (i : Int) => ne_c X Y i := by kernel_rfl
theorem ne_cond (X Y : Array Value) (i : Int) : (followT ne_bits (codeT cfg (callT cfg noT 60) 60 cz k13 (fr13 X Y i) st0)).1 = ne_c X Y i := congrFun (congrFun (congrFun ne_cond_k X) Y) i
theorem ne_leaf_k : (fun (X Y : Array Value) (i : Int) => pathObs (gcObs 0 0 (kp [4] [])) ne_bits (codeT cfg (callT cfg noT 60) 60 cz k13 (fr13 X Y i) st0)) = fun (X Y : Array Value) (i : Int) => some (.ret, frS 13 [(4, .bool false)], st0) := by kernel_rfl
theorem ne_leaf (X Y : Array Value) (i : Int) : pathObs (gcObs 0 0 (kp [4] [])) ne_bits (codeT cfg (callT cfg noT 60) 60 cz k13 (fr13 X Y i) st0) = some (.ret, frS 13 [(4, .bool false)], st0) := congrFun (congrFun (congrFun ne_leaf_k X) Y) i
def nf_bits : List Bool := [false, true, true, true, true, true, false]
def nf_c (X Y : Array Value) (i : Int) : Bool :=
  (decide (i < ((Array.size X : Nat) : Int)))
   && ((decide (0 ≤ i) && decide (i < ((Array.size X : Nat) : Int)))
   && ((isStr X[0 + Int.toNat i * 1]?)
   && ((decide (0 ≤ i) && decide (i < ((Array.size Y : Nat) : Int)))
   && ((isStr Y[0 + Int.toNat i * 1]?)
   && (!(!ByteArray.toList (toStr X[0 + Int.toNat i * 1]?) == ByteArray.toList (toStr Y[0 + Int.toNat i * 1]?))
   && true)))))
theorem nf_cond_k : (fun (X Y : Array Value) (i : Int) => (followT nf_bits (codeT cfg (callT cfg noT 60) 60 cz k13 (fr13 X Y i) st0)).1) = fun (X Y : Array Value) (i : Int) => nf_c X Y i := by kernel_rfl
theorem nf_cond (X Y : Array Value) (i : Int) : (followT nf_bits (codeT cfg (callT cfg noT 60) 60 cz k13 (fr13 X Y i) st0)).1 = nf_c X Y i := congrFun (congrFun (congrFun nf_cond_k X) Y) i
theorem nf_leaf_k : (fun (X Y : Array Value) (i : Int) => pathObs (gcObs 0 0 (kp [0, 1, 5] [])) nf_bits (codeT cfg (callT cfg noT 60) 60 cz k13 (fr13 X Y i) st0)) = fun (X Y : Array Value) (i : Int) => some (.normal, fr13 X Y (inc i), st0) := by kernel_rfl
theorem nf_leaf (X Y : Array Value) (i : Int) : pathObs (gcObs 0 0 (kp [0, 1, 5] [])) nf_bits (codeT cfg (callT cfg noT 60) 60 cz k13 (fr13 X Y i) st0) = some (.normal, fr13 X Y (inc i), st0) := congrFun (congrFun (congrFun nf_leaf_k X) Y) i
def ng_bits : List Bool := []
def ng_c (X Y : Array Value) (i : Int) : Bool :=
  true
theorem ng_cond_k : (fun (X Y : Array Value) (i : Int) => (followT ng_bits (codeT cfg (callT cfg noT 60) 60 cz (cN 3 b13) (fr13 X Y i) st0)).1) = fun (X Y : Array Value) (i : Int) => ng_c X Y i := by kernel_rfl
theorem ng_cond (X Y : Array Value) (i : Int) : (followT ng_bits (codeT cfg (callT cfg noT 60) 60 cz (cN 3 b13) (fr13 X Y i) st0)).1 = ng_c X Y i := congrFun (congrFun (congrFun ng_cond_k X) Y) i
theorem ng_leaf_k : (fun (X Y : Array Value) (i : Int) => pathObs (gcObs 0 0 (kp [4] [])) ng_bits (codeT cfg (callT cfg noT 60) 60 cz (cN 3 b13) (fr13 X Y i) st0)) = fun (X Y : Array Value) (i : Int) => some (.ret, frS 13 [(4, .bool true)], st0) := by kernel_rfl
theorem ng_leaf (X Y : Array Value) (i : Int) : pathObs (gcObs 0 0 (kp [4] [])) ng_bits (codeT cfg (callT cfg noT 60) 60 cz (cN 3 b13) (fr13 X Y i) st0) = some (.ret, frS 13 [(4, .bool true)], st0) := congrFun (congrFun (congrFun ng_leaf_k X) Y) i
end
end Go.Proofs.Ytgcffmkifjnmlaa
