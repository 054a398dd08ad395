/- NetScripts: ahead of the loop, and behind it. -/
import Derived.Test.YtgcffmkifjnmlaaNT
import Derived.Test.YtgcffmkifjnmlaaAmEff
namespace Go.Proofs.Ytgcffmkifjnmlaa
open Go.Am
noncomputable section
def pre3 : List Code := [cL b3, cL (cN 1 b3), cL (cN 2 b3), cL (cN 3 b3), cL (cN 4 b3), cL (cN 5 b3)]
def frP (X : Array Value) (o n : Nat) : Fr := frS 3 [(1, VS X o n), (5, ptrV 0), (6, ptrV 2)]
def rObs2 : Option (Ex × Fr × St) → Option (Ex × (FuncId × Nat × Option Nat) × List (Option Value) × List (Option AObj) × Nat)
  | some (ex, fr, s) => some (ex, (fr.fn, fr.nt, fr.round), [1, 5, 6].map fr.tm.get, [0, 1, 2, 3].map s.heap.get, s.next)
  | none => none
def la0_bits : List Bool := [true, true]
def la0_c (a : Int) (X : Array Value) (o n : Nat) : Bool :=
  (smOk X o n)
   && ((!smB X o n 60)
   && true)
theorem la0_cond_k : (fun (a : Int) (X : Array Value) (o n : Nat) => (followT la0_bits (codeT cfS (callT cfS tS 60) 60 cz (seqOf pre3) (frame0 3 (ntOf 3) #[.int .i64 a, VS X o n]) st0)).1) = fun (a : Int) (X : Array Value) (o n : Nat) => la0_c a X o n := by kernel_rfl
theorem la0_cond (a : Int) (X : Array Value) (o n : Nat) : (followT la0_bits (codeT cfS (callT cfS tS 60) 60 cz (seqOf pre3) (frame0 3 (ntOf 3) #[.int .i64 a, VS X o n]) st0)).1 = la0_c a X o n := congrFun (congrFun (congrFun (congrFun la0_cond_k a) X) o) n
theorem la0_leaf_k : (fun (a : Int) (X : Array Value) (o n : Nat) => pathObs (leavesK [4] []) la0_bits (codeT cfS (callT cfS tS 60) 60 cz (seqOf pre3) (frame0 3 (ntOf 3) #[.int .i64 a, VS X o n]) st0)) = fun (a : Int) (X : Array Value) (o n : Nat) => some (.ret, [some (.bool true)], []) := by kernel_rfl
theorem la0_leaf (a : Int) (X : Array Value) (o n : Nat) : pathObs (leavesK [4] []) la0_bits (codeT cfS (callT cfS tS 60) 60 cz (seqOf pre3) (frame0 3 (ntOf 3) #[.int .i64 a, VS X o n]) st0) = some (.ret, [some (.bool true)], []) := congrFun (congrFun (congrFun (congrFun la0_leaf_k a) X) o) n
def la1_bits : List Bool := [true, false, true, true, true, true, true, true, true, true, true, true, true, true, true, true, true, true]
def la1_c (a : Int) (X : Array Value) (o n : Nat) : Bool :=
  (smOk X o n)
   && (!(!smB X o n 60)
   && ((decide (a < 1))
   && ((decide (a < 1))
   && true)))
theorem la1_cond_k : (fun (a : Int) (X : Array Value) (o n : Nat) => (followT la1_bits (codeT cfS (callT cfS tS 60) 60 cz (seqOf pre3) (frame0 3 (ntOf 3) #[.int .i64 a, VS X o n]) st0)).1) = fun (a : Int) (X : Array Value) (o n : Nat) => la1_c a X o n := by kernel_rfl
theorem la1_cond (a : Int) (X : Array Value) (o n : Nat) : (followT la1_bits (codeT cfS (callT cfS tS 60) 60 cz (seqOf pre3) (frame0 3 (ntOf 3) #[.int .i64 a, VS X o n]) st0)).1 = la1_c a X o n := congrFun (congrFun (congrFun (congrFun la1_cond_k a) X) o) n
theorem la1_leaf_k : (fun (a : Int) (X : Array Value) (o n : Nat) => pathObs (leavesK [4] []) la1_bits (codeT cfS (callT cfS tS 60) 60 cz (seqOf pre3) (frame0 3 (ntOf 3) #[.int .i64 a, VS X o n]) st0)) = fun (a : Int) (X : Array Value) (o n : Nat) => some (.ret, [some (.bool true)], []) := by kernel_rfl
theorem la1_leaf (a : Int) (X : Array Value) (o n : Nat) : pathObs (leavesK [4] []) la1_bits (codeT cfS (callT cfS tS 60) 60 cz (seqOf pre3) (frame0 3 (ntOf 3) #[.int .i64 a, VS X o n]) st0) = some (.ret, [some (.bool true)], []) := congrFun (congrFun (congrFun (congrFun la1_leaf_k a) X) o) n
def la2_bits : List Bool := [true, false, false, false, false, false, false, true, false, false, false, false, false, true, true, true, true, true]
def la2_c (a : Int) (X : Array Value) (o n : Nat) : Bool :=
  (smOk X o n)
   && (!(!smB X o n 60)
   && (!(decide (a < 1))
   && ((decide (a > 1000))
   && (!(decide (a < 1))
   && ((decide (a > 1000))
   && true)))))
theorem la2_cond_k : (fun (a : Int) (X : Array Value) (o n : Nat) => (followT la2_bits (codeT cfS (callT cfS tS 60) 60 cz (seqOf pre3) (frame0 3 (ntOf 3) #[.int .i64 a, VS X o n]) st0)).1) = fun (a : Int) (X : Array Value) (o n : Nat) => la2_c a X o n := by kernel_rfl
theorem la2_cond (a : Int) (X : Array Value) (o n : Nat) : (followT la2_bits (codeT cfS (callT cfS tS 60) 60 cz (seqOf pre3) (frame0 3 (ntOf 3) #[.int .i64 a, VS X o n]) st0)).1 = la2_c a X o n := congrFun (congrFun (congrFun (congrFun la2_cond_k a) X) o) n
theorem la2_leaf_k : (fun (a : Int) (X : Array Value) (o n : Nat) => pathObs (leavesK [4] []) la2_bits (codeT cfS (callT cfS tS 60) 60 cz (seqOf pre3) (frame0 3 (ntOf 3) #[.int .i64 a, VS X o n]) st0)) = fun (a : Int) (X : Array Value) (o n : Nat) => some (.ret, [some (.bool true)], []) := by kernel_rfl
theorem la2_leaf (a : Int) (X : Array Value) (o n : Nat) : pathObs (leavesK [4] []) la2_bits (codeT cfS (callT cfS tS 60) 60 cz (seqOf pre3) (frame0 3 (ntOf 3) #[.int .i64 a, VS X o n]) st0) = some (.ret, [some (.bool true)], []) := congrFun (congrFun (congrFun (congrFun la2_leaf_k a) X) o) n
def la3_bits : List Bool := [true, false, false, false, false, false, false, false, false, false, false, false, false, false, false, false]
def la3_c (a : Int) (X : Array Value) (o n : Nat) : Bool :=
  (smOk X o n)
   && (!(!smB X o n 60)
   && (!(decide (a < 1))
   && (!(decide (a > 1000))
   && (!(decide (a < 1))
   && (!(decide (a > 1000))
   && true)))))
theorem la3_cond_k : (fun (a : Int) (X : Array Value) (o n : Nat) => (followT la3_bits (codeT cfS (callT cfS tS 60) 60 cz (seqOf pre3) (frame0 3 (ntOf 3) #[.int .i64 a, VS X o n]) st0)).1) = fun (a : Int) (X : Array Value) (o n : Nat) => la3_c a X o n := by kernel_rfl
theorem la3_cond (a : Int) (X : Array Value) (o n : Nat) : (followT la3_bits (codeT cfS (callT cfS tS 60) 60 cz (seqOf pre3) (frame0 3 (ntOf 3) #[.int .i64 a, VS X o n]) st0)).1 = la3_c a X o n := congrFun (congrFun (congrFun (congrFun la3_cond_k a) X) o) n
theorem la3_leaf_k : (fun (a : Int) (X : Array Value) (o n : Nat) => pathObs rObs2 la3_bits (codeT cfS (callT cfS tS 60) 60 cz (seqOf pre3) (frame0 3 (ntOf 3) #[.int .i64 a, VS X o n]) st0)) = fun (a : Int) (X : Array Value) (o n : Nat) => some (.normal, (3, 59, none), [some (VS X o n), some (ptrV 0), some (ptrV 1)], [some (boxO false a 0 (.slice none 0 0)), some (boxO true a 0 (.slice none 0 0)), none, none], 2) := by kernel_rfl
theorem la3_leaf (a : Int) (X : Array Value) (o n : Nat) : pathObs rObs2 la3_bits (codeT cfS (callT cfS tS 60) 60 cz (seqOf pre3) (frame0 3 (ntOf 3) #[.int .i64 a, VS X o n]) st0) = some (.normal, (3, 59, none), [some (VS X o n), some (ptrV 0), some (ptrV 1)], [some (boxO false a 0 (.slice none 0 0)), some (boxO true a 0 (.slice none 0 0)), none, none], 2) := congrFun (congrFun (congrFun (congrFun la3_leaf_k a) X) o) n
def la4_bits : List Bool := []
def la4_c (X : Array Value) (o n : Nat) (A B : Net) : Bool :=
  true
theorem la4_cond_k : (fun (X : Array Value) (o n : Nat) (A B : Net) => (followT la4_bits (codeT cfS (callT cfS tS 60) 60 cz (cL (cL (cN 6 b3))) (frP X o n) (sB A B))).1) = fun (X : Array Value) (o n : Nat) (A B : Net) => la4_c X o n A B := by kernel_rfl
theorem la4_cond (X : Array Value) (o n : Nat) (A B : Net) : (followT la4_bits (codeT cfS (callT cfS tS 60) 60 cz (cL (cL (cN 6 b3))) (frP X o n) (sB A B))).1 = la4_c X o n A B := congrFun (congrFun (congrFun (congrFun (congrFun la4_cond_k X) o) n) A) B
theorem la4_leaf_k : (fun (X : Array Value) (o n : Nat) (A B : Net) => pathObs rObs la4_bits (codeT cfS (callT cfS tS 60) 60 cz (cL (cL (cN 6 b3))) (frP X o n) (sB A B))) = fun (X : Array Value) (o n : Nat) (A B : Net) => some (.normal, (3, 59, none), [some (VS X o n), some (ptrV 0), some (ptrV 2), some (.int .i64 0)], [some (boxO false A.a A.b (v1 A)), netO A.nl A.M, some (boxO true B.a B.b (v3 B)), netO B.nl B.M, none, none, none], 4) := by kernel_rfl
theorem la4_leaf (X : Array Value) (o n : Nat) (A B : Net) : pathObs rObs la4_bits (codeT cfS (callT cfS tS 60) 60 cz (cL (cL (cN 6 b3))) (frP X o n) (sB A B)) = some (.normal, (3, 59, none), [some (VS X o n), some (ptrV 0), some (ptrV 2), some (.int .i64 0)], [some (boxO false A.a A.b (v1 A)), netO A.nl A.M, some (boxO true B.a B.b (v3 B)), netO B.nl B.M, none, none, none], 4) := congrFun (congrFun (congrFun (congrFun (congrFun la4_leaf_k X) o) n) A) B
def la5_bits : List Bool := []
def la5_c (X : Array Value) (o n : Nat) (i : Int) (A B : Net) : Bool :=
  true
theorem la5_cond_k : (fun (X : Array Value) (o n : Nat) (i : Int) (A B : Net) => (followT la5_bits (codeT cfS (callT cfS tS 60) 60 cz (cN 7 b3) (frH X o n i) (sB A B))).1) = fun (X : Array Value) (o n : Nat) (i : Int) (A B : Net) => la5_c X o n i A B := by kernel_rfl
theorem la5_cond (X : Array Value) (o n : Nat) (i : Int) (A B : Net) : (followT la5_bits (codeT cfS (callT cfS tS 60) 60 cz (cN 7 b3) (frH X o n i) (sB A B))).1 = la5_c X o n i A B := congrFun (congrFun (congrFun (congrFun (congrFun (congrFun la5_cond_k X) o) n) i) A) B
theorem la5_leaf_k : (fun (X : Array Value) (o n : Nat) (i : Int) (A B : Net) => pathObs (leavesK [4] []) la5_bits (codeT cfS (callT cfS tS 60) 60 cz (cN 7 b3) (frH X o n i) (sB A B))) = fun (X : Array Value) (o n : Nat) (i : Int) (A B : Net) => some (.ret, [some (.bool true)], []) := by kernel_rfl
theorem la5_leaf (X : Array Value) (o n : Nat) (i : Int) (A B : Net) : pathObs (leavesK [4] []) la5_bits (codeT cfS (callT cfS tS 60) 60 cz (cN 7 b3) (frH X o n i) (sB A B)) = some (.ret, [some (.bool true)], []) := congrFun (congrFun (congrFun (congrFun (congrFun (congrFun la5_leaf_k X) o) n) i) A) B
end
end Go.Proofs.Ytgcffmkifjnmlaa
