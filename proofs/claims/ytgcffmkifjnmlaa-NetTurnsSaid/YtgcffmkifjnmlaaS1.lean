/- Are two lists of texts the same: paths. -/
import Derived.Test.YtgcffmkifjnmlaaS
namespace Go.Proofs.Ytgcffmkifjnmlaa
open Go.Am
noncomputable section
def sa_bits : List Bool := [false, false, true]
def sa_c (X Y : Array Value) (px py : Bool) (ox la ca oy lb cb : Nat) : Bool :=
  ((la : Int) != (lb : Int))
   && true
theorem sa_cond : (fun (X Y : Array Value) (px py : Bool) (ox la ca oy lb cb : Nat) => (followT sa_bits (codeT cfg1 (callT cfg1 t1 60) 60 c2 (seqOf pre13) (frS0 ox la ca oy lb cb) (sS X Y px py))).1) = fun (X Y : Array Value) (px py : Bool) (ox la ca oy lb cb : Nat) => sa_c X Y px py ox la ca oy lb cb := by kernel_rfl
def sb_bits : List Bool := [false, false, false]
def sb_c (X Y : Array Value) (px py : Bool) (ox la ca oy lb cb : Nat) : Bool :=
  !((la : Int) != (lb : Int))
   && true
theorem sb_cond : (fun (X Y : Array Value) (px py : Bool) (ox la ca oy lb cb : Nat) => (followT sb_bits (codeT cfg1 (callT cfg1 t1 60) 60 c2 (seqOf pre13) (frS0 ox la ca oy lb cb) (sS X Y px py))).1) = fun (X Y : Array Value) (px py : Bool) (ox la ca oy lb cb : Nat) => sb_c X Y px py ox la ca oy lb cb := by kernel_rfl
def s3_bits : List Bool := []
def s3_c (X Y : Array Value) (px py : Bool) (ox la ca oy lb cb : Nat) : Bool := true
theorem s3_cond : (fun (X Y : Array Value) (px py : Bool) (ox la ca oy lb cb : Nat) => (followT s3_bits (codeT cfg1 (callT cfg1 t1 60) 60 c2 (cL (cL rest13)) (frS1 ox la ca oy lb cb) (sS X Y px py))).1) = fun (X Y : Array Value) (px py : Bool) (ox la ca oy lb cb : Nat) => s3_c X Y px py ox la ca oy lb cb := by kernel_rfl
def st_bits : List Bool := []
def st_c (X Y : Array Value) (px py : Bool) (ox la ca oy lb cb : Nat) (i : Int) : Bool := true
theorem st_cond : (fun (X Y : Array Value) (px py : Bool) (ox la ca oy lb cb : Nat) (i : Int) => (followT st_bits (codeT cfg1 (callT cfg1 t1 60) 60 c2 tail13 (frS ox la ca oy lb cb i) (sS X Y px py))).1) = fun (X Y : Array Value) (px py : Bool) (ox la ca oy lb cb : Nat) (i : Int) => st_c X Y px py ox la ca oy lb cb i := by kernel_rfl
def sr0_bits : List Bool := [false, false]
def sr0_c (X Y : Array Value) (px py : Bool) (ox la ca oy lb cb : Nat) (i : Int) : Bool :=
  !(decide (i < (la : Int)))
   && true
theorem sr0_cond : (fun (X Y : Array Value) (px py : Bool) (ox la ca oy lb cb : Nat) (i : Int) => (followT sr0_bits (codeT cfg1 (callT cfg1 t1 60) 60 c2 loop13 (frS ox la ca oy lb cb i) (sS X Y px py))).1) = fun (X Y : Array Value) (px py : Bool) (ox la ca oy lb cb : Nat) (i : Int) => sr0_c X Y px py ox la ca oy lb cb i := by kernel_rfl
def sr1_bits : List Bool := [false, true, true, true, true, true, true]
def sr1_c (X Y : Array Value) (px py : Bool) (ox la ca oy lb cb : Nat) (i : Int) : Bool :=
  (decide (i < (la : Int)))
   && ((decide (0 ≤ i) && decide (i < (la : Int)))
   && ((isStr X[(ox + Int.toNat i * 1)]?)
   && ((decide (0 ≤ i) && decide (i < (lb : Int)))
   && ((isStr Y[(oy + Int.toNat i * 1)]?)
   && ((!ByteArray.toList (toStr X[(ox + Int.toNat i * 1)]?) == ByteArray.toList (toStr Y[(oy + Int.toNat i * 1)]?))
   && true)))))
theorem sr1_cond : (fun (X Y : Array Value) (px py : Bool) (ox la ca oy lb cb : Nat) (i : Int) => (followT sr1_bits (codeT cfg1 (callT cfg1 t1 60) 60 c2 loop13 (frS ox la ca oy lb cb i) (sS X Y px py))).1) = fun (X Y : Array Value) (px py : Bool) (ox la ca oy lb cb : Nat) (i : Int) => sr1_c X Y px py ox la ca oy lb cb i := by kernel_rfl
def sr2_bits : List Bool := [false, true, true, true, true, true, false]
def sr2_c (X Y : Array Value) (px py : Bool) (ox la ca oy lb cb : Nat) (i : Int) : Bool :=
  (decide (i < (la : Int)))
   && ((decide (0 ≤ i) && decide (i < (la : Int)))
   && ((isStr X[(ox + Int.toNat i * 1)]?)
   && ((decide (0 ≤ i) && decide (i < (lb : Int)))
   && ((isStr Y[(oy + Int.toNat i * 1)]?)
   && (!(!ByteArray.toList (toStr X[(ox + Int.toNat i * 1)]?) == ByteArray.toList (toStr Y[(oy + Int.toNat i * 1)]?))
   && true)))))
theorem sr2_cond : (fun (X Y : Array Value) (px py : Bool) (ox la ca oy lb cb : Nat) (i : Int) => (followT sr2_bits (codeT cfg1 (callT cfg1 t1 60) 60 c2 loop13 (frS ox la ca oy lb cb i) (sS X Y px py))).1) = fun (X Y : Array Value) (px py : Bool) (ox la ca oy lb cb : Nat) (i : Int) => sr2_c X Y px py ox la ca oy lb cb i := by kernel_rfl
theorem sa_leaf : (fun (X Y : Array Value) (px py : Bool) (ox la ca oy lb cb : Nat) => pathObs (gcObs 0 2 selP) sa_bits (codeT cfg1 (callT cfg1 t1 60) 60 c2 (seqOf pre13) (frS0 ox la ca oy lb cb) (sS X Y px py))) = fun (X Y : Array Value) (px py : Bool) (ox la ca oy lb cb : Nat) => some (Ex.ret, frT false, st0) := by kernel_rfl
theorem sb_leaf : (fun (X Y : Array Value) (px py : Bool) (ox la ca oy lb cb : Nat) => pathObs (gcObs 0 2 selP) sb_bits (codeT cfg1 (callT cfg1 t1 60) 60 c2 (seqOf pre13) (frS0 ox la ca oy lb cb) (sS X Y px py))) = fun (X Y : Array Value) (px py : Bool) (ox la ca oy lb cb : Nat) => some (Ex.normal, frS1 ox la ca oy lb cb, sS X Y px py) := by kernel_rfl
theorem s3_leaf : (fun (X Y : Array Value) (px py : Bool) (ox la ca oy lb cb : Nat) => pathObs (gcObs 0 2 selQ) s3_bits (codeT cfg1 (callT cfg1 t1 60) 60 c2 (cL (cL rest13)) (frS1 ox la ca oy lb cb) (sS X Y px py))) = fun (X Y : Array Value) (px py : Bool) (ox la ca oy lb cb : Nat) => some (Ex.normal, frS ox la ca oy lb cb 0, sS X Y px py) := by kernel_rfl
theorem st_leaf : (fun (X Y : Array Value) (px py : Bool) (ox la ca oy lb cb : Nat) (i : Int) => pathObs (gcObs 0 2 selQ) st_bits (codeT cfg1 (callT cfg1 t1 60) 60 c2 tail13 (frS ox la ca oy lb cb i) (sS X Y px py))) = fun (X Y : Array Value) (px py : Bool) (ox la ca oy lb cb : Nat) (i : Int) => some (Ex.ret, frT true, st0) := by kernel_rfl
theorem sr0_leaf : (fun (X Y : Array Value) (px py : Bool) (ox la ca oy lb cb : Nat) (i : Int) => pathObs (gcObs 0 2 selQ) sr0_bits (codeT cfg1 (callT cfg1 t1 60) 60 c2 loop13 (frS ox la ca oy lb cb i) (sS X Y px py))) = fun (X Y : Array Value) (px py : Bool) (ox la ca oy lb cb : Nat) (i : Int) => some (Ex.exit 0, frS ox la ca oy lb cb i, sS X Y px py) := by kernel_rfl
theorem sr1_leaf : (fun (X Y : Array Value) (px py : Bool) (ox la ca oy lb cb : Nat) (i : Int) => pathObs (gcObs 0 2 selQ) sr1_bits (codeT cfg1 (callT cfg1 t1 60) 60 c2 loop13 (frS ox la ca oy lb cb i) (sS X Y px py))) = fun (X Y : Array Value) (px py : Bool) (ox la ca oy lb cb : Nat) (i : Int) => some (Ex.ret, frT false, st0) := by kernel_rfl
theorem sr2_leaf : (fun (X Y : Array Value) (px py : Bool) (ox la ca oy lb cb : Nat) (i : Int) => pathObs (gcObs 0 2 selQ) sr2_bits (codeT cfg1 (callT cfg1 t1 60) 60 c2 loop13 (frS ox la ca oy lb cb i) (sS X Y px py))) = fun (X Y : Array Value) (px py : Bool) (ox la ca oy lb cb : Nat) (i : Int) => some (Ex.normal, frS ox la ca oy lb cb (IntKind.wrap .i64 (i + 1)), sS X Y px py) := by kernel_rfl
end
end Go.Proofs.Ytgcffmkifjnmlaa
