/- NetOrder: what stands about the loop. -/
import Derived.Test.YtgcffmkifjnmlaaO3
namespace Go.Proofs.Ytgcffmkifjnmlaa
open Go.Am
noncomputable section
def pa_bits : List Bool := [true, true, true, true, true, true, true, true, true, true, true, true, true, true, false, false, false, false, true, true, true, true, true, true, false, false, false, true, true, true]
def pa_c (A : Array Value) (n cp : Nat) (M : Int) : Bool :=
  (decide (M < 1))
   && ((decide (M < 1))
   && true)
theorem pa_cond : (fun (A : Array Value) (n cp : Nat) (M : Int) => (followT pa_bits (codeT cfg1 (callT cfg1 t1 60) 60 c1 b6 (fr6 n cp M) (heap1 A))).1) = fun (A : Array Value) (n cp : Nat) (M : Int) => pa_c A n cp M := by kernel_rfl
def pb_bits : List Bool := [false, false, false, false, false, true, true, true, true, true, true, true, true, true, false, false, false, false, false, false, false, false, false, true, false, false, false, true, true, true]
def pb_c (A : Array Value) (n cp : Nat) (M : Int) : Bool :=
  !(decide (M < 1))
   && ((decide (M > 1000))
   && (!(decide (M < 1))
   && ((decide (M > 1000))
   && true)))
theorem pb_cond : (fun (A : Array Value) (n cp : Nat) (M : Int) => (followT pb_bits (codeT cfg1 (callT cfg1 t1 60) 60 c1 b6 (fr6 n cp M) (heap1 A))).1) = fun (A : Array Value) (n cp : Nat) (M : Int) => pb_c A n cp M := by kernel_rfl
def pc_bits : List Bool := [false, false, false, false, false, false, false, false, false, false, false, false, false, false, true, true, true, true, true, true, true, true, true, true, true]
def pc_c (A : Array Value) (n cp : Nat) (M : Int) : Bool :=
  !(decide (M < 1))
   && (!(decide (M > 1000))
   && ((decide ((n : Int) > 100))
   && true))
theorem pc_cond : (fun (A : Array Value) (n cp : Nat) (M : Int) => (followT pc_bits (codeT cfg1 (callT cfg1 t1 60) 60 c1 b6 (fr6 n cp M) (heap1 A))).1) = fun (A : Array Value) (n cp : Nat) (M : Int) => pc_c A n cp M := by kernel_rfl
def pd_bits : List Bool := [false, false, false, false, false, false, false, false, false, false, false, false, false, false, false, false, false, true, true, true, false, true, true, true, false, true, false, true, true, true, true, false, false, true, false, false, false, false, false, true, false, false, false, false, false, false, false, false, false, false, false, false, false]
def pd_c (A : Array Value) (n cp : Nat) (M : Int) : Bool :=
  !(decide (M < 1))
   && (!(decide (M > 1000))
   && (!(decide ((n : Int) > 100))
   && ((decide (0 ≤ if IntKind.wrap IntKind.i64 (M - ((0 : Nat) : Int)) < ↑n then IntKind.wrap IntKind.i64 (M - ((0 : Nat) : Int)) else ↑n))
   && ((decide (Int.toNat (if IntKind.wrap IntKind.i64 (M - ((0 : Nat) : Int)) < ↑n then IntKind.wrap IntKind.i64 (M - ((0 : Nat) : Int)) else ↑n) ≤ cp))
   && ((decide (0 < cp))
   && ((decide (0 + (Int.toNat (if IntKind.wrap IntKind.i64 (M - ((0 : Nat) : Int)) < ↑n then IntKind.wrap IntKind.i64 (M - ((0 : Nat) : Int)) else ↑n) - 0) ≤ nLim) && true && true && true && true && true)
   && (!(decide (Int.toNat (if IntKind.wrap IntKind.i64 (M - ((0 : Nat) : Int)) < ↑n then IntKind.wrap IntKind.i64 (M - ((0 : Nat) : Int)) else ↑n) - 0 = 0))
   && ((decide (Int.toNat (if IntKind.wrap IntKind.i64 (M - ((0 : Nat) : Int)) < ↑n then IntKind.wrap IntKind.i64 (M - ((0 : Nat) : Int)) else ↑n) - 0 ≤ Int.toNat (if IntKind.wrap IntKind.i64 (M - ((0 : Nat) : Int)) < ↑n then IntKind.wrap IntKind.i64 (M - ((0 : Nat) : Int)) else ↑n) - 0) && decide (0 + 0 * 1 + (Int.toNat (if IntKind.wrap IntKind.i64 (M - ((0 : Nat) : Int)) < ↑n then IntKind.wrap IntKind.i64 (M - ((0 : Nat) : Int)) else ↑n) - 0) * 1 ≤ Array.size A))
   && ((List.all (Array.extract A (0 + 0 * 1) (0 + 0 * 1 + (Int.toNat (if IntKind.wrap IntKind.i64 (M - ((0 : Nat) : Int)) < ↑n then IntKind.wrap IntKind.i64 (M - ((0 : Nat) : Int)) else ↑n) - 0) * 1)).toList Value.oneCell')
   && (!((if IntKind.wrap IntKind.i64 (M - ((0 : Nat) : Int)) < ↑n then IntKind.wrap IntKind.i64 (M - ((0 : Nat) : Int)) else ↑n) != if M < ↑n then M else ↑n)
   && (!(IntKind.wrap IntKind.i64 (0 + IntKind.wrap IntKind.i64 (↑n - if IntKind.wrap IntKind.i64 (M - ((0 : Nat) : Int)) < ↑n then IntKind.wrap IntKind.i64 (M - ((0 : Nat) : Int)) else ↑n)) != IntKind.wrap IntKind.i64 (↑n - if IntKind.wrap IntKind.i64 (M - ((0 : Nat) : Int)) < ↑n then IntKind.wrap IntKind.i64 (M - ((0 : Nat) : Int)) else ↑n))
   && true)))))))))))
theorem pd_cond : (fun (A : Array Value) (n cp : Nat) (M : Int) => (followT pd_bits (codeT cfg1 (callT cfg1 t1 60) 60 c1 (seqOf pre6) (fr6 n cp M) (heap1 A))).1) = fun (A : Array Value) (n cp : Nat) (M : Int) => pd_c A n cp M := by kernel_rfl
def pe_bits : List Bool := [false, false, false, false, false, false, false, false, false, false, false, false, false, false, false, false, false, true, true, true, false, true, true, true, false, true, true, true, false, false, true, false, false, false, false, false, true, false, false, false, false, false, false, false, false, false, false, false, false, false, false, false, false, false, false, false, false, false, false, false, false, true, false, false, false, true, true, true, true, true]
def pe_c (A : Array Value) (cp : Nat) (M : Int) : Bool :=
  !(decide (M < 1))
   && (!(decide (M > 1000))
   && ((decide (0 ≤ if IntKind.wrap IntKind.i64 (M - ((0 : Nat) : Int)) < ((0 : Nat) : Int) then IntKind.wrap IntKind.i64 (M - ((0 : Nat) : Int)) else ((0 : Nat) : Int)))
   && ((decide (Int.toNat (if IntKind.wrap IntKind.i64 (M - ((0 : Nat) : Int)) < ((0 : Nat) : Int) then IntKind.wrap IntKind.i64 (M - ((0 : Nat) : Int)) else ((0 : Nat) : Int)) ≤ cp))
   && ((decide (0 < cp))
   && ((decide (0 + (Int.toNat (if IntKind.wrap IntKind.i64 (M - ((0 : Nat) : Int)) < ((0 : Nat) : Int) then IntKind.wrap IntKind.i64 (M - ((0 : Nat) : Int)) else ((0 : Nat) : Int)) - 0) ≤ nLim) && true && true && true && true && true)
   && ((decide (Int.toNat (if IntKind.wrap IntKind.i64 (M - ((0 : Nat) : Int)) < ((0 : Nat) : Int) then IntKind.wrap IntKind.i64 (M - ((0 : Nat) : Int)) else ((0 : Nat) : Int)) - 0 = 0))
   && (!((if IntKind.wrap IntKind.i64 (M - ((0 : Nat) : Int)) < ((0 : Nat) : Int) then IntKind.wrap IntKind.i64 (M - ((0 : Nat) : Int)) else ((0 : Nat) : Int)) != if M < ((0 : Nat) : Int) then M else ((0 : Nat) : Int))
   && (!(IntKind.wrap IntKind.i64 (0 + IntKind.wrap IntKind.i64 (((0 : Nat) : Int) - if IntKind.wrap IntKind.i64 (M - ((0 : Nat) : Int)) < ((0 : Nat) : Int) then IntKind.wrap IntKind.i64 (M - ((0 : Nat) : Int)) else ((0 : Nat) : Int))) != IntKind.wrap IntKind.i64 (((0 : Nat) : Int) - if IntKind.wrap IntKind.i64 (M - ((0 : Nat) : Int)) < ((0 : Nat) : Int) then IntKind.wrap IntKind.i64 (M - ((0 : Nat) : Int)) else ((0 : Nat) : Int)))
   && (!(decide (0 < if IntKind.wrap IntKind.i64 (M - ((0 : Nat) : Int)) < ((0 : Nat) : Int) then IntKind.wrap IntKind.i64 (M - ((0 : Nat) : Int)) else ((0 : Nat) : Int)))
   && true)))))))))
theorem pe_cond : (fun (A : Array Value) (cp : Nat) (M : Int) => (followT pe_bits (codeT cfg1 (callT cfg1 t1 60) 60 c1 b6 (fr6 0 cp M) (heap1 A))).1) = fun (A : Array Value) (cp : Nat) (M : Int) => pe_c A cp M := by kernel_rfl
def pg_bits : List Bool := [false, false, false, false, false, false, false, false, false, false, false, false, false, false, false, false, false, true, true, true, false, true, true, false, false, true, true, true, false, false, true, false, false, false, false, false, true, false, false, false, false, false, false, false, false, false, false, false, false, false, false, false, false, false, false, false, false, false, false, false, false, true, false, false, false, true, true, true, true, true]
def pg_c (A : Array Value) (cp : Nat) (M : Int) : Bool :=
  !(decide (M < 1))
   && (!(decide (M > 1000))
   && ((decide (0 ≤ if IntKind.wrap IntKind.i64 (M - ((0 : Nat) : Int)) < ((0 : Nat) : Int) then IntKind.wrap IntKind.i64 (M - ((0 : Nat) : Int)) else ((0 : Nat) : Int)))
   && ((decide (Int.toNat (if IntKind.wrap IntKind.i64 (M - ((0 : Nat) : Int)) < ((0 : Nat) : Int) then IntKind.wrap IntKind.i64 (M - ((0 : Nat) : Int)) else ((0 : Nat) : Int)) ≤ cp))
   && (!(decide (0 < cp))
   && (!((if IntKind.wrap IntKind.i64 (M - ((0 : Nat) : Int)) < ((0 : Nat) : Int) then IntKind.wrap IntKind.i64 (M - ((0 : Nat) : Int)) else ((0 : Nat) : Int)) != if M < ((0 : Nat) : Int) then M else ((0 : Nat) : Int))
   && (!(IntKind.wrap IntKind.i64 (0 + IntKind.wrap IntKind.i64 (((0 : Nat) : Int) - if IntKind.wrap IntKind.i64 (M - ((0 : Nat) : Int)) < ((0 : Nat) : Int) then IntKind.wrap IntKind.i64 (M - ((0 : Nat) : Int)) else ((0 : Nat) : Int))) != IntKind.wrap IntKind.i64 (((0 : Nat) : Int) - if IntKind.wrap IntKind.i64 (M - ((0 : Nat) : Int)) < ((0 : Nat) : Int) then IntKind.wrap IntKind.i64 (M - ((0 : Nat) : Int)) else ((0 : Nat) : Int)))
   && (!(decide (0 < if IntKind.wrap IntKind.i64 (M - ((0 : Nat) : Int)) < ((0 : Nat) : Int) then IntKind.wrap IntKind.i64 (M - ((0 : Nat) : Int)) else ((0 : Nat) : Int)))
   && true)))))))
theorem pg_cond : (fun (A : Array Value) (cp : Nat) (M : Int) => (followT pg_bits (codeT cfg1 (callT cfg1 t1 60) 60 c1 b6 (fr6 0 cp M) (heap1 A))).1) = fun (A : Array Value) (cp : Nat) (M : Int) => pg_c A cp M := by kernel_rfl
def na_bits : List Bool := [true, true, true, true, true, true, true, true, true, true, true, true, true, true, false, false, false, false, true, true, true, true, true, true, false, false, false, true, true, true]
def na_c (M : Int) : Bool :=
  (decide (M < 1))
   && ((decide (M < 1))
   && true)
theorem na_cond : (fun (M : Int) => (followT na_bits (codeT cfg1 (callT cfg1 t1 60) 60 c0 b6 (frNil M) st0)).1) = fun (M : Int) => na_c M := by kernel_rfl
def nb_bits : List Bool := [false, false, false, false, false, true, true, true, true, true, true, true, true, true, false, false, false, false, false, false, false, false, false, true, false, false, false, true, true, true]
def nb_c (M : Int) : Bool :=
  !(decide (M < 1))
   && ((decide (M > 1000))
   && (!(decide (M < 1))
   && ((decide (M > 1000))
   && true)))
theorem nb_cond : (fun (M : Int) => (followT nb_bits (codeT cfg1 (callT cfg1 t1 60) 60 c0 b6 (frNil M) st0)).1) = fun (M : Int) => nb_c M := by kernel_rfl
def nf_bits : List Bool := [false, false, false, false, false, false, false, false, false, false, true, false, false, false, false, false, true, true, true, true, true, true, true, true, true, true, true, false, false, false, false, false, true, false, false, false, false, true, false, false, false, false, false, false, false, false, false, false, false, false, false, false, false, false, false, false, false, true, false, false, false, true, true, true, true, true]
def nf_c (M : Int) : Bool :=
  !(decide (M < 1))
   && (!(decide (M > 1000))
   && ((decide ((if IntKind.wrap IntKind.i64 (M - ((0 : Nat) : Int)) < ((0 : Nat) : Int) then IntKind.wrap IntKind.i64 (M - ((0 : Nat) : Int)) else ((0 : Nat) : Int)) = 0))
   && (!((if IntKind.wrap IntKind.i64 (M - ((0 : Nat) : Int)) < ((0 : Nat) : Int) then IntKind.wrap IntKind.i64 (M - ((0 : Nat) : Int)) else ((0 : Nat) : Int)) != if M < ((0 : Nat) : Int) then M else ((0 : Nat) : Int))
   && (!(IntKind.wrap IntKind.i64 (0 + IntKind.wrap IntKind.i64 (((0 : Nat) : Int) - if IntKind.wrap IntKind.i64 (M - ((0 : Nat) : Int)) < ((0 : Nat) : Int) then IntKind.wrap IntKind.i64 (M - ((0 : Nat) : Int)) else ((0 : Nat) : Int))) != IntKind.wrap IntKind.i64 (((0 : Nat) : Int) - if IntKind.wrap IntKind.i64 (M - ((0 : Nat) : Int)) < ((0 : Nat) : Int) then IntKind.wrap IntKind.i64 (M - ((0 : Nat) : Int)) else ((0 : Nat) : Int)))
   && (!(decide (0 < if IntKind.wrap IntKind.i64 (M - ((0 : Nat) : Int)) < ((0 : Nat) : Int) then IntKind.wrap IntKind.i64 (M - ((0 : Nat) : Int)) else ((0 : Nat) : Int)))
   && true)))))
theorem nf_cond : (fun (M : Int) => (followT nf_bits (codeT cfg1 (callT cfg1 t1 60) 60 c0 b6 (frNil M) st0)).1) = fun (M : Int) => nf_c M := by kernel_rfl
def pt_bits : List Bool := [false, false, false, false, false, false, false, false, false, false, false, false, false, false, true, true, true, true, true]
def pt_c (A B : Array Value) (n cp : Nat) (laid i M lost : Int) (cap : Nat) : Bool := true
theorem pt_cond : (fun (A B : Array Value) (n cp : Nat) (laid i M lost : Int) (cap : Nat) => (followT pt_bits (codeT cfg1 (callT cfg1 t1 60) 60 c1 tail6 (frC n cp laid i) (sC A B M lost 0 cap))).1) = fun (A B : Array Value) (n cp : Nat) (laid i M lost : Int) (cap : Nat) => pt_c A B n cp laid i M lost cap := by kernel_rfl
theorem pa_leaf : (fun (A : Array Value) (n cp : Nat) (M : Int) => pathObs (gcObs 1 1 sel6) pa_bits (codeT cfg1 (callT cfg1 t1 60) 60 c1 b6 (fr6 n cp M) (heap1 A))) = fun (A : Array Value) (n cp : Nat) (M : Int) => some (Ex.ret, frR, heap1 A) := by kernel_rfl
theorem pb_leaf : (fun (A : Array Value) (n cp : Nat) (M : Int) => pathObs (gcObs 1 1 sel6) pb_bits (codeT cfg1 (callT cfg1 t1 60) 60 c1 b6 (fr6 n cp M) (heap1 A))) = fun (A : Array Value) (n cp : Nat) (M : Int) => some (Ex.ret, frR, heap1 A) := by kernel_rfl
theorem pc_leaf : (fun (A : Array Value) (n cp : Nat) (M : Int) => pathObs (gcObs 1 1 sel6) pc_bits (codeT cfg1 (callT cfg1 t1 60) 60 c1 b6 (fr6 n cp M) (heap1 A))) = fun (A : Array Value) (n cp : Nat) (M : Int) => some (Ex.ret, frR, heap1 A) := by kernel_rfl
theorem pe_leaf : (fun (A : Array Value) (cp : Nat) (M : Int) => pathObs (gcObs 1 1 sel6) pe_bits (codeT cfg1 (callT cfg1 t1 60) 60 c1 b6 (fr6 0 cp M) (heap1 A))) = fun (A : Array Value) (cp : Nat) (M : Int) => some (Ex.ret, frR, heap1 A) := by kernel_rfl
theorem pg_leaf : (fun (A : Array Value) (cp : Nat) (M : Int) => pathObs (gcObs 1 1 sel6) pg_bits (codeT cfg1 (callT cfg1 t1 60) 60 c1 b6 (fr6 0 cp M) (heap1 A))) = fun (A : Array Value) (cp : Nat) (M : Int) => some (Ex.ret, frR, heap1 A) := by kernel_rfl
theorem na_leaf : (fun (M : Int) => pathObs (gcObs 0 0 selN) na_bits (codeT cfg1 (callT cfg1 t1 60) 60 c0 b6 (frNil M) st0)) = fun (M : Int) => some (Ex.ret, frR, st0) := by kernel_rfl
theorem nb_leaf : (fun (M : Int) => pathObs (gcObs 0 0 selN) nb_bits (codeT cfg1 (callT cfg1 t1 60) 60 c0 b6 (frNil M) st0)) = fun (M : Int) => some (Ex.ret, frR, st0) := by kernel_rfl
theorem nf_leaf : (fun (M : Int) => pathObs (gcObs 0 0 selN) nf_bits (codeT cfg1 (callT cfg1 t1 60) 60 c0 b6 (frNil M) st0)) = fun (M : Int) => some (Ex.ret, frR, st0) := by kernel_rfl
theorem pt_leaf : (fun (A B : Array Value) (n cp : Nat) (laid i M lost : Int) (cap : Nat) => pathObs (gcObs 1 1 sel6) pt_bits (codeT cfg1 (callT cfg1 t1 60) 60 c1 tail6 (frC n cp laid i) (sC A B M lost 0 cap))) = fun (A B : Array Value) (n cp : Nat) (laid i M lost : Int) (cap : Nat) => some (Ex.ret, frR, heap1 A) := by kernel_rfl
def lE (n : Nat) (M : Int) : Int := if IntKind.wrap IntKind.i64 (M - ((0 : Nat) : Int)) < (n : Int) then IntKind.wrap IntKind.i64 (M - ((0 : Nat) : Int)) else (n : Int)
theorem pd_leaf : (fun (A : Array Value) (n cp : Nat) (M : Int) => pathObs (gcObs 1 1 sel6) pd_bits (codeT cfg1 (callT cfg1 t1 60) 60 c1 (seqOf pre6) (fr6 n cp M) (heap1 A))) = fun (A : Array Value) (n cp : Nat) (M : Int) => some (Ex.normal, frD n cp (lE n M), sC A (A.extract (0 + 0 * 1) (0 + 0 * 1 + (Int.toNat (lE n M) - 0) * 1)) M (IntKind.wrap .i64 (0 + IntKind.wrap .i64 ((n : Int) - lE n M))) (Int.toNat (lE n M) - 0) (Int.toNat (lE n M) - 0)) := by kernel_rfl
theorem p7 : (fun (A B : Array Value) (n cp : Nat) (laid M lost : Int) (len cap : Nat) => (codeT cfg1 (callT cfg1 t1 60) 60 c1 (cL (cL rest6)) (frD n cp laid) (sC A B M lost len cap)).evalW (gcObs 1 1 sel7)) = fun A B n cp laid M lost len cap => some (.normal, frC n cp laid 0, sC A B M lost len cap) := by kernel_rfl
end
end Go.Proofs.Ytgcffmkifjnmlaa
