/- NetOrder: a round of the loop. -/
import Derived.Test.YtgcffmkifjnmlaaO
namespace Go.Proofs.Ytgcffmkifjnmlaa
open Go.Am
noncomputable section
def r1_bits : List Bool := [true, false, false, false, false, false, false, false, false, false, false, false, false, false, false, false, false, false, true, false, false, true, true, false, false, true, false, true, true, true, false, true, false, false, false, true, true, true, true, false, false, false, false, true, true, true, false, true, true, true, false, true, false, true, true, true, true, true, false, false, true, true, true, true, false, false, true, true, false, false, false, false, false, false, false, false, true, false, false, true, false, false, false, false]
def r1_c (A B : Array Value) (n cp : Nat) (laid i M lost : Int) (len cap : Nat) : Bool :=
  (decide (i < laid))
   && (!((len : Int) == 0)
   && (!(decide ((len : Int) = 0))
   && ((decide (Int.tmod 0 ↑len < ↑len))
   && ((isStr B[(0 + Int.toNat (Int.tmod 0 ↑len) * 1)]?)
   && ((decide (0 + len ≤ nLim) && true && true && true && true && true)
   && (!(decide (len = 0))
   && ((decide (len ≤ len) && decide (0 + len * 1 ≤ Array.size B))
   && ((List.all (Array.extract B 0 (0 + len * 1)).toList Value.oneCell')
   && (!(decide (0 + len ≤ 0))
   && ((decide (Int.toNat (IntKind.wrap IntKind.i64 (Int.tmod 0 ↑len + 1)) ≤ Int.toNat ↑(0 + len)) && decide (Int.toNat ↑(0 + len) ≤ 0 + len) && true)
   && (!(decide (Int.toNat ↑(0 + len) = 0))
   && ((decide (0 < 0 + len))
   && ((decide (Int.toNat (IntKind.wrap IntKind.i64 (Int.tmod 0 ↑len + 1)) ≤ 0 + len) && decide (0 + len ≤ 0 + len))
   && ((decide (Int.toNat (IntKind.wrap IntKind.i64 (Int.tmod 0 ↑len + 1)) < 0 + len))
   && ((decide (Int.toNat (Int.tmod 0 ↑len) - 0 + (0 + len - Int.toNat (IntKind.wrap IntKind.i64 (Int.tmod 0 ↑len + 1))) ≤ nLim) && true && true && true && true && true)
   && (!(decide (0 + len - Int.toNat (IntKind.wrap IntKind.i64 (Int.tmod 0 ↑len + 1)) = 0))
   && ((decide (0 + len - Int.toNat (IntKind.wrap IntKind.i64 (Int.tmod 0 ↑len + 1)) ≤ 0 + len - Int.toNat (IntKind.wrap IntKind.i64 (Int.tmod 0 ↑len + 1))) && decide (0 + Int.toNat (IntKind.wrap IntKind.i64 (Int.tmod 0 ↑len + 1)) * 1 + (0 + len - Int.toNat (IntKind.wrap IntKind.i64 (Int.tmod 0 ↑len + 1))) * 1 ≤ Array.size ((#[] : Array Value) ++ Array.extract B 0 (0 + len * 1))))
   && ((List.all (Array.extract ((#[] : Array Value) ++ Array.extract B 0 (0 + len * 1)) (0 + Int.toNat (IntKind.wrap IntKind.i64 (Int.tmod 0 ↑len + 1)) * 1) (0 + Int.toNat (IntKind.wrap IntKind.i64 (Int.tmod 0 ↑len + 1)) * 1 + (0 + len - Int.toNat (IntKind.wrap IntKind.i64 (Int.tmod 0 ↑len + 1))) * 1)).toList Value.oneCell')
   && ((decide (Int.toNat (Int.tmod 0 ↑len) - 0 + (0 + len - Int.toNat (IntKind.wrap IntKind.i64 (Int.tmod 0 ↑len + 1))) ≤ 0 + len - 0))
   && ((decide (0 + 0 * 1 + (Int.toNat (Int.tmod 0 ↑len) - 0) * 1 + List.length (Array.extract ((#[] : Array Value) ++ Array.extract B 0 (0 + len * 1)) (0 + Int.toNat (IntKind.wrap IntKind.i64 (Int.tmod 0 ↑len + 1)) * 1) (0 + Int.toNat (IntKind.wrap IntKind.i64 (Int.tmod 0 ↑len + 1)) * 1 + (0 + len - Int.toNat (IntKind.wrap IntKind.i64 (Int.tmod 0 ↑len + 1))) * 1)).toList ≤ Array.size ((#[] : Array Value) ++ Array.extract B 0 (0 + len * 1))) && List.all (Array.extract ((#[] : Array Value) ++ Array.extract B 0 (0 + len * 1)) (0 + Int.toNat (IntKind.wrap IntKind.i64 (Int.tmod 0 ↑len + 1)) * 1) (0 + Int.toNat (IntKind.wrap IntKind.i64 (Int.tmod 0 ↑len + 1)) * 1 + (0 + len - Int.toNat (IntKind.wrap IntKind.i64 (Int.tmod 0 ↑len + 1))) * 1)).toList Value.oneCell')
   && ((decide (Int.toNat ↑(Int.toNat (Int.tmod 0 ↑len) - 0 + (0 + len - Int.toNat (IntKind.wrap IntKind.i64 (Int.tmod 0 ↑len + 1)))) ≤ Int.toNat ↑(0 + len)) && decide (Int.toNat ↑(0 + len) ≤ 0 + len - 0))
   && ((decide (Int.toNat ↑(Int.toNat (Int.tmod 0 ↑len) - 0 + (0 + len - Int.toNat (IntKind.wrap IntKind.i64 (Int.tmod 0 ↑len + 1)))) < 0 + len - 0))
   && (!(decide (Int.toNat ↑(0 + len) - Int.toNat ↑(Int.toNat (Int.tmod 0 ↑len) - 0 + (0 + len - Int.toNat (IntKind.wrap IntKind.i64 (Int.tmod 0 ↑len + 1)))) = 0))
   && ((decide (0 + 0 * 1 + Int.toNat ↑(Int.toNat (Int.tmod 0 ↑len) - 0 + (0 + len - Int.toNat (IntKind.wrap IntKind.i64 (Int.tmod 0 ↑len + 1)))) * 1 + List.length (Builtin.zeroCells (#[Value.string ⟨#[]⟩]) (Int.toNat ↑(0 + len) - Int.toNat ↑(Int.toNat (Int.tmod 0 ↑len) - 0 + (0 + len - Int.toNat (IntKind.wrap IntKind.i64 (Int.tmod 0 ↑len + 1)))))).toList ≤ Array.size (blit ((#[] : Array Value) ++ Array.extract B 0 (0 + len * 1)) (0 + 0 * 1 + (Int.toNat (Int.tmod 0 ↑len) - 0) * 1) (Array.extract ((#[] : Array Value) ++ Array.extract B 0 (0 + len * 1)) (0 + Int.toNat (IntKind.wrap IntKind.i64 (Int.tmod 0 ↑len + 1)) * 1) (0 + Int.toNat (IntKind.wrap IntKind.i64 (Int.tmod 0 ↑len + 1)) * 1 + (0 + len - Int.toNat (IntKind.wrap IntKind.i64 (Int.tmod 0 ↑len + 1))) * 1)).toList)) && List.all (Builtin.zeroCells (#[Value.string ⟨#[]⟩]) (Int.toNat ↑(0 + len) - Int.toNat ↑(Int.toNat (Int.tmod 0 ↑len) - 0 + (0 + len - Int.toNat (IntKind.wrap IntKind.i64 (Int.tmod 0 ↑len + 1)))))).toList Value.oneCell')
   && ((decide (0 ≤ i) && decide (i < ↑n))
   && ((isStr A[(0 + Int.toNat i * 1)]?)
   && (!(!ByteArray.toList (toStr B[(0 + Int.toNat (Int.tmod 0 ↑len) * 1)]?) == ByteArray.toList (toStr A[(0 + Int.toNat i * 1)]?))
   && true)))))))))))))))))))))))))))
theorem r1_cond : (fun (A B : Array Value) (n cp : Nat) (laid i M lost : Int) (len cap : Nat) => (followT r1_bits (codeT cfg1 (callT cfg1 t1 60) 60 c1 loop6 (frC n cp laid i) (sC A B M lost len cap))).1) = fun (A B : Array Value) (n cp : Nat) (laid i M lost : Int) (len cap : Nat) => r1_c A B n cp laid i M lost len cap := by kernel_rfl
/- leaf: some (Ex.normal, { fn := 6, nt := 79, tm := Tr.node (Tr.node (Tr.node (Tr.node Tr.nil (some (Value.int IntKind.i64 (IntKind.wrap IntKind.i64 (i + 1)))) Tr.nil) none Tr.nil) none (Tr.node Tr.nil (some (Value.pointer (some { block := 1, off := 0 }))) Tr.nil)) (some (Value.slice (some { block := 0, off := 0 }) n cp)) (Tr.node Tr.nil none (Tr.node Tr.nil (some (Value.int IntKind.i64 laid)) Tr.nil)), pt := Tr.nil, loc := Tr.nil, round := none }, { heap := Tr.node (Tr.node Tr.nil (some (AObj.cells { toList := [Value.int IntKind.i64 M, Value.int IntKind.i64 lost, Value.slice (some { block := 2, off := 0 }) (Int.toNat (Int.tmod 0 ↑len) - 0 + (0 + len - Int.toNat (IntKind.wrap IntKind.i64 (Int.tmod 0 ↑len + 1)))) (0 + len - 0)] } 1 false)) Tr.nil) (some (AObj.cells A 1 false)) (Tr.node Tr.nil (some (AObj.cells (blit (blit ((#[] : Array Value) ++ Array.extract B 0 (0 + len * 1)) (0 + 0 * 1 + (Int.toNat (Int.tmod 0 ↑len) - 0) * 1) (Array.extract ((#[] : Array Value) ++ Array.extract B 0 (0 + len * 1)) (0 + Int.toNat (IntKind.wrap IntKind.i64 (Int.tmod 0 ↑len + 1)) * 1) (0 + Int.toNat (IntKind.wrap IntKind.i64 (Int.tmod 0 ↑len + 1)) * 1 + (0 + len - Int.toNat (IntKind.wrap IntKind.i64 (Int.tmod 0 ↑len + 1))) * 1)).toList) (0 + 0 * 1 + Int.toNat ↑(Int.toNat (Int.tmod 0 ↑len) - 0 + (0 + len - Int.toNat (IntKind.wrap IntKind.i64 (Int.tmod 0 ↑len + 1)))) * 1) (Builtin.zeroCells (#[Value.string ⟨#[]⟩]) (Int.toNat ↑(0 + len) - Int.toNat ↑(Int.toNat (Int.tmod 0 ↑len) - 0 + (0 + len - Int.toNat (IntKind.wrap IntKind.i64 (Int.tmod 0 ↑len + 1)))))).toList) 1 true)) Tr.nil), next := 3 }) -/
def r2_bits : List Bool := [true, false, false, false, false, false, false, false, false, false, false, false, false, false, false, false, false, false, true, false, false, true, true, false, false, true, false, true, true, true, false, true, false, false, false, true, true, true, true, false, false, false, false, true, true, true, false, true, true, false, false, true, true, false, false, true, true, true, true, false, false, true, true, false, false, false, false, false, false, false, false, true, false, false, true, false, false, false, false]
def r2_c (A B : Array Value) (n cp : Nat) (laid i M lost : Int) (len cap : Nat) : Bool :=
  (decide (i < laid))
   && (!((len : Int) == 0)
   && (!(decide ((len : Int) = 0))
   && ((decide (Int.tmod 0 ↑len < ↑len))
   && ((isStr B[(0 + Int.toNat (Int.tmod 0 ↑len) * 1)]?)
   && ((decide (0 + len ≤ nLim) && true && true && true && true && true)
   && (!(decide (len = 0))
   && ((decide (len ≤ len) && decide (0 + len * 1 ≤ Array.size B))
   && ((List.all (Array.extract B 0 (0 + len * 1)).toList Value.oneCell')
   && (!(decide (0 + len ≤ 0))
   && ((decide (Int.toNat (IntKind.wrap IntKind.i64 (Int.tmod 0 ↑len + 1)) ≤ Int.toNat ↑(0 + len)) && decide (Int.toNat ↑(0 + len) ≤ 0 + len) && true)
   && (!(decide (Int.toNat ↑(0 + len) = 0))
   && ((decide (0 < 0 + len))
   && ((decide (Int.toNat (IntKind.wrap IntKind.i64 (Int.tmod 0 ↑len + 1)) ≤ 0 + len) && decide (0 + len ≤ 0 + len))
   && (!(decide (Int.toNat (IntKind.wrap IntKind.i64 (Int.tmod 0 ↑len + 1)) < 0 + len))
   && ((decide (Int.toNat ↑(0 + len) ≤ 0 + len - 0))
   && ((decide (Int.toNat ↑(Int.toNat (Int.tmod 0 ↑len) - 0) < 0 + len - 0))
   && (!(decide (Int.toNat ↑(0 + len) - Int.toNat ↑(Int.toNat (Int.tmod 0 ↑len) - 0) = 0))
   && ((decide (0 + 0 * 1 + Int.toNat ↑(Int.toNat (Int.tmod 0 ↑len) - 0) * 1 + List.length (Builtin.zeroCells (#[Value.string ⟨#[]⟩]) (Int.toNat ↑(0 + len) - Int.toNat ↑(Int.toNat (Int.tmod 0 ↑len) - 0))).toList ≤ Array.size ((#[] : Array Value) ++ Array.extract B 0 (0 + len * 1))) && List.all (Builtin.zeroCells (#[Value.string ⟨#[]⟩]) (Int.toNat ↑(0 + len) - Int.toNat ↑(Int.toNat (Int.tmod 0 ↑len) - 0))).toList Value.oneCell')
   && ((decide (0 ≤ i) && decide (i < ↑n))
   && ((isStr A[(0 + Int.toNat i * 1)]?)
   && (!(!ByteArray.toList (toStr B[(0 + Int.toNat (Int.tmod 0 ↑len) * 1)]?) == ByteArray.toList (toStr A[(0 + Int.toNat i * 1)]?))
   && true)))))))))))))))))))))
theorem r2_cond : (fun (A B : Array Value) (n cp : Nat) (laid i M lost : Int) (len cap : Nat) => (followT r2_bits (codeT cfg1 (callT cfg1 t1 60) 60 c1 loop6 (frC n cp laid i) (sC A B M lost len cap))).1) = fun (A B : Array Value) (n cp : Nat) (laid i M lost : Int) (len cap : Nat) => r2_c A B n cp laid i M lost len cap := by kernel_rfl
/- leaf: some (Ex.normal, { fn := 6, nt := 79, tm := Tr.node (Tr.node (Tr.node (Tr.node Tr.nil (some (Value.int IntKind.i64 (IntKind.wrap IntKind.i64 (i + 1)))) Tr.nil) none Tr.nil) none (Tr.node Tr.nil (some (Value.pointer (some { block := 1, off := 0 }))) Tr.nil)) (some (Value.slice (some { block := 0, off := 0 }) n cp)) (Tr.node Tr.nil none (Tr.node Tr.nil (some (Value.int IntKind.i64 laid)) Tr.nil)), pt := Tr.nil, loc := Tr.nil, round := none }, { heap := Tr.node (Tr.node Tr.nil (some (AObj.cells { toList := [Value.int IntKind.i64 M, Value.int IntKind.i64 lost, Value.slice (some { block := 2, off := 0 }) 0 (0 + len - 0)] } 1 false)) Tr.nil) (some (AObj.cells A 1 false)) (Tr.node Tr.nil (some (AObj.cells (blit ((#[] : Array Value) ++ Array.extract B 0 (0 + len * 1)) (0 + 0 * 1 + Int.toNat ↑(Int.toNat (Int.tmod 0 ↑len) - 0) * 1) (Builtin.zeroCells (#[Value.string ⟨#[]⟩]) (Int.toNat ↑(0 + len) - Int.toNat ↑(Int.toNat (Int.tmod 0 ↑len) - 0))).toList) 1 true)) Tr.nil), next := 3 }) -/
def r0_bits : List Bool := [false]
def r0_c (A B : Array Value) (n cp : Nat) (laid i M lost : Int) (len cap : Nat) : Bool :=
  !(decide (i < laid))
   && true
theorem r0_cond : (fun (A B : Array Value) (n cp : Nat) (laid i M lost : Int) (len cap : Nat) => (followT r0_bits (codeT cfg1 (callT cfg1 t1 60) 60 c1 loop6 (frC n cp laid i) (sC A B M lost len cap))).1) = fun (A B : Array Value) (n cp : Nat) (laid i M lost : Int) (len cap : Nat) => r0_c A B n cp laid i M lost len cap := by kernel_rfl
/- leaf: some (Ex.exit 0, { fn := 6, nt := 79, tm := Tr.node (Tr.node (Tr.node (Tr.node Tr.nil (some (Value.int IntKind.i64 i)) Tr.nil) none Tr.nil) none (Tr.node Tr.nil (some (Value.pointer (some { block := 1, off := 0 }))) Tr.nil)) (some (Value.slice (some { block := 0, off := 0 }) n cp)) (Tr.node Tr.nil none (Tr.node Tr.nil (some (Value.int IntKind.i64 laid)) Tr.nil)), pt := Tr.nil, loc := Tr.nil, round := none }, { heap := Tr.node (Tr.node Tr.nil (some (AObj.cells { toList := [Value.int IntKind.i64 M, Value.int IntKind.i64 lost, Value.slice (some { block := 2, off := 0 }) len cap] } 1 false)) Tr.nil) (some (AObj.cells A 1 false)) (Tr.node Tr.nil (some (AObj.cells B 1 true)) Tr.nil), next := 3 }) -/


def z0 (len : Nat) : Int := Int.tmod 0 (len : Int)
def j0 (len : Nat) : Nat := (IntKind.wrap .i64 (z0 len + 1)).toNat
def C0 (B : Array Value) (len : Nat) : Array Value := (#[] : Array Value) ++ B.extract 0 (0 + len * 1)
def X0 (B : Array Value) (len : Nat) : Array Value := (C0 B len).extract (0 + j0 len * 1) (0 + j0 len * 1 + (0 + len - j0 len) * 1)
def m0 (len : Nat) : Nat := (z0 len).toNat - 0 + (0 + len - j0 len)
def row1 (B : Array Value) (len : Nat) : Array Value :=
  blit (blit (C0 B len) (0 + 0 * 1 + ((z0 len).toNat - 0) * 1) (X0 B len).toList) (0 + 0 * 1 + Int.toNat (m0 len : Int) * 1) (Builtin.zeroCells #[Value.string ⟨#[]⟩] (Int.toNat ((0 + len : Nat) : Int) - Int.toNat (m0 len : Int))).toList
def row2 (B : Array Value) (len : Nat) : Array Value :=
  blit (C0 B len) (0 + 0 * 1 + Int.toNat (((z0 len).toNat - 0 : Nat) : Int) * 1) (Builtin.zeroCells #[Value.string ⟨#[]⟩] (Int.toNat ((0 + len : Nat) : Int) - Int.toNat (((z0 len).toNat - 0 : Nat) : Int))).toList
theorem r1_leaf : (fun (A B : Array Value) (n cp : Nat) (laid i M lost : Int) (len cap : Nat) => pathObs (gcObs 1 1 selL) r1_bits (codeT cfg1 (callT cfg1 t1 60) 60 c1 loop6 (frC n cp laid i) (sC A B M lost len cap))) =
    fun A B n cp laid i M lost len cap => some (Ex.normal, frC n cp laid (IntKind.wrap .i64 (i + 1)), sC A (row1 B len) M lost (m0 len) (0 + len - 0)) := by kernel_rfl
theorem r2_leaf : (fun (A B : Array Value) (n cp : Nat) (laid i M lost : Int) (len cap : Nat) => pathObs (gcObs 1 1 selL) r2_bits (codeT cfg1 (callT cfg1 t1 60) 60 c1 loop6 (frC n cp laid i) (sC A B M lost len cap))) =
    fun A B n cp laid i M lost len cap => some (Ex.normal, frC n cp laid (IntKind.wrap .i64 (i + 1)), sC A (row2 B len) M lost ((z0 len).toNat - 0) (0 + len - 0)) := by kernel_rfl
theorem r0_leaf : (fun (A B : Array Value) (n cp : Nat) (laid i M lost : Int) (len cap : Nat) => pathObs (gcObs 1 1 selL) r0_bits (codeT cfg1 (callT cfg1 t1 60) 60 c1 loop6 (frC n cp laid i) (sC A B M lost len cap))) =
    fun A B n cp laid i M lost len cap => some (Ex.exit 0, frC n cp laid i, sC A B M lost len cap) := by kernel_rfl
end
end Go.Proofs.Ytgcffmkifjnmlaa
