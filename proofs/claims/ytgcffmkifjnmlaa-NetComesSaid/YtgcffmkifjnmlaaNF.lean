/- What is taken, and doubled. -/
import Derived.Test.YtgcffmkifjnmlaaNE
namespace Go.Proofs.Ytgcffmkifjnmlaa
open Go.Am
noncomputable section
/-- the place, as it comes out where the rest is below 0, and where not -/
def qn (i : Int) (m : Nat) : Int := IntKind.wrap .i64 (Int.tmod i (m : Int) + (m : Int))
def qp (i : Int) (m : Nat) : Int := Int.tmod i (m : Int)
def qr (i : Int) (m : Nat) : Int := Int.tmod (IntKind.wrap .i64 (Int.tmod i (m : Int) + (m : Int))) (m : Int)
/-- a row's copy; a row of one text; empty texts -/
def cpy (M : Array Value) : Array Value := Array.extract (Array.map (fun x => (Value.cells (Value.string { data := #[] }))[x % 1]!) (Array.range (0 * 1))) 0 (0 + 0 * 1) ++ Array.extract M 0 (0 + Array.size M * 1)
def sing (b : ByteArray) : Array Value := #[.string b]
def zeroS (k : Nat) : Array Value := Builtin.zeroCells (Value.cells (Value.string { data := #[] })) k
def ta_bits : List Bool := [false, false, false, false, false, false, false, false, false, false, true, false, false, false, true, true]
def ta_c (a b i : Int) : Bool :=
  true
theorem ta_cond_k : (fun (a b i : Int) => (followT ta_bits (codeT cfg (callT cfg noT 60) 60 cz (bodyOf 17) (frame0 17 (ntOf 17) #[p0, .int .i64 i]) (sN false a b))).1) = fun (a b i : Int) => ta_c a b i := by kernel_rfl
theorem ta_cond (a b i : Int) : (followT ta_bits (codeT cfg (callT cfg noT 60) 60 cz (bodyOf 17) (frame0 17 (ntOf 17) #[p0, .int .i64 i]) (sN false a b))).1 = ta_c a b i := congrFun (congrFun (congrFun ta_cond_k a) b) i
theorem ta_leaf_k : (fun (a b i : Int) => pathObs (leaves [4, 5]) ta_bits (codeT cfg (callT cfg noT 60) 60 cz (bodyOf 17) (frame0 17 (ntOf 17) #[p0, .int .i64 i]) (sN false a b))) = fun (a b i : Int) => some (.ret, [some (.string ⟨#[]⟩), some (.bool false)], some (boxO false a b (.slice none 0 0)), none, none, none) := by kernel_rfl
theorem ta_leaf (a b i : Int) : pathObs (leaves [4, 5]) ta_bits (codeT cfg (callT cfg noT 60) 60 cz (bodyOf 17) (frame0 17 (ntOf 17) #[p0, .int .i64 i]) (sN false a b)) = some (.ret, [some (.string ⟨#[]⟩), some (.bool false)], some (boxO false a b (.slice none 0 0)), none, none, none) := congrFun (congrFun (congrFun ta_leaf_k a) b) i
def tb_bits : List Bool := [false, false, false, false, false, false, false, false, false, false, false, false, false, false, true, true]
def tb_c (a b i : Int) (M : Array Value) : Bool :=
  ((M.size : Int) == 0)
   && true
theorem tb_cond_k : (fun (a b i : Int) (M : Array Value) => (followT tb_bits (codeT cfg (callT cfg noT 60) 60 cz (bodyOf 17) (frame0 17 (ntOf 17) #[p0, .int .i64 i]) (sR false a b M))).1) = fun (a b i : Int) (M : Array Value) => tb_c a b i M := by kernel_rfl
theorem tb_cond (a b i : Int) (M : Array Value) : (followT tb_bits (codeT cfg (callT cfg noT 60) 60 cz (bodyOf 17) (frame0 17 (ntOf 17) #[p0, .int .i64 i]) (sR false a b M))).1 = tb_c a b i M := congrFun (congrFun (congrFun (congrFun tb_cond_k a) b) i) M
theorem tb_leaf_k : (fun (a b i : Int) (M : Array Value) => pathObs (leaves [4, 5]) tb_bits (codeT cfg (callT cfg noT 60) 60 cz (bodyOf 17) (frame0 17 (ntOf 17) #[p0, .int .i64 i]) (sR false a b M))) = fun (a b i : Int) (M : Array Value) => some (.ret, [some (.string ⟨#[]⟩), some (.bool false)], some (boxO false a b (.slice (some ⟨1, 0, none⟩) M.size M.size)), some (.cells M 1 true), none, none) := by kernel_rfl
theorem tb_leaf (a b i : Int) (M : Array Value) : pathObs (leaves [4, 5]) tb_bits (codeT cfg (callT cfg noT 60) 60 cz (bodyOf 17) (frame0 17 (ntOf 17) #[p0, .int .i64 i]) (sR false a b M)) = some (.ret, [some (.string ⟨#[]⟩), some (.bool false)], some (boxO false a b (.slice (some ⟨1, 0, none⟩) M.size M.size)), some (.cells M 1 true), none, none) := congrFun (congrFun (congrFun (congrFun tb_leaf_k a) b) i) M
def t1_bits : List Bool := [false, false, false, false, false, false, false, false, false, false, false, false, false, false, false, false, false, true, true, false, false, true, true, false, false, true, false, true, true, true, false, true, false, false, false, true, true, true, true, false, false, false, false, true, true, true, false, true, true, true, false, true, false, true, true, true, true, true, false, false, true, true, true, true, false, false, true, true]
def t1_c (a b i : Int) (M : Array Value) : Bool :=
  !((M.size : Int) == 0)
   && (!(decide ((M.size : Int) = 0))
   && ((decide (qp i M.size < 0))
   && (!(decide (qn i M.size < 0))
   && ((decide (0 ≤ qn i M.size) && decide (qn i M.size < (M.size : Int)))
   && ((isStr M[(0 + Int.toNat (qn i M.size) * 1)]?)
   && ((decide (0 + Array.size M ≤ nLim) && true && true && true && true && true)
   && (!(decide (Array.size M = 0))
   && ((decide (Array.size M ≤ Array.size M) && decide (0 + Array.size M * 1 ≤ Array.size M))
   && ((List.all (Array.extract M 0 (0 + Array.size M * 1)).toList Value.oneCell')
   && (!(decide (0 + Array.size M ≤ 0))
   && ((decide (0 ≤ qn i M.size))
   && ((decide (0 ≤ IntKind.wrap .i64 (qn i M.size + 1)))
   && ((decide (Int.toNat (qn i M.size) ≤ Int.toNat (IntKind.wrap .i64 (qn i M.size + 1))) && decide (Int.toNat (IntKind.wrap .i64 (qn i M.size + 1)) ≤ Int.toNat ((0 + Array.size M : Nat) : Int)) && decide (Int.toNat ((0 + Array.size M : Nat) : Int) ≤ 0 + Array.size M) && true)
   && (!(decide (Int.toNat ((0 + Array.size M : Nat) : Int) = 0))
   && (!(qn i M.size == IntKind.wrap .i64 (qn i M.size + 1))
   && ((decide (0 ≤ qn i M.size))
   && ((decide (Int.toNat (qn i M.size) ≤ 0 + Array.size M))
   && ((decide (0 < 0 + Array.size M))
   && ((decide (0 ≤ IntKind.wrap .i64 (qn i M.size + 1)))
   && ((decide (Int.toNat (IntKind.wrap .i64 (qn i M.size + 1)) ≤ 0 + Array.size M) && decide (0 + Array.size M ≤ 0 + Array.size M))
   && ((decide (Int.toNat (IntKind.wrap .i64 (qn i M.size + 1)) < 0 + Array.size M))
   && ((decide (Int.toNat (qn i M.size) - 0 ≤ 0 + Array.size M - 0) && decide (Int.toNat (qn i M.size) - 0 + (0 + Array.size M - Int.toNat (IntKind.wrap .i64 (qn i M.size + 1))) ≤ nLim) && true && true && true && true && true)
   && (!(decide (0 + Array.size M - Int.toNat (IntKind.wrap .i64 (qn i M.size + 1)) = 0))
   && ((decide (0 + Array.size M - Int.toNat (IntKind.wrap .i64 (qn i M.size + 1)) ≤ 0 + Array.size M - Int.toNat (IntKind.wrap .i64 (qn i M.size + 1))) && decide (0 + Int.toNat (IntKind.wrap .i64 (qn i M.size + 1)) * 1 + (0 + Array.size M - Int.toNat (IntKind.wrap .i64 (qn i M.size + 1))) * 1 ≤ Array.size (cpy M)))
   && ((List.all (Array.extract (cpy M) (0 + Int.toNat (IntKind.wrap .i64 (qn i M.size + 1)) * 1) (0 + Int.toNat (IntKind.wrap .i64 (qn i M.size + 1)) * 1 + (0 + Array.size M - Int.toNat (IntKind.wrap .i64 (qn i M.size + 1))) * 1)).toList Value.oneCell')
   && ((decide (Int.toNat (qn i M.size) - 0 + (0 + Array.size M - Int.toNat (IntKind.wrap .i64 (qn i M.size + 1))) ≤ 0 + Array.size M - 0))
   && ((decide (0 + 0 * 1 + (Int.toNat (qn i M.size) - 0) * 1 + List.length (Array.extract (cpy M) (0 + Int.toNat (IntKind.wrap .i64 (qn i M.size + 1)) * 1) (0 + Int.toNat (IntKind.wrap .i64 (qn i M.size + 1)) * 1 + (0 + Array.size M - Int.toNat (IntKind.wrap .i64 (qn i M.size + 1))) * 1)).toList ≤ Array.size (cpy M)) && List.all (Array.extract (cpy M) (0 + Int.toNat (IntKind.wrap .i64 (qn i M.size + 1)) * 1) (0 + Int.toNat (IntKind.wrap .i64 (qn i M.size + 1)) * 1 + (0 + Array.size M - Int.toNat (IntKind.wrap .i64 (qn i M.size + 1))) * 1)).toList Value.oneCell')
   && ((decide (Int.toNat ((Int.toNat (qn i M.size) - 0 + (0 + Array.size M - Int.toNat (IntKind.wrap .i64 (qn i M.size + 1))) : Nat) : Int) ≤ Int.toNat ((0 + Array.size M : Nat) : Int)) && decide (Int.toNat ((0 + Array.size M : Nat) : Int) ≤ 0 + Array.size M - 0))
   && ((decide (Int.toNat ((Int.toNat (qn i M.size) - 0 + (0 + Array.size M - Int.toNat (IntKind.wrap .i64 (qn i M.size + 1))) : Nat) : Int) < 0 + Array.size M - 0))
   && (!(decide (Int.toNat ((0 + Array.size M : Nat) : Int) - Int.toNat ((Int.toNat (qn i M.size) - 0 + (0 + Array.size M - Int.toNat (IntKind.wrap .i64 (qn i M.size + 1))) : Nat) : Int) = 0))
   && ((decide (0 + 0 * 1 + Int.toNat ((Int.toNat (qn i M.size) - 0 + (0 + Array.size M - Int.toNat (IntKind.wrap .i64 (qn i M.size + 1))) : Nat) : Int) * 1 + List.length (zeroS (Int.toNat ((0 + Array.size M : Nat) : Int) - Int.toNat ((Int.toNat (qn i M.size) - 0 + (0 + Array.size M - Int.toNat (IntKind.wrap .i64 (qn i M.size + 1))) : Nat) : Int))).toList ≤ Array.size (blit (cpy M) (0 + 0 * 1 + (Int.toNat (qn i M.size) - 0) * 1) (Array.extract (cpy M) (0 + Int.toNat (IntKind.wrap .i64 (qn i M.size + 1)) * 1) (0 + Int.toNat (IntKind.wrap .i64 (qn i M.size + 1)) * 1 + (0 + Array.size M - Int.toNat (IntKind.wrap .i64 (qn i M.size + 1))) * 1)).toList)) && List.all (zeroS (Int.toNat ((0 + Array.size M : Nat) : Int) - Int.toNat ((Int.toNat (qn i M.size) - 0 + (0 + Array.size M - Int.toNat (IntKind.wrap .i64 (qn i M.size + 1))) : Nat) : Int))).toList Value.oneCell')
   && true)))))))))))))))))))))))))))))))
theorem t1_cond_k : (fun (a b i : Int) (M : Array Value) => (followT t1_bits (codeT cfg (callT cfg noT 60) 60 cz (bodyOf 17) (frame0 17 (ntOf 17) #[p0, .int .i64 i]) (sR false a b M))).1) = fun (a b i : Int) (M : Array Value) => t1_c a b i M := by kernel_rfl
theorem t1_cond (a b i : Int) (M : Array Value) : (followT t1_bits (codeT cfg (callT cfg noT 60) 60 cz (bodyOf 17) (frame0 17 (ntOf 17) #[p0, .int .i64 i]) (sR false a b M))).1 = t1_c a b i M := congrFun (congrFun (congrFun (congrFun t1_cond_k a) b) i) M
theorem t1_leaf_k : (fun (a b i : Int) (M : Array Value) => pathObs (leaves [4, 5]) t1_bits (codeT cfg (callT cfg noT 60) 60 cz (bodyOf 17) (frame0 17 (ntOf 17) #[p0, .int .i64 i]) (sR false a b M))) = fun (a b i : Int) (M : Array Value) => some (.ret, [some (.string (toStr M[0 + (qn i M.size).toNat * 1]?)), some (.bool true)], some (boxO false a b (.slice (some ⟨3, 0, none⟩) ((qn i M.size).toNat - 0 + (0 + M.size - (IntKind.wrap .i64 (qn i M.size + 1)).toNat)) (0 + M.size - 0))), some (.cells M 1 true), some (.cells #[] 1 false), some (.cells (blit (blit (cpy M) (0 + 0 * 1 + ((qn i M.size).toNat - 0) * 1) ((cpy M).extract (0 + (IntKind.wrap .i64 (qn i M.size + 1)).toNat * 1) (0 + (IntKind.wrap .i64 (qn i M.size + 1)).toNat * 1 + (0 + M.size - (IntKind.wrap .i64 (qn i M.size + 1)).toNat) * 1)).toList) (0 + 0 * 1 + ((((qn i M.size).toNat - 0 + (0 + M.size - (IntKind.wrap .i64 (qn i M.size + 1)).toNat) : Nat) : Int)).toNat * 1) (zeroS ((((0 + M.size : Nat) : Int)).toNat - ((((qn i M.size).toNat - 0 + (0 + M.size - (IntKind.wrap .i64 (qn i M.size + 1)).toNat) : Nat) : Int)).toNat)).toList) 1 true)) := by kernel_rfl
theorem t1_leaf (a b i : Int) (M : Array Value) : pathObs (leaves [4, 5]) t1_bits (codeT cfg (callT cfg noT 60) 60 cz (bodyOf 17) (frame0 17 (ntOf 17) #[p0, .int .i64 i]) (sR false a b M)) = some (.ret, [some (.string (toStr M[0 + (qn i M.size).toNat * 1]?)), some (.bool true)], some (boxO false a b (.slice (some ⟨3, 0, none⟩) ((qn i M.size).toNat - 0 + (0 + M.size - (IntKind.wrap .i64 (qn i M.size + 1)).toNat)) (0 + M.size - 0))), some (.cells M 1 true), some (.cells #[] 1 false), some (.cells (blit (blit (cpy M) (0 + 0 * 1 + ((qn i M.size).toNat - 0) * 1) ((cpy M).extract (0 + (IntKind.wrap .i64 (qn i M.size + 1)).toNat * 1) (0 + (IntKind.wrap .i64 (qn i M.size + 1)).toNat * 1 + (0 + M.size - (IntKind.wrap .i64 (qn i M.size + 1)).toNat) * 1)).toList) (0 + 0 * 1 + ((((qn i M.size).toNat - 0 + (0 + M.size - (IntKind.wrap .i64 (qn i M.size + 1)).toNat) : Nat) : Int)).toNat * 1) (zeroS ((((0 + M.size : Nat) : Int)).toNat - ((((qn i M.size).toNat - 0 + (0 + M.size - (IntKind.wrap .i64 (qn i M.size + 1)).toNat) : Nat) : Int)).toNat)).toList) 1 true)) := congrFun (congrFun (congrFun (congrFun t1_leaf_k a) b) i) M
def t2_bits : List Bool := [false, false, false, false, false, false, false, false, false, false, false, false, false, false, false, false, false, true, true, false, false, true, true, false, false, true, false, true, true, true, false, true, false, false, false, true, true, true, true, false, false, false, false, true, true, true, false, true, true, false, false, true, true, false, false, true, true, true, true, false, false, true, true]
def t2_c (a b i : Int) (M : Array Value) : Bool :=
  !((M.size : Int) == 0)
   && (!(decide ((M.size : Int) = 0))
   && ((decide (qp i M.size < 0))
   && (!(decide (qn i M.size < 0))
   && ((decide (0 ≤ qn i M.size) && decide (qn i M.size < (M.size : Int)))
   && ((isStr M[(0 + Int.toNat (qn i M.size) * 1)]?)
   && ((decide (0 + Array.size M ≤ nLim) && true && true && true && true && true)
   && (!(decide (Array.size M = 0))
   && ((decide (Array.size M ≤ Array.size M) && decide (0 + Array.size M * 1 ≤ Array.size M))
   && ((List.all (Array.extract M 0 (0 + Array.size M * 1)).toList Value.oneCell')
   && (!(decide (0 + Array.size M ≤ 0))
   && ((decide (0 ≤ qn i M.size))
   && ((decide (0 ≤ IntKind.wrap .i64 (qn i M.size + 1)))
   && ((decide (Int.toNat (qn i M.size) ≤ Int.toNat (IntKind.wrap .i64 (qn i M.size + 1))) && decide (Int.toNat (IntKind.wrap .i64 (qn i M.size + 1)) ≤ Int.toNat ((0 + Array.size M : Nat) : Int)) && decide (Int.toNat ((0 + Array.size M : Nat) : Int) ≤ 0 + Array.size M) && true)
   && (!(decide (Int.toNat ((0 + Array.size M : Nat) : Int) = 0))
   && (!(qn i M.size == IntKind.wrap .i64 (qn i M.size + 1))
   && ((decide (0 ≤ qn i M.size))
   && ((decide (Int.toNat (qn i M.size) ≤ 0 + Array.size M))
   && ((decide (0 < 0 + Array.size M))
   && ((decide (0 ≤ IntKind.wrap .i64 (qn i M.size + 1)))
   && ((decide (Int.toNat (IntKind.wrap .i64 (qn i M.size + 1)) ≤ 0 + Array.size M) && decide (0 + Array.size M ≤ 0 + Array.size M))
   && (!(decide (Int.toNat (IntKind.wrap .i64 (qn i M.size + 1)) < 0 + Array.size M))
   && ((decide (Int.toNat (qn i M.size) - 0 ≤ 0 + Array.size M - 0) && decide (Int.toNat (qn i M.size) - 0 + 0 ≤ nLim) && true && true && true && true && true)
   && ((decide (Int.toNat ((Int.toNat (qn i M.size) - 0 : Nat) : Int) ≤ Int.toNat ((0 + Array.size M : Nat) : Int)) && decide (Int.toNat ((0 + Array.size M : Nat) : Int) ≤ 0 + Array.size M - 0))
   && ((decide (Int.toNat ((Int.toNat (qn i M.size) - 0 : Nat) : Int) < 0 + Array.size M - 0))
   && (!(decide (Int.toNat ((0 + Array.size M : Nat) : Int) - Int.toNat ((Int.toNat (qn i M.size) - 0 : Nat) : Int) = 0))
   && ((decide (0 + 0 * 1 + Int.toNat ((Int.toNat (qn i M.size) - 0 : Nat) : Int) * 1 + List.length (zeroS (Int.toNat ((0 + Array.size M : Nat) : Int) - Int.toNat ((Int.toNat (qn i M.size) - 0 : Nat) : Int))).toList ≤ Array.size (cpy M)) && List.all (zeroS (Int.toNat ((0 + Array.size M : Nat) : Int) - Int.toNat ((Int.toNat (qn i M.size) - 0 : Nat) : Int))).toList Value.oneCell')
   && true))))))))))))))))))))))))))
theorem t2_cond_k : (fun (a b i : Int) (M : Array Value) => (followT t2_bits (codeT cfg (callT cfg noT 60) 60 cz (bodyOf 17) (frame0 17 (ntOf 17) #[p0, .int .i64 i]) (sR false a b M))).1) = fun (a b i : Int) (M : Array Value) => t2_c a b i M := by kernel_rfl
theorem t2_cond (a b i : Int) (M : Array Value) : (followT t2_bits (codeT cfg (callT cfg noT 60) 60 cz (bodyOf 17) (frame0 17 (ntOf 17) #[p0, .int .i64 i]) (sR false a b M))).1 = t2_c a b i M := congrFun (congrFun (congrFun (congrFun t2_cond_k a) b) i) M
theorem t2_leaf_k : (fun (a b i : Int) (M : Array Value) => pathObs (leaves [4, 5]) t2_bits (codeT cfg (callT cfg noT 60) 60 cz (bodyOf 17) (frame0 17 (ntOf 17) #[p0, .int .i64 i]) (sR false a b M))) = fun (a b i : Int) (M : Array Value) => some (.ret, [some (.string (toStr M[0 + (qn i M.size).toNat * 1]?)), some (.bool true)], some (boxO false a b (.slice (some ⟨3, 0, none⟩) ((qn i M.size).toNat - 0) (0 + M.size - 0))), some (.cells M 1 true), some (.cells #[] 1 false), some (.cells (blit (cpy M) (0 + 0 * 1 + ((((qn i M.size).toNat - 0 : Nat) : Int)).toNat * 1) (zeroS ((((0 + M.size : Nat) : Int)).toNat - ((((qn i M.size).toNat - 0 : Nat) : Int)).toNat)).toList) 1 true)) := by kernel_rfl
theorem t2_leaf (a b i : Int) (M : Array Value) : pathObs (leaves [4, 5]) t2_bits (codeT cfg (callT cfg noT 60) 60 cz (bodyOf 17) (frame0 17 (ntOf 17) #[p0, .int .i64 i]) (sR false a b M)) = some (.ret, [some (.string (toStr M[0 + (qn i M.size).toNat * 1]?)), some (.bool true)], some (boxO false a b (.slice (some ⟨3, 0, none⟩) ((qn i M.size).toNat - 0) (0 + M.size - 0))), some (.cells M 1 true), some (.cells #[] 1 false), some (.cells (blit (cpy M) (0 + 0 * 1 + ((((qn i M.size).toNat - 0 : Nat) : Int)).toNat * 1) (zeroS ((((0 + M.size : Nat) : Int)).toNat - ((((qn i M.size).toNat - 0 : Nat) : Int)).toNat)).toList) 1 true)) := congrFun (congrFun (congrFun (congrFun t2_leaf_k a) b) i) M
def t3_bits : List Bool := [false, false, false, false, false, false, false, false, false, false, false, false, false, false, false, false, false, true, false, false, true, true, false, false, true, false, true, true, true, false, true, false, false, false, true, true, true, true, false, false, false, false, true, true, true, false, true, true, true, false, true, false, true, true, true, true, true, false, false, true, true, true, true, false, false, true, true]
def t3_c (a b i : Int) (M : Array Value) : Bool :=
  !((M.size : Int) == 0)
   && (!(decide ((M.size : Int) = 0))
   && (!(decide (qp i M.size < 0))
   && (!(decide (qp i M.size < 0))
   && ((decide (0 ≤ qp i M.size) && decide (qp i M.size < (M.size : Int)))
   && ((isStr M[(0 + Int.toNat (qp i M.size) * 1)]?)
   && ((decide (0 + Array.size M ≤ nLim) && true && true && true && true && true)
   && (!(decide (Array.size M = 0))
   && ((decide (Array.size M ≤ Array.size M) && decide (0 + Array.size M * 1 ≤ Array.size M))
   && ((List.all (Array.extract M 0 (0 + Array.size M * 1)).toList Value.oneCell')
   && (!(decide (0 + Array.size M ≤ 0))
   && ((decide (0 ≤ qp i M.size))
   && ((decide (0 ≤ IntKind.wrap .i64 (qp i M.size + 1)))
   && ((decide (Int.toNat (qp i M.size) ≤ Int.toNat (IntKind.wrap .i64 (qp i M.size + 1))) && decide (Int.toNat (IntKind.wrap .i64 (qp i M.size + 1)) ≤ Int.toNat ((0 + Array.size M : Nat) : Int)) && decide (Int.toNat ((0 + Array.size M : Nat) : Int) ≤ 0 + Array.size M) && true)
   && (!(decide (Int.toNat ((0 + Array.size M : Nat) : Int) = 0))
   && (!(qp i M.size == IntKind.wrap .i64 (qp i M.size + 1))
   && ((decide (0 ≤ qp i M.size))
   && ((decide (Int.toNat (qp i M.size) ≤ 0 + Array.size M))
   && ((decide (0 < 0 + Array.size M))
   && ((decide (0 ≤ IntKind.wrap .i64 (qp i M.size + 1)))
   && ((decide (Int.toNat (IntKind.wrap .i64 (qp i M.size + 1)) ≤ 0 + Array.size M) && decide (0 + Array.size M ≤ 0 + Array.size M))
   && ((decide (Int.toNat (IntKind.wrap .i64 (qp i M.size + 1)) < 0 + Array.size M))
   && ((decide (Int.toNat (qp i M.size) - 0 ≤ 0 + Array.size M - 0) && decide (Int.toNat (qp i M.size) - 0 + (0 + Array.size M - Int.toNat (IntKind.wrap .i64 (qp i M.size + 1))) ≤ nLim) && true && true && true && true && true)
   && (!(decide (0 + Array.size M - Int.toNat (IntKind.wrap .i64 (qp i M.size + 1)) = 0))
   && ((decide (0 + Array.size M - Int.toNat (IntKind.wrap .i64 (qp i M.size + 1)) ≤ 0 + Array.size M - Int.toNat (IntKind.wrap .i64 (qp i M.size + 1))) && decide (0 + Int.toNat (IntKind.wrap .i64 (qp i M.size + 1)) * 1 + (0 + Array.size M - Int.toNat (IntKind.wrap .i64 (qp i M.size + 1))) * 1 ≤ Array.size (cpy M)))
   && ((List.all (Array.extract (cpy M) (0 + Int.toNat (IntKind.wrap .i64 (qp i M.size + 1)) * 1) (0 + Int.toNat (IntKind.wrap .i64 (qp i M.size + 1)) * 1 + (0 + Array.size M - Int.toNat (IntKind.wrap .i64 (qp i M.size + 1))) * 1)).toList Value.oneCell')
   && ((decide (Int.toNat (qp i M.size) - 0 + (0 + Array.size M - Int.toNat (IntKind.wrap .i64 (qp i M.size + 1))) ≤ 0 + Array.size M - 0))
   && ((decide (0 + 0 * 1 + (Int.toNat (qp i M.size) - 0) * 1 + List.length (Array.extract (cpy M) (0 + Int.toNat (IntKind.wrap .i64 (qp i M.size + 1)) * 1) (0 + Int.toNat (IntKind.wrap .i64 (qp i M.size + 1)) * 1 + (0 + Array.size M - Int.toNat (IntKind.wrap .i64 (qp i M.size + 1))) * 1)).toList ≤ Array.size (cpy M)) && List.all (Array.extract (cpy M) (0 + Int.toNat (IntKind.wrap .i64 (qp i M.size + 1)) * 1) (0 + Int.toNat (IntKind.wrap .i64 (qp i M.size + 1)) * 1 + (0 + Array.size M - Int.toNat (IntKind.wrap .i64 (qp i M.size + 1))) * 1)).toList Value.oneCell')
   && ((decide (Int.toNat ((Int.toNat (qp i M.size) - 0 + (0 + Array.size M - Int.toNat (IntKind.wrap .i64 (qp i M.size + 1))) : Nat) : Int) ≤ Int.toNat ((0 + Array.size M : Nat) : Int)) && decide (Int.toNat ((0 + Array.size M : Nat) : Int) ≤ 0 + Array.size M - 0))
   && ((decide (Int.toNat ((Int.toNat (qp i M.size) - 0 + (0 + Array.size M - Int.toNat (IntKind.wrap .i64 (qp i M.size + 1))) : Nat) : Int) < 0 + Array.size M - 0))
   && (!(decide (Int.toNat ((0 + Array.size M : Nat) : Int) - Int.toNat ((Int.toNat (qp i M.size) - 0 + (0 + Array.size M - Int.toNat (IntKind.wrap .i64 (qp i M.size + 1))) : Nat) : Int) = 0))
   && ((decide (0 + 0 * 1 + Int.toNat ((Int.toNat (qp i M.size) - 0 + (0 + Array.size M - Int.toNat (IntKind.wrap .i64 (qp i M.size + 1))) : Nat) : Int) * 1 + List.length (zeroS (Int.toNat ((0 + Array.size M : Nat) : Int) - Int.toNat ((Int.toNat (qp i M.size) - 0 + (0 + Array.size M - Int.toNat (IntKind.wrap .i64 (qp i M.size + 1))) : Nat) : Int))).toList ≤ Array.size (blit (cpy M) (0 + 0 * 1 + (Int.toNat (qp i M.size) - 0) * 1) (Array.extract (cpy M) (0 + Int.toNat (IntKind.wrap .i64 (qp i M.size + 1)) * 1) (0 + Int.toNat (IntKind.wrap .i64 (qp i M.size + 1)) * 1 + (0 + Array.size M - Int.toNat (IntKind.wrap .i64 (qp i M.size + 1))) * 1)).toList)) && List.all (zeroS (Int.toNat ((0 + Array.size M : Nat) : Int) - Int.toNat ((Int.toNat (qp i M.size) - 0 + (0 + Array.size M - Int.toNat (IntKind.wrap .i64 (qp i M.size + 1))) : Nat) : Int))).toList Value.oneCell')
   && true)))))))))))))))))))))))))))))))
theorem t3_cond_k : (fun (a b i : Int) (M : Array Value) => (followT t3_bits (codeT cfg (callT cfg noT 60) 60 cz (bodyOf 17) (frame0 17 (ntOf 17) #[p0, .int .i64 i]) (sR false a b M))).1) = fun (a b i : Int) (M : Array Value) => t3_c a b i M := by kernel_rfl
theorem t3_cond (a b i : Int) (M : Array Value) : (followT t3_bits (codeT cfg (callT cfg noT 60) 60 cz (bodyOf 17) (frame0 17 (ntOf 17) #[p0, .int .i64 i]) (sR false a b M))).1 = t3_c a b i M := congrFun (congrFun (congrFun (congrFun t3_cond_k a) b) i) M
theorem t3_leaf_k : (fun (a b i : Int) (M : Array Value) => pathObs (leaves [4, 5]) t3_bits (codeT cfg (callT cfg noT 60) 60 cz (bodyOf 17) (frame0 17 (ntOf 17) #[p0, .int .i64 i]) (sR false a b M))) = fun (a b i : Int) (M : Array Value) => some (.ret, [some (.string (toStr M[0 + (qp i M.size).toNat * 1]?)), some (.bool true)], some (boxO false a b (.slice (some ⟨3, 0, none⟩) ((qp i M.size).toNat - 0 + (0 + M.size - (IntKind.wrap .i64 (qp i M.size + 1)).toNat)) (0 + M.size - 0))), some (.cells M 1 true), some (.cells #[] 1 false), some (.cells (blit (blit (cpy M) (0 + 0 * 1 + ((qp i M.size).toNat - 0) * 1) ((cpy M).extract (0 + (IntKind.wrap .i64 (qp i M.size + 1)).toNat * 1) (0 + (IntKind.wrap .i64 (qp i M.size + 1)).toNat * 1 + (0 + M.size - (IntKind.wrap .i64 (qp i M.size + 1)).toNat) * 1)).toList) (0 + 0 * 1 + ((((qp i M.size).toNat - 0 + (0 + M.size - (IntKind.wrap .i64 (qp i M.size + 1)).toNat) : Nat) : Int)).toNat * 1) (zeroS ((((0 + M.size : Nat) : Int)).toNat - ((((qp i M.size).toNat - 0 + (0 + M.size - (IntKind.wrap .i64 (qp i M.size + 1)).toNat) : Nat) : Int)).toNat)).toList) 1 true)) := by kernel_rfl
theorem t3_leaf (a b i : Int) (M : Array Value) : pathObs (leaves [4, 5]) t3_bits (codeT cfg (callT cfg noT 60) 60 cz (bodyOf 17) (frame0 17 (ntOf 17) #[p0, .int .i64 i]) (sR false a b M)) = some (.ret, [some (.string (toStr M[0 + (qp i M.size).toNat * 1]?)), some (.bool true)], some (boxO false a b (.slice (some ⟨3, 0, none⟩) ((qp i M.size).toNat - 0 + (0 + M.size - (IntKind.wrap .i64 (qp i M.size + 1)).toNat)) (0 + M.size - 0))), some (.cells M 1 true), some (.cells #[] 1 false), some (.cells (blit (blit (cpy M) (0 + 0 * 1 + ((qp i M.size).toNat - 0) * 1) ((cpy M).extract (0 + (IntKind.wrap .i64 (qp i M.size + 1)).toNat * 1) (0 + (IntKind.wrap .i64 (qp i M.size + 1)).toNat * 1 + (0 + M.size - (IntKind.wrap .i64 (qp i M.size + 1)).toNat) * 1)).toList) (0 + 0 * 1 + ((((qp i M.size).toNat - 0 + (0 + M.size - (IntKind.wrap .i64 (qp i M.size + 1)).toNat) : Nat) : Int)).toNat * 1) (zeroS ((((0 + M.size : Nat) : Int)).toNat - ((((qp i M.size).toNat - 0 + (0 + M.size - (IntKind.wrap .i64 (qp i M.size + 1)).toNat) : Nat) : Int)).toNat)).toList) 1 true)) := congrFun (congrFun (congrFun (congrFun t3_leaf_k a) b) i) M
def t4_bits : List Bool := [false, false, false, false, false, false, false, false, false, false, false, false, false, false, false, false, false, true, false, false, true, true, false, false, true, false, true, true, true, false, true, false, false, false, true, true, true, true, false, false, false, false, true, true, true, false, true, true, false, false, true, true, false, false, true, true, true, true, false, false, true, true]
def t4_c (a b i : Int) (M : Array Value) : Bool :=
  !((M.size : Int) == 0)
   && (!(decide ((M.size : Int) = 0))
   && (!(decide (qp i M.size < 0))
   && (!(decide (qp i M.size < 0))
   && ((decide (0 ≤ qp i M.size) && decide (qp i M.size < (M.size : Int)))
   && ((isStr M[(0 + Int.toNat (qp i M.size) * 1)]?)
   && ((decide (0 + Array.size M ≤ nLim) && true && true && true && true && true)
   && (!(decide (Array.size M = 0))
   && ((decide (Array.size M ≤ Array.size M) && decide (0 + Array.size M * 1 ≤ Array.size M))
   && ((List.all (Array.extract M 0 (0 + Array.size M * 1)).toList Value.oneCell')
   && (!(decide (0 + Array.size M ≤ 0))
   && ((decide (0 ≤ qp i M.size))
   && ((decide (0 ≤ IntKind.wrap .i64 (qp i M.size + 1)))
   && ((decide (Int.toNat (qp i M.size) ≤ Int.toNat (IntKind.wrap .i64 (qp i M.size + 1))) && decide (Int.toNat (IntKind.wrap .i64 (qp i M.size + 1)) ≤ Int.toNat ((0 + Array.size M : Nat) : Int)) && decide (Int.toNat ((0 + Array.size M : Nat) : Int) ≤ 0 + Array.size M) && true)
   && (!(decide (Int.toNat ((0 + Array.size M : Nat) : Int) = 0))
   && (!(qp i M.size == IntKind.wrap .i64 (qp i M.size + 1))
   && ((decide (0 ≤ qp i M.size))
   && ((decide (Int.toNat (qp i M.size) ≤ 0 + Array.size M))
   && ((decide (0 < 0 + Array.size M))
   && ((decide (0 ≤ IntKind.wrap .i64 (qp i M.size + 1)))
   && ((decide (Int.toNat (IntKind.wrap .i64 (qp i M.size + 1)) ≤ 0 + Array.size M) && decide (0 + Array.size M ≤ 0 + Array.size M))
   && (!(decide (Int.toNat (IntKind.wrap .i64 (qp i M.size + 1)) < 0 + Array.size M))
   && ((decide (Int.toNat (qp i M.size) - 0 ≤ 0 + Array.size M - 0) && decide (Int.toNat (qp i M.size) - 0 + 0 ≤ nLim) && true && true && true && true && true)
   && ((decide (Int.toNat ((Int.toNat (qp i M.size) - 0 : Nat) : Int) ≤ Int.toNat ((0 + Array.size M : Nat) : Int)) && decide (Int.toNat ((0 + Array.size M : Nat) : Int) ≤ 0 + Array.size M - 0))
   && ((decide (Int.toNat ((Int.toNat (qp i M.size) - 0 : Nat) : Int) < 0 + Array.size M - 0))
   && (!(decide (Int.toNat ((0 + Array.size M : Nat) : Int) - Int.toNat ((Int.toNat (qp i M.size) - 0 : Nat) : Int) = 0))
   && ((decide (0 + 0 * 1 + Int.toNat ((Int.toNat (qp i M.size) - 0 : Nat) : Int) * 1 + List.length (zeroS (Int.toNat ((0 + Array.size M : Nat) : Int) - Int.toNat ((Int.toNat (qp i M.size) - 0 : Nat) : Int))).toList ≤ Array.size (cpy M)) && List.all (zeroS (Int.toNat ((0 + Array.size M : Nat) : Int) - Int.toNat ((Int.toNat (qp i M.size) - 0 : Nat) : Int))).toList Value.oneCell')
   && true))))))))))))))))))))))))))
theorem t4_cond_k : (fun (a b i : Int) (M : Array Value) => (followT t4_bits (codeT cfg (callT cfg noT 60) 60 cz (bodyOf 17) (frame0 17 (ntOf 17) #[p0, .int .i64 i]) (sR false a b M))).1) = fun (a b i : Int) (M : Array Value) => t4_c a b i M := by kernel_rfl
theorem t4_cond (a b i : Int) (M : Array Value) : (followT t4_bits (codeT cfg (callT cfg noT 60) 60 cz (bodyOf 17) (frame0 17 (ntOf 17) #[p0, .int .i64 i]) (sR false a b M))).1 = t4_c a b i M := congrFun (congrFun (congrFun (congrFun t4_cond_k a) b) i) M
theorem t4_leaf_k : (fun (a b i : Int) (M : Array Value) => pathObs (leaves [4, 5]) t4_bits (codeT cfg (callT cfg noT 60) 60 cz (bodyOf 17) (frame0 17 (ntOf 17) #[p0, .int .i64 i]) (sR false a b M))) = fun (a b i : Int) (M : Array Value) => some (.ret, [some (.string (toStr M[0 + (qp i M.size).toNat * 1]?)), some (.bool true)], some (boxO false a b (.slice (some ⟨3, 0, none⟩) ((qp i M.size).toNat - 0) (0 + M.size - 0))), some (.cells M 1 true), some (.cells #[] 1 false), some (.cells (blit (cpy M) (0 + 0 * 1 + ((((qp i M.size).toNat - 0 : Nat) : Int)).toNat * 1) (zeroS ((((0 + M.size : Nat) : Int)).toNat - ((((qp i M.size).toNat - 0 : Nat) : Int)).toNat)).toList) 1 true)) := by kernel_rfl
theorem t4_leaf (a b i : Int) (M : Array Value) : pathObs (leaves [4, 5]) t4_bits (codeT cfg (callT cfg noT 60) 60 cz (bodyOf 17) (frame0 17 (ntOf 17) #[p0, .int .i64 i]) (sR false a b M)) = some (.ret, [some (.string (toStr M[0 + (qp i M.size).toNat * 1]?)), some (.bool true)], some (boxO false a b (.slice (some ⟨3, 0, none⟩) ((qp i M.size).toNat - 0) (0 + M.size - 0))), some (.cells M 1 true), some (.cells #[] 1 false), some (.cells (blit (cpy M) (0 + 0 * 1 + ((((qp i M.size).toNat - 0 : Nat) : Int)).toNat * 1) (zeroS ((((0 + M.size : Nat) : Int)).toNat - ((((qp i M.size).toNat - 0 : Nat) : Int)).toNat)).toList) 1 true)) := congrFun (congrFun (congrFun (congrFun t4_leaf_k a) b) i) M
def da_bits : List Bool := [false, false, false, false, false, false, false, false, false, false, true, false, false, false, true, true, true, true, true, true, true, true, true, true, true, true, true, true, true, true, true, true, true, true, true, true, true]
def da_c (a b i : Int) : Bool :=
  true
theorem da_cond_k : (fun (a b i : Int) => (followT da_bits (codeT cfg (callT cfg noT 60) 60 cz (bodyOf 20) (frame0 20 (ntOf 20) #[p0, .int .i64 i]) (sN false a b))).1) = fun (a b i : Int) => da_c a b i := by kernel_rfl
theorem da_cond (a b i : Int) : (followT da_bits (codeT cfg (callT cfg noT 60) 60 cz (bodyOf 20) (frame0 20 (ntOf 20) #[p0, .int .i64 i]) (sN false a b))).1 = da_c a b i := congrFun (congrFun (congrFun da_cond_k a) b) i
theorem da_leaf_k : (fun (a b i : Int) => pathObs (leaves [4]) da_bits (codeT cfg (callT cfg noT 60) 60 cz (bodyOf 20) (frame0 20 (ntOf 20) #[p0, .int .i64 i]) (sN false a b))) = fun (a b i : Int) => some (.ret, [some (.bool false)], some (boxO false a b (.slice none 0 0)), none, none, none) := by kernel_rfl
theorem da_leaf (a b i : Int) : pathObs (leaves [4]) da_bits (codeT cfg (callT cfg noT 60) 60 cz (bodyOf 20) (frame0 20 (ntOf 20) #[p0, .int .i64 i]) (sN false a b)) = some (.ret, [some (.bool false)], some (boxO false a b (.slice none 0 0)), none, none, none) := congrFun (congrFun (congrFun da_leaf_k a) b) i
def db_bits : List Bool := [false, false, false, false, false, false, false, false, false, false, false, false, false, false, true, true, true, true, true, true, true, true, true, true, true, true, true, true, true, true, true, true, true, true, true, true, true]
def db_c (a b i : Int) (M : Array Value) : Bool :=
  ((M.size : Int) == 0)
   && true
theorem db_cond_k : (fun (a b i : Int) (M : Array Value) => (followT db_bits (codeT cfg (callT cfg noT 60) 60 cz (bodyOf 20) (frame0 20 (ntOf 20) #[p0, .int .i64 i]) (sR false a b M))).1) = fun (a b i : Int) (M : Array Value) => db_c a b i M := by kernel_rfl
theorem db_cond (a b i : Int) (M : Array Value) : (followT db_bits (codeT cfg (callT cfg noT 60) 60 cz (bodyOf 20) (frame0 20 (ntOf 20) #[p0, .int .i64 i]) (sR false a b M))).1 = db_c a b i M := congrFun (congrFun (congrFun (congrFun db_cond_k a) b) i) M
theorem db_leaf_k : (fun (a b i : Int) (M : Array Value) => pathObs (leaves [4]) db_bits (codeT cfg (callT cfg noT 60) 60 cz (bodyOf 20) (frame0 20 (ntOf 20) #[p0, .int .i64 i]) (sR false a b M))) = fun (a b i : Int) (M : Array Value) => some (.ret, [some (.bool false)], some (boxO false a b (.slice (some ⟨1, 0, none⟩) M.size M.size)), some (.cells M 1 true), none, none) := by kernel_rfl
theorem db_leaf (a b i : Int) (M : Array Value) : pathObs (leaves [4]) db_bits (codeT cfg (callT cfg noT 60) 60 cz (bodyOf 20) (frame0 20 (ntOf 20) #[p0, .int .i64 i]) (sR false a b M)) = some (.ret, [some (.bool false)], some (boxO false a b (.slice (some ⟨1, 0, none⟩) M.size M.size)), some (.cells M 1 true), none, none) := congrFun (congrFun (congrFun (congrFun db_leaf_k a) b) i) M
def dc_bits : List Bool := [false, false, false, false, false, false, false, false, false, false, false, false, false, false, false, false, false, true, true, false, false, false, false, false, false, false, false, false, false, false, false, false, false, false, false, false, false, false, false, true, false, false, false, true]
def dc_c (a b i : Int) (M : Array Value) : Bool :=
  !((M.size : Int) == 0)
   && (!(decide ((M.size : Int) = 0))
   && ((decide (qp i M.size < 0))
   && (!(decide (qn i M.size < 0))
   && ((decide ((M.size : Int) ≥ a))
   && true))))
theorem dc_cond_k : (fun (a b i : Int) (M : Array Value) => (followT dc_bits (codeT cfg (callT cfg noT 60) 60 cz (bodyOf 20) (frame0 20 (ntOf 20) #[p0, .int .i64 i]) (sR false a b M))).1) = fun (a b i : Int) (M : Array Value) => dc_c a b i M := by kernel_rfl
theorem dc_cond (a b i : Int) (M : Array Value) : (followT dc_bits (codeT cfg (callT cfg noT 60) 60 cz (bodyOf 20) (frame0 20 (ntOf 20) #[p0, .int .i64 i]) (sR false a b M))).1 = dc_c a b i M := congrFun (congrFun (congrFun (congrFun dc_cond_k a) b) i) M
theorem dc_leaf_k : (fun (a b i : Int) (M : Array Value) => pathObs (leaves [4]) dc_bits (codeT cfg (callT cfg noT 60) 60 cz (bodyOf 20) (frame0 20 (ntOf 20) #[p0, .int .i64 i]) (sR false a b M))) = fun (a b i : Int) (M : Array Value) => some (.ret, [some (.bool false)], some (boxO false a b (.slice (some ⟨1, 0, none⟩) M.size M.size)), some (.cells M 1 true), none, none) := by kernel_rfl
theorem dc_leaf (a b i : Int) (M : Array Value) : pathObs (leaves [4]) dc_bits (codeT cfg (callT cfg noT 60) 60 cz (bodyOf 20) (frame0 20 (ntOf 20) #[p0, .int .i64 i]) (sR false a b M)) = some (.ret, [some (.bool false)], some (boxO false a b (.slice (some ⟨1, 0, none⟩) M.size M.size)), some (.cells M 1 true), none, none) := congrFun (congrFun (congrFun (congrFun dc_leaf_k a) b) i) M
def dd_bits : List Bool := [false, false, false, false, false, false, false, false, false, false, false, false, false, false, false, false, false, true, false, false, false, false, false, false, false, false, false, false, false, false, false, false, false, false, false, false, false, false, true, false, false, false, true]
def dd_c (a b i : Int) (M : Array Value) : Bool :=
  !((M.size : Int) == 0)
   && (!(decide ((M.size : Int) = 0))
   && (!(decide (qp i M.size < 0))
   && (!(decide (qp i M.size < 0))
   && ((decide ((M.size : Int) ≥ a))
   && true))))
theorem dd_cond_k : (fun (a b i : Int) (M : Array Value) => (followT dd_bits (codeT cfg (callT cfg noT 60) 60 cz (bodyOf 20) (frame0 20 (ntOf 20) #[p0, .int .i64 i]) (sR false a b M))).1) = fun (a b i : Int) (M : Array Value) => dd_c a b i M := by kernel_rfl
theorem dd_cond (a b i : Int) (M : Array Value) : (followT dd_bits (codeT cfg (callT cfg noT 60) 60 cz (bodyOf 20) (frame0 20 (ntOf 20) #[p0, .int .i64 i]) (sR false a b M))).1 = dd_c a b i M := congrFun (congrFun (congrFun (congrFun dd_cond_k a) b) i) M
theorem dd_leaf_k : (fun (a b i : Int) (M : Array Value) => pathObs (leaves [4]) dd_bits (codeT cfg (callT cfg noT 60) 60 cz (bodyOf 20) (frame0 20 (ntOf 20) #[p0, .int .i64 i]) (sR false a b M))) = fun (a b i : Int) (M : Array Value) => some (.ret, [some (.bool false)], some (boxO false a b (.slice (some ⟨1, 0, none⟩) M.size M.size)), some (.cells M 1 true), none, none) := by kernel_rfl
theorem dd_leaf (a b i : Int) (M : Array Value) : pathObs (leaves [4]) dd_bits (codeT cfg (callT cfg noT 60) 60 cz (bodyOf 20) (frame0 20 (ntOf 20) #[p0, .int .i64 i]) (sR false a b M)) = some (.ret, [some (.bool false)], some (boxO false a b (.slice (some ⟨1, 0, none⟩) M.size M.size)), some (.cells M 1 true), none, none) := congrFun (congrFun (congrFun (congrFun dd_leaf_k a) b) i) M
def de_bits : List Bool := [false, false, false, false, false, false, false, false, false, false, false, false, false, false, false, false, false, true, true, false, false, false, false, false, false, false, false, false, false, false, false, false, false, false, false, false, false, false, false, true, false, false, false, false, true, true, false, false, true, false, true, false, true, true, true, false, true, false, true, true, true, false, true, true, true, true, false]
def de_c (a b i : Int) (M : Array Value) : Bool :=
  !((M.size : Int) == 0)
   && (!(decide ((M.size : Int) = 0))
   && ((decide (qp i M.size < 0))
   && (!(decide (qn i M.size < 0))
   && (!(decide ((M.size : Int) ≥ a))
   && ((decide (0 ≤ qn i M.size) && decide (qn i M.size < (M.size : Int)))
   && ((isStr M[(0 + Int.toNat (qn i M.size) * 1)]?)
   && ((decide (0 ≤ laid a M.size 1))
   && ((decide (Int.toNat (laid a M.size 1) ≤ 1))
   && ((decide (Array.size M ≤ Array.size M) && decide (Array.size M + (Int.toNat (laid a M.size 1) - 0) ≤ nLim) && true && true && true && true && true)
   && (!(decide (Int.toNat (laid a M.size 1) - 0 = 0))
   && ((decide (Int.toNat (laid a M.size 1) - 0 ≤ Int.toNat (laid a M.size 1) - 0) && decide (0 + 0 * 1 + (Int.toNat (laid a M.size 1) - 0) * 1 ≤ Array.size (sing (toStr M[(0 + Int.toNat (qn i M.size) * 1)]?))))
   && ((List.all (Array.extract (sing (toStr M[(0 + Int.toNat (qn i M.size) * 1)]?)) (0 + 0 * 1) (0 + 0 * 1 + (Int.toNat (laid a M.size 1) - 0) * 1)).toList Value.oneCell')
   && (!(decide (Array.size M + (Int.toNat (laid a M.size 1) - 0) ≤ Array.size M))
   && ((decide (0 + Array.size M * 1 ≤ Array.size M))
   && ((Array.size M == Array.size M && 0 + Array.size M * 1 == Array.size M)
   && true)))))))))))))))
theorem de_cond_k : (fun (a b i : Int) (M : Array Value) => (followT de_bits (codeT cfg (callT cfg noT 60) 60 cz (bodyOf 20) (frame0 20 (ntOf 20) #[p0, .int .i64 i]) (sR false a b M))).1) = fun (a b i : Int) (M : Array Value) => de_c a b i M := by kernel_rfl
theorem de_cond (a b i : Int) (M : Array Value) : (followT de_bits (codeT cfg (callT cfg noT 60) 60 cz (bodyOf 20) (frame0 20 (ntOf 20) #[p0, .int .i64 i]) (sR false a b M))).1 = de_c a b i M := congrFun (congrFun (congrFun (congrFun de_cond_k a) b) i) M
theorem de_leaf_k : (fun (a b i : Int) (M : Array Value) => pathObs (leaves [4]) de_bits (codeT cfg (callT cfg noT 60) 60 cz (bodyOf 20) (frame0 20 (ntOf 20) #[p0, .int .i64 i]) (sR false a b M))) = fun (a b i : Int) (M : Array Value) => some (.ret, [some (.bool true)], some (boxO false a (IntKind.wrap .i64 (b + IntKind.wrap .i64 (((1 : Nat) : Int) - laid a M.size 1))) (.slice (some ⟨3, 0, none⟩) (M.size + ((laid a M.size 1).toNat - 0)) (M.size + ((laid a M.size 1).toNat - 0)))), none, some (.cells (sing (toStr M[0 + (qn i M.size).toNat * 1]?)) 1 false), some (.cells (M.extract 0 (0 + M.size * 1) ++ (sing (toStr M[0 + (qn i M.size).toNat * 1]?)).extract (0 + 0 * 1) (0 + 0 * 1 + ((laid a M.size 1).toNat - 0) * 1)) 1 true)) := by kernel_rfl
theorem de_leaf (a b i : Int) (M : Array Value) : pathObs (leaves [4]) de_bits (codeT cfg (callT cfg noT 60) 60 cz (bodyOf 20) (frame0 20 (ntOf 20) #[p0, .int .i64 i]) (sR false a b M)) = some (.ret, [some (.bool true)], some (boxO false a (IntKind.wrap .i64 (b + IntKind.wrap .i64 (((1 : Nat) : Int) - laid a M.size 1))) (.slice (some ⟨3, 0, none⟩) (M.size + ((laid a M.size 1).toNat - 0)) (M.size + ((laid a M.size 1).toNat - 0)))), none, some (.cells (sing (toStr M[0 + (qn i M.size).toNat * 1]?)) 1 false), some (.cells (M.extract 0 (0 + M.size * 1) ++ (sing (toStr M[0 + (qn i M.size).toNat * 1]?)).extract (0 + 0 * 1) (0 + 0 * 1 + ((laid a M.size 1).toNat - 0) * 1)) 1 true)) := congrFun (congrFun (congrFun (congrFun de_leaf_k a) b) i) M
def df_bits : List Bool := [false, false, false, false, false, false, false, false, false, false, false, false, false, false, false, false, false, true, false, false, false, false, false, false, false, false, false, false, false, false, false, false, false, false, false, false, false, false, true, false, false, false, false, true, true, false, false, true, false, true, false, true, true, true, false, true, false, true, true, true, false, true, true, true, true, false]
def df_c (a b i : Int) (M : Array Value) : Bool :=
  !((M.size : Int) == 0)
   && (!(decide ((M.size : Int) = 0))
   && (!(decide (qp i M.size < 0))
   && (!(decide (qp i M.size < 0))
   && (!(decide ((M.size : Int) ≥ a))
   && ((decide (0 ≤ qp i M.size) && decide (qp i M.size < (M.size : Int)))
   && ((isStr M[(0 + Int.toNat (qp i M.size) * 1)]?)
   && ((decide (0 ≤ laid a M.size 1))
   && ((decide (Int.toNat (laid a M.size 1) ≤ 1))
   && ((decide (Array.size M ≤ Array.size M) && decide (Array.size M + (Int.toNat (laid a M.size 1) - 0) ≤ nLim) && true && true && true && true && true)
   && (!(decide (Int.toNat (laid a M.size 1) - 0 = 0))
   && ((decide (Int.toNat (laid a M.size 1) - 0 ≤ Int.toNat (laid a M.size 1) - 0) && decide (0 + 0 * 1 + (Int.toNat (laid a M.size 1) - 0) * 1 ≤ Array.size (sing (toStr M[(0 + Int.toNat (qp i M.size) * 1)]?))))
   && ((List.all (Array.extract (sing (toStr M[(0 + Int.toNat (qp i M.size) * 1)]?)) (0 + 0 * 1) (0 + 0 * 1 + (Int.toNat (laid a M.size 1) - 0) * 1)).toList Value.oneCell')
   && (!(decide (Array.size M + (Int.toNat (laid a M.size 1) - 0) ≤ Array.size M))
   && ((decide (0 + Array.size M * 1 ≤ Array.size M))
   && ((Array.size M == Array.size M && 0 + Array.size M * 1 == Array.size M)
   && true)))))))))))))))
theorem df_cond_k : (fun (a b i : Int) (M : Array Value) => (followT df_bits (codeT cfg (callT cfg noT 60) 60 cz (bodyOf 20) (frame0 20 (ntOf 20) #[p0, .int .i64 i]) (sR false a b M))).1) = fun (a b i : Int) (M : Array Value) => df_c a b i M := by kernel_rfl
theorem df_cond (a b i : Int) (M : Array Value) : (followT df_bits (codeT cfg (callT cfg noT 60) 60 cz (bodyOf 20) (frame0 20 (ntOf 20) #[p0, .int .i64 i]) (sR false a b M))).1 = df_c a b i M := congrFun (congrFun (congrFun (congrFun df_cond_k a) b) i) M
theorem df_leaf_k : (fun (a b i : Int) (M : Array Value) => pathObs (leaves [4]) df_bits (codeT cfg (callT cfg noT 60) 60 cz (bodyOf 20) (frame0 20 (ntOf 20) #[p0, .int .i64 i]) (sR false a b M))) = fun (a b i : Int) (M : Array Value) => some (.ret, [some (.bool true)], some (boxO false a (IntKind.wrap .i64 (b + IntKind.wrap .i64 (((1 : Nat) : Int) - laid a M.size 1))) (.slice (some ⟨3, 0, none⟩) (M.size + ((laid a M.size 1).toNat - 0)) (M.size + ((laid a M.size 1).toNat - 0)))), none, some (.cells (sing (toStr M[0 + (qp i M.size).toNat * 1]?)) 1 false), some (.cells (M.extract 0 (0 + M.size * 1) ++ (sing (toStr M[0 + (qp i M.size).toNat * 1]?)).extract (0 + 0 * 1) (0 + 0 * 1 + ((laid a M.size 1).toNat - 0) * 1)) 1 true)) := by kernel_rfl
theorem df_leaf (a b i : Int) (M : Array Value) : pathObs (leaves [4]) df_bits (codeT cfg (callT cfg noT 60) 60 cz (bodyOf 20) (frame0 20 (ntOf 20) #[p0, .int .i64 i]) (sR false a b M)) = some (.ret, [some (.bool true)], some (boxO false a (IntKind.wrap .i64 (b + IntKind.wrap .i64 (((1 : Nat) : Int) - laid a M.size 1))) (.slice (some ⟨3, 0, none⟩) (M.size + ((laid a M.size 1).toNat - 0)) (M.size + ((laid a M.size 1).toNat - 0)))), none, some (.cells (sing (toStr M[0 + (qp i M.size).toNat * 1]?)) 1 false), some (.cells (M.extract 0 (0 + M.size * 1) ++ (sing (toStr M[0 + (qp i M.size).toNat * 1]?)).extract (0 + 0 * 1) (0 + 0 * 1 + ((laid a M.size 1).toNat - 0) * 1)) 1 true)) := congrFun (congrFun (congrFun (congrFun df_leaf_k a) b) i) M
def ea_bits : List Bool := [true, true, true, true, true, true, true, true, true, true, true, true, true, true, true, true, true, true, true, true, true, true, true, true]
def ea_c (a b i : Int) : Bool :=
  true
theorem ea_cond_k : (fun (a b i : Int) => (followT ea_bits (codeT cfg (callT cfg noT 60) 60 cz (bodyOf 24) (frame0 24 (ntOf 24) #[p0, .int .i64 i]) (sN true a b))).1) = fun (a b i : Int) => ea_c a b i := by kernel_rfl
theorem ea_cond (a b i : Int) : (followT ea_bits (codeT cfg (callT cfg noT 60) 60 cz (bodyOf 24) (frame0 24 (ntOf 24) #[p0, .int .i64 i]) (sN true a b))).1 = ea_c a b i := congrFun (congrFun (congrFun ea_cond_k a) b) i
theorem ea_leaf_k : (fun (a b i : Int) => pathObs (leaves [4]) ea_bits (codeT cfg (callT cfg noT 60) 60 cz (bodyOf 24) (frame0 24 (ntOf 24) #[p0, .int .i64 i]) (sN true a b))) = fun (a b i : Int) => some (.ret, [some (.bool false)], some (boxO true a b (.slice none 0 0)), none, none, none) := by kernel_rfl
theorem ea_leaf (a b i : Int) : pathObs (leaves [4]) ea_bits (codeT cfg (callT cfg noT 60) 60 cz (bodyOf 24) (frame0 24 (ntOf 24) #[p0, .int .i64 i]) (sN true a b)) = some (.ret, [some (.bool false)], some (boxO true a b (.slice none 0 0)), none, none, none) := congrFun (congrFun (congrFun ea_leaf_k a) b) i
def eb_bits : List Bool := [false, true, true, true, true, true, true, true, true, true, true, true, true, true, true, true, true, true, true, true, true, true, true, true]
def eb_c (a b i : Int) (M : Array Value) : Bool :=
  ((M.size : Int) == 0)
   && true
theorem eb_cond_k : (fun (a b i : Int) (M : Array Value) => (followT eb_bits (codeT cfg (callT cfg noT 60) 60 cz (bodyOf 24) (frame0 24 (ntOf 24) #[p0, .int .i64 i]) (sR true a b M))).1) = fun (a b i : Int) (M : Array Value) => eb_c a b i M := by kernel_rfl
theorem eb_cond (a b i : Int) (M : Array Value) : (followT eb_bits (codeT cfg (callT cfg noT 60) 60 cz (bodyOf 24) (frame0 24 (ntOf 24) #[p0, .int .i64 i]) (sR true a b M))).1 = eb_c a b i M := congrFun (congrFun (congrFun (congrFun eb_cond_k a) b) i) M
theorem eb_leaf_k : (fun (a b i : Int) (M : Array Value) => pathObs (leaves [4]) eb_bits (codeT cfg (callT cfg noT 60) 60 cz (bodyOf 24) (frame0 24 (ntOf 24) #[p0, .int .i64 i]) (sR true a b M))) = fun (a b i : Int) (M : Array Value) => some (.ret, [some (.bool false)], some (boxO true a b (.slice (some ⟨1, 0, none⟩) M.size M.size)), some (.cells M 1 true), none, none) := by kernel_rfl
theorem eb_leaf (a b i : Int) (M : Array Value) : pathObs (leaves [4]) eb_bits (codeT cfg (callT cfg noT 60) 60 cz (bodyOf 24) (frame0 24 (ntOf 24) #[p0, .int .i64 i]) (sR true a b M)) = some (.ret, [some (.bool false)], some (boxO true a b (.slice (some ⟨1, 0, none⟩) M.size M.size)), some (.cells M 1 true), none, none) := congrFun (congrFun (congrFun (congrFun eb_leaf_k a) b) i) M
def ec_bits : List Bool := [false, false, false, true, false, true, false, false, false, false, false, false, false, false, false, false, false, false, false, false, false, false, false, false, false, true, false, false, false, true]
def ec_c (a b i : Int) (M : Array Value) : Bool :=
  !((M.size : Int) == 0)
   && (!(decide ((M.size : Int) = 0))
   && (!(decide ((M.size : Int) = 0))
   && (!(decide (qr i M.size < 0))
   && ((decide ((M.size : Int) ≥ a))
   && true))))
theorem ec_cond_k : (fun (a b i : Int) (M : Array Value) => (followT ec_bits (codeT cfg (callT cfg noT 60) 60 cz (bodyOf 24) (frame0 24 (ntOf 24) #[p0, .int .i64 i]) (sR true a b M))).1) = fun (a b i : Int) (M : Array Value) => ec_c a b i M := by kernel_rfl
theorem ec_cond (a b i : Int) (M : Array Value) : (followT ec_bits (codeT cfg (callT cfg noT 60) 60 cz (bodyOf 24) (frame0 24 (ntOf 24) #[p0, .int .i64 i]) (sR true a b M))).1 = ec_c a b i M := congrFun (congrFun (congrFun (congrFun ec_cond_k a) b) i) M
theorem ec_leaf_k : (fun (a b i : Int) (M : Array Value) => pathObs (leaves [4]) ec_bits (codeT cfg (callT cfg noT 60) 60 cz (bodyOf 24) (frame0 24 (ntOf 24) #[p0, .int .i64 i]) (sR true a b M))) = fun (a b i : Int) (M : Array Value) => some (.ret, [some (.bool false)], some (boxO true a b (.slice (some ⟨1, 0, none⟩) M.size M.size)), some (.cells M 1 true), none, none) := by kernel_rfl
theorem ec_leaf (a b i : Int) (M : Array Value) : pathObs (leaves [4]) ec_bits (codeT cfg (callT cfg noT 60) 60 cz (bodyOf 24) (frame0 24 (ntOf 24) #[p0, .int .i64 i]) (sR true a b M)) = some (.ret, [some (.bool false)], some (boxO true a b (.slice (some ⟨1, 0, none⟩) M.size M.size)), some (.cells M 1 true), none, none) := congrFun (congrFun (congrFun (congrFun ec_leaf_k a) b) i) M
def ed_bits : List Bool := [false, false, false, true, false, true, false, false, false, false, false, false, false, false, false, false, false, false, false, false, false, false, false, false, false, true, false, false, false, false, false, true, false, true, true, true, false, true, false, true, true, false, true, false, true, true, true, false, true, true, true]
def ed_c (a b i : Int) (M : Array Value) : Bool :=
  !((M.size : Int) == 0)
   && (!(decide ((M.size : Int) = 0))
   && (!(decide ((M.size : Int) = 0))
   && (!(decide (qr i M.size < 0))
   && (!(decide ((M.size : Int) ≥ a))
   && ((decide (0 + Array.size M ≤ nLim) && true && true && true && true && true)
   && (!(decide (Array.size M = 0))
   && ((decide (Array.size M ≤ Array.size M) && decide (0 + Array.size M * 1 ≤ Array.size M))
   && ((List.all (Array.extract M 0 (0 + Array.size M * 1)).toList Value.oneCell')
   && (!(decide (0 + Array.size M ≤ 0))
   && ((decide (0 ≤ qr i M.size) && decide (qr i M.size < (M.size : Int)))
   && ((isStr M[(0 + Int.toNat (qr i M.size) * 1)]?)
   && ((decide (0 + Array.size M ≤ 0 + Array.size M) && decide (0 + Array.size M + 1 ≤ nLim) && true && true && true && true && true)
   && (!(decide (0 + Array.size M + 1 ≤ 0 + Array.size M))
   && ((decide (0 + (0 + Array.size M) * 1 ≤ Array.size (cpy M)))
   && ((0 + Array.size M == 0 + Array.size M && 0 + (0 + Array.size M) * 1 == Array.size (cpy M))
   && true)))))))))))))))
theorem ed_cond_k : (fun (a b i : Int) (M : Array Value) => (followT ed_bits (codeT cfg (callT cfg noT 60) 60 cz (bodyOf 24) (frame0 24 (ntOf 24) #[p0, .int .i64 i]) (sR true a b M))).1) = fun (a b i : Int) (M : Array Value) => ed_c a b i M := by kernel_rfl
theorem ed_cond (a b i : Int) (M : Array Value) : (followT ed_bits (codeT cfg (callT cfg noT 60) 60 cz (bodyOf 24) (frame0 24 (ntOf 24) #[p0, .int .i64 i]) (sR true a b M))).1 = ed_c a b i M := congrFun (congrFun (congrFun (congrFun ed_cond_k a) b) i) M
theorem ed_leaf_k : (fun (a b i : Int) (M : Array Value) => pathObs (leavesK [4] [0, 5]) ed_bits (codeT cfg (callT cfg noT 60) 60 cz (bodyOf 24) (frame0 24 (ntOf 24) #[p0, .int .i64 i]) (sR true a b M))) = fun (a b i : Int) (M : Array Value) => some (.ret, [some (.bool true)], [some (boxO true a b (.slice (some ⟨5, 0, none⟩) (0 + M.size + 1) (0 + M.size + 1))), some (.cells ((cpy M).extract 0 (0 + (0 + M.size) * 1) ++ (sing (toStr M[0 + (qr i M.size).toNat * 1]?)).extract 0 (0 + 1 * 1)) 1 true)]) := by kernel_rfl
theorem ed_leaf (a b i : Int) (M : Array Value) : pathObs (leavesK [4] [0, 5]) ed_bits (codeT cfg (callT cfg noT 60) 60 cz (bodyOf 24) (frame0 24 (ntOf 24) #[p0, .int .i64 i]) (sR true a b M)) = some (.ret, [some (.bool true)], [some (boxO true a b (.slice (some ⟨5, 0, none⟩) (0 + M.size + 1) (0 + M.size + 1))), some (.cells ((cpy M).extract 0 (0 + (0 + M.size) * 1) ++ (sing (toStr M[0 + (qr i M.size).toNat * 1]?)).extract 0 (0 + 1 * 1)) 1 true)]) := congrFun (congrFun (congrFun (congrFun ed_leaf_k a) b) i) M
end
end Go.Proofs.Ytgcffmkifjnmlaa
