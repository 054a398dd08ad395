import Derived.Test.YtmpokdnpkjcnbaaDoorVHI
/- MaskTells' functions: Of, All, Same, and the document's: trees. -/
namespace Go.Proofs.YtmpokdnpkjcnbaaDoor
open Go.Am
noncomputable section
def vAt (X : Array Value) (o : Nat) (i : Int) : Int := toI X[o + Int.toNat i * 1]?
def selN (L R : List Tmp) : Ex → List Tmp × List Kept
  | .ret => (R, [])
  | _ => (L, [])
def b11 : Code := bodyOf 11
def k11 : Code := cB (cB (cR (cL (cN 2 b11))))
theorem b11_eq : b11 = nest [cL b11, cL (cN 1 b11)] (.seq (.seq (cL (cL (cN 2 b11))) (.block 0 (.loop k11))) (cN 3 b11)) := by kernel_rfl
def frW (f : FuncId) (p q r s : Int) (L : List (Nat × Value)) : Fr := { fn := f, nt := ntOf f, tm := tmS L .nil, pt := (Tr.nil.put 2 (2, 0)).put 4 (4, 0), loc := (Tr.nil.put 2 (mkC 0 0 0 0)).put 4 (mkC p q r s), round := none }
def frR (f : FuncId) (a b c d e : Int) : Fr := { fn := f, nt := ntOf f, tm := tmS [(3, .int .i64 e)] .nil, pt := Tr.nil.put 2 (2, 0), loc := Tr.nil.put 2 (mkC a b c d), round := none }
def fr11 (X : Array Value) (o n : Nat) (p q r s i : Int) : Fr := frW 11 p q r s [(7, VS X o n), (8, .int .i64 n), (9, .int .i64 i)]
theorem s11a_k : (fun (X : Array Value) (o n : Nat) => (codeT cfVi (callT cfVi tVi 60) 60 cz (seqOf [cL b11, cL (cN 1 b11)]) (frame0 11 (ntOf 11) #[VS X o n]) st0).evalM (gcObs 0 0 (kp [0, 2, 4] []))) = fun (X : Array Value) (o n : Nat) => some (.normal, frW 11 0 0 0 0 [(0, VS X o n)], st0) := by kernel_rfl
theorem s11a (X : Array Value) (o n : Nat) : (codeT cfVi (callT cfVi tVi 60) 60 cz (seqOf [cL b11, cL (cN 1 b11)]) (frame0 11 (ntOf 11) #[VS X o n]) st0).evalM (gcObs 0 0 (kp [0, 2, 4] [])) = some (.normal, frW 11 0 0 0 0 [(0, VS X o n)], st0) := congrFun (congrFun (congrFun s11a_k X) o) n
theorem i11_k : (fun (X : Array Value) (o n : Nat) => (codeT cfVi (callT cfVi tVi 60) 60 cz (cL (cL (cN 2 b11))) (frW 11 0 0 0 0 [(0, VS X o n)]) st0).evalM (gcObs 0 0 (kp [2, 4, 7, 8, 9] []))) = fun (X : Array Value) (o n : Nat) => some (.normal, fr11 X o n 0 0 0 0 0, st0) := by kernel_rfl
theorem i11 (X : Array Value) (o n : Nat) : (codeT cfVi (callT cfVi tVi 60) 60 cz (cL (cL (cN 2 b11))) (frW 11 0 0 0 0 [(0, VS X o n)]) st0).evalM (gcObs 0 0 (kp [2, 4, 7, 8, 9] [])) = some (.normal, fr11 X o n 0 0 0 0 0, st0) := congrFun (congrFun (congrFun i11_k X) o) n
theorem r11_k : (fun (X : Array Value) (o n : Nat) (p q r s i : Int) => (codeT cfVi (callT cfVi tVi 60) 60 cz k11 (fr11 X o n p q r s i) st0).evalM (gcObs 0 0 (selN [2, 4, 7, 8, 9] [2, 3]))) = fun (X : Array Value) (o n : Nat) (p q r s i : Int) => bif decide (i < (n : Int)) then (bif decide (0 ≤ i) && decide (i < (n : Int)) then (bif isI .i64 X[o + Int.toNat i * 1]? then (bif decide (vAt X o i ≥ 0) then (bif !decide (vAt X o i < 256) then some (.ret, frR 11 0 0 0 0 1, st0) else (bif inQ p q r s then (bif hasB p q r s (vAt X o i) then some (.ret, frR 11 0 0 0 0 1, st0) else (bif inQ p q r s && (decide (0 ≤ vAt X o i) && decide (vAt X o i < 256)) then some (.normal, fr11 X o n (W 0 p (vAt X o i)) (W 1 q (vAt X o i)) (W 2 r (vAt X o i)) (W 3 s (vAt X o i)) (inc i), st0) else none)) else none)) else some (.ret, frR 11 0 0 0 0 1, st0)) else none) else none) else some (.exit 0, fr11 X o n p q r s i, st0) := by kernel_rfl
theorem r11 (X : Array Value) (o n : Nat) (p q r s i : Int) : (codeT cfVi (callT cfVi tVi 60) 60 cz k11 (fr11 X o n p q r s i) st0).evalM (gcObs 0 0 (selN [2, 4, 7, 8, 9] [2, 3])) = bif decide (i < (n : Int)) then (bif decide (0 ≤ i) && decide (i < (n : Int)) then (bif isI .i64 X[o + Int.toNat i * 1]? then (bif decide (vAt X o i ≥ 0) then (bif !decide (vAt X o i < 256) then some (.ret, frR 11 0 0 0 0 1, st0) else (bif inQ p q r s then (bif hasB p q r s (vAt X o i) then some (.ret, frR 11 0 0 0 0 1, st0) else (bif inQ p q r s && (decide (0 ≤ vAt X o i) && decide (vAt X o i < 256)) then some (.normal, fr11 X o n (W 0 p (vAt X o i)) (W 1 q (vAt X o i)) (W 2 r (vAt X o i)) (W 3 s (vAt X o i)) (inc i), st0) else none)) else none)) else some (.ret, frR 11 0 0 0 0 1, st0)) else none) else none) else some (.exit 0, fr11 X o n p q r s i, st0) := congrFun (congrFun (congrFun (congrFun (congrFun (congrFun (congrFun (congrFun r11_k X) o) n) p) q) r) s) i
theorem e11_k : (fun (X : Array Value) (o n : Nat) (p q r s i : Int) => (codeT cfVi (callT cfVi tVi 60) 60 cz (cN 3 b11) (fr11 X o n p q r s i) st0).evalM (gcObs 0 0 (kp [2, 3] []))) = fun (_ : Array Value) (_ _ : Nat) (p q r s _ : Int) => some (.ret, frR 11 p q r s 0, st0) := by kernel_rfl
theorem e11 (X : Array Value) (o n : Nat) (p q r s i : Int) : (codeT cfVi (callT cfVi tVi 60) 60 cz (cN 3 b11) (fr11 X o n p q r s i) st0).evalM (gcObs 0 0 (kp [2, 3] [])) = some (.ret, frR 11 p q r s 0, st0) := congrFun (congrFun (congrFun (congrFun (congrFun (congrFun (congrFun (congrFun e11_k X) o) n) p) q) r) s) i
def b13 : Code := bodyOf 13
def k13 : Code := cB (cB (cR (cL (cN 3 b13))))
theorem b13_eq : b13 = nest [cL b13, cL (cN 1 b13), cL (cN 2 b13)] (.seq (.seq (cL (cL (cN 3 b13))) (.block 0 (.loop k13))) (cN 4 b13)) := by kernel_rfl
def fr13 (n p q r s i : Int) : Fr := frW 13 p q r s [(13, .int .i64 n), (14, .int .i64 i)]
theorem s13a_k : (fun (n : Int) => (codeT cfVi (callT cfVi tVi 60) 60 cz (seqOf [cL b13, cL (cN 1 b13), cL (cN 2 b13)]) (frame0 13 (ntOf 13) #[.int .i64 n]) st0).evalM (gcObs 0 0 (selN [0, 2, 4] [2, 3]))) = fun (n : Int) => bif decide (n < 0) then some (.ret, frR 13 0 0 0 0 1, st0) else bif decide (n > 256) then some (.ret, frR 13 0 0 0 0 1, st0) else some (.normal, frW 13 0 0 0 0 [(0, .int .i64 n)], st0) := by kernel_rfl
theorem s13a (n : Int) : (codeT cfVi (callT cfVi tVi 60) 60 cz (seqOf [cL b13, cL (cN 1 b13), cL (cN 2 b13)]) (frame0 13 (ntOf 13) #[.int .i64 n]) st0).evalM (gcObs 0 0 (selN [0, 2, 4] [2, 3])) = bif decide (n < 0) then some (.ret, frR 13 0 0 0 0 1, st0) else bif decide (n > 256) then some (.ret, frR 13 0 0 0 0 1, st0) else some (.normal, frW 13 0 0 0 0 [(0, .int .i64 n)], st0) := congrFun s13a_k n
theorem i13_k : (fun (n : Int) => (codeT cfVi (callT cfVi tVi 60) 60 cz (cL (cL (cN 3 b13))) (frW 13 0 0 0 0 [(0, .int .i64 n)]) st0).evalM (gcObs 0 0 (kp [2, 4, 13, 14] []))) = fun (n : Int) => some (.normal, fr13 n 0 0 0 0 0, st0) := by kernel_rfl
theorem i13 (n : Int) : (codeT cfVi (callT cfVi tVi 60) 60 cz (cL (cL (cN 3 b13))) (frW 13 0 0 0 0 [(0, .int .i64 n)]) st0).evalM (gcObs 0 0 (kp [2, 4, 13, 14] [])) = some (.normal, fr13 n 0 0 0 0 0, st0) := congrFun i13_k n
theorem r13_k : (fun (n p q r s i : Int) => (codeT cfVi (callT cfVi tVi 60) 60 cz k13 (fr13 n p q r s i) st0).evalM (gcObs 0 0 (kp [2, 4, 13, 14] []))) = fun (n p q r s i : Int) => bif decide (i < n) then (bif inQ p q r s && (decide (0 ≤ i) && decide (i < 256)) then some (.normal, fr13 n (W 0 p i) (W 1 q i) (W 2 r i) (W 3 s i) (inc i), st0) else none) else some (.exit 0, fr13 n p q r s i, st0) := by kernel_rfl
theorem r13 (n p q r s i : Int) : (codeT cfVi (callT cfVi tVi 60) 60 cz k13 (fr13 n p q r s i) st0).evalM (gcObs 0 0 (kp [2, 4, 13, 14] [])) = bif decide (i < n) then (bif inQ p q r s && (decide (0 ≤ i) && decide (i < 256)) then some (.normal, fr13 n (W 0 p i) (W 1 q i) (W 2 r i) (W 3 s i) (inc i), st0) else none) else some (.exit 0, fr13 n p q r s i, st0) := congrFun (congrFun (congrFun (congrFun (congrFun (congrFun r13_k n) p) q) r) s) i
theorem e13_k : (fun (n p q r s i : Int) => (codeT cfVi (callT cfVi tVi 60) 60 cz (cN 4 b13) (fr13 n p q r s i) st0).evalM (gcObs 0 0 (kp [2, 3] []))) = fun (_ p q r s _ : Int) => some (.ret, frR 13 p q r s 0, st0) := by kernel_rfl
theorem e13 (n p q r s i : Int) : (codeT cfVi (callT cfVi tVi 60) 60 cz (cN 4 b13) (fr13 n p q r s i) st0).evalM (gcObs 0 0 (kp [2, 3] [])) = some (.ret, frR 13 p q r s 0, st0) := congrFun (congrFun (congrFun (congrFun (congrFun (congrFun e13_k n) p) q) r) s) i
def b16 : Code := bodyOf 16
def k16 : Code := cB (cB (cR (cL (cN 2 b16))))
theorem b16_eq : b16 = nest [cL b16, cL (cN 1 b16)] (.seq (.seq (cL (cL (cN 2 b16))) (.block 0 (.loop k16))) (cN 3 b16)) := by kernel_rfl
def frA16 (X : Array Value) (o n : Nat) (Y : Array Value) (u m : Nat) : Fr := frS 16 [(0, VS X o n), (1, VS Y u m)]
def fr16 (X : Array Value) (o n : Nat) (Y : Array Value) (u m : Nat) (i : Int) : Fr := frS 16 [(0, VS X o n), (1, VS Y u m), (5, .int .i64 i)]
def frB16 (v : Bool) : Fr := frS 16 [(4, .bool v)]
theorem s16a_k : (fun (X : Array Value) (o n : Nat) (Y : Array Value) (u m : Nat) => (codeT cfVi (callT cfVi tVi 60) 60 cz (seqOf [cL b16, cL (cN 1 b16)]) (frame0 16 (ntOf 16) #[VS X o n, VS Y u m]) st0).evalM (gcObs 0 0 (selN [0, 1] [4]))) = fun (X : Array Value) (o n : Nat) (Y : Array Value) (u m : Nat) => bif ((n : Int) != (m : Int)) then some (.ret, frB16 false, st0) else some (.normal, frA16 X o n Y u m, st0) := by kernel_rfl
theorem s16a (X : Array Value) (o n : Nat) (Y : Array Value) (u m : Nat) : (codeT cfVi (callT cfVi tVi 60) 60 cz (seqOf [cL b16, cL (cN 1 b16)]) (frame0 16 (ntOf 16) #[VS X o n, VS Y u m]) st0).evalM (gcObs 0 0 (selN [0, 1] [4])) = bif ((n : Int) != (m : Int)) then some (.ret, frB16 false, st0) else some (.normal, frA16 X o n Y u m, st0) := congrFun (congrFun (congrFun (congrFun (congrFun (congrFun s16a_k X) o) n) Y) u) m
theorem i16_k : (fun (X : Array Value) (o n : Nat) (Y : Array Value) (u m : Nat) => (codeT cfVi (callT cfVi tVi 60) 60 cz (cL (cL (cN 2 b16))) (frA16 X o n Y u m) st0).evalM (gcObs 0 0 (kp [0, 1, 5] []))) = fun (X : Array Value) (o n : Nat) (Y : Array Value) (u m : Nat) => some (.normal, fr16 X o n Y u m 0, st0) := by kernel_rfl
theorem i16 (X : Array Value) (o n : Nat) (Y : Array Value) (u m : Nat) : (codeT cfVi (callT cfVi tVi 60) 60 cz (cL (cL (cN 2 b16))) (frA16 X o n Y u m) st0).evalM (gcObs 0 0 (kp [0, 1, 5] [])) = some (.normal, fr16 X o n Y u m 0, st0) := congrFun (congrFun (congrFun (congrFun (congrFun (congrFun i16_k X) o) n) Y) u) m
theorem r16_k : (fun (X : Array Value) (o n : Nat) (Y : Array Value) (u m : Nat) (i : Int) => (codeT cfVi (callT cfVi tVi 60) 60 cz k16 (fr16 X o n Y u m i) st0).evalM (gcObs 0 0 (selN [0, 1, 5] [4]))) = fun (X : Array Value) (o n : Nat) (Y : Array Value) (u m : Nat) (i : Int) => bif decide (i < (n : Int)) then (bif decide (0 ≤ i) && decide (i < (n : Int)) then (bif isI .i64 X[o + Int.toNat i * 1]? then (bif decide (0 ≤ i) && decide (i < (m : Int)) then (bif isI .i64 Y[u + Int.toNat i * 1]? then (bif vAt X o i != vAt Y u i then some (.ret, frB16 false, st0) else some (.normal, fr16 X o n Y u m (inc i), st0)) else none) else none) else none) else none) else some (.exit 0, fr16 X o n Y u m i, st0) := by kernel_rfl
theorem r16 (X : Array Value) (o n : Nat) (Y : Array Value) (u m : Nat) (i : Int) : (codeT cfVi (callT cfVi tVi 60) 60 cz k16 (fr16 X o n Y u m i) st0).evalM (gcObs 0 0 (selN [0, 1, 5] [4])) = bif decide (i < (n : Int)) then (bif decide (0 ≤ i) && decide (i < (n : Int)) then (bif isI .i64 X[o + Int.toNat i * 1]? then (bif decide (0 ≤ i) && decide (i < (m : Int)) then (bif isI .i64 Y[u + Int.toNat i * 1]? then (bif vAt X o i != vAt Y u i then some (.ret, frB16 false, st0) else some (.normal, fr16 X o n Y u m (inc i), st0)) else none) else none) else none) else none) else some (.exit 0, fr16 X o n Y u m i, st0) := congrFun (congrFun (congrFun (congrFun (congrFun (congrFun (congrFun r16_k X) o) n) Y) u) m) i
theorem e16_k : (fun (X : Array Value) (o n : Nat) (Y : Array Value) (u m : Nat) (i : Int) => (codeT cfVi (callT cfVi tVi 60) 60 cz (cN 3 b16) (fr16 X o n Y u m i) st0).evalM (gcObs 0 0 (kp [4] []))) = fun (_ : Array Value) (_ _ : Nat) (_ : Array Value) (_ _ : Nat) (_ : Int) => some (.ret, frB16 true, st0) := by kernel_rfl
theorem e16 (X : Array Value) (o n : Nat) (Y : Array Value) (u m : Nat) (i : Int) : (codeT cfVi (callT cfVi tVi 60) 60 cz (cN 3 b16) (fr16 X o n Y u m i) st0).evalM (gcObs 0 0 (kp [4] [])) = some (.ret, frB16 true, st0) := congrFun (congrFun (congrFun (congrFun (congrFun (congrFun (congrFun e16_k X) o) n) Y) u) m) i
end
end Go.Proofs.YtmpokdnpkjcnbaaDoor

/- The document's Of and All: paths. -/
namespace Go.Proofs.YtmpokdnpkjcnbaaDoor
open Go.Am
noncomputable section
def b12 : Code := bodyOf 12
def k12 : Code := cB (cB (cR (cL (cN 1 b12))))
theorem b12_eq : b12 = nest [cL b12] (.seq (.seq (cL (cL (cN 1 b12))) (.block 0 (.loop k12))) (cN 2 b12)) := by kernel_rfl
def frV (f : FuncId) (L : List (Nat × Value)) : Fr := { fn := f, nt := ntOf f, tm := tmS L .nil, pt := Tr.nil.put 2 (2, 0), loc := Tr.nil.put 2 (mkC 0 0 0 0), round := none }
def fr12 (X : Array Value) (o n : Nat) (i : Int) : Fr := frV 12 [(0, VS X o n), (4, .int .i64 i)]
def b14 : Code := bodyOf 14
def k14 : Code := cB (cB (cR (cL (cN 3 b14))))
theorem b14_eq : b14 = nest [cL b14, cL (cN 1 b14), cL (cN 2 b14)] (.seq (.seq (cL (cL (cN 3 b14))) (.block 0 (.loop k14))) (cN 4 b14)) := by kernel_rfl
def fr14 (n i : Int) (v : Value) : Fr := frV 14 [(0, .int .i64 n), (4, v), (5, .int .i64 i)]
theorem s12a_k : (fun (X : Array Value) (o n : Nat) => (codeT cfVi (callT cfVi tVi 60) 60 cz (seqOf [cL b12]) (frame0 12 (ntOf 12) #[VS X o n]) st0).evalM (gcObs 0 0 (kp [0, 2] []))) = fun (X : Array Value) (o n : Nat) => some (.normal, frV 12 [(0, VS X o n)], st0) := by kernel_rfl
theorem s12a (X : Array Value) (o n : Nat) : (codeT cfVi (callT cfVi tVi 60) 60 cz (seqOf [cL b12]) (frame0 12 (ntOf 12) #[VS X o n]) st0).evalM (gcObs 0 0 (kp [0, 2] [])) = some (.normal, frV 12 [(0, VS X o n)], st0) := congrFun (congrFun (congrFun s12a_k X) o) n
theorem i12_k : (fun (X : Array Value) (o n : Nat) => (codeT cfVi (callT cfVi tVi 60) 60 cz (cL (cL (cN 1 b12))) (frV 12 [(0, VS X o n)]) st0).evalM (gcObs 0 0 (kp [0, 2, 4] []))) = fun (X : Array Value) (o n : Nat) => some (.normal, fr12 X o n 0, st0) := by kernel_rfl
theorem i12 (X : Array Value) (o n : Nat) : (codeT cfVi (callT cfVi tVi 60) 60 cz (cL (cL (cN 1 b12))) (frV 12 [(0, VS X o n)]) st0).evalM (gcObs 0 0 (kp [0, 2, 4] [])) = some (.normal, fr12 X o n 0, st0) := congrFun (congrFun (congrFun i12_k X) o) n
theorem e12_k : (fun (X : Array Value) (o n : Nat) (i : Int) => (codeT cfVi (callT cfVi tVi 60) 60 cz (cN 2 b12) (fr12 X o n i) st0).evalM (gcObs 0 0 (kp [2, 3] []))) = fun (X : Array Value) (o n : Nat) (_ : Int) => bif intsOk X o n then some (.ret, frR 12 (wd (setI X o n) 0) (wd (setI X o n) 1) (wd (setI X o n) 2) (wd (setI X o n) 3) 0, st0) else none := by kernel_rfl
theorem e12 (X : Array Value) (o n : Nat) (i : Int) : (codeT cfVi (callT cfVi tVi 60) 60 cz (cN 2 b12) (fr12 X o n i) st0).evalM (gcObs 0 0 (kp [2, 3] [])) = bif intsOk X o n then some (.ret, frR 12 (wd (setI X o n) 0) (wd (setI X o n) 1) (wd (setI X o n) 2) (wd (setI X o n) 3) 0, st0) else none := congrFun (congrFun (congrFun (congrFun e12_k X) o) n) i
theorem s14a_k : (fun (n : Int) => (codeT cfVi (callT cfVi tVi 60) 60 cz (seqOf [cL b14, cL (cN 1 b14), cL (cN 2 b14)]) (frame0 14 (ntOf 14) #[.int .i64 n]) st0).evalM (gcObs 0 0 (selN [0, 2, 4] [2, 3]))) = fun (n : Int) => bif decide (n < 0) then some (.ret, frR 14 0 0 0 0 1, st0) else bif decide (n > 256) then some (.ret, frR 14 0 0 0 0 1, st0) else some (.normal, frV 14 [(0, .int .i64 n), (4, nilS)], st0) := by kernel_rfl
theorem s14a (n : Int) : (codeT cfVi (callT cfVi tVi 60) 60 cz (seqOf [cL b14, cL (cN 1 b14), cL (cN 2 b14)]) (frame0 14 (ntOf 14) #[.int .i64 n]) st0).evalM (gcObs 0 0 (selN [0, 2, 4] [2, 3])) = bif decide (n < 0) then some (.ret, frR 14 0 0 0 0 1, st0) else bif decide (n > 256) then some (.ret, frR 14 0 0 0 0 1, st0) else some (.normal, frV 14 [(0, .int .i64 n), (4, nilS)], st0) := congrFun s14a_k n
theorem i14_k : (fun (n : Int) => (codeT cfVi (callT cfVi tVi 60) 60 cz (cL (cL (cN 3 b14))) (frV 14 [(0, .int .i64 n), (4, nilS)]) st0).evalM (gcObs 0 0 (kp [0, 2, 4, 5] []))) = fun (n : Int) => some (.normal, fr14 n 0 nilS, st0) := by kernel_rfl
theorem i14 (n : Int) : (codeT cfVi (callT cfVi tVi 60) 60 cz (cL (cL (cN 3 b14))) (frV 14 [(0, .int .i64 n), (4, nilS)]) st0).evalM (gcObs 0 0 (kp [0, 2, 4, 5] [])) = some (.normal, fr14 n 0 nilS, st0) := congrFun i14_k n
theorem e14a_k : (fun (n i : Int) => (codeT cfVi (callT cfVi tVi 60) 60 cz (cN 4 b14) (fr14 n i nilS) st0).evalM (gcObs 0 0 (kp [2, 3] []))) = fun (_ _ : Int) => some (.ret, frR 14 (wd (setI #[] 0 0) 0) (wd (setI #[] 0 0) 1) (wd (setI #[] 0 0) 2) (wd (setI #[] 0 0) 3) 0, st0) := by kernel_rfl
theorem e14a (n i : Int) : (codeT cfVi (callT cfVi tVi 60) 60 cz (cN 4 b14) (fr14 n i nilS) st0).evalM (gcObs 0 0 (kp [2, 3] [])) = some (.ret, frR 14 (wd (setI #[] 0 0) 0) (wd (setI #[] 0 0) 1) (wd (setI #[] 0 0) 2) (wd (setI #[] 0 0) 3) 0, st0) := congrFun (congrFun e14a_k n) i
theorem e14b_k : (fun (n i : Int) (k : Nat) (E : Array Value) => (codeT cfVi (callT cfVi tVi 60) 60 cz (cN 4 b14) (fr14 n i (sl0 k)) (sRow E)).evalM (gcObs 0 0 (kp [2, 3] []))) = fun (_ _ : Int) (k : Nat) (E : Array Value) => bif decide (k ≤ k) && (decide (E.size ≠ 0) && E.all (freeN 9)) then (bif intsOk E 0 k then some (.ret, frR 14 (wd (setI E 0 k) 0) (wd (setI E 0 k) 1) (wd (setI E 0 k) 2) (wd (setI E 0 k) 3) 0, st0) else none) else none := by kernel_rfl
theorem e14b (n i : Int) (k : Nat) (E : Array Value) : (codeT cfVi (callT cfVi tVi 60) 60 cz (cN 4 b14) (fr14 n i (sl0 k)) (sRow E)).evalM (gcObs 0 0 (kp [2, 3] [])) = bif decide (k ≤ k) && (decide (E.size ≠ 0) && E.all (freeN 9)) then (bif intsOk E 0 k then some (.ret, frR 14 (wd (setI E 0 k) 0) (wd (setI E 0 k) 1) (wd (setI E 0 k) 2) (wd (setI E 0 k) 3) 0, st0) else none) else none := congrFun (congrFun (congrFun (congrFun e14b_k n) i) k) E
def p12a_bits : List Bool := [false, true, true, true, true, true, true, true, true, true, true, true, true, true, true, true, true, true, true, true, true, true, true, true, true, true, true, true, true, true, true, true, true]
def p12a_c (X : Array Value) (o n : Nat) (i : Int) : Bool :=
  (decide (i < ((n : Nat) : Int)))
   && ((decide (0 ≤ i) && decide (i < ((n : Nat) : Int)))
   && ((isI .i64 X[o + Int.toNat i * 1]?)
   && ((decide (vAt X o i < 0))
   && true)))
theorem p12a_cond_k : (fun (X : Array Value) (o n : Nat) (i : Int) => (followT p12a_bits (codeT cfVi (callT cfVi tVi 60) 60 cz k12 (fr12 X o n i) st0)).1) = fun (X : Array Value) (o n : Nat) (i : Int) => p12a_c X o n i := by kernel_rfl
theorem p12a_cond (X : Array Value) (o n : Nat) (i : Int) : (followT p12a_bits (codeT cfVi (callT cfVi tVi 60) 60 cz k12 (fr12 X o n i) st0)).1 = p12a_c X o n i := congrFun (congrFun (congrFun (congrFun p12a_cond_k X) o) n) i
theorem p12a_leaf_k : (fun (X : Array Value) (o n : Nat) (i : Int) => pathObs (gcObs 0 0 (selN [0, 2, 4] [2, 3])) p12a_bits (codeT cfVi (callT cfVi tVi 60) 60 cz k12 (fr12 X o n i) st0)) = fun (_ : Array Value) (_ _ : Nat) (_ : Int) => some (.ret, frR 12 0 0 0 0 1, st0) := by kernel_rfl
theorem p12a_leaf (X : Array Value) (o n : Nat) (i : Int) : pathObs (gcObs 0 0 (selN [0, 2, 4] [2, 3])) p12a_bits (codeT cfVi (callT cfVi tVi 60) 60 cz k12 (fr12 X o n i) st0) = some (.ret, frR 12 0 0 0 0 1, st0) := congrFun (congrFun (congrFun (congrFun p12a_leaf_k X) o) n) i
def p12b_bits : List Bool := [false, true, true, true, false, false, false, false, false, false, true, false, false, true, false, false, false, true, true, true, true, true, true, true, true, true, true, true, true, true, true, true, true, true, true]
def p12b_c (X : Array Value) (o n : Nat) (i : Int) : Bool :=
  (decide (i < ((n : Nat) : Int)))
   && ((decide (0 ≤ i) && decide (i < ((n : Nat) : Int)))
   && ((isI .i64 X[o + Int.toNat i * 1]?)
   && (!(decide (vAt X o i < 0))
   && ((decide (0 ≤ i) && decide (i < ((n : Nat) : Int)))
   && ((isI .i64 X[o + Int.toNat i * 1]?)
   && ((decide (vAt X o i > 255))
   && true))))))
theorem p12b_cond_k : (fun (X : Array Value) (o n : Nat) (i : Int) => (followT p12b_bits (codeT cfVi (callT cfVi tVi 60) 60 cz k12 (fr12 X o n i) st0)).1) = fun (X : Array Value) (o n : Nat) (i : Int) => p12b_c X o n i := by kernel_rfl
theorem p12b_cond (X : Array Value) (o n : Nat) (i : Int) : (followT p12b_bits (codeT cfVi (callT cfVi tVi 60) 60 cz k12 (fr12 X o n i) st0)).1 = p12b_c X o n i := congrFun (congrFun (congrFun (congrFun p12b_cond_k X) o) n) i
theorem p12b_leaf_k : (fun (X : Array Value) (o n : Nat) (i : Int) => pathObs (gcObs 0 0 (selN [0, 2, 4] [2, 3])) p12b_bits (codeT cfVi (callT cfVi tVi 60) 60 cz k12 (fr12 X o n i) st0)) = fun (_ : Array Value) (_ _ : Nat) (_ : Int) => some (.ret, frR 12 0 0 0 0 1, st0) := by kernel_rfl
theorem p12b_leaf (X : Array Value) (o n : Nat) (i : Int) : pathObs (gcObs 0 0 (selN [0, 2, 4] [2, 3])) p12b_bits (codeT cfVi (callT cfVi tVi 60) 60 cz k12 (fr12 X o n i) st0) = some (.ret, frR 12 0 0 0 0 1, st0) := congrFun (congrFun (congrFun (congrFun p12b_leaf_k X) o) n) i
def p12c_bits : List Bool := [false, true, true, true, false, false, false, false, false, false, true, false, false, true, false, false, false, false, false, false, false, false, false, false, true, true, false, false, false, false, false, false, true, false, false, true, false, false, true, false, true]
def p12c_c (X : Array Value) (o n : Nat) (i : Int) : Bool :=
  (decide (i < ((n : Nat) : Int)))
   && ((decide (0 ≤ i) && decide (i < ((n : Nat) : Int)))
   && ((isI .i64 X[o + Int.toNat i * 1]?)
   && (!(decide (vAt X o i < 0))
   && ((decide (0 ≤ i) && decide (i < ((n : Nat) : Int)))
   && ((isI .i64 X[o + Int.toNat i * 1]?)
   && (!(decide (vAt X o i > 255))
   && ((decide (0 ≤ i))
   && ((decide (Int.toNat i ≤ n))
   && ((decide (0 ≤ i) && decide (i < ((n : Nat) : Int)))
   && ((isI .i64 X[o + Int.toNat i * 1]?)
   && ((intsOk X (o + 0 * 1) (Int.toNat i - 0))
   && ((inB X (o + 0 * 1) (vAt X o i) (Int.toNat i - 0))
   && true))))))))))))
theorem p12c_cond_k : (fun (X : Array Value) (o n : Nat) (i : Int) => (followT p12c_bits (codeT cfVi (callT cfVi tVi 60) 60 cz k12 (fr12 X o n i) st0)).1) = fun (X : Array Value) (o n : Nat) (i : Int) => p12c_c X o n i := by kernel_rfl
theorem p12c_cond (X : Array Value) (o n : Nat) (i : Int) : (followT p12c_bits (codeT cfVi (callT cfVi tVi 60) 60 cz k12 (fr12 X o n i) st0)).1 = p12c_c X o n i := congrFun (congrFun (congrFun (congrFun p12c_cond_k X) o) n) i
theorem p12c_leaf_k : (fun (X : Array Value) (o n : Nat) (i : Int) => pathObs (gcObs 0 0 (selN [0, 2, 4] [2, 3])) p12c_bits (codeT cfVi (callT cfVi tVi 60) 60 cz k12 (fr12 X o n i) st0)) = fun (_ : Array Value) (_ _ : Nat) (_ : Int) => some (.ret, frR 12 0 0 0 0 1, st0) := by kernel_rfl
theorem p12c_leaf (X : Array Value) (o n : Nat) (i : Int) : pathObs (gcObs 0 0 (selN [0, 2, 4] [2, 3])) p12c_bits (codeT cfVi (callT cfVi tVi 60) 60 cz k12 (fr12 X o n i) st0) = some (.ret, frR 12 0 0 0 0 1, st0) := congrFun (congrFun (congrFun (congrFun p12c_leaf_k X) o) n) i
def p12d_bits : List Bool := [false, true, true, true, false, false, false, false, false, false, true, false, false, true, false, false, false, false, false, false, false, false, false, false, true, true, false, false, false, false, false, false, true, false, false, true, false, false, true, false, false]
def p12d_c (X : Array Value) (o n : Nat) (i : Int) : Bool :=
  (decide (i < ((n : Nat) : Int)))
   && ((decide (0 ≤ i) && decide (i < ((n : Nat) : Int)))
   && ((isI .i64 X[o + Int.toNat i * 1]?)
   && (!(decide (vAt X o i < 0))
   && ((decide (0 ≤ i) && decide (i < ((n : Nat) : Int)))
   && ((isI .i64 X[o + Int.toNat i * 1]?)
   && (!(decide (vAt X o i > 255))
   && ((decide (0 ≤ i))
   && ((decide (Int.toNat i ≤ n))
   && ((decide (0 ≤ i) && decide (i < ((n : Nat) : Int)))
   && ((isI .i64 X[o + Int.toNat i * 1]?)
   && ((intsOk X (o + 0 * 1) (Int.toNat i - 0))
   && (!(inB X (o + 0 * 1) (vAt X o i) (Int.toNat i - 0))
   && true))))))))))))
theorem p12d_cond_k : (fun (X : Array Value) (o n : Nat) (i : Int) => (followT p12d_bits (codeT cfVi (callT cfVi tVi 60) 60 cz k12 (fr12 X o n i) st0)).1) = fun (X : Array Value) (o n : Nat) (i : Int) => p12d_c X o n i := by kernel_rfl
theorem p12d_cond (X : Array Value) (o n : Nat) (i : Int) : (followT p12d_bits (codeT cfVi (callT cfVi tVi 60) 60 cz k12 (fr12 X o n i) st0)).1 = p12d_c X o n i := congrFun (congrFun (congrFun (congrFun p12d_cond_k X) o) n) i
theorem p12d_leaf_k : (fun (X : Array Value) (o n : Nat) (i : Int) => pathObs (gcObs 0 0 (selN [0, 2, 4] [2, 3])) p12d_bits (codeT cfVi (callT cfVi tVi 60) 60 cz k12 (fr12 X o n i) st0)) = fun (X : Array Value) (o n : Nat) (i : Int) => some (.normal, fr12 X o n (inc i), st0) := by kernel_rfl
theorem p12d_leaf (X : Array Value) (o n : Nat) (i : Int) : pathObs (gcObs 0 0 (selN [0, 2, 4] [2, 3])) p12d_bits (codeT cfVi (callT cfVi tVi 60) 60 cz k12 (fr12 X o n i) st0) = some (.normal, fr12 X o n (inc i), st0) := congrFun (congrFun (congrFun (congrFun p12d_leaf_k X) o) n) i
def p12x_bits : List Bool := [false, false]
def p12x_c (_ : Array Value) (_ n : Nat) (i : Int) : Bool :=
  !(decide (i < ((n : Nat) : Int)))
   && true
theorem p12x_cond_k : (fun (X : Array Value) (o n : Nat) (i : Int) => (followT p12x_bits (codeT cfVi (callT cfVi tVi 60) 60 cz k12 (fr12 X o n i) st0)).1) = fun (X : Array Value) (o n : Nat) (i : Int) => p12x_c X o n i := by kernel_rfl
theorem p12x_cond (X : Array Value) (o n : Nat) (i : Int) : (followT p12x_bits (codeT cfVi (callT cfVi tVi 60) 60 cz k12 (fr12 X o n i) st0)).1 = p12x_c X o n i := congrFun (congrFun (congrFun (congrFun p12x_cond_k X) o) n) i
theorem p12x_leaf_k : (fun (X : Array Value) (o n : Nat) (i : Int) => pathObs (gcObs 0 0 (selN [0, 2, 4] [2, 3])) p12x_bits (codeT cfVi (callT cfVi tVi 60) 60 cz k12 (fr12 X o n i) st0)) = fun (X : Array Value) (o n : Nat) (i : Int) => some (.exit 0, fr12 X o n i, st0) := by kernel_rfl
theorem p12x_leaf (X : Array Value) (o n : Nat) (i : Int) : pathObs (gcObs 0 0 (selN [0, 2, 4] [2, 3])) p12x_bits (codeT cfVi (callT cfVi tVi 60) 60 cz k12 (fr12 X o n i) st0) = some (.exit 0, fr12 X o n i, st0) := congrFun (congrFun (congrFun (congrFun p12x_leaf_k X) o) n) i
def p14a_bits : List Bool := [true, false, true, false, true, true, true]
def p14a_c (n i : Int) : Bool :=
  (decide (i < n))
   && true
theorem p14a_cond_k : (fun (n i : Int) => (followT p14a_bits (codeT cfVi (callT cfVi tVi 60) 60 cz k14 (fr14 n i nilS) st0)).1) = fun (n i : Int) => p14a_c n i := by kernel_rfl
theorem p14a_cond (n i : Int) : (followT p14a_bits (codeT cfVi (callT cfVi tVi 60) 60 cz k14 (fr14 n i nilS) st0)).1 = p14a_c n i := congrFun (congrFun p14a_cond_k n) i
theorem p14a_leaf_k : (fun (n i : Int) => pathObs (gcObs 0 0 (selR [0, 2, 4, 5] (some 1))) p14a_bits (codeT cfVi (callT cfVi tVi 60) 60 cz k14 (fr14 n i nilS) st0)) = fun (n i : Int) => some (.normal, fr14 n (inc i) (sl0 1), sRow ⟨[.int .i64 i]⟩) := by kernel_rfl
theorem p14a_leaf (n i : Int) : pathObs (gcObs 0 0 (selR [0, 2, 4, 5] (some 1))) p14a_bits (codeT cfVi (callT cfVi tVi 60) 60 cz k14 (fr14 n i nilS) st0) = some (.normal, fr14 n (inc i) (sl0 1), sRow ⟨[.int .i64 i]⟩) := congrFun (congrFun p14a_leaf_k n) i
def p14b_bits : List Bool := [true, false, true, false, true, true, true, false, true, true, true]
def p14b_c (n i : Int) (k : Nat) (E : Array Value) : Bool :=
  (decide (i < n))
   && ((decide (k ≤ k) && decide (k + 1 ≤ nLim) && true && true && true && true && true)
   && (!(decide (k + 1 ≤ k))
   && ((decide (0 + k * 1 ≤ E.size))
   && (((k == k) && (0 + k * 1 == E.size))
   && true))))
theorem p14b_cond_k : (fun (n i : Int) (k : Nat) (E : Array Value) => (followT p14b_bits (codeT cfVi (callT cfVi tVi 60) 60 cz k14 (fr14 n i (sl0 k)) (sRow E))).1) = fun (n i : Int) (k : Nat) (E : Array Value) => p14b_c n i k E := by kernel_rfl
theorem p14b_cond (n i : Int) (k : Nat) (E : Array Value) : (followT p14b_bits (codeT cfVi (callT cfVi tVi 60) 60 cz k14 (fr14 n i (sl0 k)) (sRow E))).1 = p14b_c n i k E := congrFun (congrFun (congrFun (congrFun p14b_cond_k n) i) k) E
theorem p14b_leaf_k : (fun (n i : Int) (k : Nat) (E : Array Value) => pathObs (gcObs 0 0 (selR [0, 2, 4, 5] (some 2))) p14b_bits (codeT cfVi (callT cfVi tVi 60) 60 cz k14 (fr14 n i (sl0 k)) (sRow E))) = fun (n i : Int) (k : Nat) (E : Array Value) => some (.normal, fr14 n (inc i) (sl0 (k + 1)), sRow (aE E k i)) := by kernel_rfl
theorem p14b_leaf (n i : Int) (k : Nat) (E : Array Value) : pathObs (gcObs 0 0 (selR [0, 2, 4, 5] (some 2))) p14b_bits (codeT cfVi (callT cfVi tVi 60) 60 cz k14 (fr14 n i (sl0 k)) (sRow E)) = some (.normal, fr14 n (inc i) (sl0 (k + 1)), sRow (aE E k i)) := congrFun (congrFun (congrFun (congrFun p14b_leaf_k n) i) k) E
def x14a_bits : List Bool := [false]
def x14a_c (n i : Int) : Bool :=
  !(decide (i < n))
   && true
theorem x14a_cond_k : (fun (n i : Int) => (followT x14a_bits (codeT cfVi (callT cfVi tVi 60) 60 cz k14 (fr14 n i nilS) st0)).1) = fun (n i : Int) => x14a_c n i := by kernel_rfl
theorem x14a_cond (n i : Int) : (followT x14a_bits (codeT cfVi (callT cfVi tVi 60) 60 cz k14 (fr14 n i nilS) st0)).1 = x14a_c n i := congrFun (congrFun x14a_cond_k n) i
theorem x14a_leaf_k : (fun (n i : Int) => pathObs (gcObs 0 0 (selR [0, 2, 4, 5] none)) x14a_bits (codeT cfVi (callT cfVi tVi 60) 60 cz k14 (fr14 n i nilS) st0)) = fun (n i : Int) => some (.exit 0, fr14 n i nilS, st0) := by kernel_rfl
theorem x14a_leaf (n i : Int) : pathObs (gcObs 0 0 (selR [0, 2, 4, 5] none)) x14a_bits (codeT cfVi (callT cfVi tVi 60) 60 cz k14 (fr14 n i nilS) st0) = some (.exit 0, fr14 n i nilS, st0) := congrFun (congrFun x14a_leaf_k n) i
def x14b_bits : List Bool := [false]
def x14b_c (n i : Int) (_ : Nat) (_ : Array Value) : Bool :=
  !(decide (i < n))
   && true
theorem x14b_cond_k : (fun (n i : Int) (k : Nat) (E : Array Value) => (followT x14b_bits (codeT cfVi (callT cfVi tVi 60) 60 cz k14 (fr14 n i (sl0 k)) (sRow E))).1) = fun (n i : Int) (k : Nat) (E : Array Value) => x14b_c n i k E := by kernel_rfl
theorem x14b_cond (n i : Int) (k : Nat) (E : Array Value) : (followT x14b_bits (codeT cfVi (callT cfVi tVi 60) 60 cz k14 (fr14 n i (sl0 k)) (sRow E))).1 = x14b_c n i k E := congrFun (congrFun (congrFun (congrFun x14b_cond_k n) i) k) E
theorem x14b_leaf_k : (fun (n i : Int) (k : Nat) (E : Array Value) => pathObs (gcObs 0 0 (selR [0, 2, 4, 5] (some 0))) x14b_bits (codeT cfVi (callT cfVi tVi 60) 60 cz k14 (fr14 n i (sl0 k)) (sRow E))) = fun (n i : Int) (k : Nat) (E : Array Value) => some (.exit 0, fr14 n i (sl0 k), sRow E) := by kernel_rfl
theorem x14b_leaf (n i : Int) (k : Nat) (E : Array Value) : pathObs (gcObs 0 0 (selR [0, 2, 4, 5] (some 0))) x14b_bits (codeT cfVi (callT cfVi tVi 60) 60 cz k14 (fr14 n i (sl0 k)) (sRow E)) = some (.exit 0, fr14 n i (sl0 k), sRow E) := congrFun (congrFun (congrFun (congrFun x14b_leaf_k n) i) k) E
end
end Go.Proofs.YtmpokdnpkjcnbaaDoor

/- MaskTells' functions: Of, All, Same, and the document's: told. -/
namespace Go.Proofs.YtmpokdnpkjcnbaaDoor
open Go.Am
noncomputable section
theorem vAt_nat (X : Array Value) (o i : Nat) : vAt X o (i : Int) = toI X[o + i]? := by
  unfold vAt
  rw [Int.toNat_natCast, Nat.mul_one]
theorem selN_plain (L R : List Tmp) (ex : Ex) (s : St) : plainJ s (selN L R ex).2 0 := by cases ex <;> trivial
/-- a number that may not stand there -/
def badAt (X : Array Value) (o i : Nat) : Bool := decide (toI X[o + i]? < 0) || (decide (toI X[o + i]? > 255) || inB X o (toI X[o + i]?) i)
def anyBad (X : Array Value) (o : Nat) : Nat → Bool
  | 0 => false
  | n + 1 => anyBad X o n || badAt X o n
theorem anyBad_at {X : Array Value} {o : Nat} : ∀ {n i : Nat}, i < n → badAt X o i = true → anyBad X o n = true := by
  intro n
  induction n with
  | zero => intro i h; exact absurd h (Nat.not_lt_zero _)
  | succ n ih =>
    intro i h hb
    unfold anyBad
    by_cases hl : i < n
    · rw [ih hl hb]; rfl
    · have : i = n := by omega
      subst this
      rw [hb, Bool.or_true]
theorem anyBad_no {X : Array Value} {o : Nat} : ∀ {n : Nat}, (∀ i, i < n → badAt X o i = false) → anyBad X o n = false := by
  intro n
  induction n with
  | zero => intro _; rfl
  | succ n ih =>
    intro h
    unfold anyBad
    rw [ih fun i hi => h i (by omega), h n (by omega)]; rfl
def errV : Value := .tuple #[mk 0 0 0 0, .int .i64 1]
def ofV (X : Array Value) (o n : Nat) : Value := bif anyBad X o n then errV else .tuple #[mkB (setI X o n), .int .i64 0]
theorem setI_zero (X : Array Value) (o : Nat) : setI X o 0 = 0#256 := by
  apply wd_ext
  intro j hj
  rw [setI_bit _ _ _ _ hj]
  simp [inB]
theorem setI_next (X : Array Value) (o i w : Nat) (hw : w < 256) (h : toI X[o + i]? = (w : Int)) : plus (setI X o i) w = setI X o (i + 1) := by
  apply wd_ext
  intro j hj
  rw [plus_bit _ hw, setI_bit _ _ _ _ hj, setI_bit _ _ _ _ hj]
  show _ = (inB X o (j : Int) i || toI X[o + i]? == (j : Int))
  rw [h]
  congr 1
  by_cases e : j = w
  · subst e; simp
  · rw [decide_eq_false e]
    cases hb : ((w : Int) == (j : Int)) with
    | false => rfl
    | true => rw [beq_iff_eq] at hb; exact absurd (by omega) e
def hd11 (X : Array Value) (o n i : Nat) : Fr := fr11 X o n (wd (setI X o i) 0) (wd (setI X o i) 1) (wd (setI X o i) 2) (wd (setI X o i) 3) i
theorem round11 {X : Array Value} {o n i : Nat} (h : intsOk X o n = true) (hi : i < n) :
    (codeT cfVi (callT cfVi tVi 60) 60 cz k11 (hd11 X o n i) st0).evalM (gcObs 0 0 (selN [2, 4, 7, 8, 9] [2, 3])) = some (bif badAt X o i then (.ret, frR 11 0 0 0 0 1, st0) else (.normal, hd11 X o n (i + 1), st0)) := by
  have hn := intsOk_n h
  have hg := intsOk_get h hi
  refine (r11 ..).trans ?_
  have e0 : o + Int.toNat (i : Int) * 1 = o + i := by rw [Int.toNat_natCast, Nat.mul_one]
  rw [decide_eq_true (by omega : (i : Int) < (n : Int)), cond_true, decide_eq_true (by omega : (0 : Int) ≤ i), Bool.true_and, cond_true, e0, hg, cond_true, vAt_nat]
  unfold badAt
  by_cases v0 : toI X[o + i]? < 0
  · rw [decide_eq_false (by omega : ¬ toI X[o + i]? ≥ 0), decide_eq_true v0]; rfl
  rw [decide_eq_true (by omega : toI X[o + i]? ≥ 0), cond_true, decide_eq_false v0, Bool.false_or]
  by_cases v1 : toI X[o + i]? > 255
  · rw [decide_eq_false (by omega : ¬ toI X[o + i]? < 256), decide_eq_true v1]; rfl
  obtain ⟨w, hw⟩ : ∃ w : Nat, toI X[o + i]? = (w : Int) := ⟨(toI X[o + i]?).toNat, by omega⟩
  have hw2 : w < 256 := by omega
  rw [decide_eq_true (by omega : toI X[o + i]? < 256), Bool.not_true, cond_false, decide_eq_false v1, Bool.false_or, wd_inQ, cond_true, hw, hasB_wd, setI_bit _ _ _ _ hw2]
  cases hb : inB X o (w : Int) i with
  | true => rfl
  | false =>
    rw [cond_false, cond_false, Bool.true_and, Bool.true_and, cond_true, W_wd _ hw2, W_wd _ hw2, W_wd _ hw2, W_wd _ hw2, setI_next X o i w hw2 hw, incI (by omega)]
    rfl
theorem resR_k11 : (fun a b c d e : Int => resultsV cfVi cz (frR 11 a b c d e) st0 [.cell 2 27, .tmp 3]) = fun a b c d e => some (.tuple #[mk a b c d, .int .i64 e]) := by kernel_rfl
theorem resR_k12 : (fun a b c d e : Int => resultsV cfVi cz (frR 12 a b c d e) st0 [.cell 2 24, .tmp 3]) = fun a b c d e => some (.tuple #[mk a b c d, .int .i64 e]) := by kernel_rfl
theorem resR_k13 : (fun a b c d e : Int => resultsV cfVi cz (frR 13 a b c d e) st0 [.cell 2 27, .tmp 3]) = fun a b c d e => some (.tuple #[mk a b c d, .int .i64 e]) := by kernel_rfl
theorem resR_k14 : (fun a b c d e : Int => resultsV cfVi cz (frR 14 a b c d e) st0 [.cell 2 24, .tmp 3]) = fun a b c d e => some (.tuple #[mk a b c d, .int .i64 e]) := by kernel_rfl
theorem res11 (a b c d e : Int) : resultsV cfVi cz (frR 11 a b c d e) st0 [.cell 2 27, .tmp 3] = some (.tuple #[mk a b c d, .int .i64 e]) := congrFun (congrFun (congrFun (congrFun (congrFun resR_k11 a) b) c) d) e
theorem res12 (a b c d e : Int) : resultsV cfVi cz (frR 12 a b c d e) st0 [.cell 2 24, .tmp 3] = some (.tuple #[mk a b c d, .int .i64 e]) := congrFun (congrFun (congrFun (congrFun (congrFun resR_k12 a) b) c) d) e
theorem res13 (a b c d e : Int) : resultsV cfVi cz (frR 13 a b c d e) st0 [.cell 2 27, .tmp 3] = some (.tuple #[mk a b c d, .int .i64 e]) := congrFun (congrFun (congrFun (congrFun (congrFun resR_k13 a) b) c) d) e
theorem res14 (a b c d e : Int) : resultsV cfVi cz (frR 14 a b c d e) st0 [.cell 2 24, .tmp 3] = some (.tuple #[mk a b c d, .int .i64 e]) := congrFun (congrFun (congrFun (congrFun (congrFun resR_k14 a) b) c) d) e
/-- a call's end: it answers v -/
def EndV (B : Nat) (rs : List ResultVar) (v : Value) : Ex → Fr → St → Prop := fun ex fr' s' => (ex = .normal ∨ ex = .ret) ∧ ∃ frj sj, Sn ⟨0, B⟩ 0 0 cz frj sj fr' s' ∧ resultsV cfVi cz frj sj rs = some v
theorem ok11 [Z : Zone] [T : Tab] {B : Nat} {X : Array Value} {o n : Nat} (h : intsOk X o n = true) :
    AWp cfVi ⟨0, B⟩ cz b11 (frame0 11 (ntOf 11) #[VS X o n]) st0 (EndV B [.cell 2 27, .tmp 3] (ofV X o n)) := by
  rw [b11_eq]
  refine AWp.nestFirst (n := 60) (lim := 60) goodVi (of_treeM tVi_ok (s11a ..)) trivial (Nat.zero_le _) fun fr1 s1 hS1 => ?_
  refine AWp.forSn (N := n) (n2 := 60) (lim2 := 60) (head := hd11 X o n) (sh := fun _ => st0) (stop := fun i => if i < n then (bif badAt X o i then some (.ret, frR 11 0 0 0 0 1, st0) else none) else some (.exit 0, hd11 X o n i, st0))
    goodVi rfl hS1 (of_treeM tVi_ok ((i11 ..).trans ?_)) trivial (sel2 := fun _ => selN [2, 4, 7, 8, 9] [2, 3]) (fun i hi _ => of_treeM tVi_ok ?_) (fun i hi => ?_) ⟨n, Nat.le_refl _, by simp⟩ (fun i r hi hno hr fr2 s2 hS2 => ?_)
  · unfold hd11
    rw [setI_zero, wd_zero, wd_zero, wd_zero, wd_zero]; rfl
  · by_cases hlt : i < n
    · rw [if_pos hlt, round11 h hlt]
      cases badAt X o i <;> rfl
    · rw [if_neg hlt]
      refine (r11 ..).trans ?_
      rw [decide_eq_false (by omega)]; rfl
  · split <;> exact selN_plain _ _ _ _
  · by_cases hlt : i < n
    · rw [if_pos hlt] at hr
      cases hq : badAt X o i with
      | false => rw [hq] at hr; cases hr
      | true =>
        rw [hq] at hr; cases hr
        unfold ofV
        rw [anyBad_at hlt hq]
        exact ⟨.inr rfl, _, _, hS2, res11 ..⟩
    · rw [if_neg hlt] at hr; cases hr
      have e : i = n := by omega
      subst e
      have hno2 : anyBad X o i = false := anyBad_no fun j hj => by
        have := hno j hj
        rw [if_pos hj] at this
        cases hq : badAt X o j with
        | false => rfl
        | true => rw [hq] at this; cases this
      unfold ofV
      rw [hno2]
      exact ⟨rfl, AWp.seen goodVi rfl hS2 (Nat.zero_le _) (of_treeM tVi_ok (e11 ..)) trivial fun fr4 s4 hS4 _ => ⟨.inr rfl, _, _, hS4, res11 ..⟩⟩
theorem intsOk_le {X : Array Value} {o n i : Nat} (h : intsOk X o n = true) (hi : i ≤ n) : intsOk X o i = true := by
  have hn := intsOk_n h
  unfold intsOk
  rw [Bool.and_eq_true, decide_eq_true_eq, List.all_eq_true]
  exact ⟨by omega, fun t ht => intsOk_get h (by have := List.mem_range.1 ht; omega)⟩
theorem round12 {X : Array Value} {o n i : Nat} (h : intsOk X o n = true) (hi : i < n) :
    gcObs 0 0 (selN [0, 2, 4] [2, 3]) (code cfVi (call cfVi 60) 60 cz k12 (fr12 X o n i) st0) = some (bif badAt X o i then (.ret, frR 12 0 0 0 0 1, st0) else (.normal, fr12 X o n ((i + 1 : Nat) : Int), st0)) := by
  have hn := intsOk_n h
  have hg := intsOk_get h hi
  have e0 : o + Int.toNat (i : Int) * 1 = o + i := by rw [Int.toNat_natCast, Nat.mul_one]
  have c1 : decide ((i : Int) < ((n : Nat) : Int)) = true := decide_eq_true (by omega)
  have c2 : decide ((0 : Int) ≤ (i : Int)) = true := decide_eq_true (by omega)
  have c3 : decide (Int.toNat (i : Int) ≤ n) = true := decide_eq_true (by rw [Int.toNat_natCast]; omega)
  have c4 : intsOk X (o + 0 * 1) (Int.toNat (i : Int) - 0) = true := by rw [Int.toNat_natCast, Nat.sub_zero]; exact intsOk_le h (by omega)
  have c5 : inB X (o + 0 * 1) (vAt X o (i : Int)) (Int.toNat (i : Int) - 0) = inB X o (toI X[o + i]?) i := by rw [vAt_nat, Int.toNat_natCast, Nat.sub_zero]; rfl
  unfold badAt
  by_cases v0 : toI X[o + i]? < 0
  · rw [decide_eq_true v0]
    refine path_eval tVi_ok ((p12a_cond ..).trans ?_) (p12a_leaf ..)
    unfold p12a_c
    simp only [c1, c2, e0, hg, vAt_nat, decide_eq_true v0]; rfl
  rw [decide_eq_false v0, Bool.false_or]
  by_cases v1 : toI X[o + i]? > 255
  · rw [decide_eq_true v1]
    refine path_eval tVi_ok ((p12b_cond ..).trans ?_) (p12b_leaf ..)
    unfold p12b_c
    simp only [c1, c2, e0, hg, vAt_nat, decide_eq_false v0, decide_eq_true v1]; rfl
  rw [decide_eq_false v1, Bool.false_or]
  cases hb : inB X o (toI X[o + i]?) i with
  | true =>
    refine path_eval tVi_ok ((p12c_cond ..).trans ?_) (p12c_leaf ..)
    unfold p12c_c
    simp only [c1, c2, c3, c4, c5, e0, hg, hb]
    simp only [vAt_nat, decide_eq_false v0, decide_eq_false v1]; rfl
  | false =>
    have h1 := p12d_leaf X o n (i : Int)
    rw [incI (by omega)] at h1
    refine path_eval tVi_ok ((p12d_cond ..).trans ?_) h1
    unfold p12d_c
    simp only [c1, c2, c3, c4, c5, e0, hg, hb]
    simp only [vAt_nat, decide_eq_false v0, decide_eq_false v1]; rfl
theorem ok12 [Z : Zone] [T : Tab] {B : Nat} {X : Array Value} {o n : Nat} (h : intsOk X o n = true) :
    AWp cfVi ⟨0, B⟩ cz b12 (frame0 12 (ntOf 12) #[VS X o n]) st0 (EndV B [.cell 2 24, .tmp 3] (ofV X o n)) := by
  rw [b12_eq]
  refine AWp.nestFirst (n := 60) (lim := 60) goodVi (of_treeM tVi_ok (s12a ..)) trivial (Nat.zero_le _) fun fr1 s1 hS1 => ?_
  refine AWp.forSn (N := n) (n2 := 60) (lim2 := 60) (head := fun i => fr12 X o n i) (sh := fun _ => st0) (stop := fun i => if i < n then (bif badAt X o i then some (.ret, frR 12 0 0 0 0 1, st0) else none) else some (.exit 0, fr12 X o n i, st0))
    goodVi rfl hS1 (of_treeM tVi_ok (i12 ..)) trivial (sel2 := fun _ => selN [0, 2, 4] [2, 3]) (fun i hi _ => ?_) (fun i hi => ?_) ⟨n, Nat.le_refl _, by simp⟩ (fun i r hi hno hr fr2 s2 hS2 => ?_)
  · by_cases hlt : i < n
    · rw [if_pos hlt, round12 h hlt]
      cases badAt X o i <;> rfl
    · rw [if_neg hlt]
      refine path_eval tVi_ok ((p12x_cond ..).trans ?_) (p12x_leaf ..)
      unfold p12x_c
      rw [decide_eq_false (by omega)]; rfl
  · split <;> exact selN_plain _ _ _ _
  · by_cases hlt : i < n
    · rw [if_pos hlt] at hr
      cases hq : badAt X o i with
      | false => rw [hq] at hr; cases hr
      | true =>
        rw [hq] at hr; cases hr
        unfold ofV
        rw [anyBad_at hlt hq]
        exact ⟨.inr rfl, _, _, hS2, res12 ..⟩
    · rw [if_neg hlt] at hr; cases hr
      have e : i = n := by omega
      subst e
      have hno2 : anyBad X o i = false := anyBad_no fun j hj => by
        have := hno j hj
        rw [if_pos hj] at this
        cases hq : badAt X o j with
        | false => rfl
        | true => rw [hq] at this; cases this
      unfold ofV
      rw [hno2]
      have he := e12 X o i (i : Int)
      rw [h] at he
      exact ⟨rfl, AWp.seen goodVi rfl hS2 (Nat.zero_le _) (of_treeM tVi_ok he) trivial fun fr4 s4 hS4 _ => ⟨.inr rfl, _, _, hS4, res12 ..⟩⟩
/-! ### All -/
def rng (i : Nat) : B256 := setB (fun _ => true) i
theorem rng_bit {i : Nat} (hi : i ≤ 256) (j : Nat) : (rng i).getLsbD j = decide (j < i) := by
  unfold rng
  rw [setB_bit _ i hi, Bool.and_true]
def allVn (n : Int) : Value := if n < 0 then errV else if n > 256 then errV else .tuple #[mkB (rng n.toNat), .int .i64 0]
def hd13 (n i : Nat) : Fr := fr13 n (wd (rng i) 0) (wd (rng i) 1) (wd (rng i) 2) (wd (rng i) 3) i
theorem round13 {n i : Nat} (hn : n ≤ 256) (hi : i < n) : (codeT cfVi (callT cfVi tVi 60) 60 cz k13 (hd13 n i) st0).evalM (gcObs 0 0 (kp [2, 4, 13, 14] [])) = some (.normal, hd13 n (i + 1), st0) := by
  refine (r13 ..).trans ?_
  have hp : plus (rng i) i = rng (i + 1) := rfl
  rw [decide_eq_true (by omega : (i : Int) < (n : Int)), cond_true, wd_inQ, decide_eq_true (by omega : (0 : Int) ≤ i), decide_eq_true (by omega : (i : Int) < 256), Bool.true_and, Bool.true_and, cond_true, W_wd _ (by omega), W_wd _ (by omega), W_wd _ (by omega), W_wd _ (by omega), hp, incN (by omega)]
  rfl
theorem rng_zero (k : Nat) : wd (rng 0) k = 0 := wd_zero k
theorem ok13 [Z : Zone] [T : Tab] {B : Nat} {n : Int} : AWp cfVi ⟨0, B⟩ cz b13 (frame0 13 (ntOf 13) #[.int .i64 n]) st0 (EndV B [.cell 2 27, .tmp 3] (allVn n)) := by
  rw [b13_eq]
  have h := s13a n
  unfold allVn
  by_cases h0 : n < 0
  · rw [decide_eq_true h0, cond_true] at h
    rw [if_pos h0]
    exact AWp.nestFirst (n := 60) (lim := 60) goodVi (of_treeM tVi_ok h) trivial (Nat.zero_le _) fun fr1 s1 hS1 => ⟨.inr rfl, _, _, hS1, res13 ..⟩
  rw [decide_eq_false h0, cond_false] at h
  rw [if_neg h0]
  by_cases h1 : n > 256
  · rw [decide_eq_true h1, cond_true] at h
    rw [if_pos h1]
    exact AWp.nestFirst (n := 60) (lim := 60) goodVi (of_treeM tVi_ok h) trivial (Nat.zero_le _) fun fr1 s1 hS1 => ⟨.inr rfl, _, _, hS1, res13 ..⟩
  rw [decide_eq_false h1, cond_false] at h
  rw [if_neg h1]
  obtain ⟨k, rfl⟩ : ∃ k : Nat, n = k := ⟨n.toNat, by omega⟩
  have hk : k ≤ 256 := by omega
  refine AWp.nestFirst (n := 60) (lim := 60) goodVi (of_treeM tVi_ok h) trivial (Nat.zero_le _) fun fr1 s1 hS1 => ?_
  refine AWp.forSn (N := k) (n2 := 60) (lim2 := 60) (head := hd13 k) (sh := fun _ => st0) (stop := fun i => if i < k then none else some (.exit 0, hd13 k i, st0))
    goodVi rfl hS1 (of_treeM tVi_ok ((i13 ..).trans ?_)) trivial (sel2 := fun _ => kp [2, 4, 13, 14] []) (fun i hi _ => of_treeM tVi_ok ?_) (fun i hi => ?_) ⟨k, Nat.le_refl _, by simp⟩ (fun i r hi hno hr fr2 s2 hS2 => ?_)
  · unfold hd13
    rw [rng_zero, rng_zero, rng_zero, rng_zero]; rfl
  · by_cases hlt : i < k
    · rw [if_pos hlt, round13 hk hlt]
    · rw [if_neg hlt]
      refine (r13 ..).trans ?_
      rw [decide_eq_false (by omega)]; rfl
  · split <;> trivial
  · by_cases hlt : i < k
    · rw [if_pos hlt] at hr; cases hr
    · rw [if_neg hlt] at hr; cases hr
      have e : i = k := by omega
      subst e
      exact ⟨rfl, AWp.seen goodVi rfl hS2 (Nat.zero_le _) (of_treeM tVi_ok (e13 ..)) trivial fun fr4 s4 hS4 _ => ⟨.inr rfl, _, _, hS4, res13 ..⟩⟩
theorem cnt_rng : ∀ i, i ≤ 256 → cntB (rng 256) i = i := by
  intro i
  induction i with
  | zero => intro _; rfl
  | succ i ih =>
    intro hi
    rw [cntB_tt (by rw [rng_bit (Nat.le_refl _)]; exact decide_eq_true (by omega)), ih (by omega)]
theorem set_lst_n (s : B256) {n : Nat} (hn : n ≤ 256) : ∀ j, j < 256 → (setI (lstE s n) 0 (cntB s n)).getLsbD j = (decide (j < n) && s.getLsbD j) := by
  intro j hj
  rw [setI_bit _ _ _ _ hj]
  cases hb : (decide (j < n) && s.getLsbD j) with
  | true =>
    rw [Bool.and_eq_true, decide_eq_true_eq] at hb
    refine inB_iff.2 ⟨cntB s j, ?_, ?_⟩
    · have := cntB_mono s (by omega : j + 1 ≤ n)
      rw [cntB_tt hb.2] at this
      omega
    · rw [Nat.zero_add, lstE_at s n j hb.1 hb.2]; rfl
  | false =>
    cases hi : inB (lstE s n) 0 (j : Int) (cntB s n) with
    | false => rfl
    | true =>
      obtain ⟨t, h1, h2⟩ := inB_iff.1 hi
      obtain ⟨j', h3, h4, h5, h6⟩ := lstE_num s n t h1
      rw [Nat.zero_add, h6] at h2
      have e : (j' : Int) = (j : Int) := h2
      have e2 : j' = j := by omega
      subst e2
      rw [h4, decide_eq_true h3] at hb
      cases hb
theorem lst_ints_n (s : B256) {n : Nat} (hn : n ≤ 256) : intsOk (lstE s n) 0 (cntB s n) = true := by
  have := cntB_le s n
  unfold intsOk maxI
  rw [Bool.and_eq_true, decide_eq_true_eq, List.all_eq_true]
  refine ⟨by omega, fun t ht => ?_⟩
  obtain ⟨j, _, _, _, h⟩ := lstE_num s n t (List.mem_range.1 ht)
  rw [Nat.zero_add, h]; rfl
def st14 (i : Nat) : St := stR (rng 256) i
def hd14 (n i : Nat) : Fr := fr14 n i (vR (rng 256) i)
theorem round14 {n i : Nat} (hn : n ≤ 256) (hi : i < n) : gcObs 0 0 (selR [0, 2, 4, 5] (bif Nat.beq i 0 then some 1 else some 2)) (code cfVi (call cfVi 60) 60 cz k14 (hd14 n i) (st14 i)) = some (.normal, hd14 n (i + 1), st14 (i + 1)) := by
  have hb : (rng 256).getLsbD i = true := by rw [rng_bit (Nat.le_refl _)]; exact decide_eq_true (by omega)
  have hc := cnt_rng i (by omega)
  have hc1 := cnt_rng (i + 1) (by omega)
  have e4 : st14 (i + 1) = sRow (lstE (rng 256) i ++ #[.int .i64 i]) := by
    unfold st14 stR
    rw [cntB_tt hb, lstE_tt hb]; rfl
  have e5 : hd14 n (i + 1) = fr14 n ((i + 1 : Nat) : Int) (sl0 (i + 1)) := by
    unfold hd14 vR
    rw [hc1]; rfl
  have hinc : inc (i : Int) = ((i + 1 : Nat) : Int) := incN (by omega)
  have hli : decide ((i : Int) < (n : Int)) = true := decide_eq_true (by omega)
  rw [e4, e5, ← hinc]
  unfold hd14 st14 vR stR
  rw [hc]
  cases hz : Nat.beq i 0 with
  | true =>
    have h0 := Nat.eq_of_beq_eq_true hz
    subst h0
    exact path_eval tVi_ok ((p14a_cond ..).trans (by unfold p14a_c; rw [hli]; rfl)) (p14a_leaf ..)
  | false =>
    obtain ⟨c1, c2, c3, c4⟩ := app_c (n := i) (E := lstE (rng 256) i) (by rw [lstE_size, hc]) (by omega)
    have h1 := p14b_leaf n i i (lstE (rng 256) i)
    have ha : aE (lstE (rng 256) i) i i = lstE (rng 256) i ++ #[.int .i64 i] := by
      unfold aE
      have : (lstE (rng 256) i).size = i := by rw [lstE_size, hc]
      rw [Nat.zero_add, Nat.mul_one]
      have e : (lstE (rng 256) i).extract 0 i = lstE (rng 256) i := by
        conv => lhs; rw [← this]
        simp [this]
      rw [e]
    rw [ha] at h1
    exact path_eval tVi_ok ((p14b_cond ..).trans (by unfold p14b_c; simp only [hli, c1, c2, c3, c4]; rfl)) h1
theorem ok14 [Z : Zone] [T : Tab] {B : Nat} {n : Int} : AWp cfVi ⟨0, B⟩ cz b14 (frame0 14 (ntOf 14) #[.int .i64 n]) st0 (EndV B [.cell 2 24, .tmp 3] (allVn n)) := by
  rw [b14_eq]
  have h := s14a n
  unfold allVn
  by_cases h0 : n < 0
  · rw [decide_eq_true h0, cond_true] at h
    rw [if_pos h0]
    exact AWp.nestFirst (n := 60) (lim := 60) goodVi (of_treeM tVi_ok h) trivial (Nat.zero_le _) fun fr1 s1 hS1 => ⟨.inr rfl, _, _, hS1, res14 ..⟩
  rw [decide_eq_false h0, cond_false] at h
  rw [if_neg h0]
  by_cases h1 : n > 256
  · rw [decide_eq_true h1, cond_true] at h
    rw [if_pos h1]
    exact AWp.nestFirst (n := 60) (lim := 60) goodVi (of_treeM tVi_ok h) trivial (Nat.zero_le _) fun fr1 s1 hS1 => ⟨.inr rfl, _, _, hS1, res14 ..⟩
  rw [decide_eq_false h1, cond_false] at h
  rw [if_neg h1]
  obtain ⟨k, rfl⟩ : ∃ k : Nat, n = k := ⟨n.toNat, by omega⟩
  have hk : k ≤ 256 := by omega
  refine AWp.nestFirst (n := 60) (lim := 60) goodVi (of_treeM tVi_ok h) trivial (Nat.zero_le _) fun fr1 s1 hS1 => ?_
  refine AWp.forSn (N := k) (n2 := 60) (lim2 := 60) (head := hd14 k) (sh := st14) (stop := fun i => if i < k then none else some (.exit 0, hd14 k i, st14 i))
    goodVi rfl hS1 (of_treeM tVi_ok (i14 ..)) trivial (sel2 := fun i => selR [0, 2, 4, 5] (bif Nat.blt i k then (bif Nat.beq i 0 then some 1 else some 2) else (bif Nat.beq i 0 then none else some 0))) (fun i hi _ => ?_) (fun i hi => ?_) ⟨k, Nat.le_refl _, by simp⟩ (fun i r hi hno hr fr2 s2 hS2 => ?_)
  · by_cases hlt : i < k
    · have hb1 : Nat.blt i k = true := Nat.ble_eq_true_of_le (by omega)
      rw [if_pos hlt, hb1]
      exact round14 hk hlt
    · have hb1 : Nat.blt i k = false := by
        cases h : Nat.blt i k with
        | false => rfl
        | true => exact absurd (Nat.le_of_ble_eq_true h) (by omega)
      have hli : decide ((i : Int) < (k : Int)) = false := decide_eq_false (by omega)
      rw [if_neg hlt, hb1]
      unfold hd14 st14 vR stR
      rw [cnt_rng i (by omega)]
      cases hz : Nat.beq i 0 with
      | true => exact path_eval tVi_ok ((x14a_cond ..).trans (by unfold x14a_c; rw [hli]; rfl)) (x14a_leaf ..)
      | false => exact path_eval tVi_ok ((x14b_cond ..).trans (by unfold x14b_c; rw [hli]; rfl)) (x14b_leaf ..)
  · by_cases hlt : i < k
    · rw [if_pos hlt]; exact plainR _ _ (i + 1) _ _
    · rw [if_neg hlt]; exact plainR _ _ i _ _
  · by_cases hlt : i < k
    · rw [if_pos hlt] at hr; cases hr
    · rw [if_neg hlt] at hr; cases hr
      have e : i = k := by omega
      subst e
      refine ⟨rfl, ?_⟩
      have hset : setI (lstE (rng 256) i) 0 i = rng i := by
        have := set_lst_n (rng 256) hk
        rw [cnt_rng i hk] at this
        apply wd_ext
        intro j hj
        rw [this j hj, rng_bit (Nat.le_refl _), rng_bit hk, decide_eq_true hj, Bool.and_true]
      have hints := lst_ints_n (rng 256) hk
      rw [cnt_rng i hk] at hints
      have hS2' := hS2
      unfold hd14 st14 vR stR at hS2'
      rw [cnt_rng i hk] at hS2'
      cases hz : Nat.beq i 0 with
      | true =>
        have h0 := Nat.eq_of_beq_eq_true hz
        subst h0
        have he := e14a (0 : Nat) (0 : Nat)
        have hnil : setI #[] 0 0 = rng 0 := hset
        rw [hnil] at he
        exact AWp.seen goodVi rfl hS2' (Nat.zero_le _) (of_treeM tVi_ok he) trivial fun fr4 s4 hS4 _ => ⟨.inr rfl, _, _, hS4, res14 ..⟩
      | false =>
        rw [hz] at hS2'
        have he := e14b i i i (lstE (rng 256) i)
        have hne : i ≠ 0 := Nat.ne_of_beq_eq_false hz
        rw [(lstE_plain (rng 256) i).2.2, lstE_size, cnt_rng i hk, decide_eq_true (Nat.le_refl i), decide_eq_true hne, hints, hset] at he
        exact AWp.seen goodVi rfl hS2' (Nat.zero_le _) (of_treeM tVi_ok he) trivial fun fr4 s4 hS4 _ => ⟨.inr rfl, _, _, hS4, res14 ..⟩
end
end Go.Proofs.YtmpokdnpkjcnbaaDoor

/- MaskTells' functions: Same; all told. -/
namespace Go.Proofs.YtmpokdnpkjcnbaaDoor
open Go.Am
noncomputable section
def sameR (X : Array Value) (o : Nat) (Y : Array Value) (u : Nat) : Nat → Bool
  | 0 => true
  | n + 1 => sameR X o Y u n && toI X[o + n]? == toI Y[u + n]?
theorem sameR_no {X : Array Value} {o : Nat} {Y : Array Value} {u : Nat} : ∀ {n i : Nat}, i < n → (toI X[o + i]? == toI Y[u + i]?) = false → sameR X o Y u n = false := by
  intro n
  induction n with
  | zero => intro i h; exact absurd h (Nat.not_lt_zero _)
  | succ n ih =>
    intro i h he
    unfold sameR
    by_cases hl : i < n
    · rw [ih hl he]; rfl
    · have : i = n := by omega
      subst this
      rw [he, Bool.and_false]
theorem sameR_yes {X : Array Value} {o : Nat} {Y : Array Value} {u : Nat} : ∀ {n : Nat}, (∀ i, i < n → (toI X[o + i]? == toI Y[u + i]?) = true) → sameR X o Y u n = true := by
  intro n
  induction n with
  | zero => intro _; rfl
  | succ n ih =>
    intro h
    unfold sameR
    rw [ih fun i hi => h i (by omega), h n (by omega)]; rfl
def sameB (X : Array Value) (o n : Nat) (Y : Array Value) (u m : Nat) : Bool := Nat.beq n m && sameR X o Y u n
theorem ret16 (v : Bool) : ∀ p ∈ [((4 : Tmp), Value.bool v)], (frB16 v).tm.get p.1 = some p.2 := fun p hp => by
  simp only [List.mem_singleton] at hp; subst hp
  simp [frB16, frS, tmS, Tr.get_put]
theorem ok16 [Z : Zone] [T : Tab] {B : Nat} {X : Array Value} {o n : Nat} {Y : Array Value} {u m : Nat} (h : intsOk X o n = true) (h' : intsOk Y u m = true) :
    AWp cfVi ⟨0, B⟩ cz b16 (frame0 16 (ntOf 16) #[VS X o n, VS Y u m]) st0 (RetL [(4, .bool (sameB X o n Y u m))]) := by
  rw [b16_eq]
  have hn := intsOk_n h
  have hs := s16a X o n Y u m
  unfold sameB
  by_cases hnm : n = m
  · subst hnm
    have e0 : ((n : Int) != (n : Int)) = false := by simp
    have e1 : Nat.beq n n = true := Nat.beq_refl n
    rw [e0, cond_false] at hs
    rw [e1, Bool.true_and]
    refine AWp.nestFirst (n := 60) (lim := 60) goodVi (of_treeM tVi_ok hs) trivial (Nat.zero_le _) fun fr1 s1 hS1 => ?_
    refine AWp.forSn (N := n) (n2 := 60) (lim2 := 60) (head := fun i => fr16 X o n Y u n i) (sh := fun _ => st0) (stop := fun i => if i < n then (bif toI X[o + i]? == toI Y[u + i]? then none else some (.ret, frB16 false, st0)) else some (.exit 0, fr16 X o n Y u n i, st0))
      goodVi rfl hS1 (of_treeM tVi_ok (i16 ..)) trivial (sel2 := fun _ => selN [0, 1, 5] [4]) (fun i hi _ => of_treeM tVi_ok ((r16 ..).trans ?_)) (fun i hi => ?_) ⟨n, Nat.le_refl _, by simp⟩ (fun i r hi hno hr fr2 s2 hS2 => ?_)
    · by_cases hlt : i < n
      · have hg := intsOk_get h hlt
        have hg' := intsOk_get h' hlt
        have e2 : o + Int.toNat (i : Int) * 1 = o + i := by rw [Int.toNat_natCast, Nat.mul_one]
        have e3 : u + Int.toNat (i : Int) * 1 = u + i := by rw [Int.toNat_natCast, Nat.mul_one]
        rw [decide_eq_true (by omega : (i : Int) < (n : Int)), cond_true, decide_eq_true (by omega : (0 : Int) ≤ i), Bool.true_and, cond_true, e2, hg, cond_true, cond_true, e3, hg', cond_true, if_pos hlt, vAt_nat, vAt_nat]
        unfold bne
        cases hq : toI X[o + i]? == toI Y[u + i]? with
        | true => rw [Bool.not_true, cond_false, cond_true, incI (by omega)]
        | false => rfl
      · rw [decide_eq_false (by omega), cond_false, if_neg hlt]
    · split <;> exact selN_plain _ _ _ _
    · by_cases hlt : i < n
      · rw [if_pos hlt] at hr
        cases hq : toI X[o + i]? == toI Y[u + i]? with
        | true => rw [hq] at hr; cases hr
        | false =>
          rw [hq] at hr; cases hr
          rw [sameR_no hlt hq]
          exact ⟨.inr rfl, hS2.plains (pl1 rfl) (ret16 _)⟩
      · rw [if_neg hlt] at hr; cases hr
        have e : i = n := by omega
        subst e
        have hno2 : sameR X o Y u i = true := sameR_yes fun j hj => by
          have := hno j hj
          rw [if_pos hj] at this
          cases hq : toI X[o + j]? == toI Y[u + j]? with
          | true => rfl
          | false => rw [hq] at this; cases this
        rw [hno2]
        exact ⟨rfl, AWp.seen goodVi rfl hS2 (Nat.zero_le _) (of_treeM tVi_ok (e16 ..)) trivial fun fr4 s4 hS4 _ => ⟨.inr rfl, hS4.plains (pl1 rfl) (ret16 _)⟩⟩
  · have e0 : ((n : Int) != (m : Int)) = true := by
      simp only [bne_iff_ne, ne_eq]; omega
    have e1 : Nat.beq n m = false := by
      cases hb : Nat.beq n m with
      | false => rfl
      | true => exact absurd (Nat.eq_of_beq_eq_true hb) hnm
    rw [e0, cond_true] at hs
    rw [e1, Bool.false_and]
    exact AWp.nestFirst (n := 60) (lim := 60) goodVi (of_treeM tVi_ok hs) trivial (Nat.zero_le _) fun fr1 s1 hS1 => ⟨.inr rfl, hS1.plains (pl1 rfl) (ret16 _)⟩
theorem i11_fn : cfVi.fns 11 = some { body := b11, nt := ntOf 11, results := [.cell 2 27, .tmp 3], pure := false } := by kernel_rfl
theorem i12_fn : cfVi.fns 12 = some { body := b12, nt := ntOf 12, results := [.cell 2 24, .tmp 3], pure := false } := by kernel_rfl
theorem i13_fn : cfVi.fns 13 = some { body := b13, nt := ntOf 13, results := [.cell 2 27, .tmp 3], pure := false } := by kernel_rfl
theorem i14_fn : cfVi.fns 14 = some { body := b14, nt := ntOf 14, results := [.cell 2 24, .tmp 3], pure := false } := by kernel_rfl
theorem i16_fn : cfVi.fns 16 = some { body := b16, nt := ntOf 16, results := [.tmp 4], pure := false } := by kernel_rfl
theorem nts : 1 ≤ ntOf 11 ∧ 1 ≤ ntOf 12 ∧ 1 ≤ ntOf 13 ∧ 1 ≤ ntOf 14 ∧ 2 ≤ ntOf 16 := by decide +kernel
def ofDv : Array Value → DT (Option (Value × St))
  | ⟨[.func (.method nm) X ⟨[.slice none o n]⟩]⟩ => .must (decide (nm = "") && intsOk X o n) (.node (anyBad X o n) (.leaf (some (errV, st0))) (.leaf (some (.tuple #[mkB (setI X o n), .int .i64 0], st0)))) (.leaf none)
  | _ => .leaf none
def allDv : Array Value → DT (Option (Value × St))
  | ⟨[.int .i64 n]⟩ => .node (decide (n < 0)) (.leaf (some (errV, st0))) (.node (decide (n > 256)) (.leaf (some (errV, st0))) (.leaf (some (.tuple #[mkB (rng n.toNat), .int .i64 0], st0))))
  | _ => .leaf none
def sameDv : Array Value → DT (Option (Value × St))
  | ⟨[.func (.method nm) X ⟨[.slice none o n]⟩, .func (.method nm') Y ⟨[.slice none u m]⟩]⟩ => .must (decide (nm = "") && (decide (nm' = "") && (intsOk X o n && intsOk Y u m))) (.leaf (some (.bool (sameB X o n Y u m), st0))) (.leaf none)
  | _ => .leaf none
theorem tells_of' [Z : Zone] [T : Tab] {f : FuncId} {b : Code} {rs : List ResultVar} (hi : cfVi.fns f = some { body := b, nt := ntOf f, results := rs, pure := false }) (hn : 1 ≤ ntOf f)
    (hok : ∀ B X o n, intsOk X o n = true → AWp cfVi ⟨0, B⟩ cz b (frame0 f (ntOf f) #[VS X o n]) st0 (EndV B rs (ofV X o n))) : Tells cfVi f fun a => (ofDv a).eval := by
  refine tells_seen goodVi rfl hi fun args x hx => ?_
  unfold ofDv at hx
  split at hx
  · rename_i nm X o n
    rw [DT.eval_must] at hx
    cases h : (decide (nm = "") && intsOk X o n) with
    | false => rw [h] at hx; cases hx
    | true =>
      rw [h, cond_true, DT.eval_node, DT.eval_leaf, DT.eval_leaf] at hx
      rw [Bool.and_eq_true, decide_eq_true_eq] at h
      obtain ⟨rfl, h⟩ := h
      have hx2 : x = (ofV X o n, st0) := by
        unfold ofV
        cases hb : anyBad X o n <;> rw [hb] at hx <;> cases hx <;> rfl
      subst hx2
      refine ⟨by simp [freeN], hn, _, rfl, ?_, fun B => hok B X o n h⟩
      unfold ofV errV
      cases anyBad X o n <;> simp [freeN, mk, mkB]
  · cases hx
theorem tells_all' [Z : Zone] [T : Tab] {f : FuncId} {b : Code} {rs : List ResultVar} (hi : cfVi.fns f = some { body := b, nt := ntOf f, results := rs, pure := false }) (hn : 1 ≤ ntOf f)
    (hok : ∀ B n, AWp cfVi ⟨0, B⟩ cz b (frame0 f (ntOf f) #[.int .i64 n]) st0 (EndV B rs (allVn n))) : Tells cfVi f fun a => (allDv a).eval := by
  refine tells_seen goodVi rfl hi fun args x hx => ?_
  unfold allDv at hx
  split at hx
  · rename_i n
    rw [DT.eval_node, DT.eval_node, DT.eval_leaf, DT.eval_leaf] at hx
    have hx2 : x = (allVn n, st0) := by
      unfold allVn
      by_cases h0 : n < 0
      · rw [decide_eq_true h0] at hx; cases hx; rw [if_pos h0]
      · rw [decide_eq_false h0, cond_false] at hx
        rw [if_neg h0]
        by_cases h1 : n > 256
        · rw [decide_eq_true h1] at hx; cases hx; rw [if_pos h1]
        · rw [decide_eq_false h1] at hx; cases hx; rw [if_neg h1]
    subst hx2
    refine ⟨by simp [freeN], hn, _, rfl, ?_, fun B => hok B n⟩
    unfold allVn errV
    split
    · simp [freeN, mk]
    · split <;> simp [freeN, mk, mkB]
  · cases hx
theorem tells16 [Z : Zone] [T : Tab] : Tells cfVi 16 fun a => (sameDv a).eval := by
  refine tells_one goodVi rfl i16_fn (t := 4) rfl fun args x hx => ?_
  unfold sameDv at hx
  split at hx
  · rename_i nm X o n nm' Y u m
    rw [DT.eval_must] at hx
    cases h : (decide (nm = "") && (decide (nm' = "") && (intsOk X o n && intsOk Y u m))) with
    | false => rw [h] at hx; cases hx
    | true =>
      rw [h, cond_true, DT.eval_leaf] at hx
      cases hx
      simp only [Bool.and_eq_true, decide_eq_true_eq] at h
      obtain ⟨rfl, rfl, h1, h2⟩ := h
      exact ⟨by simp [freeN], nts.2.2.2.2, _, rfl, rfl, fun b => ok16 h1 h2⟩
  · cases hx
def TVp1 : FuncId → Option (Array Value → DT (Option (Value × St)))
  | 11 => some ofDv
  | 12 => some ofDv
  | 13 => some allDv
  | 14 => some allDv
  | _ => none
def cfVp1 : Cfg := cfVi.told TVp1
theorem goodVp1 [Z : Zone] [T : Tab] (B : Base) : Go.Am.Good cfVp1 B := tells_good (fun B => goodVi B) (fun f F h => by
  unfold TVp1 at h
  split at h
  · cases h; exact ⟨⟨_, i11_fn⟩, tells_of' i11_fn nts.1 fun B X o n h => ok11 h⟩
  · cases h; exact ⟨⟨_, i12_fn⟩, tells_of' i12_fn nts.2.1 fun B X o n h => ok12 h⟩
  · cases h; exact ⟨⟨_, i13_fn⟩, tells_all' i13_fn nts.2.2.1 fun B n => ok13⟩
  · cases h; exact ⟨⟨_, i14_fn⟩, tells_all' i14_fn nts.2.2.2.1 fun B n => ok14⟩
  · cases h) B
def tVp1 : FuncId → Option HandT := treeT TVp1 tVi
theorem tVp1_ok : ∀ f k hd, tVp1 f = some k → cfVp1.hand f = some hd → ∀ a c s, (k a c s).eval = hd a c s := treeT_ok tVi_ok
def TVp : FuncId → Option (Array Value → DT (Option (Value × St)))
  | 16 => some sameDv
  | _ => none
def cfVp : Cfg := cfVp1.frzM TVp
theorem goodVp [Z : Zone] [T : Tab] (B : Base) : Go.Am.Good cfVp B := frzM_good (fun B => goodVp1 B) rfl (fun f F h => by
  unfold TVp at h
  split at h
  · cases h; exact ⟨⟨_, i16_fn⟩, fun φ c s => @Tells.cfg (zAll Z φ c s) cfVi cfVp1 rfl rfl 16 _ (@tells16 (zAll Z φ c s) (tabAll φ c s))⟩
  · cases h) B
def tVp : FuncId → Option HandT := treeFM TVp tVp1
theorem tVp_ok : ∀ f k hd, tVp f = some k → cfVp.hand f = some hd → ∀ a c s, (k a c s).eval = hd a c s := treeFM_ok tVp1_ok
end
end Go.Proofs.YtmpokdnpkjcnbaaDoor
