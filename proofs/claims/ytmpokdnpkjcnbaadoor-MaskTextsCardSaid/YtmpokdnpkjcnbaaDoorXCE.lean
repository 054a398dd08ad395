import Derived.Test.YtmpokdnpkjcnbaaDoorXAB
/- The document's Text: paths. -/
namespace Go.Proofs.YtmpokdnpkjcnbaaDoor
open Go.Am
noncomputable section
def b25 : Code := bodyOf 25
def k25 : Code := cB (cB (cR (cL (cN 2 b25))))
def x25 : Code := cB (cL (cR k25))
def l25 : Code := cB (cB (cL (cN 2 x25)))
def fr25 (a b c d : Int) (L : List (Nat × Value)) : Fr := { fn := 25, nt := ntOf 25, tm := tmS L .nil, pt := Tr.nil.put 1 (1, 0), loc := Tr.nil.put 1 (mkC a b c d), round := none }
def h25 (a b c d : Int) (s : ByteArray) (i : Int) : Fr := fr25 a b c d [(3, .string s), (4, .int .i64 i)]
def h25l (a b c d : Int) (s : ByteArray) (i j : Int) : Fr := fr25 a b c d [(3, .string s), (4, .int .i64 i), (5, .int .i64 j)]
theorem b25_eq : b25 = nest [cL b25, cL (cN 1 b25)] (.seq (.seq (cL (cL (cN 2 b25))) (.block 0 (.loop k25))) (cN 3 b25)) := by kernel_rfl
theorem k25_eq : k25 = .seq (cL k25) (.seq (.block 1 x25) (cR (cR k25))) := by kernel_rfl
theorem x25_eq : x25 = .seq (cL x25) (.seq (cL (cN 1 x25)) (.seq (.block 2 (.loop l25)) (cN 3 x25))) := by kernel_rfl
theorem s25a_k : (fun (h : Int → Int → Int → Int → Int → Bool) (a b c d : Int) => (codeT cfXb (callT cfXb (tBo h) 60) 60 cz (seqOf [cL b25, cL (cN 1 b25)]) (frame0 25 (ntOf 25) #[mk a b c d]) st0).evalM (gcObs 0 0 (kp [1, 3] []))) = fun (_ : Int → Int → Int → Int → Int → Bool) (a b c d : Int) => some (.normal, fr25 a b c d [(3, .string ⟨#[]⟩)], st0) := by kernel_rfl
theorem s25a (h : Int → Int → Int → Int → Int → Bool) (a b c d : Int) : (codeT cfXb (callT cfXb (tBo h) 60) 60 cz (seqOf [cL b25, cL (cN 1 b25)]) (frame0 25 (ntOf 25) #[mk a b c d]) st0).evalM (gcObs 0 0 (kp [1, 3] [])) = some (.normal, fr25 a b c d [(3, .string ⟨#[]⟩)], st0) := congrFun (congrFun (congrFun (congrFun (congrFun s25a_k h) a) b) c) d
theorem i25_k : (fun (h : Int → Int → Int → Int → Int → Bool) (a b c d : Int) (s : ByteArray) => (codeT cfXb (callT cfXb (tBo h) 60) 60 cz (cL (cL (cN 2 b25))) (fr25 a b c d [(3, .string s)]) st0).evalM (gcObs 0 0 (kp [1, 3, 4] []))) = fun (_ : Int → Int → Int → Int → Int → Bool) (a b c d : Int) (s : ByteArray) => some (.normal, h25 a b c d s 0, st0) := by kernel_rfl
theorem i25 (h : Int → Int → Int → Int → Int → Bool) (a b c d : Int) (s : ByteArray) : (codeT cfXb (callT cfXb (tBo h) 60) 60 cz (cL (cL (cN 2 b25))) (fr25 a b c d [(3, .string s)]) st0).evalM (gcObs 0 0 (kp [1, 3, 4] [])) = some (.normal, h25 a b c d s 0, st0) := congrFun (congrFun (congrFun (congrFun (congrFun (congrFun i25_k h) a) b) c) d) s
theorem c25_k : (fun (h : Int → Int → Int → Int → Int → Bool) (a b c d : Int) (s : ByteArray) (i : Int) => (codeT cfXb (callT cfXb (tBo h) 60) 60 cz (cL k25) (h25 a b c d s i) st0).evalM (gcObs 0 0 (kp [1, 3, 4] []))) = fun (_ : Int → Int → Int → Int → Int → Bool) (a b c d : Int) (s : ByteArray) (i : Int) => bif decide (i < 256) then some (.normal, h25 a b c d s i, st0) else some (.exit 0, h25 a b c d s i, st0) := by kernel_rfl
theorem c25 (h : Int → Int → Int → Int → Int → Bool) (a b c d : Int) (s : ByteArray) (i : Int) : (codeT cfXb (callT cfXb (tBo h) 60) 60 cz (cL k25) (h25 a b c d s i) st0).evalM (gcObs 0 0 (kp [1, 3, 4] [])) = bif decide (i < 256) then some (.normal, h25 a b c d s i, st0) else some (.exit 0, h25 a b c d s i, st0) := congrFun (congrFun (congrFun (congrFun (congrFun (congrFun (congrFun c25_k h) a) b) c) d) s) i
theorem d25_k : (fun (h : Int → Int → Int → Int → Int → Bool) (a b c d : Int) (s : ByteArray) (i : Int) => (codeT cfXb (callT cfXb (tBo h) 60) 60 cz (cL (cN 1 x25)) (h25 a b c d s i) st0).evalM (gcObs 0 0 (kp [1, 3, 4, 5] []))) = fun (_ : Int → Int → Int → Int → Int → Bool) (a b c d : Int) (s : ByteArray) (i : Int) => some (.normal, h25l a b c d s i i, st0) := by kernel_rfl
theorem d25 (h : Int → Int → Int → Int → Int → Bool) (a b c d : Int) (s : ByteArray) (i : Int) : (codeT cfXb (callT cfXb (tBo h) 60) 60 cz (cL (cN 1 x25)) (h25 a b c d s i) st0).evalM (gcObs 0 0 (kp [1, 3, 4, 5] [])) = some (.normal, h25l a b c d s i i, st0) := congrFun (congrFun (congrFun (congrFun (congrFun (congrFun (congrFun d25_k h) a) b) c) d) s) i
theorem e25_k : (fun (h : Int → Int → Int → Int → Int → Bool) (a b c d : Int) (s : ByteArray) (i : Int) => (codeT cfXb (callT cfXb (tBo h) 60) 60 cz (cR (cR k25)) (h25 a b c d s i) st0).evalM (gcObs 0 0 (kp [1, 3, 4] []))) = fun (_ : Int → Int → Int → Int → Int → Bool) (a b c d : Int) (s : ByteArray) (i : Int) => some (.normal, h25 a b c d s (inc i), st0) := by kernel_rfl
theorem e25 (h : Int → Int → Int → Int → Int → Bool) (a b c d : Int) (s : ByteArray) (i : Int) : (codeT cfXb (callT cfXb (tBo h) 60) 60 cz (cR (cR k25)) (h25 a b c d s i) st0).evalM (gcObs 0 0 (kp [1, 3, 4] [])) = some (.normal, h25 a b c d s (inc i), st0) := congrFun (congrFun (congrFun (congrFun (congrFun (congrFun (congrFun e25_k h) a) b) c) d) s) i
theorem f25_k : (fun (h : Int → Int → Int → Int → Int → Bool) (a b c d : Int) (s : ByteArray) (i : Int) => (codeT cfXb (callT cfXb (tBo h) 60) 60 cz (cN 3 b25) (h25 a b c d s i) st0).evalM (gcObs 0 0 (kp [2] []))) = fun (_ : Int → Int → Int → Int → Int → Bool) (_ _ _ _ : Int) (s : ByteArray) (_ : Int) => some (.ret, frS 25 [(2, .string s)], st0) := by kernel_rfl
theorem f25 (h : Int → Int → Int → Int → Int → Bool) (a b c d : Int) (s : ByteArray) (i : Int) : (codeT cfXb (callT cfXb (tBo h) 60) 60 cz (cN 3 b25) (h25 a b c d s i) st0).evalM (gcObs 0 0 (kp [2] [])) = some (.ret, frS 25 [(2, .string s)], st0) := congrFun (congrFun (congrFun (congrFun (congrFun (congrFun (congrFun f25_k h) a) b) c) d) s) i
def xa0_bits : List Bool := [true, true, true, true, true, true, true, true, true, true, true, true, true]
def xa0_c (h : Int → Int → Int → Int → Int → Bool) (a b c d : Int) (_ : ByteArray) (i : Int) : Bool :=
  (inQ a b c d)
   && ((!h a b c d i)
   && true)
theorem xa0_cond_k : (fun (h : Int → Int → Int → Int → Int → Bool) (a b c d : Int) (s : ByteArray) (i : Int) => (followT xa0_bits (codeT cfXb (callT cfXb (tBo h) 60) 60 cz (cL x25) (h25 a b c d s i) st0)).1) = fun (h : Int → Int → Int → Int → Int → Bool) (a b c d : Int) (s : ByteArray) (i : Int) => xa0_c h a b c d s i := by kernel_rfl
theorem xa0_cond (h : Int → Int → Int → Int → Int → Bool) (a b c d : Int) (s : ByteArray) (i : Int) : (followT xa0_bits (codeT cfXb (callT cfXb (tBo h) 60) 60 cz (cL x25) (h25 a b c d s i) st0)).1 = xa0_c h a b c d s i := congrFun (congrFun (congrFun (congrFun (congrFun (congrFun (congrFun xa0_cond_k h) a) b) c) d) s) i
theorem xa0_leaf_k : (fun (h : Int → Int → Int → Int → Int → Bool) (a b c d : Int) (s : ByteArray) (i : Int) => pathObs (gcObs 0 0 (kp [1, 3, 4] [])) xa0_bits (codeT cfXb (callT cfXb (tBo h) 60) 60 cz (cL x25) (h25 a b c d s i) st0)) = fun (_ : Int → Int → Int → Int → Int → Bool) (a b c d : Int) (s : ByteArray) (i : Int) => some (.exit 1, h25 a b c d s i, st0) := by kernel_rfl
theorem xa0_leaf (h : Int → Int → Int → Int → Int → Bool) (a b c d : Int) (s : ByteArray) (i : Int) : pathObs (gcObs 0 0 (kp [1, 3, 4] [])) xa0_bits (codeT cfXb (callT cfXb (tBo h) 60) 60 cz (cL x25) (h25 a b c d s i) st0) = some (.exit 1, h25 a b c d s i, st0) := congrFun (congrFun (congrFun (congrFun (congrFun (congrFun (congrFun xa0_leaf_k h) a) b) c) d) s) i
def xa1_bits : List Bool := [true, true, true, false, false, true, true, false, false, false, false, false, false, true, false, true]
def xa1_c (h : Int → Int → Int → Int → Int → Bool) (a b c d : Int) (_ : ByteArray) (i : Int) : Bool :=
  (inQ a b c d)
   && (!(!h a b c d i)
   && ((inQ a b c d)
   && ((h a b c d (IntKind.wrap .i64 (i - 1)))
   && true)))
theorem xa1_cond_k : (fun (h : Int → Int → Int → Int → Int → Bool) (a b c d : Int) (s : ByteArray) (i : Int) => (followT xa1_bits (codeT cfXb (callT cfXb (tBo h) 60) 60 cz (cL x25) (h25 a b c d s i) st0)).1) = fun (h : Int → Int → Int → Int → Int → Bool) (a b c d : Int) (s : ByteArray) (i : Int) => xa1_c h a b c d s i := by kernel_rfl
theorem xa1_cond (h : Int → Int → Int → Int → Int → Bool) (a b c d : Int) (s : ByteArray) (i : Int) : (followT xa1_bits (codeT cfXb (callT cfXb (tBo h) 60) 60 cz (cL x25) (h25 a b c d s i) st0)).1 = xa1_c h a b c d s i := congrFun (congrFun (congrFun (congrFun (congrFun (congrFun (congrFun xa1_cond_k h) a) b) c) d) s) i
theorem xa1_leaf_k : (fun (h : Int → Int → Int → Int → Int → Bool) (a b c d : Int) (s : ByteArray) (i : Int) => pathObs (gcObs 0 0 (kp [1, 3, 4] [])) xa1_bits (codeT cfXb (callT cfXb (tBo h) 60) 60 cz (cL x25) (h25 a b c d s i) st0)) = fun (_ : Int → Int → Int → Int → Int → Bool) (a b c d : Int) (s : ByteArray) (i : Int) => some (.exit 1, h25 a b c d s i, st0) := by kernel_rfl
theorem xa1_leaf (h : Int → Int → Int → Int → Int → Bool) (a b c d : Int) (s : ByteArray) (i : Int) : pathObs (gcObs 0 0 (kp [1, 3, 4] [])) xa1_bits (codeT cfXb (callT cfXb (tBo h) 60) 60 cz (cL x25) (h25 a b c d s i) st0) = some (.exit 1, h25 a b c d s i, st0) := congrFun (congrFun (congrFun (congrFun (congrFun (congrFun (congrFun xa1_leaf_k h) a) b) c) d) s) i
def xa2_bits : List Bool := [true, true, true, false, false, true, true, false, false, false, false, false, false, true, false, false]
def xa2_c (h : Int → Int → Int → Int → Int → Bool) (a b c d : Int) (_ : ByteArray) (i : Int) : Bool :=
  (inQ a b c d)
   && (!(!h a b c d i)
   && ((inQ a b c d)
   && (!(h a b c d (IntKind.wrap .i64 (i - 1)))
   && true)))
theorem xa2_cond_k : (fun (h : Int → Int → Int → Int → Int → Bool) (a b c d : Int) (s : ByteArray) (i : Int) => (followT xa2_bits (codeT cfXb (callT cfXb (tBo h) 60) 60 cz (cL x25) (h25 a b c d s i) st0)).1) = fun (h : Int → Int → Int → Int → Int → Bool) (a b c d : Int) (s : ByteArray) (i : Int) => xa2_c h a b c d s i := by kernel_rfl
theorem xa2_cond (h : Int → Int → Int → Int → Int → Bool) (a b c d : Int) (s : ByteArray) (i : Int) : (followT xa2_bits (codeT cfXb (callT cfXb (tBo h) 60) 60 cz (cL x25) (h25 a b c d s i) st0)).1 = xa2_c h a b c d s i := congrFun (congrFun (congrFun (congrFun (congrFun (congrFun (congrFun xa2_cond_k h) a) b) c) d) s) i
theorem xa2_leaf_k : (fun (h : Int → Int → Int → Int → Int → Bool) (a b c d : Int) (s : ByteArray) (i : Int) => pathObs (gcObs 0 0 (kp [1, 3, 4] [])) xa2_bits (codeT cfXb (callT cfXb (tBo h) 60) 60 cz (cL x25) (h25 a b c d s i) st0)) = fun (_ : Int → Int → Int → Int → Int → Bool) (a b c d : Int) (s : ByteArray) (i : Int) => some (.normal, h25 a b c d s i, st0) := by kernel_rfl
theorem xa2_leaf (h : Int → Int → Int → Int → Int → Bool) (a b c d : Int) (s : ByteArray) (i : Int) : pathObs (gcObs 0 0 (kp [1, 3, 4] [])) xa2_bits (codeT cfXb (callT cfXb (tBo h) 60) 60 cz (cL x25) (h25 a b c d s i) st0) = some (.normal, h25 a b c d s i, st0) := congrFun (congrFun (congrFun (congrFun (congrFun (congrFun (congrFun xa2_leaf_k h) a) b) c) d) s) i
def xl0_bits : List Bool := [true, true, true, false]
def xl0_c (h : Int → Int → Int → Int → Int → Bool) (a b c d : Int) (_ : ByteArray) (_ j : Int) : Bool :=
  (inQ a b c d)
   && (!(h a b c d (IntKind.wrap .i64 (j + 1)))
   && true)
theorem xl0_cond_k : (fun (h : Int → Int → Int → Int → Int → Bool) (a b c d : Int) (s : ByteArray) (i j : Int) => (followT xl0_bits (codeT cfXb (callT cfXb (tBo h) 60) 60 cz l25 (h25l a b c d s i j) st0)).1) = fun (h : Int → Int → Int → Int → Int → Bool) (a b c d : Int) (s : ByteArray) (i j : Int) => xl0_c h a b c d s i j := by kernel_rfl
theorem xl0_cond (h : Int → Int → Int → Int → Int → Bool) (a b c d : Int) (s : ByteArray) (i j : Int) : (followT xl0_bits (codeT cfXb (callT cfXb (tBo h) 60) 60 cz l25 (h25l a b c d s i j) st0)).1 = xl0_c h a b c d s i j := congrFun (congrFun (congrFun (congrFun (congrFun (congrFun (congrFun (congrFun xl0_cond_k h) a) b) c) d) s) i) j
theorem xl0_leaf_k : (fun (h : Int → Int → Int → Int → Int → Bool) (a b c d : Int) (s : ByteArray) (i j : Int) => pathObs (gcObs 0 0 (kp [1, 3, 4, 5] [])) xl0_bits (codeT cfXb (callT cfXb (tBo h) 60) 60 cz l25 (h25l a b c d s i j) st0)) = fun (_ : Int → Int → Int → Int → Int → Bool) (a b c d : Int) (s : ByteArray) (i j : Int) => some (.exit 2, h25l a b c d s i j, st0) := by kernel_rfl
theorem xl0_leaf (h : Int → Int → Int → Int → Int → Bool) (a b c d : Int) (s : ByteArray) (i j : Int) : pathObs (gcObs 0 0 (kp [1, 3, 4, 5] [])) xl0_bits (codeT cfXb (callT cfXb (tBo h) 60) 60 cz l25 (h25l a b c d s i j) st0) = some (.exit 2, h25l a b c d s i j, st0) := congrFun (congrFun (congrFun (congrFun (congrFun (congrFun (congrFun (congrFun xl0_leaf_k h) a) b) c) d) s) i) j
def xl1_bits : List Bool := [true, true, true, true]
def xl1_c (h : Int → Int → Int → Int → Int → Bool) (a b c d : Int) (_ : ByteArray) (_ j : Int) : Bool :=
  (inQ a b c d)
   && ((h a b c d (IntKind.wrap .i64 (j + 1)))
   && true)
theorem xl1_cond_k : (fun (h : Int → Int → Int → Int → Int → Bool) (a b c d : Int) (s : ByteArray) (i j : Int) => (followT xl1_bits (codeT cfXb (callT cfXb (tBo h) 60) 60 cz l25 (h25l a b c d s i j) st0)).1) = fun (h : Int → Int → Int → Int → Int → Bool) (a b c d : Int) (s : ByteArray) (i j : Int) => xl1_c h a b c d s i j := by kernel_rfl
theorem xl1_cond (h : Int → Int → Int → Int → Int → Bool) (a b c d : Int) (s : ByteArray) (i j : Int) : (followT xl1_bits (codeT cfXb (callT cfXb (tBo h) 60) 60 cz l25 (h25l a b c d s i j) st0)).1 = xl1_c h a b c d s i j := congrFun (congrFun (congrFun (congrFun (congrFun (congrFun (congrFun (congrFun xl1_cond_k h) a) b) c) d) s) i) j
theorem xl1_leaf_k : (fun (h : Int → Int → Int → Int → Int → Bool) (a b c d : Int) (s : ByteArray) (i j : Int) => pathObs (gcObs 0 0 (kp [1, 3, 4, 5] [])) xl1_bits (codeT cfXb (callT cfXb (tBo h) 60) 60 cz l25 (h25l a b c d s i j) st0)) = fun (_ : Int → Int → Int → Int → Int → Bool) (a b c d : Int) (s : ByteArray) (i j : Int) => some (.normal, h25l a b c d s i (inc j), st0) := by kernel_rfl
theorem xl1_leaf (h : Int → Int → Int → Int → Int → Bool) (a b c d : Int) (s : ByteArray) (i j : Int) : pathObs (gcObs 0 0 (kp [1, 3, 4, 5] [])) xl1_bits (codeT cfXb (callT cfXb (tBo h) 60) 60 cz l25 (h25l a b c d s i j) st0) = some (.normal, h25l a b c d s i (inc j), st0) := congrFun (congrFun (congrFun (congrFun (congrFun (congrFun (congrFun (congrFun xl1_leaf_k h) a) b) c) d) s) i) j
def xe00_bits : List Bool := [true, false, true, false, false]
def xe00_c (_ : Int → Int → Int → Int → Int → Bool) (_ _ _ _ : Int) (s : ByteArray) (i j : Int) : Bool :=
  (!ByteArray.toList s == ByteArray.toList ⟨#[]⟩)
   && (!(decide (((ByteArray.size s + ByteArray.size ⟨#[44]⟩ : Nat) : Int) > IntKind.max .i64))
   && ((decide (0 ≤ i) && decide (i < 1000))
   && (!(decide (((ByteArray.size (s ++ ⟨#[44]⟩) + ByteArray.size (w1 i) : Nat) : Int) > IntKind.max .i64))
   && (!(decide (j > i))
   && true))))
theorem xe00_cond_k : (fun (h : Int → Int → Int → Int → Int → Bool) (a b c d : Int) (s : ByteArray) (i j : Int) => (followT xe00_bits (codeT cfXb (callT cfXb (tBo h) 60) 60 cz (cN 3 x25) (h25l a b c d s i j) st0)).1) = fun (h : Int → Int → Int → Int → Int → Bool) (a b c d : Int) (s : ByteArray) (i j : Int) => xe00_c h a b c d s i j := by kernel_rfl
theorem xe00_cond (h : Int → Int → Int → Int → Int → Bool) (a b c d : Int) (s : ByteArray) (i j : Int) : (followT xe00_bits (codeT cfXb (callT cfXb (tBo h) 60) 60 cz (cN 3 x25) (h25l a b c d s i j) st0)).1 = xe00_c h a b c d s i j := congrFun (congrFun (congrFun (congrFun (congrFun (congrFun (congrFun (congrFun xe00_cond_k h) a) b) c) d) s) i) j
theorem xe00_leaf_k : (fun (h : Int → Int → Int → Int → Int → Bool) (a b c d : Int) (s : ByteArray) (i j : Int) => pathObs (gcObs 0 0 (kp [1, 3, 4] [])) xe00_bits (codeT cfXb (callT cfXb (tBo h) 60) 60 cz (cN 3 x25) (h25l a b c d s i j) st0)) = fun (_ : Int → Int → Int → Int → Int → Bool) (a b c d : Int) (s : ByteArray) (i _ : Int) => some (.normal, h25 a b c d ((s ++ ⟨#[44]⟩) ++ w1 i) i, st0) := by kernel_rfl
theorem xe00_leaf (h : Int → Int → Int → Int → Int → Bool) (a b c d : Int) (s : ByteArray) (i j : Int) : pathObs (gcObs 0 0 (kp [1, 3, 4] [])) xe00_bits (codeT cfXb (callT cfXb (tBo h) 60) 60 cz (cN 3 x25) (h25l a b c d s i j) st0) = some (.normal, h25 a b c d ((s ++ ⟨#[44]⟩) ++ w1 i) i, st0) := congrFun (congrFun (congrFun (congrFun (congrFun (congrFun (congrFun (congrFun xe00_leaf_k h) a) b) c) d) s) i) j
def xe01_bits : List Bool := [true, false, true, false, true, false, true, false]
def xe01_c (_ : Int → Int → Int → Int → Int → Bool) (_ _ _ _ : Int) (s : ByteArray) (i j : Int) : Bool :=
  (!ByteArray.toList s == ByteArray.toList ⟨#[]⟩)
   && (!(decide (((ByteArray.size s + ByteArray.size ⟨#[44]⟩ : Nat) : Int) > IntKind.max .i64))
   && ((decide (0 ≤ i) && decide (i < 1000))
   && (!(decide (((ByteArray.size (s ++ ⟨#[44]⟩) + ByteArray.size (w1 i) : Nat) : Int) > IntKind.max .i64))
   && ((decide (j > i))
   && (!(decide (((ByteArray.size (s ++ ⟨#[44]⟩ ++ (w1 i)) + ByteArray.size ⟨#[45]⟩ : Nat) : Int) > IntKind.max .i64))
   && ((decide (0 ≤ j) && decide (j < 1000))
   && (!(decide (((ByteArray.size (s ++ ⟨#[44]⟩ ++ (w1 i) ++ ⟨#[45]⟩) + ByteArray.size (w1 j) : Nat) : Int) > IntKind.max .i64))
   && true)))))))
theorem xe01_cond_k : (fun (h : Int → Int → Int → Int → Int → Bool) (a b c d : Int) (s : ByteArray) (i j : Int) => (followT xe01_bits (codeT cfXb (callT cfXb (tBo h) 60) 60 cz (cN 3 x25) (h25l a b c d s i j) st0)).1) = fun (h : Int → Int → Int → Int → Int → Bool) (a b c d : Int) (s : ByteArray) (i j : Int) => xe01_c h a b c d s i j := by kernel_rfl
theorem xe01_cond (h : Int → Int → Int → Int → Int → Bool) (a b c d : Int) (s : ByteArray) (i j : Int) : (followT xe01_bits (codeT cfXb (callT cfXb (tBo h) 60) 60 cz (cN 3 x25) (h25l a b c d s i j) st0)).1 = xe01_c h a b c d s i j := congrFun (congrFun (congrFun (congrFun (congrFun (congrFun (congrFun (congrFun xe01_cond_k h) a) b) c) d) s) i) j
theorem xe01_leaf_k : (fun (h : Int → Int → Int → Int → Int → Bool) (a b c d : Int) (s : ByteArray) (i j : Int) => pathObs (gcObs 0 0 (kp [1, 3, 4] [])) xe01_bits (codeT cfXb (callT cfXb (tBo h) 60) 60 cz (cN 3 x25) (h25l a b c d s i j) st0)) = fun (_ : Int → Int → Int → Int → Int → Bool) (a b c d : Int) (s : ByteArray) (i j : Int) => some (.normal, h25 a b c d ((((s ++ ⟨#[44]⟩) ++ w1 i) ++ ⟨#[45]⟩) ++ w1 j) i, st0) := by kernel_rfl
theorem xe01_leaf (h : Int → Int → Int → Int → Int → Bool) (a b c d : Int) (s : ByteArray) (i j : Int) : pathObs (gcObs 0 0 (kp [1, 3, 4] [])) xe01_bits (codeT cfXb (callT cfXb (tBo h) 60) 60 cz (cN 3 x25) (h25l a b c d s i j) st0) = some (.normal, h25 a b c d ((((s ++ ⟨#[44]⟩) ++ w1 i) ++ ⟨#[45]⟩) ++ w1 j) i, st0) := congrFun (congrFun (congrFun (congrFun (congrFun (congrFun (congrFun (congrFun xe01_leaf_k h) a) b) c) d) s) i) j
def xe10_bits : List Bool := [false, true, false, false]
def xe10_c (_ : Int → Int → Int → Int → Int → Bool) (_ _ _ _ : Int) (s : ByteArray) (i j : Int) : Bool :=
  !(!ByteArray.toList s == ByteArray.toList ⟨#[]⟩)
   && ((decide (0 ≤ i) && decide (i < 1000))
   && (!(decide (((ByteArray.size s + ByteArray.size (w1 i) : Nat) : Int) > IntKind.max .i64))
   && (!(decide (j > i))
   && true)))
theorem xe10_cond_k : (fun (h : Int → Int → Int → Int → Int → Bool) (a b c d : Int) (s : ByteArray) (i j : Int) => (followT xe10_bits (codeT cfXb (callT cfXb (tBo h) 60) 60 cz (cN 3 x25) (h25l a b c d s i j) st0)).1) = fun (h : Int → Int → Int → Int → Int → Bool) (a b c d : Int) (s : ByteArray) (i j : Int) => xe10_c h a b c d s i j := by kernel_rfl
theorem xe10_cond (h : Int → Int → Int → Int → Int → Bool) (a b c d : Int) (s : ByteArray) (i j : Int) : (followT xe10_bits (codeT cfXb (callT cfXb (tBo h) 60) 60 cz (cN 3 x25) (h25l a b c d s i j) st0)).1 = xe10_c h a b c d s i j := congrFun (congrFun (congrFun (congrFun (congrFun (congrFun (congrFun (congrFun xe10_cond_k h) a) b) c) d) s) i) j
theorem xe10_leaf_k : (fun (h : Int → Int → Int → Int → Int → Bool) (a b c d : Int) (s : ByteArray) (i j : Int) => pathObs (gcObs 0 0 (kp [1, 3, 4] [])) xe10_bits (codeT cfXb (callT cfXb (tBo h) 60) 60 cz (cN 3 x25) (h25l a b c d s i j) st0)) = fun (_ : Int → Int → Int → Int → Int → Bool) (a b c d : Int) (s : ByteArray) (i _ : Int) => some (.normal, h25 a b c d (s ++ w1 i) i, st0) := by kernel_rfl
theorem xe10_leaf (h : Int → Int → Int → Int → Int → Bool) (a b c d : Int) (s : ByteArray) (i j : Int) : pathObs (gcObs 0 0 (kp [1, 3, 4] [])) xe10_bits (codeT cfXb (callT cfXb (tBo h) 60) 60 cz (cN 3 x25) (h25l a b c d s i j) st0) = some (.normal, h25 a b c d (s ++ w1 i) i, st0) := congrFun (congrFun (congrFun (congrFun (congrFun (congrFun (congrFun (congrFun xe10_leaf_k h) a) b) c) d) s) i) j
def xe11_bits : List Bool := [false, true, false, true, false, true, false]
def xe11_c (_ : Int → Int → Int → Int → Int → Bool) (_ _ _ _ : Int) (s : ByteArray) (i j : Int) : Bool :=
  !(!ByteArray.toList s == ByteArray.toList ⟨#[]⟩)
   && ((decide (0 ≤ i) && decide (i < 1000))
   && (!(decide (((ByteArray.size s + ByteArray.size (w1 i) : Nat) : Int) > IntKind.max .i64))
   && ((decide (j > i))
   && (!(decide (((ByteArray.size (s ++ (w1 i)) + ByteArray.size ⟨#[45]⟩ : Nat) : Int) > IntKind.max .i64))
   && ((decide (0 ≤ j) && decide (j < 1000))
   && (!(decide (((ByteArray.size (s ++ (w1 i) ++ ⟨#[45]⟩) + ByteArray.size (w1 j) : Nat) : Int) > IntKind.max .i64))
   && true))))))
theorem xe11_cond_k : (fun (h : Int → Int → Int → Int → Int → Bool) (a b c d : Int) (s : ByteArray) (i j : Int) => (followT xe11_bits (codeT cfXb (callT cfXb (tBo h) 60) 60 cz (cN 3 x25) (h25l a b c d s i j) st0)).1) = fun (h : Int → Int → Int → Int → Int → Bool) (a b c d : Int) (s : ByteArray) (i j : Int) => xe11_c h a b c d s i j := by kernel_rfl
theorem xe11_cond (h : Int → Int → Int → Int → Int → Bool) (a b c d : Int) (s : ByteArray) (i j : Int) : (followT xe11_bits (codeT cfXb (callT cfXb (tBo h) 60) 60 cz (cN 3 x25) (h25l a b c d s i j) st0)).1 = xe11_c h a b c d s i j := congrFun (congrFun (congrFun (congrFun (congrFun (congrFun (congrFun (congrFun xe11_cond_k h) a) b) c) d) s) i) j
theorem xe11_leaf_k : (fun (h : Int → Int → Int → Int → Int → Bool) (a b c d : Int) (s : ByteArray) (i j : Int) => pathObs (gcObs 0 0 (kp [1, 3, 4] [])) xe11_bits (codeT cfXb (callT cfXb (tBo h) 60) 60 cz (cN 3 x25) (h25l a b c d s i j) st0)) = fun (_ : Int → Int → Int → Int → Int → Bool) (a b c d : Int) (s : ByteArray) (i j : Int) => some (.normal, h25 a b c d (((s ++ w1 i) ++ ⟨#[45]⟩) ++ w1 j) i, st0) := by kernel_rfl
theorem xe11_leaf (h : Int → Int → Int → Int → Int → Bool) (a b c d : Int) (s : ByteArray) (i j : Int) : pathObs (gcObs 0 0 (kp [1, 3, 4] [])) xe11_bits (codeT cfXb (callT cfXb (tBo h) 60) 60 cz (cN 3 x25) (h25l a b c d s i j) st0) = some (.normal, h25 a b c d (((s ++ w1 i) ++ ⟨#[45]⟩) ++ w1 j) i, st0) := congrFun (congrFun (congrFun (congrFun (congrFun (congrFun (congrFun (congrFun xe11_leaf_k h) a) b) c) d) s) i) j
end
end Go.Proofs.YtmpokdnpkjcnbaaDoor

/- The document's Text: it is the mask's text. -/
namespace Go.Proofs.YtmpokdnpkjcnbaaDoor
open Go.Am
noncomputable section
/-- the end of the run at c, within so many cores -/
def lastT (m : B256) : Nat → Nat → Nat
  | 0, c => c
  | k + 1, c => bif m.getLsbD (c + 1) then lastT m k (c + 1) else c
def lastC (m : B256) (c : Nat) : Nat := lastT m (256 - c) c
theorem bit_lt {m : B256} {c : Nat} (h : m.getLsbD c = true) : c < 256 := by
  by_cases hc : c < 256
  · exact hc
  · rw [BitVec.getLsbD_of_ge _ _ (by omega)] at h; cases h
theorem lastC_go {m : B256} {c : Nat} (h : m.getLsbD (c + 1) = true) : lastC m c = lastC m (c + 1) := by
  have := bit_lt h
  unfold lastC
  have e : 256 - c = (256 - (c + 1)) + 1 := by omega
  rw [e]
  show (bif m.getLsbD (c + 1) then _ else _) = _
  rw [h]; rfl
theorem lastC_end {m : B256} {c : Nat} (h : m.getLsbD (c + 1) = false) : lastC m c = c := by
  unfold lastC
  cases 256 - c with
  | zero => rfl
  | succ k =>
    show (bif m.getLsbD (c + 1) then _ else _) = _
    rw [h]; rfl
theorem lastC_run {m : B256} {c : Nat} : ∀ i, (∀ j, j < i → m.getLsbD (c + j + 1) = true) → lastC m c = lastC m (c + i) := by
  intro i
  induction i with
  | zero => intro _; rfl
  | succ i ih => intro h; rw [ih fun j hj => h j (by omega), lastC_go (h i (by omega))]; rfl
theorem lastC_is {m : B256} {c i : Nat} (h : ∀ j, j < i → m.getLsbD (c + j + 1) = true) (he : m.getLsbD (c + i + 1) = false) : lastC m c = c + i := by
  rw [lastC_run i h, lastC_end he]
theorem lastC_ge (m : B256) : ∀ k c, c ≤ lastT m k c := by
  intro k
  induction k with
  | zero => intro c; exact Nat.le_refl _
  | succ k ih =>
    intro c
    unfold lastT
    cases m.getLsbD (c + 1) with
    | false => exact Nat.le_refl _
    | true => exact Nat.le_trans (Nat.le_succ c) (ih (c + 1))
theorem lastT_le (m : B256) : ∀ k c, lastT m k c ≤ c + k := by
  intro k
  induction k with
  | zero => intro c; exact Nat.le_refl _
  | succ k ih =>
    intro c
    unfold lastT
    cases m.getLsbD (c + 1) with
    | false => rw [cond_false]; omega
    | true => have := ih (c + 1); rw [cond_true]; omega
def preB (m : B256) : Nat → Bool
  | 0 => false
  | c + 1 => m.getLsbD c
/-- the runs that begin so far -/
def dT (m : B256) : Nat → List (Nat × Nat)
  | 0 => []
  | c + 1 => bif m.getLsbD c && !preB m c then dT m c ++ [(c, lastC m c)] else dT m c
theorem fT_pre (m : B256) : ∀ c, (decide (fT m c < 0)) = !(preB m c && m.getLsbD c) := by
  intro c
  cases c with
  | zero => rfl
  | succ c =>
    show _ = !(m.getLsbD c && m.getLsbD (c + 1))
    cases hb : m.getLsbD c with
    | false =>
      rw [fT_no hb]
      rcases fT_run m c with h | ⟨h1, h2, h3⟩
      · exact decide_eq_true (by omega)
      · have := h3 c (by omega) (Nat.le_refl _); rw [hb] at this; cases this
    | true =>
      rw [fT_bit hb]
      cases hc : m.getLsbD (c + 1) with
      | false => rfl
      | true =>
        rw [cond_true]
        refine decide_eq_false ?_
        split <;> omega
theorem dT_inv (m : B256) : ∀ c, dT m c = if fT m c < 0 then rT m c else rT m c ++ [((fT m c).toNat, lastC m (fT m c).toNat)] := by
  intro c
  induction c with
  | zero => rfl
  | succ c ih =>
    have hp := fT_pre m c
    unfold dT rT
    rw [ih]
    cases hb : m.getLsbD c with
    | false =>
      rw [hb, Bool.and_false, Bool.not_false, decide_eq_true_eq] at hp
      rw [Bool.false_and, Bool.false_and, cond_false, cond_false, fT_no hb]
    | true =>
      rw [hb, Bool.and_true] at hp
      rw [Bool.true_and, Bool.true_and, fT_bit hb]
      cases hpre : preB m c with
      | false =>
        rw [hpre, Bool.not_false, decide_eq_true_eq] at hp
        rw [Bool.not_false, cond_true, if_pos hp]
        cases hc : m.getLsbD (c + 1) with
        | false =>
          rw [Bool.not_false, cond_true, cond_false, if_pos (by omega), if_pos hp, lastC_end hc]
        | true =>
          rw [Bool.not_true, cond_false, cond_true, if_pos hp, if_neg (by omega)]
          rfl
      | true =>
        rw [hpre, Bool.not_true, decide_eq_false_iff_not] at hp
        rw [Bool.not_true, cond_false, if_neg hp]
        cases hc : m.getLsbD (c + 1) with
        | false =>
          rw [Bool.not_false, cond_true, cond_false, if_pos (by omega), if_neg hp]
          rcases fT_run m c with h | ⟨h1, h2, h3⟩
          · omega
          · have e : lastC m (fT m c).toNat = c := by
              have := lastC_is (m := m) (c := (fT m c).toNat) (i := c - (fT m c).toNat) (fun j hj => h3 _ (by omega) (by omega)) (by rw [show (fT m c).toNat + (c - (fT m c).toNat) + 1 = c + 1 by omega]; exact hc)
              omega
            rw [e]
        | true =>
          rw [Bool.not_true, cond_false, cond_true, if_neg hp, if_neg hp]
theorem dT_all (m : B256) : dT m 256 = rT m 256 := by
  rw [dT_inv, if_pos]
  have := fT_pre m 256
  rw [BitVec.getLsbD_of_ge _ _ (Nat.le_refl _), Bool.and_false] at this
  exact of_decide_eq_true this
theorem dT_ok (m : B256) : ∀ c, ∀ r ∈ dT m c, r.1 ≤ r.2 := by
  intro c
  induction c with
  | zero => intro r h; cases h
  | succ c ih =>
    intro r h
    unfold dT at h
    cases hb : (m.getLsbD c && !preB m c) with
    | false => rw [hb] at h; exact ih r h
    | true =>
      rw [hb, cond_true, List.mem_append, List.mem_singleton] at h
      rcases h with h | rfl
      · exact ih r h
      · exact lastC_ge m _ c
/-- a text, and a run behind it -/
def addS (s : ByteArray) (i j : Nat) : ByteArray :=
  bif s.toList == (⟨#[]⟩ : ByteArray).toList then (if j > i then ((s ++ w1 i) ++ ⟨#[45]⟩) ++ w1 j else s ++ w1 i)
  else (if j > i then (((s ++ ⟨#[44]⟩) ++ w1 i) ++ ⟨#[45]⟩) ++ w1 j else (s ++ ⟨#[44]⟩) ++ w1 i)
def dS (m : B256) : Nat → ByteArray
  | 0 => ⟨#[]⟩
  | c + 1 => bif m.getLsbD c && !preB m c then addS (dS m c) c (lastC m c) else dS m c
theorem addS_size (s : ByteArray) (i j : Nat) : (addS s i j).size ≤ s.size + 8 := by
  have h1 := w1_size i
  have h2 := w1_size j
  have e44 : (⟨#[44]⟩ : ByteArray).size = 1 := rfl
  have e45 : (⟨#[45]⟩ : ByteArray).size = 1 := rfl
  unfold addS
  cases (s.toList == (⟨#[]⟩ : ByteArray).toList) with
  | true =>
    rw [cond_true]
    split <;> simp only [ByteArray.size_append, e44, e45] <;> omega
  | false =>
    rw [cond_false]
    split <;> simp only [ByteArray.size_append, e44, e45] <;> omega
theorem dS_size (m : B256) : ∀ c, (dS m c).size ≤ 8 * c := by
  intro c
  induction c with
  | zero => exact Nat.le_refl _
  | succ c ih =>
    unfold dS
    have := addS_size (dS m c) c (lastC m c)
    cases (m.getLsbD c && !preB m c) with
    | false => rw [cond_false]; omega
    | true => rw [cond_true]; omega
def dJ : List (Nat × Nat) → ByteArray
  | [] => ⟨#[]⟩
  | r :: rs => J ((r :: rs).map wordR)
theorem J_snoc (w : ByteArray) : ∀ (l : List ByteArray) (x : ByteArray), (J (x :: l ++ [w])).data.toList = (J (x :: l)).data.toList ++ 44 :: w.data.toList := by
  intro l
  induction l with
  | nil =>
    intro x
    show (J [x, w]).data.toList = _
    rw [J_cons, J_one, J_one]
  | cons y l ih =>
    intro x
    show (J (x :: y :: (l ++ [w]))).data.toList = _
    rw [J_cons, J_cons]
    have := ih y
    rw [show y :: l ++ [w] = y :: (l ++ [w]) from rfl] at this
    rw [this]
    simp
theorem word_of {i j : Nat} (h : i ≤ j) : (wordR (i, j)).data.toList = if j > i then dig3 i ++ 45 :: dig3 j else dig3 i := by
  rw [wordR_data]
  by_cases e : i = j
  · subst e; rw [if_pos rfl, if_neg (by omega)]
  · rw [if_neg e, if_pos (by omega)]
theorem dJ_add (l : List (Nat × Nat)) {i j : Nat} (h : i ≤ j) : addS (dJ l) i j = dJ (l ++ [(i, j)]) := by
  apply bext
  cases l with
  | nil =>
    show (addS ⟨#[]⟩ i j).data.toList = (J [wordR (i, j)]).data.toList
    rw [J_one, word_of h]
    unfold addS
    rw [beq_self_eq_true, cond_true]
    split
    · simp only [ByteArray.data_append, Array.toList_append, w1_data]
      simp
    · simp only [ByteArray.data_append, Array.toList_append, w1_data]
      simp
  | cons r rs =>
    show (addS (J ((r :: rs).map wordR)) i j).data.toList = (J ((r :: rs ++ [(i, j)]).map wordR)).data.toList
    have hs := J_size rs r
    have hne : ((J ((r :: rs).map wordR)).toList == (⟨#[]⟩ : ByteArray).toList) = false := by
      cases hh : ((J ((r :: rs).map wordR)).toList == (⟨#[]⟩ : ByteArray).toList) with
      | false => rfl
      | true => have := size_of hh; omega
    rw [List.map_append]
    rw [show (r :: rs).map wordR ++ [(i, j)].map wordR = wordR r :: rs.map wordR ++ [wordR (i, j)] from rfl, J_snoc, word_of h]
    unfold addS
    rw [hne, cond_false]
    split
    · simp only [ByteArray.data_append, Array.toList_append, w1_data]
      simp
    · simp only [ByteArray.data_append, Array.toList_append, w1_data]
      simp
theorem dS_J (m : B256) : ∀ c, dS m c = dJ (dT m c) := by
  intro c
  induction c with
  | zero => rfl
  | succ c ih =>
    unfold dS dT
    rw [ih]
    cases (m.getLsbD c && !preB m c) with
    | false => rfl
    | true => exact dJ_add _ (lastC_ge m _ c)
theorem dS_all (m : B256) : dS m 256 = textB m := by
  rw [dS_J, dT_all]
  cases h : isE (wT m 256) with
  | true =>
    have h1 := text_nil m h
    have h2 := isE_nil h
    rw [wT_map] at h2
    have h3 : rT m 256 = [] := List.map_eq_nil_iff.1 h2
    rw [h3, h1, text_zero]; rfl
  | false =>
    rw [text_J m h, wT_map]
    cases hr : rT m 256 with
    | nil => rw [wT_map, hr] at h; cases h
    | cons r rs => rfl
end
end Go.Proofs.YtmpokdnpkjcnbaaDoor

/- The document's Text, told. -/
namespace Go.Proofs.YtmpokdnpkjcnbaaDoor
open Go.Am
noncomputable section
/-- a mask's loop's head -/
def g25 (m : B256) (s : ByteArray) (i : Int) : Fr := h25 (wd m 0) (wd m 1) (wd m 2) (wd m 3) s i
def g25l (m : B256) (s : ByteArray) (i j : Int) : Fr := h25l (wd m 0) (wd m 1) (wd m 2) (wd m 3) s i j
theorem mx : IntKind.max .i64 = 9223372036854775807 := by decide
theorem sz_ok {a b : ByteArray} (h : a.size + b.size ≤ 100000) : decide (((ByteArray.size a + ByteArray.size b : Nat) : Int) > IntKind.max .i64) = false := decide_eq_false (by rw [mx]; omega)
theorem dec_i {p : Nat} (h : p < 256) : IntKind.wrap .i64 ((p : Int) - 1) = (p : Int) - 1 := wrapI (by omega) (by omega)
theorem has_pre (m : B256) {p : Nat} (h : p < 256) : hasB (wd m 0) (wd m 1) (wd m 2) (wd m 3) (IntKind.wrap .i64 ((p : Int) - 1)) = preB m p := by
  rw [dec_i h]
  cases p with
  | zero => unfold hasB; rfl
  | succ p =>
    have e : ((p + 1 : Nat) : Int) - 1 = (p : Int) := by omega
    rw [e, hasB_wd]; rfl
theorem new25 [Z : Zone] (m : B256) (p : Nat) (hp : p < 256) (hb : m.getLsbD p = true) (hpre : preB m p = false) :
    gcObs 0 0 (kp [1, 3, 4] []) (code cfXb (call cfXb 60) 60 cz (cL x25) (g25 m (dS m p) p) st0) = some (.normal, g25 m (dS m p) p, st0) := by
  refine path_eval tBo_ok ((xa2_cond hasB ..).trans ?_) (xa2_leaf hasB ..)
  unfold xa2_c
  rw [wd_inQ, hasB_wd, hb, has_pre m hp, hpre]; rfl
theorem old25 [Z : Zone] (m : B256) (p : Nat) (hp : p < 256) (h : (m.getLsbD p && !preB m p) = false) :
    gcObs 0 0 (kp [1, 3, 4] []) (code cfXb (call cfXb 60) 60 cz (cL x25) (g25 m (dS m p) p) st0) = some (.exit 1, g25 m (dS m p) p, st0) := by
  cases hb : m.getLsbD p with
  | false =>
    refine path_eval tBo_ok ((xa0_cond hasB ..).trans ?_) (xa0_leaf hasB ..)
    unfold xa0_c
    rw [wd_inQ, hasB_wd, hb]; rfl
  | true =>
    have hpre : preB m p = true := by rw [hb, Bool.true_and] at h; cases hh : preB m p <;> rw [hh] at h <;> first | rfl | cases h
    refine path_eval tBo_ok ((xa1_cond hasB ..).trans ?_) (xa1_leaf hasB ..)
    unfold xa1_c
    rw [wd_inQ, hasB_wd, hb, has_pre m hp, hpre]; rfl
theorem in25 [Z : Zone] (m : B256) (s : ByteArray) (p j : Nat) (hj : j ≤ 256) :
    gcObs 0 0 (kp [1, 3, 4, 5] []) (code cfXb (call cfXb 60) 60 cz l25 (g25l m s p (j : Int)) st0) = some (match (if m.getLsbD (j + 1) then none else some (Ex.exit 2, g25l m s p (j : Int), st0) : Option (Ex × Fr × St)) with | some r => r | none => (.normal, g25l m s p ((j + 1 : Nat) : Int), st0)) := by
  have hinc : IntKind.wrap .i64 ((j : Int) + 1) = ((j + 1 : Nat) : Int) := incN (by omega)
  cases hb : m.getLsbD (j + 1) with
  | false =>
    refine path_eval tBo_ok ((xl0_cond hasB ..).trans ?_) (xl0_leaf hasB ..)
    unfold xl0_c
    rw [wd_inQ, hinc, hasB_wd, hb]; rfl
  | true =>
    have h := xl1_leaf hasB (wd m 0) (wd m 1) (wd m 2) (wd m 3) s p j
    rw [show inc (j : Int) = ((j + 1 : Nat) : Int) from hinc] at h
    refine path_eval tBo_ok ((xl1_cond hasB ..).trans ?_) h
    unfold xl1_c
    rw [wd_inQ, hinc, hasB_wd, hb]; rfl
theorem end25 [Z : Zone] (m : B256) (s : ByteArray) (p j : Nat) (hs : s.size ≤ 10000) (hp : p < 256) (hj : j ≤ 512) :
    gcObs 0 0 (kp [1, 3, 4] []) (code cfXb (call cfXb 60) 60 cz (cN 3 x25) (g25l m s p j) st0) = some (.normal, g25 m (addS s p j) p, st0) := by
  have h1 := w1_size p
  have h2 := w1_size j
  have e44 : (⟨#[44]⟩ : ByteArray).size = 1 := rfl
  have e45 : (⟨#[45]⟩ : ByteArray).size = 1 := rfl
  have a1 : (decide ((0 : Int) ≤ p) && decide ((p : Int) < 1000)) = true := by rw [decide_eq_true (by omega), decide_eq_true (by omega)]; rfl
  have a2 : (decide ((0 : Int) ≤ j) && decide ((j : Int) < 1000)) = true := by rw [decide_eq_true (by omega), decide_eq_true (by omega)]; rfl
  unfold addS
  cases hz : (s.toList == (⟨#[]⟩ : ByteArray).toList) with
  | true =>
    rw [cond_true]
    by_cases hl : j > p
    · rw [if_pos hl]
      have a3 : decide ((j : Int) > p) = true := decide_eq_true (by omega)
      refine path_eval tBo_ok ((xe11_cond hasB ..).trans ?_) (xe11_leaf hasB ..)
      unfold xe11_c
      rw [hz, a1, a2, a3, sz_ok (by omega), sz_ok (by simp only [ByteArray.size_append, e45]; omega), sz_ok (by simp only [ByteArray.size_append, e45]; omega)]; rfl
    · rw [if_neg hl]
      have a3 : decide ((j : Int) > p) = false := decide_eq_false (by omega)
      refine path_eval tBo_ok ((xe10_cond hasB ..).trans ?_) (xe10_leaf hasB ..)
      unfold xe10_c
      rw [hz, a1, a3, sz_ok (by omega)]; rfl
  | false =>
    rw [cond_false]
    by_cases hl : j > p
    · rw [if_pos hl]
      have a3 : decide ((j : Int) > p) = true := decide_eq_true (by omega)
      refine path_eval tBo_ok ((xe01_cond hasB ..).trans ?_) (xe01_leaf hasB ..)
      unfold xe01_c
      rw [hz, a1, a2, a3, sz_ok (by rw [e44]; omega), sz_ok (by simp only [ByteArray.size_append, e44]; omega), sz_ok (by simp only [ByteArray.size_append, e44, e45]; omega), sz_ok (by simp only [ByteArray.size_append, e44, e45]; omega)]; rfl
    · rw [if_neg hl]
      have a3 : decide ((j : Int) > p) = false := decide_eq_false (by omega)
      refine path_eval tBo_ok ((xe00_cond hasB ..).trans ?_) (xe00_leaf hasB ..)
      unfold xe00_c
      rw [hz, a1, a3, sz_ok (by rw [e44]; omega), sz_ok (by simp only [ByteArray.size_append, e44]; omega)]; rfl
theorem nt25 : ntOf 25 = 44 := by kernel_rfl
theorem res25 (v : Value) : (frS 25 [(2, v)]).tm.get 2 = some v := by simp [frS, tmS, Tr.get_put]
theorem ret25 (v : Value) : ∀ p ∈ [((2 : Tmp), v)], (frS 25 [(2, v)]).tm.get p.1 = some p.2 := fun p hp => by
  simp only [List.mem_singleton] at hp; subst hp
  exact res25 v
/-- behind a piece of code: a state that is seen, reached as is said -/
def At (B : Nat) (ex0 : Ex) (fri : Fr) (si : St) (s : St) (ex : Ex) (fr' : Fr) (s' : St) : Prop := Grow cz s s' ∧ ex = ex0 ∧ Sn ⟨0, B⟩ 0 0 cz fri si fr' s'
theorem snP {B : Nat} {fri fr : Fr} {si s : St} (h : Sn ⟨0, B⟩ 0 0 cz fri si fr s) : SnP 0 ⟨0, B⟩ 0 0 cz fri si fr s := by
  obtain ⟨e4, V4, F4⟩ := h
  exact ⟨e4, fun j hj => absurd hj (Nat.not_lt_zero _), V4, F4⟩
theorem snQ {B : Nat} {fri fr : Fr} {si s : St} (h : SnP 0 ⟨0, B⟩ 0 0 cz fri si fr s) : Sn ⟨0, B⟩ 0 0 cz fri si fr s := by
  obtain ⟨e5, _, V5, F5⟩ := h
  exact ⟨e5, V5, F5⟩
theorem pin0 : pinned 0 [] := ⟨Nat.zero_le _, fun j hj => absurd hj (Nat.not_lt_zero _)⟩
/-- from the start of a run to its end -/
theorem find25 [Z : Zone] [T : Tab] {B : Nat} {m : B256} {s : ByteArray} {p : Nat} (hp : p < 256) {fr0 : Fr} {s0 : St} (hS : Sn ⟨0, B⟩ 0 0 cz (g25l m s p p) st0 fr0 s0) :
    AWp cfXb ⟨0, B⟩ cz (.block 2 (.loop l25)) fr0 s0 (At B .normal (g25l m s p (lastC m p)) st0 s0) := by
  refine AWp.block ?_
  refine AWp.countPI (m := 0) (n := 60) (lim := 60) (N := 256 - p) (head := fun i => g25l m s p ((p + i : Nat) : Int)) (sh := fun _ => st0) (sel := fun _ => kp [1, 3, 4, 5] [])
    (stop := fun i => if m.getLsbD (p + i + 1) then none else some (.exit 2, g25l m s p ((p + i : Nat) : Int), st0)) goodXb rfl (fun _ => Nat.zero_le _) (fun _ => Nat.zero_le _)
    (fun i hi _ => in25 m s p (p + i) (by omega)) (fun i _ => ?_) (fun _ _ => pin0) ⟨256 - p, Nat.le_refl _, ?_⟩ (fun i r hr => ?_) (fun i r _ hno hr fr' s' hS' hG' => ?_) (snP hS) (Grow.refl _ _)
  · split <;> trivial
  · rw [BitVec.getLsbD_of_ge _ _ (by omega)]; simp
  · split at hr
    · cases hr
    · cases hr; intro e; cases e
  · cases hb : m.getLsbD (p + i + 1) with
    | true => rw [hb] at hr; cases hr
    | false =>
      rw [hb] at hr; cases hr
      have hno' : ∀ j, j < i → m.getLsbD (p + j + 1) = true := fun j hj => by
        have := hno j hj
        cases hb : m.getLsbD (p + j + 1) with
        | true => rfl
        | false => rw [hb] at this; cases this
      refine ⟨hG', rfl, ?_⟩
      rw [lastC_is hno' hb]
      exact snQ hS'
theorem body25 [Z : Zone] [T : Tab] {B : Nat} {m : B256} {p : Nat} (hp : p < 256) {fr0 : Fr} {s0 : St} (hS : Sn ⟨0, B⟩ 0 0 cz (g25 m (dS m p) p) st0 fr0 s0) :
    AWp cfXb ⟨0, B⟩ cz (.block 1 x25) fr0 s0 (At B .normal (g25 m (dS m (p + 1)) p) st0 s0) := by
  refine AWp.block ?_
  rw [x25_eq]
  have hds := dS_size m p
  cases hn : (m.getLsbD p && !preB m p) with
  | false =>
    have e1 : dS m (p + 1) = dS m p := by
      show (bif m.getLsbD p && !preB m p then _ else _) = _
      rw [hn]; rfl
    rw [e1]
    exact AWp.seq (AWp.seen (ex := .exit 1) goodXb rfl hS (Nat.zero_le _) (old25 m p hp hn) trivial fun fr4 s4 hS4 hG4 => ⟨hG4, hG4, rfl, hS4⟩)
  | true =>
    have e1 : dS m (p + 1) = addS (dS m p) p (lastC m p) := by
      show (bif m.getLsbD p && !preB m p then _ else _) = _
      rw [hn]; rfl
    rw [e1]
    rw [Bool.and_eq_true, Bool.not_eq_true'] at hn
    refine AWp.seq (AWp.seen goodXb rfl hS (Nat.zero_le _) (new25 m p hp hn.1 hn.2) trivial fun fr4 s4 hS4 hG4 => ⟨hG4, ?_⟩)
    refine AWp.seq (AWp.seen goodXb rfl hS4 (Nat.zero_le _) (of_treeM tBo_ok (d25 hasB ..)) trivial fun fr5 s5 hS5 hG5 => ⟨hG5, ?_⟩)
    refine AWp.seq ((find25 hp hS5).mono fun ex fr6 s6 h => ?_)
    obtain ⟨hG6, rfl, hS6⟩ := h
    refine ⟨hG6, ?_⟩
    have hl : lastC m p ≤ 512 := by
      have := lastT_le m (256 - p) p
      unfold lastC
      omega
    refine AWp.seen goodXb rfl hS6 (Nat.zero_le _) (end25 m (dS m p) p (lastC m p) (by omega) hp hl) trivial fun fr7 s7 hS7 hG7 => ?_
    have hG46 : Grow cz s0 s6 := (hG4.trans hG5).trans hG6
    exact ⟨hG46.trans hG7, rfl, hS7⟩
theorem ok25 [Z : Zone] [T : Tab] {B : Nat} {m : B256} : AWp cfXb ⟨0, B⟩ cz b25 (frame0 25 (ntOf 25) #[mkB m]) st0 (RetL [(2, .string (textB m))]) := by
  rw [b25_eq]
  refine AWp.nestFirst (n := 60) (lim := 60) goodXb (of_treeM tBo_ok (s25a hasB ..)) trivial (Nat.zero_le _) fun fr1 s1 hS1 => ?_
  refine AWp.seq (AWp.seq (AWp.seen goodXb rfl hS1 (Nat.zero_le _) (of_treeM tBo_ok (i25 hasB ..)) trivial fun fr2 s2 hS2 hG2 => ⟨hG2, ?_⟩))
  refine AWp.block ?_
  refine AWp.loop (I := fun (p : Nat) fr' s' => p ≤ 256 ∧ Sn ⟨0, B⟩ 0 0 cz (g25 m (dS m p) p) st0 fr' s' ∧ Grow cz s1 s') (fun p => 256 - p) (fun p fr' s' hI => ?_) 0 fr2 s2 ⟨by omega, hS2, hG2⟩
  obtain ⟨hp, hS, hG⟩ := hI
  rw [k25_eq]
  by_cases hlt : p < 256
  · refine AWp.seq (AWp.seen goodXb rfl hS (Nat.zero_le _) (of_treeM tBo_ok ((c25 hasB ..).trans (by rw [decide_eq_true (by omega : (p : Int) < 256)]; rfl))) trivial fun fr3 s3 hS3 hG3 => ⟨hG3, ?_⟩)
    refine AWp.seq ((body25 hlt hS3).mono fun ex fr4 s4 h => ?_)
    obtain ⟨hG4, rfl, hS4⟩ := h
    refine ⟨hG4, ?_⟩
    have hinc : inc (p : Int) = ((p + 1 : Nat) : Int) := incN (by omega)
    refine AWp.seen goodXb rfl hS4 (Nat.zero_le _) (of_treeM tBo_ok (e25 hasB ..)) trivial fun fr5 s5 hS5 hG5 => ?_
    rw [hinc] at hS5
    have hG35 : Grow cz s' s5 := (hG3.trans hG4).trans hG5
    exact ⟨hG35, p + 1, by omega, by omega, hS5, hG.trans hG35⟩
  · have e : p = 256 := by omega
    subst e
    refine AWp.seq (AWp.seen (ex := .exit 0) goodXb rfl hS (Nat.zero_le _) (of_treeM tBo_ok ((c25 hasB ..).trans (by rw [decide_eq_false (by omega : ¬ ((256 : Nat) : Int) < 256)]; rfl))) trivial fun fr3 s3 hS3 hG3 => ⟨hG3, hG3, hG.trans hG3, ?_⟩)
    rw [← dS_all]
    exact AWp.seen goodXb rfl hS3 (Nat.zero_le _) (of_treeM tBo_ok (f25 hasB ..)) trivial fun fr4 s4 hS4 _ => ⟨.inr rfl, hS4.plains (pl1 rfl) (ret25 _)⟩
theorem i25_fn : cfXb.fns 25 = some { body := b25, nt := ntOf 25, results := [.tmp 2], pure := false } := by kernel_rfl
theorem nt25_le : 1 ≤ ntOf 25 := by decide +kernel
theorem tells25 [Z : Zone] [T : Tab] : Tells cfXb 25 fun a => (txtD a).eval := by
  refine tells_one goodXb rfl i25_fn (t := 2) rfl fun args x hx => ?_
  unfold txtD at hx
  split at hx
  · rename_i a b c d
    rw [DT.eval_must] at hx
    cases h : inQ a b c d with
    | false => rw [h] at hx; cases hx
    | true =>
      obtain ⟨m, rfl, rfl, rfl, rfl⟩ := wd_rep h
      rw [h, cond_true, DT.eval_leaf, ofI_wd] at hx
      cases hx
      exact ⟨by simp [freeN], nt25_le, _, rfl, rfl, fun b => ok25⟩
  · cases hx
def TXe : FuncId → Option (Array Value → DT (Option (Value × St)))
  | 25 => some txtD
  | _ => none
def cfXe : Cfg := cfXb.told TXe
theorem goodXe [Z : Zone] [T : Tab] (B : Base) : Go.Am.Good cfXe B := tells_good (fun B => goodXb B) (fun f F h => by
  unfold TXe at h
  split at h
  · cases h; exact ⟨⟨_, i25_fn⟩, tells25⟩
  · cases h) B
def tXe : FuncId → Option HandT := treeT TXe tXb
theorem tXe_ok : ∀ f k hd, tXe f = some k → cfXe.hand f = some hd → ∀ a c s, (k a c s).eval = hd a c s := treeT_ok tXb_ok
end
end Go.Proofs.YtmpokdnpkjcnbaaDoor
