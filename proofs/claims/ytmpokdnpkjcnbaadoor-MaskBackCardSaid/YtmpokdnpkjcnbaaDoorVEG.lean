import Derived.Test.YtmpokdnpkjcnbaaDoorVAD
/- The document's masks: And, Or, Minus, List: paths. -/
namespace Go.Proofs.YtmpokdnpkjcnbaaDoor
open Go.Am
noncomputable section
def sl0 (k : Nat) : Value := .slice (some ⟨0, 0, none⟩) k k
def sRow (E : Array Value) : St := stS [(0, .cells E 1 true)] 1
def selR (L : List Tmp) (r : Option Nat) : Ex → List Tmp × List Kept := fun _ => (L, match r with | some r => [.plain r] | none => [])
def frM (f : FuncId) (a b c d e g h j : Int) (L : List (Nat × Value)) : Fr := { fn := f, nt := ntOf f, tm := tmS L .nil, pt := ((Tr.nil.put 2 (2, 0)).put 3 (3, 0)).put 4 (4, 0), loc := ((Tr.nil.put 2 (mkC a b c d)).put 3 (mkC e g h j)).put 4 (mkC 0 0 0 0), round := none }
def frME (f : FuncId) (a b c d : Int) : Fr := { fn := f, nt := ntOf f, tm := .nil, pt := Tr.nil.put 4 (4, 0), loc := Tr.nil.put 4 (mkC a b c d), round := none }
def frL15 (a b c d : Int) (L : List (Nat × Value)) : Fr := { fn := 15, nt := ntOf 15, tm := tmS L .nil, pt := Tr.nil.put 1 (1, 0), loc := Tr.nil.put 1 (mkC a b c d), round := none }

def b30 : Code := bodyOf 30
def k30 : Code := cB (cB (cR (cL (cN 2 b30))))
theorem b30_eq : b30 = nest [cL b30, cL (cN 1 b30)] (.seq (.seq (cL (cL (cN 2 b30))) (.block 0 (.loop k30))) (cN 3 b30)) := by kernel_rfl
theorem s30a_k : (fun (a b c d e g h j : Int) => (codeT cfVd (callT cfVd tVd 60) 60 cz (seqOf [cL b30, cL (cN 1 b30)]) (frame0 30 (ntOf 30) #[mk a b c d, mk e g h j]) st0).evalM (gcObs 0 0 (kp [2, 3, 4, 5] []))) = fun (a b c d e g h j : Int) => some (.normal, frM 30 a b c d e g h j [(5, nilS)], st0) := by kernel_rfl
theorem s30a (a b c d e g h j : Int) : (codeT cfVd (callT cfVd tVd 60) 60 cz (seqOf [cL b30, cL (cN 1 b30)]) (frame0 30 (ntOf 30) #[mk a b c d, mk e g h j]) st0).evalM (gcObs 0 0 (kp [2, 3, 4, 5] [])) = some (.normal, frM 30 a b c d e g h j [(5, nilS)], st0) := congrFun (congrFun (congrFun (congrFun (congrFun (congrFun (congrFun (congrFun s30a_k a) b) c) d) e) g) h) j
theorem i30_k : (fun (a b c d e g h j : Int) => (codeT cfVd (callT cfVd tVd 60) 60 cz (cL (cL (cN 2 b30))) (frM 30 a b c d e g h j [(5, nilS)]) st0).evalM (gcObs 0 0 (kp [2, 3, 4, 5, 6] []))) = fun (a b c d e g h j : Int) => some (.normal, frM 30 a b c d e g h j [(5, nilS), (6, .int .i64 0)], st0) := by kernel_rfl
theorem i30 (a b c d e g h j : Int) : (codeT cfVd (callT cfVd tVd 60) 60 cz (cL (cL (cN 2 b30))) (frM 30 a b c d e g h j [(5, nilS)]) st0).evalM (gcObs 0 0 (kp [2, 3, 4, 5, 6] [])) = some (.normal, frM 30 a b c d e g h j [(5, nilS), (6, .int .i64 0)], st0) := congrFun (congrFun (congrFun (congrFun (congrFun (congrFun (congrFun (congrFun i30_k a) b) c) d) e) g) h) j
theorem e30a_k : (fun (a b c d e g h j i : Int) => (codeT cfVd (callT cfVd tVd 60) 60 cz (cN 3 b30) (frM 30 a b c d e g h j [(5, nilS), (6, .int .i64 i)]) st0).evalM (gcObs 0 0 (kp [4] []))) = fun (_ _ _ _ _ _ _ _ _ : Int) => some (.ret, frME 30 (wd (setI #[] 0 0) 0) (wd (setI #[] 0 0) 1) (wd (setI #[] 0 0) 2) (wd (setI #[] 0 0) 3), st0) := by kernel_rfl
theorem e30a (a b c d e g h j i : Int) : (codeT cfVd (callT cfVd tVd 60) 60 cz (cN 3 b30) (frM 30 a b c d e g h j [(5, nilS), (6, .int .i64 i)]) st0).evalM (gcObs 0 0 (kp [4] [])) = some (.ret, frME 30 (wd (setI #[] 0 0) 0) (wd (setI #[] 0 0) 1) (wd (setI #[] 0 0) 2) (wd (setI #[] 0 0) 3), st0) := congrFun (congrFun (congrFun (congrFun (congrFun (congrFun (congrFun (congrFun (congrFun e30a_k a) b) c) d) e) g) h) j) i
theorem e30b_k : (fun (a b c d e g h j i : Int) (k : Nat) (E : Array Value) => (codeT cfVd (callT cfVd tVd 60) 60 cz (cN 3 b30) (frM 30 a b c d e g h j [(5, (sl0 k)), (6, .int .i64 i)]) (sRow E)).evalM (gcObs 0 0 (kp [4] []))) = fun (_ _ _ _ _ _ _ _ _ : Int) (k : Nat) (E : Array Value) => bif decide (k ≤ k) && (decide (E.size ≠ 0) && E.all (freeN 9)) then (bif intsOk E 0 k then some (.ret, frME 30 (wd (setI E 0 k) 0) (wd (setI E 0 k) 1) (wd (setI E 0 k) 2) (wd (setI E 0 k) 3), st0) else none) else none := by kernel_rfl
theorem e30b (a b c d e g h j i : Int) (k : Nat) (E : Array Value) : (codeT cfVd (callT cfVd tVd 60) 60 cz (cN 3 b30) (frM 30 a b c d e g h j [(5, (sl0 k)), (6, .int .i64 i)]) (sRow E)).evalM (gcObs 0 0 (kp [4] [])) = bif decide (k ≤ k) && (decide (E.size ≠ 0) && E.all (freeN 9)) then (bif intsOk E 0 k then some (.ret, frME 30 (wd (setI E 0 k) 0) (wd (setI E 0 k) 1) (wd (setI E 0 k) 2) (wd (setI E 0 k) 3), st0) else none) else none := congrFun (congrFun (congrFun (congrFun (congrFun (congrFun (congrFun (congrFun (congrFun (congrFun (congrFun e30b_k a) b) c) d) e) g) h) j) i) k) E
def b32 : Code := bodyOf 32
def k32 : Code := cB (cB (cR (cL (cN 2 b32))))
theorem b32_eq : b32 = nest [cL b32, cL (cN 1 b32)] (.seq (.seq (cL (cL (cN 2 b32))) (.block 0 (.loop k32))) (cN 3 b32)) := by kernel_rfl
theorem s32a_k : (fun (a b c d e g h j : Int) => (codeT cfVd (callT cfVd tVd 60) 60 cz (seqOf [cL b32, cL (cN 1 b32)]) (frame0 32 (ntOf 32) #[mk a b c d, mk e g h j]) st0).evalM (gcObs 0 0 (kp [2, 3, 4, 5] []))) = fun (a b c d e g h j : Int) => some (.normal, frM 32 a b c d e g h j [(5, nilS)], st0) := by kernel_rfl
theorem s32a (a b c d e g h j : Int) : (codeT cfVd (callT cfVd tVd 60) 60 cz (seqOf [cL b32, cL (cN 1 b32)]) (frame0 32 (ntOf 32) #[mk a b c d, mk e g h j]) st0).evalM (gcObs 0 0 (kp [2, 3, 4, 5] [])) = some (.normal, frM 32 a b c d e g h j [(5, nilS)], st0) := congrFun (congrFun (congrFun (congrFun (congrFun (congrFun (congrFun (congrFun s32a_k a) b) c) d) e) g) h) j
theorem i32_k : (fun (a b c d e g h j : Int) => (codeT cfVd (callT cfVd tVd 60) 60 cz (cL (cL (cN 2 b32))) (frM 32 a b c d e g h j [(5, nilS)]) st0).evalM (gcObs 0 0 (kp [2, 3, 4, 5, 6] []))) = fun (a b c d e g h j : Int) => some (.normal, frM 32 a b c d e g h j [(5, nilS), (6, .int .i64 0)], st0) := by kernel_rfl
theorem i32 (a b c d e g h j : Int) : (codeT cfVd (callT cfVd tVd 60) 60 cz (cL (cL (cN 2 b32))) (frM 32 a b c d e g h j [(5, nilS)]) st0).evalM (gcObs 0 0 (kp [2, 3, 4, 5, 6] [])) = some (.normal, frM 32 a b c d e g h j [(5, nilS), (6, .int .i64 0)], st0) := congrFun (congrFun (congrFun (congrFun (congrFun (congrFun (congrFun (congrFun i32_k a) b) c) d) e) g) h) j
theorem e32a_k : (fun (a b c d e g h j i : Int) => (codeT cfVd (callT cfVd tVd 60) 60 cz (cN 3 b32) (frM 32 a b c d e g h j [(5, nilS), (6, .int .i64 i)]) st0).evalM (gcObs 0 0 (kp [4] []))) = fun (_ _ _ _ _ _ _ _ _ : Int) => some (.ret, frME 32 (wd (setI #[] 0 0) 0) (wd (setI #[] 0 0) 1) (wd (setI #[] 0 0) 2) (wd (setI #[] 0 0) 3), st0) := by kernel_rfl
theorem e32a (a b c d e g h j i : Int) : (codeT cfVd (callT cfVd tVd 60) 60 cz (cN 3 b32) (frM 32 a b c d e g h j [(5, nilS), (6, .int .i64 i)]) st0).evalM (gcObs 0 0 (kp [4] [])) = some (.ret, frME 32 (wd (setI #[] 0 0) 0) (wd (setI #[] 0 0) 1) (wd (setI #[] 0 0) 2) (wd (setI #[] 0 0) 3), st0) := congrFun (congrFun (congrFun (congrFun (congrFun (congrFun (congrFun (congrFun (congrFun e32a_k a) b) c) d) e) g) h) j) i
theorem e32b_k : (fun (a b c d e g h j i : Int) (k : Nat) (E : Array Value) => (codeT cfVd (callT cfVd tVd 60) 60 cz (cN 3 b32) (frM 32 a b c d e g h j [(5, (sl0 k)), (6, .int .i64 i)]) (sRow E)).evalM (gcObs 0 0 (kp [4] []))) = fun (_ _ _ _ _ _ _ _ _ : Int) (k : Nat) (E : Array Value) => bif decide (k ≤ k) && (decide (E.size ≠ 0) && E.all (freeN 9)) then (bif intsOk E 0 k then some (.ret, frME 32 (wd (setI E 0 k) 0) (wd (setI E 0 k) 1) (wd (setI E 0 k) 2) (wd (setI E 0 k) 3), st0) else none) else none := by kernel_rfl
theorem e32b (a b c d e g h j i : Int) (k : Nat) (E : Array Value) : (codeT cfVd (callT cfVd tVd 60) 60 cz (cN 3 b32) (frM 32 a b c d e g h j [(5, (sl0 k)), (6, .int .i64 i)]) (sRow E)).evalM (gcObs 0 0 (kp [4] [])) = bif decide (k ≤ k) && (decide (E.size ≠ 0) && E.all (freeN 9)) then (bif intsOk E 0 k then some (.ret, frME 32 (wd (setI E 0 k) 0) (wd (setI E 0 k) 1) (wd (setI E 0 k) 2) (wd (setI E 0 k) 3), st0) else none) else none := congrFun (congrFun (congrFun (congrFun (congrFun (congrFun (congrFun (congrFun (congrFun (congrFun (congrFun e32b_k a) b) c) d) e) g) h) j) i) k) E
def b33 : Code := bodyOf 33
def k33 : Code := cB (cB (cR (cL (cN 2 b33))))
theorem b33_eq : b33 = nest [cL b33, cL (cN 1 b33)] (.seq (.seq (cL (cL (cN 2 b33))) (.block 0 (.loop k33))) (cN 3 b33)) := by kernel_rfl
theorem s33a_k : (fun (a b c d e g h j : Int) => (codeT cfVd (callT cfVd tVd 60) 60 cz (seqOf [cL b33, cL (cN 1 b33)]) (frame0 33 (ntOf 33) #[mk a b c d, mk e g h j]) st0).evalM (gcObs 0 0 (kp [2, 3, 4, 5] []))) = fun (a b c d e g h j : Int) => some (.normal, frM 33 a b c d e g h j [(5, nilS)], st0) := by kernel_rfl
theorem s33a (a b c d e g h j : Int) : (codeT cfVd (callT cfVd tVd 60) 60 cz (seqOf [cL b33, cL (cN 1 b33)]) (frame0 33 (ntOf 33) #[mk a b c d, mk e g h j]) st0).evalM (gcObs 0 0 (kp [2, 3, 4, 5] [])) = some (.normal, frM 33 a b c d e g h j [(5, nilS)], st0) := congrFun (congrFun (congrFun (congrFun (congrFun (congrFun (congrFun (congrFun s33a_k a) b) c) d) e) g) h) j
theorem i33_k : (fun (a b c d e g h j : Int) => (codeT cfVd (callT cfVd tVd 60) 60 cz (cL (cL (cN 2 b33))) (frM 33 a b c d e g h j [(5, nilS)]) st0).evalM (gcObs 0 0 (kp [2, 3, 4, 5, 6] []))) = fun (a b c d e g h j : Int) => some (.normal, frM 33 a b c d e g h j [(5, nilS), (6, .int .i64 0)], st0) := by kernel_rfl
theorem i33 (a b c d e g h j : Int) : (codeT cfVd (callT cfVd tVd 60) 60 cz (cL (cL (cN 2 b33))) (frM 33 a b c d e g h j [(5, nilS)]) st0).evalM (gcObs 0 0 (kp [2, 3, 4, 5, 6] [])) = some (.normal, frM 33 a b c d e g h j [(5, nilS), (6, .int .i64 0)], st0) := congrFun (congrFun (congrFun (congrFun (congrFun (congrFun (congrFun (congrFun i33_k a) b) c) d) e) g) h) j
theorem e33a_k : (fun (a b c d e g h j i : Int) => (codeT cfVd (callT cfVd tVd 60) 60 cz (cN 3 b33) (frM 33 a b c d e g h j [(5, nilS), (6, .int .i64 i)]) st0).evalM (gcObs 0 0 (kp [4] []))) = fun (_ _ _ _ _ _ _ _ _ : Int) => some (.ret, frME 33 (wd (setI #[] 0 0) 0) (wd (setI #[] 0 0) 1) (wd (setI #[] 0 0) 2) (wd (setI #[] 0 0) 3), st0) := by kernel_rfl
theorem e33a (a b c d e g h j i : Int) : (codeT cfVd (callT cfVd tVd 60) 60 cz (cN 3 b33) (frM 33 a b c d e g h j [(5, nilS), (6, .int .i64 i)]) st0).evalM (gcObs 0 0 (kp [4] [])) = some (.ret, frME 33 (wd (setI #[] 0 0) 0) (wd (setI #[] 0 0) 1) (wd (setI #[] 0 0) 2) (wd (setI #[] 0 0) 3), st0) := congrFun (congrFun (congrFun (congrFun (congrFun (congrFun (congrFun (congrFun (congrFun e33a_k a) b) c) d) e) g) h) j) i
theorem e33b_k : (fun (a b c d e g h j i : Int) (k : Nat) (E : Array Value) => (codeT cfVd (callT cfVd tVd 60) 60 cz (cN 3 b33) (frM 33 a b c d e g h j [(5, (sl0 k)), (6, .int .i64 i)]) (sRow E)).evalM (gcObs 0 0 (kp [4] []))) = fun (_ _ _ _ _ _ _ _ _ : Int) (k : Nat) (E : Array Value) => bif decide (k ≤ k) && (decide (E.size ≠ 0) && E.all (freeN 9)) then (bif intsOk E 0 k then some (.ret, frME 33 (wd (setI E 0 k) 0) (wd (setI E 0 k) 1) (wd (setI E 0 k) 2) (wd (setI E 0 k) 3), st0) else none) else none := by kernel_rfl
theorem e33b (a b c d e g h j i : Int) (k : Nat) (E : Array Value) : (codeT cfVd (callT cfVd tVd 60) 60 cz (cN 3 b33) (frM 33 a b c d e g h j [(5, (sl0 k)), (6, .int .i64 i)]) (sRow E)).evalM (gcObs 0 0 (kp [4] [])) = bif decide (k ≤ k) && (decide (E.size ≠ 0) && E.all (freeN 9)) then (bif intsOk E 0 k then some (.ret, frME 33 (wd (setI E 0 k) 0) (wd (setI E 0 k) 1) (wd (setI E 0 k) 2) (wd (setI E 0 k) 3), st0) else none) else none := congrFun (congrFun (congrFun (congrFun (congrFun (congrFun (congrFun (congrFun (congrFun (congrFun (congrFun e33b_k a) b) c) d) e) g) h) j) i) k) E
def b15 : Code := bodyOf 15
def k15 : Code := cB (cB (cR (cL (cN 2 b15))))
theorem b15_eq : b15 = nest [cL b15, cL (cN 1 b15)] (.seq (.seq (cL (cL (cN 2 b15))) (.block 0 (.loop k15))) (cN 3 b15)) := by kernel_rfl
theorem s15a_k : (fun (a b c d : Int) => (codeT cfVd (callT cfVd tVd 60) 60 cz (seqOf [cL b15, cL (cN 1 b15)]) (frame0 15 (ntOf 15) #[mk a b c d]) st0).evalM (gcObs 0 0 (kp [1, 3] []))) = fun (a b c d : Int) => some (.normal, frL15 a b c d [(3, nilS)], st0) := by kernel_rfl
theorem s15a (a b c d : Int) : (codeT cfVd (callT cfVd tVd 60) 60 cz (seqOf [cL b15, cL (cN 1 b15)]) (frame0 15 (ntOf 15) #[mk a b c d]) st0).evalM (gcObs 0 0 (kp [1, 3] [])) = some (.normal, frL15 a b c d [(3, nilS)], st0) := congrFun (congrFun (congrFun (congrFun s15a_k a) b) c) d
theorem i15_k : (fun (a b c d : Int) => (codeT cfVd (callT cfVd tVd 60) 60 cz (cL (cL (cN 2 b15))) (frL15 a b c d [(3, nilS)]) st0).evalM (gcObs 0 0 (kp [1, 3, 4] []))) = fun (a b c d : Int) => some (.normal, frL15 a b c d [(3, nilS), (4, .int .i64 0)], st0) := by kernel_rfl
theorem i15 (a b c d : Int) : (codeT cfVd (callT cfVd tVd 60) 60 cz (cL (cL (cN 2 b15))) (frL15 a b c d [(3, nilS)]) st0).evalM (gcObs 0 0 (kp [1, 3, 4] [])) = some (.normal, frL15 a b c d [(3, nilS), (4, .int .i64 0)], st0) := congrFun (congrFun (congrFun (congrFun i15_k a) b) c) d
theorem e15a_k : (fun (a b c d i : Int) => (codeT cfVd (callT cfVd tVd 60) 60 cz (cN 3 b15) (frL15 a b c d [(3, nilS), (4, .int .i64 i)]) st0).evalM (gcObs 0 0 (kp [2] []))) = fun (_ _ _ _ _ : Int) => some (.ret, frS 15 [(2, nilS)], st0) := by kernel_rfl
theorem e15a (a b c d i : Int) : (codeT cfVd (callT cfVd tVd 60) 60 cz (cN 3 b15) (frL15 a b c d [(3, nilS), (4, .int .i64 i)]) st0).evalM (gcObs 0 0 (kp [2] [])) = some (.ret, frS 15 [(2, nilS)], st0) := congrFun (congrFun (congrFun (congrFun (congrFun e15a_k a) b) c) d) i
theorem e15b_k : (fun (a b c d i : Int) (k : Nat) (E : Array Value) => (codeT cfVd (callT cfVd tVd 60) 60 cz (cN 3 b15) (frL15 a b c d [(3, (sl0 k)), (4, .int .i64 i)]) (sRow E)).evalM (gcObs 0 0 (kp [2] [.plain 0]))) = fun (_ _ _ _ _ : Int) (k : Nat) (E : Array Value) => some (.ret, frS 15 [(2, sl0 k)], sRow E) := by kernel_rfl
theorem e15b (a b c d i : Int) (k : Nat) (E : Array Value) : (codeT cfVd (callT cfVd tVd 60) 60 cz (cN 3 b15) (frL15 a b c d [(3, (sl0 k)), (4, .int .i64 i)]) (sRow E)).evalM (gcObs 0 0 (kp [2] [.plain 0])) = some (.ret, frS 15 [(2, sl0 k)], sRow E) := congrFun (congrFun (congrFun (congrFun (congrFun (congrFun (congrFun e15b_k a) b) c) d) i) k) E
def p30a_bits : List Bool := [true, true, true, true, true, true, true, true, true, true, true, true, true, true, true, false, true, false, true, true, true]
def p30a_c (a b c d e g h j i : Int) : Bool :=
  (decide (i < 256))
   && ((inQ a b c d)
   && ((hasB a b c d i)
   && ((inQ e g h j)
   && ((hasB e g h j i)
   && true))))
theorem p30a_cond_k : (fun (a b c d e g h j i : Int) => (followT p30a_bits (codeT cfVd (callT cfVd tVd 60) 60 cz k30 (frM 30 a b c d e g h j [(5, nilS), (6, .int .i64 i)]) st0)).1) = fun (a b c d e g h j i : Int) => p30a_c a b c d e g h j i := by kernel_rfl
theorem p30a_cond (a b c d e g h j i : Int) : (followT p30a_bits (codeT cfVd (callT cfVd tVd 60) 60 cz k30 (frM 30 a b c d e g h j [(5, nilS), (6, .int .i64 i)]) st0)).1 = p30a_c a b c d e g h j i := congrFun (congrFun (congrFun (congrFun (congrFun (congrFun (congrFun (congrFun (congrFun p30a_cond_k a) b) c) d) e) g) h) j) i
theorem p30a_leaf_k : (fun (a b c d e g h j i : Int) => pathObs (gcObs 0 0 (selR [2, 3, 4, 5, 6] (some 1))) p30a_bits (codeT cfVd (callT cfVd tVd 60) 60 cz k30 (frM 30 a b c d e g h j [(5, nilS), (6, .int .i64 i)]) st0)) = fun (a b c d e g h j i : Int) => some (.normal, frM 30 a b c d e g h j [(5, (sl0 1)), (6, .int .i64 (inc i))], sRow ⟨[.int .i64 i]⟩) := by kernel_rfl
theorem p30a_leaf (a b c d e g h j i : Int) : pathObs (gcObs 0 0 (selR [2, 3, 4, 5, 6] (some 1))) p30a_bits (codeT cfVd (callT cfVd tVd 60) 60 cz k30 (frM 30 a b c d e g h j [(5, nilS), (6, .int .i64 i)]) st0) = some (.normal, frM 30 a b c d e g h j [(5, (sl0 1)), (6, .int .i64 (inc i))], sRow ⟨[.int .i64 i]⟩) := congrFun (congrFun (congrFun (congrFun (congrFun (congrFun (congrFun (congrFun (congrFun p30a_leaf_k a) b) c) d) e) g) h) j) i
def p30b_bits : List Bool := [true, true, true, true, true, true, true, true, true, true, true, true, true, true, true, false, true, false, true, true, true, false, true, true, true]
def p30b_c (a b c d e g h j i : Int) (k : Nat) (E : Array Value) : Bool :=
  (decide (i < 256))
   && ((inQ a b c d)
   && ((hasB a b c d i)
   && ((inQ e g h j)
   && ((hasB e g h j i)
   && ((decide (k ≤ k) && decide (k + 1 ≤ nLim) && true && true && true && true && true)
   && (!(decide (k + 1 ≤ k))
   && ((decide (0 + k * 1 ≤ E.size))
   && (((k == k) && (0 + k * 1 == E.size))
   && true))))))))
theorem p30b_cond_k : (fun (a b c d e g h j i : Int) (k : Nat) (E : Array Value) => (followT p30b_bits (codeT cfVd (callT cfVd tVd 60) 60 cz k30 (frM 30 a b c d e g h j [(5, (sl0 k)), (6, .int .i64 i)]) (sRow E))).1) = fun (a b c d e g h j i : Int) (k : Nat) (E : Array Value) => p30b_c a b c d e g h j i k E := by kernel_rfl
theorem p30b_cond (a b c d e g h j i : Int) (k : Nat) (E : Array Value) : (followT p30b_bits (codeT cfVd (callT cfVd tVd 60) 60 cz k30 (frM 30 a b c d e g h j [(5, (sl0 k)), (6, .int .i64 i)]) (sRow E))).1 = p30b_c a b c d e g h j i k E := congrFun (congrFun (congrFun (congrFun (congrFun (congrFun (congrFun (congrFun (congrFun (congrFun (congrFun p30b_cond_k a) b) c) d) e) g) h) j) i) k) E
theorem p30b_leaf_k : (fun (a b c d e g h j i : Int) (k : Nat) (E : Array Value) => pathObs (gcObs 0 0 (selR [2, 3, 4, 5, 6] (some 2))) p30b_bits (codeT cfVd (callT cfVd tVd 60) 60 cz k30 (frM 30 a b c d e g h j [(5, (sl0 k)), (6, .int .i64 i)]) (sRow E))) = fun (a b c d e g h j i : Int) (k : Nat) (E : Array Value) => some (.normal, frM 30 a b c d e g h j [(5, (sl0 (k + 1))), (6, .int .i64 (inc i))], sRow (aE E k i)) := by kernel_rfl
theorem p30b_leaf (a b c d e g h j i : Int) (k : Nat) (E : Array Value) : pathObs (gcObs 0 0 (selR [2, 3, 4, 5, 6] (some 2))) p30b_bits (codeT cfVd (callT cfVd tVd 60) 60 cz k30 (frM 30 a b c d e g h j [(5, (sl0 k)), (6, .int .i64 i)]) (sRow E)) = some (.normal, frM 30 a b c d e g h j [(5, (sl0 (k + 1))), (6, .int .i64 (inc i))], sRow (aE E k i)) := congrFun (congrFun (congrFun (congrFun (congrFun (congrFun (congrFun (congrFun (congrFun (congrFun (congrFun p30b_leaf_k a) b) c) d) e) g) h) j) i) k) E
def q30a_bits : List Bool := [true, true, true, true, true, true, true, true, true, true, true, true, true, true, false]
def q30a_c (a b c d e g h j i : Int) : Bool :=
  (decide (i < 256))
   && ((inQ a b c d)
   && ((hasB a b c d i)
   && ((inQ e g h j)
   && (!(hasB e g h j i)
   && true))))
theorem q30a_cond_k : (fun (a b c d e g h j i : Int) => (followT q30a_bits (codeT cfVd (callT cfVd tVd 60) 60 cz k30 (frM 30 a b c d e g h j [(5, nilS), (6, .int .i64 i)]) st0)).1) = fun (a b c d e g h j i : Int) => q30a_c a b c d e g h j i := by kernel_rfl
theorem q30a_cond (a b c d e g h j i : Int) : (followT q30a_bits (codeT cfVd (callT cfVd tVd 60) 60 cz k30 (frM 30 a b c d e g h j [(5, nilS), (6, .int .i64 i)]) st0)).1 = q30a_c a b c d e g h j i := congrFun (congrFun (congrFun (congrFun (congrFun (congrFun (congrFun (congrFun (congrFun q30a_cond_k a) b) c) d) e) g) h) j) i
theorem q30a_leaf_k : (fun (a b c d e g h j i : Int) => pathObs (gcObs 0 0 (selR [2, 3, 4, 5, 6] (none))) q30a_bits (codeT cfVd (callT cfVd tVd 60) 60 cz k30 (frM 30 a b c d e g h j [(5, nilS), (6, .int .i64 i)]) st0)) = fun (a b c d e g h j i : Int) => some (.normal, frM 30 a b c d e g h j [(5, nilS), (6, .int .i64 (inc i))], st0) := by kernel_rfl
theorem q30a_leaf (a b c d e g h j i : Int) : pathObs (gcObs 0 0 (selR [2, 3, 4, 5, 6] (none))) q30a_bits (codeT cfVd (callT cfVd tVd 60) 60 cz k30 (frM 30 a b c d e g h j [(5, nilS), (6, .int .i64 i)]) st0) = some (.normal, frM 30 a b c d e g h j [(5, nilS), (6, .int .i64 (inc i))], st0) := congrFun (congrFun (congrFun (congrFun (congrFun (congrFun (congrFun (congrFun (congrFun q30a_leaf_k a) b) c) d) e) g) h) j) i
def q30b_bits : List Bool := [true, true, true, true, true, true, true, true, true, true, true, true, true, true, false]
def q30b_c (a b c d e g h j i : Int) (_ : Nat) (_ : Array Value) : Bool :=
  (decide (i < 256))
   && ((inQ a b c d)
   && ((hasB a b c d i)
   && ((inQ e g h j)
   && (!(hasB e g h j i)
   && true))))
theorem q30b_cond_k : (fun (a b c d e g h j i : Int) (k : Nat) (E : Array Value) => (followT q30b_bits (codeT cfVd (callT cfVd tVd 60) 60 cz k30 (frM 30 a b c d e g h j [(5, (sl0 k)), (6, .int .i64 i)]) (sRow E))).1) = fun (a b c d e g h j i : Int) (k : Nat) (E : Array Value) => q30b_c a b c d e g h j i k E := by kernel_rfl
theorem q30b_cond (a b c d e g h j i : Int) (k : Nat) (E : Array Value) : (followT q30b_bits (codeT cfVd (callT cfVd tVd 60) 60 cz k30 (frM 30 a b c d e g h j [(5, (sl0 k)), (6, .int .i64 i)]) (sRow E))).1 = q30b_c a b c d e g h j i k E := congrFun (congrFun (congrFun (congrFun (congrFun (congrFun (congrFun (congrFun (congrFun (congrFun (congrFun q30b_cond_k a) b) c) d) e) g) h) j) i) k) E
theorem q30b_leaf_k : (fun (a b c d e g h j i : Int) (k : Nat) (E : Array Value) => pathObs (gcObs 0 0 (selR [2, 3, 4, 5, 6] (some 0))) q30b_bits (codeT cfVd (callT cfVd tVd 60) 60 cz k30 (frM 30 a b c d e g h j [(5, (sl0 k)), (6, .int .i64 i)]) (sRow E))) = fun (a b c d e g h j i : Int) (k : Nat) (E : Array Value) => some (.normal, frM 30 a b c d e g h j [(5, (sl0 k)), (6, .int .i64 (inc i))], sRow E) := by kernel_rfl
theorem q30b_leaf (a b c d e g h j i : Int) (k : Nat) (E : Array Value) : pathObs (gcObs 0 0 (selR [2, 3, 4, 5, 6] (some 0))) q30b_bits (codeT cfVd (callT cfVd tVd 60) 60 cz k30 (frM 30 a b c d e g h j [(5, (sl0 k)), (6, .int .i64 i)]) (sRow E)) = some (.normal, frM 30 a b c d e g h j [(5, (sl0 k)), (6, .int .i64 (inc i))], sRow E) := congrFun (congrFun (congrFun (congrFun (congrFun (congrFun (congrFun (congrFun (congrFun (congrFun (congrFun q30b_leaf_k a) b) c) d) e) g) h) j) i) k) E
def r30a_bits : List Bool := [true, true, true, true, false, false, false, false, false, false, false, false]
def r30a_c (a b c d _ _ _ _ i : Int) : Bool :=
  (decide (i < 256))
   && ((inQ a b c d)
   && (!(hasB a b c d i)
   && true))
theorem r30a_cond_k : (fun (a b c d e g h j i : Int) => (followT r30a_bits (codeT cfVd (callT cfVd tVd 60) 60 cz k30 (frM 30 a b c d e g h j [(5, nilS), (6, .int .i64 i)]) st0)).1) = fun (a b c d e g h j i : Int) => r30a_c a b c d e g h j i := by kernel_rfl
theorem r30a_cond (a b c d e g h j i : Int) : (followT r30a_bits (codeT cfVd (callT cfVd tVd 60) 60 cz k30 (frM 30 a b c d e g h j [(5, nilS), (6, .int .i64 i)]) st0)).1 = r30a_c a b c d e g h j i := congrFun (congrFun (congrFun (congrFun (congrFun (congrFun (congrFun (congrFun (congrFun r30a_cond_k a) b) c) d) e) g) h) j) i
theorem r30a_leaf_k : (fun (a b c d e g h j i : Int) => pathObs (gcObs 0 0 (selR [2, 3, 4, 5, 6] (none))) r30a_bits (codeT cfVd (callT cfVd tVd 60) 60 cz k30 (frM 30 a b c d e g h j [(5, nilS), (6, .int .i64 i)]) st0)) = fun (a b c d e g h j i : Int) => some (.normal, frM 30 a b c d e g h j [(5, nilS), (6, .int .i64 (inc i))], st0) := by kernel_rfl
theorem r30a_leaf (a b c d e g h j i : Int) : pathObs (gcObs 0 0 (selR [2, 3, 4, 5, 6] (none))) r30a_bits (codeT cfVd (callT cfVd tVd 60) 60 cz k30 (frM 30 a b c d e g h j [(5, nilS), (6, .int .i64 i)]) st0) = some (.normal, frM 30 a b c d e g h j [(5, nilS), (6, .int .i64 (inc i))], st0) := congrFun (congrFun (congrFun (congrFun (congrFun (congrFun (congrFun (congrFun (congrFun r30a_leaf_k a) b) c) d) e) g) h) j) i
def r30b_bits : List Bool := [true, true, true, true, false, false, false, false, false, false, false, false]
def r30b_c (a b c d _ _ _ _ i : Int) (_ : Nat) (_ : Array Value) : Bool :=
  (decide (i < 256))
   && ((inQ a b c d)
   && (!(hasB a b c d i)
   && true))
theorem r30b_cond_k : (fun (a b c d e g h j i : Int) (k : Nat) (E : Array Value) => (followT r30b_bits (codeT cfVd (callT cfVd tVd 60) 60 cz k30 (frM 30 a b c d e g h j [(5, (sl0 k)), (6, .int .i64 i)]) (sRow E))).1) = fun (a b c d e g h j i : Int) (k : Nat) (E : Array Value) => r30b_c a b c d e g h j i k E := by kernel_rfl
theorem r30b_cond (a b c d e g h j i : Int) (k : Nat) (E : Array Value) : (followT r30b_bits (codeT cfVd (callT cfVd tVd 60) 60 cz k30 (frM 30 a b c d e g h j [(5, (sl0 k)), (6, .int .i64 i)]) (sRow E))).1 = r30b_c a b c d e g h j i k E := congrFun (congrFun (congrFun (congrFun (congrFun (congrFun (congrFun (congrFun (congrFun (congrFun (congrFun r30b_cond_k a) b) c) d) e) g) h) j) i) k) E
theorem r30b_leaf_k : (fun (a b c d e g h j i : Int) (k : Nat) (E : Array Value) => pathObs (gcObs 0 0 (selR [2, 3, 4, 5, 6] (some 0))) r30b_bits (codeT cfVd (callT cfVd tVd 60) 60 cz k30 (frM 30 a b c d e g h j [(5, (sl0 k)), (6, .int .i64 i)]) (sRow E))) = fun (a b c d e g h j i : Int) (k : Nat) (E : Array Value) => some (.normal, frM 30 a b c d e g h j [(5, (sl0 k)), (6, .int .i64 (inc i))], sRow E) := by kernel_rfl
theorem r30b_leaf (a b c d e g h j i : Int) (k : Nat) (E : Array Value) : pathObs (gcObs 0 0 (selR [2, 3, 4, 5, 6] (some 0))) r30b_bits (codeT cfVd (callT cfVd tVd 60) 60 cz k30 (frM 30 a b c d e g h j [(5, (sl0 k)), (6, .int .i64 i)]) (sRow E)) = some (.normal, frM 30 a b c d e g h j [(5, (sl0 k)), (6, .int .i64 (inc i))], sRow E) := congrFun (congrFun (congrFun (congrFun (congrFun (congrFun (congrFun (congrFun (congrFun (congrFun (congrFun r30b_leaf_k a) b) c) d) e) g) h) j) i) k) E
def x30a_bits : List Bool := [false]
def x30a_c (_ _ _ _ _ _ _ _ i : Int) : Bool :=
  !(decide (i < 256))
   && true
theorem x30a_cond_k : (fun (a b c d e g h j i : Int) => (followT x30a_bits (codeT cfVd (callT cfVd tVd 60) 60 cz k30 (frM 30 a b c d e g h j [(5, nilS), (6, .int .i64 i)]) st0)).1) = fun (a b c d e g h j i : Int) => x30a_c a b c d e g h j i := by kernel_rfl
theorem x30a_cond (a b c d e g h j i : Int) : (followT x30a_bits (codeT cfVd (callT cfVd tVd 60) 60 cz k30 (frM 30 a b c d e g h j [(5, nilS), (6, .int .i64 i)]) st0)).1 = x30a_c a b c d e g h j i := congrFun (congrFun (congrFun (congrFun (congrFun (congrFun (congrFun (congrFun (congrFun x30a_cond_k a) b) c) d) e) g) h) j) i
theorem x30a_leaf_k : (fun (a b c d e g h j i : Int) => pathObs (gcObs 0 0 (selR [2, 3, 4, 5, 6] (none))) x30a_bits (codeT cfVd (callT cfVd tVd 60) 60 cz k30 (frM 30 a b c d e g h j [(5, nilS), (6, .int .i64 i)]) st0)) = fun (a b c d e g h j i : Int) => some (.exit 0, frM 30 a b c d e g h j [(5, nilS), (6, .int .i64 i)], st0) := by kernel_rfl
theorem x30a_leaf (a b c d e g h j i : Int) : pathObs (gcObs 0 0 (selR [2, 3, 4, 5, 6] (none))) x30a_bits (codeT cfVd (callT cfVd tVd 60) 60 cz k30 (frM 30 a b c d e g h j [(5, nilS), (6, .int .i64 i)]) st0) = some (.exit 0, frM 30 a b c d e g h j [(5, nilS), (6, .int .i64 i)], st0) := congrFun (congrFun (congrFun (congrFun (congrFun (congrFun (congrFun (congrFun (congrFun x30a_leaf_k a) b) c) d) e) g) h) j) i
def x30b_bits : List Bool := [false]
def x30b_c (_ _ _ _ _ _ _ _ i : Int) (_ : Nat) (_ : Array Value) : Bool :=
  !(decide (i < 256))
   && true
theorem x30b_cond_k : (fun (a b c d e g h j i : Int) (k : Nat) (E : Array Value) => (followT x30b_bits (codeT cfVd (callT cfVd tVd 60) 60 cz k30 (frM 30 a b c d e g h j [(5, (sl0 k)), (6, .int .i64 i)]) (sRow E))).1) = fun (a b c d e g h j i : Int) (k : Nat) (E : Array Value) => x30b_c a b c d e g h j i k E := by kernel_rfl
theorem x30b_cond (a b c d e g h j i : Int) (k : Nat) (E : Array Value) : (followT x30b_bits (codeT cfVd (callT cfVd tVd 60) 60 cz k30 (frM 30 a b c d e g h j [(5, (sl0 k)), (6, .int .i64 i)]) (sRow E))).1 = x30b_c a b c d e g h j i k E := congrFun (congrFun (congrFun (congrFun (congrFun (congrFun (congrFun (congrFun (congrFun (congrFun (congrFun x30b_cond_k a) b) c) d) e) g) h) j) i) k) E
theorem x30b_leaf_k : (fun (a b c d e g h j i : Int) (k : Nat) (E : Array Value) => pathObs (gcObs 0 0 (selR [2, 3, 4, 5, 6] (some 0))) x30b_bits (codeT cfVd (callT cfVd tVd 60) 60 cz k30 (frM 30 a b c d e g h j [(5, (sl0 k)), (6, .int .i64 i)]) (sRow E))) = fun (a b c d e g h j i : Int) (k : Nat) (E : Array Value) => some (.exit 0, frM 30 a b c d e g h j [(5, (sl0 k)), (6, .int .i64 i)], sRow E) := by kernel_rfl
theorem x30b_leaf (a b c d e g h j i : Int) (k : Nat) (E : Array Value) : pathObs (gcObs 0 0 (selR [2, 3, 4, 5, 6] (some 0))) x30b_bits (codeT cfVd (callT cfVd tVd 60) 60 cz k30 (frM 30 a b c d e g h j [(5, (sl0 k)), (6, .int .i64 i)]) (sRow E)) = some (.exit 0, frM 30 a b c d e g h j [(5, (sl0 k)), (6, .int .i64 i)], sRow E) := congrFun (congrFun (congrFun (congrFun (congrFun (congrFun (congrFun (congrFun (congrFun (congrFun (congrFun x30b_leaf_k a) b) c) d) e) g) h) j) i) k) E
def p32a_bits : List Bool := [true, true, true, true, true, true, true, true, true, true, true, true, false, true, false, true, true, true]
def p32a_c (a b c d _ _ _ _ i : Int) : Bool :=
  (decide (i < 256))
   && ((inQ a b c d)
   && ((hasB a b c d i)
   && true))
theorem p32a_cond_k : (fun (a b c d e g h j i : Int) => (followT p32a_bits (codeT cfVd (callT cfVd tVd 60) 60 cz k32 (frM 32 a b c d e g h j [(5, nilS), (6, .int .i64 i)]) st0)).1) = fun (a b c d e g h j i : Int) => p32a_c a b c d e g h j i := by kernel_rfl
theorem p32a_cond (a b c d e g h j i : Int) : (followT p32a_bits (codeT cfVd (callT cfVd tVd 60) 60 cz k32 (frM 32 a b c d e g h j [(5, nilS), (6, .int .i64 i)]) st0)).1 = p32a_c a b c d e g h j i := congrFun (congrFun (congrFun (congrFun (congrFun (congrFun (congrFun (congrFun (congrFun p32a_cond_k a) b) c) d) e) g) h) j) i
theorem p32a_leaf_k : (fun (a b c d e g h j i : Int) => pathObs (gcObs 0 0 (selR [2, 3, 4, 5, 6] (some 1))) p32a_bits (codeT cfVd (callT cfVd tVd 60) 60 cz k32 (frM 32 a b c d e g h j [(5, nilS), (6, .int .i64 i)]) st0)) = fun (a b c d e g h j i : Int) => some (.normal, frM 32 a b c d e g h j [(5, (sl0 1)), (6, .int .i64 (inc i))], sRow ⟨[.int .i64 i]⟩) := by kernel_rfl
theorem p32a_leaf (a b c d e g h j i : Int) : pathObs (gcObs 0 0 (selR [2, 3, 4, 5, 6] (some 1))) p32a_bits (codeT cfVd (callT cfVd tVd 60) 60 cz k32 (frM 32 a b c d e g h j [(5, nilS), (6, .int .i64 i)]) st0) = some (.normal, frM 32 a b c d e g h j [(5, (sl0 1)), (6, .int .i64 (inc i))], sRow ⟨[.int .i64 i]⟩) := congrFun (congrFun (congrFun (congrFun (congrFun (congrFun (congrFun (congrFun (congrFun p32a_leaf_k a) b) c) d) e) g) h) j) i
def p32b_bits : List Bool := [true, true, true, true, true, true, true, true, true, true, true, true, false, true, false, true, true, true, false, true, true, true]
def p32b_c (a b c d _ _ _ _ i : Int) (k : Nat) (E : Array Value) : Bool :=
  (decide (i < 256))
   && ((inQ a b c d)
   && ((hasB a b c d i)
   && ((decide (k ≤ k) && decide (k + 1 ≤ nLim) && true && true && true && true && true)
   && (!(decide (k + 1 ≤ k))
   && ((decide (0 + k * 1 ≤ E.size))
   && (((k == k) && (0 + k * 1 == E.size))
   && true))))))
theorem p32b_cond_k : (fun (a b c d e g h j i : Int) (k : Nat) (E : Array Value) => (followT p32b_bits (codeT cfVd (callT cfVd tVd 60) 60 cz k32 (frM 32 a b c d e g h j [(5, (sl0 k)), (6, .int .i64 i)]) (sRow E))).1) = fun (a b c d e g h j i : Int) (k : Nat) (E : Array Value) => p32b_c a b c d e g h j i k E := by kernel_rfl
theorem p32b_cond (a b c d e g h j i : Int) (k : Nat) (E : Array Value) : (followT p32b_bits (codeT cfVd (callT cfVd tVd 60) 60 cz k32 (frM 32 a b c d e g h j [(5, (sl0 k)), (6, .int .i64 i)]) (sRow E))).1 = p32b_c a b c d e g h j i k E := congrFun (congrFun (congrFun (congrFun (congrFun (congrFun (congrFun (congrFun (congrFun (congrFun (congrFun p32b_cond_k a) b) c) d) e) g) h) j) i) k) E
theorem p32b_leaf_k : (fun (a b c d e g h j i : Int) (k : Nat) (E : Array Value) => pathObs (gcObs 0 0 (selR [2, 3, 4, 5, 6] (some 2))) p32b_bits (codeT cfVd (callT cfVd tVd 60) 60 cz k32 (frM 32 a b c d e g h j [(5, (sl0 k)), (6, .int .i64 i)]) (sRow E))) = fun (a b c d e g h j i : Int) (k : Nat) (E : Array Value) => some (.normal, frM 32 a b c d e g h j [(5, (sl0 (k + 1))), (6, .int .i64 (inc i))], sRow (aE E k i)) := by kernel_rfl
theorem p32b_leaf (a b c d e g h j i : Int) (k : Nat) (E : Array Value) : pathObs (gcObs 0 0 (selR [2, 3, 4, 5, 6] (some 2))) p32b_bits (codeT cfVd (callT cfVd tVd 60) 60 cz k32 (frM 32 a b c d e g h j [(5, (sl0 k)), (6, .int .i64 i)]) (sRow E)) = some (.normal, frM 32 a b c d e g h j [(5, (sl0 (k + 1))), (6, .int .i64 (inc i))], sRow (aE E k i)) := congrFun (congrFun (congrFun (congrFun (congrFun (congrFun (congrFun (congrFun (congrFun (congrFun (congrFun p32b_leaf_k a) b) c) d) e) g) h) j) i) k) E
def o32a_bits : List Bool := [true, true, true, true, false, false, true, true, false, false, false, false, true, false, true, false, true, false, true, true, true]
def o32a_c (a b c d e g h j i : Int) : Bool :=
  (decide (i < 256))
   && ((inQ a b c d)
   && (!(hasB a b c d i)
   && ((inQ e g h j)
   && ((hasB e g h j i)
   && true))))
theorem o32a_cond_k : (fun (a b c d e g h j i : Int) => (followT o32a_bits (codeT cfVd (callT cfVd tVd 60) 60 cz k32 (frM 32 a b c d e g h j [(5, nilS), (6, .int .i64 i)]) st0)).1) = fun (a b c d e g h j i : Int) => o32a_c a b c d e g h j i := by kernel_rfl
theorem o32a_cond (a b c d e g h j i : Int) : (followT o32a_bits (codeT cfVd (callT cfVd tVd 60) 60 cz k32 (frM 32 a b c d e g h j [(5, nilS), (6, .int .i64 i)]) st0)).1 = o32a_c a b c d e g h j i := congrFun (congrFun (congrFun (congrFun (congrFun (congrFun (congrFun (congrFun (congrFun o32a_cond_k a) b) c) d) e) g) h) j) i
theorem o32a_leaf_k : (fun (a b c d e g h j i : Int) => pathObs (gcObs 0 0 (selR [2, 3, 4, 5, 6] (some 1))) o32a_bits (codeT cfVd (callT cfVd tVd 60) 60 cz k32 (frM 32 a b c d e g h j [(5, nilS), (6, .int .i64 i)]) st0)) = fun (a b c d e g h j i : Int) => some (.normal, frM 32 a b c d e g h j [(5, (sl0 1)), (6, .int .i64 (inc i))], sRow ⟨[.int .i64 i]⟩) := by kernel_rfl
theorem o32a_leaf (a b c d e g h j i : Int) : pathObs (gcObs 0 0 (selR [2, 3, 4, 5, 6] (some 1))) o32a_bits (codeT cfVd (callT cfVd tVd 60) 60 cz k32 (frM 32 a b c d e g h j [(5, nilS), (6, .int .i64 i)]) st0) = some (.normal, frM 32 a b c d e g h j [(5, (sl0 1)), (6, .int .i64 (inc i))], sRow ⟨[.int .i64 i]⟩) := congrFun (congrFun (congrFun (congrFun (congrFun (congrFun (congrFun (congrFun (congrFun o32a_leaf_k a) b) c) d) e) g) h) j) i
def o32b_bits : List Bool := [true, true, true, true, false, false, true, true, false, false, false, false, true, false, true, false, true, false, true, true, true, false, true, true, true]
def o32b_c (a b c d e g h j i : Int) (k : Nat) (E : Array Value) : Bool :=
  (decide (i < 256))
   && ((inQ a b c d)
   && (!(hasB a b c d i)
   && ((inQ e g h j)
   && ((hasB e g h j i)
   && ((decide (k ≤ k) && decide (k + 1 ≤ nLim) && true && true && true && true && true)
   && (!(decide (k + 1 ≤ k))
   && ((decide (0 + k * 1 ≤ E.size))
   && (((k == k) && (0 + k * 1 == E.size))
   && true))))))))
theorem o32b_cond_k : (fun (a b c d e g h j i : Int) (k : Nat) (E : Array Value) => (followT o32b_bits (codeT cfVd (callT cfVd tVd 60) 60 cz k32 (frM 32 a b c d e g h j [(5, (sl0 k)), (6, .int .i64 i)]) (sRow E))).1) = fun (a b c d e g h j i : Int) (k : Nat) (E : Array Value) => o32b_c a b c d e g h j i k E := by kernel_rfl
theorem o32b_cond (a b c d e g h j i : Int) (k : Nat) (E : Array Value) : (followT o32b_bits (codeT cfVd (callT cfVd tVd 60) 60 cz k32 (frM 32 a b c d e g h j [(5, (sl0 k)), (6, .int .i64 i)]) (sRow E))).1 = o32b_c a b c d e g h j i k E := congrFun (congrFun (congrFun (congrFun (congrFun (congrFun (congrFun (congrFun (congrFun (congrFun (congrFun o32b_cond_k a) b) c) d) e) g) h) j) i) k) E
theorem o32b_leaf_k : (fun (a b c d e g h j i : Int) (k : Nat) (E : Array Value) => pathObs (gcObs 0 0 (selR [2, 3, 4, 5, 6] (some 2))) o32b_bits (codeT cfVd (callT cfVd tVd 60) 60 cz k32 (frM 32 a b c d e g h j [(5, (sl0 k)), (6, .int .i64 i)]) (sRow E))) = fun (a b c d e g h j i : Int) (k : Nat) (E : Array Value) => some (.normal, frM 32 a b c d e g h j [(5, (sl0 (k + 1))), (6, .int .i64 (inc i))], sRow (aE E k i)) := by kernel_rfl
theorem o32b_leaf (a b c d e g h j i : Int) (k : Nat) (E : Array Value) : pathObs (gcObs 0 0 (selR [2, 3, 4, 5, 6] (some 2))) o32b_bits (codeT cfVd (callT cfVd tVd 60) 60 cz k32 (frM 32 a b c d e g h j [(5, (sl0 k)), (6, .int .i64 i)]) (sRow E)) = some (.normal, frM 32 a b c d e g h j [(5, (sl0 (k + 1))), (6, .int .i64 (inc i))], sRow (aE E k i)) := congrFun (congrFun (congrFun (congrFun (congrFun (congrFun (congrFun (congrFun (congrFun (congrFun (congrFun o32b_leaf_k a) b) c) d) e) g) h) j) i) k) E
def q32a_bits : List Bool := [true, true, true, true, false, false, true, true, false, false, false, false, true, false, false]
def q32a_c (a b c d e g h j i : Int) : Bool :=
  (decide (i < 256))
   && ((inQ a b c d)
   && (!(hasB a b c d i)
   && ((inQ e g h j)
   && (!(hasB e g h j i)
   && true))))
theorem q32a_cond_k : (fun (a b c d e g h j i : Int) => (followT q32a_bits (codeT cfVd (callT cfVd tVd 60) 60 cz k32 (frM 32 a b c d e g h j [(5, nilS), (6, .int .i64 i)]) st0)).1) = fun (a b c d e g h j i : Int) => q32a_c a b c d e g h j i := by kernel_rfl
theorem q32a_cond (a b c d e g h j i : Int) : (followT q32a_bits (codeT cfVd (callT cfVd tVd 60) 60 cz k32 (frM 32 a b c d e g h j [(5, nilS), (6, .int .i64 i)]) st0)).1 = q32a_c a b c d e g h j i := congrFun (congrFun (congrFun (congrFun (congrFun (congrFun (congrFun (congrFun (congrFun q32a_cond_k a) b) c) d) e) g) h) j) i
theorem q32a_leaf_k : (fun (a b c d e g h j i : Int) => pathObs (gcObs 0 0 (selR [2, 3, 4, 5, 6] (none))) q32a_bits (codeT cfVd (callT cfVd tVd 60) 60 cz k32 (frM 32 a b c d e g h j [(5, nilS), (6, .int .i64 i)]) st0)) = fun (a b c d e g h j i : Int) => some (.normal, frM 32 a b c d e g h j [(5, nilS), (6, .int .i64 (inc i))], st0) := by kernel_rfl
theorem q32a_leaf (a b c d e g h j i : Int) : pathObs (gcObs 0 0 (selR [2, 3, 4, 5, 6] (none))) q32a_bits (codeT cfVd (callT cfVd tVd 60) 60 cz k32 (frM 32 a b c d e g h j [(5, nilS), (6, .int .i64 i)]) st0) = some (.normal, frM 32 a b c d e g h j [(5, nilS), (6, .int .i64 (inc i))], st0) := congrFun (congrFun (congrFun (congrFun (congrFun (congrFun (congrFun (congrFun (congrFun q32a_leaf_k a) b) c) d) e) g) h) j) i
def q32b_bits : List Bool := [true, true, true, true, false, false, true, true, false, false, false, false, true, false, false]
def q32b_c (a b c d e g h j i : Int) (_ : Nat) (_ : Array Value) : Bool :=
  (decide (i < 256))
   && ((inQ a b c d)
   && (!(hasB a b c d i)
   && ((inQ e g h j)
   && (!(hasB e g h j i)
   && true))))
theorem q32b_cond_k : (fun (a b c d e g h j i : Int) (k : Nat) (E : Array Value) => (followT q32b_bits (codeT cfVd (callT cfVd tVd 60) 60 cz k32 (frM 32 a b c d e g h j [(5, (sl0 k)), (6, .int .i64 i)]) (sRow E))).1) = fun (a b c d e g h j i : Int) (k : Nat) (E : Array Value) => q32b_c a b c d e g h j i k E := by kernel_rfl
theorem q32b_cond (a b c d e g h j i : Int) (k : Nat) (E : Array Value) : (followT q32b_bits (codeT cfVd (callT cfVd tVd 60) 60 cz k32 (frM 32 a b c d e g h j [(5, (sl0 k)), (6, .int .i64 i)]) (sRow E))).1 = q32b_c a b c d e g h j i k E := congrFun (congrFun (congrFun (congrFun (congrFun (congrFun (congrFun (congrFun (congrFun (congrFun (congrFun q32b_cond_k a) b) c) d) e) g) h) j) i) k) E
theorem q32b_leaf_k : (fun (a b c d e g h j i : Int) (k : Nat) (E : Array Value) => pathObs (gcObs 0 0 (selR [2, 3, 4, 5, 6] (some 0))) q32b_bits (codeT cfVd (callT cfVd tVd 60) 60 cz k32 (frM 32 a b c d e g h j [(5, (sl0 k)), (6, .int .i64 i)]) (sRow E))) = fun (a b c d e g h j i : Int) (k : Nat) (E : Array Value) => some (.normal, frM 32 a b c d e g h j [(5, (sl0 k)), (6, .int .i64 (inc i))], sRow E) := by kernel_rfl
theorem q32b_leaf (a b c d e g h j i : Int) (k : Nat) (E : Array Value) : pathObs (gcObs 0 0 (selR [2, 3, 4, 5, 6] (some 0))) q32b_bits (codeT cfVd (callT cfVd tVd 60) 60 cz k32 (frM 32 a b c d e g h j [(5, (sl0 k)), (6, .int .i64 i)]) (sRow E)) = some (.normal, frM 32 a b c d e g h j [(5, (sl0 k)), (6, .int .i64 (inc i))], sRow E) := congrFun (congrFun (congrFun (congrFun (congrFun (congrFun (congrFun (congrFun (congrFun (congrFun (congrFun q32b_leaf_k a) b) c) d) e) g) h) j) i) k) E
def x32a_bits : List Bool := [false]
def x32a_c (_ _ _ _ _ _ _ _ i : Int) : Bool :=
  !(decide (i < 256))
   && true
theorem x32a_cond_k : (fun (a b c d e g h j i : Int) => (followT x32a_bits (codeT cfVd (callT cfVd tVd 60) 60 cz k32 (frM 32 a b c d e g h j [(5, nilS), (6, .int .i64 i)]) st0)).1) = fun (a b c d e g h j i : Int) => x32a_c a b c d e g h j i := by kernel_rfl
theorem x32a_cond (a b c d e g h j i : Int) : (followT x32a_bits (codeT cfVd (callT cfVd tVd 60) 60 cz k32 (frM 32 a b c d e g h j [(5, nilS), (6, .int .i64 i)]) st0)).1 = x32a_c a b c d e g h j i := congrFun (congrFun (congrFun (congrFun (congrFun (congrFun (congrFun (congrFun (congrFun x32a_cond_k a) b) c) d) e) g) h) j) i
theorem x32a_leaf_k : (fun (a b c d e g h j i : Int) => pathObs (gcObs 0 0 (selR [2, 3, 4, 5, 6] (none))) x32a_bits (codeT cfVd (callT cfVd tVd 60) 60 cz k32 (frM 32 a b c d e g h j [(5, nilS), (6, .int .i64 i)]) st0)) = fun (a b c d e g h j i : Int) => some (.exit 0, frM 32 a b c d e g h j [(5, nilS), (6, .int .i64 i)], st0) := by kernel_rfl
theorem x32a_leaf (a b c d e g h j i : Int) : pathObs (gcObs 0 0 (selR [2, 3, 4, 5, 6] (none))) x32a_bits (codeT cfVd (callT cfVd tVd 60) 60 cz k32 (frM 32 a b c d e g h j [(5, nilS), (6, .int .i64 i)]) st0) = some (.exit 0, frM 32 a b c d e g h j [(5, nilS), (6, .int .i64 i)], st0) := congrFun (congrFun (congrFun (congrFun (congrFun (congrFun (congrFun (congrFun (congrFun x32a_leaf_k a) b) c) d) e) g) h) j) i
def x32b_bits : List Bool := [false]
def x32b_c (_ _ _ _ _ _ _ _ i : Int) (_ : Nat) (_ : Array Value) : Bool :=
  !(decide (i < 256))
   && true
theorem x32b_cond_k : (fun (a b c d e g h j i : Int) (k : Nat) (E : Array Value) => (followT x32b_bits (codeT cfVd (callT cfVd tVd 60) 60 cz k32 (frM 32 a b c d e g h j [(5, (sl0 k)), (6, .int .i64 i)]) (sRow E))).1) = fun (a b c d e g h j i : Int) (k : Nat) (E : Array Value) => x32b_c a b c d e g h j i k E := by kernel_rfl
theorem x32b_cond (a b c d e g h j i : Int) (k : Nat) (E : Array Value) : (followT x32b_bits (codeT cfVd (callT cfVd tVd 60) 60 cz k32 (frM 32 a b c d e g h j [(5, (sl0 k)), (6, .int .i64 i)]) (sRow E))).1 = x32b_c a b c d e g h j i k E := congrFun (congrFun (congrFun (congrFun (congrFun (congrFun (congrFun (congrFun (congrFun (congrFun (congrFun x32b_cond_k a) b) c) d) e) g) h) j) i) k) E
theorem x32b_leaf_k : (fun (a b c d e g h j i : Int) (k : Nat) (E : Array Value) => pathObs (gcObs 0 0 (selR [2, 3, 4, 5, 6] (some 0))) x32b_bits (codeT cfVd (callT cfVd tVd 60) 60 cz k32 (frM 32 a b c d e g h j [(5, (sl0 k)), (6, .int .i64 i)]) (sRow E))) = fun (a b c d e g h j i : Int) (k : Nat) (E : Array Value) => some (.exit 0, frM 32 a b c d e g h j [(5, (sl0 k)), (6, .int .i64 i)], sRow E) := by kernel_rfl
theorem x32b_leaf (a b c d e g h j i : Int) (k : Nat) (E : Array Value) : pathObs (gcObs 0 0 (selR [2, 3, 4, 5, 6] (some 0))) x32b_bits (codeT cfVd (callT cfVd tVd 60) 60 cz k32 (frM 32 a b c d e g h j [(5, (sl0 k)), (6, .int .i64 i)]) (sRow E)) = some (.exit 0, frM 32 a b c d e g h j [(5, (sl0 k)), (6, .int .i64 i)], sRow E) := congrFun (congrFun (congrFun (congrFun (congrFun (congrFun (congrFun (congrFun (congrFun (congrFun (congrFun x32b_leaf_k a) b) c) d) e) g) h) j) i) k) E
def p33a_bits : List Bool := [true, true, true, true, true, true, true, true, true, true, true, true, true, true, true, true, true, false, true, false, true, true, true]
def p33a_c (a b c d e g h j i : Int) : Bool :=
  (decide (i < 256))
   && ((inQ a b c d)
   && ((hasB a b c d i)
   && ((inQ e g h j)
   && ((!hasB e g h j i)
   && true))))
theorem p33a_cond_k : (fun (a b c d e g h j i : Int) => (followT p33a_bits (codeT cfVd (callT cfVd tVd 60) 60 cz k33 (frM 33 a b c d e g h j [(5, nilS), (6, .int .i64 i)]) st0)).1) = fun (a b c d e g h j i : Int) => p33a_c a b c d e g h j i := by kernel_rfl
theorem p33a_cond (a b c d e g h j i : Int) : (followT p33a_bits (codeT cfVd (callT cfVd tVd 60) 60 cz k33 (frM 33 a b c d e g h j [(5, nilS), (6, .int .i64 i)]) st0)).1 = p33a_c a b c d e g h j i := congrFun (congrFun (congrFun (congrFun (congrFun (congrFun (congrFun (congrFun (congrFun p33a_cond_k a) b) c) d) e) g) h) j) i
theorem p33a_leaf_k : (fun (a b c d e g h j i : Int) => pathObs (gcObs 0 0 (selR [2, 3, 4, 5, 6] (some 1))) p33a_bits (codeT cfVd (callT cfVd tVd 60) 60 cz k33 (frM 33 a b c d e g h j [(5, nilS), (6, .int .i64 i)]) st0)) = fun (a b c d e g h j i : Int) => some (.normal, frM 33 a b c d e g h j [(5, (sl0 1)), (6, .int .i64 (inc i))], sRow ⟨[.int .i64 i]⟩) := by kernel_rfl
theorem p33a_leaf (a b c d e g h j i : Int) : pathObs (gcObs 0 0 (selR [2, 3, 4, 5, 6] (some 1))) p33a_bits (codeT cfVd (callT cfVd tVd 60) 60 cz k33 (frM 33 a b c d e g h j [(5, nilS), (6, .int .i64 i)]) st0) = some (.normal, frM 33 a b c d e g h j [(5, (sl0 1)), (6, .int .i64 (inc i))], sRow ⟨[.int .i64 i]⟩) := congrFun (congrFun (congrFun (congrFun (congrFun (congrFun (congrFun (congrFun (congrFun p33a_leaf_k a) b) c) d) e) g) h) j) i
def p33b_bits : List Bool := [true, true, true, true, true, true, true, true, true, true, true, true, true, true, true, true, true, false, true, false, true, true, true, false, true, true, true]
def p33b_c (a b c d e g h j i : Int) (k : Nat) (E : Array Value) : Bool :=
  (decide (i < 256))
   && ((inQ a b c d)
   && ((hasB a b c d i)
   && ((inQ e g h j)
   && ((!hasB e g h j i)
   && ((decide (k ≤ k) && decide (k + 1 ≤ nLim) && true && true && true && true && true)
   && (!(decide (k + 1 ≤ k))
   && ((decide (0 + k * 1 ≤ E.size))
   && (((k == k) && (0 + k * 1 == E.size))
   && true))))))))
theorem p33b_cond_k : (fun (a b c d e g h j i : Int) (k : Nat) (E : Array Value) => (followT p33b_bits (codeT cfVd (callT cfVd tVd 60) 60 cz k33 (frM 33 a b c d e g h j [(5, (sl0 k)), (6, .int .i64 i)]) (sRow E))).1) = fun (a b c d e g h j i : Int) (k : Nat) (E : Array Value) => p33b_c a b c d e g h j i k E := by kernel_rfl
theorem p33b_cond (a b c d e g h j i : Int) (k : Nat) (E : Array Value) : (followT p33b_bits (codeT cfVd (callT cfVd tVd 60) 60 cz k33 (frM 33 a b c d e g h j [(5, (sl0 k)), (6, .int .i64 i)]) (sRow E))).1 = p33b_c a b c d e g h j i k E := congrFun (congrFun (congrFun (congrFun (congrFun (congrFun (congrFun (congrFun (congrFun (congrFun (congrFun p33b_cond_k a) b) c) d) e) g) h) j) i) k) E
theorem p33b_leaf_k : (fun (a b c d e g h j i : Int) (k : Nat) (E : Array Value) => pathObs (gcObs 0 0 (selR [2, 3, 4, 5, 6] (some 2))) p33b_bits (codeT cfVd (callT cfVd tVd 60) 60 cz k33 (frM 33 a b c d e g h j [(5, (sl0 k)), (6, .int .i64 i)]) (sRow E))) = fun (a b c d e g h j i : Int) (k : Nat) (E : Array Value) => some (.normal, frM 33 a b c d e g h j [(5, (sl0 (k + 1))), (6, .int .i64 (inc i))], sRow (aE E k i)) := by kernel_rfl
theorem p33b_leaf (a b c d e g h j i : Int) (k : Nat) (E : Array Value) : pathObs (gcObs 0 0 (selR [2, 3, 4, 5, 6] (some 2))) p33b_bits (codeT cfVd (callT cfVd tVd 60) 60 cz k33 (frM 33 a b c d e g h j [(5, (sl0 k)), (6, .int .i64 i)]) (sRow E)) = some (.normal, frM 33 a b c d e g h j [(5, (sl0 (k + 1))), (6, .int .i64 (inc i))], sRow (aE E k i)) := congrFun (congrFun (congrFun (congrFun (congrFun (congrFun (congrFun (congrFun (congrFun (congrFun (congrFun p33b_leaf_k a) b) c) d) e) g) h) j) i) k) E
def q33a_bits : List Bool := [true, true, true, true, true, true, true, true, true, true, true, true, true, true, true, true, false]
def q33a_c (a b c d e g h j i : Int) : Bool :=
  (decide (i < 256))
   && ((inQ a b c d)
   && ((hasB a b c d i)
   && ((inQ e g h j)
   && (!(!hasB e g h j i)
   && true))))
theorem q33a_cond_k : (fun (a b c d e g h j i : Int) => (followT q33a_bits (codeT cfVd (callT cfVd tVd 60) 60 cz k33 (frM 33 a b c d e g h j [(5, nilS), (6, .int .i64 i)]) st0)).1) = fun (a b c d e g h j i : Int) => q33a_c a b c d e g h j i := by kernel_rfl
theorem q33a_cond (a b c d e g h j i : Int) : (followT q33a_bits (codeT cfVd (callT cfVd tVd 60) 60 cz k33 (frM 33 a b c d e g h j [(5, nilS), (6, .int .i64 i)]) st0)).1 = q33a_c a b c d e g h j i := congrFun (congrFun (congrFun (congrFun (congrFun (congrFun (congrFun (congrFun (congrFun q33a_cond_k a) b) c) d) e) g) h) j) i
theorem q33a_leaf_k : (fun (a b c d e g h j i : Int) => pathObs (gcObs 0 0 (selR [2, 3, 4, 5, 6] (none))) q33a_bits (codeT cfVd (callT cfVd tVd 60) 60 cz k33 (frM 33 a b c d e g h j [(5, nilS), (6, .int .i64 i)]) st0)) = fun (a b c d e g h j i : Int) => some (.normal, frM 33 a b c d e g h j [(5, nilS), (6, .int .i64 (inc i))], st0) := by kernel_rfl
theorem q33a_leaf (a b c d e g h j i : Int) : pathObs (gcObs 0 0 (selR [2, 3, 4, 5, 6] (none))) q33a_bits (codeT cfVd (callT cfVd tVd 60) 60 cz k33 (frM 33 a b c d e g h j [(5, nilS), (6, .int .i64 i)]) st0) = some (.normal, frM 33 a b c d e g h j [(5, nilS), (6, .int .i64 (inc i))], st0) := congrFun (congrFun (congrFun (congrFun (congrFun (congrFun (congrFun (congrFun (congrFun q33a_leaf_k a) b) c) d) e) g) h) j) i
def q33b_bits : List Bool := [true, true, true, true, true, true, true, true, true, true, true, true, true, true, true, true, false]
def q33b_c (a b c d e g h j i : Int) (_ : Nat) (_ : Array Value) : Bool :=
  (decide (i < 256))
   && ((inQ a b c d)
   && ((hasB a b c d i)
   && ((inQ e g h j)
   && (!(!hasB e g h j i)
   && true))))
theorem q33b_cond_k : (fun (a b c d e g h j i : Int) (k : Nat) (E : Array Value) => (followT q33b_bits (codeT cfVd (callT cfVd tVd 60) 60 cz k33 (frM 33 a b c d e g h j [(5, (sl0 k)), (6, .int .i64 i)]) (sRow E))).1) = fun (a b c d e g h j i : Int) (k : Nat) (E : Array Value) => q33b_c a b c d e g h j i k E := by kernel_rfl
theorem q33b_cond (a b c d e g h j i : Int) (k : Nat) (E : Array Value) : (followT q33b_bits (codeT cfVd (callT cfVd tVd 60) 60 cz k33 (frM 33 a b c d e g h j [(5, (sl0 k)), (6, .int .i64 i)]) (sRow E))).1 = q33b_c a b c d e g h j i k E := congrFun (congrFun (congrFun (congrFun (congrFun (congrFun (congrFun (congrFun (congrFun (congrFun (congrFun q33b_cond_k a) b) c) d) e) g) h) j) i) k) E
theorem q33b_leaf_k : (fun (a b c d e g h j i : Int) (k : Nat) (E : Array Value) => pathObs (gcObs 0 0 (selR [2, 3, 4, 5, 6] (some 0))) q33b_bits (codeT cfVd (callT cfVd tVd 60) 60 cz k33 (frM 33 a b c d e g h j [(5, (sl0 k)), (6, .int .i64 i)]) (sRow E))) = fun (a b c d e g h j i : Int) (k : Nat) (E : Array Value) => some (.normal, frM 33 a b c d e g h j [(5, (sl0 k)), (6, .int .i64 (inc i))], sRow E) := by kernel_rfl
theorem q33b_leaf (a b c d e g h j i : Int) (k : Nat) (E : Array Value) : pathObs (gcObs 0 0 (selR [2, 3, 4, 5, 6] (some 0))) q33b_bits (codeT cfVd (callT cfVd tVd 60) 60 cz k33 (frM 33 a b c d e g h j [(5, (sl0 k)), (6, .int .i64 i)]) (sRow E)) = some (.normal, frM 33 a b c d e g h j [(5, (sl0 k)), (6, .int .i64 (inc i))], sRow E) := congrFun (congrFun (congrFun (congrFun (congrFun (congrFun (congrFun (congrFun (congrFun (congrFun (congrFun q33b_leaf_k a) b) c) d) e) g) h) j) i) k) E
def r33a_bits : List Bool := [true, true, true, true, false, false, false, false, false, false, false, false, false, false]
def r33a_c (a b c d _ _ _ _ i : Int) : Bool :=
  (decide (i < 256))
   && ((inQ a b c d)
   && (!(hasB a b c d i)
   && true))
theorem r33a_cond_k : (fun (a b c d e g h j i : Int) => (followT r33a_bits (codeT cfVd (callT cfVd tVd 60) 60 cz k33 (frM 33 a b c d e g h j [(5, nilS), (6, .int .i64 i)]) st0)).1) = fun (a b c d e g h j i : Int) => r33a_c a b c d e g h j i := by kernel_rfl
theorem r33a_cond (a b c d e g h j i : Int) : (followT r33a_bits (codeT cfVd (callT cfVd tVd 60) 60 cz k33 (frM 33 a b c d e g h j [(5, nilS), (6, .int .i64 i)]) st0)).1 = r33a_c a b c d e g h j i := congrFun (congrFun (congrFun (congrFun (congrFun (congrFun (congrFun (congrFun (congrFun r33a_cond_k a) b) c) d) e) g) h) j) i
theorem r33a_leaf_k : (fun (a b c d e g h j i : Int) => pathObs (gcObs 0 0 (selR [2, 3, 4, 5, 6] (none))) r33a_bits (codeT cfVd (callT cfVd tVd 60) 60 cz k33 (frM 33 a b c d e g h j [(5, nilS), (6, .int .i64 i)]) st0)) = fun (a b c d e g h j i : Int) => some (.normal, frM 33 a b c d e g h j [(5, nilS), (6, .int .i64 (inc i))], st0) := by kernel_rfl
theorem r33a_leaf (a b c d e g h j i : Int) : pathObs (gcObs 0 0 (selR [2, 3, 4, 5, 6] (none))) r33a_bits (codeT cfVd (callT cfVd tVd 60) 60 cz k33 (frM 33 a b c d e g h j [(5, nilS), (6, .int .i64 i)]) st0) = some (.normal, frM 33 a b c d e g h j [(5, nilS), (6, .int .i64 (inc i))], st0) := congrFun (congrFun (congrFun (congrFun (congrFun (congrFun (congrFun (congrFun (congrFun r33a_leaf_k a) b) c) d) e) g) h) j) i
def r33b_bits : List Bool := [true, true, true, true, false, false, false, false, false, false, false, false, false, false]
def r33b_c (a b c d _ _ _ _ i : Int) (_ : Nat) (_ : Array Value) : Bool :=
  (decide (i < 256))
   && ((inQ a b c d)
   && (!(hasB a b c d i)
   && true))
theorem r33b_cond_k : (fun (a b c d e g h j i : Int) (k : Nat) (E : Array Value) => (followT r33b_bits (codeT cfVd (callT cfVd tVd 60) 60 cz k33 (frM 33 a b c d e g h j [(5, (sl0 k)), (6, .int .i64 i)]) (sRow E))).1) = fun (a b c d e g h j i : Int) (k : Nat) (E : Array Value) => r33b_c a b c d e g h j i k E := by kernel_rfl
theorem r33b_cond (a b c d e g h j i : Int) (k : Nat) (E : Array Value) : (followT r33b_bits (codeT cfVd (callT cfVd tVd 60) 60 cz k33 (frM 33 a b c d e g h j [(5, (sl0 k)), (6, .int .i64 i)]) (sRow E))).1 = r33b_c a b c d e g h j i k E := congrFun (congrFun (congrFun (congrFun (congrFun (congrFun (congrFun (congrFun (congrFun (congrFun (congrFun r33b_cond_k a) b) c) d) e) g) h) j) i) k) E
theorem r33b_leaf_k : (fun (a b c d e g h j i : Int) (k : Nat) (E : Array Value) => pathObs (gcObs 0 0 (selR [2, 3, 4, 5, 6] (some 0))) r33b_bits (codeT cfVd (callT cfVd tVd 60) 60 cz k33 (frM 33 a b c d e g h j [(5, (sl0 k)), (6, .int .i64 i)]) (sRow E))) = fun (a b c d e g h j i : Int) (k : Nat) (E : Array Value) => some (.normal, frM 33 a b c d e g h j [(5, (sl0 k)), (6, .int .i64 (inc i))], sRow E) := by kernel_rfl
theorem r33b_leaf (a b c d e g h j i : Int) (k : Nat) (E : Array Value) : pathObs (gcObs 0 0 (selR [2, 3, 4, 5, 6] (some 0))) r33b_bits (codeT cfVd (callT cfVd tVd 60) 60 cz k33 (frM 33 a b c d e g h j [(5, (sl0 k)), (6, .int .i64 i)]) (sRow E)) = some (.normal, frM 33 a b c d e g h j [(5, (sl0 k)), (6, .int .i64 (inc i))], sRow E) := congrFun (congrFun (congrFun (congrFun (congrFun (congrFun (congrFun (congrFun (congrFun (congrFun (congrFun r33b_leaf_k a) b) c) d) e) g) h) j) i) k) E
def x33a_bits : List Bool := [false]
def x33a_c (_ _ _ _ _ _ _ _ i : Int) : Bool :=
  !(decide (i < 256))
   && true
theorem x33a_cond_k : (fun (a b c d e g h j i : Int) => (followT x33a_bits (codeT cfVd (callT cfVd tVd 60) 60 cz k33 (frM 33 a b c d e g h j [(5, nilS), (6, .int .i64 i)]) st0)).1) = fun (a b c d e g h j i : Int) => x33a_c a b c d e g h j i := by kernel_rfl
theorem x33a_cond (a b c d e g h j i : Int) : (followT x33a_bits (codeT cfVd (callT cfVd tVd 60) 60 cz k33 (frM 33 a b c d e g h j [(5, nilS), (6, .int .i64 i)]) st0)).1 = x33a_c a b c d e g h j i := congrFun (congrFun (congrFun (congrFun (congrFun (congrFun (congrFun (congrFun (congrFun x33a_cond_k a) b) c) d) e) g) h) j) i
theorem x33a_leaf_k : (fun (a b c d e g h j i : Int) => pathObs (gcObs 0 0 (selR [2, 3, 4, 5, 6] (none))) x33a_bits (codeT cfVd (callT cfVd tVd 60) 60 cz k33 (frM 33 a b c d e g h j [(5, nilS), (6, .int .i64 i)]) st0)) = fun (a b c d e g h j i : Int) => some (.exit 0, frM 33 a b c d e g h j [(5, nilS), (6, .int .i64 i)], st0) := by kernel_rfl
theorem x33a_leaf (a b c d e g h j i : Int) : pathObs (gcObs 0 0 (selR [2, 3, 4, 5, 6] (none))) x33a_bits (codeT cfVd (callT cfVd tVd 60) 60 cz k33 (frM 33 a b c d e g h j [(5, nilS), (6, .int .i64 i)]) st0) = some (.exit 0, frM 33 a b c d e g h j [(5, nilS), (6, .int .i64 i)], st0) := congrFun (congrFun (congrFun (congrFun (congrFun (congrFun (congrFun (congrFun (congrFun x33a_leaf_k a) b) c) d) e) g) h) j) i
def x33b_bits : List Bool := [false]
def x33b_c (_ _ _ _ _ _ _ _ i : Int) (_ : Nat) (_ : Array Value) : Bool :=
  !(decide (i < 256))
   && true
theorem x33b_cond_k : (fun (a b c d e g h j i : Int) (k : Nat) (E : Array Value) => (followT x33b_bits (codeT cfVd (callT cfVd tVd 60) 60 cz k33 (frM 33 a b c d e g h j [(5, (sl0 k)), (6, .int .i64 i)]) (sRow E))).1) = fun (a b c d e g h j i : Int) (k : Nat) (E : Array Value) => x33b_c a b c d e g h j i k E := by kernel_rfl
theorem x33b_cond (a b c d e g h j i : Int) (k : Nat) (E : Array Value) : (followT x33b_bits (codeT cfVd (callT cfVd tVd 60) 60 cz k33 (frM 33 a b c d e g h j [(5, (sl0 k)), (6, .int .i64 i)]) (sRow E))).1 = x33b_c a b c d e g h j i k E := congrFun (congrFun (congrFun (congrFun (congrFun (congrFun (congrFun (congrFun (congrFun (congrFun (congrFun x33b_cond_k a) b) c) d) e) g) h) j) i) k) E
theorem x33b_leaf_k : (fun (a b c d e g h j i : Int) (k : Nat) (E : Array Value) => pathObs (gcObs 0 0 (selR [2, 3, 4, 5, 6] (some 0))) x33b_bits (codeT cfVd (callT cfVd tVd 60) 60 cz k33 (frM 33 a b c d e g h j [(5, (sl0 k)), (6, .int .i64 i)]) (sRow E))) = fun (a b c d e g h j i : Int) (k : Nat) (E : Array Value) => some (.exit 0, frM 33 a b c d e g h j [(5, (sl0 k)), (6, .int .i64 i)], sRow E) := by kernel_rfl
theorem x33b_leaf (a b c d e g h j i : Int) (k : Nat) (E : Array Value) : pathObs (gcObs 0 0 (selR [2, 3, 4, 5, 6] (some 0))) x33b_bits (codeT cfVd (callT cfVd tVd 60) 60 cz k33 (frM 33 a b c d e g h j [(5, (sl0 k)), (6, .int .i64 i)]) (sRow E)) = some (.exit 0, frM 33 a b c d e g h j [(5, (sl0 k)), (6, .int .i64 i)], sRow E) := congrFun (congrFun (congrFun (congrFun (congrFun (congrFun (congrFun (congrFun (congrFun (congrFun (congrFun x33b_leaf_k a) b) c) d) e) g) h) j) i) k) E
def p15a_bits : List Bool := [true, true, true, true, true, false, true, false, true, true, true]
def p15a_c (a b c d i : Int) : Bool :=
  (decide (i < 256))
   && ((inQ a b c d)
   && ((hasB a b c d i)
   && true))
theorem p15a_cond_k : (fun (a b c d i : Int) => (followT p15a_bits (codeT cfVd (callT cfVd tVd 60) 60 cz k15 (frL15 a b c d [(3, nilS), (4, .int .i64 i)]) st0)).1) = fun (a b c d i : Int) => p15a_c a b c d i := by kernel_rfl
theorem p15a_cond (a b c d i : Int) : (followT p15a_bits (codeT cfVd (callT cfVd tVd 60) 60 cz k15 (frL15 a b c d [(3, nilS), (4, .int .i64 i)]) st0)).1 = p15a_c a b c d i := congrFun (congrFun (congrFun (congrFun (congrFun p15a_cond_k a) b) c) d) i
theorem p15a_leaf_k : (fun (a b c d i : Int) => pathObs (gcObs 0 0 (selR [1, 3, 4] (some 1))) p15a_bits (codeT cfVd (callT cfVd tVd 60) 60 cz k15 (frL15 a b c d [(3, nilS), (4, .int .i64 i)]) st0)) = fun (a b c d i : Int) => some (.normal, frL15 a b c d [(3, (sl0 1)), (4, .int .i64 (inc i))], sRow ⟨[.int .i64 i]⟩) := by kernel_rfl
theorem p15a_leaf (a b c d i : Int) : pathObs (gcObs 0 0 (selR [1, 3, 4] (some 1))) p15a_bits (codeT cfVd (callT cfVd tVd 60) 60 cz k15 (frL15 a b c d [(3, nilS), (4, .int .i64 i)]) st0) = some (.normal, frL15 a b c d [(3, (sl0 1)), (4, .int .i64 (inc i))], sRow ⟨[.int .i64 i]⟩) := congrFun (congrFun (congrFun (congrFun (congrFun p15a_leaf_k a) b) c) d) i
def p15b_bits : List Bool := [true, true, true, true, true, false, true, false, true, true, true, false, true, true, true]
def p15b_c (a b c d i : Int) (k : Nat) (E : Array Value) : Bool :=
  (decide (i < 256))
   && ((inQ a b c d)
   && ((hasB a b c d i)
   && ((decide (k ≤ k) && decide (k + 1 ≤ nLim) && true && true && true && true && true)
   && (!(decide (k + 1 ≤ k))
   && ((decide (0 + k * 1 ≤ E.size))
   && (((k == k) && (0 + k * 1 == E.size))
   && true))))))
theorem p15b_cond_k : (fun (a b c d i : Int) (k : Nat) (E : Array Value) => (followT p15b_bits (codeT cfVd (callT cfVd tVd 60) 60 cz k15 (frL15 a b c d [(3, (sl0 k)), (4, .int .i64 i)]) (sRow E))).1) = fun (a b c d i : Int) (k : Nat) (E : Array Value) => p15b_c a b c d i k E := by kernel_rfl
theorem p15b_cond (a b c d i : Int) (k : Nat) (E : Array Value) : (followT p15b_bits (codeT cfVd (callT cfVd tVd 60) 60 cz k15 (frL15 a b c d [(3, (sl0 k)), (4, .int .i64 i)]) (sRow E))).1 = p15b_c a b c d i k E := congrFun (congrFun (congrFun (congrFun (congrFun (congrFun (congrFun p15b_cond_k a) b) c) d) i) k) E
theorem p15b_leaf_k : (fun (a b c d i : Int) (k : Nat) (E : Array Value) => pathObs (gcObs 0 0 (selR [1, 3, 4] (some 2))) p15b_bits (codeT cfVd (callT cfVd tVd 60) 60 cz k15 (frL15 a b c d [(3, (sl0 k)), (4, .int .i64 i)]) (sRow E))) = fun (a b c d i : Int) (k : Nat) (E : Array Value) => some (.normal, frL15 a b c d [(3, (sl0 (k + 1))), (4, .int .i64 (inc i))], sRow (aE E k i)) := by kernel_rfl
theorem p15b_leaf (a b c d i : Int) (k : Nat) (E : Array Value) : pathObs (gcObs 0 0 (selR [1, 3, 4] (some 2))) p15b_bits (codeT cfVd (callT cfVd tVd 60) 60 cz k15 (frL15 a b c d [(3, (sl0 k)), (4, .int .i64 i)]) (sRow E)) = some (.normal, frL15 a b c d [(3, (sl0 (k + 1))), (4, .int .i64 (inc i))], sRow (aE E k i)) := congrFun (congrFun (congrFun (congrFun (congrFun (congrFun (congrFun p15b_leaf_k a) b) c) d) i) k) E
def q15a_bits : List Bool := [true, true, true, true, false]
def q15a_c (a b c d i : Int) : Bool :=
  (decide (i < 256))
   && ((inQ a b c d)
   && (!(hasB a b c d i)
   && true))
theorem q15a_cond_k : (fun (a b c d i : Int) => (followT q15a_bits (codeT cfVd (callT cfVd tVd 60) 60 cz k15 (frL15 a b c d [(3, nilS), (4, .int .i64 i)]) st0)).1) = fun (a b c d i : Int) => q15a_c a b c d i := by kernel_rfl
theorem q15a_cond (a b c d i : Int) : (followT q15a_bits (codeT cfVd (callT cfVd tVd 60) 60 cz k15 (frL15 a b c d [(3, nilS), (4, .int .i64 i)]) st0)).1 = q15a_c a b c d i := congrFun (congrFun (congrFun (congrFun (congrFun q15a_cond_k a) b) c) d) i
theorem q15a_leaf_k : (fun (a b c d i : Int) => pathObs (gcObs 0 0 (selR [1, 3, 4] (none))) q15a_bits (codeT cfVd (callT cfVd tVd 60) 60 cz k15 (frL15 a b c d [(3, nilS), (4, .int .i64 i)]) st0)) = fun (a b c d i : Int) => some (.normal, frL15 a b c d [(3, nilS), (4, .int .i64 (inc i))], st0) := by kernel_rfl
theorem q15a_leaf (a b c d i : Int) : pathObs (gcObs 0 0 (selR [1, 3, 4] (none))) q15a_bits (codeT cfVd (callT cfVd tVd 60) 60 cz k15 (frL15 a b c d [(3, nilS), (4, .int .i64 i)]) st0) = some (.normal, frL15 a b c d [(3, nilS), (4, .int .i64 (inc i))], st0) := congrFun (congrFun (congrFun (congrFun (congrFun q15a_leaf_k a) b) c) d) i
def q15b_bits : List Bool := [true, true, true, true, false]
def q15b_c (a b c d i : Int) (_ : Nat) (_ : Array Value) : Bool :=
  (decide (i < 256))
   && ((inQ a b c d)
   && (!(hasB a b c d i)
   && true))
theorem q15b_cond_k : (fun (a b c d i : Int) (k : Nat) (E : Array Value) => (followT q15b_bits (codeT cfVd (callT cfVd tVd 60) 60 cz k15 (frL15 a b c d [(3, (sl0 k)), (4, .int .i64 i)]) (sRow E))).1) = fun (a b c d i : Int) (k : Nat) (E : Array Value) => q15b_c a b c d i k E := by kernel_rfl
theorem q15b_cond (a b c d i : Int) (k : Nat) (E : Array Value) : (followT q15b_bits (codeT cfVd (callT cfVd tVd 60) 60 cz k15 (frL15 a b c d [(3, (sl0 k)), (4, .int .i64 i)]) (sRow E))).1 = q15b_c a b c d i k E := congrFun (congrFun (congrFun (congrFun (congrFun (congrFun (congrFun q15b_cond_k a) b) c) d) i) k) E
theorem q15b_leaf_k : (fun (a b c d i : Int) (k : Nat) (E : Array Value) => pathObs (gcObs 0 0 (selR [1, 3, 4] (some 0))) q15b_bits (codeT cfVd (callT cfVd tVd 60) 60 cz k15 (frL15 a b c d [(3, (sl0 k)), (4, .int .i64 i)]) (sRow E))) = fun (a b c d i : Int) (k : Nat) (E : Array Value) => some (.normal, frL15 a b c d [(3, (sl0 k)), (4, .int .i64 (inc i))], sRow E) := by kernel_rfl
theorem q15b_leaf (a b c d i : Int) (k : Nat) (E : Array Value) : pathObs (gcObs 0 0 (selR [1, 3, 4] (some 0))) q15b_bits (codeT cfVd (callT cfVd tVd 60) 60 cz k15 (frL15 a b c d [(3, (sl0 k)), (4, .int .i64 i)]) (sRow E)) = some (.normal, frL15 a b c d [(3, (sl0 k)), (4, .int .i64 (inc i))], sRow E) := congrFun (congrFun (congrFun (congrFun (congrFun (congrFun (congrFun q15b_leaf_k a) b) c) d) i) k) E
def x15a_bits : List Bool := [false]
def x15a_c (_ _ _ _ i : Int) : Bool :=
  !(decide (i < 256))
   && true
theorem x15a_cond_k : (fun (a b c d i : Int) => (followT x15a_bits (codeT cfVd (callT cfVd tVd 60) 60 cz k15 (frL15 a b c d [(3, nilS), (4, .int .i64 i)]) st0)).1) = fun (a b c d i : Int) => x15a_c a b c d i := by kernel_rfl
theorem x15a_cond (a b c d i : Int) : (followT x15a_bits (codeT cfVd (callT cfVd tVd 60) 60 cz k15 (frL15 a b c d [(3, nilS), (4, .int .i64 i)]) st0)).1 = x15a_c a b c d i := congrFun (congrFun (congrFun (congrFun (congrFun x15a_cond_k a) b) c) d) i
theorem x15a_leaf_k : (fun (a b c d i : Int) => pathObs (gcObs 0 0 (selR [1, 3, 4] (none))) x15a_bits (codeT cfVd (callT cfVd tVd 60) 60 cz k15 (frL15 a b c d [(3, nilS), (4, .int .i64 i)]) st0)) = fun (a b c d i : Int) => some (.exit 0, frL15 a b c d [(3, nilS), (4, .int .i64 i)], st0) := by kernel_rfl
theorem x15a_leaf (a b c d i : Int) : pathObs (gcObs 0 0 (selR [1, 3, 4] (none))) x15a_bits (codeT cfVd (callT cfVd tVd 60) 60 cz k15 (frL15 a b c d [(3, nilS), (4, .int .i64 i)]) st0) = some (.exit 0, frL15 a b c d [(3, nilS), (4, .int .i64 i)], st0) := congrFun (congrFun (congrFun (congrFun (congrFun x15a_leaf_k a) b) c) d) i
def x15b_bits : List Bool := [false]
def x15b_c (_ _ _ _ i : Int) (_ : Nat) (_ : Array Value) : Bool :=
  !(decide (i < 256))
   && true
theorem x15b_cond_k : (fun (a b c d i : Int) (k : Nat) (E : Array Value) => (followT x15b_bits (codeT cfVd (callT cfVd tVd 60) 60 cz k15 (frL15 a b c d [(3, (sl0 k)), (4, .int .i64 i)]) (sRow E))).1) = fun (a b c d i : Int) (k : Nat) (E : Array Value) => x15b_c a b c d i k E := by kernel_rfl
theorem x15b_cond (a b c d i : Int) (k : Nat) (E : Array Value) : (followT x15b_bits (codeT cfVd (callT cfVd tVd 60) 60 cz k15 (frL15 a b c d [(3, (sl0 k)), (4, .int .i64 i)]) (sRow E))).1 = x15b_c a b c d i k E := congrFun (congrFun (congrFun (congrFun (congrFun (congrFun (congrFun x15b_cond_k a) b) c) d) i) k) E
theorem x15b_leaf_k : (fun (a b c d i : Int) (k : Nat) (E : Array Value) => pathObs (gcObs 0 0 (selR [1, 3, 4] (some 0))) x15b_bits (codeT cfVd (callT cfVd tVd 60) 60 cz k15 (frL15 a b c d [(3, (sl0 k)), (4, .int .i64 i)]) (sRow E))) = fun (a b c d i : Int) (k : Nat) (E : Array Value) => some (.exit 0, frL15 a b c d [(3, (sl0 k)), (4, .int .i64 i)], sRow E) := by kernel_rfl
theorem x15b_leaf (a b c d i : Int) (k : Nat) (E : Array Value) : pathObs (gcObs 0 0 (selR [1, 3, 4] (some 0))) x15b_bits (codeT cfVd (callT cfVd tVd 60) 60 cz k15 (frL15 a b c d [(3, (sl0 k)), (4, .int .i64 i)]) (sRow E)) = some (.exit 0, frL15 a b c d [(3, (sl0 k)), (4, .int .i64 i)], sRow E) := congrFun (congrFun (congrFun (congrFun (congrFun (congrFun (congrFun x15b_leaf_k a) b) c) d) i) k) E
end
end Go.Proofs.YtmpokdnpkjcnbaaDoor

/- The document's masks: And, Or, Minus, List: the loop that makes a row of a set. -/
namespace Go.Proofs.YtmpokdnpkjcnbaaDoor
open Go.Am
noncomputable section
theorem cntB_tt {m : B256} {i : Nat} (h : m.getLsbD i = true) : cntB m (i + 1) = cntB m i + 1 := by
  show cond (m.getLsbD i) _ _ = _
  rw [h]; rfl
theorem cntB_ff {m : B256} {i : Nat} (h : m.getLsbD i = false) : cntB m (i + 1) = cntB m i := by
  show cond (m.getLsbD i) _ _ = _
  rw [h]; rfl
theorem lstE_tt {m : B256} {i : Nat} (h : m.getLsbD i = true) : lstE m (i + 1) = lstE m i ++ #[.int .i64 i] := by
  show cond (m.getLsbD i) _ _ = _
  rw [h]; rfl
theorem lstE_ff {m : B256} {i : Nat} (h : m.getLsbD i = false) : lstE m (i + 1) = lstE m i := by
  show cond (m.getLsbD i) _ _ = _
  rw [h]; rfl
/-- What the rounds of a loop do that puts a set's numbers into a row. -/
structure RowR (k : Code) (L : List Tmp) (F : Value → Int → Fr) (s : B256) : Prop where
  app0 : ∀ i : Nat, i < 256 → s.getLsbD i = true → gcObs 0 0 (selR L (some 1)) (code cfVd (call cfVd 60) 60 cz k (F nilS i) st0) = some (.normal, F (sl0 1) (inc i), sRow ⟨[.int .i64 i]⟩)
  app1 : ∀ i : Nat, i < 256 → s.getLsbD i = true → ∀ (n : Nat) (E : Array Value), E.size = n → n ≤ 256 → gcObs 0 0 (selR L (some 2)) (code cfVd (call cfVd 60) 60 cz k (F (sl0 n) i) (sRow E)) = some (.normal, F (sl0 (n + 1)) (inc i), sRow (aE E n i))
  no0 : ∀ i : Nat, i < 256 → s.getLsbD i = false → gcObs 0 0 (selR L none) (code cfVd (call cfVd 60) 60 cz k (F nilS i) st0) = some (.normal, F nilS (inc i), st0)
  no1 : ∀ i : Nat, i < 256 → s.getLsbD i = false → ∀ (n : Nat) (E : Array Value), gcObs 0 0 (selR L (some 0)) (code cfVd (call cfVd 60) 60 cz k (F (sl0 n) i) (sRow E)) = some (.normal, F (sl0 n) (inc i), sRow E)
  ex0 : gcObs 0 0 (selR L none) (code cfVd (call cfVd 60) 60 cz k (F nilS 256) st0) = some (.exit 0, F nilS 256, st0)
  ex1 : ∀ (n : Nat) (E : Array Value), gcObs 0 0 (selR L (some 0)) (code cfVd (call cfVd 60) 60 cz k (F (sl0 n) 256) (sRow E)) = some (.exit 0, F (sl0 n) 256, sRow E)
def vR (s : B256) (i : Nat) : Value := bif Nat.beq (cntB s i) 0 then nilS else sl0 (cntB s i)
def stR (s : B256) (i : Nat) : St := bif Nat.beq (cntB s i) 0 then st0 else sRow (lstE s i)
def selRI (L : List Tmp) (s : B256) (i : Nat) : Ex → List Tmp × List Kept := selR L (bif Nat.blt i 256 && s.getLsbD i then (bif Nat.beq (cntB s i) 0 then some 1 else some 2) else (bif Nat.beq (cntB s i) 0 then none else some 0))
theorem plainR (L : List Tmp) (s : B256) (i : Nat) (r : Option Nat) (ex : Ex) : plainJ (stR s i) (selR L r ex).2 0 := by
  cases r with
  | none => trivial
  | some r =>
    refine ⟨?_, trivial⟩
    unfold stR
    cases Nat.beq (cntB s i) 0 with
    | true => trivial
    | false =>
      have e : (sRow (lstE s i)).heap.get 0 = some (.cells (lstE s i) 1 true) := by simp [sRow, stS, hpS, Tr.get_put]
      rw [cond_false]
      show match (sRow (lstE s i)).heap.get 0 with | some (.cells cs _ _) => cs.all (freeN 9) = true | _ => True
      rw [e]
      exact (lstE_plain s i).2.2
theorem roundR {k : Code} {L : List Tmp} {F : Value → Int → Fr} {s : B256} (R : RowR k L F s) (i : Nat) (hi : i ≤ 256) :
    gcObs 0 0 (selRI L s i) (code cfVd (call cfVd 60) 60 cz k (F (vR s i) i) (stR s i)) = some (match (if i < 256 then none else some (Ex.exit 0, F (vR s i) i, stR s i) : Option (Ex × Fr × St)) with | some r => r | none => (.normal, F (vR s (i + 1)) ((i + 1 : Nat) : Int), stR s (i + 1))) := by
  have hk := cntB_le s i
  by_cases hlt : i < 256
  · have hinc : inc (i : Int) = ((i + 1 : Nat) : Int) := incN (by omega)
    rw [if_pos hlt]
    simp only
    have hb1 : Nat.blt i 256 = true := Nat.ble_eq_true_of_le (by omega)
    unfold selRI
    rw [hb1, Bool.true_and]
    cases hb : s.getLsbD i with
    | true =>
      have e4 : stR s (i + 1) = sRow (lstE s i ++ #[.int .i64 i]) := by
        unfold stR
        rw [cntB_tt hb, lstE_tt hb]; rfl
      have e5 : vR s (i + 1) = sl0 (cntB s i + 1) := by
        unfold vR
        rw [cntB_tt hb]; rfl
      rw [e4, e5, ← hinc]
      cases hz : Nat.beq (cntB s i) 0 with
      | true =>
        have h0 := Nat.eq_of_beq_eq_true hz
        have h1 : lstE s i = #[] := Array.eq_empty_of_size_eq_zero (by rw [lstE_size]; exact h0)
        unfold vR stR
        rw [hz, h0, h1]
        exact R.app0 i hlt hb
      | false =>
        unfold vR stR
        rw [hz]
        have := R.app1 i hlt hb (cntB s i) (lstE s i) (lstE_size s i) (by omega)
        have ha : aE (lstE s i) (cntB s i) i = lstE s i ++ #[.int .i64 i] := by
          unfold aE
          rw [← lstE_size s i]
          simp
        rw [ha] at this
        exact this
    | false =>
      have e4 : stR s (i + 1) = stR s i := by
        unfold stR
        rw [cntB_ff hb, lstE_ff hb]
      have e5 : vR s (i + 1) = vR s i := by
        unfold vR
        rw [cntB_ff hb]
      rw [e4, e5, ← hinc]
      unfold vR stR
      cases hz : Nat.beq (cntB s i) 0 with
      | true => exact R.no0 i hlt hb
      | false => exact R.no1 i hlt hb _ _
  · have e : i = 256 := by omega
    subst e
    rw [if_neg hlt]
    simp only
    unfold selRI vR stR
    have hb1 : Nat.blt 256 256 = false := rfl
    rw [hb1, Bool.false_and]
    cases hz : Nat.beq (cntB s 256) 0 with
    | true => exact R.ex0
    | false => exact R.ex1 _ _
theorem rowLoop [Z : Zone] [T : Tab] {B : Nat} {k : Code} {L : List Tmp} {F : Value → Int → Fr} {s : B256} (R : RowR k L F s) {init rest : Code} {fri : Fr} {sel : Ex → List Tmp × List Kept} {fr1 : Fr} {s1 : St} {Q : Ex → Fr → St → Prop}
    (hsel : (sel .normal).2 = []) (h0 : gcObs 0 0 sel (code cfVd (call cfVd 60) 60 cz init fri st0) = some (.normal, F nilS 0, st0)) (hS : Sn ⟨0, B⟩ 0 0 cz fri st0 fr1 s1)
    (hend : ∀ fr2 s2, Sn ⟨0, B⟩ 0 0 cz (F (vR s 256) 256) (stR s 256) fr2 s2 → AWp cfVd ⟨0, B⟩ cz rest fr2 s2 Q) : AWp cfVd ⟨0, B⟩ cz (.seq (.seq init (.block 0 (.loop k))) rest) fr1 s1 Q := by
  refine AWp.forSn (N := 256) (sel2 := selRI L s) (head := fun i => F (vR s i) i) (sh := stR s) (stop := fun i => if i < 256 then none else some (.exit 0, F (vR s i) i, stR s i))
    goodVd rfl hS h0 (by rw [hsel]; trivial) (fun i hi _ => roundR R i hi) (fun i hi => ?_) ⟨256, Nat.le_refl _, by simp⟩ (fun i r hi hno hr fr2 s2 hS2 => ?_)
  · by_cases hlt : i < 256
    · rw [if_pos hlt]; exact plainR L s (i + 1) _ _
    · rw [if_neg hlt]; exact plainR L s i _ _
  · by_cases hlt : i < 256
    · rw [if_pos hlt] at hr; cases hr
    · rw [if_neg hlt] at hr; cases hr
      have e : i = 256 := by omega
      subst e
      exact ⟨rfl, hend fr2 s2 hS2⟩
/-! ### A set's row, as a set -/
theorem lstE_at (m : B256) : ∀ i j, j < i → m.getLsbD j = true → (lstE m i)[cntB m j]? = some (.int .i64 (j : Int)) := by
  intro i
  induction i with
  | zero => intro j h; exact absurd h (Nat.not_lt_zero _)
  | succ i ih =>
    intro j hj hb
    by_cases hl : j < i
    · have h := ih j hl hb
      cases hi : m.getLsbD i with
      | false => rw [lstE_ff hi]; exact h
      | true =>
        rw [lstE_tt hi, Array.getElem?_append_left]
        · exact h
        · exact (Array.getElem?_eq_some_iff.1 h).1
    · have e : j = i := by omega
      subst e
      rw [lstE_tt hb, Array.getElem?_append_right (by rw [lstE_size]; exact Nat.le_refl _), lstE_size, Nat.sub_self]
      rfl
theorem lstE_num (m : B256) : ∀ i t, t < cntB m i → ∃ j, j < i ∧ m.getLsbD j = true ∧ cntB m j = t ∧ (lstE m i)[t]? = some (.int .i64 (j : Int)) := by
  intro i
  induction i with
  | zero => intro t ht; exact absurd ht (Nat.not_lt_zero _)
  | succ i ih =>
    intro t ht
    cases hi : m.getLsbD i with
    | false =>
      rw [cntB_ff hi] at ht
      obtain ⟨j, h1, h2, h3, h4⟩ := ih t ht
      exact ⟨j, by omega, h2, h3, by rw [lstE_ff hi]; exact h4⟩
    | true =>
      rw [cntB_tt hi] at ht
      by_cases hl : t < cntB m i
      · obtain ⟨j, h1, h2, h3, h4⟩ := ih t hl
        exact ⟨j, by omega, h2, h3, by rw [lstE_tt hi, Array.getElem?_append_left (by rw [lstE_size]; exact hl)]; exact h4⟩
      · have e : t = cntB m i := by omega
        exact ⟨i, by omega, hi, e.symm, by rw [e]; exact lstE_at m (i + 1) i (by omega) hi⟩
theorem inB_iff {X : Array Value} {o : Nat} {x : Int} : ∀ {n : Nat}, inB X o x n = true ↔ ∃ t, t < n ∧ toI X[o + t]? = x := by
  intro n
  constructor
  · induction n with
    | zero => intro h; cases h
    | succ n ih =>
      intro h
      unfold inB at h
      rw [Bool.or_eq_true, beq_iff_eq] at h
      rcases h with h | h
      · obtain ⟨t, h1, h2⟩ := ih h; exact ⟨t, by omega, h2⟩
      · exact ⟨n, by omega, h⟩
  · rintro ⟨t, h1, h2⟩
    exact inB_at h1 (by rw [h2]; exact beq_self_eq_true _)
theorem set_lst (s : B256) {n : Nat} (hn : n ≤ cntB s 256) : setI (lstE s 256) 0 n = lowB s n 256 := by
  apply wd_ext
  intro j hj
  rw [setI_bit _ _ _ _ hj, lowB_bit s n 256 (Nat.le_refl _), decide_eq_true hj, Bool.true_and]
  cases hb : (s.getLsbD j && decide (cntB s j < n)) with
  | true =>
    rw [Bool.and_eq_true, decide_eq_true_eq] at hb
    refine inB_iff.2 ⟨cntB s j, hb.2, ?_⟩
    rw [Nat.zero_add, lstE_at s 256 j hj hb.1]; rfl
  | false =>
    cases hi : inB (lstE s 256) 0 (j : Int) n with
    | false => rfl
    | true =>
      obtain ⟨t, h1, h2⟩ := inB_iff.1 hi
      obtain ⟨j', h3, h4, h5, h6⟩ := lstE_num s 256 t (by omega)
      rw [Nat.zero_add, h6] at h2
      have e : (j' : Int) = (j : Int) := h2
      have e2 : j' = j := by omega
      subst e2
      rw [h4, h5, decide_eq_true h1] at hb
      cases hb
theorem low_all (s : B256) : lowB s (cntB s 256) 256 = s := by
  apply wd_ext
  intro j hj
  rw [lowB_bit s _ 256 (Nat.le_refl _), decide_eq_true hj, Bool.true_and]
  cases hb : s.getLsbD j with
  | false => rfl
  | true =>
    have := cntB_mono s (by omega : j + 1 ≤ 256)
    rw [cntB_tt hb] at this
    rw [decide_eq_true (by omega)]; rfl
theorem lst_ints (s : B256) {n : Nat} (hn : n ≤ cntB s 256) : intsOk (lstE s 256) 0 n = true := by
  have := cntB_le s 256
  unfold intsOk maxI
  rw [Bool.and_eq_true, decide_eq_true_eq, List.all_eq_true]
  refine ⟨by omega, fun t ht => ?_⟩
  obtain ⟨j, _, _, _, h⟩ := lstE_num s 256 t (by have := List.mem_range.1 ht; omega)
  rw [Nat.zero_add, h]; rfl
theorem set_nil (s : B256) (h : cntB s 256 = 0) : setI #[] 0 0 = s := by
  have h1 : lstE s 256 = #[] := Array.eq_empty_of_size_eq_zero (by rw [lstE_size]; exact h)
  have h2 := set_lst s (n := 0) (by omega)
  rw [h1] at h2
  rw [h2, ← h, low_all]
end
end Go.Proofs.YtmpokdnpkjcnbaaDoor

/- The document's masks: And, Or, Minus, List: told. -/
namespace Go.Proofs.YtmpokdnpkjcnbaaDoor
open Go.Am
noncomputable section
theorem i_lt {i : Nat} (h : i < 256) : decide ((i : Int) < 256) = true := decide_eq_true (by omega)
theorem app_c {n : Nat} {E : Array Value} (hE : E.size = n) (hn : n ≤ 256) : (decide (n ≤ n) && decide (n + 1 ≤ nLim) && true && true && true && true && true) = true ∧ decide (n + 1 ≤ n) = false ∧ decide (0 + n * 1 ≤ E.size) = true ∧ ((n == n) && (0 + n * 1 == E.size)) = true := by
  refine ⟨?_, decide_eq_false (by omega), decide_eq_true (by omega), ?_⟩
  · rw [decide_eq_true (Nat.le_refl n), decide_eq_true (by unfold nLim; omega : n + 1 ≤ nLim)]; rfl
  · rw [beq_self_eq_true, hE]; simp
theorem ret2 {f : FuncId} (v : Value) : (frS f [(2, v)]).tm.get 2 = some v := by simp [frS, tmS, Tr.get_put]

def F30 (x y : B256) (v : Value) (i : Int) : Fr := frM 30 (wd x 0) (wd x 1) (wd x 2) (wd x 3) (wd y 0) (wd y 1) (wd y 2) (wd y 3) [(5, v), (6, .int .i64 i)]
theorem bit30 (x y : B256) {i : Nat} (hi : i < 256) : (x &&& y).getLsbD i = (x.getLsbD i && y.getLsbD i) := by
  simp [hi]
theorem row30 (x y : B256) : RowR k30 [2, 3, 4, 5, 6] (F30 x y) (x &&& y) where
  app0 i hi hb := by
    have hli := i_lt hi
    rw [bit30 x y hi] at hb
    cases hx : x.getLsbD i <;> cases hy : y.getLsbD i <;> rw [hx, hy] at hb <;> first | (cases hb; done) | skip
    · exact path_eval tVd_ok ((p30a_cond ..).trans (by unfold p30a_c; simp only [hli, wd_inQ, hasB_wd, hx, hy]; rfl)) (p30a_leaf ..)
  app1 i hi hb n E hE hn := by
    have hli := i_lt hi
    obtain ⟨c1, c2, c3, c4⟩ := app_c hE hn
    rw [bit30 x y hi] at hb
    cases hx : x.getLsbD i <;> cases hy : y.getLsbD i <;> rw [hx, hy] at hb <;> first | (cases hb; done) | skip
    · exact path_eval tVd_ok ((p30b_cond ..).trans (by unfold p30b_c; simp only [hli, wd_inQ, hasB_wd, hx, hy, c1, c2, c3, c4]; rfl)) (p30b_leaf ..)
  no0 i hi hb := by
    have hli := i_lt hi
    rw [bit30 x y hi] at hb
    cases hx : x.getLsbD i <;> cases hy : y.getLsbD i <;> rw [hx, hy] at hb <;> first | (cases hb; done) | skip
    · exact path_eval tVd_ok ((r30a_cond ..).trans (by unfold r30a_c; simp only [hli, wd_inQ, hasB_wd, hx, hy]; rfl)) (r30a_leaf ..)
    · exact path_eval tVd_ok ((r30a_cond ..).trans (by unfold r30a_c; simp only [hli, wd_inQ, hasB_wd, hx, hy]; rfl)) (r30a_leaf ..)
    · exact path_eval tVd_ok ((q30a_cond ..).trans (by unfold q30a_c; simp only [hli, wd_inQ, hasB_wd, hx, hy]; rfl)) (q30a_leaf ..)
  no1 i hi hb n E := by
    have hli := i_lt hi
    rw [bit30 x y hi] at hb
    cases hx : x.getLsbD i <;> cases hy : y.getLsbD i <;> rw [hx, hy] at hb <;> first | (cases hb; done) | skip
    · exact path_eval tVd_ok ((r30b_cond ..).trans (by unfold r30b_c; simp only [hli, wd_inQ, hasB_wd, hx, hy]; rfl)) (r30b_leaf ..)
    · exact path_eval tVd_ok ((r30b_cond ..).trans (by unfold r30b_c; simp only [hli, wd_inQ, hasB_wd, hx, hy]; rfl)) (r30b_leaf ..)
    · exact path_eval tVd_ok ((q30b_cond ..).trans (by unfold q30b_c; simp only [hli, wd_inQ, hasB_wd, hx, hy]; rfl)) (q30b_leaf ..)
  ex0 := path_eval tVd_ok (x30a_cond ..) (x30a_leaf ..)
  ex1 n E := path_eval tVd_ok (x30b_cond ..) (x30b_leaf ..)
theorem i30_fn : cfVd.fns 30 = some { body := b30, nt := ntOf 30, results := [.cell 4 24], pure := false } := by kernel_rfl
theorem nt30_le : 2 ≤ ntOf 30 := by decide +kernel
theorem res30_k : (fun a b c d : Int => resultsV cfVd cz (frME 30 a b c d) st0 [.cell 4 24]) = fun a b c d => some (mk a b c d) := by kernel_rfl
theorem res30 (a b c d : Int) : resultsV cfVd cz (frME 30 a b c d) st0 [.cell 4 24] = some (mk a b c d) := congrFun (congrFun (congrFun (congrFun res30_k a) b) c) d
theorem ok30 [Z : Zone] [T : Tab] {B : Nat} (x y : B256) :
    AWp cfVd ⟨0, B⟩ cz b30 (frame0 30 (ntOf 30) #[mkB x, mkB y]) st0 fun ex fr' s' => (ex = .normal ∨ ex = .ret) ∧ ∃ frj sj, Sn ⟨0, B⟩ 0 0 cz frj sj fr' s' ∧ resultsV cfVd cz frj sj [.cell 4 24] = some (mkB (x &&& y)) := by
  rw [b30_eq]
  refine AWp.nestFirst (n := 60) (lim := 60) goodVd (of_treeM tVd_ok (s30a ..)) trivial (Nat.zero_le _) fun fr1 s1 hS1 => ?_
  refine rowLoop (row30 x y) (sel := kp [2, 3, 4, 5, 6] []) rfl (of_treeM tVd_ok (i30 ..)) hS1 fun fr2 s2 hS2 => ?_
  unfold vR stR at hS2
  cases hz : Nat.beq (cntB (x &&& y) 256) 0 with
  | true =>
    rw [hz] at hS2
    have h := e30a (wd x 0) (wd x 1) (wd x 2) (wd x 3) (wd y 0) (wd y 1) (wd y 2) (wd y 3) 256
    rw [set_nil (x &&& y) (Nat.eq_of_beq_eq_true hz)] at h
    exact AWp.seen goodVd rfl hS2 (Nat.zero_le _) (of_treeM tVd_ok h) trivial fun fr4 s4 hS4 _ => ⟨.inr rfl, _, _, hS4, res30 ..⟩
  | false =>
    rw [hz] at hS2
    have h := e30b (wd x 0) (wd x 1) (wd x 2) (wd x 3) (wd y 0) (wd y 1) (wd y 2) (wd y 3) 256 (cntB (x &&& y) 256) (lstE (x &&& y) 256)
    have hne : cntB (x &&& y) 256 ≠ 0 := Nat.ne_of_beq_eq_false hz
    rw [(lstE_plain (x &&& y) 256).2.2, lstE_size, decide_eq_true (Nat.le_refl _), decide_eq_true hne, lst_ints _ (Nat.le_refl _), set_lst _ (Nat.le_refl _), low_all] at h
    exact AWp.seen goodVd rfl hS2 (Nat.zero_le _) (of_treeM tVd_ok h) trivial fun fr4 s4 hS4 _ => ⟨.inr rfl, _, _, hS4, res30 ..⟩
def F32 (x y : B256) (v : Value) (i : Int) : Fr := frM 32 (wd x 0) (wd x 1) (wd x 2) (wd x 3) (wd y 0) (wd y 1) (wd y 2) (wd y 3) [(5, v), (6, .int .i64 i)]
theorem bit32 (x y : B256) {i : Nat} (hi : i < 256) : (x ||| y).getLsbD i = (x.getLsbD i || y.getLsbD i) := by
  simp [hi]
theorem row32 (x y : B256) : RowR k32 [2, 3, 4, 5, 6] (F32 x y) (x ||| y) where
  app0 i hi hb := by
    have hli := i_lt hi
    rw [bit32 x y hi] at hb
    cases hx : x.getLsbD i <;> cases hy : y.getLsbD i <;> rw [hx, hy] at hb <;> first | (cases hb; done) | skip
    · exact path_eval tVd_ok ((o32a_cond ..).trans (by unfold o32a_c; simp only [hli, wd_inQ, hasB_wd, hx, hy]; rfl)) (o32a_leaf ..)
    · exact path_eval tVd_ok ((p32a_cond ..).trans (by unfold p32a_c; simp only [hli, wd_inQ, hasB_wd, hx, hy]; rfl)) (p32a_leaf ..)
    · exact path_eval tVd_ok ((p32a_cond ..).trans (by unfold p32a_c; simp only [hli, wd_inQ, hasB_wd, hx, hy]; rfl)) (p32a_leaf ..)
  app1 i hi hb n E hE hn := by
    have hli := i_lt hi
    obtain ⟨c1, c2, c3, c4⟩ := app_c hE hn
    rw [bit32 x y hi] at hb
    cases hx : x.getLsbD i <;> cases hy : y.getLsbD i <;> rw [hx, hy] at hb <;> first | (cases hb; done) | skip
    · exact path_eval tVd_ok ((o32b_cond ..).trans (by unfold o32b_c; simp only [hli, wd_inQ, hasB_wd, hx, hy, c1, c2, c3, c4]; rfl)) (o32b_leaf ..)
    · exact path_eval tVd_ok ((p32b_cond ..).trans (by unfold p32b_c; simp only [hli, wd_inQ, hasB_wd, hx, hy, c1, c2, c3, c4]; rfl)) (p32b_leaf ..)
    · exact path_eval tVd_ok ((p32b_cond ..).trans (by unfold p32b_c; simp only [hli, wd_inQ, hasB_wd, hx, hy, c1, c2, c3, c4]; rfl)) (p32b_leaf ..)
  no0 i hi hb := by
    have hli := i_lt hi
    rw [bit32 x y hi] at hb
    cases hx : x.getLsbD i <;> cases hy : y.getLsbD i <;> rw [hx, hy] at hb <;> first | (cases hb; done) | skip
    · exact path_eval tVd_ok ((q32a_cond ..).trans (by unfold q32a_c; simp only [hli, wd_inQ, hasB_wd, hx, hy]; rfl)) (q32a_leaf ..)
  no1 i hi hb n E := by
    have hli := i_lt hi
    rw [bit32 x y hi] at hb
    cases hx : x.getLsbD i <;> cases hy : y.getLsbD i <;> rw [hx, hy] at hb <;> first | (cases hb; done) | skip
    · exact path_eval tVd_ok ((q32b_cond ..).trans (by unfold q32b_c; simp only [hli, wd_inQ, hasB_wd, hx, hy]; rfl)) (q32b_leaf ..)
  ex0 := path_eval tVd_ok (x32a_cond ..) (x32a_leaf ..)
  ex1 n E := path_eval tVd_ok (x32b_cond ..) (x32b_leaf ..)
theorem i32_fn : cfVd.fns 32 = some { body := b32, nt := ntOf 32, results := [.cell 4 24], pure := false } := by kernel_rfl
theorem nt32_le : 2 ≤ ntOf 32 := by decide +kernel
theorem res32_k : (fun a b c d : Int => resultsV cfVd cz (frME 32 a b c d) st0 [.cell 4 24]) = fun a b c d => some (mk a b c d) := by kernel_rfl
theorem res32 (a b c d : Int) : resultsV cfVd cz (frME 32 a b c d) st0 [.cell 4 24] = some (mk a b c d) := congrFun (congrFun (congrFun (congrFun res32_k a) b) c) d
theorem ok32 [Z : Zone] [T : Tab] {B : Nat} (x y : B256) :
    AWp cfVd ⟨0, B⟩ cz b32 (frame0 32 (ntOf 32) #[mkB x, mkB y]) st0 fun ex fr' s' => (ex = .normal ∨ ex = .ret) ∧ ∃ frj sj, Sn ⟨0, B⟩ 0 0 cz frj sj fr' s' ∧ resultsV cfVd cz frj sj [.cell 4 24] = some (mkB (x ||| y)) := by
  rw [b32_eq]
  refine AWp.nestFirst (n := 60) (lim := 60) goodVd (of_treeM tVd_ok (s32a ..)) trivial (Nat.zero_le _) fun fr1 s1 hS1 => ?_
  refine rowLoop (row32 x y) (sel := kp [2, 3, 4, 5, 6] []) rfl (of_treeM tVd_ok (i32 ..)) hS1 fun fr2 s2 hS2 => ?_
  unfold vR stR at hS2
  cases hz : Nat.beq (cntB (x ||| y) 256) 0 with
  | true =>
    rw [hz] at hS2
    have h := e32a (wd x 0) (wd x 1) (wd x 2) (wd x 3) (wd y 0) (wd y 1) (wd y 2) (wd y 3) 256
    rw [set_nil (x ||| y) (Nat.eq_of_beq_eq_true hz)] at h
    exact AWp.seen goodVd rfl hS2 (Nat.zero_le _) (of_treeM tVd_ok h) trivial fun fr4 s4 hS4 _ => ⟨.inr rfl, _, _, hS4, res32 ..⟩
  | false =>
    rw [hz] at hS2
    have h := e32b (wd x 0) (wd x 1) (wd x 2) (wd x 3) (wd y 0) (wd y 1) (wd y 2) (wd y 3) 256 (cntB (x ||| y) 256) (lstE (x ||| y) 256)
    have hne : cntB (x ||| y) 256 ≠ 0 := Nat.ne_of_beq_eq_false hz
    rw [(lstE_plain (x ||| y) 256).2.2, lstE_size, decide_eq_true (Nat.le_refl _), decide_eq_true hne, lst_ints _ (Nat.le_refl _), set_lst _ (Nat.le_refl _), low_all] at h
    exact AWp.seen goodVd rfl hS2 (Nat.zero_le _) (of_treeM tVd_ok h) trivial fun fr4 s4 hS4 _ => ⟨.inr rfl, _, _, hS4, res32 ..⟩
def F33 (x y : B256) (v : Value) (i : Int) : Fr := frM 33 (wd x 0) (wd x 1) (wd x 2) (wd x 3) (wd y 0) (wd y 1) (wd y 2) (wd y 3) [(5, v), (6, .int .i64 i)]
theorem bit33 (x y : B256) {i : Nat} (hi : i < 256) : (x &&& ~~~y).getLsbD i = (x.getLsbD i && !y.getLsbD i) := by
  simp [hi]
theorem row33 (x y : B256) : RowR k33 [2, 3, 4, 5, 6] (F33 x y) (x &&& ~~~y) where
  app0 i hi hb := by
    have hli := i_lt hi
    rw [bit33 x y hi] at hb
    cases hx : x.getLsbD i <;> cases hy : y.getLsbD i <;> rw [hx, hy] at hb <;> first | (cases hb; done) | skip
    · exact path_eval tVd_ok ((p33a_cond ..).trans (by unfold p33a_c; simp only [hli, wd_inQ, hasB_wd, hx, hy]; rfl)) (p33a_leaf ..)
  app1 i hi hb n E hE hn := by
    have hli := i_lt hi
    obtain ⟨c1, c2, c3, c4⟩ := app_c hE hn
    rw [bit33 x y hi] at hb
    cases hx : x.getLsbD i <;> cases hy : y.getLsbD i <;> rw [hx, hy] at hb <;> first | (cases hb; done) | skip
    · exact path_eval tVd_ok ((p33b_cond ..).trans (by unfold p33b_c; simp only [hli, wd_inQ, hasB_wd, hx, hy, c1, c2, c3, c4]; rfl)) (p33b_leaf ..)
  no0 i hi hb := by
    have hli := i_lt hi
    rw [bit33 x y hi] at hb
    cases hx : x.getLsbD i <;> cases hy : y.getLsbD i <;> rw [hx, hy] at hb <;> first | (cases hb; done) | skip
    · exact path_eval tVd_ok ((r33a_cond ..).trans (by unfold r33a_c; simp only [hli, wd_inQ, hasB_wd, hx, hy]; rfl)) (r33a_leaf ..)
    · exact path_eval tVd_ok ((r33a_cond ..).trans (by unfold r33a_c; simp only [hli, wd_inQ, hasB_wd, hx, hy]; rfl)) (r33a_leaf ..)
    · exact path_eval tVd_ok ((q33a_cond ..).trans (by unfold q33a_c; simp only [hli, wd_inQ, hasB_wd, hx, hy]; rfl)) (q33a_leaf ..)
  no1 i hi hb n E := by
    have hli := i_lt hi
    rw [bit33 x y hi] at hb
    cases hx : x.getLsbD i <;> cases hy : y.getLsbD i <;> rw [hx, hy] at hb <;> first | (cases hb; done) | skip
    · exact path_eval tVd_ok ((r33b_cond ..).trans (by unfold r33b_c; simp only [hli, wd_inQ, hasB_wd, hx, hy]; rfl)) (r33b_leaf ..)
    · exact path_eval tVd_ok ((r33b_cond ..).trans (by unfold r33b_c; simp only [hli, wd_inQ, hasB_wd, hx, hy]; rfl)) (r33b_leaf ..)
    · exact path_eval tVd_ok ((q33b_cond ..).trans (by unfold q33b_c; simp only [hli, wd_inQ, hasB_wd, hx, hy]; rfl)) (q33b_leaf ..)
  ex0 := path_eval tVd_ok (x33a_cond ..) (x33a_leaf ..)
  ex1 n E := path_eval tVd_ok (x33b_cond ..) (x33b_leaf ..)
theorem i33_fn : cfVd.fns 33 = some { body := b33, nt := ntOf 33, results := [.cell 4 24], pure := false } := by kernel_rfl
theorem nt33_le : 2 ≤ ntOf 33 := by decide +kernel
theorem res33_k : (fun a b c d : Int => resultsV cfVd cz (frME 33 a b c d) st0 [.cell 4 24]) = fun a b c d => some (mk a b c d) := by kernel_rfl
theorem res33 (a b c d : Int) : resultsV cfVd cz (frME 33 a b c d) st0 [.cell 4 24] = some (mk a b c d) := congrFun (congrFun (congrFun (congrFun res33_k a) b) c) d
theorem ok33 [Z : Zone] [T : Tab] {B : Nat} (x y : B256) :
    AWp cfVd ⟨0, B⟩ cz b33 (frame0 33 (ntOf 33) #[mkB x, mkB y]) st0 fun ex fr' s' => (ex = .normal ∨ ex = .ret) ∧ ∃ frj sj, Sn ⟨0, B⟩ 0 0 cz frj sj fr' s' ∧ resultsV cfVd cz frj sj [.cell 4 24] = some (mkB (x &&& ~~~y)) := by
  rw [b33_eq]
  refine AWp.nestFirst (n := 60) (lim := 60) goodVd (of_treeM tVd_ok (s33a ..)) trivial (Nat.zero_le _) fun fr1 s1 hS1 => ?_
  refine rowLoop (row33 x y) (sel := kp [2, 3, 4, 5, 6] []) rfl (of_treeM tVd_ok (i33 ..)) hS1 fun fr2 s2 hS2 => ?_
  unfold vR stR at hS2
  cases hz : Nat.beq (cntB (x &&& ~~~y) 256) 0 with
  | true =>
    rw [hz] at hS2
    have h := e33a (wd x 0) (wd x 1) (wd x 2) (wd x 3) (wd y 0) (wd y 1) (wd y 2) (wd y 3) 256
    rw [set_nil (x &&& ~~~y) (Nat.eq_of_beq_eq_true hz)] at h
    exact AWp.seen goodVd rfl hS2 (Nat.zero_le _) (of_treeM tVd_ok h) trivial fun fr4 s4 hS4 _ => ⟨.inr rfl, _, _, hS4, res33 ..⟩
  | false =>
    rw [hz] at hS2
    have h := e33b (wd x 0) (wd x 1) (wd x 2) (wd x 3) (wd y 0) (wd y 1) (wd y 2) (wd y 3) 256 (cntB (x &&& ~~~y) 256) (lstE (x &&& ~~~y) 256)
    have hne : cntB (x &&& ~~~y) 256 ≠ 0 := Nat.ne_of_beq_eq_false hz
    rw [(lstE_plain (x &&& ~~~y) 256).2.2, lstE_size, decide_eq_true (Nat.le_refl _), decide_eq_true hne, lst_ints _ (Nat.le_refl _), set_lst _ (Nat.le_refl _), low_all] at h
    exact AWp.seen goodVd rfl hS2 (Nat.zero_le _) (of_treeM tVd_ok h) trivial fun fr4 s4 hS4 _ => ⟨.inr rfl, _, _, hS4, res33 ..⟩
def F15 (m : B256) (v : Value) (i : Int) : Fr := frL15 (wd m 0) (wd m 1) (wd m 2) (wd m 3) [(3, v), (4, .int .i64 i)]
theorem row15 (m : B256) : RowR k15 [1, 3, 4] (F15 m) m where
  app0 i hi hb := by
    have hli := i_lt hi
    exact path_eval tVd_ok ((p15a_cond ..).trans (by unfold p15a_c; simp only [hli, wd_inQ, hasB_wd, hb]; rfl)) (p15a_leaf ..)
  app1 i hi hb n E hE hn := by
    have hli := i_lt hi
    obtain ⟨c1, c2, c3, c4⟩ := app_c hE hn
    exact path_eval tVd_ok ((p15b_cond ..).trans (by unfold p15b_c; simp only [hli, wd_inQ, hasB_wd, hb, c1, c2, c3, c4]; rfl)) (p15b_leaf ..)
  no0 i hi hb := by
    have hli := i_lt hi
    exact path_eval tVd_ok ((q15a_cond ..).trans (by unfold q15a_c; simp only [hli, wd_inQ, hasB_wd, hb]; rfl)) (q15a_leaf ..)
  no1 i hi hb n E := by
    have hli := i_lt hi
    exact path_eval tVd_ok ((q15b_cond ..).trans (by unfold q15b_c; simp only [hli, wd_inQ, hasB_wd, hb]; rfl)) (q15b_leaf ..)
  ex0 := path_eval tVd_ok (x15a_cond ..) (x15a_leaf ..)
  ex1 n E := path_eval tVd_ok (x15b_cond ..) (x15b_leaf ..)
theorem i15_fn : cfVd.fns 15 = some { body := b15, nt := ntOf 15, results := [.tmp 2], pure := false } := by kernel_rfl
theorem nt15_le : 1 ≤ ntOf 15 := by decide +kernel
theorem ok15 [Z : Zone] [T : Tab] {B : Nat} (m : B256) : AWp cfVd ⟨0, B⟩ cz b15 (frame0 15 (ntOf 15) #[mkB m]) st0 (RowL B 2 (xLst m)) := by
  rw [b15_eq]
  refine AWp.nestFirst (n := 60) (lim := 60) goodVd (of_treeM tVd_ok (s15a ..)) trivial (Nat.zero_le _) fun fr1 s1 hS1 => ?_
  refine rowLoop (row15 m) (sel := kp [1, 3, 4] []) rfl (of_treeM tVd_ok (i15 ..)) hS1 fun fr2 s2 hS2 => ?_
  unfold vR stR at hS2
  unfold xLst
  cases hz : Nat.beq (cntB m 256) 0 with
  | true =>
    rw [hz] at hS2
    exact AWp.row goodVd rfl hS2 (.inr rfl) (of_treeM tVd_ok (e15a (wd m 0) (wd m 1) (wd m 2) (wd m 3) 256)) trivial (ret2 _) (.inr ⟨rfl, rfl⟩)
  | false =>
    rw [hz] at hS2
    refine AWp.row goodVd rfl hS2 (.inr rfl) (of_treeM tVd_ok (e15b (wd m 0) (wd m 1) (wd m 2) (wd m 3) 256 (cntB m 256) (lstE m 256))) ⟨(lstE_plain m 256).2.2, trivial⟩ (ret2 _) (.inl ⟨_, _, lstE m 256, 1, true, rfl, ?_, (lstE_plain m 256).1, (lstE_plain m 256).2.1⟩)
    simp [sRow, stS, hpS, Tr.get_put]
def binM (o : Int → Int → Int) : Array Value → DT (Option (Value × St))
  | ⟨[.agg ⟨[.int .u64 a, .int .u64 b, .int .u64 c, .int .u64 d]⟩, .agg ⟨[.int .u64 e, .int .u64 f, .int .u64 g, .int .u64 h]⟩]⟩ => .must (inQ a b c d && inQ e f g h) (.leaf (some (mk (o a e) (o b f) (o c g) (o d h), st0))) (.leaf none)
  | _ => .leaf none
theorem tells_bin [Z : Zone] [T : Tab] {f : FuncId} {op : Int → Int → Int} {S : B256 → B256 → B256} {b : Code} (hi : cfVd.fns f = some { body := b, nt := ntOf f, results := [.cell 4 24], pure := false }) (hn : 2 ≤ ntOf f)
    (hop : ∀ x y k, k < 4 → op (wd x k) (wd y k) = wd (S x y) k)
    (hok : ∀ B x y, AWp cfVd ⟨0, B⟩ cz b (frame0 f (ntOf f) #[mkB x, mkB y]) st0 fun ex fr' s' => (ex = .normal ∨ ex = .ret) ∧ ∃ frj sj, Sn ⟨0, B⟩ 0 0 cz frj sj fr' s' ∧ resultsV cfVd cz frj sj [.cell 4 24] = some (mkB (S x y))) :
    Tells cfVd f fun a => (binM op a).eval := by
  refine tells_seen goodVd rfl hi fun args x hx => ?_
  unfold binM at hx
  split at hx
  · rename_i a b c d e g h j
    rw [DT.eval_must] at hx
    cases hq : (inQ a b c d && inQ e g h j) with
    | false => rw [hq] at hx; cases hx
    | true =>
      rw [hq, cond_true, DT.eval_leaf] at hx
      rw [Bool.and_eq_true] at hq
      obtain ⟨m, rfl, rfl, rfl, rfl⟩ := wd_rep hq.1
      obtain ⟨m', rfl, rfl, rfl, rfl⟩ := wd_rep hq.2
      rw [hop _ _ 0 (by omega), hop _ _ 1 (by omega), hop _ _ 2 (by omega), hop _ _ 3 (by omega)] at hx
      cases hx
      exact ⟨by simp [freeN], hn, _, rfl, by simp [freeN, mk], fun B => hok B m m'⟩
  · cases hx
theorem tells15 [Z : Zone] [T : Tab] : Tells cfVd 15 fun a => (lstD g0 a).eval := by
  refine tells_row goodVd rfl i15_fn (t := 2) rfl fun args x hx => ?_
  unfold lstD at hx
  split at hx
  · rename_i a b c d
    cases h : inQ a b c d with
    | false => unfold rowD at hx; rw [DT.eval_must, h] at hx; cases hx
    | true =>
      obtain ⟨m, rfl, rfl, rfl, rfl⟩ := wd_rep h
      rw [rowD_eval] at hx
      cases hx
      exact ⟨by simp [freeN], nt15_le, fun b => ok15 m⟩
  · cases hx
def TVg : FuncId → Option (Array Value → DT (Option (Value × St)))
  | 15 => some (lstD g0)
  | 30 => some (binM and64)
  | 32 => some (binM or64)
  | 33 => some (binM not64)
  | _ => none
def cfVg : Cfg := cfVd.told TVg
theorem goodVg [Z : Zone] [T : Tab] (B : Base) : Go.Am.Good cfVg B := tells_good (fun B => goodVd B) (fun f F h => by
  unfold TVg at h
  split at h
  · cases h; exact ⟨⟨_, i15_fn⟩, tells15⟩
  · cases h; exact ⟨⟨_, i30_fn⟩, tells_bin i30_fn nt30_le (S := fun x y => x &&& y) (fun x y k _ => wd_and x y k) fun B x y => ok30 x y⟩
  · cases h; exact ⟨⟨_, i32_fn⟩, tells_bin i32_fn nt32_le (S := fun x y => x ||| y) (fun x y k _ => wd_or x y k) fun B x y => ok32 x y⟩
  · cases h; exact ⟨⟨_, i33_fn⟩, tells_bin i33_fn nt33_le (S := fun x y => x &&& ~~~y) (fun x y k hk => wd_not x y hk) fun B x y => ok33 x y⟩
  · cases h) B
def tVg : FuncId → Option HandT := treeT TVg tVd
theorem tVg_ok : ∀ f k hd, tVg f = some k → cfVg.hand f = some hd → ∀ a c s, (k a c s).eval = hd a c s := treeT_ok tVd_ok
end
end Go.Proofs.YtmpokdnpkjcnbaaDoor
