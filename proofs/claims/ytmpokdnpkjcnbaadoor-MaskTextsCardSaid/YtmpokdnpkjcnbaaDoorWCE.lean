import Derived.Test.YtmpokdnpkjcnbaaDoorWAB
/- Text: paths. -/
namespace Go.Proofs.YtmpokdnpkjcnbaaDoor
open Go.Am
noncomputable section
def cSc : Code → Code
  | .scope a => a
  | c => c
def b24 : Code := bodyOf 24
def s24 : Code := cSc (cR b24)
def rng24 : Code := cB (cR (cL (cN 3 s24)))
theorem b24_eq : b24 = .seq (cL b24) (.scope (.seq (cL s24) (.seq (cL (cN 1 s24)) (.seq (.label 0) (.seq (.seq (cL (cL (cN 3 s24))) (.block 0 (.rangeFunc (.tmp 8) #[9] (assignOf rng24) (rbodyOf rng24)))) (cN 4 s24)))))) := by kernel_rfl
def strV (l : List UInt8) : Value := .string ⟨⟨l⟩⟩
def sl5 (k : Nat) : Value := .slice (some ⟨5, 0, none⟩) k k
def frI24 : Fr := frS 24 [(1, pt' 0), (3, pt' 1), (4, pt' 2)]
def frA24 : Fr := frS 24 [(1, pt' 0), (3, pt' 1), (4, pt' 2), (8, .func (.func 52) #[] #[pt' 3])]
def hp24 (a b c d : Int) (S : Value) (f : Int) : List (Nat × AObj) := [(0, .cells (mkC a b c d) 1 false), (1, .cells #[S] 1 false), (2, .cells #[.int .i64 f] 1 false)]
def sI24 (a b c d : Int) : St := stS (hp24 a b c d nilS (-1)) 3
def sA24 (a b c d : Int) : St := stS (hp24 a b c d nilS (-1) ++ [(3, .cells (mkC a b c d) 1 false)]) 4
def loop24 (tm : Tr Value) : LoopRec := { fn := 24, nt := ntOf 24, tm := tm, params := #[9], assign := assignOf rng24, body := rbodyOf rng24, state := .ready, pending := none }
def tmL24 : Tr Value := tmS [(1, pt' 0), (3, pt' 1), (4, pt' 2)] .nil
/-- in the loop: no word yet; words -/
def sN24 (a b c d f : Int) : St := stS (hp24 a b c d nilS f ++ [(3, .cells (mkC a b c d) 1 false), (4, .loop (loop24 tmL24))]) 5
def sE24 (a b c d f : Int) (k : Nat) (E : Array Value) : St := stS (hp24 a b c d (sl5 k) f ++ [(3, .cells (mkC a b c d) 1 false), (4, .loop (loop24 tmL24)), (5, .cells E 1 true)]) 6
def selX (r : Option Nat) : Ex → List Tmp × List Kept := fun _ => ([0, 1, 4], [.cells 0, .cells 1, .cells 2, .cells 3, .loop 4 [1, 3, 4]] ++ (match r with | some r => [.plain r] | none => []))
def aX (E : Array Value) (k : Nat) (w : ByteArray) : Array Value := E.extract 0 (0 + k * 1) ++ ⟨[.string w]⟩
/-- words -/
def w1 (i : Int) : ByteArray := ⟨⟨dig3 i.toNat⟩⟩
def w2 (f i : Int) : ByteArray := w1 f ++ (⟨#[45]⟩ ++ w1 i)

theorem s24a_k : (fun (a b c d : Int) => (codeT cfW (callT cfW tW 60) 60 cz (cL b24) (frame0 24 (ntOf 24) #[mk a b c d]) st0).evalM (gcObs 0 0 (kp [1] [.cells 0]))) = fun (a b c d : Int) => some (.normal, frS 24 [(1, pt' 0)], stS [(0, .cells (mkC a b c d) 1 false)] 1) := by kernel_rfl
theorem s24a (a b c d : Int) : (codeT cfW (callT cfW tW 60) 60 cz (cL b24) (frame0 24 (ntOf 24) #[mk a b c d]) st0).evalM (gcObs 0 0 (kp [1] [.cells 0])) = some (.normal, frS 24 [(1, pt' 0)], stS [(0, .cells (mkC a b c d) 1 false)] 1) := congrFun (congrFun (congrFun (congrFun s24a_k a) b) c) d
theorem s24b_k : (fun (a b c d : Int) => (codeT cfW (callT cfW tW 60) 60 cz (cL s24) (frS 24 [(1, pt' 0)]) (stS [(0, .cells (mkC a b c d) 1 false)] 1)).evalM (gcObs 0 0 (kp [1, 3] [.cells 0, .cells 1]))) = fun (a b c d : Int) => some (.normal, frS 24 [(1, pt' 0), (3, pt' 1)], stS [(0, .cells (mkC a b c d) 1 false), (1, .cells #[nilS] 1 false)] 2) := by kernel_rfl
theorem s24b (a b c d : Int) : (codeT cfW (callT cfW tW 60) 60 cz (cL s24) (frS 24 [(1, pt' 0)]) (stS [(0, .cells (mkC a b c d) 1 false)] 1)).evalM (gcObs 0 0 (kp [1, 3] [.cells 0, .cells 1])) = some (.normal, frS 24 [(1, pt' 0), (3, pt' 1)], stS [(0, .cells (mkC a b c d) 1 false), (1, .cells #[nilS] 1 false)] 2) := congrFun (congrFun (congrFun (congrFun s24b_k a) b) c) d
theorem s24c_k : (fun (a b c d : Int) => (codeT cfW (callT cfW tW 60) 60 cz (cL (cN 1 s24)) (frS 24 [(1, pt' 0), (3, pt' 1)]) (stS [(0, .cells (mkC a b c d) 1 false), (1, .cells #[nilS] 1 false)] 2)).evalM (gcObs 0 0 (kp [1, 3, 4] [.cells 0, .cells 1, .cells 2]))) = fun (a b c d : Int) => some (.normal, frI24, sI24 a b c d) := by kernel_rfl
theorem s24c (a b c d : Int) : (codeT cfW (callT cfW tW 60) 60 cz (cL (cN 1 s24)) (frS 24 [(1, pt' 0), (3, pt' 1)]) (stS [(0, .cells (mkC a b c d) 1 false), (1, .cells #[nilS] 1 false)] 2)).evalM (gcObs 0 0 (kp [1, 3, 4] [.cells 0, .cells 1, .cells 2])) = some (.normal, frI24, sI24 a b c d) := congrFun (congrFun (congrFun (congrFun s24c_k a) b) c) d
theorem s24l_k : (fun (a b c d : Int) => (codeT cfW (callT cfW tW 60) 60 cz (.label 0) frI24 (sI24 a b c d)).evalM (gcObs 0 0 (kp [1, 3, 4] [.cells 0, .cells 1, .cells 2]))) = fun (a b c d : Int) => some (.normal, frI24, sI24 a b c d) := by kernel_rfl
theorem s24l (a b c d : Int) : (codeT cfW (callT cfW tW 60) 60 cz (.label 0) frI24 (sI24 a b c d)).evalM (gcObs 0 0 (kp [1, 3, 4] [.cells 0, .cells 1, .cells 2])) = some (.normal, frI24, sI24 a b c d) := congrFun (congrFun (congrFun (congrFun s24l_k a) b) c) d
theorem s24d_k : (fun (a b c d : Int) => (codeT cfW (callT cfW tW 60) 60 cz (cL (cL (cN 3 s24))) frI24 (sI24 a b c d)).evalM (gcObs 0 0 (kp [1, 3, 4, 8] [.cells 0, .cells 1, .cells 2, .cells 3]))) = fun (a b c d : Int) => some (.normal, frA24, sA24 a b c d) := by kernel_rfl
theorem s24d (a b c d : Int) : (codeT cfW (callT cfW tW 60) 60 cz (cL (cL (cN 3 s24))) frI24 (sI24 a b c d)).evalM (gcObs 0 0 (kp [1, 3, 4, 8] [.cells 0, .cells 1, .cells 2, .cells 3])) = some (.normal, frA24, sA24 a b c d) := congrFun (congrFun (congrFun (congrFun s24d_k a) b) c) d
theorem s24e_k : (fun (a b c d f : Int) => (codeT cfW (callT cfW tW 60) 60 cz (cN 4 s24) frA24 (unl 4 (sN24 a b c d f))).evalM (gcObs 0 0 (kp [2] []))) = fun (_ _ _ _ _ : Int) => some (.ret, frS 24 [(2, strV [])], st0) := by kernel_rfl
theorem s24e (a b c d f : Int) : (codeT cfW (callT cfW tW 60) 60 cz (cN 4 s24) frA24 (unl 4 (sN24 a b c d f))).evalM (gcObs 0 0 (kp [2] [])) = some (.ret, frS 24 [(2, strV [])], st0) := congrFun (congrFun (congrFun (congrFun (congrFun s24e_k a) b) c) d) f
theorem s24f_k : (fun (a b c d f : Int) (k : Nat) (E : Array Value) => (codeT cfW (callT cfW tW 60) 60 cz (cN 4 s24) frA24 (unl 4 (sE24 a b c d f k E))).evalM (gcObs 0 0 (kp [2] []))) = fun (_ _ _ _ _ : Int) (k : Nat) (E : Array Value) => bif decide (k = E.size) && (decide (k ≤ k) && (E.toList.all isSt && (decide (E.size ≠ 0) && (decide (E.size ≤ 1048576) && decide ((joinV E ⟨#[44]⟩).length ≤ 1099511627776))))) then some (.ret, frS 24 [(2, .string ⟨(joinV E ⟨#[44]⟩).toArray⟩)], st0) else none := by kernel_rfl
theorem s24f (a b c d f : Int) (k : Nat) (E : Array Value) : (codeT cfW (callT cfW tW 60) 60 cz (cN 4 s24) frA24 (unl 4 (sE24 a b c d f k E))).evalM (gcObs 0 0 (kp [2] [])) = bif decide (k = E.size) && (decide (k ≤ k) && (E.toList.all isSt && (decide (E.size ≠ 0) && (decide (E.size ≤ 1048576) && decide ((joinV E ⟨#[44]⟩).length ≤ 1099511627776))))) then some (.ret, frS 24 [(2, .string ⟨(joinV E ⟨#[44]⟩).toArray⟩)], st0) else none := congrFun (congrFun (congrFun (congrFun (congrFun (congrFun (congrFun s24f_k a) b) c) d) f) k) E
theorem i52x_k : (fun (a b c d : Int) => (codeT cfW (callT cfW tW 60) 60 cz (seqOf [cL b52]) (frame0 52 (ntOf 52) #[.func (.yield 4) #[] #[], pt' 3]) ((sA24 a b c d).new (.loop (loop24 frA24.tm)))).evalM (gcObs 0 0 (selX none))) = fun (a b c d : Int) => some (.normal, fr52m 4 3 0, sN24 a b c d (-1)) := by kernel_rfl
theorem i52x (a b c d : Int) : (codeT cfW (callT cfW tW 60) 60 cz (seqOf [cL b52]) (frame0 52 (ntOf 52) #[.func (.yield 4) #[] #[], pt' 3]) ((sA24 a b c d).new (.loop (loop24 frA24.tm)))).evalM (gcObs 0 0 (selX none)) = some (.normal, fr52m 4 3 0, sN24 a b c d (-1)) := congrFun (congrFun (congrFun (congrFun i52x_k a) b) c) d
def xAa_bits : List Bool := [true, true, true, true, false, false, false, false, false, false, false, false, false, false]
def xAa_c (a b c d _ i : Int) : Bool :=
  (decide (i < 256))
   && ((inQ a b c d)
   && (!(hasB a b c d i)
   && true))
theorem xAa_cond_k : (fun (a b c d f i : Int) => (followT xAa_bits (codeT cfW (callT cfW tW 60) 60 cz k52 (fr52m 4 3 i) (sN24 a b c d f))).1) = fun (a b c d f i : Int) => xAa_c a b c d f i := by kernel_rfl
theorem xAa_cond (a b c d f i : Int) : (followT xAa_bits (codeT cfW (callT cfW tW 60) 60 cz k52 (fr52m 4 3 i) (sN24 a b c d f))).1 = xAa_c a b c d f i := congrFun (congrFun (congrFun (congrFun (congrFun (congrFun xAa_cond_k a) b) c) d) f) i
theorem xAa_leaf_k : (fun (a b c d f i : Int) => pathObs (gcObs 0 0 (selX (none))) xAa_bits (codeT cfW (callT cfW tW 60) 60 cz k52 (fr52m 4 3 i) (sN24 a b c d f))) = fun (a b c d f i : Int) => some (.normal, fr52m 4 3 (inc i), sN24 a b c d f) := by kernel_rfl
theorem xAa_leaf (a b c d f i : Int) : pathObs (gcObs 0 0 (selX (none))) xAa_bits (codeT cfW (callT cfW tW 60) 60 cz k52 (fr52m 4 3 i) (sN24 a b c d f)) = some (.normal, fr52m 4 3 (inc i), sN24 a b c d f) := congrFun (congrFun (congrFun (congrFun (congrFun (congrFun xAa_leaf_k a) b) c) d) f) i
def xAb_bits : List Bool := [true, true, true, true, false, false, false, false, false, false, false, false, false, false]
def xAb_c (a b c d _ i : Int) (_ : Nat) (_ : Array Value) : Bool :=
  (decide (i < 256))
   && ((inQ a b c d)
   && (!(hasB a b c d i)
   && true))
theorem xAb_cond_k : (fun (a b c d f i : Int) (k : Nat) (E : Array Value) => (followT xAb_bits (codeT cfW (callT cfW tW 60) 60 cz k52 (fr52m 4 3 i) (sE24 a b c d f k E))).1) = fun (a b c d f i : Int) (k : Nat) (E : Array Value) => xAb_c a b c d f i k E := by kernel_rfl
theorem xAb_cond (a b c d f i : Int) (k : Nat) (E : Array Value) : (followT xAb_bits (codeT cfW (callT cfW tW 60) 60 cz k52 (fr52m 4 3 i) (sE24 a b c d f k E))).1 = xAb_c a b c d f i k E := congrFun (congrFun (congrFun (congrFun (congrFun (congrFun (congrFun (congrFun xAb_cond_k a) b) c) d) f) i) k) E
theorem xAb_leaf_k : (fun (a b c d f i : Int) (k : Nat) (E : Array Value) => pathObs (gcObs 0 0 (selX (some 5))) xAb_bits (codeT cfW (callT cfW tW 60) 60 cz k52 (fr52m 4 3 i) (sE24 a b c d f k E))) = fun (a b c d f i : Int) (k : Nat) (E : Array Value) => some (.normal, fr52m 4 3 (inc i), sE24 a b c d f k E) := by kernel_rfl
theorem xAb_leaf (a b c d f i : Int) (k : Nat) (E : Array Value) : pathObs (gcObs 0 0 (selX (some 5))) xAb_bits (codeT cfW (callT cfW tW 60) 60 cz k52 (fr52m 4 3 i) (sE24 a b c d f k E)) = some (.normal, fr52m 4 3 (inc i), sE24 a b c d f k E) := congrFun (congrFun (congrFun (congrFun (congrFun (congrFun (congrFun (congrFun xAb_leaf_k a) b) c) d) f) i) k) E
def xBa_bits : List Bool := [true, true, true, true, true, true, true, true, true, true, true, true, true, true, true, true, true, true, true, false]
def xBa_c (a b c d f i : Int) : Bool :=
  (decide (i < 256))
   && ((inQ a b c d)
   && ((hasB a b c d i)
   && ((decide (f < 0))
   && ((inQ a b c d)
   && ((hasB a b c d (inc i))
   && true)))))
theorem xBa_cond_k : (fun (a b c d f i : Int) => (followT xBa_bits (codeT cfW (callT cfW tW 60) 60 cz k52 (fr52m 4 3 i) (sN24 a b c d f))).1) = fun (a b c d f i : Int) => xBa_c a b c d f i := by kernel_rfl
theorem xBa_cond (a b c d f i : Int) : (followT xBa_bits (codeT cfW (callT cfW tW 60) 60 cz k52 (fr52m 4 3 i) (sN24 a b c d f))).1 = xBa_c a b c d f i := congrFun (congrFun (congrFun (congrFun (congrFun (congrFun xBa_cond_k a) b) c) d) f) i
theorem xBa_leaf_k : (fun (a b c d f i : Int) => pathObs (gcObs 0 0 (selX (none))) xBa_bits (codeT cfW (callT cfW tW 60) 60 cz k52 (fr52m 4 3 i) (sN24 a b c d f))) = fun (a b c d _ i : Int) => some (.normal, fr52m 4 3 (inc i), sN24 a b c d i) := by kernel_rfl
theorem xBa_leaf (a b c d f i : Int) : pathObs (gcObs 0 0 (selX (none))) xBa_bits (codeT cfW (callT cfW tW 60) 60 cz k52 (fr52m 4 3 i) (sN24 a b c d f)) = some (.normal, fr52m 4 3 (inc i), sN24 a b c d i) := congrFun (congrFun (congrFun (congrFun (congrFun (congrFun xBa_leaf_k a) b) c) d) f) i
def xBb_bits : List Bool := [true, true, true, true, true, true, true, true, true, true, true, true, true, true, true, true, true, true, true, false]
def xBb_c (a b c d f i : Int) (_ : Nat) (_ : Array Value) : Bool :=
  (decide (i < 256))
   && ((inQ a b c d)
   && ((hasB a b c d i)
   && ((decide (f < 0))
   && ((inQ a b c d)
   && ((hasB a b c d (inc i))
   && true)))))
theorem xBb_cond_k : (fun (a b c d f i : Int) (k : Nat) (E : Array Value) => (followT xBb_bits (codeT cfW (callT cfW tW 60) 60 cz k52 (fr52m 4 3 i) (sE24 a b c d f k E))).1) = fun (a b c d f i : Int) (k : Nat) (E : Array Value) => xBb_c a b c d f i k E := by kernel_rfl
theorem xBb_cond (a b c d f i : Int) (k : Nat) (E : Array Value) : (followT xBb_bits (codeT cfW (callT cfW tW 60) 60 cz k52 (fr52m 4 3 i) (sE24 a b c d f k E))).1 = xBb_c a b c d f i k E := congrFun (congrFun (congrFun (congrFun (congrFun (congrFun (congrFun (congrFun xBb_cond_k a) b) c) d) f) i) k) E
theorem xBb_leaf_k : (fun (a b c d f i : Int) (k : Nat) (E : Array Value) => pathObs (gcObs 0 0 (selX (some 5))) xBb_bits (codeT cfW (callT cfW tW 60) 60 cz k52 (fr52m 4 3 i) (sE24 a b c d f k E))) = fun (a b c d _ i : Int) (k : Nat) (E : Array Value) => some (.normal, fr52m 4 3 (inc i), sE24 a b c d i k E) := by kernel_rfl
theorem xBb_leaf (a b c d f i : Int) (k : Nat) (E : Array Value) : pathObs (gcObs 0 0 (selX (some 5))) xBb_bits (codeT cfW (callT cfW tW 60) 60 cz k52 (fr52m 4 3 i) (sE24 a b c d f k E)) = some (.normal, fr52m 4 3 (inc i), sE24 a b c d i k E) := congrFun (congrFun (congrFun (congrFun (congrFun (congrFun (congrFun (congrFun xBb_leaf_k a) b) c) d) f) i) k) E
def xCa_bits : List Bool := [true, true, true, true, true, true, true, true, true, true, true, false, true, true, true, true, true, true, true, false]
def xCa_c (a b c d f i : Int) : Bool :=
  (decide (i < 256))
   && ((inQ a b c d)
   && ((hasB a b c d i)
   && (!(decide (f < 0))
   && ((inQ a b c d)
   && ((hasB a b c d (inc i))
   && true)))))
theorem xCa_cond_k : (fun (a b c d f i : Int) => (followT xCa_bits (codeT cfW (callT cfW tW 60) 60 cz k52 (fr52m 4 3 i) (sN24 a b c d f))).1) = fun (a b c d f i : Int) => xCa_c a b c d f i := by kernel_rfl
theorem xCa_cond (a b c d f i : Int) : (followT xCa_bits (codeT cfW (callT cfW tW 60) 60 cz k52 (fr52m 4 3 i) (sN24 a b c d f))).1 = xCa_c a b c d f i := congrFun (congrFun (congrFun (congrFun (congrFun (congrFun xCa_cond_k a) b) c) d) f) i
theorem xCa_leaf_k : (fun (a b c d f i : Int) => pathObs (gcObs 0 0 (selX (none))) xCa_bits (codeT cfW (callT cfW tW 60) 60 cz k52 (fr52m 4 3 i) (sN24 a b c d f))) = fun (a b c d f i : Int) => some (.normal, fr52m 4 3 (inc i), sN24 a b c d f) := by kernel_rfl
theorem xCa_leaf (a b c d f i : Int) : pathObs (gcObs 0 0 (selX (none))) xCa_bits (codeT cfW (callT cfW tW 60) 60 cz k52 (fr52m 4 3 i) (sN24 a b c d f)) = some (.normal, fr52m 4 3 (inc i), sN24 a b c d f) := congrFun (congrFun (congrFun (congrFun (congrFun (congrFun xCa_leaf_k a) b) c) d) f) i
def xCb_bits : List Bool := [true, true, true, true, true, true, true, true, true, true, true, false, true, true, true, true, true, true, true, false]
def xCb_c (a b c d f i : Int) (_ : Nat) (_ : Array Value) : Bool :=
  (decide (i < 256))
   && ((inQ a b c d)
   && ((hasB a b c d i)
   && (!(decide (f < 0))
   && ((inQ a b c d)
   && ((hasB a b c d (inc i))
   && true)))))
theorem xCb_cond_k : (fun (a b c d f i : Int) (k : Nat) (E : Array Value) => (followT xCb_bits (codeT cfW (callT cfW tW 60) 60 cz k52 (fr52m 4 3 i) (sE24 a b c d f k E))).1) = fun (a b c d f i : Int) (k : Nat) (E : Array Value) => xCb_c a b c d f i k E := by kernel_rfl
theorem xCb_cond (a b c d f i : Int) (k : Nat) (E : Array Value) : (followT xCb_bits (codeT cfW (callT cfW tW 60) 60 cz k52 (fr52m 4 3 i) (sE24 a b c d f k E))).1 = xCb_c a b c d f i k E := congrFun (congrFun (congrFun (congrFun (congrFun (congrFun (congrFun (congrFun xCb_cond_k a) b) c) d) f) i) k) E
theorem xCb_leaf_k : (fun (a b c d f i : Int) (k : Nat) (E : Array Value) => pathObs (gcObs 0 0 (selX (some 5))) xCb_bits (codeT cfW (callT cfW tW 60) 60 cz k52 (fr52m 4 3 i) (sE24 a b c d f k E))) = fun (a b c d f i : Int) (k : Nat) (E : Array Value) => some (.normal, fr52m 4 3 (inc i), sE24 a b c d f k E) := by kernel_rfl
theorem xCb_leaf (a b c d f i : Int) (k : Nat) (E : Array Value) : pathObs (gcObs 0 0 (selX (some 5))) xCb_bits (codeT cfW (callT cfW tW 60) 60 cz k52 (fr52m 4 3 i) (sE24 a b c d f k E)) = some (.normal, fr52m 4 3 (inc i), sE24 a b c d f k E) := congrFun (congrFun (congrFun (congrFun (congrFun (congrFun (congrFun (congrFun xCb_leaf_k a) b) c) d) f) i) k) E
def xDa_bits : List Bool := [true, true, true, true, true, true, true, true, true, true, true, true, true, true, true, false, true, true, true, false, false, true, false, true, true, true, true, true, true, false]
def xDa_c (a b c d f i : Int) : Bool :=
  (decide (i < 256))
   && ((inQ a b c d)
   && ((hasB a b c d i)
   && ((decide (f < 0))
   && ((inQ a b c d)
   && (!(hasB a b c d (inc i))
   && ((decide (0 ≤ i) && decide (i < 1000))
   && (!(decide (i > i))
   && true)))))))
theorem xDa_cond_k : (fun (a b c d f i : Int) => (followT xDa_bits (codeT cfW (callT cfW tW 60) 60 cz k52 (fr52m 4 3 i) (sN24 a b c d f))).1) = fun (a b c d f i : Int) => xDa_c a b c d f i := by kernel_rfl
theorem xDa_cond (a b c d f i : Int) : (followT xDa_bits (codeT cfW (callT cfW tW 60) 60 cz k52 (fr52m 4 3 i) (sN24 a b c d f))).1 = xDa_c a b c d f i := congrFun (congrFun (congrFun (congrFun (congrFun (congrFun xDa_cond_k a) b) c) d) f) i
theorem xDa_leaf_k : (fun (a b c d f i : Int) => pathObs (gcObs 0 0 (selX (some 6))) xDa_bits (codeT cfW (callT cfW tW 60) 60 cz k52 (fr52m 4 3 i) (sN24 a b c d f))) = fun (a b c d _ i : Int) => some (.normal, fr52m 4 3 (inc i), sE24 a b c d (-1) 1 ⟨[.string (w1 i)]⟩) := by kernel_rfl
theorem xDa_leaf (a b c d f i : Int) : pathObs (gcObs 0 0 (selX (some 6))) xDa_bits (codeT cfW (callT cfW tW 60) 60 cz k52 (fr52m 4 3 i) (sN24 a b c d f)) = some (.normal, fr52m 4 3 (inc i), sE24 a b c d (-1) 1 ⟨[.string (w1 i)]⟩) := congrFun (congrFun (congrFun (congrFun (congrFun (congrFun xDa_leaf_k a) b) c) d) f) i
def xDb_bits : List Bool := [true, true, true, true, true, true, true, true, true, true, true, true, true, true, true, false, true, true, true, false, false, true, false, true, true, true, false, true, true, true, true, true, true, false]
def xDb_c (a b c d f i : Int) (k : Nat) (E : Array Value) : Bool :=
  (decide (i < 256))
   && ((inQ a b c d)
   && ((hasB a b c d i)
   && ((decide (f < 0))
   && ((inQ a b c d)
   && (!(hasB a b c d (inc i))
   && ((decide (0 ≤ i) && decide (i < 1000))
   && (!(decide (i > i))
   && ((decide (k ≤ k) && decide (k + 1 ≤ nLim) && true && true && true && true && true)
   && (!(decide (k + 1 ≤ k))
   && ((decide (0 + k * 1 ≤ E.size))
   && (((k == k) && (0 + k * 1 == E.size))
   && true)))))))))))
theorem xDb_cond_k : (fun (a b c d f i : Int) (k : Nat) (E : Array Value) => (followT xDb_bits (codeT cfW (callT cfW tW 60) 60 cz k52 (fr52m 4 3 i) (sE24 a b c d f k E))).1) = fun (a b c d f i : Int) (k : Nat) (E : Array Value) => xDb_c a b c d f i k E := by kernel_rfl
theorem xDb_cond (a b c d f i : Int) (k : Nat) (E : Array Value) : (followT xDb_bits (codeT cfW (callT cfW tW 60) 60 cz k52 (fr52m 4 3 i) (sE24 a b c d f k E))).1 = xDb_c a b c d f i k E := congrFun (congrFun (congrFun (congrFun (congrFun (congrFun (congrFun (congrFun xDb_cond_k a) b) c) d) f) i) k) E
theorem xDb_leaf_k : (fun (a b c d f i : Int) (k : Nat) (E : Array Value) => pathObs (gcObs 0 0 (selX (some 7))) xDb_bits (codeT cfW (callT cfW tW 60) 60 cz k52 (fr52m 4 3 i) (sE24 a b c d f k E))) = fun (a b c d _ i : Int) (k : Nat) (E : Array Value) => some (.normal, fr52m 4 3 (inc i), sE24 a b c d (-1) (k + 1) (aX E k (w1 i))) := by kernel_rfl
theorem xDb_leaf (a b c d f i : Int) (k : Nat) (E : Array Value) : pathObs (gcObs 0 0 (selX (some 7))) xDb_bits (codeT cfW (callT cfW tW 60) 60 cz k52 (fr52m 4 3 i) (sE24 a b c d f k E)) = some (.normal, fr52m 4 3 (inc i), sE24 a b c d (-1) (k + 1) (aX E k (w1 i))) := congrFun (congrFun (congrFun (congrFun (congrFun (congrFun (congrFun (congrFun xDb_leaf_k a) b) c) d) f) i) k) E
def xEa_bits : List Bool := [true, true, true, true, true, true, true, true, true, true, true, false, true, true, true, false, true, true, true, true, true, false, false, false, true, false, true, true, true, true, true, true, false]
def xEa_c (a b c d f i : Int) : Bool :=
  (decide (i < 256))
   && ((inQ a b c d)
   && ((hasB a b c d i)
   && (!(decide (f < 0))
   && ((inQ a b c d)
   && (!(hasB a b c d (inc i))
   && ((decide (0 ≤ f) && decide (f < 1000))
   && ((decide (i > f))
   && ((decide (0 ≤ i) && decide (i < 1000))
   && (!(decide ((((⟨#[45]⟩ : ByteArray).size + (w1 i).size : Nat) : Int) > IntKind.max .i64))
   && (!(decide ((((w1 f).size + ((⟨#[45]⟩ : ByteArray) ++ w1 i).size : Nat) : Int) > IntKind.max .i64))
   && true))))))))))
theorem xEa_cond_k : (fun (a b c d f i : Int) => (followT xEa_bits (codeT cfW (callT cfW tW 60) 60 cz k52 (fr52m 4 3 i) (sN24 a b c d f))).1) = fun (a b c d f i : Int) => xEa_c a b c d f i := by kernel_rfl
theorem xEa_cond (a b c d f i : Int) : (followT xEa_bits (codeT cfW (callT cfW tW 60) 60 cz k52 (fr52m 4 3 i) (sN24 a b c d f))).1 = xEa_c a b c d f i := congrFun (congrFun (congrFun (congrFun (congrFun (congrFun xEa_cond_k a) b) c) d) f) i
theorem xEa_leaf_k : (fun (a b c d f i : Int) => pathObs (gcObs 0 0 (selX (some 6))) xEa_bits (codeT cfW (callT cfW tW 60) 60 cz k52 (fr52m 4 3 i) (sN24 a b c d f))) = fun (a b c d f i : Int) => some (.normal, fr52m 4 3 (inc i), sE24 a b c d (-1) 1 ⟨[.string (w2 f i)]⟩) := by kernel_rfl
theorem xEa_leaf (a b c d f i : Int) : pathObs (gcObs 0 0 (selX (some 6))) xEa_bits (codeT cfW (callT cfW tW 60) 60 cz k52 (fr52m 4 3 i) (sN24 a b c d f)) = some (.normal, fr52m 4 3 (inc i), sE24 a b c d (-1) 1 ⟨[.string (w2 f i)]⟩) := congrFun (congrFun (congrFun (congrFun (congrFun (congrFun xEa_leaf_k a) b) c) d) f) i
def xEb_bits : List Bool := [true, true, true, true, true, true, true, true, true, true, true, false, true, true, true, false, true, true, true, true, true, false, false, false, true, false, true, true, true, false, true, true, true, true, true, true, false]
def xEb_c (a b c d f i : Int) (k : Nat) (E : Array Value) : Bool :=
  (decide (i < 256))
   && ((inQ a b c d)
   && ((hasB a b c d i)
   && (!(decide (f < 0))
   && ((inQ a b c d)
   && (!(hasB a b c d (inc i))
   && ((decide (0 ≤ f) && decide (f < 1000))
   && ((decide (i > f))
   && ((decide (0 ≤ i) && decide (i < 1000))
   && (!(decide ((((⟨#[45]⟩ : ByteArray).size + (w1 i).size : Nat) : Int) > IntKind.max .i64))
   && (!(decide ((((w1 f).size + ((⟨#[45]⟩ : ByteArray) ++ w1 i).size : Nat) : Int) > IntKind.max .i64))
   && ((decide (k ≤ k) && decide (k + 1 ≤ nLim) && true && true && true && true && true)
   && (!(decide (k + 1 ≤ k))
   && ((decide (0 + k * 1 ≤ E.size))
   && (((k == k) && (0 + k * 1 == E.size))
   && true))))))))))))))
theorem xEb_cond_k : (fun (a b c d f i : Int) (k : Nat) (E : Array Value) => (followT xEb_bits (codeT cfW (callT cfW tW 60) 60 cz k52 (fr52m 4 3 i) (sE24 a b c d f k E))).1) = fun (a b c d f i : Int) (k : Nat) (E : Array Value) => xEb_c a b c d f i k E := by kernel_rfl
theorem xEb_cond (a b c d f i : Int) (k : Nat) (E : Array Value) : (followT xEb_bits (codeT cfW (callT cfW tW 60) 60 cz k52 (fr52m 4 3 i) (sE24 a b c d f k E))).1 = xEb_c a b c d f i k E := congrFun (congrFun (congrFun (congrFun (congrFun (congrFun (congrFun (congrFun xEb_cond_k a) b) c) d) f) i) k) E
theorem xEb_leaf_k : (fun (a b c d f i : Int) (k : Nat) (E : Array Value) => pathObs (gcObs 0 0 (selX (some 7))) xEb_bits (codeT cfW (callT cfW tW 60) 60 cz k52 (fr52m 4 3 i) (sE24 a b c d f k E))) = fun (a b c d f i : Int) (k : Nat) (E : Array Value) => some (.normal, fr52m 4 3 (inc i), sE24 a b c d (-1) (k + 1) (aX E k (w2 f i))) := by kernel_rfl
theorem xEb_leaf (a b c d f i : Int) (k : Nat) (E : Array Value) : pathObs (gcObs 0 0 (selX (some 7))) xEb_bits (codeT cfW (callT cfW tW 60) 60 cz k52 (fr52m 4 3 i) (sE24 a b c d f k E)) = some (.normal, fr52m 4 3 (inc i), sE24 a b c d (-1) (k + 1) (aX E k (w2 f i))) := congrFun (congrFun (congrFun (congrFun (congrFun (congrFun (congrFun (congrFun xEb_leaf_k a) b) c) d) f) i) k) E
def xFa_bits : List Bool := [false]
def xFa_c (_ _ _ _ _ i : Int) : Bool :=
  !(decide (i < 256))
   && true
theorem xFa_cond_k : (fun (a b c d f i : Int) => (followT xFa_bits (codeT cfW (callT cfW tW 60) 60 cz k52 (fr52m 4 3 i) (sN24 a b c d f))).1) = fun (a b c d f i : Int) => xFa_c a b c d f i := by kernel_rfl
theorem xFa_cond (a b c d f i : Int) : (followT xFa_bits (codeT cfW (callT cfW tW 60) 60 cz k52 (fr52m 4 3 i) (sN24 a b c d f))).1 = xFa_c a b c d f i := congrFun (congrFun (congrFun (congrFun (congrFun (congrFun xFa_cond_k a) b) c) d) f) i
theorem xFa_leaf_k : (fun (a b c d f i : Int) => pathObs (gcObs 0 0 (selX (none))) xFa_bits (codeT cfW (callT cfW tW 60) 60 cz k52 (fr52m 4 3 i) (sN24 a b c d f))) = fun (a b c d f i : Int) => some (.exit 0, fr52m 4 3 i, sN24 a b c d f) := by kernel_rfl
theorem xFa_leaf (a b c d f i : Int) : pathObs (gcObs 0 0 (selX (none))) xFa_bits (codeT cfW (callT cfW tW 60) 60 cz k52 (fr52m 4 3 i) (sN24 a b c d f)) = some (.exit 0, fr52m 4 3 i, sN24 a b c d f) := congrFun (congrFun (congrFun (congrFun (congrFun (congrFun xFa_leaf_k a) b) c) d) f) i
def xFb_bits : List Bool := [false]
def xFb_c (_ _ _ _ _ i : Int) (_ : Nat) (_ : Array Value) : Bool :=
  !(decide (i < 256))
   && true
theorem xFb_cond_k : (fun (a b c d f i : Int) (k : Nat) (E : Array Value) => (followT xFb_bits (codeT cfW (callT cfW tW 60) 60 cz k52 (fr52m 4 3 i) (sE24 a b c d f k E))).1) = fun (a b c d f i : Int) (k : Nat) (E : Array Value) => xFb_c a b c d f i k E := by kernel_rfl
theorem xFb_cond (a b c d f i : Int) (k : Nat) (E : Array Value) : (followT xFb_bits (codeT cfW (callT cfW tW 60) 60 cz k52 (fr52m 4 3 i) (sE24 a b c d f k E))).1 = xFb_c a b c d f i k E := congrFun (congrFun (congrFun (congrFun (congrFun (congrFun (congrFun (congrFun xFb_cond_k a) b) c) d) f) i) k) E
theorem xFb_leaf_k : (fun (a b c d f i : Int) (k : Nat) (E : Array Value) => pathObs (gcObs 0 0 (selX (some 5))) xFb_bits (codeT cfW (callT cfW tW 60) 60 cz k52 (fr52m 4 3 i) (sE24 a b c d f k E))) = fun (a b c d f i : Int) (k : Nat) (E : Array Value) => some (.exit 0, fr52m 4 3 i, sE24 a b c d f k E) := by kernel_rfl
theorem xFb_leaf (a b c d f i : Int) (k : Nat) (E : Array Value) : pathObs (gcObs 0 0 (selX (some 5))) xFb_bits (codeT cfW (callT cfW tW 60) 60 cz k52 (fr52m 4 3 i) (sE24 a b c d f k E)) = some (.exit 0, fr52m 4 3 i, sE24 a b c d f k E) := congrFun (congrFun (congrFun (congrFun (congrFun (congrFun (congrFun (congrFun xFb_leaf_k a) b) c) d) f) i) k) E
end
end Go.Proofs.YtmpokdnpkjcnbaaDoor

/- Text: what a mask's words are. -/
namespace Go.Proofs.YtmpokdnpkjcnbaaDoor
open Go.Am
noncomputable section
/-- the first core of the run that goes on; -1: none goes on -/
def fT (m : B256) : Nat → Int
  | 0 => -1
  | i + 1 => bif m.getLsbD i then (bif m.getLsbD (i + 1) then (if fT m i < 0 then (i : Int) else fT m i) else -1) else fT m i
def wordB (f i : Int) : ByteArray := if f < 0 then w1 i else w2 f i
/-- the words so far -/
def wT (m : B256) : Nat → List ByteArray
  | 0 => []
  | i + 1 => bif m.getLsbD i && !m.getLsbD (i + 1) then wT m i ++ [wordB (fT m i) i] else wT m i
theorem fT_inv (m : B256) : ∀ i, fT m i = -1 ∨ (0 ≤ fT m i ∧ fT m i < i) := by
  intro i
  induction i with
  | zero => exact .inl rfl
  | succ i ih =>
    unfold fT
    cases m.getLsbD i with
    | false => rcases ih with h | h
               · exact .inl h
               · exact .inr ⟨h.1, by have := h.2; simp only [cond_false]; omega⟩
    | true =>
      cases m.getLsbD (i + 1) with
      | false => exact .inl rfl
      | true =>
        simp only [cond_true]
        rcases ih with h | h
        · right; rw [if_pos (by omega)]; omega
        · right; rw [if_neg (by omega)]; omega
theorem wT_len (m : B256) : ∀ i, (wT m i).length ≤ i := by
  intro i
  induction i with
  | zero => exact Nat.le_refl _
  | succ i ih =>
    unfold wT
    cases (m.getLsbD i && !m.getLsbD (i + 1)) with
    | false => simp only [cond_false]; omega
    | true => simp only [cond_true, List.length_append, List.length_cons, List.length_nil]; omega
theorem dig3_len (n : Nat) : (dig3 n).length ≤ 3 ∧ 1 ≤ (dig3 n).length := by
  unfold dig3
  cases Nat.blt n 10 <;> cases Nat.blt n 100 <;> simp
theorem w1_size (i : Int) : (w1 i).size ≤ 3 := (dig3_len _).1
theorem w2_size (f i : Int) : (w2 f i).size ≤ 7 := by
  unfold w2
  have h1 := w1_size f
  have h2 := w1_size i
  rw [ByteArray.size_append, ByteArray.size_append]
  show (w1 f).size + (1 + (w1 i).size) ≤ 7
  omega
theorem word_size (f i : Int) : (wordB f i).size ≤ 7 := by
  unfold wordB
  split
  · have := w1_size i; omega
  · exact w2_size f i
theorem wT_sizes (m : B256) : ∀ i, ∀ w ∈ wT m i, w.size ≤ 7 := by
  intro i
  induction i with
  | zero => intro w h; cases h
  | succ i ih =>
    intro w h
    unfold wT at h
    cases hb : (m.getLsbD i && !m.getLsbD (i + 1)) with
    | false => rw [hb] at h; exact ih w h
    | true =>
      rw [hb, cond_true, List.mem_append, List.mem_singleton] at h
      rcases h with h | rfl
      · exact ih w h
      · exact word_size _ _
def rowX (l : List ByteArray) : Array Value := ⟨l.map .string⟩
theorem rowX_free (l : List ByteArray) : (rowX l).all (freeN 9) = true := by
  unfold rowX
  simp only [Array.all_eq_true]
  intro i hi
  simp [freeN]
theorem rowX_add (l : List ByteArray) (w : ByteArray) : aX (rowX l) l.length w = rowX (l ++ [w]) := by
  unfold aX rowX
  have h : List.take l.length (List.map Value.string l) = List.map Value.string l := List.take_of_length_le (by simp)
  simp [h]
def isE : List ByteArray → Bool
  | [] => true
  | _ => false
def st24 (m : B256) (i : Nat) : St := bif isE (wT m i) then sN24 (wd m 0) (wd m 1) (wd m 2) (wd m 3) (fT m i) else sE24 (wd m 0) (wd m 1) (wd m 2) (wd m 3) (fT m i) (wT m i).length (rowX (wT m i))
def sel24 (m : B256) (i : Nat) : Ex → List Tmp × List Kept := selX (bif Nat.blt i 256 && (m.getLsbD i && !m.getLsbD (i + 1)) then (bif isE (wT m i) then some 6 else some 7) else (bif isE (wT m i) then none else some 5))
theorem sel24_pin (m : B256) (i : Nat) (ex : Ex) : pinned 5 (sel24 m i ex).2 := by
  have key : ∀ r, pinned 5 (selX r ex).2 := fun r => by
    cases r with
    | none => exact ⟨by show 5 ≤ 5; omega, fun j hj => by
        match j, hj with
        | 0, _ => rfl
        | 1, _ => rfl
        | 2, _ => rfl
        | 3, _ => rfl
        | 4, _ => rfl⟩
    | some r => exact ⟨by show 5 ≤ 6; omega, fun j hj => by
        match j, hj with
        | 0, _ => rfl
        | 1, _ => rfl
        | 2, _ => rfl
        | 3, _ => rfl
        | 4, _ => rfl⟩
  exact key _
theorem plain24 (m : B256) (i : Nat) (r : Option Nat) (ex : Ex) : plainJ (st24 m i) (selX r ex).2 0 := by
  cases r with
  | none => trivial
  | some r =>
    refine ⟨?_, trivial⟩
    unfold st24
    cases isE (wT m i) with
    | true =>
      have e : (sN24 (wd m 0) (wd m 1) (wd m 2) (wd m 3) (fT m i)).heap.get 5 = none := by simp [sN24, stS, hpS, hp24, Tr.get_put, Tr.get_nil]
      rw [cond_true]
      show match (sN24 (wd m 0) (wd m 1) (wd m 2) (wd m 3) (fT m i)).heap.get 5 with | some (.cells cs _ _) => cs.all (freeN 9) = true | _ => True
      rw [e]
      trivial
    | false =>
      have e : (sE24 (wd m 0) (wd m 1) (wd m 2) (wd m 3) (fT m i) (wT m i).length (rowX (wT m i))).heap.get 5 = some (.cells (rowX (wT m i)) 1 true) := by simp [sE24, stS, hpS, hp24, Tr.get_put]
      rw [cond_false]
      show match (sE24 (wd m 0) (wd m 1) (wd m 2) (wd m 3) (fT m i) (wT m i).length (rowX (wT m i))).heap.get 5 with | some (.cells cs _ _) => cs.all (freeN 9) = true | _ => True
      rw [e]
      exact rowX_free _
def stop24 (m : B256) (i : Nat) : Option (Ex × Fr × St) := if i < 256 then none else some (.exit 0, fr52m 4 3 i, st24 m i)
theorem fT_bit {m : B256} {i : Nat} (h : m.getLsbD i = true) : fT m (i + 1) = bif m.getLsbD (i + 1) then (if fT m i < 0 then (i : Int) else fT m i) else -1 := by
  show (bif m.getLsbD i then _ else _) = _
  rw [h]; rfl
theorem fT_no {m : B256} {i : Nat} (h : m.getLsbD i = false) : fT m (i + 1) = fT m i := by
  show (bif m.getLsbD i then _ else _) = _
  rw [h]; rfl
theorem wT_add {m : B256} {i : Nat} (h : (m.getLsbD i && !m.getLsbD (i + 1)) = true) : wT m (i + 1) = wT m i ++ [wordB (fT m i) i] := by
  show (bif (m.getLsbD i && !m.getLsbD (i + 1)) then _ else _) = _
  rw [h]; rfl
theorem wT_same {m : B256} {i : Nat} (h : (m.getLsbD i && !m.getLsbD (i + 1)) = false) : wT m (i + 1) = wT m i := by
  show (bif (m.getLsbD i && !m.getLsbD (i + 1)) then _ else _) = _
  rw [h]; rfl
theorem st24_add {m : B256} {i : Nat} (h : (m.getLsbD i && !m.getLsbD (i + 1)) = true) : st24 m (i + 1) = sE24 (wd m 0) (wd m 1) (wd m 2) (wd m 3) (fT m (i + 1)) ((wT m i).length + 1) (rowX (wT m i ++ [wordB (fT m i) i])) := by
  unfold st24
  have e : isE (wT m i ++ [wordB (fT m i) i]) = false := by
    cases h : wT m i <;> rfl
  rw [wT_add h, e, cond_false, List.length_append]; rfl
theorem isE_nil {l : List ByteArray} (h : isE l = true) : l = [] := by
  cases l with
  | nil => rfl
  | cons x r => cases h
theorem round24 (m : B256) (i : Nat) (hi : i ≤ 256) :
    gcObs 0 0 (sel24 m i) (code cfW (call cfW 60) 60 cz k52 (fr52m 4 3 i) (st24 m i)) = some (match stop24 m i with | some r => r | none => (.normal, fr52m 4 3 ((i + 1 : Nat) : Int), st24 m (i + 1))) := by
  unfold stop24
  by_cases hlt : i < 256
  · have hli := i_lt hlt
    have hinc : inc (i : Int) = ((i + 1 : Nat) : Int) := incN (by omega)
    have hb1 : Nat.blt i 256 = true := Nat.ble_eq_true_of_le (by omega)
    have hinv := fT_inv m i
    rw [if_pos hlt]
    simp only
    unfold sel24
    rw [hb1, Bool.true_and, ← hinc]
    cases hb : m.getLsbD i with
    | false =>
      have hs : (m.getLsbD i && !m.getLsbD (i + 1)) = false := by rw [hb]; rfl
      have e4 : st24 m (i + 1) = st24 m i := by unfold st24; rw [wT_same hs, fT_no hb]
      rw [e4, Bool.false_and, cond_false]
      unfold st24
      cases isE (wT m i) with
      | true => exact path_eval tW_ok ((xAa_cond ..).trans (by unfold xAa_c; simp only [hli, wd_inQ, hasB_wd, hb]; rfl)) (xAa_leaf ..)
      | false => exact path_eval tW_ok ((xAb_cond ..).trans (by unfold xAb_c; simp only [hli, wd_inQ, hasB_wd, hb]; rfl)) (xAb_leaf ..)
    | true =>
      cases hb2 : m.getLsbD (i + 1) with
      | true =>
        have hs : (m.getLsbD i && !m.getLsbD (i + 1)) = false := by rw [hb, hb2]; rfl
        rw [Bool.not_true, Bool.and_false, cond_false]
        have e4 : st24 m (i + 1) = (bif isE (wT m i) then sN24 (wd m 0) (wd m 1) (wd m 2) (wd m 3) (if fT m i < 0 then (i : Int) else fT m i) else sE24 (wd m 0) (wd m 1) (wd m 2) (wd m 3) (if fT m i < 0 then (i : Int) else fT m i) (wT m i).length (rowX (wT m i))) := by
          unfold st24; rw [wT_same hs, fT_bit hb, hb2]; rfl
        rw [e4]
        unfold st24
        by_cases hf : fT m i < 0
        · rw [if_pos hf]
          cases isE (wT m i) with
          | true => exact path_eval tW_ok ((xBa_cond ..).trans (by unfold xBa_c; simp only [hli, wd_inQ, hinc, hasB_wd, hb, hb2, decide_eq_true hf]; rfl)) (xBa_leaf ..)
          | false => exact path_eval tW_ok ((xBb_cond ..).trans (by unfold xBb_c; simp only [hli, wd_inQ, hinc, hasB_wd, hb, hb2, decide_eq_true hf]; rfl)) (xBb_leaf ..)
        · rw [if_neg hf]
          cases isE (wT m i) with
          | true => exact path_eval tW_ok ((xCa_cond ..).trans (by unfold xCa_c; simp only [hli, wd_inQ, hinc, hasB_wd, hb, hb2, decide_eq_false hf]; rfl)) (xCa_leaf ..)
          | false => exact path_eval tW_ok ((xCb_cond ..).trans (by unfold xCb_c; simp only [hli, wd_inQ, hinc, hasB_wd, hb, hb2, decide_eq_false hf]; rfl)) (xCb_leaf ..)
      | false =>
        have hs : (m.getLsbD i && !m.getLsbD (i + 1)) = true := by rw [hb, hb2]; rfl
        rw [st24_add hs, fT_bit hb, hb2, cond_false, Bool.not_false, Bool.and_true, cond_true]
        have hl := wT_len m i
        obtain ⟨c1, c2, c3, c4⟩ := app_c (n := (wT m i).length) (E := rowX (wT m i)) (by simp [rowX]) (by omega)
        have i1 : decide ((0 : Int) ≤ i) = true := decide_eq_true (by omega)
        have i2 : decide ((i : Int) < 1000) = true := decide_eq_true (by omega)
        unfold st24
        by_cases hf : fT m i < 0
        · have hw : wordB (fT m i) i = w1 i := by unfold wordB; rw [if_pos hf]
          have i3 : decide ((i : Int) > (i : Int)) = false := decide_eq_false (by omega)
          rw [hw]
          cases he : isE (wT m i) with
          | true =>
            rw [isE_nil he]
            exact path_eval tW_ok ((xDa_cond ..).trans (by unfold xDa_c; simp only [hli, wd_inQ, hinc, hasB_wd, hb, hb2, decide_eq_true hf, i1, i2, i3]; rfl)) (xDa_leaf ..)
          | false =>
            have h1 := xDb_leaf (wd m 0) (wd m 1) (wd m 2) (wd m 3) (fT m i) i (wT m i).length (rowX (wT m i))
            rw [rowX_add] at h1
            exact path_eval tW_ok ((xDb_cond ..).trans (by unfold xDb_c; simp only [hli, wd_inQ, hinc, hasB_wd, hb, hb2, decide_eq_true hf, i1, i2, i3, c1, c2, c3, c4]; rfl)) h1
        · have hw : wordB (fT m i) i = w2 (fT m i) i := by unfold wordB; rw [if_neg hf]
          have hr : 0 ≤ fT m i ∧ fT m i < i := by rcases hinv with h | h
                                                  · omega
                                                  · exact h
          have j1 : decide (0 ≤ fT m i) = true := decide_eq_true hr.1
          have j2 : decide (fT m i < 1000) = true := decide_eq_true (by omega)
          have j3 : decide ((i : Int) > fT m i) = true := decide_eq_true (by omega)
          have s1 := w1_size i
          have s2 := w1_size (fT m i)
          have hmax : IntKind.max .i64 = 9223372036854775807 := by decide
          have j4 : decide ((((⟨#[45]⟩ : ByteArray).size + (w1 i).size : Nat) : Int) > IntKind.max .i64) = false := decide_eq_false (by
            rw [hmax]; show ¬ (((1 + (w1 i).size : Nat) : Int) > _); omega)
          have j5 : decide ((((w1 (fT m i)).size + ((⟨#[45]⟩ : ByteArray) ++ w1 i).size : Nat) : Int) > IntKind.max .i64) = false := decide_eq_false (by
            rw [hmax, ByteArray.size_append]; show ¬ ((((w1 (fT m i)).size + (1 + (w1 i).size) : Nat) : Int) > _); omega)
          rw [hw]
          cases he : isE (wT m i) with
          | true =>
            rw [isE_nil he]
            exact path_eval tW_ok ((xEa_cond ..).trans (by unfold xEa_c; simp only [hli, wd_inQ, hinc, hasB_wd, hb, hb2, decide_eq_false hf, i1, i2, j1, j2, j3, j4, j5]; rfl)) (xEa_leaf ..)
          | false =>
            have h1 := xEb_leaf (wd m 0) (wd m 1) (wd m 2) (wd m 3) (fT m i) i (wT m i).length (rowX (wT m i))
            rw [rowX_add] at h1
            exact path_eval tW_ok ((xEb_cond ..).trans (by unfold xEb_c; simp only [hli, wd_inQ, hinc, hasB_wd, hb, hb2, decide_eq_false hf, i1, i2, j1, j2, j3, j4, j5, c1, c2, c3, c4]; rfl)) h1
  · have hli : decide ((i : Int) < 256) = false := decide_eq_false (by omega)
    have hb1 : Nat.blt i 256 = false := by
      cases h : Nat.blt i 256 with
      | false => rfl
      | true => exact absurd (Nat.le_of_ble_eq_true h) (by omega)
    rw [if_neg hlt]
    simp only
    unfold sel24 st24
    rw [hb1, Bool.false_and, cond_false]
    cases isE (wT m i) with
    | true => exact path_eval tW_ok ((xFa_cond ..).trans (by unfold xFa_c; rw [hli]; rfl)) (xFa_leaf ..)
    | false => exact path_eval tW_ok ((xFb_cond ..).trans (by unfold xFb_c; rw [hli]; rfl)) (xFb_leaf ..)
end
end Go.Proofs.YtmpokdnpkjcnbaaDoor

/- Text, told. -/
namespace Go.Proofs.YtmpokdnpkjcnbaaDoor
open Go.Am
noncomputable section
theorem get24 (m : B256) (i : Nat) : (st24 m i).heap.get 4 = some (.loop (loop24 tmL24)) := by
  unfold st24
  cases isE (wT m i) <;> simp [sN24, sE24, stS, hpS, hp24, Tr.get_put]
theorem next24 (m : B256) (i : Nat) : 5 ≤ (st24 m i).next := by
  unfold st24
  cases isE (wT m i)
  · show 5 ≤ 6; omega
  · show 5 ≤ 5; omega
theorem it24 [Z : Zone] [T : Tab] {B : Nat} {m : B256} :
    AWp cfW ⟨0, B⟩ cz b52 (frame0 52 (ntOf 52) #[.func (.yield 4) #[] #[], pt' 3]) ((sA24 (wd m 0) (wd m 1) (wd m 2) (wd m 3)).new (.loop (loop24 frA24.tm)))
      fun ex fr1 s1 => Grow cz (sA24 (wd m 0) (wd m 1) (wd m 2) (wd m 3)) s1 ∧ (ex = .normal ∨ ex = .ret) ∧ (∃ v, resultsV cfW cz fr1 s1 [] = some v) ∧ ∃ frX sX lX ee, SnP (4 + 1) ⟨0, B⟩ 0 0 cz frX sX fr1 s1 ∧ sX.heap.get 4 = some (.loop lX) ∧ exitOf lX.pending = some ee ∧ (lX.state != .busy) = true ∧
        (ee = .normal ∧ unl 4 sX = unl 4 (st24 m 256)) := by
  rw [b52_eq]
  have hgn : Grow cz (sA24 (wd m 0) (wd m 1) (wd m 2) (wd m 3)) ((sA24 (wd m 0) (wd m 1) (wd m 2) (wd m 3)).new (.loop (loop24 frA24.tm))) := Grow.new _ _ _
  refine AWp.nestP (n := 60) (lim := 60) (m := 5) (ps := [cL b52]) (rest := .block 0 (.loop k52)) (sel := selX none) (frj := fr52m 4 3 0) (sj := st24 m 0) goodW (of_treeM tW_ok (i52x ..)) trivial ⟨by show 5 ≤ 5; omega, fun j hj => by
    match j, hj with
    | 0, _ => rfl
    | 1, _ => rfl
    | 2, _ => rfl
    | 3, _ => rfl
    | 4, _ => rfl⟩ (Nat.zero_le _) fun fr1 s1 hS1 hG1 => ?_
  refine AWp.block ?_
  refine AWp.countPI (n := 60) (lim := 60) (m := 5) (N := 256) (head := fun i => fr52m 4 3 i) (sh := fun i => st24 m i) (sel := sel24 m)
    (stop := stop24 m) goodW rfl (fun _ => Nat.zero_le _) (fun i => next24 m i) (fun i hi hno => round24 m i hi) (fun i hi => ?_) (sel24_pin m)
    ⟨256, Nat.le_refl _, by simp [stop24]⟩ (fun i r hr => ?_) (fun i r hi hno hr fr' s' hS hG => ?_) hS1 (hgn.trans hG1)
  · unfold stop24
    by_cases hlt : i < 256
    · rw [if_pos hlt]; exact plain24 m (i + 1) _ _
    · rw [if_neg hlt]; exact plain24 m i _ _
  · unfold stop24 at hr
    split at hr
    · cases hr
    · cases hr; intro e; cases e
  · unfold stop24 at hr
    by_cases hlt : i < 256
    · rw [if_pos hlt] at hr; cases hr
    · rw [if_neg hlt] at hr
      cases hr
      have e : i = 256 := by omega
      subst e
      exact ⟨hG, .inl rfl, ⟨_, rfl⟩, _, _, _, .normal, hS, get24 m 256, rfl, rfl, rfl, rfl⟩
theorem i52_fnW : cfW.fns 52 = some { body := b52, nt := ntOf 52, results := [], pure := false } := by kernel_rfl
theorem i24_fnW : cfW.fns 24 = some { body := b24, nt := ntOf 24, results := [.tmp 2], pure := false } := by kernel_rfl
theorem ev24 : frA24.gev cfW (.tmp 8) = some (.func (.func 52) #[] #[pt' 3]) := by kernel_rfl
theorem nt24_le : 1 ≤ ntOf 24 := by decide +kernel
/-- a mask's text -/
def textB (m : B256) : ByteArray := bif isE (wT m 256) then ⟨⟨[]⟩⟩ else ⟨(joinV (rowX (wT m 256)) ⟨#[44]⟩).toArray⟩
theorem join_len (l : List ByteArray) (h : ∀ w ∈ l, w.size ≤ 7) : (joinV (rowX l) ⟨#[44]⟩).length ≤ 8 * l.length := by
  unfold joinV rowX
  induction l with
  | nil => exact Nat.le_refl _
  | cons x r ih =>
    have hx := h x (by simp)
    have hr := ih fun w hw => h w (by simp [hw])
    cases r with
    | nil =>
      show (Lib.join [x.data.toList] _).length ≤ 8
      rw [Lib.join_one]
      have : x.data.toList.length = x.size := rfl
      omega
    | cons y r =>
      have e : Lib.join ((((⟨(x :: y :: r).map Value.string⟩ : Array Value).toList.map strB).map (·.data.toList))) (⟨#[44]⟩ : ByteArray).data.toList = x.data.toList ++ ([44] ++ Lib.join ((((⟨(y :: r).map Value.string⟩ : Array Value).toList.map strB).map (·.data.toList))) (⟨#[44]⟩ : ByteArray).data.toList) := by
        show Lib.join (x.data.toList :: y.data.toList :: _) [44] = x.data.toList ++ ([44] ++ Lib.join (y.data.toList :: _) [44])
        rw [Lib.join_cons, Lib.join_cons]
        simp [Lib.joinTail]
      rw [e, List.length_append, List.length_append]
      have : x.data.toList.length = x.size := rfl
      simp only [List.length_cons, List.length_nil] at hr ⊢
      omega
theorem res24 (v : Value) : (frS 24 [(2, v)]).tm.get 2 = some v := by simp [frS, tmS, Tr.get_put]
theorem ret24 (v : Value) : ∀ p ∈ [((2 : Tmp), v)], (frS 24 [(2, v)]).tm.get p.1 = some p.2 := fun p hp => by
  simp only [List.mem_singleton] at hp; subst hp
  exact res24 v
theorem ok24 [Z : Zone] [T : Tab] {B : Nat} {m : B256} : AWp cfW ⟨0, B⟩ cz b24 (frame0 24 (ntOf 24) #[mkB m]) st0 (RetL [(2, .string (textB m))]) := by
  rw [b24_eq]
  refine AWp.seq (AWp.first goodW (of_treeM tW_ok (s24a ..)) trivial (Nat.zero_le _) fun fr1 s1 hS1 hG1 => ⟨hG1, ?_⟩)
  refine AWp.scope ?_
  refine AWp.seq (AWp.seen goodW rfl hS1 (Nat.zero_le _) (of_treeM tW_ok (s24b ..)) trivial fun fr2 s2 hS2 hG2 => ⟨hG2, ?_⟩)
  refine AWp.seq (AWp.seen goodW rfl hS2 (Nat.zero_le _) (of_treeM tW_ok (s24c ..)) trivial fun fr3 s3 hS3 hG3 => ⟨hG3, ?_⟩)
  refine AWp.seq (AWp.seen goodW rfl hS3 (Nat.zero_le _) (of_treeM tW_ok (s24l ..)) trivial fun fr4 s4 hS4 hG4 => ⟨hG4, ?_⟩)
  refine AWp.seq (AWp.seq (AWp.seen goodW rfl hS4 (Nat.zero_le _) (of_treeM tW_ok (s24d ..)) trivial fun fr5 s5 hS5 hG5 => ⟨hG5, ?_⟩))
  refine AWp.block (AWp.rangeSn goodW rfl hS5 rfl ev24 i52_fnW (by rw [nt52]; show 2 ≤ 17; omega) (Q := fun ee sY => ee = .normal ∧ sY = unl 4 (st24 m 256)) it24 fun ex sY fr6 s6 hQ hS6 hG6 => ?_)
  obtain ⟨rfl, rfl⟩ := hQ
  refine ⟨hG5.trans hG6, ?_⟩
  unfold st24 at hS6
  unfold textB
  cases he : isE (wT m 256) with
  | true =>
    rw [he] at hS6
    exact AWp.seen goodW rfl hS6 (Nat.zero_le _) (of_treeM tW_ok (s24e ..)) trivial fun fr7 s7 hS7 _ => ⟨.inr rfl, hS7.plains (pl1 rfl) (ret24 _)⟩
  | false =>
    rw [he] at hS6
    have h := s24f (wd m 0) (wd m 1) (wd m 2) (wd m 3) (fT m 256) (wT m 256).length (rowX (wT m 256))
    have hl := wT_len m 256
    have hj := join_len (wT m 256) (wT_sizes m 256)
    have hs : (rowX (wT m 256)).size = (wT m 256).length := by simp [rowX]
    have hst : (rowX (wT m 256)).toList.all isSt = true := by
      simp [rowX, isSt]
    have hne : (wT m 256).length ≠ 0 := by
      cases h : wT m 256 with
      | nil => rw [h] at he; cases he
      | cons x r => simp
    rw [hst, hs, decide_eq_true (Nat.le_refl _), decide_eq_true rfl, decide_eq_true hne, decide_eq_true (by omega), decide_eq_true (by omega)] at h
    exact AWp.seen goodW rfl hS6 (Nat.zero_le _) (of_treeM tW_ok h) trivial fun fr7 s7 hS7 _ => ⟨.inr rfl, hS7.plains (pl1 rfl) (ret24 _)⟩
def txtD : Array Value → DT (Option (Value × St))
  | ⟨[.agg ⟨[.int .u64 a, .int .u64 b, .int .u64 c, .int .u64 d]⟩]⟩ => .must (inQ a b c d) (.leaf (some (.string (textB (ofI a b c d)), st0))) (.leaf none)
  | _ => .leaf none
theorem tells24W [Z : Zone] [T : Tab] : Tells cfW 24 fun a => (txtD a).eval := by
  refine tells_one goodW rfl i24_fnW (t := 2) rfl fun args x hx => ?_
  unfold txtD at hx
  split at hx
  · rename_i a b c d
    rw [DT.eval_must] at hx
    cases h : inQ a b c d with
    | false => rw [h] at hx; cases hx
    | true =>
      obtain ⟨m, rfl, rfl, rfl, rfl⟩ := wd_rep h
      rw [h, cond_true, DT.eval_leaf, ofI_wd] at hx
      cases hx
      exact ⟨by simp [freeN], nt24_le, _, rfl, rfl, fun b => ok24⟩
  · cases hx
def TX : FuncId → Option (Array Value → DT (Option (Value × St)))
  | 24 => some txtD
  | _ => none
def cfX : Cfg := cfW.told TX
theorem goodX [Z : Zone] [T : Tab] (B : Base) : Go.Am.Good cfX B := tells_good (fun B => goodW B) (fun f F h => by
  unfold TX at h
  split at h
  · cases h; exact ⟨⟨_, i24_fnW⟩, tells24W⟩
  · cases h) B
def tXx : FuncId → Option HandT := treeT TX tW
theorem tXx_ok : ∀ f k hd, tXx f = some k → cfX.hand f = some hd → ∀ a c s, (k a c s).eval = hd a c s := treeT_ok tW_ok
end
end Go.Proofs.YtmpokdnpkjcnbaaDoor
