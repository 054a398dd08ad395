import Derived.Test.YtmpokdnpkjcnbaaDoorXFG
/- The document's Parse: paths. -/
namespace Go.Proofs.YtmpokdnpkjcnbaaDoor
open Go.Am
noncomputable section
def makeO (w : Array Value → Nat → Nat → Nat → Int) : Array Value → DT (Option (Value × St))
  | ⟨[.func (.method nm) X ⟨[.slice none o n]⟩]⟩ => .must (decide (nm = "") && intsOk X o n) (.leaf (some (mk (w X o n 0) (w X o n 1) (w X o n 2) (w X o n 3), st0))) (.leaf none)
  | _ => .leaf none
def wMk (X : Array Value) (o n k : Nat) : Int := wd (setI X o n) k
theorem makeO_eval (a : Array Value) : (makeO wMk a).eval = (makeD a).eval := by
  unfold makeO makeD
  split
  · rfl
  · rename_i hne
    split
    · exact (hne _ _ _ _ rfl).elim
    · rfl
def tHo (w : Array Value → Nat → Nat → Nat → Int) (t : Int → Int → Int → Int → ByteArray) (v e : ByteArray → Nat → Int) : FuncId → Option HandT
  | 25 => some (apartT (txtO t))
  | 37 => some (frzT (makeO w))
  | 43 => some (apartT (numD2 v e))
  | f => tXg f
theorem tHo_ok : ∀ f k hd, tHo wMk t0F numV numT f = some k → cfXg.hand f = some hd → ∀ a c s, (k a c s).eval = hd a c s := by
  intro f k hd h1 h2 a c s
  unfold tHo at h1
  split at h1
  · cases h1; exact tXg_ok 25 _ hd rfl h2 a c s
  · cases h1
    rw [← tXg_ok 37 _ hd rfl h2 a c s]
    exact frzT_eq makeO_eval a c s
  · cases h1; exact tXg_ok 43 _ hd rfl h2 a c s
  · exact tXg_ok _ _ _ h1 h2 a c s
def b23 : Code := bodyOf 23
def k23 : Code := cB (cB (cL (cN 3 b23)))
def x23 : Code := cB (cR k23)
def l23 : Code := cB (cB (cR (cL (cN 3 x23))))
theorem b23_eq : b23 = nest [cL b23, cL (cN 1 b23), cL (cN 2 b23)] (.seq (.block 0 (.loop k23)) (cN 4 b23)) := by kernel_rfl
theorem k23_eq : k23 = .seq (cL k23) (.block 1 x23) := by kernel_rfl
theorem x23_eq : x23 = .seq (cL x23) (.seq (cL (cN 1 x23)) (.seq (cL (cN 2 x23)) (.seq (.seq (cL (cL (cN 3 x23))) (.block 2 (.loop l23))) (cN 4 x23)))) := by kernel_rfl
def fP (L : List (Nat × Value)) : Fr := { fn := 23, nt := ntOf 23, tm := tmS L .nil, pt := Tr.nil.put 2 (2, 0), loc := Tr.nil.put 2 (mkC 0 0 0 0), round := none }
def fPe (a b c d x : Int) : Fr := { fn := 23, nt := ntOf 23, tm := tmS [(3, .int .i64 x)] .nil, pt := Tr.nil.put 2 (2, 0), loc := Tr.nil.put 2 (mkC a b c d), round := none }
def hP (s : ByteArray) (l : Value) (a : Int) : Fr := fP [(0, .string s), (4, l), (5, .int .i64 a)]
def hP2 (s : ByteArray) (l : Value) (a f u : Int) : Fr := fP [(0, .string s), (4, l), (5, .int .i64 a), (6, .int .i64 f), (7, .int .i64 u)]
def hP3 (s : ByteArray) (l : Value) (a f u z : Int) : Fr := fP [(0, .string s), (4, l), (5, .int .i64 a), (6, .int .i64 f), (7, .int .i64 u), (8, .int .i64 z)]
def hP4 (s : ByteArray) (l : Value) (a f u z c : Int) : Fr := fP [(0, .string s), (4, l), (5, .int .i64 a), (6, .int .i64 f), (7, .int .i64 u), (8, .int .i64 z), (9, .int .i64 c)]
def byE (s : ByteArray) (i : Int) : Bool := ((UInt8.toNat (Option.getD s[Int.toNat i]? 0) : Nat) : Int) == 45
theorem s23_k : (fun (w : Array Value → Nat → Nat → Nat → Int) (t : Int → Int → Int → Int → ByteArray) (v e : ByteArray → Nat → Int) (s : ByteArray) => (codeT cfXg (callT cfXg (tHo w t v e) 60) 60 cz (seqOf [cL b23, cL (cN 1 b23), cL (cN 2 b23)]) (frame0 23 (ntOf 23) #[.string s]) st0).evalM (gcObs 0 0 (selR [0, 2, 4, 5] none))) = fun (_ : Array Value → Nat → Nat → Nat → Int) (_ : Int → Int → Int → Int → ByteArray) (_ _ : ByteArray → Nat → Int) (s : ByteArray) => some (.normal, hP s nilS 0, st0) := by kernel_rfl
theorem s23 (w : Array Value → Nat → Nat → Nat → Int) (t : Int → Int → Int → Int → ByteArray) (v e : ByteArray → Nat → Int) (s : ByteArray) : (codeT cfXg (callT cfXg (tHo w t v e) 60) 60 cz (seqOf [cL b23, cL (cN 1 b23), cL (cN 2 b23)]) (frame0 23 (ntOf 23) #[.string s]) st0).evalM (gcObs 0 0 (selR [0, 2, 4, 5] none)) = some (.normal, hP s nilS 0, st0) := congrFun (congrFun (congrFun (congrFun (congrFun s23_k w) t) v) e) s
theorem pca_k : (fun (w : Array Value → Nat → Nat → Nat → Int) (t : Int → Int → Int → Int → ByteArray) (v e : ByteArray → Nat → Int) (s : ByteArray) (a : Int) => (codeT cfXg (callT cfXg (tHo w t v e) 60) 60 cz (cL k23) (hP s nilS a) st0).evalM (gcObs 0 0 (selR [0, 2, 4, 5] none))) = fun (_ : Array Value → Nat → Nat → Nat → Int) (_ : Int → Int → Int → Int → ByteArray) (_ _ : ByteArray → Nat → Int) (s : ByteArray) (a : Int) => bif decide (a < ((ByteArray.size s : Nat) : Int)) then some (.normal, hP s nilS a, st0) else some (.exit 0, hP s nilS a, st0) := by kernel_rfl
theorem pca (w : Array Value → Nat → Nat → Nat → Int) (t : Int → Int → Int → Int → ByteArray) (v e : ByteArray → Nat → Int) (s : ByteArray) (a : Int) : (codeT cfXg (callT cfXg (tHo w t v e) 60) 60 cz (cL k23) (hP s nilS a) st0).evalM (gcObs 0 0 (selR [0, 2, 4, 5] none)) = bif decide (a < ((ByteArray.size s : Nat) : Int)) then some (.normal, hP s nilS a, st0) else some (.exit 0, hP s nilS a, st0) := congrFun (congrFun (congrFun (congrFun (congrFun (congrFun pca_k w) t) v) e) s) a
theorem pcb_k : (fun (w : Array Value → Nat → Nat → Nat → Int) (t : Int → Int → Int → Int → ByteArray) (v e : ByteArray → Nat → Int) (s : ByteArray) (a : Int) (k : Nat) (E : Array Value) => (codeT cfXg (callT cfXg (tHo w t v e) 60) 60 cz (cL k23) (hP s (sl0 k) a) (sRow E)).evalM (gcObs 0 0 (selR [0, 2, 4, 5] (some 0)))) = fun (_ : Array Value → Nat → Nat → Nat → Int) (_ : Int → Int → Int → Int → ByteArray) (_ _ : ByteArray → Nat → Int) (s : ByteArray) (a : Int) (k : Nat) (E : Array Value) => bif decide (a < ((ByteArray.size s : Nat) : Int)) then some (.normal, hP s (sl0 k) a, (sRow E)) else some (.exit 0, hP s (sl0 k) a, (sRow E)) := by kernel_rfl
theorem pcb (w : Array Value → Nat → Nat → Nat → Int) (t : Int → Int → Int → Int → ByteArray) (v e : ByteArray → Nat → Int) (s : ByteArray) (a : Int) (k : Nat) (E : Array Value) : (codeT cfXg (callT cfXg (tHo w t v e) 60) 60 cz (cL k23) (hP s (sl0 k) a) (sRow E)).evalM (gcObs 0 0 (selR [0, 2, 4, 5] (some 0))) = bif decide (a < ((ByteArray.size s : Nat) : Int)) then some (.normal, hP s (sl0 k) a, (sRow E)) else some (.exit 0, hP s (sl0 k) a, (sRow E)) := congrFun (congrFun (congrFun (congrFun (congrFun (congrFun (congrFun (congrFun pcb_k w) t) v) e) s) a) k) E
def pna_bits : List Bool := [true]
def pna_c (_ : Array Value → Nat → Nat → Nat → Int) (_ : Int → Int → Int → Int → ByteArray) (_ _ : ByteArray → Nat → Int) (s : ByteArray) (a : Int) : Bool :=
  (decide (0 ≤ a) && (decide (a ≤ ((ByteArray.size s : Nat) : Int)) && decide (ByteArray.size s ≤ 1000000)))
   && true
theorem pna_cond_k : (fun (w : Array Value → Nat → Nat → Nat → Int) (t : Int → Int → Int → Int → ByteArray) (v e : ByteArray → Nat → Int) (s : ByteArray) (a : Int) => (followT pna_bits (codeT cfXg (callT cfXg (tHo w t v e) 60) 60 cz (cL x23) (hP s nilS a) st0)).1) = fun (w : Array Value → Nat → Nat → Nat → Int) (t : Int → Int → Int → Int → ByteArray) (v e : ByteArray → Nat → Int) (s : ByteArray) (a : Int) => pna_c w t v e s a := by kernel_rfl
theorem pna_cond (w : Array Value → Nat → Nat → Nat → Int) (t : Int → Int → Int → Int → ByteArray) (v e : ByteArray → Nat → Int) (s : ByteArray) (a : Int) : (followT pna_bits (codeT cfXg (callT cfXg (tHo w t v e) 60) 60 cz (cL x23) (hP s nilS a) st0)).1 = pna_c w t v e s a := congrFun (congrFun (congrFun (congrFun (congrFun (congrFun pna_cond_k w) t) v) e) s) a
theorem pna_leaf_k : (fun (w : Array Value → Nat → Nat → Nat → Int) (t : Int → Int → Int → Int → ByteArray) (v e : ByteArray → Nat → Int) (s : ByteArray) (a : Int) => pathObs (gcObs 0 0 (selR [0, 2, 4, 5, 6, 7] none)) pna_bits (codeT cfXg (callT cfXg (tHo w t v e) 60) 60 cz (cL x23) (hP s nilS a) st0)) = fun (_ : Array Value → Nat → Nat → Nat → Int) (_ : Int → Int → Int → Int → ByteArray) (v e : ByteArray → Nat → Int) (s : ByteArray) (a : Int) => some (.normal, hP2 s nilS a (v s a.toNat) (e s a.toNat), st0) := by kernel_rfl
theorem pna_leaf (w : Array Value → Nat → Nat → Nat → Int) (t : Int → Int → Int → Int → ByteArray) (v e : ByteArray → Nat → Int) (s : ByteArray) (a : Int) : pathObs (gcObs 0 0 (selR [0, 2, 4, 5, 6, 7] none)) pna_bits (codeT cfXg (callT cfXg (tHo w t v e) 60) 60 cz (cL x23) (hP s nilS a) st0) = some (.normal, hP2 s nilS a (v s a.toNat) (e s a.toNat), st0) := congrFun (congrFun (congrFun (congrFun (congrFun (congrFun pna_leaf_k w) t) v) e) s) a
def pnb_bits : List Bool := [true]
def pnb_c (_ : Array Value → Nat → Nat → Nat → Int) (_ : Int → Int → Int → Int → ByteArray) (_ _ : ByteArray → Nat → Int) (s : ByteArray) (a : Int) (_ : Nat) (_ : Array Value) : Bool :=
  (decide (0 ≤ a) && (decide (a ≤ ((ByteArray.size s : Nat) : Int)) && decide (ByteArray.size s ≤ 1000000)))
   && true
theorem pnb_cond_k : (fun (w : Array Value → Nat → Nat → Nat → Int) (t : Int → Int → Int → Int → ByteArray) (v e : ByteArray → Nat → Int) (s : ByteArray) (a : Int) (k : Nat) (E : Array Value) => (followT pnb_bits (codeT cfXg (callT cfXg (tHo w t v e) 60) 60 cz (cL x23) (hP s (sl0 k) a) (sRow E))).1) = fun (w : Array Value → Nat → Nat → Nat → Int) (t : Int → Int → Int → Int → ByteArray) (v e : ByteArray → Nat → Int) (s : ByteArray) (a : Int) (k : Nat) (E : Array Value) => pnb_c w t v e s a k E := by kernel_rfl
theorem pnb_cond (w : Array Value → Nat → Nat → Nat → Int) (t : Int → Int → Int → Int → ByteArray) (v e : ByteArray → Nat → Int) (s : ByteArray) (a : Int) (k : Nat) (E : Array Value) : (followT pnb_bits (codeT cfXg (callT cfXg (tHo w t v e) 60) 60 cz (cL x23) (hP s (sl0 k) a) (sRow E))).1 = pnb_c w t v e s a k E := congrFun (congrFun (congrFun (congrFun (congrFun (congrFun (congrFun (congrFun pnb_cond_k w) t) v) e) s) a) k) E
theorem pnb_leaf_k : (fun (w : Array Value → Nat → Nat → Nat → Int) (t : Int → Int → Int → Int → ByteArray) (v e : ByteArray → Nat → Int) (s : ByteArray) (a : Int) (k : Nat) (E : Array Value) => pathObs (gcObs 0 0 (selR [0, 2, 4, 5, 6, 7] (some 0))) pnb_bits (codeT cfXg (callT cfXg (tHo w t v e) 60) 60 cz (cL x23) (hP s (sl0 k) a) (sRow E))) = fun (_ : Array Value → Nat → Nat → Nat → Int) (_ : Int → Int → Int → Int → ByteArray) (v e : ByteArray → Nat → Int) (s : ByteArray) (a : Int) (k : Nat) (E : Array Value) => some (.normal, hP2 s (sl0 k) a (v s a.toNat) (e s a.toNat), (sRow E)) := by kernel_rfl
theorem pnb_leaf (w : Array Value → Nat → Nat → Nat → Int) (t : Int → Int → Int → Int → ByteArray) (v e : ByteArray → Nat → Int) (s : ByteArray) (a : Int) (k : Nat) (E : Array Value) : pathObs (gcObs 0 0 (selR [0, 2, 4, 5, 6, 7] (some 0))) pnb_bits (codeT cfXg (callT cfXg (tHo w t v e) 60) 60 cz (cL x23) (hP s (sl0 k) a) (sRow E)) = some (.normal, hP2 s (sl0 k) a (v s a.toNat) (e s a.toNat), (sRow E)) := congrFun (congrFun (congrFun (congrFun (congrFun (congrFun (congrFun (congrFun pnb_leaf_k w) t) v) e) s) a) k) E
theorem pla_k : (fun (w : Array Value → Nat → Nat → Nat → Int) (t : Int → Int → Int → Int → ByteArray) (v e : ByteArray → Nat → Int) (s : ByteArray) (a f u : Int) => (codeT cfXg (callT cfXg (tHo w t v e) 60) 60 cz (cL (cN 1 x23)) (hP2 s nilS a f u) st0).evalM (gcObs 0 0 (selR [0, 2, 4, 5, 6, 7, 8] none))) = fun (_ : Array Value → Nat → Nat → Nat → Int) (_ : Int → Int → Int → Int → ByteArray) (_ _ : ByteArray → Nat → Int) (s : ByteArray) (a f u : Int) => some (.normal, hP3 s nilS a f u f, st0) := by kernel_rfl
theorem pla (w : Array Value → Nat → Nat → Nat → Int) (t : Int → Int → Int → Int → ByteArray) (v e : ByteArray → Nat → Int) (s : ByteArray) (a f u : Int) : (codeT cfXg (callT cfXg (tHo w t v e) 60) 60 cz (cL (cN 1 x23)) (hP2 s nilS a f u) st0).evalM (gcObs 0 0 (selR [0, 2, 4, 5, 6, 7, 8] none)) = some (.normal, hP3 s nilS a f u f, st0) := congrFun (congrFun (congrFun (congrFun (congrFun (congrFun (congrFun (congrFun pla_k w) t) v) e) s) a) f) u
theorem plb_k : (fun (w : Array Value → Nat → Nat → Nat → Int) (t : Int → Int → Int → Int → ByteArray) (v e : ByteArray → Nat → Int) (s : ByteArray) (a f u : Int) (k : Nat) (E : Array Value) => (codeT cfXg (callT cfXg (tHo w t v e) 60) 60 cz (cL (cN 1 x23)) (hP2 s (sl0 k) a f u) (sRow E)).evalM (gcObs 0 0 (selR [0, 2, 4, 5, 6, 7, 8] (some 0)))) = fun (_ : Array Value → Nat → Nat → Nat → Int) (_ : Int → Int → Int → Int → ByteArray) (_ _ : ByteArray → Nat → Int) (s : ByteArray) (a f u : Int) (k : Nat) (E : Array Value) => some (.normal, hP3 s (sl0 k) a f u f, (sRow E)) := by kernel_rfl
theorem plb (w : Array Value → Nat → Nat → Nat → Int) (t : Int → Int → Int → Int → ByteArray) (v e : ByteArray → Nat → Int) (s : ByteArray) (a f u : Int) (k : Nat) (E : Array Value) : (codeT cfXg (callT cfXg (tHo w t v e) 60) 60 cz (cL (cN 1 x23)) (hP2 s (sl0 k) a f u) (sRow E)).evalM (gcObs 0 0 (selR [0, 2, 4, 5, 6, 7, 8] (some 0))) = some (.normal, hP3 s (sl0 k) a f u f, (sRow E)) := congrFun (congrFun (congrFun (congrFun (congrFun (congrFun (congrFun (congrFun (congrFun (congrFun plb_k w) t) v) e) s) a) f) u) k) E
def pd0a_bits : List Bool := [true, false, false, false, false, false, false, false, false, false, false]
def pd0a_c (_ : Array Value → Nat → Nat → Nat → Int) (_ : Int → Int → Int → Int → ByteArray) (_ _ : ByteArray → Nat → Int) (s : ByteArray) (_ _ u _ : Int) : Bool :=
  !(decide (u < ((ByteArray.size s : Nat) : Int)))
   && true
theorem pd0a_cond_k : (fun (w : Array Value → Nat → Nat → Nat → Int) (t : Int → Int → Int → Int → ByteArray) (v e : ByteArray → Nat → Int) (s : ByteArray) (a f u z : Int) => (followT pd0a_bits (codeT cfXg (callT cfXg (tHo w t v e) 60) 60 cz (cL (cN 2 x23)) (hP3 s nilS a f u z) st0)).1) = fun (w : Array Value → Nat → Nat → Nat → Int) (t : Int → Int → Int → Int → ByteArray) (v e : ByteArray → Nat → Int) (s : ByteArray) (a f u z : Int) => pd0a_c w t v e s a f u z := by kernel_rfl
theorem pd0a_cond (w : Array Value → Nat → Nat → Nat → Int) (t : Int → Int → Int → Int → ByteArray) (v e : ByteArray → Nat → Int) (s : ByteArray) (a f u z : Int) : (followT pd0a_bits (codeT cfXg (callT cfXg (tHo w t v e) 60) 60 cz (cL (cN 2 x23)) (hP3 s nilS a f u z) st0)).1 = pd0a_c w t v e s a f u z := congrFun (congrFun (congrFun (congrFun (congrFun (congrFun (congrFun (congrFun (congrFun pd0a_cond_k w) t) v) e) s) a) f) u) z
theorem pd0a_leaf_k : (fun (w : Array Value → Nat → Nat → Nat → Int) (t : Int → Int → Int → Int → ByteArray) (v e : ByteArray → Nat → Int) (s : ByteArray) (a f u z : Int) => pathObs (gcObs 0 0 (selR [0, 2, 4, 5, 6, 7, 8] none)) pd0a_bits (codeT cfXg (callT cfXg (tHo w t v e) 60) 60 cz (cL (cN 2 x23)) (hP3 s nilS a f u z) st0)) = fun (_ : Array Value → Nat → Nat → Nat → Int) (_ : Int → Int → Int → Int → ByteArray) (_ _ : ByteArray → Nat → Int) (s : ByteArray) (a f u z : Int) => some (.normal, hP3 s nilS a f u z, st0) := by kernel_rfl
theorem pd0a_leaf (w : Array Value → Nat → Nat → Nat → Int) (t : Int → Int → Int → Int → ByteArray) (v e : ByteArray → Nat → Int) (s : ByteArray) (a f u z : Int) : pathObs (gcObs 0 0 (selR [0, 2, 4, 5, 6, 7, 8] none)) pd0a_bits (codeT cfXg (callT cfXg (tHo w t v e) 60) 60 cz (cL (cN 2 x23)) (hP3 s nilS a f u z) st0) = some (.normal, hP3 s nilS a f u z, st0) := congrFun (congrFun (congrFun (congrFun (congrFun (congrFun (congrFun (congrFun (congrFun pd0a_leaf_k w) t) v) e) s) a) f) u) z
def pd0b_bits : List Bool := [true, false, false, false, false, false, false, false, false, false, false]
def pd0b_c (_ : Array Value → Nat → Nat → Nat → Int) (_ : Int → Int → Int → Int → ByteArray) (_ _ : ByteArray → Nat → Int) (s : ByteArray) (_ _ u _ : Int) (_ : Nat) (_ : Array Value) : Bool :=
  !(decide (u < ((ByteArray.size s : Nat) : Int)))
   && true
theorem pd0b_cond_k : (fun (w : Array Value → Nat → Nat → Nat → Int) (t : Int → Int → Int → Int → ByteArray) (v e : ByteArray → Nat → Int) (s : ByteArray) (a f u z : Int) (k : Nat) (E : Array Value) => (followT pd0b_bits (codeT cfXg (callT cfXg (tHo w t v e) 60) 60 cz (cL (cN 2 x23)) (hP3 s (sl0 k) a f u z) (sRow E))).1) = fun (w : Array Value → Nat → Nat → Nat → Int) (t : Int → Int → Int → Int → ByteArray) (v e : ByteArray → Nat → Int) (s : ByteArray) (a f u z : Int) (k : Nat) (E : Array Value) => pd0b_c w t v e s a f u z k E := by kernel_rfl
theorem pd0b_cond (w : Array Value → Nat → Nat → Nat → Int) (t : Int → Int → Int → Int → ByteArray) (v e : ByteArray → Nat → Int) (s : ByteArray) (a f u z : Int) (k : Nat) (E : Array Value) : (followT pd0b_bits (codeT cfXg (callT cfXg (tHo w t v e) 60) 60 cz (cL (cN 2 x23)) (hP3 s (sl0 k) a f u z) (sRow E))).1 = pd0b_c w t v e s a f u z k E := congrFun (congrFun (congrFun (congrFun (congrFun (congrFun (congrFun (congrFun (congrFun (congrFun (congrFun pd0b_cond_k w) t) v) e) s) a) f) u) z) k) E
theorem pd0b_leaf_k : (fun (w : Array Value → Nat → Nat → Nat → Int) (t : Int → Int → Int → Int → ByteArray) (v e : ByteArray → Nat → Int) (s : ByteArray) (a f u z : Int) (k : Nat) (E : Array Value) => pathObs (gcObs 0 0 (selR [0, 2, 4, 5, 6, 7, 8] (some 0))) pd0b_bits (codeT cfXg (callT cfXg (tHo w t v e) 60) 60 cz (cL (cN 2 x23)) (hP3 s (sl0 k) a f u z) (sRow E))) = fun (_ : Array Value → Nat → Nat → Nat → Int) (_ : Int → Int → Int → Int → ByteArray) (_ _ : ByteArray → Nat → Int) (s : ByteArray) (a f u z : Int) (k : Nat) (E : Array Value) => some (.normal, hP3 s (sl0 k) a f u z, (sRow E)) := by kernel_rfl
theorem pd0b_leaf (w : Array Value → Nat → Nat → Nat → Int) (t : Int → Int → Int → Int → ByteArray) (v e : ByteArray → Nat → Int) (s : ByteArray) (a f u z : Int) (k : Nat) (E : Array Value) : pathObs (gcObs 0 0 (selR [0, 2, 4, 5, 6, 7, 8] (some 0))) pd0b_bits (codeT cfXg (callT cfXg (tHo w t v e) 60) 60 cz (cL (cN 2 x23)) (hP3 s (sl0 k) a f u z) (sRow E)) = some (.normal, hP3 s (sl0 k) a f u z, (sRow E)) := congrFun (congrFun (congrFun (congrFun (congrFun (congrFun (congrFun (congrFun (congrFun (congrFun (congrFun pd0b_leaf_k w) t) v) e) s) a) f) u) z) k) E
def pd1a_bits : List Bool := [true, true, true, true, true, true, true, true, true, true, true, true, false]
def pd1a_c (_ : Array Value → Nat → Nat → Nat → Int) (_ : Int → Int → Int → Int → ByteArray) (_ _ : ByteArray → Nat → Int) (s : ByteArray) (_ _ u _ : Int) : Bool :=
  (decide (u < ((ByteArray.size s : Nat) : Int)))
   && ((decide (0 ≤ u))
   && ((Option.isSome s[Int.toNat u]?)
   && (!(byE s u)
   && true)))
theorem pd1a_cond_k : (fun (w : Array Value → Nat → Nat → Nat → Int) (t : Int → Int → Int → Int → ByteArray) (v e : ByteArray → Nat → Int) (s : ByteArray) (a f u z : Int) => (followT pd1a_bits (codeT cfXg (callT cfXg (tHo w t v e) 60) 60 cz (cL (cN 2 x23)) (hP3 s nilS a f u z) st0)).1) = fun (w : Array Value → Nat → Nat → Nat → Int) (t : Int → Int → Int → Int → ByteArray) (v e : ByteArray → Nat → Int) (s : ByteArray) (a f u z : Int) => pd1a_c w t v e s a f u z := by kernel_rfl
theorem pd1a_cond (w : Array Value → Nat → Nat → Nat → Int) (t : Int → Int → Int → Int → ByteArray) (v e : ByteArray → Nat → Int) (s : ByteArray) (a f u z : Int) : (followT pd1a_bits (codeT cfXg (callT cfXg (tHo w t v e) 60) 60 cz (cL (cN 2 x23)) (hP3 s nilS a f u z) st0)).1 = pd1a_c w t v e s a f u z := congrFun (congrFun (congrFun (congrFun (congrFun (congrFun (congrFun (congrFun (congrFun pd1a_cond_k w) t) v) e) s) a) f) u) z
theorem pd1a_leaf_k : (fun (w : Array Value → Nat → Nat → Nat → Int) (t : Int → Int → Int → Int → ByteArray) (v e : ByteArray → Nat → Int) (s : ByteArray) (a f u z : Int) => pathObs (gcObs 0 0 (selR [0, 2, 4, 5, 6, 7, 8] none)) pd1a_bits (codeT cfXg (callT cfXg (tHo w t v e) 60) 60 cz (cL (cN 2 x23)) (hP3 s nilS a f u z) st0)) = fun (_ : Array Value → Nat → Nat → Nat → Int) (_ : Int → Int → Int → Int → ByteArray) (_ _ : ByteArray → Nat → Int) (s : ByteArray) (a f u z : Int) => some (.normal, hP3 s nilS a f u z, st0) := by kernel_rfl
theorem pd1a_leaf (w : Array Value → Nat → Nat → Nat → Int) (t : Int → Int → Int → Int → ByteArray) (v e : ByteArray → Nat → Int) (s : ByteArray) (a f u z : Int) : pathObs (gcObs 0 0 (selR [0, 2, 4, 5, 6, 7, 8] none)) pd1a_bits (codeT cfXg (callT cfXg (tHo w t v e) 60) 60 cz (cL (cN 2 x23)) (hP3 s nilS a f u z) st0) = some (.normal, hP3 s nilS a f u z, st0) := congrFun (congrFun (congrFun (congrFun (congrFun (congrFun (congrFun (congrFun (congrFun pd1a_leaf_k w) t) v) e) s) a) f) u) z
def pd1b_bits : List Bool := [true, true, true, true, true, true, true, true, true, true, true, true, false]
def pd1b_c (_ : Array Value → Nat → Nat → Nat → Int) (_ : Int → Int → Int → Int → ByteArray) (_ _ : ByteArray → Nat → Int) (s : ByteArray) (_ _ u _ : Int) (_ : Nat) (_ : Array Value) : Bool :=
  (decide (u < ((ByteArray.size s : Nat) : Int)))
   && ((decide (0 ≤ u))
   && ((Option.isSome s[Int.toNat u]?)
   && (!(byE s u)
   && true)))
theorem pd1b_cond_k : (fun (w : Array Value → Nat → Nat → Nat → Int) (t : Int → Int → Int → Int → ByteArray) (v e : ByteArray → Nat → Int) (s : ByteArray) (a f u z : Int) (k : Nat) (E : Array Value) => (followT pd1b_bits (codeT cfXg (callT cfXg (tHo w t v e) 60) 60 cz (cL (cN 2 x23)) (hP3 s (sl0 k) a f u z) (sRow E))).1) = fun (w : Array Value → Nat → Nat → Nat → Int) (t : Int → Int → Int → Int → ByteArray) (v e : ByteArray → Nat → Int) (s : ByteArray) (a f u z : Int) (k : Nat) (E : Array Value) => pd1b_c w t v e s a f u z k E := by kernel_rfl
theorem pd1b_cond (w : Array Value → Nat → Nat → Nat → Int) (t : Int → Int → Int → Int → ByteArray) (v e : ByteArray → Nat → Int) (s : ByteArray) (a f u z : Int) (k : Nat) (E : Array Value) : (followT pd1b_bits (codeT cfXg (callT cfXg (tHo w t v e) 60) 60 cz (cL (cN 2 x23)) (hP3 s (sl0 k) a f u z) (sRow E))).1 = pd1b_c w t v e s a f u z k E := congrFun (congrFun (congrFun (congrFun (congrFun (congrFun (congrFun (congrFun (congrFun (congrFun (congrFun pd1b_cond_k w) t) v) e) s) a) f) u) z) k) E
theorem pd1b_leaf_k : (fun (w : Array Value → Nat → Nat → Nat → Int) (t : Int → Int → Int → Int → ByteArray) (v e : ByteArray → Nat → Int) (s : ByteArray) (a f u z : Int) (k : Nat) (E : Array Value) => pathObs (gcObs 0 0 (selR [0, 2, 4, 5, 6, 7, 8] (some 0))) pd1b_bits (codeT cfXg (callT cfXg (tHo w t v e) 60) 60 cz (cL (cN 2 x23)) (hP3 s (sl0 k) a f u z) (sRow E))) = fun (_ : Array Value → Nat → Nat → Nat → Int) (_ : Int → Int → Int → Int → ByteArray) (_ _ : ByteArray → Nat → Int) (s : ByteArray) (a f u z : Int) (k : Nat) (E : Array Value) => some (.normal, hP3 s (sl0 k) a f u z, (sRow E)) := by kernel_rfl
theorem pd1b_leaf (w : Array Value → Nat → Nat → Nat → Int) (t : Int → Int → Int → Int → ByteArray) (v e : ByteArray → Nat → Int) (s : ByteArray) (a f u z : Int) (k : Nat) (E : Array Value) : pathObs (gcObs 0 0 (selR [0, 2, 4, 5, 6, 7, 8] (some 0))) pd1b_bits (codeT cfXg (callT cfXg (tHo w t v e) 60) 60 cz (cL (cN 2 x23)) (hP3 s (sl0 k) a f u z) (sRow E)) = some (.normal, hP3 s (sl0 k) a f u z, (sRow E)) := congrFun (congrFun (congrFun (congrFun (congrFun (congrFun (congrFun (congrFun (congrFun (congrFun (congrFun pd1b_leaf_k w) t) v) e) s) a) f) u) z) k) E
def pd2a_bits : List Bool := [true, true, true, true, true, true, true, true, true, true, true, true, true, true]
def pd2a_c (_ : Array Value → Nat → Nat → Nat → Int) (_ : Int → Int → Int → Int → ByteArray) (_ _ : ByteArray → Nat → Int) (s : ByteArray) (_ _ u _ : Int) : Bool :=
  (decide (u < ((ByteArray.size s : Nat) : Int)))
   && ((decide (0 ≤ u))
   && ((Option.isSome s[Int.toNat u]?)
   && ((byE s u)
   && ((decide (0 ≤ IntKind.wrap .i64 (u + 1)) && (decide (IntKind.wrap .i64 (u + 1) ≤ ((ByteArray.size s : Nat) : Int)) && decide (ByteArray.size s ≤ 1000000)))
   && true))))
theorem pd2a_cond_k : (fun (w : Array Value → Nat → Nat → Nat → Int) (t : Int → Int → Int → Int → ByteArray) (v e : ByteArray → Nat → Int) (s : ByteArray) (a f u z : Int) => (followT pd2a_bits (codeT cfXg (callT cfXg (tHo w t v e) 60) 60 cz (cL (cN 2 x23)) (hP3 s nilS a f u z) st0)).1) = fun (w : Array Value → Nat → Nat → Nat → Int) (t : Int → Int → Int → Int → ByteArray) (v e : ByteArray → Nat → Int) (s : ByteArray) (a f u z : Int) => pd2a_c w t v e s a f u z := by kernel_rfl
theorem pd2a_cond (w : Array Value → Nat → Nat → Nat → Int) (t : Int → Int → Int → Int → ByteArray) (v e : ByteArray → Nat → Int) (s : ByteArray) (a f u z : Int) : (followT pd2a_bits (codeT cfXg (callT cfXg (tHo w t v e) 60) 60 cz (cL (cN 2 x23)) (hP3 s nilS a f u z) st0)).1 = pd2a_c w t v e s a f u z := congrFun (congrFun (congrFun (congrFun (congrFun (congrFun (congrFun (congrFun (congrFun pd2a_cond_k w) t) v) e) s) a) f) u) z
theorem pd2a_leaf_k : (fun (w : Array Value → Nat → Nat → Nat → Int) (t : Int → Int → Int → Int → ByteArray) (v e : ByteArray → Nat → Int) (s : ByteArray) (a f u z : Int) => pathObs (gcObs 0 0 (selR [0, 2, 4, 5, 6, 7, 8] none)) pd2a_bits (codeT cfXg (callT cfXg (tHo w t v e) 60) 60 cz (cL (cN 2 x23)) (hP3 s nilS a f u z) st0)) = fun (_ : Array Value → Nat → Nat → Nat → Int) (_ : Int → Int → Int → Int → ByteArray) (v e : ByteArray → Nat → Int) (s : ByteArray) (a f u _ : Int) => some (.normal, hP3 s nilS a f (e s (inc u).toNat) (v s (inc u).toNat), st0) := by kernel_rfl
theorem pd2a_leaf (w : Array Value → Nat → Nat → Nat → Int) (t : Int → Int → Int → Int → ByteArray) (v e : ByteArray → Nat → Int) (s : ByteArray) (a f u z : Int) : pathObs (gcObs 0 0 (selR [0, 2, 4, 5, 6, 7, 8] none)) pd2a_bits (codeT cfXg (callT cfXg (tHo w t v e) 60) 60 cz (cL (cN 2 x23)) (hP3 s nilS a f u z) st0) = some (.normal, hP3 s nilS a f (e s (inc u).toNat) (v s (inc u).toNat), st0) := congrFun (congrFun (congrFun (congrFun (congrFun (congrFun (congrFun (congrFun (congrFun pd2a_leaf_k w) t) v) e) s) a) f) u) z
def pd2b_bits : List Bool := [true, true, true, true, true, true, true, true, true, true, true, true, true, true]
def pd2b_c (_ : Array Value → Nat → Nat → Nat → Int) (_ : Int → Int → Int → Int → ByteArray) (_ _ : ByteArray → Nat → Int) (s : ByteArray) (_ _ u _ : Int) (_ : Nat) (_ : Array Value) : Bool :=
  (decide (u < ((ByteArray.size s : Nat) : Int)))
   && ((decide (0 ≤ u))
   && ((Option.isSome s[Int.toNat u]?)
   && ((byE s u)
   && ((decide (0 ≤ IntKind.wrap .i64 (u + 1)) && (decide (IntKind.wrap .i64 (u + 1) ≤ ((ByteArray.size s : Nat) : Int)) && decide (ByteArray.size s ≤ 1000000)))
   && true))))
theorem pd2b_cond_k : (fun (w : Array Value → Nat → Nat → Nat → Int) (t : Int → Int → Int → Int → ByteArray) (v e : ByteArray → Nat → Int) (s : ByteArray) (a f u z : Int) (k : Nat) (E : Array Value) => (followT pd2b_bits (codeT cfXg (callT cfXg (tHo w t v e) 60) 60 cz (cL (cN 2 x23)) (hP3 s (sl0 k) a f u z) (sRow E))).1) = fun (w : Array Value → Nat → Nat → Nat → Int) (t : Int → Int → Int → Int → ByteArray) (v e : ByteArray → Nat → Int) (s : ByteArray) (a f u z : Int) (k : Nat) (E : Array Value) => pd2b_c w t v e s a f u z k E := by kernel_rfl
theorem pd2b_cond (w : Array Value → Nat → Nat → Nat → Int) (t : Int → Int → Int → Int → ByteArray) (v e : ByteArray → Nat → Int) (s : ByteArray) (a f u z : Int) (k : Nat) (E : Array Value) : (followT pd2b_bits (codeT cfXg (callT cfXg (tHo w t v e) 60) 60 cz (cL (cN 2 x23)) (hP3 s (sl0 k) a f u z) (sRow E))).1 = pd2b_c w t v e s a f u z k E := congrFun (congrFun (congrFun (congrFun (congrFun (congrFun (congrFun (congrFun (congrFun (congrFun (congrFun pd2b_cond_k w) t) v) e) s) a) f) u) z) k) E
theorem pd2b_leaf_k : (fun (w : Array Value → Nat → Nat → Nat → Int) (t : Int → Int → Int → Int → ByteArray) (v e : ByteArray → Nat → Int) (s : ByteArray) (a f u z : Int) (k : Nat) (E : Array Value) => pathObs (gcObs 0 0 (selR [0, 2, 4, 5, 6, 7, 8] (some 0))) pd2b_bits (codeT cfXg (callT cfXg (tHo w t v e) 60) 60 cz (cL (cN 2 x23)) (hP3 s (sl0 k) a f u z) (sRow E))) = fun (_ : Array Value → Nat → Nat → Nat → Int) (_ : Int → Int → Int → Int → ByteArray) (v e : ByteArray → Nat → Int) (s : ByteArray) (a f u _ : Int) (k : Nat) (E : Array Value) => some (.normal, hP3 s (sl0 k) a f (e s (inc u).toNat) (v s (inc u).toNat), (sRow E)) := by kernel_rfl
theorem pd2b_leaf (w : Array Value → Nat → Nat → Nat → Int) (t : Int → Int → Int → Int → ByteArray) (v e : ByteArray → Nat → Int) (s : ByteArray) (a f u z : Int) (k : Nat) (E : Array Value) : pathObs (gcObs 0 0 (selR [0, 2, 4, 5, 6, 7, 8] (some 0))) pd2b_bits (codeT cfXg (callT cfXg (tHo w t v e) 60) 60 cz (cL (cN 2 x23)) (hP3 s (sl0 k) a f u z) (sRow E)) = some (.normal, hP3 s (sl0 k) a f (e s (inc u).toNat) (v s (inc u).toNat), (sRow E)) := congrFun (congrFun (congrFun (congrFun (congrFun (congrFun (congrFun (congrFun (congrFun (congrFun (congrFun pd2b_leaf_k w) t) v) e) s) a) f) u) z) k) E
theorem pia_k : (fun (w : Array Value → Nat → Nat → Nat → Int) (t : Int → Int → Int → Int → ByteArray) (v e : ByteArray → Nat → Int) (s : ByteArray) (a f u z : Int) => (codeT cfXg (callT cfXg (tHo w t v e) 60) 60 cz (cL (cL (cN 3 x23))) (hP3 s nilS a f u z) st0).evalM (gcObs 0 0 (selR [0, 2, 4, 5, 6, 7, 8, 9] none))) = fun (_ : Array Value → Nat → Nat → Nat → Int) (_ : Int → Int → Int → Int → ByteArray) (_ _ : ByteArray → Nat → Int) (s : ByteArray) (a f u z : Int) => some (.normal, hP4 s nilS a f u z f, st0) := by kernel_rfl
theorem pia (w : Array Value → Nat → Nat → Nat → Int) (t : Int → Int → Int → Int → ByteArray) (v e : ByteArray → Nat → Int) (s : ByteArray) (a f u z : Int) : (codeT cfXg (callT cfXg (tHo w t v e) 60) 60 cz (cL (cL (cN 3 x23))) (hP3 s nilS a f u z) st0).evalM (gcObs 0 0 (selR [0, 2, 4, 5, 6, 7, 8, 9] none)) = some (.normal, hP4 s nilS a f u z f, st0) := congrFun (congrFun (congrFun (congrFun (congrFun (congrFun (congrFun (congrFun (congrFun pia_k w) t) v) e) s) a) f) u) z
theorem pib_k : (fun (w : Array Value → Nat → Nat → Nat → Int) (t : Int → Int → Int → Int → ByteArray) (v e : ByteArray → Nat → Int) (s : ByteArray) (a f u z : Int) (k : Nat) (E : Array Value) => (codeT cfXg (callT cfXg (tHo w t v e) 60) 60 cz (cL (cL (cN 3 x23))) (hP3 s (sl0 k) a f u z) (sRow E)).evalM (gcObs 0 0 (selR [0, 2, 4, 5, 6, 7, 8, 9] (some 0)))) = fun (_ : Array Value → Nat → Nat → Nat → Int) (_ : Int → Int → Int → Int → ByteArray) (_ _ : ByteArray → Nat → Int) (s : ByteArray) (a f u z : Int) (k : Nat) (E : Array Value) => some (.normal, hP4 s (sl0 k) a f u z f, (sRow E)) := by kernel_rfl
theorem pib (w : Array Value → Nat → Nat → Nat → Int) (t : Int → Int → Int → Int → ByteArray) (v e : ByteArray → Nat → Int) (s : ByteArray) (a f u z : Int) (k : Nat) (E : Array Value) : (codeT cfXg (callT cfXg (tHo w t v e) 60) 60 cz (cL (cL (cN 3 x23))) (hP3 s (sl0 k) a f u z) (sRow E)).evalM (gcObs 0 0 (selR [0, 2, 4, 5, 6, 7, 8, 9] (some 0))) = some (.normal, hP4 s (sl0 k) a f u z f, (sRow E)) := congrFun (congrFun (congrFun (congrFun (congrFun (congrFun (congrFun (congrFun (congrFun (congrFun (congrFun pib_k w) t) v) e) s) a) f) u) z) k) E
def px0a_bits : List Bool := [false, false, false, false, false, false]
def px0a_c (_ : Array Value → Nat → Nat → Nat → Int) (_ : Int → Int → Int → Int → ByteArray) (_ _ : ByteArray → Nat → Int) (_ : ByteArray) (_ _ _ z c : Int) : Bool :=
  !(decide (c ≤ z))
   && true
theorem px0a_cond_k : (fun (w : Array Value → Nat → Nat → Nat → Int) (t : Int → Int → Int → Int → ByteArray) (v e : ByteArray → Nat → Int) (s : ByteArray) (a f u z c : Int) => (followT px0a_bits (codeT cfXg (callT cfXg (tHo w t v e) 60) 60 cz (l23) (hP4 s nilS a f u z c) st0)).1) = fun (w : Array Value → Nat → Nat → Nat → Int) (t : Int → Int → Int → Int → ByteArray) (v e : ByteArray → Nat → Int) (s : ByteArray) (a f u z c : Int) => px0a_c w t v e s a f u z c := by kernel_rfl
theorem px0a_cond (w : Array Value → Nat → Nat → Nat → Int) (t : Int → Int → Int → Int → ByteArray) (v e : ByteArray → Nat → Int) (s : ByteArray) (a f u z c : Int) : (followT px0a_bits (codeT cfXg (callT cfXg (tHo w t v e) 60) 60 cz (l23) (hP4 s nilS a f u z c) st0)).1 = px0a_c w t v e s a f u z c := congrFun (congrFun (congrFun (congrFun (congrFun (congrFun (congrFun (congrFun (congrFun (congrFun px0a_cond_k w) t) v) e) s) a) f) u) z) c
theorem px0a_leaf_k : (fun (w : Array Value → Nat → Nat → Nat → Int) (t : Int → Int → Int → Int → ByteArray) (v e : ByteArray → Nat → Int) (s : ByteArray) (a f u z c : Int) => pathObs (gcObs 0 0 (selR [0, 2, 4, 5, 6, 7, 8, 9] none)) px0a_bits (codeT cfXg (callT cfXg (tHo w t v e) 60) 60 cz (l23) (hP4 s nilS a f u z c) st0)) = fun (_ : Array Value → Nat → Nat → Nat → Int) (_ : Int → Int → Int → Int → ByteArray) (_ _ : ByteArray → Nat → Int) (s : ByteArray) (a f u z c : Int) => some (.exit 2, hP4 s nilS a f u z c, st0) := by kernel_rfl
theorem px0a_leaf (w : Array Value → Nat → Nat → Nat → Int) (t : Int → Int → Int → Int → ByteArray) (v e : ByteArray → Nat → Int) (s : ByteArray) (a f u z c : Int) : pathObs (gcObs 0 0 (selR [0, 2, 4, 5, 6, 7, 8, 9] none)) px0a_bits (codeT cfXg (callT cfXg (tHo w t v e) 60) 60 cz (l23) (hP4 s nilS a f u z c) st0) = some (.exit 2, hP4 s nilS a f u z c, st0) := congrFun (congrFun (congrFun (congrFun (congrFun (congrFun (congrFun (congrFun (congrFun (congrFun px0a_leaf_k w) t) v) e) s) a) f) u) z) c
def px0b_bits : List Bool := [false, false, false, false, false, false]
def px0b_c (_ : Array Value → Nat → Nat → Nat → Int) (_ : Int → Int → Int → Int → ByteArray) (_ _ : ByteArray → Nat → Int) (_ : ByteArray) (_ _ _ z c : Int) (_ : Nat) (_ : Array Value) : Bool :=
  !(decide (c ≤ z))
   && true
theorem px0b_cond_k : (fun (w : Array Value → Nat → Nat → Nat → Int) (t : Int → Int → Int → Int → ByteArray) (v e : ByteArray → Nat → Int) (s : ByteArray) (a f u z c : Int) (k : Nat) (E : Array Value) => (followT px0b_bits (codeT cfXg (callT cfXg (tHo w t v e) 60) 60 cz (l23) (hP4 s (sl0 k) a f u z c) (sRow E))).1) = fun (w : Array Value → Nat → Nat → Nat → Int) (t : Int → Int → Int → Int → ByteArray) (v e : ByteArray → Nat → Int) (s : ByteArray) (a f u z c : Int) (k : Nat) (E : Array Value) => px0b_c w t v e s a f u z c k E := by kernel_rfl
theorem px0b_cond (w : Array Value → Nat → Nat → Nat → Int) (t : Int → Int → Int → Int → ByteArray) (v e : ByteArray → Nat → Int) (s : ByteArray) (a f u z c : Int) (k : Nat) (E : Array Value) : (followT px0b_bits (codeT cfXg (callT cfXg (tHo w t v e) 60) 60 cz (l23) (hP4 s (sl0 k) a f u z c) (sRow E))).1 = px0b_c w t v e s a f u z c k E := congrFun (congrFun (congrFun (congrFun (congrFun (congrFun (congrFun (congrFun (congrFun (congrFun (congrFun (congrFun px0b_cond_k w) t) v) e) s) a) f) u) z) c) k) E
theorem px0b_leaf_k : (fun (w : Array Value → Nat → Nat → Nat → Int) (t : Int → Int → Int → Int → ByteArray) (v e : ByteArray → Nat → Int) (s : ByteArray) (a f u z c : Int) (k : Nat) (E : Array Value) => pathObs (gcObs 0 0 (selR [0, 2, 4, 5, 6, 7, 8, 9] (some 0))) px0b_bits (codeT cfXg (callT cfXg (tHo w t v e) 60) 60 cz (l23) (hP4 s (sl0 k) a f u z c) (sRow E))) = fun (_ : Array Value → Nat → Nat → Nat → Int) (_ : Int → Int → Int → Int → ByteArray) (_ _ : ByteArray → Nat → Int) (s : ByteArray) (a f u z c : Int) (k : Nat) (E : Array Value) => some (.exit 2, hP4 s (sl0 k) a f u z c, (sRow E)) := by kernel_rfl
theorem px0b_leaf (w : Array Value → Nat → Nat → Nat → Int) (t : Int → Int → Int → Int → ByteArray) (v e : ByteArray → Nat → Int) (s : ByteArray) (a f u z c : Int) (k : Nat) (E : Array Value) : pathObs (gcObs 0 0 (selR [0, 2, 4, 5, 6, 7, 8, 9] (some 0))) px0b_bits (codeT cfXg (callT cfXg (tHo w t v e) 60) 60 cz (l23) (hP4 s (sl0 k) a f u z c) (sRow E)) = some (.exit 2, hP4 s (sl0 k) a f u z c, (sRow E)) := congrFun (congrFun (congrFun (congrFun (congrFun (congrFun (congrFun (congrFun (congrFun (congrFun (congrFun (congrFun px0b_leaf_k w) t) v) e) s) a) f) u) z) c) k) E
def px1a_bits : List Bool := [true, true, true, true, true, false]
def px1a_c (_ : Array Value → Nat → Nat → Nat → Int) (_ : Int → Int → Int → Int → ByteArray) (_ _ : ByteArray → Nat → Int) (_ : ByteArray) (_ _ _ z c : Int) : Bool :=
  (decide (c ≤ z))
   && (!(decide (c < 256))
   && true)
theorem px1a_cond_k : (fun (w : Array Value → Nat → Nat → Nat → Int) (t : Int → Int → Int → Int → ByteArray) (v e : ByteArray → Nat → Int) (s : ByteArray) (a f u z c : Int) => (followT px1a_bits (codeT cfXg (callT cfXg (tHo w t v e) 60) 60 cz (l23) (hP4 s nilS a f u z c) st0)).1) = fun (w : Array Value → Nat → Nat → Nat → Int) (t : Int → Int → Int → Int → ByteArray) (v e : ByteArray → Nat → Int) (s : ByteArray) (a f u z c : Int) => px1a_c w t v e s a f u z c := by kernel_rfl
theorem px1a_cond (w : Array Value → Nat → Nat → Nat → Int) (t : Int → Int → Int → Int → ByteArray) (v e : ByteArray → Nat → Int) (s : ByteArray) (a f u z c : Int) : (followT px1a_bits (codeT cfXg (callT cfXg (tHo w t v e) 60) 60 cz (l23) (hP4 s nilS a f u z c) st0)).1 = px1a_c w t v e s a f u z c := congrFun (congrFun (congrFun (congrFun (congrFun (congrFun (congrFun (congrFun (congrFun (congrFun px1a_cond_k w) t) v) e) s) a) f) u) z) c
theorem px1a_leaf_k : (fun (w : Array Value → Nat → Nat → Nat → Int) (t : Int → Int → Int → Int → ByteArray) (v e : ByteArray → Nat → Int) (s : ByteArray) (a f u z c : Int) => pathObs (gcObs 0 0 (selR [0, 2, 4, 5, 6, 7, 8, 9] none)) px1a_bits (codeT cfXg (callT cfXg (tHo w t v e) 60) 60 cz (l23) (hP4 s nilS a f u z c) st0)) = fun (_ : Array Value → Nat → Nat → Nat → Int) (_ : Int → Int → Int → Int → ByteArray) (_ _ : ByteArray → Nat → Int) (s : ByteArray) (a f u z c : Int) => some (.exit 2, hP4 s nilS a f u z c, st0) := by kernel_rfl
theorem px1a_leaf (w : Array Value → Nat → Nat → Nat → Int) (t : Int → Int → Int → Int → ByteArray) (v e : ByteArray → Nat → Int) (s : ByteArray) (a f u z c : Int) : pathObs (gcObs 0 0 (selR [0, 2, 4, 5, 6, 7, 8, 9] none)) px1a_bits (codeT cfXg (callT cfXg (tHo w t v e) 60) 60 cz (l23) (hP4 s nilS a f u z c) st0) = some (.exit 2, hP4 s nilS a f u z c, st0) := congrFun (congrFun (congrFun (congrFun (congrFun (congrFun (congrFun (congrFun (congrFun (congrFun px1a_leaf_k w) t) v) e) s) a) f) u) z) c
def px1b_bits : List Bool := [true, true, true, true, true, false]
def px1b_c (_ : Array Value → Nat → Nat → Nat → Int) (_ : Int → Int → Int → Int → ByteArray) (_ _ : ByteArray → Nat → Int) (_ : ByteArray) (_ _ _ z c : Int) (_ : Nat) (_ : Array Value) : Bool :=
  (decide (c ≤ z))
   && (!(decide (c < 256))
   && true)
theorem px1b_cond_k : (fun (w : Array Value → Nat → Nat → Nat → Int) (t : Int → Int → Int → Int → ByteArray) (v e : ByteArray → Nat → Int) (s : ByteArray) (a f u z c : Int) (k : Nat) (E : Array Value) => (followT px1b_bits (codeT cfXg (callT cfXg (tHo w t v e) 60) 60 cz (l23) (hP4 s (sl0 k) a f u z c) (sRow E))).1) = fun (w : Array Value → Nat → Nat → Nat → Int) (t : Int → Int → Int → Int → ByteArray) (v e : ByteArray → Nat → Int) (s : ByteArray) (a f u z c : Int) (k : Nat) (E : Array Value) => px1b_c w t v e s a f u z c k E := by kernel_rfl
theorem px1b_cond (w : Array Value → Nat → Nat → Nat → Int) (t : Int → Int → Int → Int → ByteArray) (v e : ByteArray → Nat → Int) (s : ByteArray) (a f u z c : Int) (k : Nat) (E : Array Value) : (followT px1b_bits (codeT cfXg (callT cfXg (tHo w t v e) 60) 60 cz (l23) (hP4 s (sl0 k) a f u z c) (sRow E))).1 = px1b_c w t v e s a f u z c k E := congrFun (congrFun (congrFun (congrFun (congrFun (congrFun (congrFun (congrFun (congrFun (congrFun (congrFun (congrFun px1b_cond_k w) t) v) e) s) a) f) u) z) c) k) E
theorem px1b_leaf_k : (fun (w : Array Value → Nat → Nat → Nat → Int) (t : Int → Int → Int → Int → ByteArray) (v e : ByteArray → Nat → Int) (s : ByteArray) (a f u z c : Int) (k : Nat) (E : Array Value) => pathObs (gcObs 0 0 (selR [0, 2, 4, 5, 6, 7, 8, 9] (some 0))) px1b_bits (codeT cfXg (callT cfXg (tHo w t v e) 60) 60 cz (l23) (hP4 s (sl0 k) a f u z c) (sRow E))) = fun (_ : Array Value → Nat → Nat → Nat → Int) (_ : Int → Int → Int → Int → ByteArray) (_ _ : ByteArray → Nat → Int) (s : ByteArray) (a f u z c : Int) (k : Nat) (E : Array Value) => some (.exit 2, hP4 s (sl0 k) a f u z c, (sRow E)) := by kernel_rfl
theorem px1b_leaf (w : Array Value → Nat → Nat → Nat → Int) (t : Int → Int → Int → Int → ByteArray) (v e : ByteArray → Nat → Int) (s : ByteArray) (a f u z c : Int) (k : Nat) (E : Array Value) : pathObs (gcObs 0 0 (selR [0, 2, 4, 5, 6, 7, 8, 9] (some 0))) px1b_bits (codeT cfXg (callT cfXg (tHo w t v e) 60) 60 cz (l23) (hP4 s (sl0 k) a f u z c) (sRow E)) = some (.exit 2, hP4 s (sl0 k) a f u z c, (sRow E)) := congrFun (congrFun (congrFun (congrFun (congrFun (congrFun (congrFun (congrFun (congrFun (congrFun (congrFun (congrFun px1b_leaf_k w) t) v) e) s) a) f) u) z) c) k) E
def pya_bits : List Bool := [true, true, true, true, true, true, false, true, false, true, true, true]
def pya_c (_ : Array Value → Nat → Nat → Nat → Int) (_ : Int → Int → Int → Int → ByteArray) (_ _ : ByteArray → Nat → Int) (_ : ByteArray) (_ _ _ z c : Int) : Bool :=
  (decide (c ≤ z))
   && ((decide (c < 256))
   && true)
theorem pya_cond_k : (fun (w : Array Value → Nat → Nat → Nat → Int) (t : Int → Int → Int → Int → ByteArray) (v e : ByteArray → Nat → Int) (s : ByteArray) (a f u z c : Int) => (followT pya_bits (codeT cfXg (callT cfXg (tHo w t v e) 60) 60 cz (l23) (hP4 s nilS a f u z c) st0)).1) = fun (w : Array Value → Nat → Nat → Nat → Int) (t : Int → Int → Int → Int → ByteArray) (v e : ByteArray → Nat → Int) (s : ByteArray) (a f u z c : Int) => pya_c w t v e s a f u z c := by kernel_rfl
theorem pya_cond (w : Array Value → Nat → Nat → Nat → Int) (t : Int → Int → Int → Int → ByteArray) (v e : ByteArray → Nat → Int) (s : ByteArray) (a f u z c : Int) : (followT pya_bits (codeT cfXg (callT cfXg (tHo w t v e) 60) 60 cz (l23) (hP4 s nilS a f u z c) st0)).1 = pya_c w t v e s a f u z c := congrFun (congrFun (congrFun (congrFun (congrFun (congrFun (congrFun (congrFun (congrFun (congrFun pya_cond_k w) t) v) e) s) a) f) u) z) c
theorem pya_leaf_k : (fun (w : Array Value → Nat → Nat → Nat → Int) (t : Int → Int → Int → Int → ByteArray) (v e : ByteArray → Nat → Int) (s : ByteArray) (a f u z c : Int) => pathObs (gcObs 0 0 (selR [0, 2, 4, 5, 6, 7, 8, 9] (some 1))) pya_bits (codeT cfXg (callT cfXg (tHo w t v e) 60) 60 cz (l23) (hP4 s nilS a f u z c) st0)) = fun (_ : Array Value → Nat → Nat → Nat → Int) (_ : Int → Int → Int → Int → ByteArray) (_ _ : ByteArray → Nat → Int) (s : ByteArray) (a f u z c : Int) => some (.normal, hP4 s (sl0 1) a f u z (inc c), sRow ⟨[.int .i64 c]⟩) := by kernel_rfl
theorem pya_leaf (w : Array Value → Nat → Nat → Nat → Int) (t : Int → Int → Int → Int → ByteArray) (v e : ByteArray → Nat → Int) (s : ByteArray) (a f u z c : Int) : pathObs (gcObs 0 0 (selR [0, 2, 4, 5, 6, 7, 8, 9] (some 1))) pya_bits (codeT cfXg (callT cfXg (tHo w t v e) 60) 60 cz (l23) (hP4 s nilS a f u z c) st0) = some (.normal, hP4 s (sl0 1) a f u z (inc c), sRow ⟨[.int .i64 c]⟩) := congrFun (congrFun (congrFun (congrFun (congrFun (congrFun (congrFun (congrFun (congrFun (congrFun pya_leaf_k w) t) v) e) s) a) f) u) z) c
def pyb_bits : List Bool := [true, true, true, true, true, true, false, true, false, true, true, true, false, true, true, true]
def pyb_c (_ : Array Value → Nat → Nat → Nat → Int) (_ : Int → Int → Int → Int → ByteArray) (_ _ : ByteArray → Nat → Int) (_ : ByteArray) (_ _ _ z c : Int) (k : Nat) (E : Array Value) : Bool :=
  (decide (c ≤ z))
   && ((decide (c < 256))
   && ((decide (k ≤ k) && decide (k + 1 ≤ nLim) && true && true && true && true && true)
   && (!(decide (k + 1 ≤ k))
   && ((decide (0 + k * 1 ≤ E.size))
   && (((k == k) && (0 + k * 1 == E.size))
   && true)))))
theorem pyb_cond_k : (fun (w : Array Value → Nat → Nat → Nat → Int) (t : Int → Int → Int → Int → ByteArray) (v e : ByteArray → Nat → Int) (s : ByteArray) (a f u z c : Int) (k : Nat) (E : Array Value) => (followT pyb_bits (codeT cfXg (callT cfXg (tHo w t v e) 60) 60 cz (l23) (hP4 s (sl0 k) a f u z c) (sRow E))).1) = fun (w : Array Value → Nat → Nat → Nat → Int) (t : Int → Int → Int → Int → ByteArray) (v e : ByteArray → Nat → Int) (s : ByteArray) (a f u z c : Int) (k : Nat) (E : Array Value) => pyb_c w t v e s a f u z c k E := by kernel_rfl
theorem pyb_cond (w : Array Value → Nat → Nat → Nat → Int) (t : Int → Int → Int → Int → ByteArray) (v e : ByteArray → Nat → Int) (s : ByteArray) (a f u z c : Int) (k : Nat) (E : Array Value) : (followT pyb_bits (codeT cfXg (callT cfXg (tHo w t v e) 60) 60 cz (l23) (hP4 s (sl0 k) a f u z c) (sRow E))).1 = pyb_c w t v e s a f u z c k E := congrFun (congrFun (congrFun (congrFun (congrFun (congrFun (congrFun (congrFun (congrFun (congrFun (congrFun (congrFun pyb_cond_k w) t) v) e) s) a) f) u) z) c) k) E
theorem pyb_leaf_k : (fun (w : Array Value → Nat → Nat → Nat → Int) (t : Int → Int → Int → Int → ByteArray) (v e : ByteArray → Nat → Int) (s : ByteArray) (a f u z c : Int) (k : Nat) (E : Array Value) => pathObs (gcObs 0 0 (selR [0, 2, 4, 5, 6, 7, 8, 9] (some 2))) pyb_bits (codeT cfXg (callT cfXg (tHo w t v e) 60) 60 cz (l23) (hP4 s (sl0 k) a f u z c) (sRow E))) = fun (_ : Array Value → Nat → Nat → Nat → Int) (_ : Int → Int → Int → Int → ByteArray) (_ _ : ByteArray → Nat → Int) (s : ByteArray) (a f u z c : Int) (k : Nat) (E : Array Value) => some (.normal, hP4 s (sl0 (k + 1)) a f u z (inc c), sRow (aE E k c)) := by kernel_rfl
theorem pyb_leaf (w : Array Value → Nat → Nat → Nat → Int) (t : Int → Int → Int → Int → ByteArray) (v e : ByteArray → Nat → Int) (s : ByteArray) (a f u z c : Int) (k : Nat) (E : Array Value) : pathObs (gcObs 0 0 (selR [0, 2, 4, 5, 6, 7, 8, 9] (some 2))) pyb_bits (codeT cfXg (callT cfXg (tHo w t v e) 60) 60 cz (l23) (hP4 s (sl0 k) a f u z c) (sRow E)) = some (.normal, hP4 s (sl0 (k + 1)) a f u z (inc c), sRow (aE E k c)) := congrFun (congrFun (congrFun (congrFun (congrFun (congrFun (congrFun (congrFun (congrFun (congrFun (congrFun (congrFun pyb_leaf_k w) t) v) e) s) a) f) u) z) c) k) E
theorem pza_k : (fun (w : Array Value → Nat → Nat → Nat → Int) (t : Int → Int → Int → Int → ByteArray) (v e : ByteArray → Nat → Int) (s : ByteArray) (a f u z c : Int) => (codeT cfXg (callT cfXg (tHo w t v e) 60) 60 cz (cN 4 x23) (hP4 s nilS a f u z c) st0).evalM (gcObs 0 0 (selR [0, 2, 4, 5] none))) = fun (_ : Array Value → Nat → Nat → Nat → Int) (_ : Int → Int → Int → Int → ByteArray) (_ _ : ByteArray → Nat → Int) (s : ByteArray) (_ _ u _ _ : Int) => some (.normal, hP s nilS (inc u), st0) := by kernel_rfl
theorem pza (w : Array Value → Nat → Nat → Nat → Int) (t : Int → Int → Int → Int → ByteArray) (v e : ByteArray → Nat → Int) (s : ByteArray) (a f u z c : Int) : (codeT cfXg (callT cfXg (tHo w t v e) 60) 60 cz (cN 4 x23) (hP4 s nilS a f u z c) st0).evalM (gcObs 0 0 (selR [0, 2, 4, 5] none)) = some (.normal, hP s nilS (inc u), st0) := congrFun (congrFun (congrFun (congrFun (congrFun (congrFun (congrFun (congrFun (congrFun (congrFun pza_k w) t) v) e) s) a) f) u) z) c
theorem pzb_k : (fun (w : Array Value → Nat → Nat → Nat → Int) (t : Int → Int → Int → Int → ByteArray) (v e : ByteArray → Nat → Int) (s : ByteArray) (a f u z c : Int) (k : Nat) (E : Array Value) => (codeT cfXg (callT cfXg (tHo w t v e) 60) 60 cz (cN 4 x23) (hP4 s (sl0 k) a f u z c) (sRow E)).evalM (gcObs 0 0 (selR [0, 2, 4, 5] (some 0)))) = fun (_ : Array Value → Nat → Nat → Nat → Int) (_ : Int → Int → Int → Int → ByteArray) (_ _ : ByteArray → Nat → Int) (s : ByteArray) (_ _ u _ _ : Int) (k : Nat) (E : Array Value) => some (.normal, hP s (sl0 k) (inc u), (sRow E)) := by kernel_rfl
theorem pzb (w : Array Value → Nat → Nat → Nat → Int) (t : Int → Int → Int → Int → ByteArray) (v e : ByteArray → Nat → Int) (s : ByteArray) (a f u z c : Int) (k : Nat) (E : Array Value) : (codeT cfXg (callT cfXg (tHo w t v e) 60) 60 cz (cN 4 x23) (hP4 s (sl0 k) a f u z c) (sRow E)).evalM (gcObs 0 0 (selR [0, 2, 4, 5] (some 0))) = some (.normal, hP s (sl0 k) (inc u), (sRow E)) := congrFun (congrFun (congrFun (congrFun (congrFun (congrFun (congrFun (congrFun (congrFun (congrFun (congrFun (congrFun pzb_k w) t) v) e) s) a) f) u) z) c) k) E
def pq0a_bits : List Bool := [true, true, true, true, true, false, true, true]
def pq0a_c (w : Array Value → Nat → Nat → Nat → Int) (t : Int → Int → Int → Int → ByteArray) (_ _ : ByteArray → Nat → Int) (s : ByteArray) (_ : Int) : Bool :=
  (inQ (w #[] 0 0 0) (w #[] 0 0 1) (w #[] 0 0 2) (w #[] 0 0 3))
   && (!(!ByteArray.toList (t (w #[] 0 0 0) (w #[] 0 0 1) (w #[] 0 0 2) (w #[] 0 0 3)) == ByteArray.toList s)
   && true)
theorem pq0a_cond_k : (fun (w : Array Value → Nat → Nat → Nat → Int) (t : Int → Int → Int → Int → ByteArray) (v e : ByteArray → Nat → Int) (s : ByteArray) (a : Int) => (followT pq0a_bits (codeT cfXg (callT cfXg (tHo w t v e) 60) 60 cz (cN 4 b23) (hP s nilS a) st0)).1) = fun (w : Array Value → Nat → Nat → Nat → Int) (t : Int → Int → Int → Int → ByteArray) (v e : ByteArray → Nat → Int) (s : ByteArray) (a : Int) => pq0a_c w t v e s a := by kernel_rfl
theorem pq0a_cond (w : Array Value → Nat → Nat → Nat → Int) (t : Int → Int → Int → Int → ByteArray) (v e : ByteArray → Nat → Int) (s : ByteArray) (a : Int) : (followT pq0a_bits (codeT cfXg (callT cfXg (tHo w t v e) 60) 60 cz (cN 4 b23) (hP s nilS a) st0)).1 = pq0a_c w t v e s a := congrFun (congrFun (congrFun (congrFun (congrFun (congrFun pq0a_cond_k w) t) v) e) s) a
theorem pq0a_leaf_k : (fun (w : Array Value → Nat → Nat → Nat → Int) (t : Int → Int → Int → Int → ByteArray) (v e : ByteArray → Nat → Int) (s : ByteArray) (a : Int) => pathObs (gcObs 0 0 (kp [2, 3] [])) pq0a_bits (codeT cfXg (callT cfXg (tHo w t v e) 60) 60 cz (cN 4 b23) (hP s nilS a) st0)) = fun (w : Array Value → Nat → Nat → Nat → Int) (_ : Int → Int → Int → Int → ByteArray) (_ _ : ByteArray → Nat → Int) (_ : ByteArray) (_ : Int) => some (.ret, fPe (w #[] 0 0 0) (w #[] 0 0 1) (w #[] 0 0 2) (w #[] 0 0 3) 0, st0) := by kernel_rfl
theorem pq0a_leaf (w : Array Value → Nat → Nat → Nat → Int) (t : Int → Int → Int → Int → ByteArray) (v e : ByteArray → Nat → Int) (s : ByteArray) (a : Int) : pathObs (gcObs 0 0 (kp [2, 3] [])) pq0a_bits (codeT cfXg (callT cfXg (tHo w t v e) 60) 60 cz (cN 4 b23) (hP s nilS a) st0) = some (.ret, fPe (w #[] 0 0 0) (w #[] 0 0 1) (w #[] 0 0 2) (w #[] 0 0 3) 0, st0) := congrFun (congrFun (congrFun (congrFun (congrFun (congrFun pq0a_leaf_k w) t) v) e) s) a
def pq0b_bits : List Bool := [true, true, true, true, true, true, false, true, true]
def pq0b_c (w : Array Value → Nat → Nat → Nat → Int) (t : Int → Int → Int → Int → ByteArray) (_ _ : ByteArray → Nat → Int) (s : ByteArray) (_ : Int) (k : Nat) (E : Array Value) : Bool :=
  (decide (k ≤ k) && (decide (Array.size E ≠ 0) && Array.all E (freeN 9)))
   && ((intsOk E 0 k)
   && ((inQ (w E 0 k 0) (w E 0 k 1) (w E 0 k 2) (w E 0 k 3))
   && (!(!ByteArray.toList (t (w E 0 k 0) (w E 0 k 1) (w E 0 k 2) (w E 0 k 3)) == ByteArray.toList s)
   && true)))
theorem pq0b_cond_k : (fun (w : Array Value → Nat → Nat → Nat → Int) (t : Int → Int → Int → Int → ByteArray) (v e : ByteArray → Nat → Int) (s : ByteArray) (a : Int) (k : Nat) (E : Array Value) => (followT pq0b_bits (codeT cfXg (callT cfXg (tHo w t v e) 60) 60 cz (cN 4 b23) (hP s (sl0 k) a) (sRow E))).1) = fun (w : Array Value → Nat → Nat → Nat → Int) (t : Int → Int → Int → Int → ByteArray) (v e : ByteArray → Nat → Int) (s : ByteArray) (a : Int) (k : Nat) (E : Array Value) => pq0b_c w t v e s a k E := by kernel_rfl
theorem pq0b_cond (w : Array Value → Nat → Nat → Nat → Int) (t : Int → Int → Int → Int → ByteArray) (v e : ByteArray → Nat → Int) (s : ByteArray) (a : Int) (k : Nat) (E : Array Value) : (followT pq0b_bits (codeT cfXg (callT cfXg (tHo w t v e) 60) 60 cz (cN 4 b23) (hP s (sl0 k) a) (sRow E))).1 = pq0b_c w t v e s a k E := congrFun (congrFun (congrFun (congrFun (congrFun (congrFun (congrFun (congrFun pq0b_cond_k w) t) v) e) s) a) k) E
theorem pq0b_leaf_k : (fun (w : Array Value → Nat → Nat → Nat → Int) (t : Int → Int → Int → Int → ByteArray) (v e : ByteArray → Nat → Int) (s : ByteArray) (a : Int) (k : Nat) (E : Array Value) => pathObs (gcObs 0 0 (kp [2, 3] [])) pq0b_bits (codeT cfXg (callT cfXg (tHo w t v e) 60) 60 cz (cN 4 b23) (hP s (sl0 k) a) (sRow E))) = fun (w : Array Value → Nat → Nat → Nat → Int) (_ : Int → Int → Int → Int → ByteArray) (_ _ : ByteArray → Nat → Int) (_ : ByteArray) (_ : Int) (k : Nat) (E : Array Value) => some (.ret, fPe (w E 0 k 0) (w E 0 k 1) (w E 0 k 2) (w E 0 k 3) 0, st0) := by kernel_rfl
theorem pq0b_leaf (w : Array Value → Nat → Nat → Nat → Int) (t : Int → Int → Int → Int → ByteArray) (v e : ByteArray → Nat → Int) (s : ByteArray) (a : Int) (k : Nat) (E : Array Value) : pathObs (gcObs 0 0 (kp [2, 3] [])) pq0b_bits (codeT cfXg (callT cfXg (tHo w t v e) 60) 60 cz (cN 4 b23) (hP s (sl0 k) a) (sRow E)) = some (.ret, fPe (w E 0 k 0) (w E 0 k 1) (w E 0 k 2) (w E 0 k 3) 0, st0) := congrFun (congrFun (congrFun (congrFun (congrFun (congrFun (congrFun (congrFun pq0b_leaf_k w) t) v) e) s) a) k) E
def pq1a_bits : List Bool := [true, true, true, true, true, true]
def pq1a_c (w : Array Value → Nat → Nat → Nat → Int) (t : Int → Int → Int → Int → ByteArray) (_ _ : ByteArray → Nat → Int) (s : ByteArray) (_ : Int) : Bool :=
  (inQ (w #[] 0 0 0) (w #[] 0 0 1) (w #[] 0 0 2) (w #[] 0 0 3))
   && ((!ByteArray.toList (t (w #[] 0 0 0) (w #[] 0 0 1) (w #[] 0 0 2) (w #[] 0 0 3)) == ByteArray.toList s)
   && true)
theorem pq1a_cond_k : (fun (w : Array Value → Nat → Nat → Nat → Int) (t : Int → Int → Int → Int → ByteArray) (v e : ByteArray → Nat → Int) (s : ByteArray) (a : Int) => (followT pq1a_bits (codeT cfXg (callT cfXg (tHo w t v e) 60) 60 cz (cN 4 b23) (hP s nilS a) st0)).1) = fun (w : Array Value → Nat → Nat → Nat → Int) (t : Int → Int → Int → Int → ByteArray) (v e : ByteArray → Nat → Int) (s : ByteArray) (a : Int) => pq1a_c w t v e s a := by kernel_rfl
theorem pq1a_cond (w : Array Value → Nat → Nat → Nat → Int) (t : Int → Int → Int → Int → ByteArray) (v e : ByteArray → Nat → Int) (s : ByteArray) (a : Int) : (followT pq1a_bits (codeT cfXg (callT cfXg (tHo w t v e) 60) 60 cz (cN 4 b23) (hP s nilS a) st0)).1 = pq1a_c w t v e s a := congrFun (congrFun (congrFun (congrFun (congrFun (congrFun pq1a_cond_k w) t) v) e) s) a
theorem pq1a_leaf_k : (fun (w : Array Value → Nat → Nat → Nat → Int) (t : Int → Int → Int → Int → ByteArray) (v e : ByteArray → Nat → Int) (s : ByteArray) (a : Int) => pathObs (gcObs 0 0 (kp [2, 3] [])) pq1a_bits (codeT cfXg (callT cfXg (tHo w t v e) 60) 60 cz (cN 4 b23) (hP s nilS a) st0)) = fun (_ : Array Value → Nat → Nat → Nat → Int) (_ : Int → Int → Int → Int → ByteArray) (_ _ : ByteArray → Nat → Int) (_ : ByteArray) (_ : Int) => some (.ret, fPe 0 0 0 0 5, st0) := by kernel_rfl
theorem pq1a_leaf (w : Array Value → Nat → Nat → Nat → Int) (t : Int → Int → Int → Int → ByteArray) (v e : ByteArray → Nat → Int) (s : ByteArray) (a : Int) : pathObs (gcObs 0 0 (kp [2, 3] [])) pq1a_bits (codeT cfXg (callT cfXg (tHo w t v e) 60) 60 cz (cN 4 b23) (hP s nilS a) st0) = some (.ret, fPe 0 0 0 0 5, st0) := congrFun (congrFun (congrFun (congrFun (congrFun (congrFun pq1a_leaf_k w) t) v) e) s) a
def pq1b_bits : List Bool := [true, true, true, true, true, true, true]
def pq1b_c (w : Array Value → Nat → Nat → Nat → Int) (t : Int → Int → Int → Int → ByteArray) (_ _ : ByteArray → Nat → Int) (s : ByteArray) (_ : Int) (k : Nat) (E : Array Value) : Bool :=
  (decide (k ≤ k) && (decide (Array.size E ≠ 0) && Array.all E (freeN 9)))
   && ((intsOk E 0 k)
   && ((inQ (w E 0 k 0) (w E 0 k 1) (w E 0 k 2) (w E 0 k 3))
   && ((!ByteArray.toList (t (w E 0 k 0) (w E 0 k 1) (w E 0 k 2) (w E 0 k 3)) == ByteArray.toList s)
   && true)))
theorem pq1b_cond_k : (fun (w : Array Value → Nat → Nat → Nat → Int) (t : Int → Int → Int → Int → ByteArray) (v e : ByteArray → Nat → Int) (s : ByteArray) (a : Int) (k : Nat) (E : Array Value) => (followT pq1b_bits (codeT cfXg (callT cfXg (tHo w t v e) 60) 60 cz (cN 4 b23) (hP s (sl0 k) a) (sRow E))).1) = fun (w : Array Value → Nat → Nat → Nat → Int) (t : Int → Int → Int → Int → ByteArray) (v e : ByteArray → Nat → Int) (s : ByteArray) (a : Int) (k : Nat) (E : Array Value) => pq1b_c w t v e s a k E := by kernel_rfl
theorem pq1b_cond (w : Array Value → Nat → Nat → Nat → Int) (t : Int → Int → Int → Int → ByteArray) (v e : ByteArray → Nat → Int) (s : ByteArray) (a : Int) (k : Nat) (E : Array Value) : (followT pq1b_bits (codeT cfXg (callT cfXg (tHo w t v e) 60) 60 cz (cN 4 b23) (hP s (sl0 k) a) (sRow E))).1 = pq1b_c w t v e s a k E := congrFun (congrFun (congrFun (congrFun (congrFun (congrFun (congrFun (congrFun pq1b_cond_k w) t) v) e) s) a) k) E
theorem pq1b_leaf_k : (fun (w : Array Value → Nat → Nat → Nat → Int) (t : Int → Int → Int → Int → ByteArray) (v e : ByteArray → Nat → Int) (s : ByteArray) (a : Int) (k : Nat) (E : Array Value) => pathObs (gcObs 0 0 (kp [2, 3] [])) pq1b_bits (codeT cfXg (callT cfXg (tHo w t v e) 60) 60 cz (cN 4 b23) (hP s (sl0 k) a) (sRow E))) = fun (_ : Array Value → Nat → Nat → Nat → Int) (_ : Int → Int → Int → Int → ByteArray) (_ _ : ByteArray → Nat → Int) (_ : ByteArray) (_ : Int) (_ : Nat) (_ : Array Value) => some (.ret, fPe 0 0 0 0 5, st0) := by kernel_rfl
theorem pq1b_leaf (w : Array Value → Nat → Nat → Nat → Int) (t : Int → Int → Int → Int → ByteArray) (v e : ByteArray → Nat → Int) (s : ByteArray) (a : Int) (k : Nat) (E : Array Value) : pathObs (gcObs 0 0 (kp [2, 3] [])) pq1b_bits (codeT cfXg (callT cfXg (tHo w t v e) 60) 60 cz (cN 4 b23) (hP s (sl0 k) a) (sRow E)) = some (.ret, fPe 0 0 0 0 5, st0) := congrFun (congrFun (congrFun (congrFun (congrFun (congrFun (congrFun (congrFun pq1b_leaf_k w) t) v) e) s) a) k) E
end
end Go.Proofs.YtmpokdnpkjcnbaaDoor

/- The document's Parse: what it makes of a text. -/
namespace Go.Proofs.YtmpokdnpkjcnbaaDoor
open Go.Am
noncomputable section
def addI (l : List Int) (f : Int) : Nat → List Int
  | 0 => l
  | n + 1 => addI l f n ++ [f + n]
def cntI (f z : Int) : Nat := (min z 255 + 1 - f).toNat
/-- is there a dash at a place? -/
def isD (s : ByteArray) (i : Nat) : Bool := decide (i < s.size) && byN s i == 45
def u0 (s : ByteArray) (a : Nat) : Nat := a + numP s a
def uT (s : ByteArray) (a : Nat) : Nat := bif isD s (u0 s a) then u0 s a + 1 + numP s (u0 s a + 1) else u0 s a
def zV (s : ByteArray) (a : Nat) : Int := bif isD s (u0 s a) then numV s (u0 s a + 1) else numV s a
def lstep (s : ByteArray) (a : Nat) (l : List Int) : List Int := addI l (numV s a) (cntI (numV s a) (zV s a))
def parL (s : ByteArray) : Nat → Nat → List Int → List Int
  | 0, _, l => l
  | n + 1, a, l => if a < s.size then parL s n (uT s a + 1) (lstep s a l) else l
def rowI (l : List Int) : Array Value := ⟨l.map (.int .i64)⟩
def vI : List Int → Value
  | [] => nilS
  | x :: r => sl0 (x :: r).length
def stI : List Int → St
  | [] => st0
  | x :: r => sRow (rowI (x :: r))
def selI (K : List Tmp) : List Int → Ex → List Tmp × List Kept
  | [] => selR K none
  | _ :: _ => selR K (some 0)
theorem rowI_free (l : List Int) : (rowI l).all (freeN 9) = true := by
  unfold rowI
  simp only [Array.all_eq_true]
  intro i hi
  simp [freeN]
theorem plainI (K : List Tmp) (l : List Int) (r : Option Nat) (ex : Ex) : plainJ (stI l) (selR K r ex).2 0 := by
  cases r with
  | none => trivial
  | some r =>
    refine ⟨?_, trivial⟩
    cases l with
    | nil => trivial
    | cons x l =>
      have e : (sRow (rowI (x :: l))).heap.get 0 = some (.cells (rowI (x :: l)) 1 true) := by simp [sRow, stS, hpS, Tr.get_put]
      show match (sRow (rowI (x :: l))).heap.get 0 with | some (.cells cs _ _) => cs.all (freeN 9) = true | _ => True
      rw [e]
      exact rowI_free _
theorem plainS (K : List Tmp) (l l' : List Int) (ex : Ex) : plainJ (stI l) (selI K l' ex).2 0 := by
  cases l' with
  | nil => exact plainI K l none ex
  | cons x r => exact plainI K l (some 0) ex
theorem rowI_size (l : List Int) : (rowI l).size = l.length := by simp [rowI]
theorem rowI_add (l : List Int) (c : Int) : aE (rowI l) l.length c = rowI (l ++ [c]) := by
  unfold aE rowI
  have h : List.take l.length (List.map (Value.int .i64) l) = List.map (Value.int .i64) l := List.take_of_length_le (by simp)
  simp [h]
theorem app_cL {n : Nat} {E : Array Value} (hE : E.size = n) (hn : n < 4294967296) : (decide (n ≤ n) && decide (n + 1 ≤ nLim) && true && true && true && true && true) = true ∧ decide (n + 1 ≤ n) = false ∧ decide (0 + n * 1 ≤ E.size) = true ∧ ((n == n) && (0 + n * 1 == E.size)) = true := by
  refine ⟨?_, decide_eq_false (by omega), decide_eq_true (by omega), ?_⟩
  · rw [decide_eq_true (Nat.le_refl n), decide_eq_true (by unfold nLim; omega : n + 1 ≤ nLim)]; rfl
  · rw [beq_self_eq_true, hE]; simp
theorem addI_len (l : List Int) (f : Int) : ∀ n, (addI l f n).length = l.length + n := by
  intro n
  induction n with
  | zero => rfl
  | succ n ih => show (addI l f n ++ [f + n]).length = _; rw [List.length_append, ih]; rfl
theorem numV_ge (s : ByteArray) (a : Nat) : -1 ≤ numV s a := by
  unfold numV
  split <;> omega
theorem numV_lt (s : ByteArray) (a : Nat) : numV s a < 10000 := by
  unfold numV
  split
  · omega
  · have hle := numP_le s a
    have key : ∀ j, j < numP s a → goN s a j = true := by
      intro j hj
      unfold numP at hj
      cases h0 : goN s a 0 with
      | false => rw [h0] at hj; exact absurd hj (Nat.not_lt_zero _)
      | true =>
        cases h1 : goN s a 1 with
        | false => rw [h0, h1] at hj; have : j < 1 := hj; rw [show j = 0 by omega]; exact h0
        | true =>
          cases h2 : goN s a 2 with
          | false => rw [h0, h1, h2] at hj; have : j < 2 := hj; rcases (by omega : j = 0 ∨ j = 1) with rfl | rfl <;> assumption
          | true =>
            cases h3 : goN s a 3 with
            | false => rw [h0, h1, h2, h3] at hj; have : j < 3 := hj; rcases (by omega : j = 0 ∨ j = 1 ∨ j = 2) with rfl | rfl | rfl <;> assumption
            | true => rw [h0, h1, h2, h3] at hj; have : j < 4 := hj; rcases (by omega : j = 0 ∨ j = 1 ∨ j = 2 ∨ j = 3) with rfl | rfl | rfl | rfl <;> assumption
    have h1 := valN_lt (numP s a) key
    have h2 : 10 ^ numP s a ≤ 10 ^ 4 := Nat.pow_le_pow_right (by omega) hle
    omega
/-! ### The steps -/
section
variable {s : ByteArray} {l : List Int}
theorem gc_t {a : Nat} (h : a < s.size) : gcObs 0 0 (selI [0, 2, 4, 5] l) (code cfXg (call cfXg 60) 60 cz (cL k23) (hP s (vI l) a) (stI l)) = some (.normal, hP s (vI l) a, stI l) := by
  have hd : decide ((a : Int) < ((ByteArray.size s : Nat) : Int)) = true := decide_eq_true (by omega)
  cases l with
  | nil => exact of_treeM tHo_ok ((pca wMk t0F numV numT s a).trans (by rw [hd]; rfl))
  | cons x r => exact of_treeM tHo_ok ((pcb wMk t0F numV numT s a (x :: r).length (rowI (x :: r))).trans (by rw [hd]; rfl))
theorem gc_f {a : Nat} (h : ¬ a < s.size) : gcObs 0 0 (selI [0, 2, 4, 5] l) (code cfXg (call cfXg 60) 60 cz (cL k23) (hP s (vI l) a) (stI l)) = some (.exit 0, hP s (vI l) a, stI l) := by
  have hd : decide ((a : Int) < ((ByteArray.size s : Nat) : Int)) = false := decide_eq_false (by omega)
  cases l with
  | nil => exact of_treeM tHo_ok ((pca wMk t0F numV numT s a).trans (by rw [hd]; rfl))
  | cons x r => exact of_treeM tHo_ok ((pcb wMk t0F numV numT s a (x :: r).length (rowI (x :: r))).trans (by rw [hd]; rfl))
theorem gn {a : Nat} (hs : s.size ≤ 1000000) (ha : a ≤ s.size) : gcObs 0 0 (selI [0, 2, 4, 5, 6, 7] l) (code cfXg (call cfXg 60) 60 cz (cL x23) (hP s (vI l) a) (stI l)) = some (.normal, hP2 s (vI l) a (numV s a) (u0 s a : Nat), stI l) := by
  have hc : (decide ((0 : Int) ≤ a) && (decide ((a : Int) ≤ ((ByteArray.size s : Nat) : Int)) && decide (ByteArray.size s ≤ 1000000)) && true) = true := by
    rw [decide_eq_true (by omega), decide_eq_true (by omega), decide_eq_true hs]; rfl
  cases l with
  | nil => exact path_eval tHo_ok ((pna_cond wMk t0F numV numT s a).trans hc) (pna_leaf wMk t0F numV numT s a)
  | cons x r => exact path_eval tHo_ok ((pnb_cond wMk t0F numV numT s a _ _).trans hc) (pnb_leaf wMk t0F numV numT s a _ _)
theorem gl (a f u : Int) : gcObs 0 0 (selI [0, 2, 4, 5, 6, 7, 8] l) (code cfXg (call cfXg 60) 60 cz (cL (cN 1 x23)) (hP2 s (vI l) a f u) (stI l)) = some (.normal, hP3 s (vI l) a f u f, stI l) := by
  cases l with
  | nil => exact of_treeM tHo_ok (pla wMk t0F numV numT s a f u)
  | cons x r => exact of_treeM tHo_ok (plb wMk t0F numV numT s a f u _ _)
theorem gd {a : Nat} (hs : s.size ≤ 1000000) : gcObs 0 0 (selI [0, 2, 4, 5, 6, 7, 8] l) (code cfXg (call cfXg 60) 60 cz (cL (cN 2 x23)) (hP3 s (vI l) a (numV s a) (u0 s a : Nat) (numV s a)) (stI l)) = some (.normal, hP3 s (vI l) a (numV s a) (uT s a : Nat) (zV s a), stI l) := by
  by_cases h : u0 s a < s.size
  · have i0 : decide ((u0 s a : Int) < ((ByteArray.size s : Nat) : Int)) = true := decide_eq_true (by omega)
    have i1 : decide ((0 : Int) ≤ (u0 s a : Int)) = true := decide_eq_true (by omega)
    have i2 : Option.isSome s[Int.toNat (u0 s a : Int)]? = true := some_at h
    have hinc : IntKind.wrap .i64 ((u0 s a : Int) + 1) = ((u0 s a + 1 : Nat) : Int) := incN (by omega)
    have ib : byE s (u0 s a : Int) = (byN s (u0 s a) == 45) := by
      have e : byE s (u0 s a : Int) = (((byN s (u0 s a) : Nat) : Int) == 45) := by unfold byE; rw [Int.toNat_natCast]; rfl
      rw [e]
      cases hb : (byN s (u0 s a) == 45) with
      | true => rw [beq_iff_eq] at hb; rw [hb]; rfl
      | false => rw [beq_eq_false_iff_ne] at hb ⊢; omega
    cases hd : (byN s (u0 s a) == 45) with
    | true =>
      have hD : isD s (u0 s a) = true := by unfold isD; rw [decide_eq_true h, hd]; rfl
      have e1 : uT s a = u0 s a + 1 + numP s (u0 s a + 1) := by unfold uT; rw [hD]; rfl
      have e2 : zV s a = numV s (u0 s a + 1) := by unfold zV; rw [hD]; rfl
      have hc : (decide ((0 : Int) ≤ ((u0 s a + 1 : Nat) : Int)) && (decide (((u0 s a + 1 : Nat) : Int) ≤ ((ByteArray.size s : Nat) : Int)) && decide (ByteArray.size s ≤ 1000000))) = true := by
        rw [decide_eq_true (by omega), decide_eq_true (by omega), decide_eq_true hs]; rfl
      rw [e1, e2]
      have hT : numT s (inc (u0 s a : Int)).toNat = ((u0 s a + 1 + numP s (u0 s a + 1) : Nat) : Int) := by
        rw [show inc (u0 s a : Int) = ((u0 s a + 1 : Nat) : Int) from hinc, Int.toNat_natCast]; rfl
      have hV : numV s (inc (u0 s a : Int)).toNat = numV s (u0 s a + 1) := by
        rw [show inc (u0 s a : Int) = ((u0 s a + 1 : Nat) : Int) from hinc, Int.toNat_natCast]
      cases l with
      | nil =>
        have hl := pd2a_leaf wMk t0F numV numT s a (numV s a) (u0 s a) (numV s a)
        rw [hT, hV] at hl
        refine path_eval tHo_ok ((pd2a_cond wMk t0F numV numT s a (numV s a) (u0 s a) (numV s a)).trans ?_) hl
        unfold pd2a_c
        rw [i0, i1, i2, ib, hd, hinc, hc]; rfl
      | cons x r =>
        have hl := pd2b_leaf wMk t0F numV numT s a (numV s a) (u0 s a) (numV s a) (x :: r).length (rowI (x :: r))
        rw [hT, hV] at hl
        refine path_eval tHo_ok ((pd2b_cond wMk t0F numV numT s a (numV s a) (u0 s a) (numV s a) (x :: r).length (rowI (x :: r))).trans ?_) hl
        unfold pd2b_c
        rw [i0, i1, i2, ib, hd, hinc, hc]; rfl
    | false =>
      have hD : isD s (u0 s a) = false := by unfold isD; rw [hd, Bool.and_false]
      have e1 : uT s a = u0 s a := by unfold uT; rw [hD]; rfl
      have e2 : zV s a = numV s a := by unfold zV; rw [hD]; rfl
      rw [e1, e2]
      cases l with
      | nil =>
        refine path_eval tHo_ok ((pd1a_cond wMk t0F numV numT s a (numV s a) (u0 s a) (numV s a)).trans ?_) (pd1a_leaf wMk t0F numV numT s a (numV s a) (u0 s a) (numV s a))
        unfold pd1a_c
        rw [i0, i1, i2, ib, hd]; rfl
      | cons x r =>
        refine path_eval tHo_ok ((pd1b_cond wMk t0F numV numT s a (numV s a) (u0 s a) (numV s a) (x :: r).length (rowI (x :: r))).trans ?_) (pd1b_leaf wMk t0F numV numT s a (numV s a) (u0 s a) (numV s a) (x :: r).length (rowI (x :: r)))
        unfold pd1b_c
        rw [i0, i1, i2, ib, hd]; rfl
  · have i0 : decide ((u0 s a : Int) < ((ByteArray.size s : Nat) : Int)) = false := decide_eq_false (by omega)
    have hD : isD s (u0 s a) = false := by unfold isD; rw [decide_eq_false h]; rfl
    have e1 : uT s a = u0 s a := by unfold uT; rw [hD]; rfl
    have e2 : zV s a = numV s a := by unfold zV; rw [hD]; rfl
    rw [e1, e2]
    cases l with
    | nil =>
      refine path_eval tHo_ok ((pd0a_cond wMk t0F numV numT s a (numV s a) (u0 s a) (numV s a)).trans ?_) (pd0a_leaf wMk t0F numV numT s a (numV s a) (u0 s a) (numV s a))
      unfold pd0a_c
      rw [i0]; rfl
    | cons x r =>
      refine path_eval tHo_ok ((pd0b_cond wMk t0F numV numT s a (numV s a) (u0 s a) (numV s a) (x :: r).length (rowI (x :: r))).trans ?_) (pd0b_leaf wMk t0F numV numT s a (numV s a) (u0 s a) (numV s a) (x :: r).length (rowI (x :: r)))
      unfold pd0b_c
      rw [i0]; rfl
theorem gi (a f u z : Int) : gcObs 0 0 (selI [0, 2, 4, 5, 6, 7, 8, 9] l) (code cfXg (call cfXg 60) 60 cz (cL (cL (cN 3 x23))) (hP3 s (vI l) a f u z) (stI l)) = some (.normal, hP4 s (vI l) a f u z f, stI l) := by
  cases l with
  | nil => exact of_treeM tHo_ok (pia wMk t0F numV numT s a f u z)
  | cons x r => exact of_treeM tHo_ok (pib wMk t0F numV numT s a f u z _ _)
theorem gz (a f u z c : Int) : gcObs 0 0 (selI [0, 2, 4, 5] l) (code cfXg (call cfXg 60) 60 cz (cN 4 x23) (hP4 s (vI l) a f u z c) (stI l)) = some (.normal, hP s (vI l) (inc u), stI l) := by
  cases l with
  | nil => exact of_treeM tHo_ok (pza wMk t0F numV numT s a f u z c)
  | cons x r => exact of_treeM tHo_ok (pzb wMk t0F numV numT s a f u z c _ _)
def K4 : List Tmp := [0, 2, 4, 5, 6, 7, 8, 9]
def goI (z c : Int) : Bool := decide (c ≤ z) && decide (c < 256)
def selL (z c : Int) (l : List Int) : Ex → List Tmp × List Kept := selR K4 (bif goI z c then (match l with | [] => some 1 | _ :: _ => some 2) else (match l with | [] => none | _ :: _ => some 0))
theorem gx (a f u z c : Int) (hl : l.length < 4294967296) : gcObs 0 0 (selL z c l) (code cfXg (call cfXg 60) 60 cz l23 (hP4 s (vI l) a f u z c) (stI l)) = some (bif goI z c then (.normal, hP4 s (vI (l ++ [c])) a f u z (inc c), stI (l ++ [c])) else (.exit 2, hP4 s (vI l) a f u z c, stI l)) := by
  unfold selL
  cases hg : goI z c with
  | true =>
    unfold goI at hg
    rw [Bool.and_eq_true] at hg
    cases l with
    | nil =>
      refine path_eval tHo_ok ((pya_cond wMk t0F numV numT s a f u z c).trans ?_) (pya_leaf wMk t0F numV numT s a f u z c)
      unfold pya_c
      rw [hg.1, hg.2]; rfl
    | cons x r =>
      obtain ⟨c1, c2, c3, c4⟩ := app_cL (rowI_size (x :: r)) hl
      have h := pyb_leaf wMk t0F numV numT s a f u z c (x :: r).length (rowI (x :: r))
      rw [rowI_add] at h
      have e : (sl0 ((x :: r).length + 1)) = vI (x :: r ++ [c]) := by
        show sl0 _ = sl0 (x :: (r ++ [c])).length
        congr 1
        simp
      rw [e] at h
      refine path_eval tHo_ok ((pyb_cond wMk t0F numV numT s a f u z c (x :: r).length (rowI (x :: r))).trans ?_) h
      unfold pyb_c
      rw [hg.1, hg.2, c1, c2, c3, c4]; rfl
  | false =>
    unfold goI at hg
    by_cases h1 : c ≤ z
    · rw [decide_eq_true h1, Bool.true_and] at hg
      cases l with
      | nil =>
        refine path_eval tHo_ok ((px1a_cond wMk t0F numV numT s a f u z c).trans ?_) (px1a_leaf wMk t0F numV numT s a f u z c)
        unfold px1a_c
        rw [decide_eq_true h1, hg]; rfl
      | cons x r =>
        refine path_eval tHo_ok ((px1b_cond wMk t0F numV numT s a f u z c (x :: r).length (rowI (x :: r))).trans ?_) (px1b_leaf wMk t0F numV numT s a f u z c (x :: r).length (rowI (x :: r)))
        unfold px1b_c
        rw [decide_eq_true h1, hg]; rfl
    · cases l with
      | nil =>
        refine path_eval tHo_ok ((px0a_cond wMk t0F numV numT s a f u z c).trans ?_) (px0a_leaf wMk t0F numV numT s a f u z c)
        unfold px0a_c
        rw [decide_eq_false h1]; rfl
      | cons x r =>
        refine path_eval tHo_ok ((px0b_cond wMk t0F numV numT s a f u z c (x :: r).length (rowI (x :: r))).trans ?_) (px0b_leaf wMk t0F numV numT s a f u z c (x :: r).length (rowI (x :: r)))
        unfold px0b_c
        rw [decide_eq_false h1]; rfl
end
end
end Go.Proofs.YtmpokdnpkjcnbaaDoor

/- The document's Parse, told. -/
namespace Go.Proofs.YtmpokdnpkjcnbaaDoor
open Go.Am
noncomputable section
theorem goI_cnt {f z : Int} (i : Nat) : goI z (f + i) = decide (i < cntI f z) := by
  unfold goI cntI
  by_cases h : i < (min z 255 + 1 - f).toNat
  · rw [decide_eq_true h, decide_eq_true (by omega), decide_eq_true (by omega)]; rfl
  · rw [decide_eq_false h]
    by_cases h1 : f + (i : Int) ≤ z
    · rw [decide_eq_true h1, decide_eq_false (by omega)]; rfl
    · rw [decide_eq_false h1]; rfl
theorem cntI_le {f : Int} (z : Int) (hf : -1 ≤ f) : cntI f z ≤ 257 := by
  unfold cntI
  omega
theorem fill23 [Z : Zone] [T : Tab] {B : Nat} {s : ByteArray} {l : List Int} {a u z f : Int} (hf : -1 ≤ f) (hf2 : f < 10000) (hl : l.length < 4000000000) {fr0 : Fr} {s0 : St} (hS : Sn ⟨0, B⟩ 0 0 cz (hP4 s (vI l) a f u z f) (stI l) fr0 s0) :
    AWp cfXg ⟨0, B⟩ cz (.block 2 (.loop l23)) fr0 s0 (At B .normal (hP4 s (vI (addI l f (cntI f z))) a f u z (f + cntI f z)) (stI (addI l f (cntI f z))) s0) := by
  have hN := cntI_le z hf
  have hS' : Sn ⟨0, B⟩ 0 0 cz (hP4 s (vI (addI l f 0)) a f u z (f + (0 : Nat))) (stI (addI l f 0)) fr0 s0 := by
    rw [show f + ((0 : Nat) : Int) = f by omega]; exact hS
  refine AWp.block ?_
  refine AWp.countPI (m := 0) (n := 60) (lim := 60) (N := cntI f z) (head := fun i => hP4 s (vI (addI l f i)) a f u z (f + (i : Nat))) (sh := fun i => stI (addI l f i)) (sel := fun i => selL z (f + (i : Nat)) (addI l f i))
    (stop := fun i => if i < cntI f z then none else some (.exit 2, hP4 s (vI (addI l f i)) a f u z (f + (i : Nat)), stI (addI l f i))) goodXg rfl (fun _ => Nat.zero_le _) (fun _ => Nat.zero_le _)
    (fun i hi _ => ?_) (fun i hi => ?_) (fun _ _ => ⟨Nat.zero_le _, fun j hj => absurd hj (Nat.not_lt_zero _)⟩) ⟨cntI f z, Nat.le_refl _, by simp⟩ (fun i r hr => ?_) (fun i r hi hno hr fr' s' hS2 hG2 => ?_) (snP hS') (Grow.refl _ _)
  · refine (gx a f u z (f + (i : Nat)) (by rw [addI_len]; omega)).trans ?_
    rw [goI_cnt]
    by_cases h : i < cntI f z
    · have hinc : inc (f + (i : Int)) = f + ((i + 1 : Nat) : Int) := by
        have : IntKind.wrap .i64 (f + (i : Int) + 1) = f + (i : Int) + 1 := wrapI (by omega) (by omega)
        rw [show inc (f + (i : Int)) = IntKind.wrap .i64 (f + (i : Int) + 1) from rfl, this]; omega
      rw [decide_eq_true h, if_pos h, hinc]; rfl
    · rw [decide_eq_false h, if_neg h]; rfl
  · have key : ∀ (l l' : List Int) (ex : Ex), plainJ (stI l) (selL z (f + (i : Nat)) l' ex).2 0 := fun l l' ex => plainI K4 l _ ex
    by_cases h : i < cntI f z
    · rw [if_pos h]; exact key _ _ _
    · rw [if_neg h]; exact key _ _ _
  · split at hr
    · cases hr
    · cases hr; intro e; cases e
  · by_cases h : i < cntI f z
    · rw [if_pos h] at hr; cases hr
    · rw [if_neg h] at hr; cases hr
      have e : i = cntI f z := by omega
      subst e
      exact ⟨hG2, rfl, snQ hS2⟩
theorem body23 [Z : Zone] [T : Tab] {B : Nat} {s : ByteArray} {l : List Int} {a : Nat} (hs : s.size ≤ 1000000) (ha : a < s.size) (hl : l.length < 4000000000) {fr0 : Fr} {s0 : St} (hS : Sn ⟨0, B⟩ 0 0 cz (hP s (vI l) a) (stI l) fr0 s0) :
    AWp cfXg ⟨0, B⟩ cz (.block 1 x23) fr0 s0 (At B .normal (hP s (vI (lstep s a l)) ((uT s a + 1 : Nat) : Int)) (stI (lstep s a l)) s0) := by
  refine AWp.block ?_
  rw [x23_eq]
  have hp := numP_le s a
  have hp2 := numP_le s (u0 s a + 1)
  have hu : uT s a ≤ 2000000 := by
    unfold uT
    cases isD s (u0 s a)
    · rw [cond_false]; unfold u0; omega
    · rw [cond_true]; unfold u0 at hp2 ⊢; omega
  refine AWp.seq (AWp.seen goodXg rfl hS (Nat.zero_le _) (gn hs (by omega)) (plainS _ _ _ _) fun fr1 s1 hS1 hG1 => ⟨hG1, ?_⟩)
  refine AWp.seq (AWp.seen goodXg rfl hS1 (Nat.zero_le _) (gl ..) (plainS _ _ _ _) fun fr2 s2 hS2 hG2 => ⟨hG2, ?_⟩)
  refine AWp.seq (AWp.seen goodXg rfl hS2 (Nat.zero_le _) (gd hs) (plainS _ _ _ _) fun fr3 s3 hS3 hG3 => ⟨hG3, ?_⟩)
  refine AWp.seq (AWp.seq (AWp.seen goodXg rfl hS3 (Nat.zero_le _) (gi ..) (plainS _ _ _ _) fun fr4 s4 hS4 hG4 => ⟨hG4, ?_⟩))
  refine (fill23 (numV_ge s a) (numV_lt s a) hl hS4).mono fun ex fr5 s5 h => ?_
  obtain ⟨hG5, rfl, hS5⟩ := h
  refine ⟨hG4.trans hG5, ?_⟩
  refine AWp.seen goodXg rfl hS5 (Nat.zero_le _) (gz ..) (plainS _ _ _ _) fun fr6 s6 hS6 hG6 => ?_
  rw [show inc (uT s a : Int) = ((uT s a + 1 : Nat) : Int) from incN (by omega)] at hS6
  have hGa : Grow cz s0 s3 := (hG1.trans hG2).trans hG3
  have hGb : Grow cz s3 s6 := (hG4.trans hG5).trans hG6
  exact ⟨hGa.trans hGb, rfl, hS6⟩
/-- the numbers that a text tells -/
def allL (s : ByteArray) : List Int := parL s (s.size + 1) 0 []
def setL : List Int → B256
  | [] => setI #[] 0 0
  | x :: r => setI (rowI (x :: r)) 0 (x :: r).length
/-- the mask that a text tells, by the document -/
def refM (s : ByteArray) : B256 := setL (allL s)
def refOk (s : ByteArray) : Bool := (textB (refM s)).toList == s.toList
def refW (s : ByteArray) (k : Nat) : Int := bif refOk s then wd (refM s) k else 0
def refE (s : ByteArray) : Int := bif refOk s then 0 else 5
theorem rowI_ints (l : List Int) (h : l.length ≤ 4000000000) : intsOk (rowI l) 0 l.length = true := by
  unfold intsOk maxI
  rw [Bool.and_eq_true, decide_eq_true_eq, List.all_eq_true]
  refine ⟨by omega, fun t ht => ?_⟩
  have ht' := List.mem_range.1 ht
  rw [Nat.zero_add]
  have : (rowI l)[t]? = some (.int .i64 l[t]) := by
    unfold rowI
    simp [List.getElem?_eq_getElem ht']
  rw [this]; rfl
theorem end23 {s : ByteArray} {l : List Int} {a : Int} (hl : l.length ≤ 4000000000) (hL : allL s = l) :
    gcObs 0 0 (kp [2, 3] []) (code cfXg (call cfXg 60) 60 cz (cN 4 b23) (hP s (vI l) a) (stI l)) = some (.ret, fPe (refW s 0) (refW s 1) (refW s 2) (refW s 3) (refE s), st0) := by
  unfold refW refE
  have hM : refM s = setL l := by unfold refM; rw [hL]
  cases ho : refOk s with
  | true =>
    unfold refOk at ho
    rw [cond_true, cond_true, cond_true, cond_true, cond_true]
    cases l with
    | nil =>
      have e : wMk #[] 0 0 = fun k => wd (refM s) k := by rw [hM]; rfl
      have hl := pq0a_leaf wMk t0F numV numT s a
      simp only [e] at hl
      refine path_eval tHo_ok ((pq0a_cond wMk t0F numV numT s a).trans ?_) hl
      unfold pq0a_c
      simp only [e]
      rw [wd_inQ, t0F_wd, ho]; rfl
    | cons x r =>
      have e : wMk (rowI (x :: r)) 0 (x :: r).length = fun k => wd (refM s) k := by rw [hM]; rfl
      have hl' := pq0b_leaf wMk t0F numV numT s a (x :: r).length (rowI (x :: r))
      simp only [e] at hl'
      refine path_eval tHo_ok ((pq0b_cond wMk t0F numV numT s a (x :: r).length (rowI (x :: r))).trans ?_) hl'
      unfold pq0b_c
      simp only [e]
      rw [wd_inQ, t0F_wd, ho, rowI_free, rowI_ints _ hl, rowI_size, decide_eq_true (Nat.le_refl _), decide_eq_true (by simp : (x :: r).length ≠ 0)]; rfl
  | false =>
    unfold refOk at ho
    rw [cond_false, cond_false, cond_false, cond_false, cond_false]
    cases l with
    | nil =>
      have e : wMk #[] 0 0 = fun k => wd (refM s) k := by rw [hM]; rfl
      refine path_eval tHo_ok ((pq1a_cond wMk t0F numV numT s a).trans ?_) (pq1a_leaf wMk t0F numV numT s a)
      unfold pq1a_c
      simp only [e]
      rw [wd_inQ, t0F_wd, ho]; rfl
    | cons x r =>
      have e : wMk (rowI (x :: r)) 0 (x :: r).length = fun k => wd (refM s) k := by rw [hM]; rfl
      refine path_eval tHo_ok ((pq1b_cond wMk t0F numV numT s a (x :: r).length (rowI (x :: r))).trans ?_) (pq1b_leaf wMk t0F numV numT s a (x :: r).length (rowI (x :: r)))
      unfold pq1b_c
      simp only [e]
      rw [wd_inQ, t0F_wd, ho, rowI_free, rowI_ints _ hl, rowI_size, decide_eq_true (Nat.le_refl _), decide_eq_true (by simp : (x :: r).length ≠ 0)]; rfl
theorem res23_k : (fun a b c d e : Int => resultsV cfXg cz (fPe a b c d e) st0 [.cell 2 24, .tmp 3]) = fun a b c d e => some (.tuple #[mk a b c d, .int .i64 e]) := by kernel_rfl
theorem res23 (a b c d e : Int) : resultsV cfXg cz (fPe a b c d e) st0 [.cell 2 24, .tmp 3] = some (.tuple #[mk a b c d, .int .i64 e]) := congrFun (congrFun (congrFun (congrFun (congrFun res23_k a) b) c) d) e
theorem uT_ge (s : ByteArray) (a : Nat) : a ≤ uT s a := by
  unfold uT
  cases isD s (u0 s a)
  · rw [cond_false]; unfold u0; omega
  · rw [cond_true]; unfold u0; omega
theorem ok23 [Z : Zone] [T : Tab] {B : Nat} {s : ByteArray} (hs : s.size ≤ 1000000) : AWp cfXg ⟨0, B⟩ cz b23 (frame0 23 (ntOf 23) #[.string s]) st0
    fun ex fr' s' => (ex = .normal ∨ ex = .ret) ∧ ∃ frj sj, Sn ⟨0, B⟩ 0 0 cz frj sj fr' s' ∧ resultsV cfXg cz frj sj [.cell 2 24, .tmp 3] = some (.tuple #[mk (refW s 0) (refW s 1) (refW s 2) (refW s 3), .int .i64 (refE s)]) := by
  rw [b23_eq]
  refine AWp.nestFirst (n := 60) (lim := 60) goodXg (of_treeM tHo_ok (s23 wMk t0F numV numT s)) trivial (Nat.zero_le _) fun fr1 s1 hS1 => ?_
  refine AWp.seq (AWp.block ?_)
  refine AWp.loop (I := fun (q : Nat × Nat × List Int) fr' s' => s.size < q.2.1 + q.1 ∧ q.2.2.length ≤ 257 * q.2.1 ∧ parL s q.1 q.2.1 q.2.2 = allL s ∧ q.2.1 ≤ s.size + 10 ∧ Sn ⟨0, B⟩ 0 0 cz (hP s (vI q.2.2) q.2.1) (stI q.2.2) fr' s' ∧ Grow cz s1 s') (fun q => q.1) (fun q fr' s' hI => ?_) (s.size + 1, 0, []) fr1 s1 ⟨by simp, by simp, rfl, by simp, hS1, Grow.refl _ _⟩
  obtain ⟨n, a, l⟩ := q
  obtain ⟨hn, hl, hL, hab, hS, hG⟩ := hI
  simp only at hn hl hL hab hS hG
  rw [k23_eq]
  by_cases ha : a < s.size
  · refine AWp.seq (AWp.seen goodXg rfl hS (Nat.zero_le _) (gc_t ha) (plainS _ _ _ _) fun fr2 s2 hS2 hG2 => ⟨hG2, ?_⟩)
    refine (body23 hs ha (by omega) hS2).mono fun ex fr3 s3 h => ?_
    obtain ⟨hG3, rfl, hS3⟩ := h
    have hu := uT_ge s a
    have hp := numP_le s a
    have hp2 := numP_le s (u0 s a + 1)
    have hlen : (lstep s a l).length ≤ 257 * (uT s a + 1) := by
      unfold lstep
      rw [addI_len]
      have := cntI_le (f := numV s a) (zV s a) (numV_ge s a)
      omega
    have hu2 : uT s a + 1 ≤ s.size + 10 := by
      unfold uT
      cases hd : isD s (u0 s a)
      · rw [cond_false]; unfold u0; omega
      · rw [cond_true]
        have : u0 s a < s.size := by
          unfold isD at hd
          rw [Bool.and_eq_true, decide_eq_true_eq] at hd
          exact hd.1
        omega
    cases n with
    | zero => omega
    | succ n =>
      have hL' : parL s n (uT s a + 1) (lstep s a l) = allL s := by
        rw [← hL]
        show _ = if a < s.size then parL s n (uT s a + 1) (lstep s a l) else l
        rw [if_pos ha]
      exact ⟨hG2.trans hG3, (n, uT s a + 1, lstep s a l), by simp, by show s.size < uT s a + 1 + n; omega, hlen, hL', hu2, hS3, hG.trans (hG2.trans hG3)⟩
  · refine AWp.seq (AWp.seen (ex := .exit 0) goodXg rfl hS (Nat.zero_le _) (gc_f ha) (plainS _ _ _ _) fun fr2 s2 hS2 hG2 => ⟨hG2, hG2, hG.trans hG2, ?_⟩)
    have hL' : allL s = l := by
      rw [← hL]
      cases n with
      | zero => rfl
      | succ n =>
        show (if a < s.size then parL s n (uT s a + 1) (lstep s a l) else l) = l
        rw [if_neg ha]
    exact AWp.seen goodXg rfl hS2 (Nat.zero_le _) (end23 (by omega) hL') trivial fun fr3 s3 hS3 _ => ⟨.inr rfl, _, _, hS3, res23 ..⟩
theorem i23_fn : cfXg.fns 23 = some { body := b23, nt := ntOf 23, results := [.cell 2 24, .tmp 3], pure := false } := by kernel_rfl
theorem nt23_le : 1 ≤ ntOf 23 := by decide +kernel
def refO (w : ByteArray → Nat → Int) (e : ByteArray → Int) : Array Value → DT (Option (Value × St))
  | ⟨[.string s]⟩ => .must (decide (s.size ≤ 1000000)) (.leaf (some (.tuple #[mk (w s 0) (w s 1) (w s 2) (w s 3), .int .i64 (e s)], st0))) (.leaf none)
  | _ => .leaf none
theorem tells23 [Z : Zone] [T : Tab] : Tells cfXg 23 fun a => (refO refW refE a).eval := by
  refine tells_seen goodXg rfl i23_fn fun args x hx => ?_
  unfold refO at hx
  split at hx
  · rename_i s
    rw [DT.eval_must] at hx
    cases h : decide (s.size ≤ 1000000) with
    | false => rw [h] at hx; cases hx
    | true =>
      rw [h, cond_true, DT.eval_leaf] at hx
      cases hx
      exact ⟨by simp [freeN], nt23_le, _, rfl, by simp [freeN, mk], fun b => ok23 (of_decide_eq_true h)⟩
  · cases hx
def TXj : FuncId → Option (Array Value → DT (Option (Value × St)))
  | 23 => some (refO refW refE)
  | _ => none
def cfXj : Cfg := cfXg.told TXj
theorem goodXj [Z : Zone] [T : Tab] (B : Base) : Go.Am.Good cfXj B := tells_good (fun B => goodXg B) (fun f F h => by
  unfold TXj at h
  split at h
  · cases h; exact ⟨⟨_, i23_fn⟩, tells23⟩
  · cases h) B
def tXj : FuncId → Option HandT := treeT TXj tXg
theorem tXj_ok : ∀ f k hd, tXj f = some k → cfXj.hand f = some hd → ∀ a c s, (k a c s).eval = hd a c s := treeT_ok tXg_ok
end
end Go.Proofs.YtmpokdnpkjcnbaaDoor
