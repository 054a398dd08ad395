/- NetScripts: the walk of a round. -/
import Derived.Test.YtgcffmkifjnmlaaNR
namespace Go.Proofs.Ytgcffmkifjnmlaa
open Go.Am
noncomputable section
def b3 : Code := bodyOf 3
def k3c : Code := cB (cB (cR (cL (cN 6 b3))))
theorem b3_eq : b3 = nest [cL b3, cL (cN 1 b3), cL (cN 2 b3), cL (cN 3 b3), cL (cN 4 b3), cL (cN 5 b3)] (.seq (.seq (cL (cL (cN 6 b3))) (.block 0 (.loop k3c))) (cN 7 b3)) := by kernel_rfl
/-- Both things, laid. -/
def sB (A B : Net) : St := ⟨(((Tr.nil.put 0 (boxO false A.a A.b (netV 1 A.nl A.M))).set 1 (netO A.nl A.M)).put 2 (boxO true B.a B.b (netV 3 B.nl B.M))).set 3 (netO B.nl B.M), 4⟩
def ptrV (i : Nat) : Value := .pointer (some ⟨i, 0, none⟩)
def frH (X : Array Value) (o n : Nat) (i : Int) : Fr := frS 3 [(1, VS X o n), (5, ptrV 0), (6, ptrV 2), (7, .int .i64 i)]
def pI (o : Nat) (i : Int) : Nat := o + Int.toNat i * 3
def sA (X : Array Value) (o : Nat) (i : Int) : List Value := [VS (vX X[pI o i + 1]?) (vO X[pI o i + 1]?) (vL X[pI o i + 1]?)]
def iA (X : Array Value) (o : Nat) (i : Int) : List Value := [.int .i64 (toI X[pI o i + 2]?)]
def v1 (A : Net) : Value := netV 1 A.nl A.M
def v3 (B : Net) : Value := netV 3 B.nl B.M
def nA (A : Net) : Net := ⟨A.a, A.b, isNilV (v1 A), rowM (netO A.nl A.M)⟩
def nB (B : Net) : Net := ⟨B.a, B.b, isNilV (v3 B), rowM (netO B.nl B.M)⟩
section
variable (E E' : Eff) (A B : Net) (l : List Value)
def S1 : St := effS false E (nA A) 0 (v1 A) l (sB A B)
def S2 : St := effS true E' (nB B) 2 (v3 B) l (S1 E A B l)
def w1 : Value := newV 4 (v1 A) (E.row (nA A) l)
def w3 : Value := newV 5 (v3 B) (E'.row (nB B) l)
def ls (s : St) (v : Value) : Option AObj := listO (isNilV v) (findM s v)
def S3 : St := ⟨(S2 E E' A B l).heap.set 6 (ls (S2 E E' A B l) (w1 E A l)), 7⟩
def c1 : Bool := effOk 0 (v1 A) cz (sB A B) l && E.ok (nA A) l && plainN 9 (E.res (nA A) l)
def c2 : Bool := effOk 2 (v3 B) cz (S1 E A B l) l && E'.ok (nB B) l && plainN 9 (E'.res (nB B) l)
def cl (v : Value) (n : Nat) (s : St) : Bool := okL listP 0 v (cf n) s && decide ((cf n).floor ≤ n) && (cf n).vis 0
def cs (s : St) (u v : Value) : Bool := okO cz s u && okO cz s v && sameB (findM s u) (findM s v)
def c3 : Bool := cl (w1 E A l) 6 (S2 E E' A B l)
def lv1 : Value := listV 6 (isNilV (w1 E A l)) (findM (S2 E E' A B l) (w1 E A l))
def c4 : Bool := cs (S3 E E' A B l) (lv1 E E' A B l) (w3 E' B l)
def c5 : Bool := cl (w1 E A l) 7 (S3 E E' A B l)
end
def S3' (A B : Net) : St := ⟨(sB A B).heap.set 4 (ls (sB A B) (v1 A)), 5⟩
def rObs : Option (Ex × Fr × St) → Option (Ex × (FuncId × Nat × Option Nat) × List (Option Value) × List (Option AObj) × Nat)
  | some (ex, fr, s) => some (ex, (fr.fn, fr.nt, fr.round), [1, 5, 6, 7].map fr.tm.get, [0, 1, 2, 3, 4, 5, 6].map s.heap.get, s.next)
  | none => none
def ka0_bits : List Bool := [false, false]
def ka0_c (X : Array Value) (o n : Nat) (i : Int) (A B : Net) : Bool :=
  !(decide (i < ((n : Nat) : Int)))
   && true
theorem ka0_cond_k : (fun (X : Array Value) (o n : Nat) (i : Int) (A B : Net) => (followT ka0_bits (codeT cfS (callT cfS tS 60) 60 cz k3c (frH X o n i) (sB A B))).1) = fun (X : Array Value) (o n : Nat) (i : Int) (A B : Net) => ka0_c X o n i A B := by kernel_rfl
theorem ka0_cond (X : Array Value) (o n : Nat) (i : Int) (A B : Net) : (followT ka0_bits (codeT cfS (callT cfS tS 60) 60 cz k3c (frH X o n i) (sB A B))).1 = ka0_c X o n i A B := congrFun (congrFun (congrFun (congrFun (congrFun (congrFun ka0_cond_k X) o) n) i) A) B
theorem ka0_leaf_k : (fun (X : Array Value) (o n : Nat) (i : Int) (A B : Net) => pathObs rObs ka0_bits (codeT cfS (callT cfS tS 60) 60 cz k3c (frH X o n i) (sB A B))) = fun (X : Array Value) (o n : Nat) (i : Int) (A B : Net) => some (.exit 0, (3, 59, none), [some (VS X o n), some (ptrV 0), some (ptrV 2), some (.int .i64 i)], [some (boxO false A.a A.b (v1 A)), netO A.nl A.M, some (boxO true B.a B.b (v3 B)), netO B.nl B.M, none, none, none], 4) := by kernel_rfl
theorem ka0_leaf (X : Array Value) (o n : Nat) (i : Int) (A B : Net) : pathObs rObs ka0_bits (codeT cfS (callT cfS tS 60) 60 cz k3c (frH X o n i) (sB A B)) = some (.exit 0, (3, 59, none), [some (VS X o n), some (ptrV 0), some (ptrV 2), some (.int .i64 i)], [some (boxO false A.a A.b (v1 A)), netO A.nl A.M, some (boxO true B.a B.b (v3 B)), netO B.nl B.M, none, none, none], 4) := congrFun (congrFun (congrFun (congrFun (congrFun (congrFun ka0_leaf_k X) o) n) i) A) B
def ka1_bits : List Bool := [false, true, true, true, true, true, true, true, true, false, false, false, false, true, false, false, false, false, false, false, false, false, false, false, true, false, false, false, false, false, false, false, true, false, false, false, false, false, false, false, false, true, false, false, false, false]
def ka1_c (X : Array Value) (o n : Nat) (i : Int) (A B : Net) : Bool :=
  (decide (i < ((n : Nat) : Int)))
   && ((decide (0 ≤ i) && decide (i < ((n : Nat) : Int)))
   && ((decide ((pI o i) + 3 ≤ Array.size X))
   && ((cellsOk X ([CK.int .i64] ++ ([CK.sl] ++ ([CK.int .i64] ++ []))) ((pI o i)))
   && ((toI X[(pI o i)]? == 0)
   && ((c1 sendE A B (sA X o i))
   && ((c2 sendE sendE A B (sA X o i))
   && (!(!(((laidN (nA A) (vL X[pI o i + 1]?) : Nat) : Int) == ((laidN (nB B) (vL X[pI o i + 1]?) : Nat) : Int)))
   && ((c3 sendE sendE A B (sA X o i))
   && ((c4 sendE sendE A B (sA X o i))
   && ((c5 sendE sendE A B (sA X o i))
   && (!(sendE.b (nA A) (sA X o i) != sendE.b (nB B) (sA X o i))
   && true)))))))))))
theorem ka1_cond_k : (fun (X : Array Value) (o n : Nat) (i : Int) (A B : Net) => (followT ka1_bits (codeT cfS (callT cfS tS 60) 60 cz k3c (frH X o n i) (sB A B))).1) = fun (X : Array Value) (o n : Nat) (i : Int) (A B : Net) => ka1_c X o n i A B := by kernel_rfl
theorem ka1_cond (X : Array Value) (o n : Nat) (i : Int) (A B : Net) : (followT ka1_bits (codeT cfS (callT cfS tS 60) 60 cz k3c (frH X o n i) (sB A B))).1 = ka1_c X o n i A B := congrFun (congrFun (congrFun (congrFun (congrFun (congrFun ka1_cond_k X) o) n) i) A) B
theorem ka1_leaf_k : (fun (X : Array Value) (o n : Nat) (i : Int) (A B : Net) => pathObs rObs ka1_bits (codeT cfS (callT cfS tS 60) 60 cz k3c (frH X o n i) (sB A B))) = fun (X : Array Value) (o n : Nat) (i : Int) (A B : Net) => some (.normal, (3, 59, none), [some (VS X o n), some (ptrV 0), some (ptrV 2), some (.int .i64 (inc i))], [some (boxO false (sendE.a (nA A) (sA X o i)) (sendE.b (nA A) (sA X o i)) (w1 sendE A (sA X o i))), oldO (netO A.nl A.M) (sendE.row (nA A) (sA X o i)), some (boxO true (sendE.a (nB B) (sA X o i)) (sendE.b (nB B) (sA X o i)) (w3 sendE B (sA X o i))), oldO (netO B.nl B.M) (sendE.row (nB B) (sA X o i)), newO (sendE.row (nA A) (sA X o i)), newO (sendE.row (nB B) (sA X o i)), ls (S2 sendE sendE A B (sA X o i)) (w1 sendE A (sA X o i))], 7) := by kernel_rfl
theorem ka1_leaf (X : Array Value) (o n : Nat) (i : Int) (A B : Net) : pathObs rObs ka1_bits (codeT cfS (callT cfS tS 60) 60 cz k3c (frH X o n i) (sB A B)) = some (.normal, (3, 59, none), [some (VS X o n), some (ptrV 0), some (ptrV 2), some (.int .i64 (inc i))], [some (boxO false (sendE.a (nA A) (sA X o i)) (sendE.b (nA A) (sA X o i)) (w1 sendE A (sA X o i))), oldO (netO A.nl A.M) (sendE.row (nA A) (sA X o i)), some (boxO true (sendE.a (nB B) (sA X o i)) (sendE.b (nB B) (sA X o i)) (w3 sendE B (sA X o i))), oldO (netO B.nl B.M) (sendE.row (nB B) (sA X o i)), newO (sendE.row (nA A) (sA X o i)), newO (sendE.row (nB B) (sA X o i)), ls (S2 sendE sendE A B (sA X o i)) (w1 sendE A (sA X o i))], 7) := congrFun (congrFun (congrFun (congrFun (congrFun (congrFun ka1_leaf_k X) o) n) i) A) B
def ka2_bits : List Bool := [false, true, true, true, true, true, false, true, true, true, true, true, true, true, true, true, true, true, true, false, false, false, false, true, false, false, false, false, false, false, false, false, false, false, true, false, false, false, false, false, false, false, true, false, false, false, false, false, false, false, false, true, false, false, false, false]
def ka2_c (X : Array Value) (o n : Nat) (i : Int) (A B : Net) : Bool :=
  (decide (i < ((n : Nat) : Int)))
   && ((decide (0 ≤ i) && decide (i < ((n : Nat) : Int)))
   && ((decide ((pI o i) + 3 ≤ Array.size X))
   && ((cellsOk X ([CK.int .i64] ++ ([CK.sl] ++ ([CK.int .i64] ++ []))) ((pI o i)))
   && (!(toI X[(pI o i)]? == 0)
   && ((toI X[(pI o i)]? == 1)
   && ((c1 (takeE false) A B (iA X o i))
   && ((c2 (takeE false) (takeE true) A B (iA X o i))
   && ((ByteArray.toList (if (nA A).M.size = 0 then (⟨#[]⟩ : ByteArray) else toStr (nA A).M[(plI (nA A).M.size (toI X[pI o i + 2]?)).toNat]?) == ByteArray.toList (if (nB B).M.size = 0 then (⟨#[]⟩ : ByteArray) else toStr (nB B).M[(plI (nB B).M.size (toI X[pI o i + 2]?)).toNat]?))
   && (!(!((!decide ((nA A).M.size = 0)) == (!decide ((nB B).M.size = 0))))
   && ((c3 (takeE false) (takeE true) A B (iA X o i))
   && ((c4 (takeE false) (takeE true) A B (iA X o i))
   && ((c5 (takeE false) (takeE true) A B (iA X o i))
   && (!((takeE false).b (nA A) (iA X o i) != (takeE true).b (nB B) (iA X o i))
   && true)))))))))))))
theorem ka2_cond_k : (fun (X : Array Value) (o n : Nat) (i : Int) (A B : Net) => (followT ka2_bits (codeT cfS (callT cfS tS 60) 60 cz k3c (frH X o n i) (sB A B))).1) = fun (X : Array Value) (o n : Nat) (i : Int) (A B : Net) => ka2_c X o n i A B := by kernel_rfl
theorem ka2_cond (X : Array Value) (o n : Nat) (i : Int) (A B : Net) : (followT ka2_bits (codeT cfS (callT cfS tS 60) 60 cz k3c (frH X o n i) (sB A B))).1 = ka2_c X o n i A B := congrFun (congrFun (congrFun (congrFun (congrFun (congrFun ka2_cond_k X) o) n) i) A) B
theorem ka2_leaf_k : (fun (X : Array Value) (o n : Nat) (i : Int) (A B : Net) => pathObs rObs ka2_bits (codeT cfS (callT cfS tS 60) 60 cz k3c (frH X o n i) (sB A B))) = fun (X : Array Value) (o n : Nat) (i : Int) (A B : Net) => some (.normal, (3, 59, none), [some (VS X o n), some (ptrV 0), some (ptrV 2), some (.int .i64 (inc i))], [some (boxO false ((takeE false).a (nA A) (iA X o i)) ((takeE false).b (nA A) (iA X o i)) (w1 (takeE false) A (iA X o i))), oldO (netO A.nl A.M) ((takeE false).row (nA A) (iA X o i)), some (boxO true ((takeE true).a (nB B) (iA X o i)) ((takeE true).b (nB B) (iA X o i)) (w3 (takeE true) B (iA X o i))), oldO (netO B.nl B.M) ((takeE true).row (nB B) (iA X o i)), newO ((takeE false).row (nA A) (iA X o i)), newO ((takeE true).row (nB B) (iA X o i)), ls (S2 (takeE false) (takeE true) A B (iA X o i)) (w1 (takeE false) A (iA X o i))], 7) := by kernel_rfl
theorem ka2_leaf (X : Array Value) (o n : Nat) (i : Int) (A B : Net) : pathObs rObs ka2_bits (codeT cfS (callT cfS tS 60) 60 cz k3c (frH X o n i) (sB A B)) = some (.normal, (3, 59, none), [some (VS X o n), some (ptrV 0), some (ptrV 2), some (.int .i64 (inc i))], [some (boxO false ((takeE false).a (nA A) (iA X o i)) ((takeE false).b (nA A) (iA X o i)) (w1 (takeE false) A (iA X o i))), oldO (netO A.nl A.M) ((takeE false).row (nA A) (iA X o i)), some (boxO true ((takeE true).a (nB B) (iA X o i)) ((takeE true).b (nB B) (iA X o i)) (w3 (takeE true) B (iA X o i))), oldO (netO B.nl B.M) ((takeE true).row (nB B) (iA X o i)), newO ((takeE false).row (nA A) (iA X o i)), newO ((takeE true).row (nB B) (iA X o i)), ls (S2 (takeE false) (takeE true) A B (iA X o i)) (w1 (takeE false) A (iA X o i))], 7) := congrFun (congrFun (congrFun (congrFun (congrFun (congrFun ka2_leaf_k X) o) n) i) A) B
def ka3_bits : List Bool := [false, true, true, true, true, true, false, false, true, true, true, true, true, false, false, false, false, true, false, false, false, false, false, false, false, false, false, false, true, false, false, false, false, false, false, false, true, false, false, false, false, false, false, false, false, true, false, false, false, false]
def ka3_c (X : Array Value) (o n : Nat) (i : Int) (A B : Net) : Bool :=
  (decide (i < ((n : Nat) : Int)))
   && ((decide (0 ≤ i) && decide (i < ((n : Nat) : Int)))
   && ((decide ((pI o i) + 3 ≤ Array.size X))
   && ((cellsOk X ([CK.int .i64] ++ ([CK.sl] ++ ([CK.int .i64] ++ []))) ((pI o i)))
   && (!(toI X[(pI o i)]? == 0)
   && (!(toI X[(pI o i)]? == 1)
   && ((toI X[(pI o i)]? == 2)
   && ((c1 (dropE false) A B (iA X o i))
   && ((c2 (dropE false) (dropE true) A B (iA X o i))
   && (!(!((!decide ((nA A).M.size = 0)) == (!decide ((nB B).M.size = 0))))
   && ((c3 (dropE false) (dropE true) A B (iA X o i))
   && ((c4 (dropE false) (dropE true) A B (iA X o i))
   && ((c5 (dropE false) (dropE true) A B (iA X o i))
   && (!((dropE false).b (nA A) (iA X o i) != (dropE true).b (nB B) (iA X o i))
   && true)))))))))))))
theorem ka3_cond_k : (fun (X : Array Value) (o n : Nat) (i : Int) (A B : Net) => (followT ka3_bits (codeT cfS (callT cfS tS 60) 60 cz k3c (frH X o n i) (sB A B))).1) = fun (X : Array Value) (o n : Nat) (i : Int) (A B : Net) => ka3_c X o n i A B := by kernel_rfl
theorem ka3_cond (X : Array Value) (o n : Nat) (i : Int) (A B : Net) : (followT ka3_bits (codeT cfS (callT cfS tS 60) 60 cz k3c (frH X o n i) (sB A B))).1 = ka3_c X o n i A B := congrFun (congrFun (congrFun (congrFun (congrFun (congrFun ka3_cond_k X) o) n) i) A) B
theorem ka3_leaf_k : (fun (X : Array Value) (o n : Nat) (i : Int) (A B : Net) => pathObs rObs ka3_bits (codeT cfS (callT cfS tS 60) 60 cz k3c (frH X o n i) (sB A B))) = fun (X : Array Value) (o n : Nat) (i : Int) (A B : Net) => some (.normal, (3, 59, none), [some (VS X o n), some (ptrV 0), some (ptrV 2), some (.int .i64 (inc i))], [some (boxO false ((dropE false).a (nA A) (iA X o i)) ((dropE false).b (nA A) (iA X o i)) (w1 (dropE false) A (iA X o i))), oldO (netO A.nl A.M) ((dropE false).row (nA A) (iA X o i)), some (boxO true ((dropE true).a (nB B) (iA X o i)) ((dropE true).b (nB B) (iA X o i)) (w3 (dropE true) B (iA X o i))), oldO (netO B.nl B.M) ((dropE true).row (nB B) (iA X o i)), newO ((dropE false).row (nA A) (iA X o i)), newO ((dropE true).row (nB B) (iA X o i)), ls (S2 (dropE false) (dropE true) A B (iA X o i)) (w1 (dropE false) A (iA X o i))], 7) := by kernel_rfl
theorem ka3_leaf (X : Array Value) (o n : Nat) (i : Int) (A B : Net) : pathObs rObs ka3_bits (codeT cfS (callT cfS tS 60) 60 cz k3c (frH X o n i) (sB A B)) = some (.normal, (3, 59, none), [some (VS X o n), some (ptrV 0), some (ptrV 2), some (.int .i64 (inc i))], [some (boxO false ((dropE false).a (nA A) (iA X o i)) ((dropE false).b (nA A) (iA X o i)) (w1 (dropE false) A (iA X o i))), oldO (netO A.nl A.M) ((dropE false).row (nA A) (iA X o i)), some (boxO true ((dropE true).a (nB B) (iA X o i)) ((dropE true).b (nB B) (iA X o i)) (w3 (dropE true) B (iA X o i))), oldO (netO B.nl B.M) ((dropE true).row (nB B) (iA X o i)), newO ((dropE false).row (nA A) (iA X o i)), newO ((dropE true).row (nB B) (iA X o i)), ls (S2 (dropE false) (dropE true) A B (iA X o i)) (w1 (dropE false) A (iA X o i))], 7) := congrFun (congrFun (congrFun (congrFun (congrFun (congrFun ka3_leaf_k X) o) n) i) A) B
def ka4_bits : List Bool := [false, true, true, true, true, true, false, false, false, true, true, true, true, true, false, false, false, false, true, false, false, false, false, false, false, false, false, false, false, true, false, false, false, false, false, false, false, true, false, false, false, false, false, false, false, false, true, false, false, false, false]
def ka4_c (X : Array Value) (o n : Nat) (i : Int) (A B : Net) : Bool :=
  (decide (i < ((n : Nat) : Int)))
   && ((decide (0 ≤ i) && decide (i < ((n : Nat) : Int)))
   && ((decide ((pI o i) + 3 ≤ Array.size X))
   && ((cellsOk X ([CK.int .i64] ++ ([CK.sl] ++ ([CK.int .i64] ++ []))) ((pI o i)))
   && (!(toI X[(pI o i)]? == 0)
   && (!(toI X[(pI o i)]? == 1)
   && (!(toI X[(pI o i)]? == 2)
   && ((toI X[(pI o i)]? == 3)
   && ((c1 twiceE A B (iA X o i))
   && ((c2 twiceE twiceE A B (iA X o i))
   && (!(!((!fullN (nA A)) == (!fullN (nB B))))
   && ((c3 twiceE twiceE A B (iA X o i))
   && ((c4 twiceE twiceE A B (iA X o i))
   && ((c5 twiceE twiceE A B (iA X o i))
   && (!(twiceE.b (nA A) (iA X o i) != twiceE.b (nB B) (iA X o i))
   && true))))))))))))))
theorem ka4_cond_k : (fun (X : Array Value) (o n : Nat) (i : Int) (A B : Net) => (followT ka4_bits (codeT cfS (callT cfS tS 60) 60 cz k3c (frH X o n i) (sB A B))).1) = fun (X : Array Value) (o n : Nat) (i : Int) (A B : Net) => ka4_c X o n i A B := by kernel_rfl
theorem ka4_cond (X : Array Value) (o n : Nat) (i : Int) (A B : Net) : (followT ka4_bits (codeT cfS (callT cfS tS 60) 60 cz k3c (frH X o n i) (sB A B))).1 = ka4_c X o n i A B := congrFun (congrFun (congrFun (congrFun (congrFun (congrFun ka4_cond_k X) o) n) i) A) B
theorem ka4_leaf_k : (fun (X : Array Value) (o n : Nat) (i : Int) (A B : Net) => pathObs rObs ka4_bits (codeT cfS (callT cfS tS 60) 60 cz k3c (frH X o n i) (sB A B))) = fun (X : Array Value) (o n : Nat) (i : Int) (A B : Net) => some (.normal, (3, 59, none), [some (VS X o n), some (ptrV 0), some (ptrV 2), some (.int .i64 (inc i))], [some (boxO false (twiceE.a (nA A) (iA X o i)) (twiceE.b (nA A) (iA X o i)) (w1 twiceE A (iA X o i))), oldO (netO A.nl A.M) (twiceE.row (nA A) (iA X o i)), some (boxO true (twiceE.a (nB B) (iA X o i)) (twiceE.b (nB B) (iA X o i)) (w3 twiceE B (iA X o i))), oldO (netO B.nl B.M) (twiceE.row (nB B) (iA X o i)), newO (twiceE.row (nA A) (iA X o i)), newO (twiceE.row (nB B) (iA X o i)), ls (S2 twiceE twiceE A B (iA X o i)) (w1 twiceE A (iA X o i))], 7) := by kernel_rfl
theorem ka4_leaf (X : Array Value) (o n : Nat) (i : Int) (A B : Net) : pathObs rObs ka4_bits (codeT cfS (callT cfS tS 60) 60 cz k3c (frH X o n i) (sB A B)) = some (.normal, (3, 59, none), [some (VS X o n), some (ptrV 0), some (ptrV 2), some (.int .i64 (inc i))], [some (boxO false (twiceE.a (nA A) (iA X o i)) (twiceE.b (nA A) (iA X o i)) (w1 twiceE A (iA X o i))), oldO (netO A.nl A.M) (twiceE.row (nA A) (iA X o i)), some (boxO true (twiceE.a (nB B) (iA X o i)) (twiceE.b (nB B) (iA X o i)) (w3 twiceE B (iA X o i))), oldO (netO B.nl B.M) (twiceE.row (nB B) (iA X o i)), newO (twiceE.row (nA A) (iA X o i)), newO (twiceE.row (nB B) (iA X o i)), ls (S2 twiceE twiceE A B (iA X o i)) (w1 twiceE A (iA X o i))], 7) := congrFun (congrFun (congrFun (congrFun (congrFun (congrFun ka4_leaf_k X) o) n) i) A) B
def ka5_bits : List Bool := [false, true, true, true, true, true, false, false, false, false, false, false, false, false, true, false, false, false, false, false, false, false, false, false, false, true, false, false, false, false, false, false, false, true, false, false, false, false, false, false, false, false, true, false, false, false, false]
def ka5_c (X : Array Value) (o n : Nat) (i : Int) (A B : Net) : Bool :=
  (decide (i < ((n : Nat) : Int)))
   && ((decide (0 ≤ i) && decide (i < ((n : Nat) : Int)))
   && ((decide ((pI o i) + 3 ≤ Array.size X))
   && ((cellsOk X ([CK.int .i64] ++ ([CK.sl] ++ ([CK.int .i64] ++ []))) ((pI o i)))
   && (!(toI X[(pI o i)]? == 0)
   && (!(toI X[(pI o i)]? == 1)
   && (!(toI X[(pI o i)]? == 2)
   && (!(toI X[(pI o i)]? == 3)
   && ((cl (v1 A) 4 (sB A B))
   && ((cs (S3' A B) (listV 4 (isNilV (v1 A)) (findM (sB A B) (v1 A))) (v3 B))
   && ((cl (v1 A) 5 (S3' A B))
   && (!(A.b != B.b)
   && true)))))))))))
theorem ka5_cond_k : (fun (X : Array Value) (o n : Nat) (i : Int) (A B : Net) => (followT ka5_bits (codeT cfS (callT cfS tS 60) 60 cz k3c (frH X o n i) (sB A B))).1) = fun (X : Array Value) (o n : Nat) (i : Int) (A B : Net) => ka5_c X o n i A B := by kernel_rfl
theorem ka5_cond (X : Array Value) (o n : Nat) (i : Int) (A B : Net) : (followT ka5_bits (codeT cfS (callT cfS tS 60) 60 cz k3c (frH X o n i) (sB A B))).1 = ka5_c X o n i A B := congrFun (congrFun (congrFun (congrFun (congrFun (congrFun ka5_cond_k X) o) n) i) A) B
theorem ka5_leaf_k : (fun (X : Array Value) (o n : Nat) (i : Int) (A B : Net) => pathObs rObs ka5_bits (codeT cfS (callT cfS tS 60) 60 cz k3c (frH X o n i) (sB A B))) = fun (X : Array Value) (o n : Nat) (i : Int) (A B : Net) => some (.normal, (3, 59, none), [some (VS X o n), some (ptrV 0), some (ptrV 2), some (.int .i64 (inc i))], [some (boxO false A.a A.b (v1 A)), netO A.nl A.M, some (boxO true B.a B.b (v3 B)), netO B.nl B.M, ls (sB A B) (v1 A), none, none], 5) := by kernel_rfl
theorem ka5_leaf (X : Array Value) (o n : Nat) (i : Int) (A B : Net) : pathObs rObs ka5_bits (codeT cfS (callT cfS tS 60) 60 cz k3c (frH X o n i) (sB A B)) = some (.normal, (3, 59, none), [some (VS X o n), some (ptrV 0), some (ptrV 2), some (.int .i64 (inc i))], [some (boxO false A.a A.b (v1 A)), netO A.nl A.M, some (boxO true B.a B.b (v3 B)), netO B.nl B.M, ls (sB A B) (v1 A), none, none], 5) := congrFun (congrFun (congrFun (congrFun (congrFun (congrFun ka5_leaf_k X) o) n) i) A) B
end
end Go.Proofs.Ytgcffmkifjnmlaa
