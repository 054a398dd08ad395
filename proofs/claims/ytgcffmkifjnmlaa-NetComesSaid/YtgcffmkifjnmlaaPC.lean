/- NetComes: the walk of a round. -/
import Derived.Test.YtgcffmkifjnmlaaPAB
namespace Go.Proofs.Ytgcffmkifjnmlaa
open Go.Am
noncomputable section
def b4 : Code := bodyOf 4
def k4c : Code := cB (cB (cR (cL (cN 7 b4))))
theorem b4_eq : b4 = nest [cL b4, cL (cN 1 b4), cL (cN 2 b4), cL (cN 3 b4), cL (cN 4 b4), cL (cN 5 b4), cL (cN 6 b4)] (.seq (.seq (cL (cL (cN 7 b4))) (.block 0 (.loop k4c))) (cN 8 b4)) := by kernel_rfl
def frC (a : Int) (X : Array Value) (o n : Nat) (v : Value) (came made i : Int) : Fr := frS 4 [(0, .int .i64 a), (1, VS X o n), (5, ptrV 0), (6, v), (7, .int .i64 came), (8, .int .i64 made), (9, .int .i64 i)]
def sent (q : Nat) (S : Array Value) : Value := .slice (some ⟨q, 0, none⟩) S.size S.size
def NA (p q : Int) (M : Array Value) : Net := ⟨p, q, false, M⟩
def sC0 (a : Int) : St := ⟨Tr.nil.put 0 (boxO false a 0 (.slice none 0 0)), 2⟩
def sC1 (p q : Int) (M S : Array Value) : St := ⟨(netS false (NA p q M)).heap.put 2 (.cells S 1 true), 3⟩
def cObs : Option (Ex × Fr × St) → Option (Ex × (FuncId × Nat × Option Nat) × List (Option Value) × List (Option AObj) × Nat)
  | some (ex, fr, s) => some (ex, (fr.fn, fr.nt, fr.round), [0, 1, 5, 6, 7, 8, 9].map fr.tm.get, [0, 1, 2, 3, 4, 5].map s.heap.get, s.next)
  | none => none
section
variable (E : Eff) (a p q : Int) (M S : Array Value) (l : List Value)
def t1 : St := effS false E (nA (NA p q M)) 0 (v1 (NA p q M)) l (sC1 p q M S)
def tw : Value := newV 3 (v1 (NA p q M)) (E.row (nA (NA p q M)) l)
def d1 : Bool := effOk 0 (v1 (NA p q M)) cz (sC1 p q M S) l && E.ok (nA (NA p q M)) l && plainN 9 (E.res (nA (NA p q M)) l)
def u1 : St := effS false E (nA (net0 a)) 0 (v1 (net0 a)) l (sC0 a)
def uw : Value := newV 2 (v1 (net0 a)) (E.row (nA (net0 a)) l)
def e1 : Bool := effOk 0 (v1 (net0 a)) cz (sC0 a) l && E.ok (nA (net0 a)) l && plainN 9 (E.res (nA (net0 a)) l)
end
def clz (v : Value) (s : St) : Bool := okL listP 0 v cz s && decide (cz.floor ≤ s.next) && cz.vis 0
def nn (v : Value) (n : Nat) : Bool := (cond (isNilV v) none (some (⟨n, 0, none⟩ : Addr))).isNone
def aft (s : St) (v : Value) : St := ⟨s.heap.set s.next (ls s v), s.next + 1⟩
def mkB (ma ca b : Int) (s : St) (v : Value) : Bool := ma != IntKind.wrap .i64 (IntKind.wrap .i64 (ca + b) + (((findM s v).size : Nat) : Int))
def bigB (a : Int) (s : St) (v : Value) : Bool := decide (a < (((findM s v).size : Nat) : Int))
def opS (X : Array Value) (o : Nat) (i : Int) : Array Value := (vX X[pI o i + 1]?).extract (vO X[pI o i + 1]?) (vO X[pI o i + 1]? + vL X[pI o i + 1]? * 1)
/-- the list of what was sent, longer -/
def app1 (S T : Array Value) (s : St) : St := St.new { s with heap := s.heap.set 2 none } (.cells (S.extract 0 (0 + S.size * 1) ++ T) 1 true)
def app0 (T : Array Value) (s : St) : St := s.new (.cells T 1 true)
def took (M : Array Value) (i : Int) : ByteArray := if M.size = 0 then (⟨#[]⟩ : ByteArray) else toStr M[(plI M.size i).toNat]?
def rb0_bits : List Bool := [false, false]
def rb0_c (a : Int) (X : Array Value) (o n : Nat) (ca ma i : Int) (p q : Int) (M S : Array Value) : Bool :=
  !(decide (i < ((n : Nat) : Int)))
   && true
theorem rb0_cond_k : (fun (a : Int) (X : Array Value) (o n : Nat) (ca ma i : Int) (p q : Int) (M S : Array Value) => (followT rb0_bits (codeT cfC (callT cfC tC 60) 60 cz k4c (frC a X o n (sent 2 S) ca ma i) (sC1 p q M S))).1) = fun (a : Int) (X : Array Value) (o n : Nat) (ca ma i : Int) (p q : Int) (M S : Array Value) => rb0_c a X o n ca ma i p q M S := by kernel_rfl
theorem rb0_cond (a : Int) (X : Array Value) (o n : Nat) (ca ma i : Int) (p q : Int) (M S : Array Value) : (followT rb0_bits (codeT cfC (callT cfC tC 60) 60 cz k4c (frC a X o n (sent 2 S) ca ma i) (sC1 p q M S))).1 = rb0_c a X o n ca ma i p q M S := congrFun (congrFun (congrFun (congrFun (congrFun (congrFun (congrFun (congrFun (congrFun (congrFun (congrFun rb0_cond_k a) X) o) n) ca) ma) i) p) q) M) S
theorem rb0_leaf_k : (fun (a : Int) (X : Array Value) (o n : Nat) (ca ma i : Int) (p q : Int) (M S : Array Value) => pathObs cObs rb0_bits (codeT cfC (callT cfC tC 60) 60 cz k4c (frC a X o n (sent 2 S) ca ma i) (sC1 p q M S))) = fun (a : Int) (X : Array Value) (o n : Nat) (ca ma i : Int) (p q : Int) (M S : Array Value) => some (.exit 0, (4, 120, none), [some (.int .i64 a), some (VS X o n), some (ptrV 0), some (.slice (some ⟨2, 0, none⟩) S.size S.size), some (.int .i64 ca), some (.int .i64 ma), some (.int .i64 i)], [some (boxO false p q (v1 (NA p q M))), netO false M, some (.cells S 1 true), none, none, none], 3) := by kernel_rfl
theorem rb0_leaf (a : Int) (X : Array Value) (o n : Nat) (ca ma i : Int) (p q : Int) (M S : Array Value) : pathObs cObs rb0_bits (codeT cfC (callT cfC tC 60) 60 cz k4c (frC a X o n (sent 2 S) ca ma i) (sC1 p q M S)) = some (.exit 0, (4, 120, none), [some (.int .i64 a), some (VS X o n), some (ptrV 0), some (.slice (some ⟨2, 0, none⟩) S.size S.size), some (.int .i64 ca), some (.int .i64 ma), some (.int .i64 i)], [some (boxO false p q (v1 (NA p q M))), netO false M, some (.cells S 1 true), none, none, none], 3) := congrFun (congrFun (congrFun (congrFun (congrFun (congrFun (congrFun (congrFun (congrFun (congrFun (congrFun rb0_leaf_k a) X) o) n) ca) ma) i) p) q) M) S
def rb1_bits : List Bool := [false, true, true, true, true, true, true, true, true, true, false, true, false, true, true, true, false, true, true, true, true, true, false, true, true, false, false, false, false, false, true, false, false, false, false, false, false, false, false, false]
def rb1_c (a : Int) (X : Array Value) (o n : Nat) (ca ma i : Int) (p q : Int) (M S : Array Value) : Bool :=
  (decide (i < ((n : Nat) : Int)))
   && ((decide (0 ≤ i) && decide (i < ((n : Nat) : Int)))
   && ((isI .i64 X[(pI o i) + 0]?)
   && ((toI X[(pI o i) + 0]? == 0)
   && ((decide (0 ≤ i) && decide (i < ((n : Nat) : Int)))
   && ((isV X[(pI o i) + 1]?)
   && ((d1 sendE p q M S (sA X o i))
   && ((decide (0 ≤ i) && decide (i < ((n : Nat) : Int)))
   && ((isV X[(pI o i) + 1]?)
   && ((decide (Array.size S ≤ Array.size S) && decide (Array.size S + vL X[(pI o i) + 1]? ≤ nLim) && true && true && true && true && true)
   && (!(decide (vL X[(pI o i) + 1]? = 0))
   && ((decide (vL X[(pI o i) + 1]? ≤ vL X[(pI o i) + 1]?) && decide (vO X[(pI o i) + 1]? + vL X[(pI o i) + 1]? * 1 ≤ Array.size (vX X[(pI o i) + 1]?)))
   && (((opS X o i).toList.all Value.oneCell')
   && (!(decide (Array.size S + vL X[(pI o i) + 1]? ≤ Array.size S))
   && ((decide (0 + Array.size S * 1 ≤ Array.size S))
   && ((Array.size S == Array.size S && 0 + Array.size S * 1 == Array.size S)
   && ((decide (0 ≤ i) && decide (i < ((n : Nat) : Int)))
   && ((isV X[(pI o i) + 1]?)
   && ((clz (tw sendE p q M (sA X o i)) (app1 S (opS X o i) (t1 sendE p q M S (sA X o i))))
   && ((clz (tw sendE p q M (sA X o i)) (app1 S (opS X o i) (t1 sendE p q M S (sA X o i))))
   && (!(nn (tw sendE p q M (sA X o i)) 5)
   && (!(mkB (IntKind.wrap .i64 (ma + ((vL X[pI o i + 1]? : Nat) : Int))) ca (sendE.b (nA (NA p q M)) (sA X o i)) (app1 S (opS X o i) (t1 sendE p q M S (sA X o i))) (tw sendE p q M (sA X o i)))
   && ((clz (tw sendE p q M (sA X o i)) (aft (app1 S (opS X o i) (t1 sendE p q M S (sA X o i))) (tw sendE p q M (sA X o i))))
   && (!(nn (tw sendE p q M (sA X o i)) 6)
   && (!(bigB a (aft (app1 S (opS X o i) (t1 sendE p q M S (sA X o i))) (tw sendE p q M (sA X o i))) (tw sendE p q M (sA X o i)))
   && true))))))))))))))))))))))))
theorem rb1_cond_k : (fun (a : Int) (X : Array Value) (o n : Nat) (ca ma i : Int) (p q : Int) (M S : Array Value) => (followT rb1_bits (codeT cfC (callT cfC tC 60) 60 cz k4c (frC a X o n (sent 2 S) ca ma i) (sC1 p q M S))).1) = fun (a : Int) (X : Array Value) (o n : Nat) (ca ma i : Int) (p q : Int) (M S : Array Value) => rb1_c a X o n ca ma i p q M S := by kernel_rfl
theorem rb1_cond (a : Int) (X : Array Value) (o n : Nat) (ca ma i : Int) (p q : Int) (M S : Array Value) : (followT rb1_bits (codeT cfC (callT cfC tC 60) 60 cz k4c (frC a X o n (sent 2 S) ca ma i) (sC1 p q M S))).1 = rb1_c a X o n ca ma i p q M S := congrFun (congrFun (congrFun (congrFun (congrFun (congrFun (congrFun (congrFun (congrFun (congrFun (congrFun rb1_cond_k a) X) o) n) ca) ma) i) p) q) M) S
theorem rb1_leaf_k : (fun (a : Int) (X : Array Value) (o n : Nat) (ca ma i : Int) (p q : Int) (M S : Array Value) => pathObs cObs rb1_bits (codeT cfC (callT cfC tC 60) 60 cz k4c (frC a X o n (sent 2 S) ca ma i) (sC1 p q M S))) = fun (a : Int) (X : Array Value) (o n : Nat) (ca ma i : Int) (p q : Int) (M S : Array Value) => some (.normal, (4, 120, none), [some (.int .i64 a), some (VS X o n), some (ptrV 0), some (.slice (some ⟨4, 0, none⟩) (S.size + vL X[pI o i + 1]?) (S.size + vL X[pI o i + 1]?)), some (.int .i64 ca), some (.int .i64 (IntKind.wrap .i64 (ma + ((vL X[pI o i + 1]? : Nat) : Int)))), some (.int .i64 (inc i))], [some (boxO false (sendE.a (nA (NA p q M)) (sA X o i)) (sendE.b (nA (NA p q M)) (sA X o i)) (tw sendE p q M (sA X o i))), oldO (netO false M) (sendE.row (nA (NA p q M)) (sA X o i)), none, newO (sendE.row (nA (NA p q M)) (sA X o i)), some (.cells (S.extract 0 (0 + S.size * 1) ++ opS X o i) 1 true), ls (app1 S (opS X o i) (t1 sendE p q M S (sA X o i))) (tw sendE p q M (sA X o i))], 7) := by kernel_rfl
theorem rb1_leaf (a : Int) (X : Array Value) (o n : Nat) (ca ma i : Int) (p q : Int) (M S : Array Value) : pathObs cObs rb1_bits (codeT cfC (callT cfC tC 60) 60 cz k4c (frC a X o n (sent 2 S) ca ma i) (sC1 p q M S)) = some (.normal, (4, 120, none), [some (.int .i64 a), some (VS X o n), some (ptrV 0), some (.slice (some ⟨4, 0, none⟩) (S.size + vL X[pI o i + 1]?) (S.size + vL X[pI o i + 1]?)), some (.int .i64 ca), some (.int .i64 (IntKind.wrap .i64 (ma + ((vL X[pI o i + 1]? : Nat) : Int)))), some (.int .i64 (inc i))], [some (boxO false (sendE.a (nA (NA p q M)) (sA X o i)) (sendE.b (nA (NA p q M)) (sA X o i)) (tw sendE p q M (sA X o i))), oldO (netO false M) (sendE.row (nA (NA p q M)) (sA X o i)), none, newO (sendE.row (nA (NA p q M)) (sA X o i)), some (.cells (S.extract 0 (0 + S.size * 1) ++ opS X o i) 1 true), ls (app1 S (opS X o i) (t1 sendE p q M S (sA X o i))) (tw sendE p q M (sA X o i))], 7) := congrFun (congrFun (congrFun (congrFun (congrFun (congrFun (congrFun (congrFun (congrFun (congrFun (congrFun rb1_leaf_k a) X) o) n) ca) ma) i) p) q) M) S
def rb1z_bits : List Bool := [false, true, true, true, true, true, true, true, true, true, false, true, true, true, true, false, true, true, false, false, false, false, false, true, false, false, false, false, false, false, false, false, false]
def rb1z_c (a : Int) (X : Array Value) (o n : Nat) (ca ma i : Int) (p q : Int) (M S : Array Value) : Bool :=
  (decide (i < ((n : Nat) : Int)))
   && ((decide (0 ≤ i) && decide (i < ((n : Nat) : Int)))
   && ((isI .i64 X[(pI o i) + 0]?)
   && ((toI X[(pI o i) + 0]? == 0)
   && ((decide (0 ≤ i) && decide (i < ((n : Nat) : Int)))
   && ((isV X[(pI o i) + 1]?)
   && ((d1 (sendE) p q M S (sA X o i))
   && ((decide (0 ≤ i) && decide (i < ((n : Nat) : Int)))
   && ((isV X[(pI o i) + 1]?)
   && ((decide (Array.size S ≤ Array.size S) && decide (Array.size S + vL X[(pI o i) + 1]? ≤ nLim) && true && true && true && true && true)
   && ((decide (vL X[(pI o i) + 1]? = 0))
   && ((decide (0 ≤ i) && decide (i < ((n : Nat) : Int)))
   && ((isV X[(pI o i) + 1]?)
   && ((clz (tw (sendE) p q M (sA X o i)) (t1 (sendE) p q M S (sA X o i)))
   && ((clz (tw (sendE) p q M (sA X o i)) (t1 (sendE) p q M S (sA X o i)))
   && (!(nn (tw (sendE) p q M (sA X o i)) 4)
   && (!(mkB (IntKind.wrap .i64 (ma + ((vL X[pI o i + 1]? : Nat) : Int))) ca ((sendE).b (nA (NA p q M)) (sA X o i)) (t1 (sendE) p q M S (sA X o i)) (tw (sendE) p q M (sA X o i)))
   && ((clz (tw (sendE) p q M (sA X o i)) (aft (t1 (sendE) p q M S (sA X o i)) (tw (sendE) p q M (sA X o i))))
   && (!(nn (tw (sendE) p q M (sA X o i)) 5)
   && (!(bigB a (aft (t1 (sendE) p q M S (sA X o i)) (tw (sendE) p q M (sA X o i))) (tw (sendE) p q M (sA X o i)))
   && true)))))))))))))))))))
theorem rb1z_cond_k : (fun (a : Int) (X : Array Value) (o n : Nat) (ca ma i : Int) (p q : Int) (M S : Array Value) => (followT rb1z_bits (codeT cfC (callT cfC tC 60) 60 cz k4c (frC a X o n (sent 2 S) ca ma i) (sC1 p q M S))).1) = fun (a : Int) (X : Array Value) (o n : Nat) (ca ma i : Int) (p q : Int) (M S : Array Value) => rb1z_c a X o n ca ma i p q M S := by kernel_rfl
theorem rb1z_cond (a : Int) (X : Array Value) (o n : Nat) (ca ma i : Int) (p q : Int) (M S : Array Value) : (followT rb1z_bits (codeT cfC (callT cfC tC 60) 60 cz k4c (frC a X o n (sent 2 S) ca ma i) (sC1 p q M S))).1 = rb1z_c a X o n ca ma i p q M S := congrFun (congrFun (congrFun (congrFun (congrFun (congrFun (congrFun (congrFun (congrFun (congrFun (congrFun rb1z_cond_k a) X) o) n) ca) ma) i) p) q) M) S
theorem rb1z_leaf_k : (fun (a : Int) (X : Array Value) (o n : Nat) (ca ma i : Int) (p q : Int) (M S : Array Value) => pathObs cObs rb1z_bits (codeT cfC (callT cfC tC 60) 60 cz k4c (frC a X o n (sent 2 S) ca ma i) (sC1 p q M S))) = fun (a : Int) (X : Array Value) (o n : Nat) (ca ma i : Int) (p q : Int) (M S : Array Value) => some (.normal, (4, 120, none), [some (.int .i64 a), some (VS X o n), some (ptrV 0), some (.slice (some ⟨2, 0, none⟩) S.size S.size), some (.int .i64 ca), some (.int .i64 (IntKind.wrap .i64 (ma + ((vL X[pI o i + 1]? : Nat) : Int)))), some (.int .i64 (inc i))], [some (boxO false ((sendE).a (nA (NA p q M)) (sA X o i)) ((sendE).b (nA (NA p q M)) (sA X o i)) (tw (sendE) p q M (sA X o i))), oldO (netO false M) ((sendE).row (nA (NA p q M)) (sA X o i)), some (.cells S 1 true), newO ((sendE).row (nA (NA p q M)) (sA X o i)), ls (t1 (sendE) p q M S (sA X o i)) (tw (sendE) p q M (sA X o i)), ls (aft (t1 (sendE) p q M S (sA X o i)) (tw (sendE) p q M (sA X o i))) (tw (sendE) p q M (sA X o i))], 6) := by kernel_rfl
theorem rb1z_leaf (a : Int) (X : Array Value) (o n : Nat) (ca ma i : Int) (p q : Int) (M S : Array Value) : pathObs cObs rb1z_bits (codeT cfC (callT cfC tC 60) 60 cz k4c (frC a X o n (sent 2 S) ca ma i) (sC1 p q M S)) = some (.normal, (4, 120, none), [some (.int .i64 a), some (VS X o n), some (ptrV 0), some (.slice (some ⟨2, 0, none⟩) S.size S.size), some (.int .i64 ca), some (.int .i64 (IntKind.wrap .i64 (ma + ((vL X[pI o i + 1]? : Nat) : Int)))), some (.int .i64 (inc i))], [some (boxO false ((sendE).a (nA (NA p q M)) (sA X o i)) ((sendE).b (nA (NA p q M)) (sA X o i)) (tw (sendE) p q M (sA X o i))), oldO (netO false M) ((sendE).row (nA (NA p q M)) (sA X o i)), some (.cells S 1 true), newO ((sendE).row (nA (NA p q M)) (sA X o i)), ls (t1 (sendE) p q M S (sA X o i)) (tw (sendE) p q M (sA X o i)), ls (aft (t1 (sendE) p q M S (sA X o i)) (tw (sendE) p q M (sA X o i))) (tw (sendE) p q M (sA X o i))], 6) := congrFun (congrFun (congrFun (congrFun (congrFun (congrFun (congrFun (congrFun (congrFun (congrFun (congrFun rb1z_leaf_k a) X) o) n) ca) ma) i) p) q) M) S
def rb2_bits : List Bool := [false, true, true, true, false, true, true, true, true, true, true, true, true, true, true, true, true, true, true, true, true, false, true, true, true, false, false, false, false, false, true, false, false, false, false, false, false, false, false, false]
def rb2_c (a : Int) (X : Array Value) (o n : Nat) (ca ma i : Int) (p q : Int) (M S : Array Value) : Bool :=
  (decide (i < ((n : Nat) : Int)))
   && ((decide (0 ≤ i) && decide (i < ((n : Nat) : Int)))
   && ((isI .i64 X[(pI o i) + 0]?)
   && (!(toI X[(pI o i) + 0]? == 0)
   && ((toI X[(pI o i) + 0]? == 1)
   && ((decide (0 ≤ i) && decide (i < ((n : Nat) : Int)))
   && ((isI .i64 X[(pI o i) + 2]?)
   && ((d1 (takeE false) p q M S (iA X o i))
   && ((!decide ((nA (NA p q M)).M.size = 0))
   && ((decide (Array.size S ≤ Array.size S) && (decide (Array.size S ≠ 0) && Array.all S (freeN 9)))
   && ((decide (Array.size S = Array.size S) && cntOk S)
   && (!(((cnt S (took (nA (NA p q M)).M (toI X[pI o i + 2]?)) S.size : Nat) : Int) == 0)
   && ((!decide ((nA (NA p q M)).M.size = 0))
   && ((clz (tw (takeE false) p q M (iA X o i)) (t1 (takeE false) p q M S (iA X o i)))
   && ((clz (tw (takeE false) p q M (iA X o i)) (t1 (takeE false) p q M S (iA X o i)))
   && (!(nn (tw (takeE false) p q M (iA X o i)) 4)
   && (!(mkB ma (IntKind.wrap .i64 (ca + 1)) ((takeE false).b (nA (NA p q M)) (iA X o i)) (t1 (takeE false) p q M S (iA X o i)) (tw (takeE false) p q M (iA X o i)))
   && ((clz (tw (takeE false) p q M (iA X o i)) (aft (t1 (takeE false) p q M S (iA X o i)) (tw (takeE false) p q M (iA X o i))))
   && (!(nn (tw (takeE false) p q M (iA X o i)) 5)
   && (!(bigB a (aft (t1 (takeE false) p q M S (iA X o i)) (tw (takeE false) p q M (iA X o i))) (tw (takeE false) p q M (iA X o i)))
   && true)))))))))))))))))))
theorem rb2_cond_k : (fun (a : Int) (X : Array Value) (o n : Nat) (ca ma i : Int) (p q : Int) (M S : Array Value) => (followT rb2_bits (codeT cfC (callT cfC tC 60) 60 cz k4c (frC a X o n (sent 2 S) ca ma i) (sC1 p q M S))).1) = fun (a : Int) (X : Array Value) (o n : Nat) (ca ma i : Int) (p q : Int) (M S : Array Value) => rb2_c a X o n ca ma i p q M S := by kernel_rfl
theorem rb2_cond (a : Int) (X : Array Value) (o n : Nat) (ca ma i : Int) (p q : Int) (M S : Array Value) : (followT rb2_bits (codeT cfC (callT cfC tC 60) 60 cz k4c (frC a X o n (sent 2 S) ca ma i) (sC1 p q M S))).1 = rb2_c a X o n ca ma i p q M S := congrFun (congrFun (congrFun (congrFun (congrFun (congrFun (congrFun (congrFun (congrFun (congrFun (congrFun rb2_cond_k a) X) o) n) ca) ma) i) p) q) M) S
theorem rb2_leaf_k : (fun (a : Int) (X : Array Value) (o n : Nat) (ca ma i : Int) (p q : Int) (M S : Array Value) => pathObs cObs rb2_bits (codeT cfC (callT cfC tC 60) 60 cz k4c (frC a X o n (sent 2 S) ca ma i) (sC1 p q M S))) = fun (a : Int) (X : Array Value) (o n : Nat) (ca ma i : Int) (p q : Int) (M S : Array Value) => some (.normal, (4, 120, none), [some (.int .i64 a), some (VS X o n), some (ptrV 0), some (.slice (some ⟨2, 0, none⟩) S.size S.size), some (.int .i64 (IntKind.wrap .i64 (ca + 1))), some (.int .i64 ma), some (.int .i64 (inc i))], [some (boxO false ((takeE false).a (nA (NA p q M)) (iA X o i)) ((takeE false).b (nA (NA p q M)) (iA X o i)) (tw (takeE false) p q M (iA X o i))), oldO (netO false M) ((takeE false).row (nA (NA p q M)) (iA X o i)), some (.cells S 1 true), newO ((takeE false).row (nA (NA p q M)) (iA X o i)), ls (t1 (takeE false) p q M S (iA X o i)) (tw (takeE false) p q M (iA X o i)), ls (aft (t1 (takeE false) p q M S (iA X o i)) (tw (takeE false) p q M (iA X o i))) (tw (takeE false) p q M (iA X o i))], 6) := by kernel_rfl
theorem rb2_leaf (a : Int) (X : Array Value) (o n : Nat) (ca ma i : Int) (p q : Int) (M S : Array Value) : pathObs cObs rb2_bits (codeT cfC (callT cfC tC 60) 60 cz k4c (frC a X o n (sent 2 S) ca ma i) (sC1 p q M S)) = some (.normal, (4, 120, none), [some (.int .i64 a), some (VS X o n), some (ptrV 0), some (.slice (some ⟨2, 0, none⟩) S.size S.size), some (.int .i64 (IntKind.wrap .i64 (ca + 1))), some (.int .i64 ma), some (.int .i64 (inc i))], [some (boxO false ((takeE false).a (nA (NA p q M)) (iA X o i)) ((takeE false).b (nA (NA p q M)) (iA X o i)) (tw (takeE false) p q M (iA X o i))), oldO (netO false M) ((takeE false).row (nA (NA p q M)) (iA X o i)), some (.cells S 1 true), newO ((takeE false).row (nA (NA p q M)) (iA X o i)), ls (t1 (takeE false) p q M S (iA X o i)) (tw (takeE false) p q M (iA X o i)), ls (aft (t1 (takeE false) p q M S (iA X o i)) (tw (takeE false) p q M (iA X o i))) (tw (takeE false) p q M (iA X o i))], 6) := congrFun (congrFun (congrFun (congrFun (congrFun (congrFun (congrFun (congrFun (congrFun (congrFun (congrFun rb2_leaf_k a) X) o) n) ca) ma) i) p) q) M) S
def rb2z_bits : List Bool := [false, true, true, true, false, true, true, true, true, false, false, false, false, false, false, false, false, false, false, false, true, true, false, false, false, false, false, true, false, false, false, false, false, false, false, false, false]
def rb2z_c (a : Int) (X : Array Value) (o n : Nat) (ca ma i : Int) (p q : Int) (M S : Array Value) : Bool :=
  (decide (i < ((n : Nat) : Int)))
   && ((decide (0 ≤ i) && decide (i < ((n : Nat) : Int)))
   && ((isI .i64 X[(pI o i) + 0]?)
   && (!(toI X[(pI o i) + 0]? == 0)
   && ((toI X[(pI o i) + 0]? == 1)
   && ((decide (0 ≤ i) && decide (i < ((n : Nat) : Int)))
   && ((isI .i64 X[(pI o i) + 2]?)
   && ((d1 (takeE false) p q M S (iA X o i))
   && (!(!decide ((nA (NA p q M)).M.size = 0))
   && (!(!decide ((nA (NA p q M)).M.size = 0))
   && ((clz (tw (takeE false) p q M (iA X o i)) (t1 (takeE false) p q M S (iA X o i)))
   && ((clz (tw (takeE false) p q M (iA X o i)) (t1 (takeE false) p q M S (iA X o i)))
   && (!(nn (tw (takeE false) p q M (iA X o i)) 4)
   && (!(mkB ma ca ((takeE false).b (nA (NA p q M)) (iA X o i)) (t1 (takeE false) p q M S (iA X o i)) (tw (takeE false) p q M (iA X o i)))
   && ((clz (tw (takeE false) p q M (iA X o i)) (aft (t1 (takeE false) p q M S (iA X o i)) (tw (takeE false) p q M (iA X o i))))
   && (!(nn (tw (takeE false) p q M (iA X o i)) 5)
   && (!(bigB a (aft (t1 (takeE false) p q M S (iA X o i)) (tw (takeE false) p q M (iA X o i))) (tw (takeE false) p q M (iA X o i)))
   && true))))))))))))))))
theorem rb2z_cond_k : (fun (a : Int) (X : Array Value) (o n : Nat) (ca ma i : Int) (p q : Int) (M S : Array Value) => (followT rb2z_bits (codeT cfC (callT cfC tC 60) 60 cz k4c (frC a X o n (sent 2 S) ca ma i) (sC1 p q M S))).1) = fun (a : Int) (X : Array Value) (o n : Nat) (ca ma i : Int) (p q : Int) (M S : Array Value) => rb2z_c a X o n ca ma i p q M S := by kernel_rfl
theorem rb2z_cond (a : Int) (X : Array Value) (o n : Nat) (ca ma i : Int) (p q : Int) (M S : Array Value) : (followT rb2z_bits (codeT cfC (callT cfC tC 60) 60 cz k4c (frC a X o n (sent 2 S) ca ma i) (sC1 p q M S))).1 = rb2z_c a X o n ca ma i p q M S := congrFun (congrFun (congrFun (congrFun (congrFun (congrFun (congrFun (congrFun (congrFun (congrFun (congrFun rb2z_cond_k a) X) o) n) ca) ma) i) p) q) M) S
theorem rb2z_leaf_k : (fun (a : Int) (X : Array Value) (o n : Nat) (ca ma i : Int) (p q : Int) (M S : Array Value) => pathObs cObs rb2z_bits (codeT cfC (callT cfC tC 60) 60 cz k4c (frC a X o n (sent 2 S) ca ma i) (sC1 p q M S))) = fun (a : Int) (X : Array Value) (o n : Nat) (ca ma i : Int) (p q : Int) (M S : Array Value) => some (.normal, (4, 120, none), [some (.int .i64 a), some (VS X o n), some (ptrV 0), some (.slice (some ⟨2, 0, none⟩) S.size S.size), some (.int .i64 ca), some (.int .i64 ma), some (.int .i64 (inc i))], [some (boxO false ((takeE false).a (nA (NA p q M)) (iA X o i)) ((takeE false).b (nA (NA p q M)) (iA X o i)) (tw (takeE false) p q M (iA X o i))), oldO (netO false M) ((takeE false).row (nA (NA p q M)) (iA X o i)), some (.cells S 1 true), newO ((takeE false).row (nA (NA p q M)) (iA X o i)), ls (t1 (takeE false) p q M S (iA X o i)) (tw (takeE false) p q M (iA X o i)), ls (aft (t1 (takeE false) p q M S (iA X o i)) (tw (takeE false) p q M (iA X o i))) (tw (takeE false) p q M (iA X o i))], 6) := by kernel_rfl
theorem rb2z_leaf (a : Int) (X : Array Value) (o n : Nat) (ca ma i : Int) (p q : Int) (M S : Array Value) : pathObs cObs rb2z_bits (codeT cfC (callT cfC tC 60) 60 cz k4c (frC a X o n (sent 2 S) ca ma i) (sC1 p q M S)) = some (.normal, (4, 120, none), [some (.int .i64 a), some (VS X o n), some (ptrV 0), some (.slice (some ⟨2, 0, none⟩) S.size S.size), some (.int .i64 ca), some (.int .i64 ma), some (.int .i64 (inc i))], [some (boxO false ((takeE false).a (nA (NA p q M)) (iA X o i)) ((takeE false).b (nA (NA p q M)) (iA X o i)) (tw (takeE false) p q M (iA X o i))), oldO (netO false M) ((takeE false).row (nA (NA p q M)) (iA X o i)), some (.cells S 1 true), newO ((takeE false).row (nA (NA p q M)) (iA X o i)), ls (t1 (takeE false) p q M S (iA X o i)) (tw (takeE false) p q M (iA X o i)), ls (aft (t1 (takeE false) p q M S (iA X o i)) (tw (takeE false) p q M (iA X o i))) (tw (takeE false) p q M (iA X o i))], 6) := congrFun (congrFun (congrFun (congrFun (congrFun (congrFun (congrFun (congrFun (congrFun (congrFun (congrFun rb2z_leaf_k a) X) o) n) ca) ma) i) p) q) M) S
def rb3_bits : List Bool := [false, true, true, true, false, false, true, true, true, true, true, true, false, false, false, false, false, true, false, false, false, false, false, false, false, false, false]
def rb3_c (a : Int) (X : Array Value) (o n : Nat) (ca ma i : Int) (p q : Int) (M S : Array Value) : Bool :=
  (decide (i < ((n : Nat) : Int)))
   && ((decide (0 ≤ i) && decide (i < ((n : Nat) : Int)))
   && ((isI .i64 X[(pI o i) + 0]?)
   && (!(toI X[(pI o i) + 0]? == 0)
   && (!(toI X[(pI o i) + 0]? == 1)
   && ((toI X[(pI o i) + 0]? == 2)
   && ((decide (0 ≤ i) && decide (i < ((n : Nat) : Int)))
   && ((isI .i64 X[(pI o i) + 2]?)
   && ((d1 (dropE false) p q M S (iA X o i))
   && ((clz (tw (dropE false) p q M (iA X o i)) (t1 (dropE false) p q M S (iA X o i)))
   && ((clz (tw (dropE false) p q M (iA X o i)) (t1 (dropE false) p q M S (iA X o i)))
   && (!(nn (tw (dropE false) p q M (iA X o i)) 4)
   && (!(mkB ma ca ((dropE false).b (nA (NA p q M)) (iA X o i)) (t1 (dropE false) p q M S (iA X o i)) (tw (dropE false) p q M (iA X o i)))
   && ((clz (tw (dropE false) p q M (iA X o i)) (aft (t1 (dropE false) p q M S (iA X o i)) (tw (dropE false) p q M (iA X o i))))
   && (!(nn (tw (dropE false) p q M (iA X o i)) 5)
   && (!(bigB a (aft (t1 (dropE false) p q M S (iA X o i)) (tw (dropE false) p q M (iA X o i))) (tw (dropE false) p q M (iA X o i)))
   && true)))))))))))))))
theorem rb3_cond_k : (fun (a : Int) (X : Array Value) (o n : Nat) (ca ma i : Int) (p q : Int) (M S : Array Value) => (followT rb3_bits (codeT cfC (callT cfC tC 60) 60 cz k4c (frC a X o n (sent 2 S) ca ma i) (sC1 p q M S))).1) = fun (a : Int) (X : Array Value) (o n : Nat) (ca ma i : Int) (p q : Int) (M S : Array Value) => rb3_c a X o n ca ma i p q M S := by kernel_rfl
theorem rb3_cond (a : Int) (X : Array Value) (o n : Nat) (ca ma i : Int) (p q : Int) (M S : Array Value) : (followT rb3_bits (codeT cfC (callT cfC tC 60) 60 cz k4c (frC a X o n (sent 2 S) ca ma i) (sC1 p q M S))).1 = rb3_c a X o n ca ma i p q M S := congrFun (congrFun (congrFun (congrFun (congrFun (congrFun (congrFun (congrFun (congrFun (congrFun (congrFun rb3_cond_k a) X) o) n) ca) ma) i) p) q) M) S
theorem rb3_leaf_k : (fun (a : Int) (X : Array Value) (o n : Nat) (ca ma i : Int) (p q : Int) (M S : Array Value) => pathObs cObs rb3_bits (codeT cfC (callT cfC tC 60) 60 cz k4c (frC a X o n (sent 2 S) ca ma i) (sC1 p q M S))) = fun (a : Int) (X : Array Value) (o n : Nat) (ca ma i : Int) (p q : Int) (M S : Array Value) => some (.normal, (4, 120, none), [some (.int .i64 a), some (VS X o n), some (ptrV 0), some (.slice (some ⟨2, 0, none⟩) S.size S.size), some (.int .i64 ca), some (.int .i64 ma), some (.int .i64 (inc i))], [some (boxO false ((dropE false).a (nA (NA p q M)) (iA X o i)) ((dropE false).b (nA (NA p q M)) (iA X o i)) (tw (dropE false) p q M (iA X o i))), oldO (netO false M) ((dropE false).row (nA (NA p q M)) (iA X o i)), some (.cells S 1 true), newO ((dropE false).row (nA (NA p q M)) (iA X o i)), ls (t1 (dropE false) p q M S (iA X o i)) (tw (dropE false) p q M (iA X o i)), ls (aft (t1 (dropE false) p q M S (iA X o i)) (tw (dropE false) p q M (iA X o i))) (tw (dropE false) p q M (iA X o i))], 6) := by kernel_rfl
theorem rb3_leaf (a : Int) (X : Array Value) (o n : Nat) (ca ma i : Int) (p q : Int) (M S : Array Value) : pathObs cObs rb3_bits (codeT cfC (callT cfC tC 60) 60 cz k4c (frC a X o n (sent 2 S) ca ma i) (sC1 p q M S)) = some (.normal, (4, 120, none), [some (.int .i64 a), some (VS X o n), some (ptrV 0), some (.slice (some ⟨2, 0, none⟩) S.size S.size), some (.int .i64 ca), some (.int .i64 ma), some (.int .i64 (inc i))], [some (boxO false ((dropE false).a (nA (NA p q M)) (iA X o i)) ((dropE false).b (nA (NA p q M)) (iA X o i)) (tw (dropE false) p q M (iA X o i))), oldO (netO false M) ((dropE false).row (nA (NA p q M)) (iA X o i)), some (.cells S 1 true), newO ((dropE false).row (nA (NA p q M)) (iA X o i)), ls (t1 (dropE false) p q M S (iA X o i)) (tw (dropE false) p q M (iA X o i)), ls (aft (t1 (dropE false) p q M S (iA X o i)) (tw (dropE false) p q M (iA X o i))) (tw (dropE false) p q M (iA X o i))], 6) := congrFun (congrFun (congrFun (congrFun (congrFun (congrFun (congrFun (congrFun (congrFun (congrFun (congrFun rb3_leaf_k a) X) o) n) ca) ma) i) p) q) M) S
def rb4_bits : List Bool := [false, true, true, true, false, false, false, true, true, true, true, true, true, true, false, false, false, false, false, true, false, false, false, false, false, false, false, false, false]
def rb4_c (a : Int) (X : Array Value) (o n : Nat) (ca ma i : Int) (p q : Int) (M S : Array Value) : Bool :=
  (decide (i < ((n : Nat) : Int)))
   && ((decide (0 ≤ i) && decide (i < ((n : Nat) : Int)))
   && ((isI .i64 X[(pI o i) + 0]?)
   && (!(toI X[(pI o i) + 0]? == 0)
   && (!(toI X[(pI o i) + 0]? == 1)
   && (!(toI X[(pI o i) + 0]? == 2)
   && ((toI X[(pI o i) + 0]? == 3)
   && ((decide (0 ≤ i) && decide (i < ((n : Nat) : Int)))
   && ((isI .i64 X[(pI o i) + 2]?)
   && ((d1 (twiceE) p q M S (iA X o i))
   && ((!fullN (nA (NA p q M)))
   && ((clz (tw (twiceE) p q M (iA X o i)) (t1 (twiceE) p q M S (iA X o i)))
   && ((clz (tw (twiceE) p q M (iA X o i)) (t1 (twiceE) p q M S (iA X o i)))
   && (!(nn (tw (twiceE) p q M (iA X o i)) 4)
   && (!(mkB (IntKind.wrap .i64 (ma + 1)) ca ((twiceE).b (nA (NA p q M)) (iA X o i)) (t1 (twiceE) p q M S (iA X o i)) (tw (twiceE) p q M (iA X o i)))
   && ((clz (tw (twiceE) p q M (iA X o i)) (aft (t1 (twiceE) p q M S (iA X o i)) (tw (twiceE) p q M (iA X o i))))
   && (!(nn (tw (twiceE) p q M (iA X o i)) 5)
   && (!(bigB a (aft (t1 (twiceE) p q M S (iA X o i)) (tw (twiceE) p q M (iA X o i))) (tw (twiceE) p q M (iA X o i)))
   && true)))))))))))))))))
theorem rb4_cond_k : (fun (a : Int) (X : Array Value) (o n : Nat) (ca ma i : Int) (p q : Int) (M S : Array Value) => (followT rb4_bits (codeT cfC (callT cfC tC 60) 60 cz k4c (frC a X o n (sent 2 S) ca ma i) (sC1 p q M S))).1) = fun (a : Int) (X : Array Value) (o n : Nat) (ca ma i : Int) (p q : Int) (M S : Array Value) => rb4_c a X o n ca ma i p q M S := by kernel_rfl
theorem rb4_cond (a : Int) (X : Array Value) (o n : Nat) (ca ma i : Int) (p q : Int) (M S : Array Value) : (followT rb4_bits (codeT cfC (callT cfC tC 60) 60 cz k4c (frC a X o n (sent 2 S) ca ma i) (sC1 p q M S))).1 = rb4_c a X o n ca ma i p q M S := congrFun (congrFun (congrFun (congrFun (congrFun (congrFun (congrFun (congrFun (congrFun (congrFun (congrFun rb4_cond_k a) X) o) n) ca) ma) i) p) q) M) S
theorem rb4_leaf_k : (fun (a : Int) (X : Array Value) (o n : Nat) (ca ma i : Int) (p q : Int) (M S : Array Value) => pathObs cObs rb4_bits (codeT cfC (callT cfC tC 60) 60 cz k4c (frC a X o n (sent 2 S) ca ma i) (sC1 p q M S))) = fun (a : Int) (X : Array Value) (o n : Nat) (ca ma i : Int) (p q : Int) (M S : Array Value) => some (.normal, (4, 120, none), [some (.int .i64 a), some (VS X o n), some (ptrV 0), some (.slice (some ⟨2, 0, none⟩) S.size S.size), some (.int .i64 ca), some (.int .i64 (IntKind.wrap .i64 (ma + 1))), some (.int .i64 (inc i))], [some (boxO false ((twiceE).a (nA (NA p q M)) (iA X o i)) ((twiceE).b (nA (NA p q M)) (iA X o i)) (tw (twiceE) p q M (iA X o i))), oldO (netO false M) ((twiceE).row (nA (NA p q M)) (iA X o i)), some (.cells S 1 true), newO ((twiceE).row (nA (NA p q M)) (iA X o i)), ls (t1 (twiceE) p q M S (iA X o i)) (tw (twiceE) p q M (iA X o i)), ls (aft (t1 (twiceE) p q M S (iA X o i)) (tw (twiceE) p q M (iA X o i))) (tw (twiceE) p q M (iA X o i))], 6) := by kernel_rfl
theorem rb4_leaf (a : Int) (X : Array Value) (o n : Nat) (ca ma i : Int) (p q : Int) (M S : Array Value) : pathObs cObs rb4_bits (codeT cfC (callT cfC tC 60) 60 cz k4c (frC a X o n (sent 2 S) ca ma i) (sC1 p q M S)) = some (.normal, (4, 120, none), [some (.int .i64 a), some (VS X o n), some (ptrV 0), some (.slice (some ⟨2, 0, none⟩) S.size S.size), some (.int .i64 ca), some (.int .i64 (IntKind.wrap .i64 (ma + 1))), some (.int .i64 (inc i))], [some (boxO false ((twiceE).a (nA (NA p q M)) (iA X o i)) ((twiceE).b (nA (NA p q M)) (iA X o i)) (tw (twiceE) p q M (iA X o i))), oldO (netO false M) ((twiceE).row (nA (NA p q M)) (iA X o i)), some (.cells S 1 true), newO ((twiceE).row (nA (NA p q M)) (iA X o i)), ls (t1 (twiceE) p q M S (iA X o i)) (tw (twiceE) p q M (iA X o i)), ls (aft (t1 (twiceE) p q M S (iA X o i)) (tw (twiceE) p q M (iA X o i))) (tw (twiceE) p q M (iA X o i))], 6) := congrFun (congrFun (congrFun (congrFun (congrFun (congrFun (congrFun (congrFun (congrFun (congrFun (congrFun rb4_leaf_k a) X) o) n) ca) ma) i) p) q) M) S
def rb4f_bits : List Bool := [false, true, true, true, false, false, false, true, true, true, true, false, true, true, false, false, false, false, false, true, false, false, false, false, false, false, false, false, false]
def rb4f_c (a : Int) (X : Array Value) (o n : Nat) (ca ma i : Int) (p q : Int) (M S : Array Value) : Bool :=
  (decide (i < ((n : Nat) : Int)))
   && ((decide (0 ≤ i) && decide (i < ((n : Nat) : Int)))
   && ((isI .i64 X[(pI o i) + 0]?)
   && (!(toI X[(pI o i) + 0]? == 0)
   && (!(toI X[(pI o i) + 0]? == 1)
   && (!(toI X[(pI o i) + 0]? == 2)
   && ((toI X[(pI o i) + 0]? == 3)
   && ((decide (0 ≤ i) && decide (i < ((n : Nat) : Int)))
   && ((isI .i64 X[(pI o i) + 2]?)
   && ((d1 (twiceE) p q M S (iA X o i))
   && (!(!fullN (nA (NA p q M)))
   && ((clz (tw (twiceE) p q M (iA X o i)) (t1 (twiceE) p q M S (iA X o i)))
   && ((clz (tw (twiceE) p q M (iA X o i)) (t1 (twiceE) p q M S (iA X o i)))
   && (!(nn (tw (twiceE) p q M (iA X o i)) 4)
   && (!(mkB ma ca ((twiceE).b (nA (NA p q M)) (iA X o i)) (t1 (twiceE) p q M S (iA X o i)) (tw (twiceE) p q M (iA X o i)))
   && ((clz (tw (twiceE) p q M (iA X o i)) (aft (t1 (twiceE) p q M S (iA X o i)) (tw (twiceE) p q M (iA X o i))))
   && (!(nn (tw (twiceE) p q M (iA X o i)) 5)
   && (!(bigB a (aft (t1 (twiceE) p q M S (iA X o i)) (tw (twiceE) p q M (iA X o i))) (tw (twiceE) p q M (iA X o i)))
   && true)))))))))))))))))
theorem rb4f_cond_k : (fun (a : Int) (X : Array Value) (o n : Nat) (ca ma i : Int) (p q : Int) (M S : Array Value) => (followT rb4f_bits (codeT cfC (callT cfC tC 60) 60 cz k4c (frC a X o n (sent 2 S) ca ma i) (sC1 p q M S))).1) = fun (a : Int) (X : Array Value) (o n : Nat) (ca ma i : Int) (p q : Int) (M S : Array Value) => rb4f_c a X o n ca ma i p q M S := by kernel_rfl
theorem rb4f_cond (a : Int) (X : Array Value) (o n : Nat) (ca ma i : Int) (p q : Int) (M S : Array Value) : (followT rb4f_bits (codeT cfC (callT cfC tC 60) 60 cz k4c (frC a X o n (sent 2 S) ca ma i) (sC1 p q M S))).1 = rb4f_c a X o n ca ma i p q M S := congrFun (congrFun (congrFun (congrFun (congrFun (congrFun (congrFun (congrFun (congrFun (congrFun (congrFun rb4f_cond_k a) X) o) n) ca) ma) i) p) q) M) S
theorem rb4f_leaf_k : (fun (a : Int) (X : Array Value) (o n : Nat) (ca ma i : Int) (p q : Int) (M S : Array Value) => pathObs cObs rb4f_bits (codeT cfC (callT cfC tC 60) 60 cz k4c (frC a X o n (sent 2 S) ca ma i) (sC1 p q M S))) = fun (a : Int) (X : Array Value) (o n : Nat) (ca ma i : Int) (p q : Int) (M S : Array Value) => some (.normal, (4, 120, none), [some (.int .i64 a), some (VS X o n), some (ptrV 0), some (.slice (some ⟨2, 0, none⟩) S.size S.size), some (.int .i64 ca), some (.int .i64 ma), some (.int .i64 (inc i))], [some (boxO false ((twiceE).a (nA (NA p q M)) (iA X o i)) ((twiceE).b (nA (NA p q M)) (iA X o i)) (tw (twiceE) p q M (iA X o i))), oldO (netO false M) ((twiceE).row (nA (NA p q M)) (iA X o i)), some (.cells S 1 true), newO ((twiceE).row (nA (NA p q M)) (iA X o i)), ls (t1 (twiceE) p q M S (iA X o i)) (tw (twiceE) p q M (iA X o i)), ls (aft (t1 (twiceE) p q M S (iA X o i)) (tw (twiceE) p q M (iA X o i))) (tw (twiceE) p q M (iA X o i))], 6) := by kernel_rfl
theorem rb4f_leaf (a : Int) (X : Array Value) (o n : Nat) (ca ma i : Int) (p q : Int) (M S : Array Value) : pathObs cObs rb4f_bits (codeT cfC (callT cfC tC 60) 60 cz k4c (frC a X o n (sent 2 S) ca ma i) (sC1 p q M S)) = some (.normal, (4, 120, none), [some (.int .i64 a), some (VS X o n), some (ptrV 0), some (.slice (some ⟨2, 0, none⟩) S.size S.size), some (.int .i64 ca), some (.int .i64 ma), some (.int .i64 (inc i))], [some (boxO false ((twiceE).a (nA (NA p q M)) (iA X o i)) ((twiceE).b (nA (NA p q M)) (iA X o i)) (tw (twiceE) p q M (iA X o i))), oldO (netO false M) ((twiceE).row (nA (NA p q M)) (iA X o i)), some (.cells S 1 true), newO ((twiceE).row (nA (NA p q M)) (iA X o i)), ls (t1 (twiceE) p q M S (iA X o i)) (tw (twiceE) p q M (iA X o i)), ls (aft (t1 (twiceE) p q M S (iA X o i)) (tw (twiceE) p q M (iA X o i))) (tw (twiceE) p q M (iA X o i))], 6) := congrFun (congrFun (congrFun (congrFun (congrFun (congrFun (congrFun (congrFun (congrFun (congrFun (congrFun rb4f_leaf_k a) X) o) n) ca) ma) i) p) q) M) S
def rb5_bits : List Bool := [false, true, true, true, false, false, false, false, true, true, false, false, false, false, false, true, false, false, false, false, false, false, false, false, false]
def rb5_c (a : Int) (X : Array Value) (o n : Nat) (ca ma i : Int) (p q : Int) (M S : Array Value) : Bool :=
  (decide (i < ((n : Nat) : Int)))
   && ((decide (0 ≤ i) && decide (i < ((n : Nat) : Int)))
   && ((isI .i64 X[(pI o i) + 0]?)
   && (!(toI X[(pI o i) + 0]? == 0)
   && (!(toI X[(pI o i) + 0]? == 1)
   && (!(toI X[(pI o i) + 0]? == 2)
   && (!(toI X[(pI o i) + 0]? == 3)
   && ((clz (v1 (NA p q M)) (sC1 p q M S))
   && ((clz (v1 (NA p q M)) (sC1 p q M S))
   && (!(mkB ma ca q (sC1 p q M S) (v1 (NA p q M)))
   && ((clz (v1 (NA p q M)) (aft (sC1 p q M S) (v1 (NA p q M))))
   && (!(bigB a (aft (sC1 p q M S) (v1 (NA p q M))) (v1 (NA p q M)))
   && true)))))))))))
theorem rb5_cond_k : (fun (a : Int) (X : Array Value) (o n : Nat) (ca ma i : Int) (p q : Int) (M S : Array Value) => (followT rb5_bits (codeT cfC (callT cfC tC 60) 60 cz k4c (frC a X o n (sent 2 S) ca ma i) (sC1 p q M S))).1) = fun (a : Int) (X : Array Value) (o n : Nat) (ca ma i : Int) (p q : Int) (M S : Array Value) => rb5_c a X o n ca ma i p q M S := by kernel_rfl
theorem rb5_cond (a : Int) (X : Array Value) (o n : Nat) (ca ma i : Int) (p q : Int) (M S : Array Value) : (followT rb5_bits (codeT cfC (callT cfC tC 60) 60 cz k4c (frC a X o n (sent 2 S) ca ma i) (sC1 p q M S))).1 = rb5_c a X o n ca ma i p q M S := congrFun (congrFun (congrFun (congrFun (congrFun (congrFun (congrFun (congrFun (congrFun (congrFun (congrFun rb5_cond_k a) X) o) n) ca) ma) i) p) q) M) S
theorem rb5_leaf_k : (fun (a : Int) (X : Array Value) (o n : Nat) (ca ma i : Int) (p q : Int) (M S : Array Value) => pathObs cObs rb5_bits (codeT cfC (callT cfC tC 60) 60 cz k4c (frC a X o n (sent 2 S) ca ma i) (sC1 p q M S))) = fun (a : Int) (X : Array Value) (o n : Nat) (ca ma i : Int) (p q : Int) (M S : Array Value) => some (.normal, (4, 120, none), [some (.int .i64 a), some (VS X o n), some (ptrV 0), some (.slice (some ⟨2, 0, none⟩) S.size S.size), some (.int .i64 ca), some (.int .i64 ma), some (.int .i64 (inc i))], [some (boxO false p q (v1 (NA p q M))), netO false M, some (.cells S 1 true), ls (sC1 p q M S) (v1 (NA p q M)), ls (aft (sC1 p q M S) (v1 (NA p q M))) (v1 (NA p q M)), none], 5) := by kernel_rfl
theorem rb5_leaf (a : Int) (X : Array Value) (o n : Nat) (ca ma i : Int) (p q : Int) (M S : Array Value) : pathObs cObs rb5_bits (codeT cfC (callT cfC tC 60) 60 cz k4c (frC a X o n (sent 2 S) ca ma i) (sC1 p q M S)) = some (.normal, (4, 120, none), [some (.int .i64 a), some (VS X o n), some (ptrV 0), some (.slice (some ⟨2, 0, none⟩) S.size S.size), some (.int .i64 ca), some (.int .i64 ma), some (.int .i64 (inc i))], [some (boxO false p q (v1 (NA p q M))), netO false M, some (.cells S 1 true), ls (sC1 p q M S) (v1 (NA p q M)), ls (aft (sC1 p q M S) (v1 (NA p q M))) (v1 (NA p q M)), none], 5) := congrFun (congrFun (congrFun (congrFun (congrFun (congrFun (congrFun (congrFun (congrFun (congrFun (congrFun rb5_leaf_k a) X) o) n) ca) ma) i) p) q) M) S
def rc0_bits : List Bool := [false, false]
def rc0_c (a : Int) (X : Array Value) (o n : Nat) (ca ma i : Int) : Bool :=
  !(decide (i < ((n : Nat) : Int)))
   && true
theorem rc0_cond_k : (fun (a : Int) (X : Array Value) (o n : Nat) (ca ma i : Int) => (followT rc0_bits (codeT cfC (callT cfC tC 60) 60 cz k4c (frC a X o n nilV ca ma i) (sC0 a))).1) = fun (a : Int) (X : Array Value) (o n : Nat) (ca ma i : Int) => rc0_c a X o n ca ma i := by kernel_rfl
theorem rc0_cond (a : Int) (X : Array Value) (o n : Nat) (ca ma i : Int) : (followT rc0_bits (codeT cfC (callT cfC tC 60) 60 cz k4c (frC a X o n nilV ca ma i) (sC0 a))).1 = rc0_c a X o n ca ma i := congrFun (congrFun (congrFun (congrFun (congrFun (congrFun (congrFun rc0_cond_k a) X) o) n) ca) ma) i
theorem rc0_leaf_k : (fun (a : Int) (X : Array Value) (o n : Nat) (ca ma i : Int) => pathObs cObs rc0_bits (codeT cfC (callT cfC tC 60) 60 cz k4c (frC a X o n nilV ca ma i) (sC0 a))) = fun (a : Int) (X : Array Value) (o n : Nat) (ca ma i : Int) => some (.exit 0, (4, 120, none), [some (.int .i64 a), some (VS X o n), some (ptrV 0), some (nilV), some (.int .i64 ca), some (.int .i64 ma), some (.int .i64 i)], [some (boxO false a 0 nilV), none, none, none, none, none], 2) := by kernel_rfl
theorem rc0_leaf (a : Int) (X : Array Value) (o n : Nat) (ca ma i : Int) : pathObs cObs rc0_bits (codeT cfC (callT cfC tC 60) 60 cz k4c (frC a X o n nilV ca ma i) (sC0 a)) = some (.exit 0, (4, 120, none), [some (.int .i64 a), some (VS X o n), some (ptrV 0), some (nilV), some (.int .i64 ca), some (.int .i64 ma), some (.int .i64 i)], [some (boxO false a 0 nilV), none, none, none, none, none], 2) := congrFun (congrFun (congrFun (congrFun (congrFun (congrFun (congrFun rc0_leaf_k a) X) o) n) ca) ma) i
def rc1_bits : List Bool := [false, true, true, true, true, true, true, true, true, true, false, true, false, true, true, true, true, true, false, true, true, false, false, false, false, false, true, false, false, false, false, false, false, false, false, false]
def rc1_c (a : Int) (X : Array Value) (o n : Nat) (ca ma i : Int) : Bool :=
  (decide (i < ((n : Nat) : Int)))
   && ((decide (0 ≤ i) && decide (i < ((n : Nat) : Int)))
   && ((isI .i64 X[(pI o i) + 0]?)
   && ((toI X[(pI o i) + 0]? == 0)
   && ((decide (0 ≤ i) && decide (i < ((n : Nat) : Int)))
   && ((isV X[(pI o i) + 1]?)
   && ((e1 sendE a (sA X o i))
   && ((decide (0 ≤ i) && decide (i < ((n : Nat) : Int)))
   && ((isV X[(pI o i) + 1]?)
   && ((decide (0 + vL X[(pI o i) + 1]? ≤ nLim) && true && true && true && true && true)
   && (!(decide (vL X[(pI o i) + 1]? = 0))
   && ((decide (vL X[(pI o i) + 1]? ≤ vL X[(pI o i) + 1]?) && decide (vO X[(pI o i) + 1]? + vL X[(pI o i) + 1]? * 1 ≤ Array.size (vX X[(pI o i) + 1]?)))
   && (((opS X o i).toList.all Value.oneCell')
   && ((decide (0 ≤ i) && decide (i < ((n : Nat) : Int)))
   && ((isV X[(pI o i) + 1]?)
   && ((clz (uw sendE a (sA X o i)) (app0 (opS X o i) (u1 sendE a (sA X o i))))
   && ((clz (uw sendE a (sA X o i)) (app0 (opS X o i) (u1 sendE a (sA X o i))))
   && (!(nn (uw sendE a (sA X o i)) 4)
   && (!(mkB (IntKind.wrap .i64 (ma + ((vL X[pI o i + 1]? : Nat) : Int))) ca (sendE.b (nA (net0 a)) (sA X o i)) (app0 (opS X o i) (u1 sendE a (sA X o i))) (uw sendE a (sA X o i)))
   && ((clz (uw sendE a (sA X o i)) (aft (app0 (opS X o i) (u1 sendE a (sA X o i))) (uw sendE a (sA X o i))))
   && (!(nn (uw sendE a (sA X o i)) 5)
   && (!(bigB a (aft (app0 (opS X o i) (u1 sendE a (sA X o i))) (uw sendE a (sA X o i))) (uw sendE a (sA X o i)))
   && true)))))))))))))))))))))
theorem rc1_cond_k : (fun (a : Int) (X : Array Value) (o n : Nat) (ca ma i : Int) => (followT rc1_bits (codeT cfC (callT cfC tC 60) 60 cz k4c (frC a X o n nilV ca ma i) (sC0 a))).1) = fun (a : Int) (X : Array Value) (o n : Nat) (ca ma i : Int) => rc1_c a X o n ca ma i := by kernel_rfl
theorem rc1_cond (a : Int) (X : Array Value) (o n : Nat) (ca ma i : Int) : (followT rc1_bits (codeT cfC (callT cfC tC 60) 60 cz k4c (frC a X o n nilV ca ma i) (sC0 a))).1 = rc1_c a X o n ca ma i := congrFun (congrFun (congrFun (congrFun (congrFun (congrFun (congrFun rc1_cond_k a) X) o) n) ca) ma) i
theorem rc1_leaf_k : (fun (a : Int) (X : Array Value) (o n : Nat) (ca ma i : Int) => pathObs cObs rc1_bits (codeT cfC (callT cfC tC 60) 60 cz k4c (frC a X o n nilV ca ma i) (sC0 a))) = fun (a : Int) (X : Array Value) (o n : Nat) (ca ma i : Int) => some (.normal, (4, 120, none), [some (.int .i64 a), some (VS X o n), some (ptrV 0), some (.slice (some ⟨3, 0, none⟩) (vL X[pI o i + 1]?) (vL X[pI o i + 1]?)), some (.int .i64 ca), some (.int .i64 (IntKind.wrap .i64 (ma + ((vL X[pI o i + 1]? : Nat) : Int)))), some (.int .i64 (inc i))], [some (boxO false (sendE.a (nA (net0 a)) (sA X o i)) (sendE.b (nA (net0 a)) (sA X o i)) (uw sendE a (sA X o i))), oldO none (sendE.row (nA (net0 a)) (sA X o i)), newO (sendE.row (nA (net0 a)) (sA X o i)), some (.cells (opS X o i) 1 true), ls (app0 (opS X o i) (u1 sendE a (sA X o i))) (uw sendE a (sA X o i)), ls (aft (app0 (opS X o i) (u1 sendE a (sA X o i))) (uw sendE a (sA X o i))) (uw sendE a (sA X o i))], 6) := by kernel_rfl
theorem rc1_leaf (a : Int) (X : Array Value) (o n : Nat) (ca ma i : Int) : pathObs cObs rc1_bits (codeT cfC (callT cfC tC 60) 60 cz k4c (frC a X o n nilV ca ma i) (sC0 a)) = some (.normal, (4, 120, none), [some (.int .i64 a), some (VS X o n), some (ptrV 0), some (.slice (some ⟨3, 0, none⟩) (vL X[pI o i + 1]?) (vL X[pI o i + 1]?)), some (.int .i64 ca), some (.int .i64 (IntKind.wrap .i64 (ma + ((vL X[pI o i + 1]? : Nat) : Int)))), some (.int .i64 (inc i))], [some (boxO false (sendE.a (nA (net0 a)) (sA X o i)) (sendE.b (nA (net0 a)) (sA X o i)) (uw sendE a (sA X o i))), oldO none (sendE.row (nA (net0 a)) (sA X o i)), newO (sendE.row (nA (net0 a)) (sA X o i)), some (.cells (opS X o i) 1 true), ls (app0 (opS X o i) (u1 sendE a (sA X o i))) (uw sendE a (sA X o i)), ls (aft (app0 (opS X o i) (u1 sendE a (sA X o i))) (uw sendE a (sA X o i))) (uw sendE a (sA X o i))], 6) := congrFun (congrFun (congrFun (congrFun (congrFun (congrFun (congrFun rc1_leaf_k a) X) o) n) ca) ma) i
def rc1z_bits : List Bool := [false, true, true, true, true, true, true, true, true, true, false, true, true, true, true, false, true, true, true, false, false, false, false, true, false, false, true, false, false, false, false, false, false]
def rc1z_c (a : Int) (X : Array Value) (o n : Nat) (ca ma i : Int) : Bool :=
  (decide (i < ((n : Nat) : Int)))
   && ((decide (0 ≤ i) && decide (i < ((n : Nat) : Int)))
   && ((isI .i64 X[(pI o i) + 0]?)
   && ((toI X[(pI o i) + 0]? == 0)
   && ((decide (0 ≤ i) && decide (i < ((n : Nat) : Int)))
   && ((isV X[(pI o i) + 1]?)
   && ((e1 (sendE) a (sA X o i))
   && ((decide (0 ≤ i) && decide (i < ((n : Nat) : Int)))
   && ((isV X[(pI o i) + 1]?)
   && ((decide (0 + vL X[(pI o i) + 1]? ≤ nLim) && true && true && true && true && true)
   && ((decide (vL X[(pI o i) + 1]? = 0))
   && ((decide (0 ≤ i) && decide (i < ((n : Nat) : Int)))
   && ((isV X[(pI o i) + 1]?)
   && ((clz (uw (sendE) a (sA X o i)) (u1 (sendE) a (sA X o i)))
   && ((clz (uw (sendE) a (sA X o i)) (u1 (sendE) a (sA X o i)))
   && ((nn (uw (sendE) a (sA X o i)) 3)
   && (!(mkB (IntKind.wrap .i64 (ma + ((vL X[pI o i + 1]? : Nat) : Int))) ca ((sendE).b (nA (net0 a)) (sA X o i)) (u1 (sendE) a (sA X o i)) (uw (sendE) a (sA X o i)))
   && ((clz (uw (sendE) a (sA X o i)) (aft (u1 (sendE) a (sA X o i)) (uw (sendE) a (sA X o i))))
   && ((nn (uw (sendE) a (sA X o i)) 4)
   && (!(bigB a (aft (u1 (sendE) a (sA X o i)) (uw (sendE) a (sA X o i))) (uw (sendE) a (sA X o i)))
   && true)))))))))))))))))))
theorem rc1z_cond_k : (fun (a : Int) (X : Array Value) (o n : Nat) (ca ma i : Int) => (followT rc1z_bits (codeT cfC (callT cfC tC 60) 60 cz k4c (frC a X o n nilV ca ma i) (sC0 a))).1) = fun (a : Int) (X : Array Value) (o n : Nat) (ca ma i : Int) => rc1z_c a X o n ca ma i := by kernel_rfl
theorem rc1z_cond (a : Int) (X : Array Value) (o n : Nat) (ca ma i : Int) : (followT rc1z_bits (codeT cfC (callT cfC tC 60) 60 cz k4c (frC a X o n nilV ca ma i) (sC0 a))).1 = rc1z_c a X o n ca ma i := congrFun (congrFun (congrFun (congrFun (congrFun (congrFun (congrFun rc1z_cond_k a) X) o) n) ca) ma) i
theorem rc1z_leaf_k : (fun (a : Int) (X : Array Value) (o n : Nat) (ca ma i : Int) => pathObs cObs rc1z_bits (codeT cfC (callT cfC tC 60) 60 cz k4c (frC a X o n nilV ca ma i) (sC0 a))) = fun (a : Int) (X : Array Value) (o n : Nat) (ca ma i : Int) => some (.normal, (4, 120, none), [some (.int .i64 a), some (VS X o n), some (ptrV 0), some (nilV), some (.int .i64 ca), some (.int .i64 (IntKind.wrap .i64 (ma + ((vL X[pI o i + 1]? : Nat) : Int)))), some (.int .i64 (inc i))], [some (boxO false ((sendE).a (nA (net0 a)) (sA X o i)) ((sendE).b (nA (net0 a)) (sA X o i)) (uw (sendE) a (sA X o i))), oldO none ((sendE).row (nA (net0 a)) (sA X o i)), newO ((sendE).row (nA (net0 a)) (sA X o i)), ls (u1 (sendE) a (sA X o i)) (uw (sendE) a (sA X o i)), ls (aft (u1 (sendE) a (sA X o i)) (uw (sendE) a (sA X o i))) (uw (sendE) a (sA X o i)), none], 5) := by kernel_rfl
theorem rc1z_leaf (a : Int) (X : Array Value) (o n : Nat) (ca ma i : Int) : pathObs cObs rc1z_bits (codeT cfC (callT cfC tC 60) 60 cz k4c (frC a X o n nilV ca ma i) (sC0 a)) = some (.normal, (4, 120, none), [some (.int .i64 a), some (VS X o n), some (ptrV 0), some (nilV), some (.int .i64 ca), some (.int .i64 (IntKind.wrap .i64 (ma + ((vL X[pI o i + 1]? : Nat) : Int)))), some (.int .i64 (inc i))], [some (boxO false ((sendE).a (nA (net0 a)) (sA X o i)) ((sendE).b (nA (net0 a)) (sA X o i)) (uw (sendE) a (sA X o i))), oldO none ((sendE).row (nA (net0 a)) (sA X o i)), newO ((sendE).row (nA (net0 a)) (sA X o i)), ls (u1 (sendE) a (sA X o i)) (uw (sendE) a (sA X o i)), ls (aft (u1 (sendE) a (sA X o i)) (uw (sendE) a (sA X o i))) (uw (sendE) a (sA X o i)), none], 5) := congrFun (congrFun (congrFun (congrFun (congrFun (congrFun (congrFun rc1z_leaf_k a) X) o) n) ca) ma) i
def rc2_bits : List Bool := [false, true, true, true, false, true, true, true, true, false, false, false, false, false, false, false, false, false, false, false, true, true, true, false, false, false, false, true, false, false, true, false, false, false, false, false, false]
def rc2_c (a : Int) (X : Array Value) (o n : Nat) (ca ma i : Int) : Bool :=
  (decide (i < ((n : Nat) : Int)))
   && ((decide (0 ≤ i) && decide (i < ((n : Nat) : Int)))
   && ((isI .i64 X[(pI o i) + 0]?)
   && (!(toI X[(pI o i) + 0]? == 0)
   && ((toI X[(pI o i) + 0]? == 1)
   && ((decide (0 ≤ i) && decide (i < ((n : Nat) : Int)))
   && ((isI .i64 X[(pI o i) + 2]?)
   && ((e1 (takeE false) a (iA X o i))
   && (!(mkB ma ca ((takeE false).b (nA (net0 a)) (iA X o i)) (u1 (takeE false) a (iA X o i)) (uw (takeE false) a (iA X o i)))
   && (!(bigB a (aft (u1 (takeE false) a (iA X o i)) (uw (takeE false) a (iA X o i))) (uw (takeE false) a (iA X o i)))
   && true)))))))))
theorem rc2_cond_k : (fun (a : Int) (X : Array Value) (o n : Nat) (ca ma i : Int) => (followT rc2_bits (codeT cfC (callT cfC tC 60) 60 cz k4c (frC a X o n nilV ca ma i) (sC0 a))).1) = fun (a : Int) (X : Array Value) (o n : Nat) (ca ma i : Int) => rc2_c a X o n ca ma i := by kernel_rfl
theorem rc2_cond (a : Int) (X : Array Value) (o n : Nat) (ca ma i : Int) : (followT rc2_bits (codeT cfC (callT cfC tC 60) 60 cz k4c (frC a X o n nilV ca ma i) (sC0 a))).1 = rc2_c a X o n ca ma i := congrFun (congrFun (congrFun (congrFun (congrFun (congrFun (congrFun rc2_cond_k a) X) o) n) ca) ma) i
theorem rc2_leaf_k : (fun (a : Int) (X : Array Value) (o n : Nat) (ca ma i : Int) => pathObs cObs rc2_bits (codeT cfC (callT cfC tC 60) 60 cz k4c (frC a X o n nilV ca ma i) (sC0 a))) = fun (a : Int) (X : Array Value) (o n : Nat) (ca ma i : Int) => some (.normal, (4, 120, none), [some (.int .i64 a), some (VS X o n), some (ptrV 0), some (nilV), some (.int .i64 ca), some (.int .i64 ma), some (.int .i64 (inc i))], [some (boxO false ((takeE false).a (nA (net0 a)) (iA X o i)) ((takeE false).b (nA (net0 a)) (iA X o i)) (uw (takeE false) a (iA X o i))), oldO none ((takeE false).row (nA (net0 a)) (iA X o i)), newO ((takeE false).row (nA (net0 a)) (iA X o i)), ls (u1 (takeE false) a (iA X o i)) (uw (takeE false) a (iA X o i)), ls (aft (u1 (takeE false) a (iA X o i)) (uw (takeE false) a (iA X o i))) (uw (takeE false) a (iA X o i)), none], 5) := by kernel_rfl
theorem rc2_leaf (a : Int) (X : Array Value) (o n : Nat) (ca ma i : Int) : pathObs cObs rc2_bits (codeT cfC (callT cfC tC 60) 60 cz k4c (frC a X o n nilV ca ma i) (sC0 a)) = some (.normal, (4, 120, none), [some (.int .i64 a), some (VS X o n), some (ptrV 0), some (nilV), some (.int .i64 ca), some (.int .i64 ma), some (.int .i64 (inc i))], [some (boxO false ((takeE false).a (nA (net0 a)) (iA X o i)) ((takeE false).b (nA (net0 a)) (iA X o i)) (uw (takeE false) a (iA X o i))), oldO none ((takeE false).row (nA (net0 a)) (iA X o i)), newO ((takeE false).row (nA (net0 a)) (iA X o i)), ls (u1 (takeE false) a (iA X o i)) (uw (takeE false) a (iA X o i)), ls (aft (u1 (takeE false) a (iA X o i)) (uw (takeE false) a (iA X o i))) (uw (takeE false) a (iA X o i)), none], 5) := congrFun (congrFun (congrFun (congrFun (congrFun (congrFun (congrFun rc2_leaf_k a) X) o) n) ca) ma) i
def rc3_bits : List Bool := [false, true, true, true, false, false, true, true, true, true, true, true, true, false, false, false, false, true, false, false, true, false, false, false, false, false, false]
def rc3_c (a : Int) (X : Array Value) (o n : Nat) (ca ma i : Int) : Bool :=
  (decide (i < ((n : Nat) : Int)))
   && ((decide (0 ≤ i) && decide (i < ((n : Nat) : Int)))
   && ((isI .i64 X[(pI o i) + 0]?)
   && (!(toI X[(pI o i) + 0]? == 0)
   && (!(toI X[(pI o i) + 0]? == 1)
   && ((toI X[(pI o i) + 0]? == 2)
   && ((decide (0 ≤ i) && decide (i < ((n : Nat) : Int)))
   && ((isI .i64 X[(pI o i) + 2]?)
   && ((e1 (dropE false) a (iA X o i))
   && (!(mkB ma ca ((dropE false).b (nA (net0 a)) (iA X o i)) (u1 (dropE false) a (iA X o i)) (uw (dropE false) a (iA X o i)))
   && (!(bigB a (aft (u1 (dropE false) a (iA X o i)) (uw (dropE false) a (iA X o i))) (uw (dropE false) a (iA X o i)))
   && true))))))))))
theorem rc3_cond_k : (fun (a : Int) (X : Array Value) (o n : Nat) (ca ma i : Int) => (followT rc3_bits (codeT cfC (callT cfC tC 60) 60 cz k4c (frC a X o n nilV ca ma i) (sC0 a))).1) = fun (a : Int) (X : Array Value) (o n : Nat) (ca ma i : Int) => rc3_c a X o n ca ma i := by kernel_rfl
theorem rc3_cond (a : Int) (X : Array Value) (o n : Nat) (ca ma i : Int) : (followT rc3_bits (codeT cfC (callT cfC tC 60) 60 cz k4c (frC a X o n nilV ca ma i) (sC0 a))).1 = rc3_c a X o n ca ma i := congrFun (congrFun (congrFun (congrFun (congrFun (congrFun (congrFun rc3_cond_k a) X) o) n) ca) ma) i
theorem rc3_leaf_k : (fun (a : Int) (X : Array Value) (o n : Nat) (ca ma i : Int) => pathObs cObs rc3_bits (codeT cfC (callT cfC tC 60) 60 cz k4c (frC a X o n nilV ca ma i) (sC0 a))) = fun (a : Int) (X : Array Value) (o n : Nat) (ca ma i : Int) => some (.normal, (4, 120, none), [some (.int .i64 a), some (VS X o n), some (ptrV 0), some (nilV), some (.int .i64 ca), some (.int .i64 ma), some (.int .i64 (inc i))], [some (boxO false ((dropE false).a (nA (net0 a)) (iA X o i)) ((dropE false).b (nA (net0 a)) (iA X o i)) (uw (dropE false) a (iA X o i))), oldO none ((dropE false).row (nA (net0 a)) (iA X o i)), newO ((dropE false).row (nA (net0 a)) (iA X o i)), ls (u1 (dropE false) a (iA X o i)) (uw (dropE false) a (iA X o i)), ls (aft (u1 (dropE false) a (iA X o i)) (uw (dropE false) a (iA X o i))) (uw (dropE false) a (iA X o i)), none], 5) := by kernel_rfl
theorem rc3_leaf (a : Int) (X : Array Value) (o n : Nat) (ca ma i : Int) : pathObs cObs rc3_bits (codeT cfC (callT cfC tC 60) 60 cz k4c (frC a X o n nilV ca ma i) (sC0 a)) = some (.normal, (4, 120, none), [some (.int .i64 a), some (VS X o n), some (ptrV 0), some (nilV), some (.int .i64 ca), some (.int .i64 ma), some (.int .i64 (inc i))], [some (boxO false ((dropE false).a (nA (net0 a)) (iA X o i)) ((dropE false).b (nA (net0 a)) (iA X o i)) (uw (dropE false) a (iA X o i))), oldO none ((dropE false).row (nA (net0 a)) (iA X o i)), newO ((dropE false).row (nA (net0 a)) (iA X o i)), ls (u1 (dropE false) a (iA X o i)) (uw (dropE false) a (iA X o i)), ls (aft (u1 (dropE false) a (iA X o i)) (uw (dropE false) a (iA X o i))) (uw (dropE false) a (iA X o i)), none], 5) := congrFun (congrFun (congrFun (congrFun (congrFun (congrFun (congrFun rc3_leaf_k a) X) o) n) ca) ma) i
def rc4_bits : List Bool := [false, true, true, true, false, false, false, true, true, true, true, false, true, true, true, false, false, false, false, true, false, false, true, false, false, false, false, false, false]
def rc4_c (a : Int) (X : Array Value) (o n : Nat) (ca ma i : Int) : Bool :=
  (decide (i < ((n : Nat) : Int)))
   && ((decide (0 ≤ i) && decide (i < ((n : Nat) : Int)))
   && ((isI .i64 X[(pI o i) + 0]?)
   && (!(toI X[(pI o i) + 0]? == 0)
   && (!(toI X[(pI o i) + 0]? == 1)
   && (!(toI X[(pI o i) + 0]? == 2)
   && ((toI X[(pI o i) + 0]? == 3)
   && ((decide (0 ≤ i) && decide (i < ((n : Nat) : Int)))
   && ((isI .i64 X[(pI o i) + 2]?)
   && ((e1 (twiceE) a (iA X o i))
   && (!(mkB ma ca ((twiceE).b (nA (net0 a)) (iA X o i)) (u1 (twiceE) a (iA X o i)) (uw (twiceE) a (iA X o i)))
   && (!(bigB a (aft (u1 (twiceE) a (iA X o i)) (uw (twiceE) a (iA X o i))) (uw (twiceE) a (iA X o i)))
   && true)))))))))))
theorem rc4_cond_k : (fun (a : Int) (X : Array Value) (o n : Nat) (ca ma i : Int) => (followT rc4_bits (codeT cfC (callT cfC tC 60) 60 cz k4c (frC a X o n nilV ca ma i) (sC0 a))).1) = fun (a : Int) (X : Array Value) (o n : Nat) (ca ma i : Int) => rc4_c a X o n ca ma i := by kernel_rfl
theorem rc4_cond (a : Int) (X : Array Value) (o n : Nat) (ca ma i : Int) : (followT rc4_bits (codeT cfC (callT cfC tC 60) 60 cz k4c (frC a X o n nilV ca ma i) (sC0 a))).1 = rc4_c a X o n ca ma i := congrFun (congrFun (congrFun (congrFun (congrFun (congrFun (congrFun rc4_cond_k a) X) o) n) ca) ma) i
theorem rc4_leaf_k : (fun (a : Int) (X : Array Value) (o n : Nat) (ca ma i : Int) => pathObs cObs rc4_bits (codeT cfC (callT cfC tC 60) 60 cz k4c (frC a X o n nilV ca ma i) (sC0 a))) = fun (a : Int) (X : Array Value) (o n : Nat) (ca ma i : Int) => some (.normal, (4, 120, none), [some (.int .i64 a), some (VS X o n), some (ptrV 0), some (nilV), some (.int .i64 ca), some (.int .i64 ma), some (.int .i64 (inc i))], [some (boxO false ((twiceE).a (nA (net0 a)) (iA X o i)) ((twiceE).b (nA (net0 a)) (iA X o i)) (uw (twiceE) a (iA X o i))), oldO none ((twiceE).row (nA (net0 a)) (iA X o i)), newO ((twiceE).row (nA (net0 a)) (iA X o i)), ls (u1 (twiceE) a (iA X o i)) (uw (twiceE) a (iA X o i)), ls (aft (u1 (twiceE) a (iA X o i)) (uw (twiceE) a (iA X o i))) (uw (twiceE) a (iA X o i)), none], 5) := by kernel_rfl
theorem rc4_leaf (a : Int) (X : Array Value) (o n : Nat) (ca ma i : Int) : pathObs cObs rc4_bits (codeT cfC (callT cfC tC 60) 60 cz k4c (frC a X o n nilV ca ma i) (sC0 a)) = some (.normal, (4, 120, none), [some (.int .i64 a), some (VS X o n), some (ptrV 0), some (nilV), some (.int .i64 ca), some (.int .i64 ma), some (.int .i64 (inc i))], [some (boxO false ((twiceE).a (nA (net0 a)) (iA X o i)) ((twiceE).b (nA (net0 a)) (iA X o i)) (uw (twiceE) a (iA X o i))), oldO none ((twiceE).row (nA (net0 a)) (iA X o i)), newO ((twiceE).row (nA (net0 a)) (iA X o i)), ls (u1 (twiceE) a (iA X o i)) (uw (twiceE) a (iA X o i)), ls (aft (u1 (twiceE) a (iA X o i)) (uw (twiceE) a (iA X o i))) (uw (twiceE) a (iA X o i)), none], 5) := congrFun (congrFun (congrFun (congrFun (congrFun (congrFun (congrFun rc4_leaf_k a) X) o) n) ca) ma) i
def rc5_bits : List Bool := [false, true, true, true, false, false, false, false, true, true, true, false, false, false, false, true, false, false, true, false, false, false, false, false, false]
def rc5_c (a : Int) (X : Array Value) (o n : Nat) (ca ma i : Int) : Bool :=
  (decide (i < ((n : Nat) : Int)))
   && ((decide (0 ≤ i) && decide (i < ((n : Nat) : Int)))
   && ((isI .i64 X[(pI o i) + 0]?)
   && (!(toI X[(pI o i) + 0]? == 0)
   && (!(toI X[(pI o i) + 0]? == 1)
   && (!(toI X[(pI o i) + 0]? == 2)
   && (!(toI X[(pI o i) + 0]? == 3)
   && (!(ma != IntKind.wrap .i64 (IntKind.wrap .i64 (ca + 0) + ((0 : Nat) : Int)))
   && (!(decide (a < ((0 : Nat) : Int)))
   && true))))))))
theorem rc5_cond_k : (fun (a : Int) (X : Array Value) (o n : Nat) (ca ma i : Int) => (followT rc5_bits (codeT cfC (callT cfC tC 60) 60 cz k4c (frC a X o n nilV ca ma i) (sC0 a))).1) = fun (a : Int) (X : Array Value) (o n : Nat) (ca ma i : Int) => rc5_c a X o n ca ma i := by kernel_rfl
theorem rc5_cond (a : Int) (X : Array Value) (o n : Nat) (ca ma i : Int) : (followT rc5_bits (codeT cfC (callT cfC tC 60) 60 cz k4c (frC a X o n nilV ca ma i) (sC0 a))).1 = rc5_c a X o n ca ma i := congrFun (congrFun (congrFun (congrFun (congrFun (congrFun (congrFun rc5_cond_k a) X) o) n) ca) ma) i
theorem rc5_leaf_k : (fun (a : Int) (X : Array Value) (o n : Nat) (ca ma i : Int) => pathObs cObs rc5_bits (codeT cfC (callT cfC tC 60) 60 cz k4c (frC a X o n nilV ca ma i) (sC0 a))) = fun (a : Int) (X : Array Value) (o n : Nat) (ca ma i : Int) => some (.normal, (4, 120, none), [some (.int .i64 a), some (VS X o n), some (ptrV 0), some (nilV), some (.int .i64 ca), some (.int .i64 ma), some (.int .i64 (inc i))], [some (boxO false a 0 nilV), none, none, none, none, none], 4) := by kernel_rfl
theorem rc5_leaf (a : Int) (X : Array Value) (o n : Nat) (ca ma i : Int) : pathObs cObs rc5_bits (codeT cfC (callT cfC tC 60) 60 cz k4c (frC a X o n nilV ca ma i) (sC0 a)) = some (.normal, (4, 120, none), [some (.int .i64 a), some (VS X o n), some (ptrV 0), some (nilV), some (.int .i64 ca), some (.int .i64 ma), some (.int .i64 (inc i))], [some (boxO false a 0 nilV), none, none, none, none, none], 4) := congrFun (congrFun (congrFun (congrFun (congrFun (congrFun (congrFun rc5_leaf_k a) X) o) n) ca) ma) i
end
end Go.Proofs.Ytgcffmkifjnmlaa
