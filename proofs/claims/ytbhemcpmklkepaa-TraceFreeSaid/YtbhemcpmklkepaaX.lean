/- No event of a kind, a node, and a step may be twice: the law. -/
import Derived.Test.YtbhemcpmklkepaaW
import Derived.Test.YtbhemcpmklkepaaAmFlow
namespace Go.Proofs.Ytbhemcpmklkepaa
open Go.Am
noncomputable section
def TQ : FuncId → Option (Array Value → DT (Option (Value × St)))
  | 10 => some F10
  | _ => none
def cfgQ : Cfg := cfgP.frzR TQ
def tQ : FuncId → Option HandT := treeFR TQ tP
theorem goodQ [Z : Zone] (B : Base) : Go.Am.Good cfgQ B := frzR_good (fun Z' => @goodP Z') rfl (fun f F h => by
  unfold TQ at h
  split at h
  · cases h; exact ⟨⟨_, i10_fn⟩, fun Z' => @Tells.cfg Z' cfg3 cfgP rfl rfl _ _ (@tells10 Z')⟩
  · cases h) B
theorem tQ_ok : ∀ f k hd, tQ f = some k → cfgQ.hand f = some hd → ∀ a c s, (k a c s).eval = hd a c s := treeFR_ok tP_ok
def b5 : Code := bodyOf 5
def pre5 : List Code := [cL b5, cL (cN 1 b5), cL (cN 2 b5), cL (cN 3 b5), cL (cN 4 b5), cL (cN 5 b5), cL (cN 6 b5)]
theorem b5_eq : b5 = nest pre5 (cN 7 b5) := by kernel_rfl
def V5 (b : Bool) : Option (Ex × Fr × St) := some (.ret, frS 5 [(6, .bool b)], st0)
def sel5 : Ex → List Tmp × List Kept
  | .normal => ([0, 1, 7, 9], [.plain 3])
  | _ => ([6], [])
def ownT3 {α : Type} (X : Array Value) (o n : Nat) (A : Bool → Array Value → Nat → Option α) : Option α := bif evsOk X o n && decide (n ≤ nLim) then (bif decide (n = 0) then A false #[] 0 else (bif (rowE X o n).all (plainN 6) && (rowE X o n).all (freeN 6) then (bif decide (n ≤ n) && (decide ((rowE X o n).size ≠ 0) && (rowE X o n).all (freeN 9)) then A true (rowE X o n) n else none) else none)) else none
def c14g {α : Type} (J : Array Value) (jo jn : Nat) (E : Array Value) (m : Nat) (A : Option α) : Option α := bif (jobsOk J jo jn && smallB J jo jn) && evsOk E 0 m then A else none
def newE (X : Array Value) (o n : Nat) (at' : Int) : Array Value := (X.extract o (o + n * 6)).extract 0 (0 + n * 6) ++ ⟨(eA X o at').cells⟩
def fr5 (J : Array Value) (jo jn : Nat) (X : Array Value) (o n : Nat) (c : Int) : Fr := frS 5 [(0, VS J jo jn), (1, VS X o n), (7, .int .i64 c), (9, sl0 (n + 1))]
def at5 {α : Type} (X : Array Value) (o n : Nat) (at' : Int) (A : Option α) : Option α := bif decide (0 ≤ at') && decide (at' < (n : Int)) then (bif decide (o + Int.toNat at' * 6 + 6 ≤ X.size) then (bif cellsOk X ev6 (o + Int.toNat at' * 6) then A else none) else none) else none
def AP5 (J : Array Value) (jo jn : Nat) (X : Array Value) (o n : Nat) (at' : Int) (ok : Bool) (c : Int × Int) : Option (Ex × Fr × St) := bif decide (0 + n ≤ nLim) && true && true && true && true && true then (bif decide (n = 0) then at5 X o n at' none else (bif decide (n ≤ n) && decide (o + n * 6 ≤ X.size) then (bif (X.extract o (o + n * 6)).toList.all Value.oneCell' then at5 X o n at' (bif decide (n ≤ n) && decide (n + 1 ≤ nLim) && true && true && true && true && true then (bif decide (n + 1 ≤ n) then (bif decide (0 + n * 6 + 6 ≤ (X.extract o (o + n * 6)).size) && true then none else none) else (bif decide (0 + n * 6 ≤ (X.extract o (o + n * 6)).size) then (bif (n == n) && (0 + n * 6 == (X.extract o (o + n * 6)).size) then (match ok with | true => some (.normal, fr5 J jo jn X o n c.1, stS (ro10 (newE X o n at')) 1) | false => none) else none) else none)) else none) else none) else none)) else none
def G5 (J : Array Value) (jo jn : Nat) (X : Array Value) (o n : Nat) (at' : Int) (ok : Bool) (c : Int × Int) : Option (Ex × Fr × St) := bif c.2 != 0 then (bif decide (c.1 ≥ 0) then (bif decide (c.1 < (n : Int)) then V5 true else V5 false) else V5 false) else AP5 J jo jn X o n at' ok c
theorem t5e_k : (fun (J : Array Value) (jo jn : Nat) (X : Array Value) (o n : Nat) (at' : Int) => (codeT cfgQ (callT cfgQ tQ 60) 60 cz (seqOf pre5) (frame0 5 (ntOf 5) #[VS J jo jn, VS X o n, .int .i64 at']) st0).evalM (gcObs 0 0 sel5)) = fun (J : Array Value) (jo jn : Nat) (X : Array Value) (o n : Nat) (at' : Int) => (bif jobsOk J jo jn then (bif smallB J jo jn then (bif !decide ((n : Int) ≤ 60) then V5 true else bif decide (at' < 0) then V5 true else bif decide (at' ≥ (n : Int)) then V5 true else ownT3 X o n (fun ok E m => c14g J jo jn E m (G5 J jo jn X o n at' ok (chk J jo jn E 0 m)))) else V5 true) else none) := by kernel_rfl
theorem t5e (J : Array Value) (jo jn : Nat) (X : Array Value) (o n : Nat) (at' : Int) : (codeT cfgQ (callT cfgQ tQ 60) 60 cz (seqOf pre5) (frame0 5 (ntOf 5) #[VS J jo jn, VS X o n, .int .i64 at']) st0).evalM (gcObs 0 0 sel5) = (bif jobsOk J jo jn then (bif smallB J jo jn then (bif !decide ((n : Int) ≤ 60) then V5 true else bif decide (at' < 0) then V5 true else bif decide (at' ≥ (n : Int)) then V5 true else ownT3 X o n (fun ok E m => c14g J jo jn E m (G5 J jo jn X o n at' ok (chk J jo jn E 0 m)))) else V5 true) else none) := congrFun (congrFun (congrFun (congrFun (congrFun (congrFun (congrFun t5e_k J) jo) jn) X) o) n) at'
def g5 (n : Nat) (c : Int) (c2 : Int × Int) : Option (Ex × Fr × St) := bif c == (n : Int) then (bif c2.1 == (n : Int) then (bif c2.2 == 14 then V5 true else V5 false) else V5 false) else V5 false
theorem e5_k : (fun (J : Array Value) (jo jn : Nat) (X : Array Value) (o n : Nat) (c : Int) (E : Array Value) => (codeT cfgQ (callT cfgQ tQ 60) 60 cz (cN 7 b5) (fr5 J jo jn X o n c) (stS (ro10 E) 1)).evalM (gcObs 0 0 (keepR [] [6]))) = fun (J : Array Value) (jo jn : Nat) (X : Array Value) (o n : Nat) (c : Int) (E : Array Value) => (bif decide (n + 1 ≤ n + 1) && (decide (E.size ≠ 0) && E.all (freeN 9)) then ownT3 E 0 (n + 1) (fun _ E2 m2 => c14g J jo jn E2 m2 (g5 n c (chk J jo jn E2 0 m2))) else none) := by kernel_rfl
theorem e5 (J : Array Value) (jo jn : Nat) (X : Array Value) (o n : Nat) (c : Int) (E : Array Value) : (codeT cfgQ (callT cfgQ tQ 60) 60 cz (cN 7 b5) (fr5 J jo jn X o n c) (stS (ro10 E) 1)).evalM (gcObs 0 0 (keepR [] [6])) = (bif decide (n + 1 ≤ n + 1) && (decide (E.size ≠ 0) && E.all (freeN 9)) then ownT3 E 0 (n + 1) (fun _ E2 m2 => c14g J jo jn E2 m2 (g5 n c (chk J jo jn E2 0 m2))) else none) := congrFun (congrFun (congrFun (congrFun (congrFun (congrFun (congrFun (congrFun e5_k J) jo) jn) X) o) n) c) E
end
end Go.Proofs.Ytbhemcpmklkepaa
