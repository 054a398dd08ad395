/- The greatest of some numbers. -/
import Derived.Test.YtbhemcpmklkepaaP
import Derived.Test.YtbhemcpmklkepaaAmFlow
namespace Go.Proofs.Ytbhemcpmklkepaa
open Go.Am
noncomputable section
def b46 : Code := bodyOf 46
def k46 : Code := cB (cB (cR (cL (cN 3 b46))))
theorem b46_eq : b46 = nest [cL b46, cL (cN 1 b46), cL (cN 2 b46)] (.seq (.seq (cL (cL (cN 3 b46))) (.block 0 (.loop k46))) (cN 4 b46)) := by kernel_rfl
def fr46 (X : Array Value) (o n : Nat) (m i : Int) : Fr := frS 46 [(0, VS X o n), (3, .int .i64 m), (4, .int .i64 i)]
theorem p46_k : (fun (X : Array Value) (o n : Nat) => (codeT cfg1 (callT cfg1 t1 60) 60 cz (seqOf [cL b46, cL (cN 1 b46), cL (cN 2 b46)]) (frame0 46 (ntOf 46) #[VS X o n]) st0).evalM (gcObs 0 0 (keep [0, 3]))) = fun (X : Array Value) (o n : Nat) => (bif decide ((n : Int) < 1) then none else bif decide ((0 : Int) < (n : Int)) then (bif isI .i64 X[o + Int.toNat 0 * 1]? then some (.normal, frS 46 [(0, VS X o n), (3, .int .i64 (toI X[o + Int.toNat 0 * 1]?))], st0) else none) else none) := by kernel_rfl
theorem p46 (X : Array Value) (o n : Nat) : (codeT cfg1 (callT cfg1 t1 60) 60 cz (seqOf [cL b46, cL (cN 1 b46), cL (cN 2 b46)]) (frame0 46 (ntOf 46) #[VS X o n]) st0).evalM (gcObs 0 0 (keep [0, 3])) = (bif decide ((n : Int) < 1) then none else bif decide ((0 : Int) < (n : Int)) then (bif isI .i64 X[o + Int.toNat 0 * 1]? then some (.normal, frS 46 [(0, VS X o n), (3, .int .i64 (toI X[o + Int.toNat 0 * 1]?))], st0) else none) else none) := congrFun (congrFun (congrFun p46_k X) o) n
theorem i46_k : (fun (X : Array Value) (o n : Nat) (m : Int) => (codeT cfg1 (callT cfg1 t1 60) 60 cz (cL (cL (cN 3 b46))) (frS 46 [(0, VS X o n), (3, .int .i64 m)]) st0).evalM (gcObs 0 0 (keep [0, 3, 4]))) = fun (X : Array Value) (o n : Nat) (m : Int) => some (.normal, fr46 X o n m 1, st0) := by kernel_rfl
theorem i46 (X : Array Value) (o n : Nat) (m : Int) : (codeT cfg1 (callT cfg1 t1 60) 60 cz (cL (cL (cN 3 b46))) (frS 46 [(0, VS X o n), (3, .int .i64 m)]) st0).evalM (gcObs 0 0 (keep [0, 3, 4])) = some (.normal, fr46 X o n m 1, st0) := congrFun (congrFun (congrFun (congrFun i46_k X) o) n) m
theorem r46_k : (fun (X : Array Value) (o n : Nat) (m i : Int) => (codeT cfg1 (callT cfg1 t1 60) 60 cz k46 (fr46 X o n m i) st0).evalM (gcObs 0 0 (keep [0, 3, 4]))) = fun (X : Array Value) (o n : Nat) (m i : Int) => (bif decide (i < (n : Int)) then (bif decide (0 ≤ i) && decide (i < (n : Int)) then (bif isI .i64 X[o + Int.toNat i * 1]? then some (.normal, fr46 X o n (if toI X[o + Int.toNat i * 1]? > m then toI X[o + Int.toNat i * 1]? else m) (IntKind.wrap .i64 (i + 1)), st0) else none) else none) else some (.exit 0, fr46 X o n m i, st0)) := by kernel_rfl
theorem r46 (X : Array Value) (o n : Nat) (m i : Int) : (codeT cfg1 (callT cfg1 t1 60) 60 cz k46 (fr46 X o n m i) st0).evalM (gcObs 0 0 (keep [0, 3, 4])) = (bif decide (i < (n : Int)) then (bif decide (0 ≤ i) && decide (i < (n : Int)) then (bif isI .i64 X[o + Int.toNat i * 1]? then some (.normal, fr46 X o n (if toI X[o + Int.toNat i * 1]? > m then toI X[o + Int.toNat i * 1]? else m) (IntKind.wrap .i64 (i + 1)), st0) else none) else none) else some (.exit 0, fr46 X o n m i, st0)) := congrFun (congrFun (congrFun (congrFun (congrFun r46_k X) o) n) m) i
theorem e46_k : (fun (X : Array Value) (o n : Nat) (m i : Int) => (codeT cfg1 (callT cfg1 t1 60) 60 cz (cN 4 b46) (fr46 X o n m i) st0).evalM (gcObs 0 0 (keepR [] [2]))) = fun (X : Array Value) (o n : Nat) (m i : Int) => some (.ret, frS 46 [(2, .int .i64 m)], st0) := by kernel_rfl
theorem e46 (X : Array Value) (o n : Nat) (m i : Int) : (codeT cfg1 (callT cfg1 t1 60) 60 cz (cN 4 b46) (fr46 X o n m i) st0).evalM (gcObs 0 0 (keepR [] [2])) = some (.ret, frS 46 [(2, .int .i64 m)], st0) := congrFun (congrFun (congrFun (congrFun (congrFun e46_k X) o) n) m) i
/-- The greatest of the first numbers of a row, at least one. -/
def mxN (X : Array Value) (o : Nat) : Nat → Int
  | 0 => toI X[o + 0]?
  | i + 1 => if toI X[o + (i + 1)]? > mxN X o i then toI X[o + (i + 1)]? else mxN X o i
theorem ok46 [Z : Zone] {b : Nat} {X : Array Value} {o n : Nat} (h : intsOk X o n = true) (h1 : 1 ≤ n) :
    AWp cfg1 ⟨0, b⟩ cz b46 (frame0 46 (ntOf 46) #[VS X o n]) st0 (RetL [(2, .int .i64 (mxN X o (n - 1)))]) := by
  have hn := intsOk_n h
  rw [b46_eq]
  have a1 : ¬ ((n : Int) < 1) := by omega
  have a2 : (0 : Int) < n := by omega
  have a3 : isI .i64 X[o + Int.toNat 0 * 1]? = true := intsOk_get h (i := 0) (by omega)
  refine AWp.nestRet good1 rfl (pl1 rfl) (of_treeM t1_ok ((p46 X o n).trans (show _ = some (Ex.normal, frS 46 [(0, VS X o n), (3, .int .i64 (mxN X o 0))], st0) by simp only [a1, a2, a3, decide_true, decide_false, cond_true, cond_false]; rfl))) trivial ?_
  refine AWp.forStmt (N := n - 1) (head := fun i => fr46 X o n (mxN X o i) ((i + 1 : Nat) : Int)) (sh := fun _ => st0) (sel2 := keep [0, 3, 4]) (stop := fun i => if i < n - 1 then none else some (.exit 0, fr46 X o n (mxN X o i) ((i + 1 : Nat) : Int), st0))
    good1 rfl (pl1 rfl) (of_treeM t1_ok (i46 X o n _)) trivial (fun i hi _ => of_treeM t1_ok ((r46 X o n _ _).trans ?_)) (fun i hi => ?_) ⟨n - 1, Nat.le_refl _, by simp⟩ (fun i r hi hno hr => ?_)
  · have hi0 : (0 : Int) ≤ ((i + 1 : Nat) : Int) := by omega
    by_cases hlt : i < n - 1
    · have hlt' : i + 1 < n := by omega
      have hw := wrap_nat (i := i + 1) (by omega)
      have h2 := intsOk_get h hlt'
      simp only [hlt, hlt', if_true, Int.ofNat_lt, hi0, decide_true, Bool.and_true, cond_true, Int.toNat_natCast, Nat.mul_one, h2, hw, mxN]
    · have hlt' : ¬ (i + 1 < n) := by omega
      simp only [hlt, hlt', if_false, Int.ofNat_lt, decide_false, cond_false]
  · split
    · rename_i r hr
      split at hr
      · cases hr
      · cases hr; trivial
    · trivial
  · split at hr
    · cases hr
    · have hin : i = n - 1 := by omega
      cases hr
      refine ⟨rfl, fun Z' => AWp.done good1 (pl1 rfl) (.inr rfl) (of_treeM t1_ok (e46 X o n _ _)) trivial fun p hp => ?_⟩
      simp only [List.mem_singleton] at hp
      subst hp
      rw [hin]
      exact frS_one _ _ _
def F46 : Array Value → DT (Option (Value × St))
  | ⟨[.func (.method nm) X ⟨[.slice none o n]⟩]⟩ => .must (decide (nm = "") && (intsOk X o n && decide (1 ≤ n))) (.leaf (some (.int .i64 (mxN X o (n - 1)), st0))) (.leaf none)
  | _ => .leaf none
theorem i46_fn : cfg1.fns 46 = some { body := b46, nt := ntOf 46, results := [.tmp 2], pure := false } := by kernel_rfl
theorem tells46 [Z : Zone] : Tells cfg1 46 fun a => (F46 a).eval := by
  refine tells_one good1 rfl i46_fn rfl fun args y hx => ?_
  unfold F46 at hx
  split at hx
  · rename_i nm X o n
    rw [DT.eval_must] at hx
    cases h : (decide (nm = "") && (intsOk X o n && decide (1 ≤ n))) with
    | false => rw [h] at hx; cases hx
    | true =>
      rw [h, cond_true, DT.eval_leaf] at hx
      cases hx
      simp only [Bool.and_eq_true, decide_eq_true_eq] at h
      obtain ⟨rfl, h1, h2⟩ := h
      exact ⟨by simp [freeN], by show 1 ≤ ntOf 46; decide, _, rfl, rfl, fun b => ok46 h1 h2⟩
  · cases hx
def T5 : FuncId → Option (Array Value → DT (Option (Value × St)))
  | 46 => some F46
  | _ => none
def cfg5 : Cfg := cfg1.frz T5
def t5 : FuncId → Option HandT := treeF T5 t1
theorem good5 [Z : Zone] (B : Base) : Go.Am.Good cfg5 B := frz_good (fun Z' => @good1 Z') rfl (fun f F h => by
  unfold T5 at h
  split at h
  · cases h; exact ⟨⟨_, i46_fn⟩, fun Z' => @tells46 Z'⟩
  · cases h) B
theorem t5_ok : ∀ f k hd, t5 f = some k → cfg5.hand f = some hd → ∀ a c s, (k a c s).eval = hd a c s := treeF_ok t1_ok
/-! ### Coded -/
def Ev.at (x : Ev) (node : Int) : Ev := ⟨x.kind, node, x.job, x.epoch, x.step, x.arg⟩
def goesB (X : Array Value) (o n : Nat) (x : Ev) : Bool := hasE X o n 10 (x.at (-1))
def b36 : Code := bodyOf 36
def k36 : Code := cB (cB (cR (cL (cN 3 b36))))
theorem b36_eq : b36 = nest [cL b36, cL (cN 1 b36), cL (cN 2 b36)] (.seq (.seq (cL (cL (cN 3 b36))) (.block 1 (.loop k36))) (cN 4 b36)) := by kernel_rfl
def jobV (K : Array Value) (ko kn : Nat) (S : Array Value) (so sn : Nat) : Value := .agg ⟨[VS K ko kn, VS S so sn]⟩
def fr36a (X : Array Value) (o n : Nat) (K : Array Value) (ko kn : Nat) (S : Array Value) (so sn : Nat) (x : Ev) : Fr := frO 36 [(0, VS X o n), (7, .slice none 0 0)] [(4, (4, 0)), (5, (5, 0))] [(4, ⟨[VS K ko kn, VS S so sn]⟩), (5, ⟨x.cells⟩)]
def sel36 : Ex → List Tmp × List Kept
  | .normal => ([0, 4, 5, 7], [])
  | _ => ([6], [])
def R6 (b : Bool) : Option (Ex × Fr × St) := some (.ret, frS 36 [(6, .bool b)], st0)
theorem p36_k : (fun (X : Array Value) (o n : Nat) (K : Array Value) (ko kn : Nat) (S : Array Value) (so sn : Nat) (x : Ev) => (codeT cfg5 (callT cfg5 t5 60) 60 cz (seqOf [cL b36, cL (cN 1 b36), cL (cN 2 b36)]) (frame0 36 (ntOf 36) #[VS X o n, jobV K ko kn S so sn, x.val]) st0).evalM (gcObs 0 0 sel36)) = fun (X : Array Value) (o n : Nat) (K : Array Value) (ko kn : Nat) (S : Array Value) (so sn : Nat) (x : Ev) => (bif evsOk X o n then (bif hasE X o n 11 x then R6 false else (bif evsOk X o n then (bif hasE X o n 10 (x.at (-1)) then some (.normal, fr36a X o n K ko kn S so sn x, st0) else bif x.arg == 255 then R6 true else R6 (x.arg == 256)) else none)) else none) := by kernel_rfl
theorem p36 (X : Array Value) (o n : Nat) (K : Array Value) (ko kn : Nat) (S : Array Value) (so sn : Nat) (x : Ev) : (codeT cfg5 (callT cfg5 t5 60) 60 cz (seqOf [cL b36, cL (cN 1 b36), cL (cN 2 b36)]) (frame0 36 (ntOf 36) #[VS X o n, jobV K ko kn S so sn, x.val]) st0).evalM (gcObs 0 0 sel36) = (bif evsOk X o n then (bif hasE X o n 11 x then R6 false else (bif evsOk X o n then (bif hasE X o n 10 (x.at (-1)) then some (.normal, fr36a X o n K ko kn S so sn x, st0) else bif x.arg == 255 then R6 true else R6 (x.arg == 256)) else none)) else none) := congrFun (congrFun (congrFun (congrFun (congrFun (congrFun (congrFun (congrFun (congrFun (congrFun p36_k X) o) n) K) ko) kn) S) so) sn) x
def ro36 (E : Array Value) : List (Nat × AObj) := [(0, .cells E 1 true)]
def fr36 (X : Array Value) (o n : Nat) (K : Array Value) (ko kn : Nat) (x : Ev) (v : Value) (i : Int) : Fr := frO 36 [(0, VS X o n), (7, v), (31, VS K ko kn), (32, nI kn), (33, .int .i64 i)] [(5, (5, 0))] [(5, ⟨x.cells⟩)]
def sl36 (n : Nat) : Value := .slice (some ⟨0, 0, none⟩) n n
def nil36 : Value := .slice none 0 0
def sel36r (c : Bool) : Ex → List Tmp × List Kept
  | .normal => ([0, 5, 7, 31, 32, 33], [.plain (if c then 1 else 2)])
  | .exit _ => ([5, 7], if c then [] else [.plain 0])
  | _ => ([6], [])
def frx36 (x : Ev) (v : Value) : Fr := frO 36 [(7, v)] [(5, (5, 0))] [(5, ⟨x.cells⟩)]
theorem i36_k : (fun (X : Array Value) (o n : Nat) (K : Array Value) (ko kn : Nat) (S : Array Value) (so sn : Nat) (x : Ev) => (codeT cfg5 (callT cfg5 t5 60) 60 cz (cL (cL (cN 3 b36))) (fr36a X o n K ko kn S so sn x) st0).evalM (gcObs 0 0 (keep [0, 5, 7, 31, 32, 33]))) = fun (X : Array Value) (o n : Nat) (K : Array Value) (ko kn : Nat) (S : Array Value) (so sn : Nat) (x : Ev) => some (.normal, fr36 X o n K ko kn x nil36 0, st0) := by kernel_rfl
theorem i36 (X : Array Value) (o n : Nat) (K : Array Value) (ko kn : Nat) (S : Array Value) (so sn : Nat) (x : Ev) : (codeT cfg5 (callT cfg5 t5 60) 60 cz (cL (cL (cN 3 b36))) (fr36a X o n K ko kn S so sn x) st0).evalM (gcObs 0 0 (keep [0, 5, 7, 31, 32, 33])) = some (.normal, fr36 X o n K ko kn x nil36 0, st0) := congrFun (congrFun (congrFun (congrFun (congrFun (congrFun (congrFun (congrFun (congrFun (congrFun i36_k X) o) n) K) ko) kn) S) so) sn) x
theorem ra36_k : (fun (X : Array Value) (o n : Nat) (K : Array Value) (ko kn : Nat) (x : Ev) (i : Int) => (codeT cfg5 (callT cfg5 t5 60) 60 cz k36 (fr36 X o n K ko kn x nil36 i) st0).evalM (gcObs 0 0 (sel36r true))) = fun (X : Array Value) (o n : Nat) (K : Array Value) (ko kn : Nat) (x : Ev) (i : Int) => (bif decide (i < (kn : Int)) then (bif decide (0 ≤ i) && decide (i < (kn : Int)) then (bif isI .i64 K[ko + Int.toNat i * 1]? then (bif evsOk X o n then (bif !hasE X o n 5 (x.at (toI K[ko + Int.toNat i * 1]?)) then R6 false else some (.normal, fr36 X o n K ko kn (x.at (toI K[ko + Int.toNat i * 1]?)) (sl36 1) (IntKind.wrap .i64 (i + 1)), stS (ro36 ⟨[.int .i64 (fstE X o n 5 (x.at (toI K[ko + Int.toNat i * 1]?))).arg]⟩) 1)) else none) else none) else none) else some (.exit 1, frx36 x nil36, st0)) := by kernel_rfl
theorem ra36 (X : Array Value) (o n : Nat) (K : Array Value) (ko kn : Nat) (x : Ev) (i : Int) : (codeT cfg5 (callT cfg5 t5 60) 60 cz k36 (fr36 X o n K ko kn x nil36 i) st0).evalM (gcObs 0 0 (sel36r true)) = (bif decide (i < (kn : Int)) then (bif decide (0 ≤ i) && decide (i < (kn : Int)) then (bif isI .i64 K[ko + Int.toNat i * 1]? then (bif evsOk X o n then (bif !hasE X o n 5 (x.at (toI K[ko + Int.toNat i * 1]?)) then R6 false else some (.normal, fr36 X o n K ko kn (x.at (toI K[ko + Int.toNat i * 1]?)) (sl36 1) (IntKind.wrap .i64 (i + 1)), stS (ro36 ⟨[.int .i64 (fstE X o n 5 (x.at (toI K[ko + Int.toNat i * 1]?))).arg]⟩) 1)) else none) else none) else none) else some (.exit 1, frx36 x nil36, st0)) := congrFun (congrFun (congrFun (congrFun (congrFun (congrFun (congrFun (congrFun ra36_k X) o) n) K) ko) kn) x) i
theorem rb36_k : (fun (X : Array Value) (o n : Nat) (K : Array Value) (ko kn : Nat) (x : Ev) (E : Array Value) (k : Nat) (i : Int) => (codeT cfg5 (callT cfg5 t5 60) 60 cz k36 (fr36 X o n K ko kn x (sl36 k) i) (stS (ro36 E) 1)).evalM (gcObs 0 0 (sel36r false))) = fun (X : Array Value) (o n : Nat) (K : Array Value) (ko kn : Nat) (x : Ev) (E : Array Value) (k : Nat) (i : Int) => (bif decide (i < (kn : Int)) then (bif decide (0 ≤ i) && decide (i < (kn : Int)) then (bif isI .i64 K[ko + Int.toNat i * 1]? then (bif evsOk X o n then (bif !hasE X o n 5 (x.at (toI K[ko + Int.toNat i * 1]?)) then R6 false else (bif decide (k ≤ k) && decide (k + 1 ≤ nLim) && true && true && true && true && true then (bif decide (k + 1 ≤ k) then (bif decide (0 + k * 1 + 1 ≤ E.size) && true then none else none) else (bif decide (0 + k * 1 ≤ E.size) then (bif (k == k) && (0 + k * 1 == E.size) then some (.normal, fr36 X o n K ko kn (x.at (toI K[ko + Int.toNat i * 1]?)) (sl36 (k + 1)) (IntKind.wrap .i64 (i + 1)), stS (ro36 (E.extract 0 (0 + k * 1) ++ ⟨[.int .i64 (fstE X o n 5 (x.at (toI K[ko + Int.toNat i * 1]?))).arg]⟩)) 1) else none) else none)) else none)) else none) else none) else none) else some (.exit 1, frx36 x (sl36 k), stS (ro36 E) 1)) := by kernel_rfl
theorem rb36 (X : Array Value) (o n : Nat) (K : Array Value) (ko kn : Nat) (x : Ev) (E : Array Value) (k : Nat) (i : Int) : (codeT cfg5 (callT cfg5 t5 60) 60 cz k36 (fr36 X o n K ko kn x (sl36 k) i) (stS (ro36 E) 1)).evalM (gcObs 0 0 (sel36r false)) = (bif decide (i < (kn : Int)) then (bif decide (0 ≤ i) && decide (i < (kn : Int)) then (bif isI .i64 K[ko + Int.toNat i * 1]? then (bif evsOk X o n then (bif !hasE X o n 5 (x.at (toI K[ko + Int.toNat i * 1]?)) then R6 false else (bif decide (k ≤ k) && decide (k + 1 ≤ nLim) && true && true && true && true && true then (bif decide (k + 1 ≤ k) then (bif decide (0 + k * 1 + 1 ≤ E.size) && true then none else none) else (bif decide (0 + k * 1 ≤ E.size) then (bif (k == k) && (0 + k * 1 == E.size) then some (.normal, fr36 X o n K ko kn (x.at (toI K[ko + Int.toNat i * 1]?)) (sl36 (k + 1)) (IntKind.wrap .i64 (i + 1)), stS (ro36 (E.extract 0 (0 + k * 1) ++ ⟨[.int .i64 (fstE X o n 5 (x.at (toI K[ko + Int.toNat i * 1]?))).arg]⟩)) 1) else none) else none)) else none)) else none) else none) else none) else some (.exit 1, frx36 x (sl36 k), stS (ro36 E) 1)) := congrFun (congrFun (congrFun (congrFun (congrFun (congrFun (congrFun (congrFun (congrFun (congrFun rb36_k X) o) n) K) ko) kn) x) E) k) i
theorem ea36_k : (fun (x : Ev) => (codeT cfg5 (callT cfg5 t5 60) 60 cz (cN 4 b36) (frx36 x nil36) st0).evalM (gcObs 0 0 (keepR [] [6]))) = fun (x : Ev) => R6 ((0 : Int) == x.arg) := by kernel_rfl
theorem ea36 (x : Ev) : (codeT cfg5 (callT cfg5 t5 60) 60 cz (cN 4 b36) (frx36 x nil36) st0).evalM (gcObs 0 0 (keepR [] [6])) = R6 ((0 : Int) == x.arg) := congrFun ea36_k x
theorem eb36_k : (fun (x : Ev) (E : Array Value) (k : Nat) => (codeT cfg5 (callT cfg5 t5 60) 60 cz (cN 4 b36) (frx36 x (sl36 k)) (stS (ro36 E) 1)).evalM (gcObs 0 0 (keepR [] [6]))) = fun (x : Ev) (E : Array Value) (k : Nat) => (bif (k : Int) == 0 then R6 ((0 : Int) == x.arg) else (bif decide (k ≤ k) && (decide (E.size ≠ 0) && E.all (freeN 9)) then (bif intsOk E 0 k && decide (1 ≤ k) then R6 (mxN E 0 (k - 1) == x.arg) else none) else none)) := by kernel_rfl
theorem eb36 (x : Ev) (E : Array Value) (k : Nat) : (codeT cfg5 (callT cfg5 t5 60) 60 cz (cN 4 b36) (frx36 x (sl36 k)) (stS (ro36 E) 1)).evalM (gcObs 0 0 (keepR [] [6])) = (bif (k : Int) == 0 then R6 ((0 : Int) == x.arg) else (bif decide (k ≤ k) && (decide (E.size ≠ 0) && E.all (freeN 9)) then (bif intsOk E 0 k && decide (1 ≤ k) then R6 (mxN E 0 (k - 1) == x.arg) else none) else none)) := congrFun (congrFun (congrFun eb36_k x) E) k

/-- The codes that the first nodes ended a step by. -/
def codE (X : Array Value) (o n : Nat) (K : Array Value) (ko : Nat) (x : Ev) : Nat → Array Value
  | 0 => #[]
  | i + 1 => codE X o n K ko x i ++ ⟨[.int .i64 (fstE X o n 5 (x.at (toI K[ko + i]?))).arg]⟩
theorem codE_size (X : Array Value) (o n : Nat) (K : Array Value) (ko : Nat) (x : Ev) (i : Nat) : (codE X o n K ko x i).size = i := by
  induction i with
  | zero => rfl
  | succ i ih => simp only [codE, Array.size_append, ih]; rfl
theorem codE_plain (X : Array Value) (o n : Nat) (K : Array Value) (ko : Nat) (x : Ev) (i : Nat) : (codE X o n K ko x i).all (freeN 9) = true := by
  induction i with
  | zero => simp [codE]
  | succ i ih => simp only [codE, Array.all_append, ih, Bool.true_and]; simp [freeN]
theorem codE_int (X : Array Value) (o n : Nat) (K : Array Value) (ko : Nat) (x : Ev) (i : Nat) : ∀ k, k < i → isI .i64 (codE X o n K ko x i)[0 + k]? = true := by
  induction i with
  | zero => intro k hk; omega
  | succ i ih =>
    intro k hk
    simp only [codE]
    by_cases h : k < i
    · rw [Array.getElem?_append_left (by rw [codE_size]; omega)]
      exact ih k h
    · have e : k = i := by omega
      subst e
      rw [Array.getElem?_append_right (by rw [codE_size]; omega), codE_size, show 0 + k - k = 0 by omega]
      rfl
theorem codE_ok {X : Array Value} {o n : Nat} {K : Array Value} {ko : Nat} {x : Ev} {i : Nat} (h : i ≤ maxI) : intsOk (codE X o n K ko x i) 0 i = true := by
  simp only [intsOk, Bool.and_eq_true, List.all_eq_true, List.mem_range, decide_eq_true_eq]
  exact ⟨h, codE_int X o n K ko x i⟩
def xi36 (K : Array Value) (ko : Nat) (x : Ev) : Nat → Ev
  | 0 => x
  | i + 1 => x.at (toI K[ko + i]?)
theorem xi36_at (K : Array Value) (ko : Nat) (x : Ev) (i : Nat) (w : Int) : (xi36 K ko x i).at w = x.at w := by cases i <;> rfl
theorem xi36_arg (K : Array Value) (ko : Nat) (x : Ev) (i : Nat) : (xi36 K ko x i).arg = x.arg := by cases i <;> rfl
def vl36 : Nat → Value
  | 0 => nil36
  | i + 1 => sl36 (i + 1)
def sh36 (X : Array Value) (o n : Nat) (K : Array Value) (ko : Nat) (x : Ev) : Nat → St
  | 0 => st0
  | i + 1 => stS (ro36 (codE X o n K ko x (i + 1))) 1
def stop36 (X : Array Value) (o n : Nat) (K : Array Value) (ko kn : Nat) (x : Ev) (i : Nat) : Option (Ex × Fr × St) :=
  if i < kn then (if hasE X o n 5 (x.at (toI K[ko + i]?)) then none else R6 false) else some (.exit 1, frx36 (xi36 K ko x i) (vl36 i), sh36 X o n K ko x i)
theorem q36 {X : Array Value} {o n : Nat} {K : Array Value} {ko kn : Nat} {x : Ev} (hx : evsOk X o n = true) (hk : intsOk K ko kn = true) (hl : kn ≤ nLim) (i : Nat) (hi : i ≤ kn) :
    (codeT cfg5 (callT cfg5 t5 60) 60 cz k36 (fr36 X o n K ko kn (xi36 K ko x i) (vl36 i) i) (sh36 X o n K ko x i)).evalM (gcObs 0 0 (sel36r (i == 0))) = some (match stop36 X o n K ko kn x i with | some r => r | none => (.normal, fr36 X o n K ko kn (xi36 K ko x (i + 1)) (vl36 (i + 1)) ((i + 1 : Nat) : Int), sh36 X o n K ko x (i + 1))) := by
  have hn := intsOk_n hk
  have hi0 : (0 : Int) ≤ i := by omega
  unfold stop36
  by_cases hlt : i < kn
  · have h1 := intsOk_get hk hlt
    have hw := wrap_nat (i := i) (by omega)
    cases i with
    | zero =>
      refine (ra36 X o n K ko kn (xi36 K ko x 0) ((0 : Nat) : Int)).trans ?_
      simp only [hlt, if_true, Int.ofNat_lt, hi0, decide_true, Bool.and_true, cond_true, Int.toNat_natCast, Nat.mul_one, h1, hx, hw, xi36_at]
      cases hasE X o n 5 (x.at (toI K[ko + 0]?)) <;> rfl
    | succ m =>
      refine (rb36 X o n K ko kn (xi36 K ko x (m + 1)) (codE X o n K ko x (m + 1)) (m + 1) ((m + 1 : Nat) : Int)).trans ?_
      have e1 : ¬ (m + 1 + 1 ≤ m + 1) := by omega
      have e2 : m + 1 + 1 ≤ nLim := by omega
      have e3 : (codE X o n K ko x (m + 1)).extract 0 (m + 1) = codE X o n K ko x (m + 1) := by
        conv => lhs; rw [← codE_size X o n K ko x (m + 1)]
        rw [codE_size]
        have := Array.extract_size (xs := codE X o n K ko x (m + 1))
        rw [codE_size] at this
        exact this
      simp only [hlt, if_true, Int.ofNat_lt, hi0, decide_true, Bool.and_true, cond_true, Int.toNat_natCast, Nat.mul_one, h1, hx, hw, xi36_at, Nat.le_refl, e1, e2, decide_false, cond_false, codE_size, Nat.zero_add, beq_self_eq_true, e3]
      cases hasE X o n 5 (x.at (toI K[ko + (m + 1)]?)) <;> rfl
  · have e : i = kn := by omega
    subst e
    cases i with
    | zero =>
      refine (ra36 X o n K ko 0 (xi36 K ko x 0) ((0 : Nat) : Int)).trans ?_
      simp only [Int.lt_irrefl, decide_false, cond_false, Nat.lt_irrefl, if_false]
      rfl
    | succ m =>
      refine (rb36 X o n K ko (m + 1) (xi36 K ko x (m + 1)) (codE X o n K ko x (m + 1)) (m + 1) ((m + 1 : Nat) : Int)).trans ?_
      simp only [Int.lt_irrefl, decide_false, cond_false, Nat.lt_irrefl, if_false]
      rfl
theorem plain36 (X : Array Value) (o n : Nat) (K : Array Value) (ko : Nat) (x : Ev) (i : Nat) (ks : List Kept) (h : ks.length ≤ 1) : plainJ (sh36 X o n K ko x i) ks 0 := by
  match ks, h with
  | [], _ => trivial
  | [.plain _], _ =>
    refine ⟨?_, trivial⟩
    cases i with
    | zero => trivial
    | succ m =>
      show (codE X o n K ko x (m + 1)).all (freeN 9) = true
      exact codE_plain X o n K ko x (m + 1)
  | [.cells _], _ => trivial
  | [.loop _ _], _ => trivial
def cod5 (X : Array Value) (o n : Nat) (K : Array Value) (ko kn : Nat) (x : Ev) : Bool := match findN (fun i => !hasE X o n 5 (x.at (toI K[ko + i]?))) kn with
  | some _ => false
  | none => (if kn = 0 then 0 else mxN (codE X o n K ko x kn) 0 (kn - 1)) == x.arg
/-- May a code be told? -/
def codedB (X : Array Value) (o n : Nat) (K : Array Value) (ko kn : Nat) (x : Ev) : Bool :=
  bif hasE X o n 11 x then false else bif goesB X o n x then cod5 X o n K ko kn x else bif x.arg == 255 then true else x.arg == 256
theorem one36 {v w : Value} (h : v = w) : ∀ q ∈ [((6 : Tmp), v)], (frS 36 [(6, w)]).tm.get q.1 = some q.2 := fun q hq => by
  simp only [List.mem_singleton] at hq; subst hq; rw [h]; exact frS_one _ _ _
theorem ok36l [Z : Zone] {b : Nat} {X : Array Value} {o n : Nat} {K : Array Value} {ko kn : Nat} {S : Array Value} {so sn : Nat} {x : Ev} {fr : Fr} {s : St} (hx : evsOk X o n = true) (hk : intsOk K ko kn = true) (hl : kn ≤ nLim) (hS : Sn ⟨0, b⟩ 0 0 cz (fr36a X o n K ko kn S so sn x) st0 fr s) :
    AWp cfg5 ⟨0, b⟩ cz (.seq (.seq (cL (cL (cN 3 b36))) (.block 1 (.loop k36))) (cN 4 b36)) fr s (RetL [(6, .bool (cod5 X o n K ko kn x))]) := by
  refine AWp.forSn (N := kn) (sel2 := fun i => sel36r (i == 0)) (head := fun i => fr36 X o n K ko kn (xi36 K ko x i) (vl36 i) i) (sh := sh36 X o n K ko x) (stop := stop36 X o n K ko kn x)
    good5 rfl hS (of_treeM t5_ok (i36 X o n K ko kn S so sn x)) trivial (fun i hi _ => of_treeM t5_ok (q36 hx hk hl i hi)) (fun i hi => ?_) ⟨kn, Nat.le_refl _, by unfold stop36; simp⟩ (fun i r hi hno hr fr2 s2 hS2 => ?_)
  · unfold stop36
    split
    · rename_i r hr
      split at hr
      · split at hr
        · cases hr
        · cases hr; trivial
      · cases hr
        refine plain36 X o n K ko x i _ ?_
        cases i <;> simp [sel36r]
    · refine plain36 X o n K ko x (i + 1) _ ?_
      simp [sel36r]
  · have hno' : ∀ j, j < i → j < kn → hasE X o n 5 (x.at (toI K[ko + j]?)) = true := fun j hj hjn => by
      have := hno j hj
      unfold stop36 at this
      simp only [hjn, if_true] at this
      cases hq : hasE X o n 5 (x.at (toI K[ko + j]?)) with
      | true => rfl
      | false => rw [hq] at this; simp [R6] at this
    unfold stop36 at hr
    split at hr
    · rename_i hlt
      split at hr
      · cases hr
      · rename_i hq
        cases hr
        have hc : cod5 X o n K ko kn x = false := by
          unfold cod5
          rw [findN_some (p := fun i => !hasE X o n 5 (x.at (toI K[ko + i]?))) hlt (by simpa using hq) fun j hj => by simp [hno' j hj (by omega)]]
        rw [hc]
        exact ⟨.inr rfl, hS2.plains (pl1 rfl) (one36 rfl)⟩
    · have hin : i = kn := by omega
      cases hr
      subst hin
      refine ⟨rfl, AWp.retSn rfl hS2 (pl1 rfl) ?_⟩
      have hc : cod5 X o n K ko i x = ((if i = 0 then 0 else mxN (codE X o n K ko x i) 0 (i - 1)) == x.arg) := by
        unfold cod5
        rw [findN_none (p := fun i => !hasE X o n 5 (x.at (toI K[ko + i]?))) fun j hj => by simp [hno' j hj hj]]
      rw [hc]
      have hn := intsOk_n hk
      cases i with
      | zero => exact AWp.done good5 (pl1 rfl) (.inr rfl) (of_treeM t5_ok (ea36 _)) trivial (one36 rfl)
      | succ m =>
        have hz : ((((m + 1 : Nat) : Int)) == 0) = false := by simp; omega
        have hz2 : ¬ (m + 1 = 0) := by omega
        refine AWp.done good5 (pl1 rfl) (.inr rfl) (of_treeM t5_ok ((eb36 _ _ (m + 1)).trans (show _ = R6 (mxN (codE X o n K ko x (m + 1)) 0 (m + 1 - 1) == x.arg) by
          rw [codE_ok (by unfold maxI; omega), codE_plain, codE_size, hz, xi36_arg]
          simp [hz2]))) trivial (one36 (by rw [if_neg hz2]))
theorem ok36 [Z : Zone] {b : Nat} {X : Array Value} {o n : Nat} {K : Array Value} {ko kn : Nat} {S : Array Value} {so sn : Nat} {x : Ev} (hx : evsOk X o n = true) (hk : intsOk K ko kn = true) (hl : kn ≤ nLim) :
    AWp cfg5 ⟨0, b⟩ cz b36 (frame0 36 (ntOf 36) #[VS X o n, jobV K ko kn S so sn, x.val]) st0 (RetL [(6, .bool (codedB X o n K ko kn x))]) := by
  have hp := p36 X o n K ko kn S so sn x
  rw [hx] at hp
  simp only [cond_true] at hp
  rw [b36_eq]
  unfold codedB goesB
  cases h1 : hasE X o n 11 x with
  | true => rw [h1] at hp; exact AWp.nestEarly good5 (pl1 rfl) (of_treeM t5_ok hp) trivial (one36 rfl)
  | false =>
    rw [h1] at hp
    cases h2 : hasE X o n 10 (x.at (-1)) with
    | true =>
      rw [h2] at hp
      exact AWp.nestFirst good5 (of_treeM t5_ok hp) trivial (Nat.zero_le _) fun fr1 s1 hS1 => ok36l hx hk hl hS1
    | false =>
      rw [h2] at hp
      cases h3 : x.arg == 255 with
      | true => rw [h3] at hp; exact AWp.nestEarly good5 (pl1 rfl) (of_treeM t5_ok hp) trivial (one36 rfl)
      | false => rw [h3] at hp; exact AWp.nestEarly good5 (pl1 rfl) (of_treeM t5_ok hp) trivial (one36 rfl)
def F36 : Array Value → DT (Option (Value × St))
  | ⟨[.func (.method nm) X ⟨[.slice none o n]⟩, .agg ⟨[.func (.method nm1) K ⟨[.slice none ko kn]⟩, .func (.method nm2) S ⟨[.slice none so sn]⟩]⟩, .agg ⟨[.int .i64 x0, .int .i64 x1, .int .i64 x2, .int .i64 x3, .int .i64 x4, .int .i64 x5]⟩]⟩ =>
    .must ((decide (nm = "") && evsOk X o n) && ((decide (nm1 = "") && decide (nm2 = "")) && (intsOk K ko kn && decide (kn ≤ nLim)))) (.leaf (some (.bool (codedB X o n K ko kn ⟨x0, x1, x2, x3, x4, x5⟩), st0))) (.leaf none)
  | _ => .leaf none
theorem i36_fn : cfg5.fns 36 = some { body := b36, nt := ntOf 36, results := [.tmp 6], pure := false } := by kernel_rfl
theorem tells36 [Z : Zone] : Tells cfg5 36 fun a => (F36 a).eval := by
  refine tells_one good5 rfl i36_fn rfl fun args y hx => ?_
  unfold F36 at hx
  split at hx
  · rename_i nm X o n nm1 K ko kn nm2 S so sn x0 x1 x2 x3 x4 x5
    rw [DT.eval_must] at hx
    cases h : ((decide (nm = "") && evsOk X o n) && ((decide (nm1 = "") && decide (nm2 = "")) && (intsOk K ko kn && decide (kn ≤ nLim)))) with
    | false => rw [h] at hx; cases hx
    | true =>
      rw [h, cond_true, DT.eval_leaf] at hx
      cases hx
      simp only [Bool.and_eq_true, decide_eq_true_eq] at h
      obtain ⟨⟨rfl, h1⟩, ⟨rfl, rfl⟩, h2, h3⟩ := h
      exact ⟨by simp [freeN], by show 3 ≤ ntOf 36; decide, _, rfl, rfl, fun b => ok36 (x := ⟨x0, x1, x2, x3, x4, x5⟩) h1 h2 h3⟩
  · cases hx
end
end Go.Proofs.Ytbhemcpmklkepaa
