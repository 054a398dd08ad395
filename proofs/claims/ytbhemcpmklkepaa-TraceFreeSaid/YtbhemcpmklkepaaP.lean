/- Is a step of a node's still there? -/
import Derived.Test.YtbhemcpmklkepaaH
import Derived.Test.YtbhemcpmklkepaaAmFlow
namespace Go.Proofs.Ytbhemcpmklkepaa
open Go.Am
noncomputable section
def b48 : Code := bodyOf 48
def k48 : Code := cB (cB (cR (cL (cN 1 b48))))
theorem b48_eq : b48 = .seq (cL b48) (.seq (.seq (cL (cL (cN 1 b48))) (.block 0 (.loop k48))) (cN 2 b48)) := by kernel_rfl
def bx43 (X : Array Value) (o n : Nat) (Y : Array Value) (p m : Nat) (x : Ev) : Value := .func (.func 43) #[] #[VP ⟨x.cells⟩ 0, VP #[VS Y p m] 0]
def fr48 (X : Array Value) (o n : Nat) (Y : Array Value) (p m : Nat) (x : Ev) (i : Int) : Fr := frS 48 [(0, VS X o n), (1, bx43 X o n Y p m x), (7, nI n), (8, .int .i64 i)]
theorem h48_k : (fun (X : Array Value) (o n : Nat) (Y : Array Value) (p m : Nat) (x : Ev) => (codeT cfg1 (callT cfg1 t1 60) 60 cz (seqOf [cL b48]) (frame0 48 (ntOf 48) #[VS X o n, bx43 X o n Y p m x]) st0).evalM (gcObs 0 0 (keep [0, 1]))) = fun (X : Array Value) (o n : Nat) (Y : Array Value) (p m : Nat) (x : Ev) => some (.normal, frS 48 [(0, VS X o n), (1, bx43 X o n Y p m x)], st0) := by kernel_rfl
theorem h48 (X : Array Value) (o n : Nat) (Y : Array Value) (p m : Nat) (x : Ev) : (codeT cfg1 (callT cfg1 t1 60) 60 cz (seqOf [cL b48]) (frame0 48 (ntOf 48) #[VS X o n, bx43 X o n Y p m x]) st0).evalM (gcObs 0 0 (keep [0, 1])) = some (.normal, frS 48 [(0, VS X o n), (1, bx43 X o n Y p m x)], st0) := congrFun (congrFun (congrFun (congrFun (congrFun (congrFun (congrFun h48_k X) o) n) Y) p) m) x
theorem i48_k : (fun (X : Array Value) (o n : Nat) (Y : Array Value) (p m : Nat) (x : Ev) => (codeT cfg1 (callT cfg1 t1 60) 60 cz (cL (cL (cN 1 b48))) (frS 48 [(0, VS X o n), (1, bx43 X o n Y p m x)]) st0).evalM (gcObs 0 0 (keep [0, 1, 7, 8]))) = fun (X : Array Value) (o n : Nat) (Y : Array Value) (p m : Nat) (x : Ev) => some (.normal, fr48 X o n Y p m x 0, st0) := by kernel_rfl
theorem i48 (X : Array Value) (o n : Nat) (Y : Array Value) (p m : Nat) (x : Ev) : (codeT cfg1 (callT cfg1 t1 60) 60 cz (cL (cL (cN 1 b48))) (frS 48 [(0, VS X o n), (1, bx43 X o n Y p m x)]) st0).evalM (gcObs 0 0 (keep [0, 1, 7, 8])) = some (.normal, fr48 X o n Y p m x 0, st0) := congrFun (congrFun (congrFun (congrFun (congrFun (congrFun (congrFun i48_k X) o) n) Y) p) m) x
def N48 (X : Array Value) (o n : Nat) (Y : Array Value) (p m : Nat) (x : Ev) (i : Int) : Option (Ex × Fr × St) := some (.normal, fr48 X o n Y p m x (IntKind.wrap .i64 (i + 1)), st0)
theorem r48_k : (fun (X : Array Value) (o n : Nat) (Y : Array Value) (p m : Nat) (x : Ev) (i : Int) => (codeT cfg1 (callT cfg1 t1 60) 60 cz k48 (fr48 X o n Y p m x i) st0).evalM (gcObs 0 0 (keepR [0, 1, 7, 8] [4]))) = fun (X : Array Value) (o n : Nat) (Y : Array Value) (p m : Nat) (x : Ev) (i : Int) => (bif decide (i < (n : Int)) then (bif decide (0 ≤ i) && decide (i < (n : Int)) then (bif decide (o + Int.toNat i * 6 + 6 ≤ X.size) then (bif cellsOk X ev6 (o + Int.toNat i * 6) then (bif (eA X o i).kind == 1 then (bif (eA X o i).job == x.job then (bif (eA X o i).epoch == x.epoch then (bif (eA X o i).node == x.node then (bif evsOk Y p m then (bif hasE Y p m 4 (eA X o i) then N48 X o n Y p m x i else bif evsOk Y p m then (bif hasE Y p m 5 (eA X o i) then N48 X o n Y p m x i else some (.ret, frS 48 [(4, .int .i64 i)], st0)) else none) else none) else N48 X o n Y p m x i) else N48 X o n Y p m x i) else N48 X o n Y p m x i) else N48 X o n Y p m x i) else none) else none) else none) else some (.exit 0, fr48 X o n Y p m x i, st0)) := by kernel_rfl
theorem r48 (X : Array Value) (o n : Nat) (Y : Array Value) (p m : Nat) (x : Ev) (i : Int) : (codeT cfg1 (callT cfg1 t1 60) 60 cz k48 (fr48 X o n Y p m x i) st0).evalM (gcObs 0 0 (keepR [0, 1, 7, 8] [4])) = (bif decide (i < (n : Int)) then (bif decide (0 ≤ i) && decide (i < (n : Int)) then (bif decide (o + Int.toNat i * 6 + 6 ≤ X.size) then (bif cellsOk X ev6 (o + Int.toNat i * 6) then (bif (eA X o i).kind == 1 then (bif (eA X o i).job == x.job then (bif (eA X o i).epoch == x.epoch then (bif (eA X o i).node == x.node then (bif evsOk Y p m then (bif hasE Y p m 4 (eA X o i) then N48 X o n Y p m x i else bif evsOk Y p m then (bif hasE Y p m 5 (eA X o i) then N48 X o n Y p m x i else some (.ret, frS 48 [(4, .int .i64 i)], st0)) else none) else none) else N48 X o n Y p m x i) else N48 X o n Y p m x i) else N48 X o n Y p m x i) else N48 X o n Y p m x i) else none) else none) else none) else some (.exit 0, fr48 X o n Y p m x i, st0)) := congrFun (congrFun (congrFun (congrFun (congrFun (congrFun (congrFun (congrFun r48_k X) o) n) Y) p) m) x) i
theorem e48_k : (fun (X : Array Value) (o n : Nat) (Y : Array Value) (p m : Nat) (x : Ev) (i : Int) => (codeT cfg1 (callT cfg1 t1 60) 60 cz (cN 2 b48) (fr48 X o n Y p m x i) st0).evalM (gcObs 0 0 (keepR [] [4]))) = fun (X : Array Value) (o n : Nat) (Y : Array Value) (p m : Nat) (x : Ev) (i : Int) => some (.ret, frS 48 [(4, .int .i64 (-1))], st0) := by kernel_rfl
theorem e48 (X : Array Value) (o n : Nat) (Y : Array Value) (p m : Nat) (x : Ev) (i : Int) : (codeT cfg1 (callT cfg1 t1 60) 60 cz (cN 2 b48) (fr48 X o n Y p m x i) st0).evalM (gcObs 0 0 (keepR [] [4])) = some (.ret, frS 48 [(4, .int .i64 (-1))], st0) := congrFun (congrFun (congrFun (congrFun (congrFun (congrFun (congrFun (congrFun e48_k X) o) n) Y) p) m) x) i
/-- Is an event a step's hold at another one's node, of the same job and epoch, that has not ended? -/
def alvP (X : Array Value) (o n : Nat) (Y : Array Value) (p m : Nat) (x : Ev) (i : Nat) : Bool := (evAt X (o + i * 6)).kind == 1 && ((evAt X (o + i * 6)).job == x.job && ((evAt X (o + i * 6)).epoch == x.epoch && ((evAt X (o + i * 6)).node == x.node && (!hasE Y p m 4 (evAt X (o + i * 6)) && !hasE Y p m 5 (evAt X (o + i * 6))))))
theorem ok48 [Z : Zone] {b : Nat} {X : Array Value} {o n : Nat} {Y : Array Value} {p m : Nat} {x : Ev} (hx : evsOk X o n = true) (hy : evsOk Y p m = true) :
    AWp cfg1 ⟨0, b⟩ cz b48 (frame0 48 (ntOf 48) #[VS X o n, bx43 X o n Y p m x]) st0 (RetL [(4, .int .i64 (idxI (alvP X o n Y p m x) n))]) := by
  have hn := evsOk_n hx
  have e : b48 = nest [cL b48] (.seq (.seq (cL (cL (cN 1 b48))) (.block 0 (.loop k48))) (cN 2 b48)) := b48_eq
  rw [e]
  refine AWp.nestRet good1 rfl (pl1 rfl) (sel := keep [0, 1]) (of_treeM t1_ok (h48 X o n Y p m x)) trivial ?_
  refine AWp.search (N := n) (p := alvP X o n Y p m x) (res := fun q => [(4, .int .i64 (optI q))]) (head := fun i => fr48 X o n Y p m x i) (sh := fun _ => st0) (found := fun i => (frS 48 [(4, .int .i64 i)], st0)) (fe := fr48 X o n Y p m x n) (se := st0)
    good1 rfl (fun _ => pl1 rfl) (of_treeM t1_ok (i48 X o n Y p m x)) (fun i hlt => ?_) (of_treeM t1_ok ((r48 X o n Y p m x n).trans ?_)) trivial (fun _ => trivial) (fun _ => trivial) trivial
    (fun i _ q hq => by simp only [List.mem_singleton] at hq; subst hq; exact frS_one _ _ _) (fun Z' => AWp.done good1 (pl1 rfl) (.inr rfl) (of_treeM t1_ok (e48 X o n Y p m x n)) trivial fun q hq => by simp only [List.mem_singleton] at hq; subst hq; exact frS_one _ _ _)
  · obtain ⟨h1, h2⟩ := evsOk_get hx hlt
    have hw := wrap_nat (i := i) (by omega)
    have hi0 : (0 : Int) ≤ i := by omega
    have hr := r48 X o n Y p m x i
    simp only [hlt, Int.ofNat_lt, hi0, decide_true, Bool.and_true, cond_true, Int.toNat_natCast, h1, h2, hy, N48, hw, eA] at hr
    unfold alvP
    cases c1 : (evAt X (o + i * 6)).kind == 1 with
    | false => rw [c1] at hr; exact of_treeM t1_ok hr
    | true =>
      cases c2 : (evAt X (o + i * 6)).job == x.job with
      | false => rw [c1, c2] at hr; exact of_treeM t1_ok hr
      | true =>
        cases c3 : (evAt X (o + i * 6)).epoch == x.epoch with
        | false => rw [c1, c2, c3] at hr; exact of_treeM t1_ok hr
        | true =>
          cases c4 : (evAt X (o + i * 6)).node == x.node with
          | false => rw [c1, c2, c3, c4] at hr; exact of_treeM t1_ok hr
          | true =>
            cases h4 : hasE Y p m 4 (evAt X (o + i * 6)) with
            | true => rw [c1, c2, c3, c4, h4] at hr; exact of_treeM t1_ok hr
            | false =>
              cases h5 : hasE Y p m 5 (evAt X (o + i * 6)) with
              | true => rw [c1, c2, c3, c4, h4, h5] at hr; exact of_treeM t1_ok hr
              | false => rw [c1, c2, c3, c4, h4, h5] at hr; exact of_treeM t1_ok hr
  · simp only [Int.lt_irrefl, decide_false, cond_false]
def F48 : Array Value → DT (Option (Value × St))
  | ⟨[.func (.method nm) X ⟨[.slice none o n]⟩, .func (.func 43) ⟨[]⟩ ⟨[.func (.methodOf 0 nm1) ⟨[.int .i64 x0, .int .i64 x1, .int .i64 x2, .int .i64 x3, .int .i64 x4, .int .i64 x5]⟩ ⟨[.slice none 0 0]⟩, .func (.methodOf 0 nm2) ⟨[.func (.method nm3) Y ⟨[.slice none p m]⟩]⟩ ⟨[.slice none 0 0]⟩]⟩]⟩ =>
    .must ((decide (nm = "") && evsOk X o n) && ((decide (nm3 = "") && evsOk Y p m) && (decide (nm1 = "") && decide (nm2 = "")))) (.leaf (some (.int .i64 (idxI (alvP X o n Y p m ⟨x0, x1, x2, x3, x4, x5⟩) n), st0))) (.leaf none)
  | _ => .leaf none
theorem i48_fn : cfg1.fns 48 = some { body := b48, nt := ntOf 48, results := [.tmp 4], pure := false } := by kernel_rfl
theorem tells48 [Z : Zone] : Tells cfg1 48 fun a => (F48 a).eval := by
  refine tells_one good1 rfl i48_fn rfl fun args y hx => ?_
  unfold F48 at hx
  split at hx
  · rename_i nm X o n nm1 x0 x1 x2 x3 x4 x5 nm2 nm3 Y p m
    rw [DT.eval_must] at hx
    cases h : ((decide (nm = "") && evsOk X o n) && ((decide (nm3 = "") && evsOk Y p m) && (decide (nm1 = "") && decide (nm2 = "")))) with
    | false => rw [h] at hx; cases hx
    | true =>
      rw [h, cond_true, DT.eval_leaf] at hx
      cases hx
      simp only [Bool.and_eq_true, decide_eq_true_eq] at h
      obtain ⟨⟨rfl, h1⟩, ⟨rfl, h2⟩, rfl, rfl⟩ := h
      exact ⟨by simp [freeN], by show 2 ≤ ntOf 48; decide, _, rfl, rfl, fun b => ok48 (x := ⟨x0, x1, x2, x3, x4, x5⟩) h1 h2⟩
  · cases hx
def T4 : FuncId → Option (Array Value → DT (Option (Value × St)))
  | 48 => some F48
  | _ => none
def cfg4 : Cfg := cfg1.frz T4
def t4 : FuncId → Option HandT := treeF T4 t1
theorem good4 [Z : Zone] (B : Base) : Go.Am.Good cfg4 B := frz_good (fun Z' => @good1 Z') rfl (fun f F h => by
  unfold T4 at h
  split at h
  · cases h; exact ⟨⟨_, i48_fn⟩, fun Z' => @tells48 Z'⟩
  · cases h) B
theorem t4_ok : ∀ f k hd, t4 f = some k → cfg4.hand f = some hd → ∀ a c s, (k a c s).eval = hd a c s := treeF_ok t1_ok
/-- Is one there? -/
def alvB (X : Array Value) (o n : Nat) (x : Ev) : Bool := (findN (alvP X o n X o n x) n).isSome
theorem t34_k : (fun (X : Array Value) (o n : Nat) (x : Ev) => (callT cfg4 t4 60 (.func (.func 34) #[] #[]) #[VS X o n, x.val] cz st0).evalM seenOf) = fun (X : Array Value) (o n : Nat) (x : Ev) => (bif evsOk X o n && (evsOk X o n && true) then fB (decide (idxI (alvP X o n X o n x) n ≥ 0)) else none) := by kernel_rfl
theorem t34 (X : Array Value) (o n : Nat) (x : Ev) : (callT cfg4 t4 60 (.func (.func 34) #[] #[]) #[VS X o n, x.val] cz st0).evalM seenOf = (bif evsOk X o n && (evsOk X o n && true) then fB (decide (idxI (alvP X o n X o n x) n ≥ 0)) else none) := congrFun (congrFun (congrFun (congrFun t34_k X) o) n) x
def F34 : Array Value → DT (Option (Value × St))
  | ⟨[.func (.method nm) X ⟨[.slice none o n]⟩, .agg ⟨[.int .i64 x0, .int .i64 x1, .int .i64 x2, .int .i64 x3, .int .i64 x4, .int .i64 x5]⟩]⟩ => .must (decide (nm = "") && evsOk X o n) (.leaf (some (.bool (alvB X o n ⟨x0, x1, x2, x3, x4, x5⟩), st0))) (.leaf none)
  | _ => .leaf none
theorem i34_fn : cfg4.fns 34 = some { body := bodyOf 34, nt := ntOf 34, results := [.tmp 4], pure := false } := by kernel_rfl
theorem tells34 [Z : Zone] : Tells cfg4 34 fun a => (F34 a).eval := by
  refine tells_call good4 rfl i34_fn fun args y hx => ?_
  unfold F34 at hx
  split at hx
  · rename_i nm X o n x0 x1 x2 x3 x4 x5
    rw [DT.eval_must] at hx
    cases h : (decide (nm = "") && evsOk X o n) with
    | false => rw [h] at hx; cases hx
    | true =>
      rw [h, cond_true, DT.eval_leaf] at hx
      cases hx
      simp only [Bool.and_eq_true, decide_eq_true_eq] at h
      obtain ⟨rfl, h1⟩ := h
      exact ⟨by simp [freeN], tree_call t4_ok ((t34 X o n ⟨x0, x1, x2, x3, x4, x5⟩).trans (by
        rw [h1]
        simp only [Bool.and_true, cond_true, idxI_some]
        rfl))⟩
  · cases hx
end
end Go.Proofs.Ytbhemcpmklkepaa
