/- The place of an event that was seen: the document's. -/
import Derived.Test.YtbhemcpmklkepaaD
namespace Go.Proofs.Ytbhemcpmklkepaa
open Go.Am
noncomputable section
def b20 : Code := bodyOf 20
def k20 : Code := cB (cB (cR (cL (cR b20))))
theorem b20_eq : b20 = .seq (cL b20) (.seq (.seq (cL (cL (cR b20))) (.block 0 (.loop k20))) (cR (cR b20))) := by kernel_rfl
def fr20a (X : Array Value) (o n : Nat) (kind : Int) (x : Ev) : Fr := frO 20 [(0, VS X o n), (1, .int .i64 kind)] [(5, (5, 0))] [(5, ⟨x.cells⟩)]
def fr20 (X : Array Value) (o n : Nat) (kind : Int) (x : Ev) (i : Int) : Fr := frO 20 [(0, VS X o n), (1, .int .i64 kind), (7, .int .i64 i)] [(5, (5, 0))] [(5, ⟨x.cells⟩)]
theorem s20_k : (fun (X : Array Value) (o n : Nat) (kind : Int) (x : Ev) => (codeT cfg (callT cfg noT 60) 60 cz (cL b20) (frame0 20 (ntOf 20) #[VS X o n, .int .i64 kind, x.val]) st0).evalM (gcObs 0 0 (keep [0, 1, 5]))) = fun (X : Array Value) (o n : Nat) (kind : Int) (x : Ev) => some (.normal, fr20a X o n kind x, st0) := by kernel_rfl
theorem s20 (X : Array Value) (o n : Nat) (kind : Int) (x : Ev) : (codeT cfg (callT cfg noT 60) 60 cz (cL b20) (frame0 20 (ntOf 20) #[VS X o n, .int .i64 kind, x.val]) st0).evalM (gcObs 0 0 (keep [0, 1, 5])) = some (.normal, fr20a X o n kind x, st0) := congrFun (congrFun (congrFun (congrFun (congrFun s20_k X) o) n) kind) x
theorem i20_k : (fun (X : Array Value) (o n : Nat) (kind : Int) (x : Ev) => (codeT cfg (callT cfg noT 60) 60 cz (cL (cL (cR b20))) (fr20a X o n kind x) st0).evalM (gcObs 0 0 (keep [0, 1, 5, 7]))) = fun (X : Array Value) (o n : Nat) (kind : Int) (x : Ev) => some (.normal, fr20 X o n kind x 0, st0) := by kernel_rfl
theorem i20 (X : Array Value) (o n : Nat) (kind : Int) (x : Ev) : (codeT cfg (callT cfg noT 60) 60 cz (cL (cL (cR b20))) (fr20a X o n kind x) st0).evalM (gcObs 0 0 (keep [0, 1, 5, 7])) = some (.normal, fr20 X o n kind x 0, st0) := congrFun (congrFun (congrFun (congrFun (congrFun i20_k X) o) n) kind) x
theorem e20_k : (fun (X : Array Value) (o n : Nat) (kind : Int) (x : Ev) (i : Int) => (codeT cfg (callT cfg noT 60) 60 cz (cR (cR b20)) (fr20 X o n kind x i) st0).evalM (gcObs 0 0 (keepR [] [6]))) = fun (X : Array Value) (o n : Nat) (kind : Int) (x : Ev) (i : Int) => some (.ret, frS 20 [(6, .int .i64 (-1))], st0) := by kernel_rfl
theorem e20 (X : Array Value) (o n : Nat) (kind : Int) (x : Ev) (i : Int) : (codeT cfg (callT cfg noT 60) 60 cz (cR (cR b20)) (fr20 X o n kind x i) st0).evalM (gcObs 0 0 (keepR [] [6])) = some (.ret, frS 20 [(6, .int .i64 (-1))], st0) := congrFun (congrFun (congrFun (congrFun (congrFun (congrFun e20_k X) o) n) kind) x) i
def A20 (i : Int) : Option (Ex × Fr × St) := some (.ret, frS 20 [(6, .int .i64 i)], st0)
def B20 (X : Array Value) (o n : Nat) (kind : Int) (x : Ev) (i : Int) : Option (Ex × Fr × St) := some (.normal, fr20 X o n kind x (IntKind.wrap .i64 (i + 1)), st0)
theorem r20_k : (fun (X : Array Value) (o n : Nat) (kind : Int) (x : Ev) (i : Int) => (codeT cfg (callT cfg noT 60) 60 cz k20 (fr20 X o n kind x i) st0).evalM (gcObs 0 0 (keepR [0, 1, 5, 7] [6]))) = fun (X : Array Value) (o n : Nat) (kind : Int) (x : Ev) (i : Int) => (bif decide (i < (n : Int)) then (bif decide (0 ≤ i) && decide (i < (n : Int)) then (bif decide (o + Int.toNat i * 6 + 6 ≤ X.size) then (bif cellsOk X ev6 (o + Int.toNat i * 6) then (bif (evAt X (o + Int.toNat i * 6)).kind == kind then (bif (evAt X (o + Int.toNat i * 6)).node == x.node then (bif (evAt X (o + Int.toNat i * 6)).job == x.job then (bif (evAt X (o + Int.toNat i * 6)).epoch == x.epoch then (bif kind == 0 then A20 i else bif kind == 6 then A20 i else bif kind == 7 then A20 i else bif (evAt X (o + Int.toNat i * 6)).step == x.step then A20 i else B20 X o n kind x i) else B20 X o n kind x i) else B20 X o n kind x i) else B20 X o n kind x i) else B20 X o n kind x i) else none) else none) else none) else some (.exit 0, fr20 X o n kind x i, st0)) := by kernel_rfl
theorem r20 (X : Array Value) (o n : Nat) (kind : Int) (x : Ev) (i : Int) : (codeT cfg (callT cfg noT 60) 60 cz k20 (fr20 X o n kind x i) st0).evalM (gcObs 0 0 (keepR [0, 1, 5, 7] [6])) = (bif decide (i < (n : Int)) then (bif decide (0 ≤ i) && decide (i < (n : Int)) then (bif decide (o + Int.toNat i * 6 + 6 ≤ X.size) then (bif cellsOk X ev6 (o + Int.toNat i * 6) then (bif (evAt X (o + Int.toNat i * 6)).kind == kind then (bif (evAt X (o + Int.toNat i * 6)).node == x.node then (bif (evAt X (o + Int.toNat i * 6)).job == x.job then (bif (evAt X (o + Int.toNat i * 6)).epoch == x.epoch then (bif kind == 0 then A20 i else bif kind == 6 then A20 i else bif kind == 7 then A20 i else bif (evAt X (o + Int.toNat i * 6)).step == x.step then A20 i else B20 X o n kind x i) else B20 X o n kind x i) else B20 X o n kind x i) else B20 X o n kind x i) else B20 X o n kind x i) else none) else none) else none) else some (.exit 0, fr20 X o n kind x i, st0)) := congrFun (congrFun (congrFun (congrFun (congrFun (congrFun r20_k X) o) n) kind) x) i
theorem evM_chain2 {α : Type} (A B : α) (kind : Int) (x y : Ev) : (bif y.kind == kind then (bif y.node == x.node then (bif y.job == x.job then (bif y.epoch == x.epoch then (bif kind == 0 then A else bif kind == 6 then A else bif kind == 7 then A else bif y.step == x.step then A else B) else B) else B) else B) else B) = bif evM kind x y then A else B := by
  unfold evM whole
  cases y.kind == kind <;> cases y.job == x.job <;> cases y.epoch == x.epoch <;> cases y.node == x.node <;> cases kind == 0 <;> cases kind == 6 <;> cases kind == 7 <;> cases y.step == x.step <;> rfl
theorem i20_fn : cfg.fns 20 = some { body := b20, nt := ntOf 20, results := [.tmp 6], pure := false } := by kernel_rfl
def optI : Option Nat → Int
  | some i => i
  | none => -1
theorem ok20 [Z : Zone] {b : Nat} {X : Array Value} {o n : Nat} {kind : Int} {x : Ev} (h : evsOk X o n = true) :
    AWp cfg ⟨0, b⟩ cz b20 (frame0 20 (ntOf 20) #[VS X o n, .int .i64 kind, x.val]) st0 (RetL [(6, .int .i64 (optI (firstN X o n kind x)))]) := by
  have hn := evsOk_n h
  rw [b20_eq]
  refine AWp.step good rfl (pl1 rfl) (of_treeM noT_ok (s20 X o n kind x)) trivial ?_
  refine AWp.search (N := n) (p := evP X o kind x) (res := fun q => [(6, .int .i64 (optI q))]) (head := fun i => fr20 X o n kind x i) (sh := fun _ => st0) (found := fun i => (frS 20 [(6, .int .i64 i)], st0)) (fe := fr20 X o n kind x n) (se := st0)
    good rfl (fun _ => pl1 rfl) (of_treeM noT_ok (i20 X o n kind x)) (fun i hlt => ?_) (of_treeM noT_ok ((r20 X o n kind x n).trans ?_)) trivial (fun _ => trivial) (fun _ => trivial) trivial
    (fun i _ q hq => by simp only [List.mem_singleton] at hq; subst hq; exact frS_one _ _ _) (fun Z' => AWp.done good (pl1 rfl) (.inr rfl) (of_treeM noT_ok (e20 X o n kind x n)) trivial fun q hq => by simp only [List.mem_singleton] at hq; subst hq; exact frS_one _ _ _)
  · obtain ⟨h1, h2⟩ := evsOk_get h hlt
    have hw := wrap_nat (i := i) (by omega)
    have hi0 : (0 : Int) ≤ i := by omega
    have hr := r20 X o n kind x i
    rw [evM_chain2] at hr
    simp only [hlt, Int.ofNat_lt, hi0, decide_true, Bool.and_true, cond_true, Int.toNat_natCast, h1, h2] at hr
    cases hq : evP X o kind x i with
    | true =>
      unfold evP at hq
      rw [hq] at hr
      exact of_treeM noT_ok hr
    | false =>
      unfold evP at hq
      rw [hq, cond_false, B20, hw] at hr
      exact of_treeM noT_ok hr
  · simp only [Int.lt_irrefl, decide_false, cond_false]
def seenI (X : Array Value) (o n : Nat) (kind : Int) (x : Ev) : Int := optI (firstN X o n kind x)
def F20 : Array Value → DT (Option (Value × St))
  | ⟨[.func (.method nm) X ⟨[.slice none o n]⟩, .int .i64 kind, .agg ⟨[.int .i64 x0, .int .i64 x1, .int .i64 x2, .int .i64 x3, .int .i64 x4, .int .i64 x5]⟩]⟩ =>
    .must (decide (nm = "") && evsOk X o n) (.leaf (some (.int .i64 (seenI X o n kind ⟨x0, x1, x2, x3, x4, x5⟩), st0))) (.leaf none)
  | _ => .leaf none
theorem tells20 [Z : Zone] : Tells cfg 20 fun a => (F20 a).eval := by
  refine tells_one good rfl i20_fn rfl fun args y hx => ?_
  unfold F20 at hx
  split at hx
  · rename_i nm X o n kind x0 x1 x2 x3 x4 x5
    rw [DT.eval_must] at hx
    cases h : (decide (nm = "") && evsOk X o n) with
    | false => rw [h] at hx; cases hx
    | true =>
      rw [h, cond_true, DT.eval_leaf] at hx
      cases hx
      simp only [Bool.and_eq_true, decide_eq_true_eq] at h
      obtain ⟨rfl, h⟩ := h
      exact ⟨by simp [freeN], by show 3 ≤ 56; omega, _, rfl, rfl, fun b => ok20 (x := ⟨x0, x1, x2, x3, x4, x5⟩) h⟩
  · cases hx
end
end Go.Proofs.Ytbhemcpmklkepaa
