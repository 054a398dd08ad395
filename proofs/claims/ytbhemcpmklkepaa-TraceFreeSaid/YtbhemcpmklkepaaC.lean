/- Where in a row of numbers is one? -/
import Derived.Test.YtbhemcpmklkepaaB
import Derived.KernelRfl
namespace Go.Proofs.Ytbhemcpmklkepaa
open Go.Am
noncomputable section
def b39 : Code := bodyOf 39
def k39 : Code := cB (cB (cR (cL (cR b39))))
theorem b39_eq : b39 = .seq (cL b39) (.seq (.seq (cL (cL (cR b39))) (.block 0 (.loop k39))) (cR (cR b39))) := by kernel_rfl
def fr39a (X : Array Value) (o n : Nat) (v : Int) : Fr := frS 39 [(0, VS X o n), (1, .int .i64 v)]
def fr39 (X : Array Value) (o n : Nat) (v i : Int) : Fr := frS 39 [(0, VS X o n), (1, .int .i64 v), (7, nI n), (8, .int .i64 i)]
theorem s39_k : (fun (X : Array Value) (o n : Nat) (v : Int) => (codeT cfg (callT cfg noT 60) 60 cz (cL b39) (frame0 39 (ntOf 39) #[VS X o n, .int .i64 v]) st0).evalM (gcObs 0 0 (keep [0, 1]))) = fun (X : Array Value) (o n : Nat) (v : Int) =>
    (some (Ex.normal, frS 39 [(0, .func (Fn.method "") X ⟨[.slice none o n]⟩), (1, .int .i64 v)], st0)) := by kernel_rfl
theorem s39 (X : Array Value) (o n : Nat) (v : Int) : (codeT cfg (callT cfg noT 60) 60 cz (cL b39) (frame0 39 (ntOf 39) #[VS X o n, .int .i64 v]) st0).evalM (gcObs 0 0 (keep [0, 1])) =
    (some (Ex.normal, frS 39 [(0, .func (Fn.method "") X ⟨[.slice none o n]⟩), (1, .int .i64 v)], st0)) := congrFun (congrFun (congrFun (congrFun s39_k X) o) n) v

theorem i39_k : (fun (X : Array Value) (o n : Nat) (v : Int) => (codeT cfg (callT cfg noT 60) 60 cz (cL (cL (cR b39))) (fr39a X o n v) st0).evalM (gcObs 0 0 (keep [0, 1, 7, 8]))) = fun (X : Array Value) (o n : Nat) (v : Int) =>
    (some (Ex.normal, frS 39 [(0, .func (Fn.method "") X ⟨[.slice none o n]⟩), (1, .int .i64 v), (7, .int .i64 (n : Int)), (8, .int .i64 0)], st0)) := by kernel_rfl
theorem i39 (X : Array Value) (o n : Nat) (v : Int) : (codeT cfg (callT cfg noT 60) 60 cz (cL (cL (cR b39))) (fr39a X o n v) st0).evalM (gcObs 0 0 (keep [0, 1, 7, 8])) =
    (some (Ex.normal, frS 39 [(0, .func (Fn.method "") X ⟨[.slice none o n]⟩), (1, .int .i64 v), (7, .int .i64 (n : Int)), (8, .int .i64 0)], st0)) := congrFun (congrFun (congrFun (congrFun i39_k X) o) n) v

theorem r39_k : (fun (X : Array Value) (o n : Nat) (v i : Int) => (codeT cfg (callT cfg noT 60) 60 cz k39 (fr39 X o n v i) st0).evalM (gcObs 0 0 (keepR [0, 1, 7, 8] [4]))) = fun (X : Array Value) (o n : Nat) (v i : Int) =>
    (bif decide (i < (n : Int)) then
     bif decide (0 ≤ i) && decide (i < (n : Int)) then
      bif isI .i64 X[o + Int.toNat i * 1]? then
       bif v == toI X[o + Int.toNat i * 1]? then
        some (Ex.ret, frS 39 [(4, .int .i64 i)], st0)
       else
        some (Ex.normal, frS 39 [(0, .func (Fn.method "") X ⟨[.slice none o n]⟩), (1, .int .i64 v), (7, .int .i64 (n : Int)), (8, .int .i64 (IntKind.wrap .i64 (i + 1)))], st0)
      else
       none
     else
      none
    else
     some (Ex.exit 0, frS 39 [(0, .func (Fn.method "") X ⟨[.slice none o n]⟩), (1, .int .i64 v), (7, .int .i64 (n : Int)), (8, .int .i64 i)], st0)) := by kernel_rfl
theorem r39 (X : Array Value) (o n : Nat) (v i : Int) : (codeT cfg (callT cfg noT 60) 60 cz k39 (fr39 X o n v i) st0).evalM (gcObs 0 0 (keepR [0, 1, 7, 8] [4])) =
    (bif decide (i < (n : Int)) then
     bif decide (0 ≤ i) && decide (i < (n : Int)) then
      bif isI .i64 X[o + Int.toNat i * 1]? then
       bif v == toI X[o + Int.toNat i * 1]? then
        some (Ex.ret, frS 39 [(4, .int .i64 i)], st0)
       else
        some (Ex.normal, frS 39 [(0, .func (Fn.method "") X ⟨[.slice none o n]⟩), (1, .int .i64 v), (7, .int .i64 (n : Int)), (8, .int .i64 (IntKind.wrap .i64 (i + 1)))], st0)
      else
       none
     else
      none
    else
     some (Ex.exit 0, frS 39 [(0, .func (Fn.method "") X ⟨[.slice none o n]⟩), (1, .int .i64 v), (7, .int .i64 (n : Int)), (8, .int .i64 i)], st0)) := congrFun (congrFun (congrFun (congrFun (congrFun r39_k X) o) n) v) i

theorem e39_k : (fun (X : Array Value) (o n : Nat) (v i : Int) => (codeT cfg (callT cfg noT 60) 60 cz (cR (cR b39)) (fr39 X o n v i) st0).evalM (gcObs 0 0 (keepR [] [4]))) = fun (X : Array Value) (o n : Nat) (v i : Int) =>
    (some (Ex.ret, frS 39 [(4, .int .i64 (-1))], st0)) := by kernel_rfl
theorem e39 (X : Array Value) (o n : Nat) (v i : Int) : (codeT cfg (callT cfg noT 60) 60 cz (cR (cR b39)) (fr39 X o n v i) st0).evalM (gcObs 0 0 (keepR [] [4])) =
    (some (Ex.ret, frS 39 [(4, .int .i64 (-1))], st0)) := congrFun (congrFun (congrFun (congrFun (congrFun e39_k X) o) n) v) i


def maxI : Nat := 9223372036854775807
/-- A row of numbers. -/
def intsOk (X : Array Value) (o n : Nat) : Bool := decide (n ≤ maxI) && (List.range n).all fun i => isI .i64 X[o + i]?
theorem intsOk_get {X : Array Value} {o n i : Nat} (h : intsOk X o n = true) (hi : i < n) : isI .i64 X[o + i]? = true := by
  simp only [intsOk, Bool.and_eq_true, List.all_eq_true, List.mem_range] at h
  exact h.2 i hi
theorem intsOk_n {X : Array Value} {o n : Nat} (h : intsOk X o n = true) : n ≤ 9223372036854775807 := by
  simp only [intsOk, Bool.and_eq_true, decide_eq_true_eq] at h
  exact h.1
def eqAt (X : Array Value) (o : Nat) (v : Int) (i : Nat) : Bool := v == toI X[o + i]?
theorem pl1 {t : Tmp} {v : Value} (h : plainN 9 v = true) : plainL [(t, v)] := fun p hp => by
  simp only [List.mem_singleton] at hp; subst hp; exact h

theorem ok39 [Z : Zone] {b : Nat} {X : Array Value} {o n : Nat} {v : Int} (h : intsOk X o n = true) :
    AWp cfg ⟨0, b⟩ cz b39 (frame0 39 (ntOf 39) #[VS X o n, .int .i64 v]) st0 (RetL [(4, .int .i64 (idxI (eqAt X o v) n))]) := by
  have hn := intsOk_n h
  rw [b39_eq]
  refine AWp.step good rfl (pl1 rfl) (of_treeM noT_ok (s39 X o n v)) trivial ?_
  refine AWp.forStmt (N := n) (head := fun i => fr39 X o n v i) (sh := fun _ => st0) (stop := fun i => if i < n then (if eqAt X o v i then some (.ret, frS 39 [(4, .int .i64 i)], st0) else none) else some (.exit 0, fr39 X o n v i, st0))
    good rfl (pl1 rfl) (of_treeM noT_ok (i39 X o n v)) trivial (sel2 := keepR [0, 1, 7, 8] [4]) (fun i hi _ => of_treeM noT_ok ((r39 X o n v i).trans ?_)) (fun i hi => ?_) ⟨n, Nat.le_refl _, by simp⟩ (fun i r hi hno hr => ?_)
  · have hi0 : (0 : Int) ≤ i := by omega
    by_cases hlt : i < n
    · have h1 := intsOk_get h hlt
      have hw := wrap_nat (i := i) (by omega)
      simp only [hlt, if_true, Int.ofNat_lt, hi0, decide_true, Bool.and_true, cond_true, Int.toNat_natCast, Nat.mul_one, h1]
      cases hq : eqAt X o v i with
      | true =>
        unfold eqAt at hq
        simp only [hq, cond_true, if_true]
      | false =>
        unfold eqAt at hq
        simp only [hq, cond_false, Bool.false_eq_true, if_false, hw]
        rfl
    · have e : i = n := by omega
      simp only [hlt, if_false, Int.ofNat_lt, decide_false, cond_false]
      rfl
  · split
    · rename_i r hr
      split at hr
      · split at hr
        · cases hr; trivial
        · cases hr
      · cases hr; trivial
    · trivial
  · have hno' : ∀ j, j < i → j < n → eqAt X o v j = false := fun j hj hjn => by
      have := hno j hj
      simp only [hjn, if_true] at this
      cases hq : eqAt X o v j with
      | false => rfl
      | true => rw [hq] at this; simp at this
    split at hr
    · rename_i hlt
      split at hr
      · rename_i hq
        cases hr
        intro p hp
        simp only [List.mem_singleton] at hp
        subst hp
        rw [idxI, findN_some hlt hq fun j hj => hno' j hj (by omega)]
        exact frS_one _ _ _
      · cases hr
    · rename_i hge
      cases hr
      refine ⟨rfl, fun Z' => AWp.done good (pl1 rfl) (.inr rfl) (of_treeM noT_ok (e39 X o n v i)) trivial fun p hp => ?_⟩
      simp only [List.mem_singleton] at hp
      subst hp
      rw [idxI, findN_none fun j hj => hno' j (by omega) hj]
      exact frS_one _ _ _

def F39 : Array Value → DT (Option (Value × St))
  | ⟨[.func (.method nm) X ⟨[.slice none o n]⟩, .int .i64 v]⟩ => .must (decide (nm = "") && intsOk X o n) (.leaf (some (.int .i64 (idxI (eqAt X o v) n), st0))) (.leaf none)
  | _ => .leaf none
theorem i39_fn : cfg.fns 39 = some { body := b39, nt := ntOf 39, results := [.tmp 4], pure := false } := by kernel_rfl
theorem tells39 [Z : Zone] : Tells cfg 39 fun a => (F39 a).eval := by
  refine tells_one good rfl i39_fn rfl fun args x hx => ?_
  unfold F39 at hx
  split at hx
  · rename_i nm X o n v
    rw [DT.eval_must] at hx
    cases h : (decide (nm = "") && intsOk X o n) with
    | false => rw [h] at hx; cases hx
    | true =>
      rw [h, cond_true, DT.eval_leaf] at hx
      cases hx
      simp only [Bool.and_eq_true, decide_eq_true_eq] at h
      obtain ⟨rfl, h⟩ := h
      exact ⟨by simp [freeN], by show 2 ≤ 19; omega, _, rfl, rfl, fun b => ok39 h⟩
  · cases hx
end
end Go.Proofs.Ytbhemcpmklkepaa
