/- Are jobs few, of little? -/
import Derived.Test.YtbhemcpmklkepaaJ
namespace Go.Proofs.Ytbhemcpmklkepaa
open Go.Am
noncomputable section
def b15 : Code := bodyOf 15
def k15 : Code := cB (cB (cR (cL (cN 1 b15))))
theorem b15_eq : b15 = .seq (cL b15) (.seq (.seq (cL (cL (cN 1 b15))) (.block 0 (.loop k15))) (cN 2 b15)) := by kernel_rfl
def fr15 (J : Array Value) (jo jn : Nat) (i : Int) : Fr := frS 15 [(0, VS J jo jn), (3, .int .i64 i)]
theorem p15_k : (fun (J : Array Value) (jo jn : Nat) => (codeT cfg3 (callT cfg3 t3 60) 22 cz (cL b15) (frame0 15 (ntOf 15) #[VS J jo jn]) st0).evalM (gcObs 0 0 (keep [0]))) = fun (J : Array Value) (jo jn : Nat) => some (.normal, frS 15 [(0, VS J jo jn)], st0) := by kernel_rfl
theorem p15 (J : Array Value) (jo jn : Nat) : (codeT cfg3 (callT cfg3 t3 60) 22 cz (cL b15) (frame0 15 (ntOf 15) #[VS J jo jn]) st0).evalM (gcObs 0 0 (keep [0])) = some (.normal, frS 15 [(0, VS J jo jn)], st0) := congrFun (congrFun (congrFun p15_k J) jo) jn
theorem i15_k : (fun (J : Array Value) (jo jn : Nat) => (codeT cfg3 (callT cfg3 t3 60) 22 cz (cL (cL (cN 1 b15))) (frS 15 [(0, VS J jo jn)]) st0).evalM (gcObs 0 0 (keep [0, 3]))) = fun (J : Array Value) (jo jn : Nat) => some (.normal, fr15 J jo jn 0, st0) := by kernel_rfl
theorem i15 (J : Array Value) (jo jn : Nat) : (codeT cfg3 (callT cfg3 t3 60) 22 cz (cL (cL (cN 1 b15))) (frS 15 [(0, VS J jo jn)]) st0).evalM (gcObs 0 0 (keep [0, 3])) = some (.normal, fr15 J jo jn 0, st0) := congrFun (congrFun (congrFun i15_k J) jo) jn
theorem e15_k : (fun (J : Array Value) (jo jn : Nat) (i : Int) => (codeT cfg3 (callT cfg3 t3 60) 22 cz (cN 2 b15) (fr15 J jo jn i) st0).evalM (gcObs 0 0 (keepR [] [2]))) = fun (J : Array Value) (jo jn : Nat) (i : Int) => some (.ret, frS 15 [(2, .bool (decide ((jn : Int) ≤ 10)))], st0) := by kernel_rfl
theorem e15 (J : Array Value) (jo jn : Nat) (i : Int) : (codeT cfg3 (callT cfg3 t3 60) 22 cz (cN 2 b15) (fr15 J jo jn i) st0).evalM (gcObs 0 0 (keepR [] [2])) = some (.ret, frS 15 [(2, .bool (decide ((jn : Int) ≤ 10)))], st0) := congrFun (congrFun (congrFun (congrFun e15_k J) jo) jn) i
def R15 (b : Bool) : Option (Ex × Fr × St) := some (.ret, frS 15 [(2, .bool b)], st0)
def N15 (J : Array Value) (jo jn : Nat) (i : Int) : Option (Ex × Fr × St) := some (.normal, fr15 J jo jn (IntKind.wrap .i64 (i + 1)), st0)
def jj (jo : Nat) (i : Int) : Nat := jo + Int.toNat i * 2
def dj (jn : Nat) (i : Int) : Bool := decide (0 ≤ i) && decide (i < (jn : Int))
def in15 (J : Array Value) (jo jn : Nat) (i : Int) : Nat → Int → Option (Ex × Fr × St)
  | 0, _ => none
  | f + 1, k => bif dj jn i then (bif isV J[jj jo i + 1]? then (bif decide (k < (stL J (jj jo i) : Int)) then (bif dj jn i then (bif isV J[jj jo i + 1]? then (bif decide (0 ≤ k) && decide (k < (stL J (jj jo i) : Int)) then (bif decide (stO J (jj jo i) + Int.toNat k * 5 + 5 ≤ (stX J (jj jo i)).size) then (bif cellsOk (stX J (jj jo i)) ck5 (stO J (jj jo i) + Int.toNat k * 5) then (bif decide ((vL (stX J (jj jo i))[stO J (jj jo i) + Int.toNat k * 5 + 1 + 1 + 1 + 1]? : Int) > 20) then R15 false else bif decide (toI (stX J (jj jo i))[stO J (jj jo i) + Int.toNat k * 5]? < 0) then R15 false else bif decide (toI (stX J (jj jo i))[stO J (jj jo i) + Int.toNat k * 5]? > 1000) then R15 false else bif decide (toI (stX J (jj jo i))[stO J (jj jo i) + Int.toNat k * 5 + 1]? < 0) then R15 false else bif decide (toI (stX J (jj jo i))[stO J (jj jo i) + Int.toNat k * 5 + 1]? > 1000) then R15 false else in15 J jo jn i f (IntKind.wrap .i64 (k + 1))) else none) else none) else none) else none) else none) else N15 J jo jn i) else none) else none
theorem r15_k : (fun (J : Array Value) (jo jn : Nat) (i : Int) => (codeT cfg3 (callT cfg3 t3 60) 22 cz k15 (fr15 J jo jn i) st0).evalM (gcObs 0 0 (keepR [0, 3] [2]))) = fun (J : Array Value) (jo jn : Nat) (i : Int) => (bif decide (i < (jn : Int)) then (bif dj jn i then (bif isV J[jj jo i]? then (bif decide ((ndL J (jj jo i) : Int) > 20) then R15 false else bif dj jn i then (bif isV J[jj jo i + 1]? then (bif decide ((stL J (jj jo i) : Int) > 20) then R15 false else in15 J jo jn i 22 0) else none) else none) else none) else none) else some (.exit 0, fr15 J jo jn i, st0)) := by kernel_rfl
theorem r15 (J : Array Value) (jo jn : Nat) (i : Int) : (codeT cfg3 (callT cfg3 t3 60) 22 cz k15 (fr15 J jo jn i) st0).evalM (gcObs 0 0 (keepR [0, 3] [2])) = (bif decide (i < (jn : Int)) then (bif dj jn i then (bif isV J[jj jo i]? then (bif decide ((ndL J (jj jo i) : Int) > 20) then R15 false else bif dj jn i then (bif isV J[jj jo i + 1]? then (bif decide ((stL J (jj jo i) : Int) > 20) then R15 false else in15 J jo jn i 22 0) else none) else none) else none) else none) else some (.exit 0, fr15 J jo jn i, st0)) := congrFun (congrFun (congrFun (congrFun r15_k J) jo) jn) i

/-- Is a step of little? -/
def badS (X : Array Value) (k : Nat) : Bool := decide ((vL X[k + 1 + 1 + 1 + 1]? : Int) > 20) || (decide (toI X[k]? < 0) || (decide (toI X[k]? > 1000) || (decide (toI X[k + 1]? < 0) || decide (toI X[k + 1]? > 1000))))
def smS (X : Array Value) (o n : Nat) : Nat → Nat → Bool
  | 0, _ => true
  | f + 1, k => bif decide (k < n) then (bif badS X (o + k * 5) then false else smS X o n f (k + 1)) else true
def jobS (J : Array Value) (k : Nat) : Bool := decide (ndL J k ≤ 20) && (decide (stL J k ≤ 20) && smS (stX J k) (stO J k) (stL J k) 22 0)
def smallB (J : Array Value) (jo jn : Nat) : Bool := match findN (fun i => !jobS J (jo + i * 2)) jn with
  | some _ => false
  | none => decide ((jn : Int) ≤ 10)
theorem bad_chain {α : Type} (F A : α) (X : Array Value) (k : Nat) : (bif decide ((vL X[k + 1 + 1 + 1 + 1]? : Int) > 20) then F else bif decide (toI X[k]? < 0) then F else bif decide (toI X[k]? > 1000) then F else bif decide (toI X[k + 1]? < 0) then F else bif decide (toI X[k + 1]? > 1000) then F else A) = bif badS X k then F else A := by
  unfold badS
  cases decide ((vL X[k + 1 + 1 + 1 + 1]? : Int) > 20) <;> cases decide (toI X[k]? < 0) <;> cases decide (toI X[k]? > 1000) <;> cases decide (toI X[k + 1]? < 0) <;> cases decide (toI X[k + 1]? > 1000) <;> rfl
theorem in15_eq {J : Array Value} {jo jn : Nat} {i : Int} (hd : dj jn i = true) (hv : isV J[jj jo i + 1]? = true) (hs : stepsOk (stX J (jj jo i)) (stO J (jj jo i)) (stL J (jj jo i)) = true) :
    ∀ f k, k ≤ stL J (jj jo i) → stL J (jj jo i) < k + f → in15 J jo jn i f k = bif smS (stX J (jj jo i)) (stO J (jj jo i)) (stL J (jj jo i)) f k then N15 J jo jn i else R15 false := by
  have hn : stL J (jj jo i) ≤ 9223372036854775807 := by
    simp only [stepsOk, Bool.and_eq_true, decide_eq_true_eq] at hs
    exact hs.1
  intro f
  induction f with
  | zero => intro k h1 h2; omega
  | succ f ih =>
    intro k hk0 hk
    unfold in15 smS
    rw [hd, hv]
    by_cases h : k < stL J (jj jo i)
    · obtain ⟨g1, g2, _⟩ := stepsOk_get hs h
      have hi0 : (0 : Int) ≤ k := by omega
      have hw := wrap_nat (i := k) (by omega)
      rw [bad_chain]
      simp only [h, Int.ofNat_lt, hi0, decide_true, Bool.and_true, cond_true, Int.toNat_natCast, g1, g2, hw]
      have := ih (k + 1) (by omega) (by omega)
      cases badS (stX J (jj jo i)) (stO J (jj jo i) + k * 5) with
      | true => rfl
      | false => simp only [cond_false]; exact this
    · simp only [h, Int.ofNat_lt, decide_false, cond_false, cond_true]
theorem q15 {J : Array Value} {jo jn : Nat} (hj : jobsOk J jo jn = true) {i : Nat} (hi : i < jn) : (codeT cfg3 (callT cfg3 t3 60) 22 cz k15 (fr15 J jo jn i) st0).evalM (gcObs 0 0 (keepR [0, 3] [2])) = bif !jobS J (jo + i * 2) then R15 false else some (.normal, fr15 J jo jn ((i + 1 : Nat) : Int), st0) := by
  have hn := jobsOk_n hj
  obtain ⟨g1, g2, g3, g4⟩ := jobsOk_get hj hi
  have g1' : (isV J[jo + i * 2]? && (isV J[jo + i * 2 + 1]? && true)) = true := g1
  simp only [Bool.and_eq_true] at g1'
  have hi0 : (0 : Int) ≤ i := by omega
  have hw := wrap_nat (i := i) (by omega)
  have ej : jj jo i = jo + i * 2 := rfl
  have hd : dj jn i = true := by unfold dj; simp only [hi0, Int.ofNat_lt, hi, decide_true, Bool.and_true]
  rw [r15, ej, hd, g1'.1, g1'.2.1]
  unfold jobS
  simp only [Int.ofNat_lt, hi, decide_true, cond_true]
  by_cases h1 : ndL J (jo + i * 2) ≤ 20
  · have h1' : ¬ ((ndL J (jo + i * 2) : Int) > 20) := by omega
    by_cases h2 : stL J (jo + i * 2) ≤ 20
    · have h2' : ¬ ((stL J (jo + i * 2) : Int) > 20) := by omega
      have := in15_eq (i := (i : Int)) hd g1'.2.1 g4 22 0 (by omega) (by show stL J (jo + i * 2) < 0 + 22; omega)
      simp only [h1, h2, h1', h2', decide_true, decide_false, cond_false, Bool.true_and]
      refine this.trans ?_
      rw [ej]
      cases smS (stX J (jo + i * 2)) (stO J (jo + i * 2)) (stL J (jo + i * 2)) 22 0 with
      | true => simp only [Bool.not_true, cond_true, cond_false, N15, hw]
      | false => rfl
    · have h2' : (stL J (jo + i * 2) : Int) > 20 := by omega
      simp only [h1, h2, h1', h2', decide_true, decide_false, cond_false, Bool.true_and, Bool.false_and, Bool.not_false, cond_true]
  · have h1' : (ndL J (jo + i * 2) : Int) > 20 := by omega
    simp only [h1, h1', decide_true, decide_false, cond_false, Bool.true_and, Bool.false_and, Bool.not_false, cond_true]
theorem ok15 [Z : Zone] {b : Nat} {J : Array Value} {jo jn : Nat} (hj : jobsOk J jo jn = true) :
    AWp cfg3 ⟨0, b⟩ cz b15 (frame0 15 (ntOf 15) #[VS J jo jn]) st0 (RetL [(2, .bool (smallB J jo jn))]) := by
  have hn := jobsOk_n hj
  have one : ∀ {v w : Value}, v = w → ∀ q ∈ [((2 : Tmp), v)], (frS 15 [(2, w)]).tm.get q.1 = some q.2 := fun h q hq => by
    simp only [List.mem_singleton] at hq; subst hq; rw [h]; exact frS_one _ _ _
  rw [b15_eq]
  refine AWp.step good3 rfl (pl1 rfl) (of_treeM t3_ok (p15 J jo jn)) trivial ?_
  exact AWp.search (N := jn) (p := fun i => !jobS J (jo + i * 2)) (res := fun q => [(2, .bool (match q with | some _ => false | none => decide ((jn : Int) ≤ 10)))]) (head := fun i => fr15 J jo jn i) (sh := fun _ => st0) (found := fun i => (frS 15 [(2, .bool false)], st0)) (fe := fr15 J jo jn jn) (se := st0)
    good3 rfl (fun _ => pl1 rfl) (of_treeM t3_ok (i15 J jo jn)) (fun i hlt => by
      have := q15 hj hlt
      cases hq : (!jobS J (jo + i * 2)) with
      | true => rw [hq] at this; exact of_treeM t3_ok this
      | false => rw [hq] at this; exact of_treeM t3_ok this) (of_treeM t3_ok ((r15 J jo jn jn).trans (by simp only [Int.lt_irrefl, decide_false, cond_false]))) trivial (fun _ => trivial) (fun _ => trivial) trivial
    (fun i _ => one rfl) (fun Z' => AWp.done good3 (pl1 rfl) (.inr rfl) (of_treeM t3_ok (e15 J jo jn jn)) trivial (one rfl))
def F15 : Array Value → DT (Option (Value × St))
  | ⟨[.func (.method nm) J ⟨[.slice none jo jn]⟩]⟩ => .must (decide (nm = "") && jobsOk J jo jn) (.leaf (some (.bool (smallB J jo jn), st0))) (.leaf none)
  | _ => .leaf none
theorem i15_fn : cfg3.fns 15 = some { body := b15, nt := ntOf 15, results := [.tmp 2], pure := false } := by kernel_rfl
theorem tells15 [Z : Zone] : Tells cfg3 15 fun a => (F15 a).eval := by
  refine tells_one good3 rfl i15_fn rfl fun args y hx => ?_
  unfold F15 at hx
  split at hx
  · rename_i nm J jo jn
    rw [DT.eval_must] at hx
    cases h : (decide (nm = "") && jobsOk J jo jn) with
    | false => rw [h] at hx; cases hx
    | true =>
      rw [h, cond_true, DT.eval_leaf] at hx
      cases hx
      simp only [Bool.and_eq_true, decide_eq_true_eq] at h
      obtain ⟨rfl, h1⟩ := h
      exact ⟨by simp [freeN], by show 1 ≤ ntOf 15; decide, _, rfl, rfl, fun b => ok15 h1⟩
  · cases hx
end
end Go.Proofs.Ytbhemcpmklkepaa
