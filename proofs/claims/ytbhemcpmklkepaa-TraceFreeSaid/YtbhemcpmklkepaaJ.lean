/- Events of the document's, for the program. -/
import Derived.Test.YtbhemcpmklkepaaI
import Derived.Test.YtbhemcpmklkepaaAmFlow
namespace Go.Proofs.Ytbhemcpmklkepaa
open Go.Am
noncomputable section
def b10 : Code := bodyOf 10
def k10 : Code := cB (cB (cR (cL (cN 2 b10))))
theorem b10_eq : b10 = nest [cL b10, cL (cN 1 b10)] (.seq (.seq (cL (cL (cN 2 b10))) (.block 0 (.loop k10))) (cN 3 b10)) := by kernel_rfl
def ro10 (E : Array Value) : List (Nat × AObj) := [(0, .cells E 6 true)]
def fr10 (X : Array Value) (o n : Nat) (v : Value) (i : Int) : Fr := frS 10 [(0, VS X o n), (3, v), (4, .int .i64 i)]
def sl0 (n : Nat) : Value := .slice (some ⟨0, 0, none⟩) n n
def sel10 (c : Bool) : Ex → List Tmp × List Kept
  | .normal => ([0, 3, 4], [.plain (if c then 1 else 2)])
  | .exit _ => ([0, 3, 4], if c then [] else [.plain 0])
  | _ => ([], [])
def sel10r (c : Bool) : Ex → List Tmp × List Kept := fun _ => ([2], if c then [] else [.plain 0])
def nil0 : Value := .slice none 0 0
theorem p10_k : (fun (X : Array Value) (o n : Nat) => (codeT cfg3 (callT cfg3 t3 60) 60 cz (seqOf [cL b10, cL (cN 1 b10)]) (frame0 10 (ntOf 10) #[VS X o n]) st0).evalM (gcObs 0 0 (keep [0, 3]))) = fun (X : Array Value) (o n : Nat) => some (.normal, frS 10 [(0, VS X o n), (3, nil0)], st0) := by kernel_rfl
theorem p10 (X : Array Value) (o n : Nat) : (codeT cfg3 (callT cfg3 t3 60) 60 cz (seqOf [cL b10, cL (cN 1 b10)]) (frame0 10 (ntOf 10) #[VS X o n]) st0).evalM (gcObs 0 0 (keep [0, 3])) = some (.normal, frS 10 [(0, VS X o n), (3, nil0)], st0) := congrFun (congrFun (congrFun p10_k X) o) n
theorem i10_k : (fun (X : Array Value) (o n : Nat) => (codeT cfg3 (callT cfg3 t3 60) 60 cz (cL (cL (cN 2 b10))) (frS 10 [(0, VS X o n), (3, nil0)]) st0).evalM (gcObs 0 0 (keep [0, 3, 4]))) = fun (X : Array Value) (o n : Nat) => some (.normal, fr10 X o n nil0 0, st0) := by kernel_rfl
theorem i10 (X : Array Value) (o n : Nat) : (codeT cfg3 (callT cfg3 t3 60) 60 cz (cL (cL (cN 2 b10))) (frS 10 [(0, VS X o n), (3, nil0)]) st0).evalM (gcObs 0 0 (keep [0, 3, 4])) = some (.normal, fr10 X o n nil0 0, st0) := congrFun (congrFun (congrFun i10_k X) o) n
theorem ra10_k : (fun (X : Array Value) (o n : Nat) (i : Int) => (codeT cfg3 (callT cfg3 t3 60) 60 cz k10 (fr10 X o n nil0 i) st0).evalM (gcObs 0 0 (sel10 true))) = fun (X : Array Value) (o n : Nat) (i : Int) => (bif decide (i < (n : Int)) then (bif decide (0 ≤ i) && decide (i < (n : Int)) then (bif decide (o + Int.toNat i * 6 + 6 ≤ X.size) then (bif cellsOk X ev6 (o + Int.toNat i * 6) then some (.normal, fr10 X o n (sl0 1) (IntKind.wrap .i64 (i + 1)), stS (ro10 ⟨(eA X o i).cells⟩) 1) else none) else none) else none) else some (.exit 0, fr10 X o n nil0 i, st0)) := by kernel_rfl
theorem ra10 (X : Array Value) (o n : Nat) (i : Int) : (codeT cfg3 (callT cfg3 t3 60) 60 cz k10 (fr10 X o n nil0 i) st0).evalM (gcObs 0 0 (sel10 true)) = (bif decide (i < (n : Int)) then (bif decide (0 ≤ i) && decide (i < (n : Int)) then (bif decide (o + Int.toNat i * 6 + 6 ≤ X.size) then (bif cellsOk X ev6 (o + Int.toNat i * 6) then some (.normal, fr10 X o n (sl0 1) (IntKind.wrap .i64 (i + 1)), stS (ro10 ⟨(eA X o i).cells⟩) 1) else none) else none) else none) else some (.exit 0, fr10 X o n nil0 i, st0)) := congrFun (congrFun (congrFun (congrFun ra10_k X) o) n) i
theorem rb10_k : (fun (X : Array Value) (o n : Nat) (E : Array Value) (k : Nat) (i : Int) => (codeT cfg3 (callT cfg3 t3 60) 60 cz k10 (fr10 X o n (sl0 k) i) (stS (ro10 E) 1)).evalM (gcObs 0 0 (sel10 false))) = fun (X : Array Value) (o n : Nat) (E : Array Value) (k : Nat) (i : Int) => (bif decide (i < (n : Int)) then (bif decide (0 ≤ i) && decide (i < (n : Int)) then (bif decide (o + Int.toNat i * 6 + 6 ≤ X.size) then (bif cellsOk X ev6 (o + Int.toNat i * 6) then (bif decide (k ≤ k) && decide (k + 1 ≤ nLim) && true && true && true && true && true then (bif decide (k + 1 ≤ k) then (bif decide (0 + k * 6 + 6 ≤ E.size) && true then none else none) else (bif decide (0 + k * 6 ≤ E.size) then (bif (k == k) && (0 + k * 6 == E.size) then some (.normal, fr10 X o n (sl0 (k + 1)) (IntKind.wrap .i64 (i + 1)), stS (ro10 (E.extract 0 (0 + k * 6) ++ ⟨(eA X o i).cells⟩)) 1) else none) else none)) else none) else none) else none) else none) else some (.exit 0, fr10 X o n (sl0 k) i, stS (ro10 E) 1)) := by kernel_rfl
theorem rb10 (X : Array Value) (o n : Nat) (E : Array Value) (k : Nat) (i : Int) : (codeT cfg3 (callT cfg3 t3 60) 60 cz k10 (fr10 X o n (sl0 k) i) (stS (ro10 E) 1)).evalM (gcObs 0 0 (sel10 false)) = (bif decide (i < (n : Int)) then (bif decide (0 ≤ i) && decide (i < (n : Int)) then (bif decide (o + Int.toNat i * 6 + 6 ≤ X.size) then (bif cellsOk X ev6 (o + Int.toNat i * 6) then (bif decide (k ≤ k) && decide (k + 1 ≤ nLim) && true && true && true && true && true then (bif decide (k + 1 ≤ k) then (bif decide (0 + k * 6 + 6 ≤ E.size) && true then none else none) else (bif decide (0 + k * 6 ≤ E.size) then (bif (k == k) && (0 + k * 6 == E.size) then some (.normal, fr10 X o n (sl0 (k + 1)) (IntKind.wrap .i64 (i + 1)), stS (ro10 (E.extract 0 (0 + k * 6) ++ ⟨(eA X o i).cells⟩)) 1) else none) else none)) else none) else none) else none) else none) else some (.exit 0, fr10 X o n (sl0 k) i, stS (ro10 E) 1)) := congrFun (congrFun (congrFun (congrFun (congrFun (congrFun rb10_k X) o) n) E) k) i
theorem ea10_k : (fun (X : Array Value) (o n : Nat) (i : Int) => (codeT cfg3 (callT cfg3 t3 60) 60 cz (cN 3 b10) (fr10 X o n nil0 i) st0).evalM (gcObs 0 0 (sel10r true))) = fun (X : Array Value) (o n : Nat) (i : Int) => some (.ret, frS 10 [(2, nil0)], st0) := by kernel_rfl
theorem ea10 (X : Array Value) (o n : Nat) (i : Int) : (codeT cfg3 (callT cfg3 t3 60) 60 cz (cN 3 b10) (fr10 X o n nil0 i) st0).evalM (gcObs 0 0 (sel10r true)) = some (.ret, frS 10 [(2, nil0)], st0) := congrFun (congrFun (congrFun (congrFun ea10_k X) o) n) i
theorem eb10_k : (fun (X : Array Value) (o n : Nat) (E : Array Value) (k : Nat) (i : Int) => (codeT cfg3 (callT cfg3 t3 60) 60 cz (cN 3 b10) (fr10 X o n (sl0 k) i) (stS (ro10 E) 1)).evalM (gcObs 0 0 (sel10r false))) = fun (X : Array Value) (o n : Nat) (E : Array Value) (k : Nat) (i : Int) => some (.ret, frS 10 [(2, sl0 k)], stS (ro10 E) 1) := by kernel_rfl
theorem eb10 (X : Array Value) (o n : Nat) (E : Array Value) (k : Nat) (i : Int) : (codeT cfg3 (callT cfg3 t3 60) 60 cz (cN 3 b10) (fr10 X o n (sl0 k) i) (stS (ro10 E) 1)).evalM (gcObs 0 0 (sel10r false)) = some (.ret, frS 10 [(2, sl0 k)], stS (ro10 E) 1) := congrFun (congrFun (congrFun (congrFun (congrFun (congrFun eb10_k X) o) n) E) k) i

/-- The row that comes out. -/
def rowE (X : Array Value) (o : Nat) : Nat → Array Value
  | 0 => #[]
  | i + 1 => rowE X o i ++ ⟨(evAt X (o + i * 6)).cells⟩
theorem rowE_size (X : Array Value) (o i : Nat) : (rowE X o i).size = i * 6 := by
  induction i with
  | zero => rfl
  | succ i ih =>
    simp only [rowE, Array.size_append, ih]
    show i * 6 + 6 = _
    omega
theorem rowE_get {X : Array Value} {o k i : Nat} (hk : k < i) {j : Nat} (hj : j < 6) : (rowE X o i)[k * 6 + j]? = (evAt X (o + k * 6)).cells[j]? := by
  induction i with
  | zero => omega
  | succ i ih =>
    simp only [rowE]
    by_cases h : k < i
    · rw [Array.getElem?_append_left (by rw [rowE_size]; omega)]
      exact ih h
    · have e : k = i := by omega
      subst e
      rw [Array.getElem?_append_right (by rw [rowE_size]; omega), rowE_size, show k * 6 + j - k * 6 = j by omega]
      simp only [List.getElem?_toArray]
theorem rowE_plain (X : Array Value) (o i : Nat) : (rowE X o i).all (plainN 6) = true ∧ (rowE X o i).all (freeN 6) = true ∧ (rowE X o i).all (freeN 9) = true := by
  induction i with
  | zero => simp [rowE]
  | succ i ih =>
    simp only [rowE, Array.all_append, ih.1, ih.2.1, ih.2.2, Bool.true_and]
    simp [Ev.cells, plainN, freeN]
theorem rowE_ev {X : Array Value} {o k i : Nat} (hk : k < i) : evAt (rowE X o i) (0 + k * 6) = evAt X (o + k * 6) ∧ cellsOk (rowE X o i) ev6 (0 + k * 6) = true := by
  have g := fun j hj => rowE_get (X := X) (o := o) hk (j := j) hj
  have e0 : (rowE X o i)[0 + k * 6]? = some (.int .i64 (evAt X (o + k * 6)).kind) := by rw [Nat.zero_add]; exact g 0 (by omega)
  have e1 : (rowE X o i)[0 + k * 6 + 1]? = some (.int .i64 (evAt X (o + k * 6)).node) := by rw [Nat.zero_add]; exact g 1 (by omega)
  have e2 : (rowE X o i)[0 + k * 6 + 1 + 1]? = some (.int .i64 (evAt X (o + k * 6)).job) := by rw [Nat.zero_add]; exact g 2 (by omega)
  have e3 : (rowE X o i)[0 + k * 6 + 1 + 1 + 1]? = some (.int .i64 (evAt X (o + k * 6)).epoch) := by rw [Nat.zero_add]; exact g 3 (by omega)
  have e4 : (rowE X o i)[0 + k * 6 + 1 + 1 + 1 + 1]? = some (.int .i64 (evAt X (o + k * 6)).step) := by rw [Nat.zero_add]; exact g 4 (by omega)
  have e5 : (rowE X o i)[0 + k * 6 + 1 + 1 + 1 + 1 + 1]? = some (.int .i64 (evAt X (o + k * 6)).arg) := by rw [Nat.zero_add]; exact g 5 (by omega)
  refine ⟨?_, ?_⟩
  · conv => lhs; unfold evAt
    rw [e0, e1, e2, e3, e4, e5]
    rfl
  · simp only [ev6, cellsOk, e0, e1, e2, e3, e4, e5]
    rfl
theorem rowE_ok {X : Array Value} {o n : Nat} (h : evsOk X o n = true) : evsOk (rowE X o n) 0 n = true := by
  have hn := evsOk_n h
  simp only [evsOk, Bool.and_eq_true, List.all_eq_true, List.mem_range, decide_eq_true_eq, rowE_size]
  exact ⟨hn, by omega, fun i hi => (rowE_ev hi).2⟩
def vl10 : Nat → Value
  | 0 => nil0
  | i + 1 => sl0 (i + 1)
def sh10 (X : Array Value) (o : Nat) : Nat → St
  | 0 => st0
  | i + 1 => stS (ro10 (rowE X o (i + 1))) 1
def x10 (X : Array Value) (o : Nat) : Nat → Value × St
  | 0 => (nil0, st0)
  | n + 1 => (sl0 (n + 1), st0.new (.cells (rowE X o (n + 1)) 6 true))
theorem q10 {X : Array Value} {o n : Nat} (hx : evsOk X o n = true) (hl : n ≤ nLim) (i : Nat) (hi : i ≤ n) :
    (codeT cfg3 (callT cfg3 t3 60) 60 cz k10 (fr10 X o n (vl10 i) i) (sh10 X o i)).evalM (gcObs 0 0 (sel10 (i == 0))) = some (match (if i < n then none else some (Ex.exit 0, fr10 X o n (vl10 i) i, sh10 X o i)) with | some r => r | none => (.normal, fr10 X o n (vl10 (i + 1)) ((i + 1 : Nat) : Int), sh10 X o (i + 1))) := by
  have hn := evsOk_n hx
  have hi0 : (0 : Int) ≤ i := by omega
  by_cases hlt : i < n
  · obtain ⟨h1, h2⟩ := evsOk_get hx hlt
    have hw := wrap_nat (i := i) (by omega)
    cases i with
    | zero =>
      refine (ra10 X o n ((0 : Nat) : Int)).trans ?_
      simp only [hlt, if_true, Int.ofNat_lt, hi0, decide_true, Bool.and_true, cond_true, Int.toNat_natCast, h1, h2, hw, eA]
      rfl
    | succ m =>
      refine (rb10 X o n (rowE X o (m + 1)) (m + 1) ((m + 1 : Nat) : Int)).trans ?_
      have e1 : ¬ (m + 1 + 1 ≤ m + 1) := by omega
      have e2 : m + 1 + 1 ≤ nLim := by omega
      have e3 : (rowE X o (m + 1)).extract 0 (0 + (m + 1) * 6) = rowE X o (m + 1) := by
        rw [Nat.zero_add, ← rowE_size X o (m + 1)]; exact Array.extract_size
      simp only [hlt, if_true, Int.ofNat_lt, hi0, decide_true, Bool.and_true, cond_true, Int.toNat_natCast, h1, h2, hw, eA, Nat.le_refl, e1, e2, decide_false, cond_false, rowE_size, Nat.zero_add, beq_self_eq_true, e3]
      rw [Nat.zero_add] at e3
      rw [e3]
      rfl
  · have e : i = n := by omega
    subst e
    cases i with
    | zero =>
      refine (ra10 X o 0 ((0 : Nat) : Int)).trans ?_
      simp only [Int.lt_irrefl, decide_false, cond_false, Nat.lt_irrefl, if_false]
      rfl
    | succ m =>
      refine (rb10 X o (m + 1) (rowE X o (m + 1)) (m + 1) ((m + 1 : Nat) : Int)).trans ?_
      simp only [Int.lt_irrefl, decide_false, cond_false, Nat.lt_irrefl, if_false]
      rfl
theorem plain10 (X : Array Value) (o i : Nat) (ks : List Kept) (h : ks.length ≤ 1) : plainJ (sh10 X o i) ks 0 := by
  match ks, h with
  | [], _ => trivial
  | [.plain _], _ =>
    refine ⟨?_, trivial⟩
    cases i with
    | zero => trivial
    | succ m =>
      show (rowE X o (m + 1)).all (freeN 9) = true
      exact (rowE_plain X o (m + 1)).2.2
  | [.cells _], _ => trivial
  | [.loop _ _], _ => trivial
theorem ok10 [Z : Zone] {b : Nat} {X : Array Value} {o n : Nat} (hx : evsOk X o n = true) (hl : n ≤ nLim) :
    AWp cfg3 ⟨0, b⟩ cz b10 (frame0 10 (ntOf 10) #[VS X o n]) st0 (RowL b 2 (x10 X o n)) := by
  rw [b10_eq]
  refine AWp.nestFirst good3 (of_treeM t3_ok (p10 X o n)) trivial (Nat.zero_le _) fun fr1 s1 hS1 => ?_
  refine AWp.forSn (N := n) (sel2 := fun i => sel10 (i == 0)) (head := fun i => fr10 X o n (vl10 i) i) (sh := sh10 X o) (stop := fun i => if i < n then none else some (.exit 0, fr10 X o n (vl10 i) i, sh10 X o i))
    good3 rfl hS1 (of_treeM t3_ok (i10 X o n)) trivial (fun i hi _ => of_treeM t3_ok (q10 hx hl i hi)) (fun i hi => ?_) ⟨n, Nat.le_refl _, by simp⟩ (fun i r hi hno hr fr2 s2 hS2 => ?_)
  · split
    · rename_i r hr
      split at hr
      · cases hr
      · cases hr
        refine plain10 X o i _ ?_
        cases i <;> simp [sel10]
    · refine plain10 X o (i + 1) _ ?_
      simp [sel10]
  · split at hr
    · cases hr
    · have hin : i = n := by omega
      cases hr
      subst hin
      refine ⟨rfl, ?_⟩
      cases i with
      | zero => exact AWp.row good3 rfl hS2 (.inr rfl) (of_treeM t3_ok (ea10 X o 0 ((0 : Nat) : Int))) trivial (frS_one _ _ _) (.inr ⟨rfl, rfl⟩)
      | succ m =>
        refine AWp.row good3 rfl hS2 (.inr rfl) (of_treeM t3_ok (eb10 X o (m + 1) (rowE X o (m + 1)) (m + 1) ((m + 1 : Nat) : Int))) (plain10 X o (m + 1) [.plain 0] (by simp)) (frS_one _ _ _) (.inl ⟨m + 1, m + 1, rowE X o (m + 1), 6, true, rfl, ?_, (rowE_plain X o (m + 1)).1, (rowE_plain X o (m + 1)).2.1⟩)
        simp [stS, hpS, ro10, Tr.get_put]
def F10 : Array Value → DT (Option (Value × St))
  | ⟨[.func (.method nm) X ⟨[.slice none o n]⟩]⟩ => .must (decide (nm = "") && (evsOk X o n && decide (n ≤ nLim))) (.node (decide (n = 0)) (.leaf (some (nil0, st0))) (.leaf (some (sl0 n, st0.new (.cells (rowE X o n) 6 true))))) (.leaf none)
  | _ => .leaf none
theorem i10_fn : cfg3.fns 10 = some { body := b10, nt := ntOf 10, results := [.tmp 2], pure := false } := by kernel_rfl
theorem tells10 [Z : Zone] : Tells cfg3 10 fun a => (F10 a).eval := by
  refine tells_row good3 rfl i10_fn rfl fun args y hx => ?_
  unfold F10 at hx
  split at hx
  · rename_i nm X o n
    rw [DT.eval_must] at hx
    cases h : (decide (nm = "") && (evsOk X o n && decide (n ≤ nLim))) with
    | false => rw [h] at hx; cases hx
    | true =>
      rw [h, cond_true, DT.eval_node] at hx
      simp only [Bool.and_eq_true, decide_eq_true_eq] at h
      obtain ⟨rfl, h1, h2⟩ := h
      have hy : y = x10 X o n := by
        cases n with
        | zero => simp only [decide_true, cond_true, DT.eval_leaf] at hx; cases hx; rfl
        | succ m =>
          have : ¬ (m + 1 = 0) := by omega
          simp only [this, decide_false, cond_false, DT.eval_leaf] at hx; cases hx; rfl
      subst hy
      exact ⟨by simp [freeN], by show 1 ≤ ntOf 10; decide, fun b => ok10 h1 h2⟩
  · cases hx
end
end Go.Proofs.Ytbhemcpmklkepaa
