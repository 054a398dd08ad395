/- How many cores a node's steps have: both. -/
import Derived.Test.YtbhemcpmklkepaaG
namespace Go.Proofs.Ytbhemcpmklkepaa
open Go.Am
noncomputable section
def T2 : FuncId → Option (Array Value → DT (Option (Value × St)))
  | 17 => some F17
  | 19 => some F19
  | _ => none
def cfg2 : Cfg := cfg1.told T2
def t2 : FuncId → Option HandT := treeT T2 t1
theorem good2 [Z : Zone] (B : Base) : Go.Am.Good cfg2 B := tells_good good1 (fun f F h => by
  unfold T2 at h
  split at h
  · cases h; exact ⟨⟨_, i17_fn⟩, tells17⟩
  · cases h; exact ⟨⟨_, i19_fn⟩, tells19⟩
  · cases h) B
theorem t2_ok : ∀ f k hd, t2 f = some k → cfg2.hand f = some hd → ∀ a c s, (k a c s).eval = hd a c s := treeT_ok t1_ok
def b9 : Code := bodyOf 9
def k9 : Code := cB (cB (cR (cL (cN 2 b9))))
theorem b9_eq : b9 = .seq (cL b9) (.seq (cL (cN 1 b9)) (.seq (.seq (cL (cL (cN 2 b9))) (.block 0 (.loop k9))) (cN 3 b9))) := by kernel_rfl
def fr9 (J : Array Value) (jo jn : Nat) (X : Array Value) (o n : Nat) (nd acc i : Int) : Fr := frS 9 [(0, VS J jo jn), (1, VS X o n), (2, .int .i64 nd), (7, .int .i64 acc), (11, VS X o n), (12, nI n), (13, .int .i64 i)]
def b11 : Code := bodyOf 11
def k11 : Code := cB (cB (cR (cL (cN 2 b11))))
theorem b11_eq : b11 = .seq (cL b11) (.seq (cL (cN 1 b11)) (.seq (.seq (cL (cL (cN 2 b11))) (.block 0 (.loop k11))) (cN 3 b11))) := by kernel_rfl
def fr11 (J : Array Value) (jo jn : Nat) (X : Array Value) (o n : Nat) (nd acc i : Int) : Fr := frS 11 [(0, VS J jo jn), (1, VS X o n), (2, .int .i64 nd), (7, .int .i64 acc), (8, .int .i64 i)]
def eA (X : Array Value) (o : Nat) (i : Int) : Ev := evAt X (o + Int.toNat i * 6)
def jA (jo : Nat) (E : Ev) : Nat := jo + Int.toNat (IntKind.wrap .i64 (E.job - 1)) * 2
def sA (J : Array Value) (jo : Nat) (E : Ev) : Nat := stO J (jA jo E) + Int.toNat E.step * 5
def rpA (J : Array Value) (jo : Nat) (E : Ev) : Int := IntKind.wrap .i64 (toI (stX J (jA jo E))[sA J jo E]? * toI (stX J (jA jo E))[sA J jo E + 1]?)
def N11 (J : Array Value) (jo jn : Nat) (X : Array Value) (o n : Nat) (nd acc i : Int) : Option (Ex × Fr × St) := some (.normal, fr11 J jo jn X o n nd acc (IntKind.wrap .i64 (i + 1)), st0)
def N9 (J : Array Value) (jo jn : Nat) (X : Array Value) (o n : Nat) (nd acc i : Int) : Option (Ex × Fr × St) := some (.normal, fr9 J jo jn X o n nd acc (IntKind.wrap .i64 (i + 1)), st0)
/-- A step's cores are looked up, and added. -/
def lkA (J : Array Value) (jo jn : Nat) (E : Ev) (acc : Int) (K : Int → Option (Ex × Fr × St)) : Option (Ex × Fr × St) := bif decide (0 ≤ IntKind.wrap .i64 (E.job - 1)) && decide (IntKind.wrap .i64 (E.job - 1) < (jn : Int)) then (bif isV J[jA jo E + 1]? then (bif decide (0 ≤ E.step) && decide (E.step < (stL J (jA jo E) : Int)) then (bif decide (sA J jo E + 5 ≤ (stX J (jA jo E)).size) then (bif cellsOk (stX J (jA jo E)) ck5 (sA J jo E) then K (IntKind.wrap .i64 (acc + rpA J jo E)) else none) else none) else none) else none) else none
theorem s11_k : (fun (J : Array Value) (jo jn : Nat) (X : Array Value) (o n : Nat) (nd : Int) => (codeT cfg2 (callT cfg2 t2 60) 60 cz (seqOf [cL b11, cL (cN 1 b11)]) (frame0 11 (ntOf 11) #[VS J jo jn, VS X o n, .int .i64 nd]) st0).evalM (gcObs 0 0 (keep [0, 1, 2, 7]))) = fun (J : Array Value) (jo jn : Nat) (X : Array Value) (o n : Nat) (nd : Int) => some (.normal, frS 11 [(0, VS J jo jn), (1, VS X o n), (2, .int .i64 nd), (7, .int .i64 0)], st0) := by kernel_rfl
theorem s11 (J : Array Value) (jo jn : Nat) (X : Array Value) (o n : Nat) (nd : Int) : (codeT cfg2 (callT cfg2 t2 60) 60 cz (seqOf [cL b11, cL (cN 1 b11)]) (frame0 11 (ntOf 11) #[VS J jo jn, VS X o n, .int .i64 nd]) st0).evalM (gcObs 0 0 (keep [0, 1, 2, 7])) = some (.normal, frS 11 [(0, VS J jo jn), (1, VS X o n), (2, .int .i64 nd), (7, .int .i64 0)], st0) := congrFun (congrFun (congrFun (congrFun (congrFun (congrFun (congrFun s11_k J) jo) jn) X) o) n) nd
theorem i11_k : (fun (J : Array Value) (jo jn : Nat) (X : Array Value) (o n : Nat) (nd : Int) => (codeT cfg2 (callT cfg2 t2 60) 60 cz (cL (cL (cN 2 b11))) (frS 11 [(0, VS J jo jn), (1, VS X o n), (2, .int .i64 nd), (7, .int .i64 0)]) st0).evalM (gcObs 0 0 (keep [0, 1, 2, 7, 8]))) = fun (J : Array Value) (jo jn : Nat) (X : Array Value) (o n : Nat) (nd : Int) => some (.normal, fr11 J jo jn X o n nd 0 0, st0) := by kernel_rfl
theorem i11 (J : Array Value) (jo jn : Nat) (X : Array Value) (o n : Nat) (nd : Int) : (codeT cfg2 (callT cfg2 t2 60) 60 cz (cL (cL (cN 2 b11))) (frS 11 [(0, VS J jo jn), (1, VS X o n), (2, .int .i64 nd), (7, .int .i64 0)]) st0).evalM (gcObs 0 0 (keep [0, 1, 2, 7, 8])) = some (.normal, fr11 J jo jn X o n nd 0 0, st0) := congrFun (congrFun (congrFun (congrFun (congrFun (congrFun (congrFun i11_k J) jo) jn) X) o) n) nd
theorem r11_k : (fun (J : Array Value) (jo jn : Nat) (X : Array Value) (o n : Nat) (nd acc i : Int) => (codeT cfg2 (callT cfg2 t2 60) 60 cz k11 (fr11 J jo jn X o n nd acc i) st0).evalM (gcObs 0 0 (keep [0, 1, 2, 7, 8]))) = fun (J : Array Value) (jo jn : Nat) (X : Array Value) (o n : Nat) (nd acc i : Int) => (bif decide (i < (n : Int)) then (bif decide (0 ≤ i) && decide (i < (n : Int)) then (bif decide (o + Int.toNat i * 6 + 6 ≤ X.size) then (bif cellsOk X ev6 (o + Int.toNat i * 6) then (bif (eA X o i).kind != 1 then N11 J jo jn X o n nd acc i else bif (eA X o i).node != nd then N11 J jo jn X o n nd acc i else bif jobsOk J jo jn then (bif !toldB J jo jn (eA X o i) then N11 J jo jn X o n nd acc i else bif decide (0 ≤ IntKind.wrap .i64 (i + 1)) then (bif decide (Int.toNat (IntKind.wrap .i64 (i + 1)) ≤ n) && decide (n ≤ n) then (bif evsOk X (o + Int.toNat (IntKind.wrap .i64 (i + 1)) * 6) (n - Int.toNat (IntKind.wrap .i64 (i + 1))) then (bif decide (seenI X (o + Int.toNat (IntKind.wrap .i64 (i + 1)) * 6) (n - Int.toNat (IntKind.wrap .i64 (i + 1))) 4 (eA X o i) < 0) then (bif evsOk X (o + Int.toNat (IntKind.wrap .i64 (i + 1)) * 6) (n - Int.toNat (IntKind.wrap .i64 (i + 1))) then (bif decide (seenI X (o + Int.toNat (IntKind.wrap .i64 (i + 1)) * 6) (n - Int.toNat (IntKind.wrap .i64 (i + 1))) 5 (eA X o i) < 0) then lkA J jo jn (eA X o i) acc (fun a => N11 J jo jn X o n nd a i) else N11 J jo jn X o n nd acc i) else none) else N11 J jo jn X o n nd acc i) else none) else none) else none) else none) else none) else none) else none) else some (.exit 0, fr11 J jo jn X o n nd acc i, st0)) := by kernel_rfl
theorem r11 (J : Array Value) (jo jn : Nat) (X : Array Value) (o n : Nat) (nd acc i : Int) : (codeT cfg2 (callT cfg2 t2 60) 60 cz k11 (fr11 J jo jn X o n nd acc i) st0).evalM (gcObs 0 0 (keep [0, 1, 2, 7, 8])) = (bif decide (i < (n : Int)) then (bif decide (0 ≤ i) && decide (i < (n : Int)) then (bif decide (o + Int.toNat i * 6 + 6 ≤ X.size) then (bif cellsOk X ev6 (o + Int.toNat i * 6) then (bif (eA X o i).kind != 1 then N11 J jo jn X o n nd acc i else bif (eA X o i).node != nd then N11 J jo jn X o n nd acc i else bif jobsOk J jo jn then (bif !toldB J jo jn (eA X o i) then N11 J jo jn X o n nd acc i else bif decide (0 ≤ IntKind.wrap .i64 (i + 1)) then (bif decide (Int.toNat (IntKind.wrap .i64 (i + 1)) ≤ n) && decide (n ≤ n) then (bif evsOk X (o + Int.toNat (IntKind.wrap .i64 (i + 1)) * 6) (n - Int.toNat (IntKind.wrap .i64 (i + 1))) then (bif decide (seenI X (o + Int.toNat (IntKind.wrap .i64 (i + 1)) * 6) (n - Int.toNat (IntKind.wrap .i64 (i + 1))) 4 (eA X o i) < 0) then (bif evsOk X (o + Int.toNat (IntKind.wrap .i64 (i + 1)) * 6) (n - Int.toNat (IntKind.wrap .i64 (i + 1))) then (bif decide (seenI X (o + Int.toNat (IntKind.wrap .i64 (i + 1)) * 6) (n - Int.toNat (IntKind.wrap .i64 (i + 1))) 5 (eA X o i) < 0) then lkA J jo jn (eA X o i) acc (fun a => N11 J jo jn X o n nd a i) else N11 J jo jn X o n nd acc i) else none) else N11 J jo jn X o n nd acc i) else none) else none) else none) else none) else none) else none) else none) else some (.exit 0, fr11 J jo jn X o n nd acc i, st0)) := congrFun (congrFun (congrFun (congrFun (congrFun (congrFun (congrFun (congrFun (congrFun r11_k J) jo) jn) X) o) n) nd) acc) i
theorem e11_k : (fun (J : Array Value) (jo jn : Nat) (X : Array Value) (o n : Nat) (nd acc i : Int) => (codeT cfg2 (callT cfg2 t2 60) 60 cz (cN 3 b11) (fr11 J jo jn X o n nd acc i) st0).evalM (gcObs 0 0 (keepR [] [6]))) = fun (J : Array Value) (jo jn : Nat) (X : Array Value) (o n : Nat) (nd acc i : Int) => some (.ret, frS 11 [(6, .int .i64 acc)], st0) := by kernel_rfl
theorem e11 (J : Array Value) (jo jn : Nat) (X : Array Value) (o n : Nat) (nd acc i : Int) : (codeT cfg2 (callT cfg2 t2 60) 60 cz (cN 3 b11) (fr11 J jo jn X o n nd acc i) st0).evalM (gcObs 0 0 (keepR [] [6])) = some (.ret, frS 11 [(6, .int .i64 acc)], st0) := congrFun (congrFun (congrFun (congrFun (congrFun (congrFun (congrFun (congrFun (congrFun e11_k J) jo) jn) X) o) n) nd) acc) i
theorem s9_k : (fun (J : Array Value) (jo jn : Nat) (X : Array Value) (o n : Nat) (nd : Int) => (codeT cfg2 (callT cfg2 t2 60) 60 cz (seqOf [cL b9, cL (cN 1 b9)]) (frame0 9 (ntOf 9) #[VS J jo jn, VS X o n, .int .i64 nd]) st0).evalM (gcObs 0 0 (keep [0, 1, 2, 7]))) = fun (J : Array Value) (jo jn : Nat) (X : Array Value) (o n : Nat) (nd : Int) => some (.normal, frS 9 [(0, VS J jo jn), (1, VS X o n), (2, .int .i64 nd), (7, .int .i64 0)], st0) := by kernel_rfl
theorem s9 (J : Array Value) (jo jn : Nat) (X : Array Value) (o n : Nat) (nd : Int) : (codeT cfg2 (callT cfg2 t2 60) 60 cz (seqOf [cL b9, cL (cN 1 b9)]) (frame0 9 (ntOf 9) #[VS J jo jn, VS X o n, .int .i64 nd]) st0).evalM (gcObs 0 0 (keep [0, 1, 2, 7])) = some (.normal, frS 9 [(0, VS J jo jn), (1, VS X o n), (2, .int .i64 nd), (7, .int .i64 0)], st0) := congrFun (congrFun (congrFun (congrFun (congrFun (congrFun (congrFun s9_k J) jo) jn) X) o) n) nd
theorem i9_k : (fun (J : Array Value) (jo jn : Nat) (X : Array Value) (o n : Nat) (nd : Int) => (codeT cfg2 (callT cfg2 t2 60) 60 cz (cL (cL (cN 2 b9))) (frS 9 [(0, VS J jo jn), (1, VS X o n), (2, .int .i64 nd), (7, .int .i64 0)]) st0).evalM (gcObs 0 0 (keep [0, 1, 2, 7, 11, 12, 13]))) = fun (J : Array Value) (jo jn : Nat) (X : Array Value) (o n : Nat) (nd : Int) => some (.normal, fr9 J jo jn X o n nd 0 0, st0) := by kernel_rfl
theorem i9 (J : Array Value) (jo jn : Nat) (X : Array Value) (o n : Nat) (nd : Int) : (codeT cfg2 (callT cfg2 t2 60) 60 cz (cL (cL (cN 2 b9))) (frS 9 [(0, VS J jo jn), (1, VS X o n), (2, .int .i64 nd), (7, .int .i64 0)]) st0).evalM (gcObs 0 0 (keep [0, 1, 2, 7, 11, 12, 13])) = some (.normal, fr9 J jo jn X o n nd 0 0, st0) := congrFun (congrFun (congrFun (congrFun (congrFun (congrFun (congrFun i9_k J) jo) jn) X) o) n) nd
theorem r9_k : (fun (J : Array Value) (jo jn : Nat) (X : Array Value) (o n : Nat) (nd acc i : Int) => (codeT cfg2 (callT cfg2 t2 60) 60 cz k9 (fr9 J jo jn X o n nd acc i) st0).evalM (gcObs 0 0 (keep [0, 1, 2, 7, 11, 12, 13]))) = fun (J : Array Value) (jo jn : Nat) (X : Array Value) (o n : Nat) (nd acc i : Int) => (bif decide (i < (n : Int)) then (bif decide (0 ≤ i) && decide (i < (n : Int)) then (bif decide (o + Int.toNat i * 6 + 6 ≤ X.size) then (bif cellsOk X ev6 (o + Int.toNat i * 6) then (bif (eA X o i).kind != 1 then N9 J jo jn X o n nd acc i else bif (eA X o i).node != nd then N9 J jo jn X o n nd acc i else bif jobsOk J jo jn then (bif !toldB J jo jn (eA X o i) then N9 J jo jn X o n nd acc i else bif decide (0 ≤ IntKind.wrap .i64 (i + 1)) then (bif decide (Int.toNat (IntKind.wrap .i64 (i + 1)) ≤ n) && decide (n ≤ n) then (bif evsOk X (o + Int.toNat (IntKind.wrap .i64 (i + 1)) * 6) (n - Int.toNat (IntKind.wrap .i64 (i + 1))) then (bif hasE X (o + Int.toNat (IntKind.wrap .i64 (i + 1)) * 6) (n - Int.toNat (IntKind.wrap .i64 (i + 1))) 4 (eA X o i) then N9 J jo jn X o n nd acc i else (bif evsOk X (o + Int.toNat (IntKind.wrap .i64 (i + 1)) * 6) (n - Int.toNat (IntKind.wrap .i64 (i + 1))) then (bif hasE X (o + Int.toNat (IntKind.wrap .i64 (i + 1)) * 6) (n - Int.toNat (IntKind.wrap .i64 (i + 1))) 5 (eA X o i) then N9 J jo jn X o n nd acc i else lkA J jo jn (eA X o i) acc (fun a => N9 J jo jn X o n nd a i)) else none)) else none) else none) else none) else none) else none) else none) else none) else some (.exit 0, fr9 J jo jn X o n nd acc i, st0)) := by kernel_rfl
theorem r9 (J : Array Value) (jo jn : Nat) (X : Array Value) (o n : Nat) (nd acc i : Int) : (codeT cfg2 (callT cfg2 t2 60) 60 cz k9 (fr9 J jo jn X o n nd acc i) st0).evalM (gcObs 0 0 (keep [0, 1, 2, 7, 11, 12, 13])) = (bif decide (i < (n : Int)) then (bif decide (0 ≤ i) && decide (i < (n : Int)) then (bif decide (o + Int.toNat i * 6 + 6 ≤ X.size) then (bif cellsOk X ev6 (o + Int.toNat i * 6) then (bif (eA X o i).kind != 1 then N9 J jo jn X o n nd acc i else bif (eA X o i).node != nd then N9 J jo jn X o n nd acc i else bif jobsOk J jo jn then (bif !toldB J jo jn (eA X o i) then N9 J jo jn X o n nd acc i else bif decide (0 ≤ IntKind.wrap .i64 (i + 1)) then (bif decide (Int.toNat (IntKind.wrap .i64 (i + 1)) ≤ n) && decide (n ≤ n) then (bif evsOk X (o + Int.toNat (IntKind.wrap .i64 (i + 1)) * 6) (n - Int.toNat (IntKind.wrap .i64 (i + 1))) then (bif hasE X (o + Int.toNat (IntKind.wrap .i64 (i + 1)) * 6) (n - Int.toNat (IntKind.wrap .i64 (i + 1))) 4 (eA X o i) then N9 J jo jn X o n nd acc i else (bif evsOk X (o + Int.toNat (IntKind.wrap .i64 (i + 1)) * 6) (n - Int.toNat (IntKind.wrap .i64 (i + 1))) then (bif hasE X (o + Int.toNat (IntKind.wrap .i64 (i + 1)) * 6) (n - Int.toNat (IntKind.wrap .i64 (i + 1))) 5 (eA X o i) then N9 J jo jn X o n nd acc i else lkA J jo jn (eA X o i) acc (fun a => N9 J jo jn X o n nd a i)) else none)) else none) else none) else none) else none) else none) else none) else none) else some (.exit 0, fr9 J jo jn X o n nd acc i, st0)) := congrFun (congrFun (congrFun (congrFun (congrFun (congrFun (congrFun (congrFun (congrFun r9_k J) jo) jn) X) o) n) nd) acc) i
theorem e9_k : (fun (J : Array Value) (jo jn : Nat) (X : Array Value) (o n : Nat) (nd acc i : Int) => (codeT cfg2 (callT cfg2 t2 60) 60 cz (cN 3 b9) (fr9 J jo jn X o n nd acc i) st0).evalM (gcObs 0 0 (keepR [] [6]))) = fun (J : Array Value) (jo jn : Nat) (X : Array Value) (o n : Nat) (nd acc i : Int) => some (.ret, frS 9 [(6, .int .i64 acc)], st0) := by kernel_rfl
theorem e9 (J : Array Value) (jo jn : Nat) (X : Array Value) (o n : Nat) (nd acc i : Int) : (codeT cfg2 (callT cfg2 t2 60) 60 cz (cN 3 b9) (fr9 J jo jn X o n nd acc i) st0).evalM (gcObs 0 0 (keepR [] [6])) = some (.ret, frS 9 [(6, .int .i64 acc)], st0) := congrFun (congrFun (congrFun (congrFun (congrFun (congrFun (congrFun (congrFun (congrFun e9_k J) jo) jn) X) o) n) nd) acc) i

theorem evsOk_drop {X : Array Value} {o n k : Nat} (h : evsOk X o n = true) (hk : k ≤ n) : evsOk X (o + k * 6) (n - k) = true := by
  simp only [evsOk, Bool.and_eq_true, List.all_eq_true, List.mem_range, decide_eq_true_eq] at h ⊢
  obtain ⟨h1, h2, h3⟩ := h
  refine ⟨by omega, by omega, fun i hi => ?_⟩
  have := h3 (k + i) (by omega)
  rw [show o + k * 6 + i * 6 = o + (k + i) * 6 by omega]
  exact this
theorem seenI_neg (X : Array Value) (o n : Nat) (k : Int) (x : Ev) : decide (seenI X o n k x < 0) = !hasE X o n k x := by
  unfold seenI hasE
  cases firstN X o n k x with
  | none => rfl
  | some i =>
    have : ¬ ((optI (some i)) < 0) := by simp [optI]
    simp [this]
theorem told_in {J : Array Value} {jo jn : Nat} {E : Ev} (h : toldB J jo jn E = true) (hw : whole E.kind = false) : 1 ≤ E.job ∧ E.job ≤ jn ∧ 0 ≤ E.step ∧ E.step < (stL J (jobK jo E.job) : Int) := by
  unfold toldB at h
  split at h
  · cases h
  · rename_i h1
    split at h
    · cases h
    · rename_i h2
      have h3 : ¬ (E.step < 0 ∨ E.step ≥ (stL J (jobK jo E.job) : Int)) := fun x => h2 ⟨hw, x⟩
      omega
theorem lkA_eq {J : Array Value} {jo jn : Nat} {E : Ev} {acc : Int} {K : Int → Option (Ex × Fr × St)} (hj : jobsOk J jo jn = true) (h : toldB J jo jn E = true) (hw : whole E.kind = false) : lkA J jo jn E acc K = K (IntKind.wrap .i64 (acc + rpA J jo E)) := by
  obtain ⟨h1, h2, h3, h4⟩ := told_in h hw
  have hn := jobsOk_n hj
  have hwr := wrap_sub (a := E.job) (n := jn) (by omega) (by omega) hn
  obtain ⟨g1, g2, _, g4⟩ := jobsOk_get hj (i := (E.job - 1).toNat) (by omega)
  have e0 : jA jo E = jobK jo E.job := by unfold jA jobK; rw [hwr]
  have g1' : cellsOk J ck2 (jobK jo E.job) = true := g1
  have hv : isV J[jobK jo E.job + 1]? = true := by
    have : (isV J[jobK jo E.job]? && (isV J[jobK jo E.job + 1]? && true)) = true := g1'
    simp only [Bool.and_eq_true] at this
    exact this.2.1
  have g4' : stepsOk (stX J (jobK jo E.job)) (stO J (jobK jo E.job)) (stL J (jobK jo E.job)) = true := g4
  obtain ⟨s1, s2, _⟩ := stepsOk_get g4' (i := E.step.toNat) (by omega)
  have es : sA J jo E = stO J (jobK jo E.job) + E.step.toNat * 5 := by unfold sA; rw [e0]
  unfold lkA
  rw [e0, es, hwr, hv, s1]
  have d1 : (0 : Int) ≤ E.job - 1 := by omega
  have d2 : E.job - 1 < (jn : Int) := by omega
  simp only [d1, d2, h3, h4, s2, decide_true, Bool.and_true, cond_true]
/-- Has an event's step its cores behind the ones that follow? -/
def cndA (J : Array Value) (jo jn : Nat) (X : Array Value) (o n : Nat) (nd : Int) (i : Nat) : Bool := (evAt X (o + i * 6)).kind == 1 && ((evAt X (o + i * 6)).node == nd && (toldB J jo jn (evAt X (o + i * 6)) && (!hasE X (o + (i + 1) * 6) (n - (i + 1)) 4 (evAt X (o + i * 6)) && !hasE X (o + (i + 1) * 6) (n - (i + 1)) 5 (evAt X (o + i * 6)))))
def accA (J : Array Value) (jo jn : Nat) (X : Array Value) (o n : Nat) (nd : Int) : Nat → Int
  | 0 => 0
  | i + 1 => bif cndA J jo jn X o n nd i then IntKind.wrap .i64 (accA J jo jn X o n nd i + rpA J jo (evAt X (o + i * 6))) else accA J jo jn X o n nd i
theorem whole1 {k : Int} (h : (k == 1) = true) : whole k = false := by
  have : k = 1 := by simpa using h
  subst this
  rfl
theorem q11 {J : Array Value} {jo jn : Nat} {X : Array Value} {o n : Nat} {nd : Int} (hj : jobsOk J jo jn = true) (hx : evsOk X o n = true) (i : Nat) (hi : i ≤ n) :
    (codeT cfg2 (callT cfg2 t2 60) 60 cz k11 (fr11 J jo jn X o n nd (accA J jo jn X o n nd i) i) st0).evalM (gcObs 0 0 (keep [0, 1, 2, 7, 8])) = some (match (if i < n then none else some (Ex.exit 0, fr11 J jo jn X o n nd (accA J jo jn X o n nd i) i, st0)) with | some r => r | none => (.normal, fr11 J jo jn X o n nd (accA J jo jn X o n nd (i + 1)) ((i + 1 : Nat) : Int), st0)) := by
  rw [r11]
  have hn := evsOk_n hx
  have hi0 : (0 : Int) ≤ i := by omega
  by_cases hlt : i < n
  · obtain ⟨h1, h2⟩ := evsOk_get hx hlt
    have hw := wrap_nat (i := i) (by omega)
    have hd := evsOk_drop hx (k := i + 1) (by omega)
    have hi1 : (0 : Int) ≤ ((i + 1 : Nat) : Int) := by omega
    have hle : i + 1 ≤ n := hlt
    simp only [hlt, if_true, Int.ofNat_lt, hi0, decide_true, Bool.and_true, cond_true, Int.toNat_natCast, h1, h2, hj, hw, hi1, hle, hd, seenI_neg, Nat.le_refl, N11, eA, accA, cndA]
    cases c1 : ((evAt X (o + i * 6)).kind == 1) with
    | false => simp only [bne, c1, Bool.not_false, cond_true, Bool.false_and, cond_false]
    | true =>
      cases c2 : ((evAt X (o + i * 6)).node == nd) with
      | false => simp only [bne, c1, c2, Bool.not_false, Bool.not_true, cond_true, Bool.false_and, Bool.true_and, cond_false]
      | true =>
        cases c3 : toldB J jo jn (evAt X (o + i * 6)) with
        | false => simp only [bne, c1, c2, Bool.not_false, Bool.not_true, cond_true, Bool.false_and, Bool.true_and, cond_false]
        | true =>
          rw [lkA_eq hj c3 (whole1 c1)]
          cases hasE X (o + (i + 1) * 6) (n - (i + 1)) 4 (evAt X (o + i * 6)) <;> cases hasE X (o + (i + 1) * 6) (n - (i + 1)) 5 (evAt X (o + i * 6)) <;> simp only [bne, c1, c2, Bool.not_false, Bool.not_true, cond_true, Bool.false_and, Bool.true_and, cond_false]
  · have e : i = n := by omega
    subst e
    simp only [Int.lt_irrefl, decide_false, cond_false, Nat.lt_irrefl, if_false]
theorem q9 {J : Array Value} {jo jn : Nat} {X : Array Value} {o n : Nat} {nd : Int} (hj : jobsOk J jo jn = true) (hx : evsOk X o n = true) (i : Nat) (hi : i ≤ n) :
    (codeT cfg2 (callT cfg2 t2 60) 60 cz k9 (fr9 J jo jn X o n nd (accA J jo jn X o n nd i) i) st0).evalM (gcObs 0 0 (keep [0, 1, 2, 7, 11, 12, 13])) = some (match (if i < n then none else some (Ex.exit 0, fr9 J jo jn X o n nd (accA J jo jn X o n nd i) i, st0)) with | some r => r | none => (.normal, fr9 J jo jn X o n nd (accA J jo jn X o n nd (i + 1)) ((i + 1 : Nat) : Int), st0)) := by
  rw [r9]
  have hn := evsOk_n hx
  have hi0 : (0 : Int) ≤ i := by omega
  by_cases hlt : i < n
  · obtain ⟨h1, h2⟩ := evsOk_get hx hlt
    have hw := wrap_nat (i := i) (by omega)
    have hd := evsOk_drop hx (k := i + 1) (by omega)
    have hi1 : (0 : Int) ≤ ((i + 1 : Nat) : Int) := by omega
    have hle : i + 1 ≤ n := hlt
    simp only [hlt, if_true, Int.ofNat_lt, hi0, decide_true, Bool.and_true, cond_true, Int.toNat_natCast, h1, h2, hj, hw, hi1, hle, hd, Nat.le_refl, N9, eA, accA, cndA]
    cases c1 : ((evAt X (o + i * 6)).kind == 1) with
    | false => simp only [bne, c1, Bool.not_false, cond_true, Bool.false_and, cond_false]
    | true =>
      cases c2 : ((evAt X (o + i * 6)).node == nd) with
      | false => simp only [bne, c1, c2, Bool.not_false, Bool.not_true, cond_true, Bool.false_and, Bool.true_and, cond_false]
      | true =>
        cases c3 : toldB J jo jn (evAt X (o + i * 6)) with
        | false => simp only [bne, c1, c2, Bool.not_false, Bool.not_true, cond_true, Bool.false_and, Bool.true_and, cond_false]
        | true =>
          rw [lkA_eq hj c3 (whole1 c1)]
          cases hasE X (o + (i + 1) * 6) (n - (i + 1)) 4 (evAt X (o + i * 6)) <;> cases hasE X (o + (i + 1) * 6) (n - (i + 1)) 5 (evAt X (o + i * 6)) <;> simp only [bne, c1, c2, Bool.not_false, Bool.not_true, cond_true, Bool.false_and, Bool.true_and, cond_false]
  · have e : i = n := by omega
    subst e
    simp only [Int.lt_irrefl, decide_false, cond_false, Nat.lt_irrefl, if_false]
theorem ok9 [Z : Zone] {b : Nat} {J : Array Value} {jo jn : Nat} {X : Array Value} {o n : Nat} {nd : Int} (hj : jobsOk J jo jn = true) (hx : evsOk X o n = true) :
    AWp cfg2 ⟨0, b⟩ cz b9 (frame0 9 (ntOf 9) #[VS J jo jn, VS X o n, .int .i64 nd]) st0 (RetL [(6, .int .i64 (accA J jo jn X o n nd n))]) := by
  have e : b9 = nest [cL b9, cL (cN 1 b9)] (.seq (.seq (cL (cL (cN 2 b9))) (.block 0 (.loop k9))) (cN 3 b9)) := b9_eq
  rw [e]
  refine AWp.nestRet good2 rfl (pl1 rfl) (of_treeM t2_ok (s9 J jo jn X o n nd)) trivial ?_
  refine AWp.forStmt (N := n) (head := fun i => fr9 J jo jn X o n nd (accA J jo jn X o n nd i) i) (sh := fun _ => st0) (stop := fun i => if i < n then none else some (.exit 0, fr9 J jo jn X o n nd (accA J jo jn X o n nd i) i, st0))
    good2 rfl (pl1 rfl) (of_treeM t2_ok (i9 J jo jn X o n nd)) trivial (sel2 := keep [0, 1, 2, 7, 11, 12, 13]) (fun i hi _ => of_treeM t2_ok (q9 hj hx i hi)) (fun i hi => ?_) ⟨n, Nat.le_refl _, by simp⟩ (fun i r hi hno hr => ?_)
  · split
    · rename_i r hr
      split at hr
      · cases hr
      · cases hr; trivial
    · trivial
  · split at hr
    · cases hr
    · have hin : i = n := by omega
      cases hr
      refine ⟨rfl, fun Z' => AWp.done good2 (pl1 rfl) (.inr rfl) (of_treeM t2_ok (e9 J jo jn X o n nd _ _)) trivial fun p hp => ?_⟩
      simp only [List.mem_singleton] at hp
      subst hp
      rw [hin]
      exact frS_one _ _ _
theorem ok11 [Z : Zone] {b : Nat} {J : Array Value} {jo jn : Nat} {X : Array Value} {o n : Nat} {nd : Int} (hj : jobsOk J jo jn = true) (hx : evsOk X o n = true) :
    AWp cfg2 ⟨0, b⟩ cz b11 (frame0 11 (ntOf 11) #[VS J jo jn, VS X o n, .int .i64 nd]) st0 (RetL [(6, .int .i64 (accA J jo jn X o n nd n))]) := by
  have e : b11 = nest [cL b11, cL (cN 1 b11)] (.seq (.seq (cL (cL (cN 2 b11))) (.block 0 (.loop k11))) (cN 3 b11)) := b11_eq
  rw [e]
  refine AWp.nestRet good2 rfl (pl1 rfl) (of_treeM t2_ok (s11 J jo jn X o n nd)) trivial ?_
  refine AWp.forStmt (N := n) (head := fun i => fr11 J jo jn X o n nd (accA J jo jn X o n nd i) i) (sh := fun _ => st0) (stop := fun i => if i < n then none else some (.exit 0, fr11 J jo jn X o n nd (accA J jo jn X o n nd i) i, st0))
    good2 rfl (pl1 rfl) (of_treeM t2_ok (i11 J jo jn X o n nd)) trivial (sel2 := keep [0, 1, 2, 7, 8]) (fun i hi _ => of_treeM t2_ok (q11 hj hx i hi)) (fun i hi => ?_) ⟨n, Nat.le_refl _, by simp⟩ (fun i r hi hno hr => ?_)
  · split
    · rename_i r hr
      split at hr
      · cases hr
      · cases hr; trivial
    · trivial
  · split at hr
    · cases hr
    · have hin : i = n := by omega
      cases hr
      refine ⟨rfl, fun Z' => AWp.done good2 (pl1 rfl) (.inr rfl) (of_treeM t2_ok (e11 J jo jn X o n nd _ _)) trivial fun p hp => ?_⟩
      simp only [List.mem_singleton] at hp
      subst hp
      rw [hin]
      exact frS_one _ _ _
/-- How many cores a node's steps have. -/
def ownI (J : Array Value) (jo jn : Nat) (X : Array Value) (o n : Nat) (nd : Int) : Int := accA J jo jn X o n nd n
def F9 : Array Value → DT (Option (Value × St))
  | ⟨[.func (.method nm) J ⟨[.slice none jo jn]⟩, .func (.method nm2) X ⟨[.slice none o n]⟩, .int .i64 nd]⟩ =>
    .must ((decide (nm = "") && jobsOk J jo jn) && (decide (nm2 = "") && evsOk X o n)) (.leaf (some (.int .i64 (ownI J jo jn X o n nd), st0))) (.leaf none)
  | _ => .leaf none
theorem i9_fn : cfg2.fns 9 = some { body := b9, nt := ntOf 9, results := [.tmp 6], pure := false } := by kernel_rfl
theorem tells9 [Z : Zone] : Tells cfg2 9 fun a => (F9 a).eval := by
  refine tells_one good2 rfl i9_fn rfl fun args y hx => ?_
  unfold F9 at hx
  split at hx
  · rename_i nm J jo jn nm2 X o n nd
    rw [DT.eval_must] at hx
    cases h : ((decide (nm = "") && jobsOk J jo jn) && (decide (nm2 = "") && evsOk X o n)) with
    | false => rw [h] at hx; cases hx
    | true =>
      rw [h, cond_true, DT.eval_leaf] at hx
      cases hx
      simp only [Bool.and_eq_true, decide_eq_true_eq] at h
      obtain ⟨⟨rfl, h1⟩, rfl, h2⟩ := h
      exact ⟨by simp [freeN], by show 3 ≤ ntOf 9; decide, _, rfl, rfl, fun b => ok9 h1 h2⟩
  · cases hx
theorem i11_fn : cfg2.fns 11 = some { body := b11, nt := ntOf 11, results := [.tmp 6], pure := false } := by kernel_rfl
theorem tells11 [Z : Zone] : Tells cfg2 11 fun a => (F9 a).eval := by
  refine tells_one good2 rfl i11_fn rfl fun args y hx => ?_
  unfold F9 at hx
  split at hx
  · rename_i nm J jo jn nm2 X o n nd
    rw [DT.eval_must] at hx
    cases h : ((decide (nm = "") && jobsOk J jo jn) && (decide (nm2 = "") && evsOk X o n)) with
    | false => rw [h] at hx; cases hx
    | true =>
      rw [h, cond_true, DT.eval_leaf] at hx
      cases hx
      simp only [Bool.and_eq_true, decide_eq_true_eq] at h
      obtain ⟨⟨rfl, h1⟩, rfl, h2⟩ := h
      exact ⟨by simp [freeN], by show 3 ≤ ntOf 11; decide, _, rfl, rfl, fun b => ok11 h1 h2⟩
  · cases hx
end
end Go.Proofs.Ytbhemcpmklkepaa
