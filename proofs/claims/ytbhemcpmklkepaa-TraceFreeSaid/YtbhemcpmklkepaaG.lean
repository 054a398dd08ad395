/- May an event be told? The document's. -/
import Derived.Test.YtbhemcpmklkepaaF
namespace Go.Proofs.Ytbhemcpmklkepaa
open Go.Am
noncomputable section
def b19 : Code := bodyOf 19
def cN : Nat → Code → Code
  | 0, c => c
  | n + 1, c => cN n (cR c)
def pre19 : List Code := [cL b19, cL (cN 1 b19), cL (cN 2 b19), cL (cN 3 b19), cL (cN 4 b19), cL (cN 5 b19)]
def rest19 : Code := cN 6 b19
def k19 : Code := cB (cB (cR (cL rest19)))
theorem b19_eq : b19 = nest pre19 rest19 := by kernel_rfl
theorem rest19_eq : rest19 = .seq (.seq (cL (cL rest19)) (.block 0 (.loop k19))) (cR rest19) := by kernel_rfl
def jbC (J : Array Value) (k : Nat) : Array Value := ⟨[VS (ndX J k) (ndO J k) (ndL J k), VS (stX J k) (stO J k) (stL J k)]⟩
def fr19a (J : Array Value) (k : Nat) (x : Ev) : Fr := frO 19 [] [(3, (3, 0)), (5, (5, 0))] [(3, ⟨x.cells⟩), (5, jbC J k)]
def fr19 (J : Array Value) (k : Nat) (x : Ev) (i : Int) : Fr := frO 19 [(6, .int .i64 i)] [(3, (3, 0)), (5, (5, 0))] [(3, ⟨x.cells⟩), (5, jbC J k)]
def r4 (b : Bool) : Option (Ex × Fr × St) := some (.ret, frS 19 [(4, .bool b)], st0)
def m19 (J : Array Value) (k : Nat) (x : Ev) : Option (Ex × Fr × St) := bif x.kind == 10 then r4 (x.node == -1) else bif x.kind == 11 then r4 (x.node == -1) else bif decide (x.kind < 0) then r4 false else bif decide (x.kind > 7) then r4 false else some (.normal, fr19a J k x, st0)
theorem p19_k : (fun (J : Array Value) (jo jn : Nat) (x : Ev) => (codeT cfg1 (callT cfg1 t1 60) 60 cz (seqOf pre19) (frame0 19 (ntOf 19) #[VS J jo jn, x.val]) st0).evalM (gcObs 0 0 (keepR [3, 5] [4]))) = fun (J : Array Value) (jo jn : Nat) (x : Ev) => (bif decide (x.job < 1) then r4 false else bif decide (x.job > (jn : Int)) then r4 false else bif decide (x.epoch < 0) then r4 false else bif decide (0 ≤ IntKind.wrap .i64 (x.job - 1)) && decide (IntKind.wrap .i64 (x.job - 1) < (jn : Int)) then (bif decide (idxJ jo (IntKind.wrap .i64 (x.job - 1)) + 2 ≤ J.size) then (bif cellsOk J ck2 (idxJ jo (IntKind.wrap .i64 (x.job - 1))) then (bif x.kind == 0 then m19 J (idxJ jo (IntKind.wrap .i64 (x.job - 1))) x else bif x.kind == 6 then m19 J (idxJ jo (IntKind.wrap .i64 (x.job - 1))) x else bif !(x.kind == 7) then (bif decide (x.step < 0) then r4 false else bif decide (x.step ≥ (stL J (idxJ jo (IntKind.wrap .i64 (x.job - 1))) : Int)) then r4 false else m19 J (idxJ jo (IntKind.wrap .i64 (x.job - 1))) x) else m19 J (idxJ jo (IntKind.wrap .i64 (x.job - 1))) x) else none) else none) else none) := by kernel_rfl
theorem p19 (J : Array Value) (jo jn : Nat) (x : Ev) : (codeT cfg1 (callT cfg1 t1 60) 60 cz (seqOf pre19) (frame0 19 (ntOf 19) #[VS J jo jn, x.val]) st0).evalM (gcObs 0 0 (keepR [3, 5] [4])) = (bif decide (x.job < 1) then r4 false else bif decide (x.job > (jn : Int)) then r4 false else bif decide (x.epoch < 0) then r4 false else bif decide (0 ≤ IntKind.wrap .i64 (x.job - 1)) && decide (IntKind.wrap .i64 (x.job - 1) < (jn : Int)) then (bif decide (idxJ jo (IntKind.wrap .i64 (x.job - 1)) + 2 ≤ J.size) then (bif cellsOk J ck2 (idxJ jo (IntKind.wrap .i64 (x.job - 1))) then (bif x.kind == 0 then m19 J (idxJ jo (IntKind.wrap .i64 (x.job - 1))) x else bif x.kind == 6 then m19 J (idxJ jo (IntKind.wrap .i64 (x.job - 1))) x else bif !(x.kind == 7) then (bif decide (x.step < 0) then r4 false else bif decide (x.step ≥ (stL J (idxJ jo (IntKind.wrap .i64 (x.job - 1))) : Int)) then r4 false else m19 J (idxJ jo (IntKind.wrap .i64 (x.job - 1))) x) else m19 J (idxJ jo (IntKind.wrap .i64 (x.job - 1))) x) else none) else none) else none) := congrFun (congrFun (congrFun (congrFun p19_k J) jo) jn) x
theorem i19_k : (fun (J : Array Value) (k : Nat) (x : Ev) => (codeT cfg1 (callT cfg1 t1 60) 60 cz (cL (cL rest19)) (fr19a J k x) st0).evalM (gcObs 0 0 (keep [3, 5, 6]))) = fun (J : Array Value) (k : Nat) (x : Ev) => some (.normal, fr19 J k x 0, st0) := by kernel_rfl
theorem i19 (J : Array Value) (k : Nat) (x : Ev) : (codeT cfg1 (callT cfg1 t1 60) 60 cz (cL (cL rest19)) (fr19a J k x) st0).evalM (gcObs 0 0 (keep [3, 5, 6])) = some (.normal, fr19 J k x 0, st0) := congrFun (congrFun (congrFun i19_k J) k) x
theorem r19_k : (fun (J : Array Value) (k : Nat) (x : Ev) (i : Int) => (codeT cfg1 (callT cfg1 t1 60) 60 cz k19 (fr19 J k x i) st0).evalM (gcObs 0 0 (keepR [3, 5, 6] [4]))) = fun (J : Array Value) (k : Nat) (x : Ev) (i : Int) => (bif decide (i < (ndL J k : Int)) then (bif decide (0 ≤ i) && decide (i < (ndL J k : Int)) then (bif isI .i64 (ndX J k)[ndO J k + Int.toNat i * 1]? then (bif toI (ndX J k)[ndO J k + Int.toNat i * 1]? == x.node then r4 true else some (.normal, fr19 J k x (IntKind.wrap .i64 (i + 1)), st0)) else none) else none) else some (.exit 0, fr19 J k x i, st0)) := by kernel_rfl
theorem r19 (J : Array Value) (k : Nat) (x : Ev) (i : Int) : (codeT cfg1 (callT cfg1 t1 60) 60 cz k19 (fr19 J k x i) st0).evalM (gcObs 0 0 (keepR [3, 5, 6] [4])) = (bif decide (i < (ndL J k : Int)) then (bif decide (0 ≤ i) && decide (i < (ndL J k : Int)) then (bif isI .i64 (ndX J k)[ndO J k + Int.toNat i * 1]? then (bif toI (ndX J k)[ndO J k + Int.toNat i * 1]? == x.node then r4 true else some (.normal, fr19 J k x (IntKind.wrap .i64 (i + 1)), st0)) else none) else none) else some (.exit 0, fr19 J k x i, st0)) := congrFun (congrFun (congrFun (congrFun r19_k J) k) x) i
theorem e19_k : (fun (J : Array Value) (k : Nat) (x : Ev) (i : Int) => (codeT cfg1 (callT cfg1 t1 60) 60 cz (cR rest19) (fr19 J k x i) st0).evalM (gcObs 0 0 (keepR [] [4]))) = fun (J : Array Value) (k : Nat) (x : Ev) (i : Int) => r4 false := by kernel_rfl
theorem e19 (J : Array Value) (k : Nat) (x : Ev) (i : Int) : (codeT cfg1 (callT cfg1 t1 60) 60 cz (cR rest19) (fr19 J k x i) st0).evalM (gcObs 0 0 (keepR [] [4])) = r4 false := congrFun (congrFun (congrFun (congrFun e19_k J) k) x) i

theorem eqAt_comm (X : Array Value) (o : Nat) (v : Int) : eqAt X o v = fun i => toI X[o + i]? == v := by
  funext i
  unfold eqAt
  exact Bool.beq_comm
theorem idxI_some (p : Nat → Bool) (n : Nat) : decide (idxI p n ≥ 0) = (findN p n).isSome := by
  unfold idxI
  cases findN p n with
  | none => rfl
  | some i => simp
theorem one4 {v w : Value} (h : v = w) : ∀ q ∈ [((4 : Tmp), v)], (frS 19 [(4, w)]).tm.get q.1 = some q.2 := fun q hq => by
  simp only [List.mem_singleton] at hq; subst hq; rw [h]; exact frS_one _ _ _
theorem ok19n [Z : Zone] {b : Nat} {J : Array Value} {k : Nat} {x : Ev} (h : intsOk (ndX J k) (ndO J k) (ndL J k) = true) : AWp cfg1 ⟨0, b⟩ cz rest19 (fr19a J k x) st0 (RetL [(4, .bool (hasNode J k x.node))]) := by
  have hn := intsOk_n h
  rw [rest19_eq]
  have hres : hasNode J k x.node = (findN (fun i => toI (ndX J k)[ndO J k + i]? == x.node) (ndL J k)).isSome := by
    unfold hasNode
    rw [eqAt_comm, idxI_some]
  rw [hres]
  refine AWp.search (N := ndL J k) (p := fun i => toI (ndX J k)[ndO J k + i]? == x.node) (res := fun q => [(4, .bool q.isSome)]) (head := fun i => fr19 J k x i) (sh := fun _ => st0) (found := fun i => (frS 19 [(4, .bool true)], st0)) (fe := fr19 J k x (ndL J k)) (se := st0)
    good1 rfl (fun _ => pl1 rfl) (of_treeM t1_ok (i19 J k x)) (fun i hlt => ?_) (of_treeM t1_ok ((r19 J k x (ndL J k)).trans ?_)) trivial (fun _ => trivial) (fun _ => trivial) trivial
    (fun i _ => one4 rfl) (fun Z' => AWp.done good1 (pl1 rfl) (.inr rfl) (of_treeM t1_ok (e19 J k x (ndL J k))) trivial (one4 rfl))
  · have h1 := intsOk_get h hlt
    have hw := wrap_nat (i := i) (by omega)
    have hi0 : (0 : Int) ≤ i := by omega
    have hr := r19 J k x i
    simp only [hlt, Int.ofNat_lt, hi0, decide_true, Bool.and_true, cond_true, Int.toNat_natCast, Nat.mul_one, h1] at hr
    cases hq : (toI (ndX J k)[ndO J k + i]? == x.node) with
    | true =>
      rw [hq] at hr
      exact of_treeM t1_ok hr
    | false =>
      rw [hq, cond_false, hw] at hr
      exact of_treeM t1_ok hr
  · simp only [Int.lt_irrefl, decide_false, cond_false]
theorem ok19 [Z : Zone] {b : Nat} {J : Array Value} {jo jn : Nat} {x : Ev} (h : jobsOk J jo jn = true) : AWp cfg1 ⟨0, b⟩ cz b19 (frame0 19 (ntOf 19) #[VS J jo jn, x.val]) st0 (RetL [(4, .bool (toldB J jo jn x))]) := by
  have hn := jobsOk_n h
  have hp := p19 J jo jn x
  rw [b19_eq]
  have early : ∀ {c : Bool}, (codeT cfg1 (callT cfg1 t1 60) 60 cz (seqOf pre19) (frame0 19 (ntOf 19) #[VS J jo jn, x.val]) st0).evalM (gcObs 0 0 (keepR [3, 5] [4])) = r4 c → toldB J jo jn x = c → AWp cfg1 ⟨0, b⟩ cz (nest pre19 rest19) (frame0 19 (ntOf 19) #[VS J jo jn, x.val]) st0 (RetL [(4, .bool (toldB J jo jn x))]) := fun h1 h2 =>
    AWp.nestEarly good1 (pl1 rfl) (of_treeM t1_ok h1) trivial (one4 (by rw [h2]))
  unfold toldB at early ⊢
  by_cases h1 : x.job < 1
  · exact early (c := false) (hp.trans (by simp [h1])) (by simp [h1])
  · by_cases h2 : x.job > jn
    · exact early (c := false) (hp.trans (by simp [h1, h2])) (by simp [h1, h2])
    · by_cases h3 : x.epoch < 0
      · exact early (c := false) (hp.trans (by simp [h1, h2, h3])) (by simp [h1, h2, h3])
      · have hw := wrap_sub (a := x.job) (n := jn) (by omega) (by omega) hn
        have hk : (x.job - 1).toNat < jn := by omega
        obtain ⟨g1, g2, g3, _⟩ := jobsOk_get h hk
        have g4 : (0 : Int) ≤ x.job - 1 := by omega
        have g5 : x.job - 1 < jn := by omega
        rw [hw] at hp
        have e0 : idxJ jo (x.job - 1) = jobK jo x.job := rfl
        rw [e0] at hp
        have g2' : jobK jo x.job + 2 ≤ J.size := g2
        have g1' : cellsOk J ck2 (jobK jo x.job) = true := g1
        simp only [h1, h2, h3, g4, g5, g1', g2', decide_false, decide_true, cond_false, cond_true, Bool.and_true, or_self, if_false] at hp early ⊢
        -- what is behind the check of the step
        have main : (codeT cfg1 (callT cfg1 t1 60) 60 cz (seqOf pre19) (frame0 19 (ntOf 19) #[VS J jo jn, x.val]) st0).evalM (gcObs 0 0 (keepR [3, 5] [4])) = m19 J (jobK jo x.job) x → ¬ (whole x.kind = false ∧ (x.step < 0 ∨ x.step ≥ (stL J (jobK jo x.job) : Int))) → AWp cfg1 ⟨0, b⟩ cz (nest pre19 rest19) (frame0 19 (ntOf 19) #[VS J jo jn, x.val]) st0
            (RetL [(4, .bool (if whole x.kind = false ∧ (x.step < 0 ∨ x.step ≥ (stL J (jobK jo x.job) : Int)) then false else if x.kind = 10 ∨ x.kind = 11 then x.node == -1 else decide (0 ≤ x.kind ∧ x.kind ≤ 7) && hasNode J (jobK jo x.job) x.node))]) := fun hm hs => by
          simp only [if_neg hs] at early ⊢
          unfold m19 at hm
          by_cases k1 : x.kind = 10
          · exact early (c := x.node == -1) (hm.trans (by simp [k1])) (by simp [k1])
          · by_cases k2 : x.kind = 11
            · exact early (c := x.node == -1) (hm.trans (by simp [k2])) (by simp [k2])
            · have b1 : (x.kind == 10) = false := by simpa using k1
              have b2 : (x.kind == 11) = false := by simpa using k2
              by_cases k3 : x.kind < 0
              · exact early (c := false) (hm.trans (by simp [b1, b2, k3])) (by simp [k1, k2]; omega)
              · by_cases k4 : x.kind > 7
                · exact early (c := false) (hm.trans (by simp [b1, b2, k3, k4])) (by simp [k1, k2]; omega)
                · simp only [b1, b2, k3, k4, decide_false, cond_false] at hm
                  have k5 : decide (0 ≤ x.kind ∧ x.kind ≤ 7) = true := by simp; omega
                  simp only [k1, k2, or_self, if_false, k5, Bool.true_and]
                  exact AWp.nestRet good1 rfl (pl1 rfl) (of_treeM t1_ok hm) trivial (ok19n g3)
        by_cases w1 : x.kind = 0
        · exact main (hp.trans (by simp [w1])) (by simp [w1, whole])
        · by_cases w2 : x.kind = 6
          · exact main (hp.trans (by simp [w2])) (by simp [w2, whole])
          · by_cases w3 : x.kind = 7
            · exact main (hp.trans (by simp [w3])) (by simp [w3, whole])
            · have b1 : (x.kind == 0) = false := by simpa using w1
              have b2 : (x.kind == 6) = false := by simpa using w2
              have b3 : (x.kind == 7) = false := by simpa using w3
              have hw' : whole x.kind = false := by simp [whole, b1, b2, b3]
              simp only [b1, b2, b3, cond_false, Bool.not_false, cond_true] at hp
              by_cases s1 : x.step < 0
              · exact early (c := false) (hp.trans (by simp [s1])) (by simp [hw', s1])
              · by_cases s2 : x.step ≥ (stL J (jobK jo x.job) : Int)
                · exact early (c := false) (hp.trans (by simp [s1, s2])) (by simp [hw', s2])
                · exact main (hp.trans (by simp [s1, s2])) (by simp [s1, s2])
def F19 : Array Value → DT (Option (Value × St)) := F17
theorem i19_fn : cfg1.fns 19 = some { body := b19, nt := ntOf 19, results := [.tmp 4], pure := false } := by kernel_rfl
theorem tells19 [Z : Zone] : Tells cfg1 19 fun a => (F19 a).eval := by
  refine tells_one good1 rfl i19_fn rfl fun args y hx => ?_
  unfold F19 F17 at hx
  split at hx
  · rename_i nm J jo jn x0 x1 x2 x3 x4 x5
    rw [DT.eval_must] at hx
    cases h : (decide (nm = "") && jobsOk J jo jn) with
    | false => rw [h] at hx; cases hx
    | true =>
      rw [h, cond_true, DT.eval_leaf] at hx
      cases hx
      simp only [Bool.and_eq_true, decide_eq_true_eq] at h
      obtain ⟨rfl, h⟩ := h
      exact ⟨by simp [freeN], by show 2 ≤ 79; omega, _, rfl, rfl, fun b => ok19 (x := ⟨x0, x1, x2, x3, x4, x5⟩) h⟩
  · cases hx
end
end Go.Proofs.Ytbhemcpmklkepaa
