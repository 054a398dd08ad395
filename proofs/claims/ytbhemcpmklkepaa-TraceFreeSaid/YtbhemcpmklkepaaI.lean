/- Has a job ended? Both. -/
import Derived.Test.YtbhemcpmklkepaaH
import Derived.Test.YtbhemcpmklkepaaAmFlow
namespace Go.Proofs.Ytbhemcpmklkepaa
open Go.Am
noncomputable section
def b31 : Code := bodyOf 31
def k31 : Code := cB (cB (cR (cL (cN 1 b31))))
theorem b31_eq : b31 = .seq (cL b31) (.seq (.seq (cL (cL (cN 1 b31))) (.block 0 (.loop k31))) (cN 2 b31)) := by kernel_rfl
def bx22 (X : Array Value) (o n : Nat) (job epoch : Int) : Value := .func (.func 22) #[] #[VP #[VS X o n] 0, VP #[.int .i64 job] 0, VP #[.int .i64 epoch] 0]
def fr31 (K : Array Value) (ko kn : Nat) (X : Array Value) (o n : Nat) (job epoch i : Int) : Fr := frS 31 [(0, VS K ko kn), (1, bx22 X o n job epoch), (7, nI kn), (8, .int .i64 i)]
def evE (K : Array Value) (k : Nat) (job epoch : Int) : Ev := ⟨0, toI K[k]?, job, epoch, 0, 0⟩
theorem h31_k : (fun (K : Array Value) (ko kn : Nat) (X : Array Value) (o n : Nat) (job epoch : Int) => (codeT cfg2 (callT cfg2 t2 60) 60 cz (seqOf [cL b31]) (frame0 31 (ntOf 31) #[VS K ko kn, bx22 X o n job epoch]) st0).evalM (gcObs 0 0 (keep [0, 1]))) = fun (K : Array Value) (ko kn : Nat) (X : Array Value) (o n : Nat) (job epoch : Int) => some (.normal, frS 31 [(0, VS K ko kn), (1, bx22 X o n job epoch)], st0) := by kernel_rfl
theorem h31 (K : Array Value) (ko kn : Nat) (X : Array Value) (o n : Nat) (job epoch : Int) : (codeT cfg2 (callT cfg2 t2 60) 60 cz (seqOf [cL b31]) (frame0 31 (ntOf 31) #[VS K ko kn, bx22 X o n job epoch]) st0).evalM (gcObs 0 0 (keep [0, 1])) = some (.normal, frS 31 [(0, VS K ko kn), (1, bx22 X o n job epoch)], st0) := congrFun (congrFun (congrFun (congrFun (congrFun (congrFun (congrFun (congrFun h31_k K) ko) kn) X) o) n) job) epoch
theorem i31_k : (fun (K : Array Value) (ko kn : Nat) (X : Array Value) (o n : Nat) (job epoch : Int) => (codeT cfg2 (callT cfg2 t2 60) 60 cz (cL (cL (cN 1 b31))) (frS 31 [(0, VS K ko kn), (1, bx22 X o n job epoch)]) st0).evalM (gcObs 0 0 (keep [0, 1, 7, 8]))) = fun (K : Array Value) (ko kn : Nat) (X : Array Value) (o n : Nat) (job epoch : Int) => some (.normal, fr31 K ko kn X o n job epoch 0, st0) := by kernel_rfl
theorem i31 (K : Array Value) (ko kn : Nat) (X : Array Value) (o n : Nat) (job epoch : Int) : (codeT cfg2 (callT cfg2 t2 60) 60 cz (cL (cL (cN 1 b31))) (frS 31 [(0, VS K ko kn), (1, bx22 X o n job epoch)]) st0).evalM (gcObs 0 0 (keep [0, 1, 7, 8])) = some (.normal, fr31 K ko kn X o n job epoch 0, st0) := congrFun (congrFun (congrFun (congrFun (congrFun (congrFun (congrFun (congrFun i31_k K) ko) kn) X) o) n) job) epoch
def N31 (K : Array Value) (ko kn : Nat) (X : Array Value) (o n : Nat) (job epoch i : Int) : Option (Ex × Fr × St) := some (.normal, fr31 K ko kn X o n job epoch (IntKind.wrap .i64 (i + 1)), st0)
theorem r31_k : (fun (K : Array Value) (ko kn : Nat) (X : Array Value) (o n : Nat) (job epoch i : Int) => (codeT cfg2 (callT cfg2 t2 60) 60 cz k31 (fr31 K ko kn X o n job epoch i) st0).evalM (gcObs 0 0 (keepR [0, 1, 7, 8] [4]))) = fun (K : Array Value) (ko kn : Nat) (X : Array Value) (o n : Nat) (job epoch i : Int) => (bif decide (i < (kn : Int)) then (bif decide (0 ≤ i) && decide (i < (kn : Int)) then (bif isI .i64 K[ko + Int.toNat i * 1]? then (bif evsOk X o n then (bif hasE X o n 6 (evE K (ko + Int.toNat i * 1) job epoch) then N31 K ko kn X o n job epoch i else bif evsOk X o n then (bif hasE X o n 7 (evE K (ko + Int.toNat i * 1) job epoch) then N31 K ko kn X o n job epoch i else some (.ret, frS 31 [(4, .int .i64 i)], st0)) else none) else none) else none) else none) else some (.exit 0, fr31 K ko kn X o n job epoch i, st0)) := by kernel_rfl
theorem r31 (K : Array Value) (ko kn : Nat) (X : Array Value) (o n : Nat) (job epoch i : Int) : (codeT cfg2 (callT cfg2 t2 60) 60 cz k31 (fr31 K ko kn X o n job epoch i) st0).evalM (gcObs 0 0 (keepR [0, 1, 7, 8] [4])) = (bif decide (i < (kn : Int)) then (bif decide (0 ≤ i) && decide (i < (kn : Int)) then (bif isI .i64 K[ko + Int.toNat i * 1]? then (bif evsOk X o n then (bif hasE X o n 6 (evE K (ko + Int.toNat i * 1) job epoch) then N31 K ko kn X o n job epoch i else bif evsOk X o n then (bif hasE X o n 7 (evE K (ko + Int.toNat i * 1) job epoch) then N31 K ko kn X o n job epoch i else some (.ret, frS 31 [(4, .int .i64 i)], st0)) else none) else none) else none) else none) else some (.exit 0, fr31 K ko kn X o n job epoch i, st0)) := congrFun (congrFun (congrFun (congrFun (congrFun (congrFun (congrFun (congrFun (congrFun r31_k K) ko) kn) X) o) n) job) epoch) i
theorem e31_k : (fun (K : Array Value) (ko kn : Nat) (X : Array Value) (o n : Nat) (job epoch i : Int) => (codeT cfg2 (callT cfg2 t2 60) 60 cz (cN 2 b31) (fr31 K ko kn X o n job epoch i) st0).evalM (gcObs 0 0 (keepR [] [4]))) = fun (K : Array Value) (ko kn : Nat) (X : Array Value) (o n : Nat) (job epoch i : Int) => some (.ret, frS 31 [(4, .int .i64 (-1))], st0) := by kernel_rfl
theorem e31 (K : Array Value) (ko kn : Nat) (X : Array Value) (o n : Nat) (job epoch i : Int) : (codeT cfg2 (callT cfg2 t2 60) 60 cz (cN 2 b31) (fr31 K ko kn X o n job epoch i) st0).evalM (gcObs 0 0 (keepR [] [4])) = some (.ret, frS 31 [(4, .int .i64 (-1))], st0) := congrFun (congrFun (congrFun (congrFun (congrFun (congrFun (congrFun (congrFun (congrFun e31_k K) ko) kn) X) o) n) job) epoch) i
def b13 : Code := bodyOf 13
def k13 : Code := cB (cB (cR (cL (cN 2 b13))))
theorem b13_eq : b13 = nest [cL b13, cL (cN 1 b13)] (.seq (.seq (cL (cL (cN 2 b13))) (.block 0 (.loop k13))) (cN 3 b13)) := by kernel_rfl
def fr13a (J : Array Value) (jo jn : Nat) (X : Array Value) (o n : Nat) (job epoch : Int) : Fr := frS 13 [(0, VS J jo jn), (1, VS X o n), (2, .int .i64 job), (3, .int .i64 epoch)]
def fr13 (J : Array Value) (jo jn : Nat) (X : Array Value) (o n : Nat) (job epoch i : Int) : Fr := frS 13 [(0, VS J jo jn), (1, VS X o n), (2, .int .i64 job), (3, .int .i64 epoch), (9, .int .i64 i)]
def r8 (b : Bool) : Option (Ex × Fr × St) := some (.ret, frS 13 [(8, .bool b)], st0)
theorem p13_k : (fun (J : Array Value) (jo jn : Nat) (X : Array Value) (o n : Nat) (job epoch : Int) => (codeT cfg2 (callT cfg2 t2 60) 60 cz (seqOf [cL b13, cL (cN 1 b13)]) (frame0 13 (ntOf 13) #[VS J jo jn, VS X o n, .int .i64 job, .int .i64 epoch]) st0).evalM (gcObs 0 0 (keepR [0, 1, 2, 3] [8]))) = fun (J : Array Value) (jo jn : Nat) (X : Array Value) (o n : Nat) (job epoch : Int) => (bif decide (job < 1) then r8 false else bif decide (job > (jn : Int)) then r8 false else some (.normal, fr13a J jo jn X o n job epoch, st0)) := by kernel_rfl
theorem p13 (J : Array Value) (jo jn : Nat) (X : Array Value) (o n : Nat) (job epoch : Int) : (codeT cfg2 (callT cfg2 t2 60) 60 cz (seqOf [cL b13, cL (cN 1 b13)]) (frame0 13 (ntOf 13) #[VS J jo jn, VS X o n, .int .i64 job, .int .i64 epoch]) st0).evalM (gcObs 0 0 (keepR [0, 1, 2, 3] [8])) = (bif decide (job < 1) then r8 false else bif decide (job > (jn : Int)) then r8 false else some (.normal, fr13a J jo jn X o n job epoch, st0)) := congrFun (congrFun (congrFun (congrFun (congrFun (congrFun (congrFun (congrFun p13_k J) jo) jn) X) o) n) job) epoch
theorem i13_k : (fun (J : Array Value) (jo jn : Nat) (X : Array Value) (o n : Nat) (job epoch : Int) => (codeT cfg2 (callT cfg2 t2 60) 60 cz (cL (cL (cN 2 b13))) (fr13a J jo jn X o n job epoch) st0).evalM (gcObs 0 0 (keep [0, 1, 2, 3, 9]))) = fun (J : Array Value) (jo jn : Nat) (X : Array Value) (o n : Nat) (job epoch : Int) => some (.normal, fr13 J jo jn X o n job epoch 0, st0) := by kernel_rfl
theorem i13 (J : Array Value) (jo jn : Nat) (X : Array Value) (o n : Nat) (job epoch : Int) : (codeT cfg2 (callT cfg2 t2 60) 60 cz (cL (cL (cN 2 b13))) (fr13a J jo jn X o n job epoch) st0).evalM (gcObs 0 0 (keep [0, 1, 2, 3, 9])) = some (.normal, fr13 J jo jn X o n job epoch 0, st0) := congrFun (congrFun (congrFun (congrFun (congrFun (congrFun (congrFun (congrFun i13_k J) jo) jn) X) o) n) job) epoch
def N13 (J : Array Value) (jo jn : Nat) (X : Array Value) (o n : Nat) (job epoch i : Int) : Option (Ex × Fr × St) := some (.normal, fr13 J jo jn X o n job epoch (IntKind.wrap .i64 (i + 1)), st0)
def jD (jn : Nat) (job : Int) : Bool := decide (0 ≤ IntKind.wrap .i64 (job - 1)) && decide (IntKind.wrap .i64 (job - 1) < (jn : Int))
def jW (jo : Nat) (job : Int) : Nat := jo + Int.toNat (IntKind.wrap .i64 (job - 1)) * 2
theorem r13_k : (fun (J : Array Value) (jo jn : Nat) (X : Array Value) (o n : Nat) (job epoch i : Int) => (codeT cfg2 (callT cfg2 t2 60) 60 cz k13 (fr13 J jo jn X o n job epoch i) st0).evalM (gcObs 0 0 (keepR [0, 1, 2, 3, 9] [8]))) = fun (J : Array Value) (jo jn : Nat) (X : Array Value) (o n : Nat) (job epoch i : Int) => (bif jD jn job then (bif isV J[jW jo job]? then (bif decide (i < (ndL J (jW jo job) : Int)) then (bif jD jn job then (bif isV J[jW jo job]? then (bif decide (0 ≤ i) && decide (i < (ndL J (jW jo job) : Int)) then (bif isI .i64 (ndX J (jW jo job))[ndO J (jW jo job) + Int.toNat i * 1]? then (bif evsOk X o n then (bif decide (seenI X o n 6 (evE (ndX J (jW jo job)) (ndO J (jW jo job) + Int.toNat i * 1) job epoch) < 0) then (bif evsOk X o n then (bif decide (seenI X o n 7 (evE (ndX J (jW jo job)) (ndO J (jW jo job) + Int.toNat i * 1) job epoch) < 0) then r8 false else N13 J jo jn X o n job epoch i) else none) else N13 J jo jn X o n job epoch i) else none) else none) else none) else none) else none) else some (.exit 0, fr13 J jo jn X o n job epoch i, st0)) else none) else none) := by kernel_rfl
theorem r13 (J : Array Value) (jo jn : Nat) (X : Array Value) (o n : Nat) (job epoch i : Int) : (codeT cfg2 (callT cfg2 t2 60) 60 cz k13 (fr13 J jo jn X o n job epoch i) st0).evalM (gcObs 0 0 (keepR [0, 1, 2, 3, 9] [8])) = (bif jD jn job then (bif isV J[jW jo job]? then (bif decide (i < (ndL J (jW jo job) : Int)) then (bif jD jn job then (bif isV J[jW jo job]? then (bif decide (0 ≤ i) && decide (i < (ndL J (jW jo job) : Int)) then (bif isI .i64 (ndX J (jW jo job))[ndO J (jW jo job) + Int.toNat i * 1]? then (bif evsOk X o n then (bif decide (seenI X o n 6 (evE (ndX J (jW jo job)) (ndO J (jW jo job) + Int.toNat i * 1) job epoch) < 0) then (bif evsOk X o n then (bif decide (seenI X o n 7 (evE (ndX J (jW jo job)) (ndO J (jW jo job) + Int.toNat i * 1) job epoch) < 0) then r8 false else N13 J jo jn X o n job epoch i) else none) else N13 J jo jn X o n job epoch i) else none) else none) else none) else none) else none) else some (.exit 0, fr13 J jo jn X o n job epoch i, st0)) else none) else none) := congrFun (congrFun (congrFun (congrFun (congrFun (congrFun (congrFun (congrFun (congrFun r13_k J) jo) jn) X) o) n) job) epoch) i
theorem e13_k : (fun (J : Array Value) (jo jn : Nat) (X : Array Value) (o n : Nat) (job epoch i : Int) => (codeT cfg2 (callT cfg2 t2 60) 60 cz (cN 3 b13) (fr13 J jo jn X o n job epoch i) st0).evalM (gcObs 0 0 (keepR [] [8]))) = fun (J : Array Value) (jo jn : Nat) (X : Array Value) (o n : Nat) (job epoch i : Int) => r8 true := by kernel_rfl
theorem e13 (J : Array Value) (jo jn : Nat) (X : Array Value) (o n : Nat) (job epoch i : Int) : (codeT cfg2 (callT cfg2 t2 60) 60 cz (cN 3 b13) (fr13 J jo jn X o n job epoch i) st0).evalM (gcObs 0 0 (keepR [] [8])) = r8 true := congrFun (congrFun (congrFun (congrFun (congrFun (congrFun (congrFun (congrFun (congrFun e13_k J) jo) jn) X) o) n) job) epoch) i

/-- Has a node not ended a job? -/
def opn (K : Array Value) (ko : Nat) (X : Array Value) (o n : Nat) (job epoch : Int) (i : Nat) : Bool := !hasE X o n 6 (evE K (ko + i) job epoch) && !hasE X o n 7 (evE K (ko + i) job epoch)
theorem ok31 [Z : Zone] {b : Nat} {K : Array Value} {ko kn : Nat} {X : Array Value} {o n : Nat} {job epoch : Int} (hk : intsOk K ko kn = true) (hx : evsOk X o n = true) :
    AWp cfg2 ⟨0, b⟩ cz b31 (frame0 31 (ntOf 31) #[VS K ko kn, bx22 X o n job epoch]) st0 (RetL [(4, .int .i64 (idxI (opn K ko X o n job epoch) kn))]) := by
  have hn := intsOk_n hk
  have e : b31 = nest [cL b31] (.seq (.seq (cL (cL (cN 1 b31))) (.block 0 (.loop k31))) (cN 2 b31)) := b31_eq
  rw [e]
  refine AWp.nestRet good2 rfl (pl1 rfl) (sel := keep [0, 1]) (of_treeM t2_ok (h31 K ko kn X o n job epoch)) trivial ?_
  refine AWp.search (N := kn) (p := opn K ko X o n job epoch) (res := fun q => [(4, .int .i64 (optI q))]) (head := fun i => fr31 K ko kn X o n job epoch i) (sh := fun _ => st0) (found := fun i => (frS 31 [(4, .int .i64 i)], st0)) (fe := fr31 K ko kn X o n job epoch kn) (se := st0)
    good2 rfl (fun _ => pl1 rfl) (of_treeM t2_ok (i31 K ko kn X o n job epoch)) (fun i hlt => ?_) (of_treeM t2_ok ((r31 K ko kn X o n job epoch kn).trans ?_)) trivial (fun _ => trivial) (fun _ => trivial) trivial
    (fun i _ q hq => by simp only [List.mem_singleton] at hq; subst hq; exact frS_one _ _ _) (fun Z' => AWp.done good2 (pl1 rfl) (.inr rfl) (of_treeM t2_ok (e31 K ko kn X o n job epoch kn)) trivial fun q hq => by simp only [List.mem_singleton] at hq; subst hq; exact frS_one _ _ _)
  · have h1 := intsOk_get hk hlt
    have hw := wrap_nat (i := i) (by omega)
    have hi0 : (0 : Int) ≤ i := by omega
    have hr := r31 K ko kn X o n job epoch i
    simp only [hlt, Int.ofNat_lt, hi0, decide_true, Bool.and_true, cond_true, Int.toNat_natCast, Nat.mul_one, h1, hx, N31, hw] at hr
    unfold opn
    cases h6 : hasE X o n 6 (evE K (ko + i) job epoch) with
    | true => rw [h6] at hr; exact of_treeM t2_ok hr
    | false =>
      cases h7 : hasE X o n 7 (evE K (ko + i) job epoch) with
      | true => rw [h6, h7] at hr; exact of_treeM t2_ok hr
      | false => rw [h6, h7] at hr; exact of_treeM t2_ok hr
  · simp only [Int.lt_irrefl, decide_false, cond_false]
def F31 : Array Value → DT (Option (Value × St))
  | ⟨[.func (.method nm) K ⟨[.slice none ko kn]⟩, .func (.func 22) ⟨[]⟩ ⟨[.func (.methodOf 0 nm1) ⟨[.func (.method nm2) X ⟨[.slice none o n]⟩]⟩ ⟨[.slice none 0 0]⟩, .func (.methodOf 0 nm3) ⟨[.int .i64 job]⟩ ⟨[.slice none 0 0]⟩, .func (.methodOf 0 nm4) ⟨[.int .i64 epoch]⟩ ⟨[.slice none 0 0]⟩]⟩]⟩ =>
    .must ((decide (nm = "") && intsOk K ko kn) && ((decide (nm2 = "") && evsOk X o n) && (decide (nm1 = "") && (decide (nm3 = "") && decide (nm4 = ""))))) (.leaf (some (.int .i64 (idxI (opn K ko X o n job epoch) kn), st0))) (.leaf none)
  | _ => .leaf none
theorem i31_fn : cfg2.fns 31 = some { body := b31, nt := ntOf 31, results := [.tmp 4], pure := false } := by kernel_rfl
theorem tells31 [Z : Zone] : Tells cfg2 31 fun a => (F31 a).eval := by
  refine tells_one good2 rfl i31_fn rfl fun args y hx => ?_
  unfold F31 at hx
  split at hx
  · rename_i nm K ko kn nm1 nm2 X o n nm3 job nm4 epoch
    rw [DT.eval_must] at hx
    cases h : ((decide (nm = "") && intsOk K ko kn) && ((decide (nm2 = "") && evsOk X o n) && (decide (nm1 = "") && (decide (nm3 = "") && decide (nm4 = ""))))) with
    | false => rw [h] at hx; cases hx
    | true =>
      rw [h, cond_true, DT.eval_leaf] at hx
      cases hx
      simp only [Bool.and_eq_true, decide_eq_true_eq] at h
      obtain ⟨⟨rfl, h1⟩, ⟨rfl, h2⟩, rfl, rfl, rfl⟩ := h
      exact ⟨by simp [freeN], by show 2 ≤ ntOf 31; decide, _, rfl, rfl, fun b => ok31 h1 h2⟩
  · cases hx
/-- Has a job ended? -/
def endB (J : Array Value) (jo jn : Nat) (X : Array Value) (o n : Nat) (job epoch : Int) : Bool :=
  if job < 1 ∨ job > jn then false else (findN (opn (ndX J (jobK jo job)) (ndO J (jobK jo job)) X o n job epoch) (ndL J (jobK jo job))).isNone
theorem ok13 [Z : Zone] {b : Nat} {J : Array Value} {jo jn : Nat} {X : Array Value} {o n : Nat} {job epoch : Int} (hj : jobsOk J jo jn = true) (hx : evsOk X o n = true) :
    AWp cfg2 ⟨0, b⟩ cz b13 (frame0 13 (ntOf 13) #[VS J jo jn, VS X o n, .int .i64 job, .int .i64 epoch]) st0 (RetL [(8, .bool (endB J jo jn X o n job epoch))]) := by
  have hn := jobsOk_n hj
  have hp := p13 J jo jn X o n job epoch
  have one : ∀ {v w : Value}, v = w → ∀ q ∈ [((8 : Tmp), v)], (frS 13 [(8, w)]).tm.get q.1 = some q.2 := fun h q hq => by
    simp only [List.mem_singleton] at hq; subst hq; rw [h]; exact frS_one _ _ _
  rw [b13_eq]
  unfold endB
  by_cases h1 : job < 1
  · exact AWp.nestEarly good2 (pl1 rfl) (of_treeM t2_ok (hp.trans (show _ = r8 false by simp only [h1, decide_true, cond_true]))) trivial (one (by simp [h1]))
  · by_cases h2 : job > jn
    · exact AWp.nestEarly good2 (pl1 rfl) (of_treeM t2_ok (hp.trans (show _ = r8 false by simp only [h1, h2, decide_true, decide_false, cond_true, cond_false]))) trivial (one (by simp [h2]))
    · simp only [h1, h2, decide_false, cond_false] at hp
      simp only [h1, h2, or_self, if_false]
      have hw := wrap_sub (a := job) (n := jn) (by omega) (by omega) hn
      obtain ⟨g1, g2, g3, _⟩ := jobsOk_get hj (i := (job - 1).toNat) (by omega)
      have g1' : cellsOk J ck2 (jobK jo job) = true := g1
      have hv : isV J[jobK jo job]? = true := by
        have : (isV J[jobK jo job]? && (isV J[jobK jo job + 1]? && true)) = true := g1'
        simp only [Bool.and_eq_true] at this
        exact this.1
      have e0 : jW jo job = jobK jo job := by unfold jW jobK; rw [hw]
      have eD : jD jn job = true := by
        unfold jD
        rw [hw]
        simp only [Bool.and_eq_true, decide_eq_true_eq]
        omega
      have g3' : intsOk (ndX J (jobK jo job)) (ndO J (jobK jo job)) (ndL J (jobK jo job)) = true := g3
      have hnn := intsOk_n g3'
      refine AWp.nestRet good2 rfl (pl1 rfl) (of_treeM t2_ok hp) trivial ?_
      refine AWp.search (N := ndL J (jobK jo job)) (p := opn (ndX J (jobK jo job)) (ndO J (jobK jo job)) X o n job epoch) (res := fun q => [(8, .bool q.isNone)]) (head := fun i => fr13 J jo jn X o n job epoch i) (sh := fun _ => st0) (found := fun i => (frS 13 [(8, .bool false)], st0)) (fe := fr13 J jo jn X o n job epoch (ndL J (jobK jo job))) (se := st0)
        good2 rfl (fun _ => pl1 rfl) (of_treeM t2_ok (i13 J jo jn X o n job epoch)) (fun i hlt => ?_) (of_treeM t2_ok ((r13 J jo jn X o n job epoch (ndL J (jobK jo job))).trans ?_)) trivial (fun _ => trivial) (fun _ => trivial) trivial
        (fun i _ => one rfl) (fun Z' => AWp.done good2 (pl1 rfl) (.inr rfl) (of_treeM t2_ok (e13 J jo jn X o n job epoch (ndL J (jobK jo job)))) trivial (one rfl))
      · have k1 := intsOk_get g3' hlt
        have hwi := wrap_nat (i := i) (by omega)
        have hi0 : (0 : Int) ≤ i := by omega
        have hr := r13 J jo jn X o n job epoch i
        rw [e0, eD, hv] at hr
        simp only [hlt, Int.ofNat_lt, hi0, decide_true, Bool.and_true, cond_true, Int.toNat_natCast, Nat.mul_one, k1, hx, N13, hwi, seenI_neg] at hr
        unfold opn
        cases h6 : hasE X o n 6 (evE (ndX J (jobK jo job)) (ndO J (jobK jo job) + i) job epoch) with
        | true => rw [h6] at hr; exact of_treeM t2_ok hr
        | false =>
          cases h7 : hasE X o n 7 (evE (ndX J (jobK jo job)) (ndO J (jobK jo job) + i) job epoch) with
          | true => rw [h6, h7] at hr; exact of_treeM t2_ok hr
          | false => rw [h6, h7] at hr; exact of_treeM t2_ok hr
      · rw [e0, eD, hv]
        simp only [Int.lt_irrefl, decide_false, cond_false, cond_true]
def F13 : Array Value → DT (Option (Value × St))
  | ⟨[.func (.method nm) J ⟨[.slice none jo jn]⟩, .func (.method nm2) X ⟨[.slice none o n]⟩, .int .i64 job, .int .i64 epoch]⟩ =>
    .must ((decide (nm = "") && jobsOk J jo jn) && (decide (nm2 = "") && evsOk X o n)) (.leaf (some (.bool (endB J jo jn X o n job epoch), st0))) (.leaf none)
  | _ => .leaf none
theorem i13_fn : cfg2.fns 13 = some { body := b13, nt := ntOf 13, results := [.tmp 8], pure := false } := by kernel_rfl
theorem tells13 [Z : Zone] : Tells cfg2 13 fun a => (F13 a).eval := by
  refine tells_one good2 rfl i13_fn rfl fun args y hx => ?_
  unfold F13 at hx
  split at hx
  · rename_i nm J jo jn nm2 X o n job epoch
    rw [DT.eval_must] at hx
    cases h : ((decide (nm = "") && jobsOk J jo jn) && (decide (nm2 = "") && evsOk X o n)) with
    | false => rw [h] at hx; cases hx
    | true =>
      rw [h, cond_true, DT.eval_leaf] at hx
      cases hx
      simp only [Bool.and_eq_true, decide_eq_true_eq] at h
      obtain ⟨⟨rfl, h1⟩, rfl, h2⟩ := h
      exact ⟨by simp [freeN], by show 4 ≤ ntOf 13; decide, _, rfl, rfl, fun b => ok13 h1 h2⟩
  · cases hx

/-! ### The program's -/
def T3 : FuncId → Option (Array Value → DT (Option (Value × St)))
  | 31 => some F31
  | _ => none
def cfg3 : Cfg := cfg2.frz T3
def t3 : FuncId → Option HandT := treeF T3 t2
theorem good3 [Z : Zone] (B : Base) : Go.Am.Good cfg3 B := frz_good (fun Z' => @good2 Z') rfl (fun f F h => by
  unfold T3 at h
  split at h
  · cases h; exact ⟨⟨_, i31_fn⟩, fun Z' => @tells31 Z'⟩
  · cases h) B
theorem t3_ok : ∀ f k hd, t3 f = some k → cfg3.hand f = some hd → ∀ a c s, (k a c s).eval = hd a c s := treeF_ok t2_ok
theorem t12_k : (fun (J : Array Value) (jo jn : Nat) (X : Array Value) (o n : Nat) (job epoch : Int) => (callT cfg3 t3 60 (.func (.func 12) #[] #[]) #[VS J jo jn, VS X o n, .int .i64 job, .int .i64 epoch] cz st0).evalM seenOf) = fun (J : Array Value) (jo jn : Nat) (X : Array Value) (o n : Nat) (job epoch : Int) => (bif decide (job < 1) then fB false else bif decide (job > (jn : Int)) then fB false else bif jD jn job then (bif isV J[jW jo job]? then (bif intsOk (ndX J (jW jo job)) (ndO J (jW jo job)) (ndL J (jW jo job)) && (evsOk X o n && true) then fB (!decide (idxI (opn (ndX J (jW jo job)) (ndO J (jW jo job)) X o n job epoch) (ndL J (jW jo job)) ≥ 0)) else none) else none) else none) := by kernel_rfl
theorem t12 (J : Array Value) (jo jn : Nat) (X : Array Value) (o n : Nat) (job epoch : Int) : (callT cfg3 t3 60 (.func (.func 12) #[] #[]) #[VS J jo jn, VS X o n, .int .i64 job, .int .i64 epoch] cz st0).evalM seenOf = (bif decide (job < 1) then fB false else bif decide (job > (jn : Int)) then fB false else bif jD jn job then (bif isV J[jW jo job]? then (bif intsOk (ndX J (jW jo job)) (ndO J (jW jo job)) (ndL J (jW jo job)) && (evsOk X o n && true) then fB (!decide (idxI (opn (ndX J (jW jo job)) (ndO J (jW jo job)) X o n job epoch) (ndL J (jW jo job)) ≥ 0)) else none) else none) else none) := congrFun (congrFun (congrFun (congrFun (congrFun (congrFun (congrFun (congrFun t12_k J) jo) jn) X) o) n) job) epoch
theorem e12 {J : Array Value} {jo jn : Nat} {X : Array Value} {o n : Nat} {job epoch : Int} (hj : jobsOk J jo jn = true) (hx : evsOk X o n = true) : (callT cfg3 t3 60 (.func (.func 12) #[] #[]) #[VS J jo jn, VS X o n, .int .i64 job, .int .i64 epoch] cz st0).evalM seenOf = fB (endB J jo jn X o n job epoch) := by
  have hn := jobsOk_n hj
  rw [t12]
  unfold endB
  by_cases h1 : job < 1
  · simp only [h1, decide_true, cond_true, true_or, if_true]
  · by_cases h2 : job > jn
    · simp only [h1, h2, decide_true, decide_false, cond_true, cond_false, or_true, if_true]
    · have hw := wrap_sub (a := job) (n := jn) (by omega) (by omega) hn
      obtain ⟨g1, g2, g3, _⟩ := jobsOk_get hj (i := (job - 1).toNat) (by omega)
      have g1' : cellsOk J ck2 (jobK jo job) = true := g1
      have hv : isV J[jobK jo job]? = true := by
        have : (isV J[jobK jo job]? && (isV J[jobK jo job + 1]? && true)) = true := g1'
        simp only [Bool.and_eq_true] at this
        exact this.1
      have e0 : jW jo job = jobK jo job := by unfold jW jobK; rw [hw]
      have eD : jD jn job = true := by
        unfold jD
        rw [hw]
        simp only [Bool.and_eq_true, decide_eq_true_eq]
        omega
      have g3' : intsOk (ndX J (jobK jo job)) (ndO J (jobK jo job)) (ndL J (jobK jo job)) = true := g3
      rw [e0, eD, hv]
      simp only [h1, h2, decide_false, cond_false, cond_true, or_self, if_false, g3', hx, Bool.and_true, idxI_some]
      cases findN (opn (ndX J (jobK jo job)) (ndO J (jobK jo job)) X o n job epoch) (ndL J (jobK jo job)) <;> rfl
theorem i12_fn : cfg3.fns 12 = some { body := bodyOf 12, nt := ntOf 12, results := [.tmp 8], pure := false } := by kernel_rfl
theorem tells12 [Z : Zone] : Tells cfg3 12 fun a => (F13 a).eval := by
  refine tells_call good3 rfl i12_fn fun args y hx => ?_
  unfold F13 at hx
  split at hx
  · rename_i nm J jo jn nm2 X o n job epoch
    rw [DT.eval_must] at hx
    cases h : ((decide (nm = "") && jobsOk J jo jn) && (decide (nm2 = "") && evsOk X o n)) with
    | false => rw [h] at hx; cases hx
    | true =>
      rw [h, cond_true, DT.eval_leaf] at hx
      cases hx
      simp only [Bool.and_eq_true, decide_eq_true_eq] at h
      obtain ⟨⟨rfl, h1⟩, rfl, h2⟩ := h
      exact ⟨by simp [freeN], tree_call t3_ok (e12 h1 h2)⟩
  · cases hx
end
end Go.Proofs.Ytbhemcpmklkepaa
