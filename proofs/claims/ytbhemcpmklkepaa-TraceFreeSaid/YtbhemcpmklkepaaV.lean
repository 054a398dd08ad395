/- Up to where may events be? -/
import Derived.Test.YtbhemcpmklkepaaS
import Derived.Test.YtbhemcpmklkepaaL
namespace Go.Proofs.Ytbhemcpmklkepaa
open Go.Am
noncomputable section
theorem small_get {J : Array Value} {jo jn : Nat} (h : smallB J jo jn = true) {i : Nat} (hi : i < jn) : ndL J (jo + i * 2) ≤ 20 := by
  unfold smallB at h
  split at h
  · cases h
  · rename_i hn
    have := findN_no hn i hi
    simp only [Bool.not_eq_false', jobS, Bool.and_eq_true, decide_eq_true_eq] at this
    exact this.1
theorem told_job {J : Array Value} {jo jn : Nat} {E : Ev} (h : toldB J jo jn E = true) : 1 ≤ E.job ∧ E.job ≤ jn ∧ kOk E.kind = true ∧ (!(E.kind == 10) || (decide (0 ≤ E.step) && decide (E.step < (stL J (jobK jo E.job) : Int)))) = true := by
  have h0 := h
  unfold toldB at h
  split at h
  · cases h
  · rename_i h1
    split at h
    · cases h
    · rename_i h2
      refine ⟨by omega, by omega, ?_, ?_⟩
      · unfold kOk
        split at h
        · rename_i h3
          rcases h3 with h3 | h3 <;> simp [h3]
        · simp only [Bool.and_eq_true, decide_eq_true_eq] at h
          simp [h.1.1, h.1.2]
      · by_cases hk : E.kind = 10
        · have hw : whole E.kind = false := by rw [hk]; rfl
          obtain ⟨_, _, a, b⟩ := told_in h0 hw
          simp [a, b]
        · simp [hk]
/-- May an event be, behind the first ones? -/
def mayC (J : Array Value) (jo : Nat) (X : Array Value) (o i : Nat) : Bool := mayJ J (jobK jo (evAt X (o + i * 6)).job) X o i (evAt X (o + i * 6))
def stop14 (J : Array Value) (jo jn : Nat) (X : Array Value) (o n : Nat) (i : Nat) : Option (Ex × Fr × St) :=
  if i < n then (if toldB J jo jn (evAt X (o + i * 6)) then (if mayC J jo X o i then none else R14 i 14) else R14 i 5) else some (.exit 0, fr14 J jo jn X o n i, st0)
theorem evsOk_take {X : Array Value} {o n k : Nat} (h : evsOk X o n = true) (hk : k ≤ n) : evsOk X o k = true := by
  simp only [evsOk, Bool.and_eq_true, List.all_eq_true, List.mem_range, decide_eq_true_eq] at h ⊢
  obtain ⟨h1, h2, h3⟩ := h
  exact ⟨by omega, by omega, fun i hi => h3 i (by omega)⟩
theorem q14 {J : Array Value} {jo jn : Nat} {X : Array Value} {o n : Nat} (hj : jobsOk J jo jn = true) (hs : smallB J jo jn = true) (hx : evsOk X o n = true) (i : Nat) (hi : i ≤ n) :
    (codeT cfg7 (callT cfg7 t7 60) 60 cz k14 (fr14 J jo jn X o n i) st0).evalM (gcObs 0 0 (keepR [0, 1, 8, 9, 10] [4, 5])) = some (match stop14 J jo jn X o n i with | some r => r | none => (.normal, fr14 J jo jn X o n ((i + 1 : Nat) : Int), st0)) := by
  have hn := evsOk_n hx
  have hjn := jobsOk_n hj
  rw [r14]
  unfold stop14
  by_cases hlt : i < n
  · obtain ⟨h1, h2⟩ := evsOk_get hx hlt
    have hi0 : (0 : Int) ≤ i := by omega
    have hw := wrap_nat (i := i) (by omega)
    have hle : i ≤ n := hi
    simp only [hlt, if_true, Int.ofNat_lt, hi0, decide_true, Bool.and_true, cond_true, Int.toNat_natCast, h1, h2, hj, hw, hle, eA, Nat.zero_mul, Nat.add_zero, Nat.sub_zero]
    cases c3 : toldB J jo jn (evAt X (o + i * 6)) with
    | false => simp [R14]
    | true =>
      obtain ⟨j1, j2, j3, j4⟩ := told_job c3
      have hwr := wrap_sub (a := (evAt X (o + i * 6)).job) (n := jn) (by omega) (by omega) hjn
      have hki : ((evAt X (o + i * 6)).job - 1).toNat < jn := by omega
      obtain ⟨g1, g2, g3, g4⟩ := jobsOk_get hj hki
      have e0 : jK2 jo (evAt X (o + i * 6)) = jobK jo (evAt X (o + i * 6)).job := by unfold jK2 jobK; rw [hwr]
      have eD : jD jn (evAt X (o + i * 6)).job = true := by
        unfold jD
        rw [hwr]
        simp only [Bool.and_eq_true, decide_eq_true_eq]
        omega
      have g1' : cellsOk J ck2 (jobK jo (evAt X (o + i * 6)).job) = true := g1
      have g2' : jobK jo (evAt X (o + i * 6)).job + 2 ≤ J.size := g2
      have g5 : ndL J (jobK jo (evAt X (o + i * 6)).job) ≤ 20 := small_get hs hki
      have hc : c23 X o i (ndX J (jobK jo (evAt X (o + i * 6)).job)) (ndO J (jobK jo (evAt X (o + i * 6)).job)) (ndL J (jobK jo (evAt X (o + i * 6)).job)) (stX J (jobK jo (evAt X (o + i * 6)).job)) (stO J (jobK jo (evAt X (o + i * 6)).job)) (stL J (jobK jo (evAt X (o + i * 6)).job)) (evAt X (o + i * 6)) = true := by
        have g3' : intsOk (ndX J (jobK jo (evAt X (o + i * 6)).job)) (ndO J (jobK jo (evAt X (o + i * 6)).job)) (ndL J (jobK jo (evAt X (o + i * 6)).job)) = true := g3
        have g4' : stepsOk (stX J (jobK jo (evAt X (o + i * 6)).job)) (stO J (jobK jo (evAt X (o + i * 6)).job)) (stL J (jobK jo (evAt X (o + i * 6)).job)) = true := g4
        unfold c23
        rw [evsOk_take hx hi, g3', g4', j3, j4]
        simp only [g5, decide_true, Bool.and_true]
      simp only [e0, eD, g1', hc, g2', decide_true, cond_true, Bool.not_true, cond_false, if_true]
      unfold mayC
      cases mayJ J (jobK jo (evAt X (o + i * 6)).job) X o i (evAt X (o + i * 6)) <;> simp [R14]
  · simp only [hlt, if_false, Int.ofNat_lt, decide_false, cond_false]
def badC (J : Array Value) (jo jn : Nat) (X : Array Value) (o : Nat) (i : Nat) : Bool := !(toldB J jo jn (evAt X (o + i * 6)) && mayC J jo X o i)
/-- Up to where may events be, and what is told there? -/
def chk (J : Array Value) (jo jn : Nat) (X : Array Value) (o n : Nat) : Int × Int := match findN (badC J jo jn X o) n with
  | some i => (i, if toldB J jo jn (evAt X (o + i * 6)) then 14 else 5)
  | none => (n, 0)
theorem pl2 {a b : Int} {t u : Tmp} : plainL [(t, .int .i64 a), (u, .int .i64 b)] := fun p hp => by
  simp only [List.mem_cons, List.not_mem_nil, or_false] at hp
  rcases hp with rfl | rfl <;> rfl
theorem two14 {a b c d : Int} (h : a = c) (h' : b = d) : ∀ q ∈ [((4 : Tmp), Value.int .i64 a), ((5 : Tmp), Value.int .i64 b)], (frS 14 [(4, .int .i64 c), (5, .int .i64 d)]).tm.get q.1 = some q.2 := fun q hq => by
  subst h h'
  have := frS_two 14 4 5 (.int .i64 a) (.int .i64 b) (by decide)
  simp only [List.mem_cons, List.not_mem_nil, or_false] at hq
  rcases hq with rfl | rfl
  · exact this.1
  · exact this.2
theorem ok14 [Z : Zone] {b : Nat} {J : Array Value} {jo jn : Nat} {X : Array Value} {o n : Nat} (hj : jobsOk J jo jn = true) (hs : smallB J jo jn = true) (hx : evsOk X o n = true) :
    AWp cfg7 ⟨0, b⟩ cz b14 (frame0 14 (ntOf 14) #[VS J jo jn, VS X o n]) st0 (RetL [(4, .int .i64 (chk J jo jn X o n).1), (5, .int .i64 (chk J jo jn X o n).2)]) := by
  rw [b14_eq]
  refine AWp.nestRet good7 rfl pl2 (of_treeM t7_ok (p14 J jo jn X o n)) trivial ?_
  refine AWp.forStmt (N := n) (head := fun i => fr14 J jo jn X o n i) (sh := fun _ => st0) (sel2 := keepR [0, 1, 8, 9, 10] [4, 5]) (stop := stop14 J jo jn X o n)
    good7 rfl pl2 (of_treeM t7_ok (i14 J jo jn X o n)) trivial (fun i hi _ => of_treeM t7_ok (q14 hj hs hx i hi)) (fun i hi => ?_) ⟨n, Nat.le_refl _, by unfold stop14; simp⟩ (fun i r hi hno hr => ?_)
  · unfold stop14
    split
    · rename_i r hr
      split at hr
      · split at hr
        · split at hr
          · cases hr
          · cases hr; trivial
        · cases hr; trivial
      · cases hr; trivial
    · trivial
  · have hno' : ∀ j, j < i → j < n → badC J jo jn X o j = false := fun j hj hjn => by
      have := hno j hj
      unfold stop14 at this
      simp only [hjn, if_true] at this
      unfold badC
      cases h1 : toldB J jo jn (evAt X (o + j * 6)) with
      | false => rw [h1] at this; simp [R14] at this
      | true =>
        cases h2 : mayC J jo X o j with
        | false => rw [h1, h2] at this; simp [R14] at this
        | true => rfl
    unfold stop14 at hr
    split at hr
    · rename_i hlt
      have hfi : badC J jo jn X o i = true → chk J jo jn X o n = ((i : Int), if toldB J jo jn (evAt X (o + i * 6)) then 14 else 5) := fun hb => by
        unfold chk
        rw [findN_some hlt hb fun j hj => hno' j hj (by omega)]
      split at hr
      · rename_i c1
        split at hr
        · cases hr
        · rename_i c2
          cases hr
          rw [hfi (by unfold badC; simp [c2])]
          exact two14 rfl (by simp [c1])
      · rename_i c1
        cases hr
        rw [hfi (by unfold badC; simp [c1])]
        exact two14 rfl (by simp [c1])
    · have hin : i = n := by omega
      cases hr
      have hc : chk J jo jn X o n = ((n : Int), 0) := by
        unfold chk
        rw [findN_none fun j hj => hno' j (by omega) hj]
      rw [hc]
      exact ⟨rfl, fun Z' => AWp.done good7 pl2 (.inr rfl) (of_treeM t7_ok (e14 J jo jn X o n i)) trivial (two14 rfl rfl)⟩
def F14 : Array Value → DT (Option (Value × St))
  | ⟨[.func (.method nm) J ⟨[.slice none jo jn]⟩, .func (.method nm2) X ⟨[.slice none o n]⟩]⟩ =>
    .must ((decide (nm = "") && decide (nm2 = "")) && ((jobsOk J jo jn && smallB J jo jn) && evsOk X o n)) (.leaf (some (.tuple #[.int .i64 (chk J jo jn X o n).1, .int .i64 (chk J jo jn X o n).2], st0))) (.leaf none)
  | _ => .leaf none
theorem i14_fn : cfg7.fns 14 = some { body := b14, nt := ntOf 14, results := [.tmp 4, .tmp 5], pure := false } := by kernel_rfl
theorem tells14 [Z : Zone] : Tells cfg7 14 fun a => (F14 a).eval := by
  refine tells_two good7 rfl i14_fn rfl fun args y hx => ?_
  unfold F14 at hx
  split at hx
  · rename_i nm J jo jn nm2 X o n
    rw [DT.eval_must] at hx
    cases h : ((decide (nm = "") && decide (nm2 = "")) && ((jobsOk J jo jn && smallB J jo jn) && evsOk X o n)) with
    | false => rw [h] at hx; cases hx
    | true =>
      rw [h, cond_true, DT.eval_leaf] at hx
      cases hx
      simp only [Bool.and_eq_true, decide_eq_true_eq] at h
      obtain ⟨⟨rfl, rfl⟩, ⟨h1, h2⟩, h3⟩ := h
      exact ⟨by simp [freeN], by show 2 ≤ ntOf 14; decide, _, _, rfl, rfl, rfl, rfl, rfl, fun b => ok14 h1 h2 h3⟩
  · cases hx
end
end Go.Proofs.Ytbhemcpmklkepaa
