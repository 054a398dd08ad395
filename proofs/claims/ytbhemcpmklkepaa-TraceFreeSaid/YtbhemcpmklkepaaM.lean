/- A trace's data, out of a row's arguments. -/
import Derived.Test.YtbhemcpmklkepaaF
import Derived.Test.YtbhemcpmklkepaaAmData
namespace Go.Proofs.Ytbhemcpmklkepaa
open Go.Am
noncomputable section
abbrev dI : DTy := .int .i64
abbrev dEv : DTy := .cons dI (.cons dI (.cons dI (.cons dI (.cons dI (.cons dI .nil)))))
abbrev dEdge : DTy := .cons dI (.cons dI .nil)
abbrev dStep : DTy := .cons dI (.cons dI (.cons dI (.cons dI (.cons (.slice dEdge) .nil))))
abbrev dJob : DTy := .cons (.slice dI) (.cons (.slice dStep) .nil)
theorem code22 : codeOf cfg.P 9 22 = some (.slice dJob) := by kernel_rfl
theorem code23 : codeOf cfg.P 9 23 = some (.slice dEv) := by kernel_rfl
theorem code25 : codeOf cfg.P 9 25 = some dEv := by kernel_rfl

theorem cA2 {α β γ : Type} (f : α → β → γ) {a a' : α} {b b' : β} (h : a = a') (k : b = b') : f a b = f a' b' := by subst h; subst k; rfl
theorem row_at (d : DTy) (l : List d.den) (i j : Nat) (hi : i < l.length) (hj : j < d.size) : (d.row l)[0 + i * d.size + j]? = (d.enc l[i])[j]? := by
  rw [Nat.zero_add, d.row_get l i j hj, List.getElem?_eq_getElem hi]
  rfl
theorem maxLen_le : maxLen ≤ maxI := by unfold maxLen maxI; decide
theorem ints_ok (l : List Int) (h : l.length ≤ maxLen) : intsOk (DTy.row dI l) 0 l.length = true := by
  have := maxLen_le
  simp only [intsOk, Bool.and_eq_true, List.all_eq_true, List.mem_range, decide_eq_true_eq]
  refine ⟨by omega, fun i hi => ?_⟩
  have e := row_at dI l i 0 hi (by decide)
  have e' : (DTy.row dI l)[0 + i]? = some (.int .i64 l[i]) := by
    have h0 : 0 + i * DTy.size dI + 0 = 0 + i := by show 0 + i * 1 + 0 = 0 + i; omega
    rw [h0] at e
    exact e
  rw [e']
  rfl
theorem evs_ok (l : List dEv.den) (h : l.length ≤ maxLen) : evsOk (dEv.row l) 0 l.length = true := by
  have := maxLen_le
  simp only [evsOk, Bool.and_eq_true, List.all_eq_true, List.mem_range, decide_eq_true_eq]
  refine ⟨by omega, ?_, fun i hi => ?_⟩
  · rw [DTy.row_size]; show 0 + l.length * 6 ≤ l.length * 6; omega
  · have e := fun j hj => row_at dEv l i j hi hj
    have e0 := e 0 (by decide)
    have e1 := e 1 (by decide)
    have e2 := e 2 (by decide)
    have e3 := e 3 (by decide)
    have e4 := e 4 (by decide)
    have e5 := e 5 (by decide)
    show cellsOk (dEv.row l) ev6 (0 + i * 6) = true
    unfold ev6
    simp only [cellsOk]
    refine (cA2 and (congrArg _ e0) (cA2 and (congrArg _ e1) (cA2 and (congrArg _ e2) (cA2 and (congrArg _ e3) (cA2 and (congrArg _ e4) (cA2 and (congrArg _ e5) rfl)))))).trans ?_
    rfl
theorem edges_ok (l : List dEdge.den) (h : l.length ≤ maxLen) : edgesOk (dEdge.row l) 0 l.length = true := by
  have := maxLen_le
  simp only [edgesOk, Bool.and_eq_true, List.all_eq_true, List.mem_range, decide_eq_true_eq]
  refine ⟨by omega, ?_, fun i hi => ?_⟩
  · rw [DTy.row_size]; show 0 + l.length * 2 ≤ l.length * 2; omega
  · have e := fun j hj => row_at dEdge l i j hi hj
    have e0 := e 0 (by decide)
    have e1 := e 1 (by decide)
    show cellsOk (dEdge.row l) ckE (0 + i * 2) = true
    unfold ckE
    simp only [cellsOk]
    refine (cA2 and (congrArg _ e0) (cA2 and (congrArg _ e1) rfl)).trans ?_
    rfl
theorem steps_ok (l : List dStep.den) (h : (DTy.slice dStep).wf l) : stepsOk (dStep.row l) 0 l.length = true := by
  have := maxLen_le
  obtain ⟨hl, hw⟩ := h
  simp only [stepsOk, Bool.and_eq_true, List.all_eq_true, List.mem_range, decide_eq_true_eq]
  refine ⟨by omega, ?_, fun i hi => ?_⟩
  · rw [DTy.row_size]; show 0 + l.length * 5 ≤ l.length * 5; omega
  · have hx := hw l[i] (List.getElem_mem hi)
    have e := fun j hj => row_at dStep l i j hi hj
    generalize l[i] = x at hx e
    obtain ⟨x0, x1, x2, x3, x4, x5⟩ := x
    have e0 := e 0 (by decide)
    have e1 := e 1 (by decide)
    have e2 := e 2 (by decide)
    have e3 := e 3 (by decide)
    have e4 := e 4 (by decide)
    have e4' : (dStep.row l)[0 + i * 5 + 4]? = some (VS (DTy.row dEdge x4) 0 (List.length x4)) := e4
    refine ⟨?_, ?_⟩
    · show cellsOk (dStep.row l) ck5 (0 + i * 5) = true
      unfold ck5
      simp only [cellsOk]
      refine (cA2 and (congrArg _ e0) (cA2 and (congrArg _ e1) (cA2 and (congrArg _ e2) (cA2 and (congrArg _ e3) (cA2 and (congrArg _ e4) rfl))))).trans ?_
      rfl
    · rw [e4']
      exact edges_ok x4 hx.2.2.2.2.1.1
theorem jobs_ok (l : List dJob.den) (h : (DTy.slice dJob).wf l) : jobsOk (dJob.row l) 0 l.length = true := by
  have := maxLen_le
  obtain ⟨hl, hw⟩ := h
  simp only [jobsOk, Bool.and_eq_true, List.all_eq_true, List.mem_range, decide_eq_true_eq]
  refine ⟨by omega, ?_, fun i hi => ?_⟩
  · rw [DTy.row_size]; show 0 + l.length * 2 ≤ l.length * 2; omega
  · have hx := hw l[i] (List.getElem_mem hi)
    have e := fun j hj => row_at dJob l i j hi hj
    generalize l[i] = x at hx e
    obtain ⟨x0, x1, x2⟩ := x
    have e0 : (dJob.row l)[0 + i * 2]? = some (VS (DTy.row dI x0) 0 (List.length x0)) := e 0 (by decide)
    have e1 : (dJob.row l)[0 + i * 2 + 1]? = some (VS (DTy.row dStep x1) 0 (List.length x1)) := e 1 (by decide)
    refine ⟨?_, ?_, ?_⟩
    · show cellsOk (dJob.row l) ck2 (0 + i * 2) = true
      unfold ck2
      simp only [cellsOk]
      refine (cA2 and (congrArg _ e0) (cA2 and (congrArg _ e1) rfl)).trans ?_
      rfl
    · unfold ndX ndO ndL
      rw [e0]
      exact ints_ok x0 hx.1.1
    · unfold stX stO stL
      rw [e1]
      exact steps_ok x1 hx.2.1
end
end Go.Proofs.Ytbhemcpmklkepaa
