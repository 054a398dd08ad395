/- Calls of a net, out of a row's arguments. -/
import Derived.Test.YtgcffmkifjnmlaaRows
import Derived.Test.YtgcffmkifjnmlaaNX
import Derived.Test.YtgcffmkifjnmlaaAmLaw
import Derived.ProofKit
namespace Go.Proofs.Ytgcffmkifjnmlaa
open Go.Am Go.ChangeShapes Go.WideShapes Go.ChangeAt Go.RowKit
noncomputable section
abbrev dI : DTy := .int .i64
abbrev dOp : DTy := .cons dI (.cons (.slice .str) (.cons dI .nil))
theorem code22 : codeOf cfg.P 9 22 = some (.slice dOp) := by kernel_rfl
theorem cA2 {α β γ : Type} (f : α → β → γ) {a a' : α} {b b' : β} (h : a = a') (k : b = b') : f a b = f a' b' := by subst h; subst k; rfl
theorem row_at (d : DTy) (l : List d.den) (i j : Nat) (hi : i < l.length) (hj : j < d.size) : (d.row l)[0 + i * d.size + j]? = (d.enc l[i])[j]? := by
  rw [Nat.zero_add, d.row_get l i j hj, List.getElem?_eq_getElem hi]
  rfl
theorem maxLen_le : maxLen ≤ 9223372036854775807 := by unfold maxLen; decide
theorem strRow (L : List (DTy.den .str)) : strs (DTy.row .str L) = true ∧ (DTy.row .str L).size = L.length := by
  refine ⟨?_, ?_⟩
  · unfold strs DTy.row
    rw [Array.all_eq_true]
    intro i hi
    have hm : (List.flatMap (DTy.enc .str) L).toArray[i] ∈ List.flatMap (DTy.enc .str) L := by simp
    obtain ⟨x, _, hx⟩ := List.mem_flatMap.1 hm
    have hx : (List.flatMap (DTy.enc .str) L).toArray[i] ∈ [Value.string x] := hx
    rw [List.mem_singleton] at hx
    rw [hx]; rfl
  · rw [DTy.row_size .str L]; show L.length * 1 = _; omega
theorem op_cells (l : List dOp.den) {i : Nat} (hi : i < l.length) : (dOp.row l)[0 + i * 3]? = some (.int .i64 l[i].1) ∧ (dOp.row l)[0 + i * 3 + 1]? = some (VS (DTy.row .str l[i].2.1) 0 (List.length l[i].2.1)) ∧ (dOp.row l)[0 + i * 3 + 2]? = some (.int .i64 l[i].2.2.1) := by
  have e := fun j hj => row_at dOp l i j hi hj
  have e0 := e 0 (by decide)
  have e1 := e 1 (by decide)
  have e2 := e 2 (by decide)
  generalize l[i] = x at e0 e1 e2 ⊢
  obtain ⟨x0, x1, x2, x3⟩ := x
  exact ⟨e0, e1, e2⟩
theorem sm_ok (l : List dOp.den) (h : (DTy.slice dOp).wf l) : smOk (dOp.row l) 0 l.length = true := by
  have := maxLen_le
  obtain ⟨hl, hw⟩ := h
  simp only [smOk, Bool.and_eq_true, List.all_eq_true, List.mem_range, decide_eq_true_eq]
  refine ⟨by omega, fun i hi => ?_⟩
  rw [(op_cells l hi).2.1]
  rfl
theorem ops_ok (l : List dOp.den) (h : (DTy.slice dOp).wf l) {m : Int} (hs : smB (dOp.row l) 0 l.length m = true) : ∀ i, i < l.length → opOk (dOp.row l) 0 i = true := by
  intro i hi
  obtain ⟨hl, hw⟩ := h
  have hx := hw l[i] (List.getElem_mem hi)
  obtain ⟨e0, e1, e2⟩ := op_cells l hi
  simp only [smB, Bool.and_eq_true, List.all_eq_true, List.mem_range, decide_eq_true_eq] at hs
  have hle := hs.1 i hi
  have hsz0 : (dOp.row l).size = l.length * 3 := DTy.row_size dOp l
  generalize l[i] = x at hx e0 e1 e2
  obtain ⟨x0, x1, x2, x3⟩ := x
  simp only at e0 e1 e2
  have hsz : (dOp.row l).size = l.length * 3 := DTy.row_size dOp l
  obtain ⟨s1, s2⟩ := strRow x1
  have hv : vO (dOp.row l)[0 + i * 3 + 1]? = 0 ∧ vL (dOp.row l)[0 + i * 3 + 1]? = x1.length ∧ vX (dOp.row l)[0 + i * 3 + 1]? = DTy.row .str x1 := by rw [e1]; exact ⟨rfl, rfl, rfl⟩
  obtain ⟨v0, v1, v2⟩ := hv
  have hi2 : toI (dOp.row l)[0 + i * 3 + 2]? = x2 := by rw [e2]; rfl
  have hwf : (Lit.int .i64 x2).wf = true := hx.2.2.1
  simp only [Lit.wf, Bool.and_eq_true, decide_eq_true_eq] at hwf
  simp only [opOk, Bool.and_eq_true, decide_eq_true_eq]
  rw [v1] at hle
  rw [v0, v1, v2, hi2]
  refine ⟨by omega, ?_, by rw [s2]; omega, strs_ext s1 _ _, hle, ?_⟩
  · simp only [cellsOk]
    refine (cA2 and (congrArg _ e0) (cA2 and (congrArg _ e1) (cA2 and (congrArg _ e2) rfl))).trans ?_
    rfl
  · simp only [intOk, Bool.and_eq_true, decide_eq_true_eq]
    have h1 : IntKind.min .i64 = -9223372036854775808 := by decide
    have h2 : IntKind.max .i64 = 9223372036854775807 := by decide
    rw [h1, h2] at hwf
    exact hwf
set_option maxRecDepth 100000 in
theorem arg_slice {H : Type} {enc : TypeId × Value → H} {W : World} {b : Nat} {t e : TypeId} {d : DTy} {v : Value} {d0 : DataW H} {p0 : List MemPlace} (hc : codeOf Try.prog 9 t = some (.slice d)) (hu : Try.prog.underlying t = some (.slice e)) (o0 : Value.okWide Try.prog W .any b t v) (h0 : DataW.Trod enc Try.prog W 0 (fun _ => true) true t v d0 p0) :
    ∃ l : List d.den, (DTy.slice d).wf l ∧ Abs W (VS (d.row l) 0 l.length) v := by
  obtain ⟨fuel, h0⟩ := h0
  unfold Value.okWide at o0
  rw [hu] at o0
  have hv : v.cells.toList = [v] := by
    rcases cell_slice hu o0 with rfl | ⟨blk, off, l, cp, rfl, hb, hlc⟩ <;> rfl
  obtain ⟨y, hw, hA⟩ := trod_abs 9 t _ hc fuel _ _ h0
  rw [hv] at hA
  exact ⟨y, hw, hA.2 0 _ _ rfl rfl⟩
end
end Go.Proofs.Ytgcffmkifjnmlaa
