/- A row of numbers as an argument. -/
import Derived.Test.YtmpokdnpkjcnbaaDoorVQR
import Derived.Test.YtmpokdnpkjcnbaaDoorArgs
namespace Go.Proofs.YtmpokdnpkjcnbaaDoor
open Go.Am Go.ChangeShapes Go.WideShapes Go.ChangeAt Go.RowKit
theorem code25 : codeOf Tryd.prog 9 25 = some (.slice (.int .i64)) := by kernel_rfl
set_option maxRecDepth 100000 in
theorem arg_ints {H : Type} {enc : TypeId × Value → H} {W : World} {b : Nat} {v : Value} {d0 : DataW H} {q0 : List MemPlace} (o0 : Value.okWide Tryd.prog W .any b 25 v) (h0 : DataW.Trod enc Tryd.prog W 0 (fun _ => true) true 25 v d0 q0) :
    ∃ l : List (DTy.int .i64).den, (DTy.slice (.int .i64)).wf l ∧ Abs W (VS ((DTy.int .i64).row l) 0 l.length) v := by
  obtain ⟨fuel, h0⟩ := h0
  unfold Value.okWide at o0
  rw [Tryd.underlying25] at o0
  have hv : v.cells.toList = [v] := by
    rcases cell_slice Tryd.underlying25 o0 with rfl | ⟨blk, off, l, cp, rfl, hb, hlc⟩ <;> rfl
  obtain ⟨y, hw, hA⟩ := trod_abs 9 25 _ code25 fuel _ _ h0
  rw [hv] at hA
  exact ⟨y, hw, hA.2 0 _ _ rfl rfl⟩
theorem ints_ok (l : List (DTy.int .i64).den) (w : (DTy.slice (.int .i64)).wf l) : intsOk ((DTy.int .i64).row l) 0 l.length = true := by
  have h1 : l.length ≤ maxLen := w.1
  unfold intsOk
  rw [Bool.and_eq_true, decide_eq_true_eq, List.all_eq_true]
  refine ⟨?_, fun i hi => ?_⟩
  · unfold maxLen at h1
    unfold maxI
    omega
  · have hi := List.mem_range.1 hi
    have hg := DTy.row_get (.int .i64) l i 0 (by show 0 < 1; omega)
    have e : i * DTy.size (.int .i64) + 0 = 0 + i := by show i * 1 + 0 = 0 + i; omega
    rw [e, List.getElem?_eq_getElem hi] at hg
    rw [hg]
    rfl
end Go.Proofs.YtmpokdnpkjcnbaaDoor
