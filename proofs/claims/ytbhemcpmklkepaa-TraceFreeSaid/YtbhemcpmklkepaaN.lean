/- A row's arguments. -/
import Derived.Test.YtbhemcpmklkepaaRows
import Derived.Test.YtbhemcpmklkepaaM
import Derived.Test.YtbhemcpmklkepaaAmLaw
import Derived.ProofKit
namespace Go.Proofs.Ytbhemcpmklkepaa
open Go.Am Go.ChangeShapes Go.WideShapes Go.ChangeAt Go.RowKit
theorem shed_bool {s0 s' : St} {v : Value} {b : Bool} {s2 : St} (h : shed s0 s' v = some (.bool b, s2)) : v = .bool b := by
  unfold shed at h
  split at h
  · split at h
    · split at h <;> cases h
    · cases h
  · split at h
    · cases h; rfl
    · cases h
set_option maxRecDepth 100000 in
theorem arg_slice {H : Type} {enc : TypeId × Value → H} {W : World} {b : Nat} {t e : TypeId} {d : DTy} {v : Value} {d0 : DataW H} {p0 : List MemPlace} (hc : codeOf Try.prog 9 t = some (.slice d)) (hu : Try.prog.underlying t = some (.slice e)) (o0 : Value.okWide Try.prog W .any b t v) (h0 : DataW.Trod enc Try.prog W 0 (fun _ => true) true t v d0 p0) :
    ∃ l : List d.den, (DTy.slice d).wf l ∧ Abs W (VS (d.row l) 0 l.length) v := by
  obtain ⟨fuel, h0⟩ := h0
  unfold Value.okWide at o0
  rw [hu] at o0
  have hv : v.cells.toList = [v] := by
    rcases cell_slice hu o0 with rfl | ⟨blk, off, l, cp, rfl, hb, hlc⟩ <;> rfl
  obtain ⟨y, hw, hA⟩ := trod_abs 9 t _ hc fuel _ _ h0
  rw [hv] at hA
  exact ⟨y, hw, hA.2 0 _ _ rfl rfl⟩
set_option maxRecDepth 100000 in
theorem arg_event {H : Type} {enc : TypeId × Value → H} {W : World} {b : Nat} {fs : Array Field} {v : Value} {d0 : DataW H} {p0 : List MemPlace} (hu : Try.prog.underlying 25 = some (.struct fs)) (o0 : Value.okWide Try.prog W .any b 25 v) (h0 : DataW.Trod enc Try.prog W 0 (fun _ => true) true 25 v d0 p0) :
    ∃ x : Ev, ∀ (φ : Nat → Pl) (c : Ctx) (n : Nat), @Vrel (zoneOf W) φ c n x.val v := by
  obtain ⟨fuel, h0⟩ := h0
  unfold Value.okWide at o0
  rw [hu] at o0
  obtain ⟨cs, rfl, _, _⟩ := o0
  obtain ⟨y, hw, hA⟩ := trod_abs 9 25 _ code25 fuel _ _ h0
  obtain ⟨y0, y1, y2, y3, y4, y5, _⟩ := y
  refine ⟨⟨y0, y1, y2, y3, y4, y5⟩, fun φ c n => ?_⟩
  refine @Vrel.agg (zoneOf W) φ c n _ _ ?_ fun i x x' hx hx' => ?_
  · have := hA.1
    show 6 = cs.size
    have h6 : cs.toList.length = cs.size := rfl
    rw [← h6]; exact this
  · have hx2 : (Ev.mk y0 y1 y2 y3 y4 y5).cells[i]? = some x := by simpa using hx
    refine (hA.2 i x x' hx2 ?_).vrel φ c n
    · show cs.toList[i]? = some x'
      rw [Array.getElem?_toList]; exact hx'
theorem intArg {W : World} {φ : Nat → Pl} {c : Ctx} {n : Nat} (k : IntKind) (i : Int) : @Vrel (zoneOf W) φ c n (.int k i) (.int k i) := Vrel.int (Z := zoneOf W) k i
end Go.Proofs.Ytbhemcpmklkepaa
