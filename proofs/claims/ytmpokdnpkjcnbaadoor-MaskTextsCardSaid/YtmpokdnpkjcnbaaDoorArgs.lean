/- Arguments of the rows: masks as sets, numbers, texts, rows of numbers. -/
import Derived.Test.YtmpokdnpkjcnbaaDoorO
import Derived.Test.YtmpokdnpkjcnbaaDoorQRS
namespace Go.Proofs.YtmpokdnpkjcnbaaDoor
open Go.Am Go.ChangeShapes Go.WideShapes Go.ChangeAt Go.RowKit
set_option maxRecDepth 100000 in
theorem arg_set {H : Type} {enc : TypeId × Value → H} {W : World} {b : Nat} {v : Value} {d0 : DataW H} {q0 : List MemPlace} (o0 : Value.okWide Tryd.prog W .any b 24 v) (h0 : DataW.Trod enc Tryd.prog W 0 (fun _ => true) true 24 v d0 q0) :
    ∃ m : B256, ∀ (φ : Nat → Pl) (c : Ctx) (n : Nat), @Vrel (zoneOf W) φ c n (mkB m) v := by
  obtain ⟨x, y, z, w, h⟩ := arg_mask o0 h0
  obtain ⟨m, e0, e1, e2, e3⟩ := wd_rep (u_inQ x y z w)
  refine ⟨m, fun φ c n => ?_⟩
  have := h φ c n
  rw [e0, e1, e2, e3] at this
  exact this
set_option maxRecDepth 100000 in
theorem arg_int {H : Type} {enc : TypeId × Value → H} {W : World} {b : Nat} {v : Value} {d0 : DataW H} {q0 : List MemPlace} (o0 : Value.okWide Tryd.prog W .any b 3 v) (h0 : DataW.Trod enc Tryd.prog W 0 (fun _ => true) true 3 v d0 q0) : ∃ n : Int, v = .int .i64 n := by
  obtain ⟨x, rfl, _, _, _⟩ := open_int Tryd.underlying3 o0 h0
  exact ⟨x, rfl⟩
end Go.Proofs.YtmpokdnpkjcnbaaDoor
