/- A text as an argument. -/
import Derived.Test.YtmpokdnpkjcnbaaDoorArgs
import Derived.ChangeMaps5
namespace Go.Proofs.YtmpokdnpkjcnbaaDoor
open Go.Am Go.ChangeShapes Go.WideShapes Go.ChangeAt Go.RowKit
set_option maxRecDepth 100000 in
theorem arg_str {H : Type} {enc : TypeId × Value → H} {W : World} {b : Nat} {v : Value} {d0 : DataW H} {q0 : List MemPlace} (o0 : Value.okWide Tryd.prog W .any b 9 v) (h0 : DataW.Trod enc Tryd.prog W 0 (fun _ => true) true 9 v d0 q0) : ∃ s : ByteArray, v = .string s := by
  obtain ⟨x, rfl, _⟩ := Go.ChangeMaps.open_string Tryd.underlying9 o0 h0
  exact ⟨_, rfl⟩
end Go.Proofs.YtmpokdnpkjcnbaaDoor
