/- Some answers that the document gives: a list. -/
import Derived.Test.YtmpokdnpkjcnbaaDoorLa
namespace Go.Proofs.YtmpokdnpkjcnbaaDoor
open Go.Am
noncomputable section
theorem list_a : seenOf (call cfL 400 (.func (.func 17) #[] #[]) #[mA] (ctx0 0) st0) = some (.slice (some ⟨0, 0, none⟩) 4 4, ⟨Tr.put .nil 0 (.cells #[.int .i64 1, .int .i64 2, .int .i64 5, .int .i64 255] 1 true), 1⟩) := by kernel_rfl
end
end Go.Proofs.YtmpokdnpkjcnbaaDoor
