/- Some answers that the document gives: all the cores. -/
import Derived.Test.YtmpokdnpkjcnbaaDoorLa
namespace Go.Proofs.YtmpokdnpkjcnbaaDoor
open Go.Am
noncomputable section
theorem all_a : seenOf (call cfL 400 (.func (.func 13) #[] #[]) #[.int .i64 256] (ctx0 0) st0) = some (.tuple #[mk 18446744073709551615 18446744073709551615 18446744073709551615 18446744073709551615, .int .i64 0], st0) := by kernel_rfl
end
end Go.Proofs.YtmpokdnpkjcnbaaDoor
