/- The laws of a trace: the document's examples. -/
import Derived.Test.YtbhemcpmklkepaaGood
import Derived.Test.YtbhemcpmklkepaaAmFlow
namespace Go.Proofs.Ytbhemcpmklkepaa
open Go.Am
noncomputable section
theorem live_true : (callT cfg noT 60 (.func (.func 8) #[] #[]) #[] (ctx0 0) st0).evalW seenOf = some (.bool true, st0) := by kernel_rfl
end
end Go.Proofs.Ytbhemcpmklkepaa
