/- LadderTells: the walk, where 0 rungs lie between the times. -/
import Derived.Test.YtgakiaabcglchaaF
namespace Go.Proofs.Ytgakiaabcglchaa
theorem tells_tree0 : (fun p L W G K F C X Y => tellsC 0 p L W G K F C X Y) = tellsT 0 := by kernel_rfl
end Go.Proofs.Ytgakiaabcglchaa
