/- LadderTells: the walk, where 4 rungs lie between the times. -/
import Derived.Test.YtgakiaabcglchaaF
namespace Go.Proofs.Ytgakiaabcglchaa
theorem tells_tree4 : (fun p L W G K F C X Y => tellsC 4 p L W G K F C X Y) = tellsT 4 := by kernel_rfl
end Go.Proofs.Ytgakiaabcglchaa
