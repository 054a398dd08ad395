/- LadderTells: the walk, where 2 rungs lie between the times. -/
import Derived.Test.YtgakiaabcglchaaF
namespace Go.Proofs.Ytgakiaabcglchaa
theorem tells_tree2 : (fun p L W G K F C X Y => tellsC 2 p L W G K F C X Y) = tellsT 2 := by kernel_rfl
end Go.Proofs.Ytgakiaabcglchaa
