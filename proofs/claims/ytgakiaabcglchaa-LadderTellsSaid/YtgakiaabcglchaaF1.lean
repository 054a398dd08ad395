/- LadderTells: the walk, where 1 rungs lie between the times. -/
import Derived.Test.YtgakiaabcglchaaF
namespace Go.Proofs.Ytgakiaabcglchaa
theorem tells_tree1 : (fun p L W G K F C X Y => tellsC 1 p L W G K F C X Y) = tellsT 1 := by kernel_rfl
end Go.Proofs.Ytgakiaabcglchaa
