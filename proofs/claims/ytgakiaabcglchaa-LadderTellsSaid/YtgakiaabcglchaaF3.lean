/- LadderTells: the walk, where 3 rungs lie between the times. -/
import Derived.Test.YtgakiaabcglchaaF
namespace Go.Proofs.Ytgakiaabcglchaa
theorem tells_tree3 : (fun p L W G K F C X Y => tellsC 3 p L W G K F C X Y) = tellsT 3 := by kernel_rfl
end Go.Proofs.Ytgakiaabcglchaa
