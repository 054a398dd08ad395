/- LadderTells: the walk, where 5 rungs lie between the times. -/
import Derived.Test.YtgakiaabcglchaaF
namespace Go.Proofs.Ytgakiaabcglchaa
theorem tells_tree5 : (fun p L W G K F C X Y => tellsC 5 p L W G K F C X Y) = tellsT 5 := by kernel_rfl
end Go.Proofs.Ytgakiaabcglchaa
