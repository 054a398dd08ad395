/- LadderGrace: the walk. -/
import Derived.Test.YtgakiaabcglchaaE
namespace Go.Proofs.Ytgakiaabcglchaa
open Go.Am
noncomputable section
def graceT (p : Fs) (L W G K F C : Int) : Bool :=
  bif decide (p.en L W G K F C < 0) then (bif p.en L W G K F C == -1 then true else false) else
  bif p.en L W G K F C != p.en L W G K F C then false else bif IntKind.wrap .i64 (p.r3 L W G K F C - p.en L W G K F C) != G then false else
  bif IntKind.wrap .i64 (p.r4 L W G K F C - p.r3 L W G K F C) != K then false else bif decide (p.en L W G K F C > p.en L W G K F (-1)) then false else
  bif decide (p.en L W G K F C < F) then false else bif decide (p.r1 L W G K F C > p.en L W G K F C) then false else
  bif decide (p.st L W G K F C (p.en L W G K F C) ≥ 2) then
    (bif G == 0 then (bif p.st L W G K F C (IntKind.wrap .i64 (IntKind.wrap .i64 (p.en L W G K F C + G) + K)) == 4 then true else false)
     else bif p.st L W G K F C (IntKind.wrap .i64 (IntKind.wrap .i64 (p.en L W G K F C + G) - 1)) == 2 then (bif p.st L W G K F C (IntKind.wrap .i64 (IntKind.wrap .i64 (p.en L W G K F C + G) + K)) == 4 then true else false) else false)
  else false
theorem grace_tree : (fun p L W G K F C => (callT (cfg4 p 0) (t4 p 0) 60 (.func (.func 5) #[] #[]) #[pl L W G K, rn F C] (ctx0 0) st0).evalW Proofs.Ytgakiaabcglchaa.isTrue) = graceT := by kernel_rfl
end
end Go.Proofs.Ytgakiaabcglchaa
