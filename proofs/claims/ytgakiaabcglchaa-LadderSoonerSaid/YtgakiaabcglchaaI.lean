/- LadderSooner: the walk. -/
import Derived.Test.YtgakiaabcglchaaE
namespace Go.Proofs.Ytgakiaabcglchaa
open Go.Am
noncomputable section
def soon2 (p : Fs) (L W G K F C : Int) : Bool :=
  bif decide (L < 2) then true else bif decide (W > IntKind.wrap .i64 (L - 1)) then true else
  bif decide (p.r0 (IntKind.wrap .i64 (L - 1)) W G K F C > p.r0 L W G K F C) then false else bif decide (p.r1 (IntKind.wrap .i64 (L - 1)) W G K F C > p.r1 L W G K F C) then false else
  bif decide (p.en (IntKind.wrap .i64 (L - 1)) W G K F C > p.en L W G K F C) then false else bif decide (p.r3 (IntKind.wrap .i64 (L - 1)) W G K F C > p.r3 L W G K F C) then false else
  bif decide (p.r4 (IntKind.wrap .i64 (L - 1)) W G K F C > p.r4 L W G K F C) then false else true
def soon1 (p : Fs) (L W G K F C Z : Int) : Bool :=
  bif decide (p.r0 L W G K F Z > p.r0 L W G K F C) then false else bif decide (p.r1 L W G K F Z > p.r1 L W G K F C) then false else bif decide (p.en L W G K F Z > p.en L W G K F C) then false else
  bif decide (p.r3 L W G K F Z > p.r3 L W G K F C) then false else bif decide (p.r4 L W G K F Z > p.r4 L W G K F C) then false else soon2 p L W G K F C
def soonerT (p : Fs) (L W G K F C Z : Int) : Bool :=
  bif decide (p.r0 L W G K F C < 0) then true else bif decide (p.r0 L W G K F Z < 0) then true else bif decide (Z < 0) then true else
  bif decide (C ≥ 0) then (bif decide (Z > C) then true else soon1 p L W G K F C Z) else soon1 p L W G K F C Z
theorem sooner_tree : (fun p L W G K F C Z => (callT (cfg4 p 0) (t4 p 0) 60 (.func (.func 7) #[] #[]) #[pl L W G K, rn F C, .int .i64 Z] (ctx0 0) st0).evalW Proofs.Ytgakiaabcglchaa.isTrue) = soonerT := by kernel_rfl
end
end Go.Proofs.Ytgakiaabcglchaa
