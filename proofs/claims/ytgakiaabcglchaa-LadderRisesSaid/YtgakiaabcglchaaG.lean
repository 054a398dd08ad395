/- LadderRises: the walk. -/
import Derived.Test.YtgakiaabcglchaaE
namespace Go.Proofs.Ytgakiaabcglchaa
open Go.Am
noncomputable section
def riseL (f : Nat → Int) (a : Int) : Nat → Nat → Int → Bool
  | 0, _, _ => true
  | n + 1, i, k => bif f i != IntKind.wrap .i64 (IntKind.wrap .i64 (a + 1) + k) then false else riseL f a n (i + 1) (IntKind.wrap .i64 (k + 1))
def risesT (n : Nat) (p : Fs) (L W G K F C X Y : Int) : Bool :=
  bif decide (X > Y) then true else bif decide (p.en L W G K F C < 0) then true else
  bif p.pg L W G K F C X Y then
    bif decide (p.st L W G K F C X > p.st L W G K F C Y) then false else
    bif Int.ofNat n != IntKind.wrap .i64 (p.st L W G K F C Y - p.st L W G K F C X) then false else riseL (fun i => p.pe i L W G K F C X Y) (p.st L W G K F C X) n 0 0
  else false
def risesC (n : Nat) (p : Fs) (L W G K F C X Y : Int) : Bool := (callT (cfg4 p n) (t4 p n) 60 (.func (.func 4) #[] #[]) #[pl L W G K, rn F C, .agg #[.int .i64 X, .int .i64 Y]] (ctx0 0) st0).evalW Proofs.Ytgakiaabcglchaa.isTrue
theorem rises_tree : (fun p L W G K F C X Y => [risesC 0 p L W G K F C X Y, risesC 1 p L W G K F C X Y, risesC 2 p L W G K F C X Y, risesC 3 p L W G K F C X Y, risesC 4 p L W G K F C X Y, risesC 5 p L W G K F C X Y]) =
    (fun p L W G K F C X Y => [risesT 0 p L W G K F C X Y, risesT 1 p L W G K F C X Y, risesT 2 p L W G K F C X Y, risesT 3 p L W G K F C X Y, risesT 4 p L W G K F C X Y, risesT 5 p L W G K F C X Y]) := by kernel_rfl
end
end Go.Proofs.Ytgakiaabcglchaa
