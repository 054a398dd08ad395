/- LadderTells: the walk. -/
import Derived.Test.YtgakiaabcglchaaE
namespace Go.Proofs.Ytgakiaabcglchaa
open Go.Am
noncomputable section
def sameL (f : Nat → Int) : Nat → Nat → Bool
  | 0, _ => true
  | n + 1, i => bif f i != f i then false else sameL f n (i + 1)
def tellsT (n : Nat) (p : Fs) (L W G K F C X Y : Int) : Bool :=
  bif p.ck L W G K == p.ck L W G K then bif p.en L W G K F C == p.en L W G K F C then
  bif p.r0 L W G K F C != p.r0 L W G K F C then false else bif p.r1 L W G K F C != p.r1 L W G K F C then false else bif p.en L W G K F C != p.en L W G K F C then false else
  bif p.r3 L W G K F C != p.r3 L W G K F C then false else bif p.r4 L W G K F C != p.r4 L W G K F C then false else
  bif p.st L W G K F C X == p.st L W G K F C X then bif p.pg L W G K F C X Y then bif p.pg L W G K F C X Y then sameL (fun i => p.pe i L W G K F C X Y) n 0 else false else false else false else false else false
def tellsC (n : Nat) (p : Fs) (L W G K F C X Y : Int) : Bool := (callT (cfg4 p n) (t4 p n) 60 (.func (.func 3) #[] #[]) #[pl L W G K, rn F C, .agg #[.int .i64 X, .int .i64 Y]] (ctx0 0) st0).evalW Proofs.Ytgakiaabcglchaa.isTrue
end
end Go.Proofs.Ytgakiaabcglchaa
