/- Tables of the abstract machine for this seat: which functions there are, which variables are a function's own, which slots mean nothing at a loop's head. Written by prep.py. -/
import Derived.Test.YtgakiaabcglchaaProg
import Derived.Test.YtgakiaabcglchaaAmRun
namespace Go.Proofs.Ytgakiaabcglchaa
open Go.Am

def fnI (f : Func) (pure : Bool) : Option FnI := f.body.map fun b => { body := b, nt := f.ntmps, results := f.results.toList, pure }
noncomputable def fns : FuncId → Option FnI
  | 3 => fnI Try.f3 false  -- roundhouse/roundhouselaw10.LadderTells
  | 4 => fnI Try.f4 false  -- roundhouse/roundhouselaw10.LadderRises
  | 5 => fnI Try.f5 false  -- roundhouse/roundhouselaw10.LadderGrace
  | 6 => fnI Try.f6 false  -- roundhouse/roundhouselaw10.LadderMoved
  | 7 => fnI Try.f7 false  -- roundhouse/roundhouselaw10.LadderSooner
  | 8 => fnI Try.f8 false  -- roundhouse/roundhouselaw10.own
  | 9 => fnI Try.f9 false  -- roundhouse/ladder.Rungs
  | 10 => fnI Try.f10 false  -- roundhouse/ladder.Check
  | 11 => fnI Try.f11 false  -- roundhouse/roundhouseref10.Check
  | 12 => fnI Try.f12 false  -- roundhouse/ladder.End
  | 13 => fnI Try.f13 false  -- roundhouse/roundhouseref10.End
  | 14 => fnI Try.f14 false  -- roundhouse/roundhouseref02.Same
  | 15 => fnI Try.f15 false  -- roundhouse/roundhouseref10.Rungs
  | 16 => fnI Try.f16 false  -- roundhouse/ladder.Stage
  | 17 => fnI Try.f17 false  -- roundhouse/roundhouseref10.Stage
  | 18 => fnI Try.f18 false  -- roundhouse/ladder.Between
  | 19 => fnI Try.f19 false  -- roundhouse/roundhouseref10.Between
  | 20 => fnI Try.f20 false  -- roundhouse/roundhouselaw10.live
  | 21 => fnI Try.f21 false  -- roundhouse/ladder.in
  | 22 => fnI Try.f22 false  -- roundhouse/ladder.may
  | 23 => fnI Try.f23 false  -- roundhouse/roundhouseref10.May
  | 24 => fnI Try.f24 false  -- slices.Backward[[]int,int]
  | 25 => fnI Try.f25 false  -- slices.Backward[[]int,int]$1
  | _ => none
def locL : FuncId → List Tmp
  | 3 => [3, 4, 5, 7, 8]
  | 4 => [3, 4, 5, 7, 8]
  | 5 => [2, 3, 5, 6, 8, 9]
  | 6 => [3, 4, 7, 8, 9, 10, 11]
  | 7 => [3, 4, 7, 8, 9, 10, 11, 13]
  | 8 => [2, 3, 4, 5]
  | 9 => [2, 3, 4]
  | 10 => [1]
  | 11 => [1]
  | 12 => [2, 3]
  | 13 => [2, 3]
  | 15 => [2, 3]
  | 16 => [3, 4]
  | 17 => [3, 4]
  | 18 => [4, 5]
  | 19 => [4, 5]
  | 20 => [1, 2, 3]
  | 22 => [2, 3]
  | 23 => [2, 3]
  | _ => []
def dropL : FuncId → List (Nat × List Tmp)
  | 4 => [(10, [59, 60, 63, 65, 66, 69, 71])]
  | 6 => [(11, [61, 63, 65, 69, 70, 73, 76, 80, 84, 85, 88])]
  | 7 => [(9, [54, 56, 58, 61]), (18, [84, 86, 88, 91])]
  | 14 => [(4, [11, 12, 15, 17, 18, 21, 22])]
  | 17 => [(6, [17, 19, 21, 22, 25, 27])]
  | 18 => [(5, [10, 11, 21, 23, 24, 26, 27, 28, 31, 32])]
  | 19 => [(6, [19, 21, 23, 24, 27, 29, 30, 31, 34, 37, 38])]
  | 25 => [(1, [7, 9, 11, 12, 14])]
  | _ => []
noncomputable def cfg : Cfg := { P := Try.prog, ng := 0, fns := fns, hand := fun _ => none, loc := fun f t => (locL f).contains t, drop := fun f k t => ((dropL f).lookup k).any (·.contains t) }
end Go.Proofs.Ytgakiaabcglchaa
