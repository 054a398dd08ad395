/- Tables of the abstract machine for this seat: which functions there are, which variables are a function's own, which slots mean nothing at a loop's head. Written by prep.py. -/
import Derived.Test.YtbhemcpmklkepaaProg
import Derived.Test.YtbhemcpmklkepaaAmRun
namespace Go.Proofs.Ytbhemcpmklkepaa
open Go.Am

def fnI (f : Func) (pure : Bool) : Option FnI := f.body.map fun b => { body := b, nt := f.ntmps, results := f.results.toList, pure }
noncomputable def fns : FuncId → Option FnI
  | 3 => fnI Try.f3 false  -- roundhouse/roundhouselaw21.TraceOwns
  | 4 => fnI Try.f4 false  -- roundhouse/roundhouselaw21.TracePrefix
  | 5 => fnI Try.f5 false  -- roundhouse/roundhouselaw21.TraceTwice
  | 6 => fnI Try.f6 false  -- roundhouse/roundhouselaw21.TraceFree
  | 7 => fnI Try.f7 false  -- roundhouse/roundhouselaw21.small
  | 8 => fnI Try.f8 false  -- roundhouse/roundhouselaw21.live
  | 9 => fnI Try.f9 false  -- roundhouse/trace.Owned
  | 10 => fnI Try.f10 false  -- roundhouse/roundhouselaw21.own
  | 11 => fnI Try.f11 false  -- roundhouse/roundhouseref21.Owned
  | 12 => fnI Try.f12 false  -- roundhouse/trace.Ended
  | 13 => fnI Try.f13 false  -- roundhouse/roundhouseref21.Ended
  | 14 => fnI Try.f14 false  -- roundhouse/trace.Check
  | 15 => fnI Try.f15 false  -- roundhouse/roundhouseref21.Small
  | 16 => fnI Try.f16 false  -- roundhouse/trace.World
  | 17 => fnI Try.f17 false  -- roundhouse/trace.told
  | 18 => fnI Try.f18 false  -- (roundhouse/trace.past).any
  | 19 => fnI Try.f19 false  -- roundhouse/roundhouseref21.Told
  | 20 => fnI Try.f20 false  -- roundhouse/roundhouseref21.seen
  | 21 => fnI Try.f21 false  -- slices.ContainsFunc[[]int,int]
  | 22 => fnI Try.f22 false  -- roundhouse/trace.Ended$1
  | 23 => fnI Try.f23 false  -- (roundhouse/trace.past).may
  | 24 => fnI Try.f24 false  -- (*roundhouse/world.World).Given
  | 25 => fnI Try.f25 false  -- (*roundhouse/world.World).Events
  | 26 => fnI Try.f26 false  -- roundhouse/trace.whole
  | 27 => fnI Try.f27 false  -- slices.Contains[[]int,int]
  | 28 => fnI Try.f28 false  -- (roundhouse/trace.past).any$1
  | 29 => fnI Try.f29 false  -- (roundhouse/trace.past).first
  | 30 => fnI Try.f30 false  -- roundhouse/roundhouseref21.whole
  | 31 => fnI Try.f31 false  -- slices.IndexFunc[[]int,int]
  | 32 => fnI Try.f32 false  -- (roundhouse/trace.past).begins
  | 33 => fnI Try.f33 false  -- (roundhouse/trace.past).turns
  | 34 => fnI Try.f34 false  -- (roundhouse/trace.past).alive
  | 35 => fnI Try.f35 false  -- (roundhouse/trace.past).going
  | 36 => fnI Try.f36 false  -- (roundhouse/trace.past).coded
  | 37 => fnI Try.f37 false  -- slices.Clone[[]roundhouse/api.Job,roundhouse/api.Job]
  | 38 => fnI Try.f38 false  -- slices.Clone[[]roundhouse/world.Event,roundhouse/world.Event]
  | 39 => fnI Try.f39 false  -- slices.Index[[]int,int]
  | 40 => fnI Try.f40 false  -- (roundhouse/trace.past).of
  | 41 => fnI Try.f41 false  -- (roundhouse/trace.past).goes
  | 42 => fnI Try.f42 false  -- slices.ContainsFunc[roundhouse/trace.past,roundhouse/world.Event]
  | 43 => fnI Try.f43 false  -- (roundhouse/trace.past).alive$1
  | 44 => fnI Try.f44 false  -- (roundhouse/trace.past).holds
  | 45 => fnI Try.f45 false  -- (roundhouse/trace.past).going$1
  | 46 => fnI Try.f46 false  -- slices.Max[[]int,int]
  | 47 => fnI Try.f47 false  -- (roundhouse/trace.past).of$1
  | 48 => fnI Try.f48 false  -- slices.IndexFunc[roundhouse/trace.past,roundhouse/world.Event]
  | 49 => fnI Try.f49 false  -- (roundhouse/trace.past).code
  | _ => none
def locL : FuncId → List Tmp
  | 3 => [5]
  | 9 => [9, 10]
  | 10 => [5]
  | 11 => [9, 11]
  | 13 => [10]
  | 14 => [7]
  | 15 => [5]
  | 17 => [3, 5]
  | 19 => [3, 5]
  | 20 => [5, 8]
  | 23 => [4, 5]
  | 28 => [5]
  | 29 => [5, 9]
  | 32 => [3, 5]
  | 33 => [3]
  | 35 => [4, 8]
  | 36 => [4, 5, 10]
  | 41 => [3]
  | 43 => [3]
  | 44 => [4, 5]
  | 47 => [6]
  | 49 => [4, 7]
  | _ => []
def dropL : FuncId → List (Nat × List Tmp)
  | 6 => [(4, [19, 20, 23, 25, 26]), (12, [49, 50, 56, 58, 59, 61, 65])]
  | 9 => [(3, [8, 15, 21, 24, 27, 28, 33, 34, 35, 42, 53])]
  | 10 => [(3, [6, 7, 10, 12, 13, 16])]
  | 11 => [(3, [10, 12, 13, 16, 18, 19, 25, 28, 31, 32, 37, 38, 41, 45, 46, 51, 62])]
  | 13 => [(4, [19, 20, 21, 28, 30, 31, 36, 39, 40, 42, 46, 47])]
  | 14 => [(2, [6, 12, 15, 19, 20, 21, 23, 32])]
  | 15 => [(2, [4, 6, 7, 10, 12, 13, 19, 20, 21, 28, 29, 30, 36, 38, 39, 43, 50, 55, 60, 65]), (7, [28, 29, 30, 36, 38, 39, 43, 50, 55, 60, 65])]
  | 19 => [(11, [64, 69, 73])]
  | 20 => [(2, [9, 10, 13, 15, 16, 21, 23, 30, 37, 44, 45, 47, 55])]
  | 31 => [(2, [5, 10, 11, 12, 13, 17])]
  | 36 => [(7, [9, 11, 37, 39, 40, 45, 47])]
  | 39 => [(2, [5, 10, 11, 12, 13, 17])]
  | 46 => [(5, [12, 13, 16, 18, 19, 20])]
  | 47 => [(1, [5, 11, 18, 25, 32, 39, 43, 51, 52])]
  | 48 => [(2, [5, 10, 11, 12, 13, 17])]
  | _ => []
noncomputable def cfg : Cfg := { P := Try.prog, ng := 0, fns := fns, hand := fun _ => none, loc := fun f t => (locL f).contains t, drop := fun f k t => ((dropL f).lookup k).any (·.contains t) }
end Go.Proofs.Ytbhemcpmklkepaa
