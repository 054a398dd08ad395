/- Tables of the abstract machine for this seat: which functions there are, which variables are a function's own, which slots mean nothing at a loop's head. Written by prep.py. -/
import Derived.Test.YtgcffmkifjnmlaaProg
import Derived.Test.YtgcffmkifjnmlaaAmRun
namespace Go.Proofs.Ytgcffmkifjnmlaa
open Go.Am

def fnI (f : Func) (pure : Bool) : Option FnI := f.body.map fun b => { body := b, nt := f.ntmps, results := f.results.toList, pure }
noncomputable def fns : FuncId → Option FnI
  | 3 => fnI Try.f3 false  -- roundhouse/roundhouselaw19.NetScripts
  | 4 => fnI Try.f4 false  -- roundhouse/roundhouselaw19.NetComes
  | 5 => fnI Try.f5 false  -- roundhouse/roundhouselaw19.NetNil
  | 6 => fnI Try.f6 false  -- roundhouse/roundhouselaw19.NetOrder
  | 7 => fnI Try.f7 false  -- roundhouse/roundhouselaw19.NetTurns
  | 8 => fnI Try.f8 false  -- roundhouse/roundhouselaw19.small
  | 9 => fnI Try.f9 false  -- roundhouse/roundhouselaw19.live
  | 10 => fnI Try.f10 false  -- roundhouse/net.New
  | 11 => fnI Try.f11 false  -- roundhouse/roundhouseref19.New
  | 12 => fnI Try.f12 false  -- roundhouse/roundhouselaw19.does
  | 13 => fnI Try.f13 false  -- roundhouse/roundhouseref19.Same
  | 14 => fnI Try.f14 false  -- (*roundhouse/net.Net).List
  | 15 => fnI Try.f15 false  -- (*roundhouse/net.Net).Lost
  | 16 => fnI Try.f16 false  -- (*roundhouse/net.Net).Send
  | 17 => fnI Try.f17 false  -- (*roundhouse/net.Net).Take
  | 18 => fnI Try.f18 false  -- roundhouse/roundhouselaw19.count
  | 19 => fnI Try.f19 false  -- (*roundhouse/net.Net).Drop
  | 20 => fnI Try.f20 false  -- (*roundhouse/net.Net).Twice
  | 21 => fnI Try.f21 false  -- (*roundhouse/roundhouseref19.Net).Send
  | 22 => fnI Try.f22 false  -- (*roundhouse/roundhouseref19.Net).Take
  | 23 => fnI Try.f23 false  -- (*roundhouse/roundhouseref19.Net).Drop
  | 24 => fnI Try.f24 false  -- (*roundhouse/roundhouseref19.Net).Twice
  | 25 => fnI Try.f25 false  -- slices.Clone[[]string,string]
  | 26 => fnI Try.f26 false  -- (*roundhouse/net.Net).place
  | 27 => fnI Try.f27 false  -- roundhouse/net.without[string]
  | 28 => fnI Try.f28 false  -- (*roundhouse/roundhouseref19.Net).place
  | 29 => fnI Try.f29 false  -- slices.Delete[[]string,string]
  | _ => none
def locL : FuncId → List Tmp
  | 5 => [1]
  | 12 => [5]
  | _ => []
def dropL : FuncId → List (Nat × List Tmp)
  | 3 => [(10, [25, 26, 29, 31, 32, 33, 34, 39, 40, 42, 49, 50, 52])]
  | 4 => [(10, [10, 11, 25, 26, 29, 31, 32, 36, 38, 39, 40, 45, 46, 47, 52, 53, 54, 60, 62, 63, 64, 65, 72, 73, 74, 75, 79, 80, 82, 84, 85, 86, 91, 93, 94, 95, 100, 102, 103, 104, 107, 112, 113, 116])]
  | 6 => [(8, [8, 9, 49, 50, 52, 54, 55, 59, 61, 62, 63, 64])]
  | 8 => [(2, [6, 7, 10, 12, 13])]
  | 13 => [(4, [11, 12, 15, 17, 18, 21, 22])]
  | 18 => [(3, [7, 8, 11, 13, 14, 17, 19])]
  | 21 => [(3, [7, 8, 11, 13, 18, 23, 25, 30, 31, 38, 40])]
  | 22 => [(7, [22, 23, 29, 31, 32, 34, 35, 39])]
  | _ => []
noncomputable def cfg : Cfg := { P := Try.prog, ng := 0, fns := fns, hand := fun _ => none, loc := fun f t => (locL f).contains t, drop := fun f k t => ((dropL f).lookup k).any (·.contains t) }
end Go.Proofs.Ytgcffmkifjnmlaa
