/- How many cores has a mask? -/
import Derived.Test.YtmpokdnpkjcnbaaDoorE
import Derived.Test.YtmpokdnpkjcnbaaDoorAmEff
namespace Go.Proofs.YtmpokdnpkjcnbaaDoor
open Go.Am
noncomputable section
def bodyOf (f : FuncId) : Code := match cfg.fns f with | some i => i.body | none => .skip
def ntOf (f : FuncId) : Nat := match cfg.fns f with | some i => i.nt | none => 0
def tmS : List (Nat × Value) → Tr Value → Tr Value
  | [], t => t
  | x :: r, t => tmS r (t.put x.1 x.2)
def frS (f : FuncId) (L : List (Nat × Value)) : Fr := { fn := f, nt := ntOf f, tm := tmS L .nil, pt := .nil, loc := .nil, round := none }
def hpS : List (Nat × AObj) → Tr AObj → Tr AObj
  | [], t => t
  | x :: r, t => hpS r (t.put x.1 x.2)
def stS (L : List (Nat × AObj)) (n : Nat) : St := ⟨hpS L .nil, n⟩
def cN : Nat → Code → Code
  | 0, c => c
  | n + 1, c => cN n (cR c)
def pt' (i : Nat) : Value := .pointer (some ⟨i, 0, none⟩)
def kp (L : List Tmp) (ks : List Kept) : Ex → List Tmp × List Kept := fun _ => (L, ks)
def showH (L : List Nat) (K : List Nat) : Option (Ex × Fr × St) → Option (Ex × (FuncId × Nat × Option Nat) × List (Option Value) × List (Option (Nat × Nat)) × List (Option AObj) × Nat)
  | some (ex, fr, s) => some (ex, (fr.fn, fr.nt, fr.round), L.map fr.tm.get, L.map fr.pt.get, K.map s.heap.get, s.next)
  | none => none
def assignOf : Code → Code
  | .rangeFunc _ _ a _ => a
  | c => c
def rbodyOf : Code → Code
  | .rangeFunc _ _ _ b => b
  | c => c
def b18 : Code := bodyOf 18
def b52 : Code := bodyOf 52
def rng18 : Code := cB (cR (cL (cN 2 b18)))
def k52 : Code := cB (cB (cR b52))
theorem b18_eq : b18 = nest [cL b18, cL (cN 1 b18)] (.seq (.seq (cL (cL (cN 2 b18))) (.block 0 (.rangeFunc (.tmp 5) #[6] (assignOf rng18) (rbodyOf rng18)))) (cN 3 b18)) := by kernel_rfl
theorem b52_eq : b52 = .seq (cL b52) (.block 0 (.loop k52)) := by kernel_rfl
def mkC (a b c d : Int) : Array Value := ⟨[.int .u64 a, .int .u64 b, .int .u64 c, .int .u64 d]⟩
def frZ18 (a b c d : Int) : Fr := { fn := 18, nt := ntOf 18, tm := tmS [(3, pt' 0)] .nil, pt := Tr.nil.put 1 (1, 0), loc := Tr.nil.put 1 (mkC a b c d), round := none }
def sZ18 : St := stS [(0, .cells #[.int .i64 0] 1 false)] 1
def frA18 : Fr := frS 18 [(3, pt' 0), (5, .func (.func 52) #[] #[pt' 1])]
def hp18 (a b c d n : Int) : List (Nat × AObj) := [(0, .cells #[.int .i64 n] 1 false), (1, .cells (mkC a b c d) 1 false)]
def sA18 (a b c d n : Int) : St := stS (hp18 a b c d n) 2
def loop18 (tm : Tr Value) (st : LoopState) (pd : Option Code) : LoopRec := { fn := 18, nt := ntOf 18, tm := tm, params := #[6], assign := assignOf rng18, body := rbodyOf rng18, state := st, pending := pd }
def tmL18 : Tr Value := tmS [(3, pt' 0)] .nil
def sL18 (a b c d n : Int) : St := stS (hp18 a b c d n ++ [(2, .loop (loop18 tmL18 .ready none))]) 3
def fr52 (y : Nat) (i : Int) : Fr := frS 52 [(0, .func (.yield y) #[] #[]), (1, pt' 1), (4, .int .i64 i)]
def sel52 : Ex → List Tmp × List Kept := fun _ => ([0, 1, 4], [.cells 0, .cells 1, .loop 2 [3]])
def inc (i : Int) : Int := IntKind.wrap .i64 (i + 1)
def unl (y : Nat) (s : St) : St := { s with heap := s.heap.set y none }
theorem s18a_k : (fun (a b c d : Int) => (codeT cfB (callT cfB tB 60) 60 cz (seqOf [cL b18, cL (cN 1 b18)]) (frame0 18 (ntOf 18) #[mk a b c d]) st0).evalM (gcObs 0 0 (kp [1, 3] [.cells 0]))) = fun (a b c d : Int) => some (.normal, frZ18 a b c d, sZ18) := by kernel_rfl
theorem s18a (a b c d : Int) : (codeT cfB (callT cfB tB 60) 60 cz (seqOf [cL b18, cL (cN 1 b18)]) (frame0 18 (ntOf 18) #[mk a b c d]) st0).evalM (gcObs 0 0 (kp [1, 3] [.cells 0])) = some (.normal, frZ18 a b c d, sZ18) := congrFun (congrFun (congrFun (congrFun s18a_k a) b) c) d
theorem s18b_k : (fun (a b c d : Int) => (codeT cfB (callT cfB tB 60) 60 cz (cL (cL (cN 2 b18))) (frZ18 a b c d) sZ18).evalM (gcObs 0 0 (kp [3, 5] [.cells 0, .cells 1]))) = fun (a b c d : Int) => some (.normal, frA18, sA18 a b c d 0) := by kernel_rfl
theorem s18b (a b c d : Int) : (codeT cfB (callT cfB tB 60) 60 cz (cL (cL (cN 2 b18))) (frZ18 a b c d) sZ18).evalM (gcObs 0 0 (kp [3, 5] [.cells 0, .cells 1])) = some (.normal, frA18, sA18 a b c d 0) := congrFun (congrFun (congrFun (congrFun s18b_k a) b) c) d
theorem i52_k : (fun (a b c d : Int) => (codeT cfB (callT cfB tB 60) 60 cz (seqOf [cL b52]) (frame0 52 (ntOf 52) #[.func (.yield 2) #[] #[], pt' 1]) ((sA18 a b c d 0).new (.loop (loop18 frA18.tm .ready none)))).evalM (gcObs 0 0 sel52)) = fun (a b c d : Int) => some (.normal, fr52 2 0, sL18 a b c d 0) := by kernel_rfl
theorem i52 (a b c d : Int) : (codeT cfB (callT cfB tB 60) 60 cz (seqOf [cL b52]) (frame0 52 (ntOf 52) #[.func (.yield 2) #[] #[], pt' 1]) ((sA18 a b c d 0).new (.loop (loop18 frA18.tm .ready none)))).evalM (gcObs 0 0 sel52) = some (.normal, fr52 2 0, sL18 a b c d 0) := congrFun (congrFun (congrFun (congrFun i52_k a) b) c) d
theorem r52_k : (fun (a b c d n i : Int) => (codeT cfB (callT cfB tB 60) 60 cz k52 (fr52 2 i) (sL18 a b c d n)).evalM (gcObs 0 0 sel52)) = fun (a b c d n i : Int) => bif decide (i < 256) then (bif inQ a b c d then (bif hasB a b c d i then some (.normal, fr52 2 (inc i), sL18 a b c d (inc n)) else some (.normal, fr52 2 (inc i), sL18 a b c d n)) else none) else some (.exit 0, fr52 2 i, sL18 a b c d n) := by kernel_rfl
theorem r52 (a b c d n i : Int) : (codeT cfB (callT cfB tB 60) 60 cz k52 (fr52 2 i) (sL18 a b c d n)).evalM (gcObs 0 0 sel52) = bif decide (i < 256) then (bif inQ a b c d then (bif hasB a b c d i then some (.normal, fr52 2 (inc i), sL18 a b c d (inc n)) else some (.normal, fr52 2 (inc i), sL18 a b c d n)) else none) else some (.exit 0, fr52 2 i, sL18 a b c d n) := congrFun (congrFun (congrFun (congrFun (congrFun (congrFun r52_k a) b) c) d) n) i
theorem s18c_k : (fun (a b c d n : Int) => (codeT cfB (callT cfB tB 60) 60 cz (cN 3 b18) frA18 (unl 2 (sL18 a b c d n))).evalM (gcObs 0 0 (kp [2] []))) = fun (_ _ _ _ n : Int) => some (.ret, frS 18 [(2, .int .i64 n)], st0) := by kernel_rfl
theorem s18c (a b c d n : Int) : (codeT cfB (callT cfB tB 60) 60 cz (cN 3 b18) frA18 (unl 2 (sL18 a b c d n))).evalM (gcObs 0 0 (kp [2] [])) = some (.ret, frS 18 [(2, .int .i64 n)], st0) := congrFun (congrFun (congrFun (congrFun (congrFun s18c_k a) b) c) d) n
end
end Go.Proofs.YtmpokdnpkjcnbaaDoor
