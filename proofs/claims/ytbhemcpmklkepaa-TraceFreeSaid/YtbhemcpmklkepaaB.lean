/- Rows of a trace's data, and what is told first. -/
import Derived.Test.YtbhemcpmklkepaaA
import Derived.Test.YtbhemcpmklkepaaAmFlow
namespace Go.Proofs.Ytbhemcpmklkepaa
open Go.Am
noncomputable section
def bodyOf (f : FuncId) : Code := match cfg.fns f with | some i => i.body | none => .skip
def ntOf (f : FuncId) : Nat := match cfg.fns f with | some i => i.nt | none => 0
def tmS : List (Nat × Value) → Tr Value → Tr Value
  | [], t => t
  | x :: r, t => tmS r (t.put x.1 x.2)
def frS (f : FuncId) (L : List (Nat × Value)) : Fr := { fn := f, nt := ntOf f, tm := tmS L .nil, pt := .nil, loc := .nil, round := none }
def hpS : List (Nat × AObj) → Tr AObj → Tr AObj
  | [], t => t
  | x :: r, t => hpS r (t.put x.1 x.2)
def stS (L : List (Nat × AObj)) (n : Nat) : St := ⟨hpS L .nil, n⟩
def ptS : List (Nat × (Nat × Nat)) → Tr (Nat × Nat) → Tr (Nat × Nat)
  | [], t => t
  | x :: r, t => ptS r (t.put x.1 x.2)
def lcS : List (Nat × Array Value) → Tr (Array Value) → Tr (Array Value)
  | [], t => t
  | x :: r, t => lcS r (t.put x.1 x.2)
def frO (f : FuncId) (L : List (Nat × Value)) (P : List (Nat × (Nat × Nat))) (O : List (Nat × Array Value)) : Fr := { fn := f, nt := ntOf f, tm := tmS L .nil, pt := ptS P .nil, loc := lcS O .nil, round := none }
def keep (L : List Tmp) : Ex → List Tmp × List Kept
  | .normal => (L, [])
  | .exit _ => (L, [])
  | _ => ([], [])
def keepR (L R : List Tmp) : Ex → List Tmp × List Kept
  | .normal => (L, [])
  | .exit _ => (L, [])
  | .ret => (R, [])
  | _ => ([], [])
theorem frS_one (f : FuncId) (t : Tmp) (v : Value) : (frS f [(t, v)]).tm.get t = some v := by
  simp [frS, tmS, Tr.get_put]
theorem frS_two (f : FuncId) (t u : Tmp) (v w : Value) (h : t ≠ u) : (frS f [(t, v), (u, w)]).tm.get t = some v ∧ (frS f [(t, v), (u, w)]).tm.get u = some w := by
  simp [frS, tmS, Tr.get_put, h]
def nI (n : Nat) : Value := .int .i64 n
end
end Go.Proofs.Ytbhemcpmklkepaa
