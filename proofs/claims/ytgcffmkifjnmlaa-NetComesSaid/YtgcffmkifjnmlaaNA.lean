/- What the laws of a net share: frames, states, the document's examples. -/
import Derived.Test.YtgcffmkifjnmlaaGood
import Derived.Test.YtgcffmkifjnmlaaAmEff
import Derived.KernelRfl
namespace Go.Proofs.Ytgcffmkifjnmlaa
open Go.Am
noncomputable section
theorem live_true : (callT cfg noT 60 (.func (.func 9) #[] #[]) #[] (ctx0 0) st0).evalW seenOf = some (.bool true, st0) := by kernel_rfl
def bodyOf (f : FuncId) : Code := match cfg.fns f with | some i => i.body | none => .skip
def ntOf (f : FuncId) : Nat := match cfg.fns f with | some i => i.nt | none => 0
def tmS : List (Nat × Value) → Tr Value → Tr Value
  | [], t => t
  | x :: r, t => tmS r (t.put x.1 x.2)
def frS (f : FuncId) (L : List (Nat × Value)) : Fr := { fn := f, nt := ntOf f, tm := tmS L .nil, pt := .nil, loc := .nil, round := none }
def hpS : List (Nat × AObj) → Tr AObj → Tr AObj
  | [], t => t
  | x :: r, t => hpS r (t.put x.1 x.2)
def stS (L : List (Nat × AObj)) (n : Nat) : St := ⟨hpS L .nil, n⟩
def keep (L : List Tmp) : Ex → List Tmp × List Kept
  | .normal => (L, [])
  | .exit _ => (L, [])
  | _ => ([], [])
def keepR (L R : List Tmp) : Ex → List Tmp × List Kept
  | .normal => (L, [])
  | .exit _ => (L, [])
  | .ret => (R, [])
  | _ => ([], [])
theorem frS_one (f : FuncId) (t : Tmp) (v : Value) : (frS f [(t, v)]).tm.get t = some v := by
  simp [frS, tmS, Tr.get_put]
theorem frS_two (f : FuncId) (t u : Tmp) (v w : Value) (h : t ≠ u) : (frS f [(t, v), (u, w)]).tm.get t = some v ∧ (frS f [(t, v), (u, w)]).tm.get u = some w := by
  simp [frS, tmS, Tr.get_put, h]
def nI (n : Nat) : Value := .int .i64 n
def p0 : Value := .pointer (some ⟨0, 0, none⟩)
/-- The thing with no row, and with one. -/
def sN (j : Bool) (a b : Int) : St := netS j ⟨a, b, true, #[]⟩
def sR (j : Bool) (a b : Int) (M : Array Value) : St := netS j ⟨a, b, false, M⟩
/-- What a call leaves: its result, the box, and the row with its number. -/
def leaves (L : List Tmp) : Option (Ex × Fr × St) → Option (Ex × List (Option Value) × Option AObj × Option AObj × Option AObj × Option AObj)
  | some (ex, fr, s) => some (ex, L.map fr.tm.get, s.heap.get 0, s.heap.get 1, s.heap.get 2, s.heap.get 3)
  | none => none
end
end Go.Proofs.Ytgcffmkifjnmlaa
