/- Are two lists of texts the same: the walk. -/
import Derived.Test.YtgcffmkifjnmlaaA
import Derived.Test.YtgcffmkifjnmlaaAmFn
namespace Go.Proofs.Ytgcffmkifjnmlaa
open Go.Am
noncomputable section
def b13 : Code := bodyOf 13
def pre13 : List Code := [cL b13, cL (cR b13)]
def rest13 : Code := cR (cR b13)
def tail13 : Code := cR rest13
def loop13 : Code := cB (cB (cR (cL rest13)))
theorem b13_eq : b13 = nest pre13 rest13 := by kernel_rfl
theorem rest13_eq : rest13 = .seq (.seq (cL (cL rest13)) (.block 0 (.loop loop13))) tail13 := by kernel_rfl
abbrev c2 : Ctx := { floor := 2, own := [], hide := [] }
def frS0 (ox la ca oy lb cb : Nat) : Fr := frame0 13 (ntOf 13) #[.slice (some ⟨0, ox, none⟩) la ca, .slice (some ⟨1, oy, none⟩) lb cb]
def tmS : List (Nat × Value) → Tr Value → Tr Value
  | [], t => t
  | x :: r, t => tmS r (t.put x.1 x.2)
def frS1 (ox la ca oy lb cb : Nat) : Fr := { fn := 13, nt := 26, tm := tmS [(0, .slice (some ⟨0, ox, none⟩) la ca), (1, .slice (some ⟨1, oy, none⟩) lb cb)] .nil, pt := .nil, loc := .nil, round := none }
def frS (ox la ca oy lb cb : Nat) (i : Int) : Fr := { fn := 13, nt := 26, tm := tmS [(0, .slice (some ⟨0, ox, none⟩) la ca), (1, .slice (some ⟨1, oy, none⟩) lb cb), (5, .int .i64 i)] .nil, pt := .nil, loc := .nil, round := none }
def sS (X Y : Array Value) (px py : Bool) : St := ⟨(Tr.nil.put 0 (.cells X 1 px)).put 1 (.cells Y 1 py), 2⟩
def frT (b : Bool) : Fr := { fn := 13, nt := 26, tm := tmS [(4, .bool b)] .nil, pt := .nil, loc := .nil, round := none }
def selP : Ex → List Tmp × List Kept
  | .normal => ([0, 1], [.plain 0, .plain 1])
  | .ret => ([4], [])
  | _ => ([], [])
def selQ : Ex → List Tmp × List Kept
  | .normal => ([0, 1, 5], [.plain 0, .plain 1])
  | .exit 0 => ([0, 1, 5], [.plain 0, .plain 1])
  | .ret => ([4], [])
  | _ => ([], [])
end
end Go.Proofs.Ytgcffmkifjnmlaa
