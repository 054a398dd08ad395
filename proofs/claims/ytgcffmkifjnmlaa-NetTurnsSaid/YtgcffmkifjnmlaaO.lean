/- NetOrder: the walk. -/
import Derived.Test.YtgcffmkifjnmlaaA
namespace Go.Proofs.Ytgcffmkifjnmlaa
open Go.Am
noncomputable section
def b6 : Code := bodyOf 6
def pre6 : List Code := [cL b6, cL (cR b6), cL (cR (cR b6)), cL (cR (cR (cR b6))), cL (cR (cR (cR (cR b6))))]
def rest6 : Code := cR (cR (cR (cR (cR b6))))
def loop6 : Code := cB (cB (cR (cL rest6)))
def fr6 (n cp : Nat) (M : Int) : Fr := frame0 6 (ntOf 6) #[.slice (some ⟨0, 0, none⟩) n cp, .int .i64 M]
def sel6 : Ex → List Tmp × List Kept
  | .normal => ([0, 5, 6], [.plain 0, .cells 1, .plain 2])
  | .ret => ([4], [.plain 0])
  | _ => ([], [])
def tmC : List (Nat × Value) → Tr Value → Tr Value
  | [], t => t
  | x :: r, t => tmC r (t.put x.1 x.2)
def frC (n cp : Nat) (laid i : Int) : Fr := { fn := 6, nt := 79, tm := tmC [(0, .slice (some ⟨0, 0, none⟩) n cp), (5, .pointer (some ⟨1, 0, none⟩)), (6, .int .i64 laid), (7, .int .i64 i)] .nil, pt := .nil, loc := .nil, round := none }
def sC (A B : Array Value) (M lost : Int) (len cap : Nat) : St := ⟨((Tr.nil.put 0 (.cells A 1 false)).put 1 (.cells #[.int .i64 M, .int .i64 lost, .slice (some ⟨2, 0, none⟩) len cap] 1 false)).put 2 (.cells B 1 true), 3⟩
def selL : Ex → List Tmp × List Kept
  | .normal => ([0, 5, 6, 7], [.plain 0, .cells 1, .plain 4])
  | .exit 0 => ([0, 5, 6, 7], [.plain 0, .cells 1, .plain 2])
  | .ret => ([4], [.plain 0])
  | _ => ([], [])
def tail6 : Code := cR rest6
def frNil (M : Int) : Fr := frame0 6 (ntOf 6) #[.slice none 0 0, .int .i64 M]
def selN : Ex → List Tmp × List Kept := fun _ => ([4], [])
abbrev c0 : Ctx := { floor := 0, own := [], hide := [] }
def frR : Fr := { fn := 6, nt := 79, tm := tmC [(4, .bool true)] .nil, pt := .nil, loc := .nil, round := none }
def frD (n cp : Nat) (laid : Int) : Fr := { fn := 6, nt := 79, tm := tmC [(0, .slice (some ⟨0, 0, none⟩) n cp), (5, .pointer (some ⟨1, 0, none⟩)), (6, .int .i64 laid)] .nil, pt := .nil, loc := .nil, round := none }
def sel7 : Ex → List Tmp × List Kept
  | .normal => ([0, 5, 6, 7], [.plain 0, .cells 1, .plain 2])
  | _ => ([], [])
theorem rest6_eq : rest6 = .seq (.seq (cL (cL rest6)) (.block 0 (.loop loop6))) tail6 := by kernel_rfl
theorem b6_eq : b6 = nest pre6 rest6 := by kernel_rfl
end
end Go.Proofs.Ytgcffmkifjnmlaa
