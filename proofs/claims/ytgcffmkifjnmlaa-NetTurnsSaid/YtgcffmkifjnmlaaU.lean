/- NetTurns: the walk. -/
import Derived.Test.YtgcffmkifjnmlaaS3
import Derived.Test.YtgcffmkifjnmlaaO5
namespace Go.Proofs.Ytgcffmkifjnmlaa
open Go.Am
noncomputable section
def TS : FuncId → Option Hand
  | 13 => some sameHand
  | _ => none
def cfg2 : Cfg := cfg1.more TS
theorem TS_ok : ∀ f hd, TS f = some hd → (∃ i, cfg1.fns f = some i) ∧ Reads cfg1 f hd := by
  intro f hd h
  unfold TS at h
  split at h
  · cases h; exact ⟨⟨_, b13_i⟩, same_reads⟩
  · cases h
theorem good2 (B : Base) : Go.Am.Good cfg2 B := more_good good1 TS_ok B
def t2 : FuncId → Option HandT := fun f => match TS f with | some _ => some sameT | none => t1 f
theorem t2_ok : ∀ f k hd, t2 f = some k → cfg2.hand f = some hd → ∀ a c s, (k a c s).eval = hd a c s := by
  intro f k hd h1 h2 a c s
  simp only [t2] at h1
  simp only [cfg2, Cfg.more] at h2
  cases hT : TS f with
  | none =>
    rw [hT] at h1 h2
    exact t1_ok f k hd h1 h2 a c s
  | some x =>
    rw [hT] at h1 h2
    cases h1; cases h2
    unfold TS at hT
    split at hT
    · cases hT; rfl
    · cases hT
def b7 : Code := bodyOf 7
def fr7 (n cp : Nat) (I : Int) : Fr := frame0 7 (ntOf 7) #[.slice (some ⟨0, 0, none⟩) n cp, .int .i64 I]
def selU : Ex → List Tmp × List Kept := fun _ => ([4], [.plain 0])
def r7 (k : Nat) : Code := Nat.rec b7 (fun _ c => cR c) k
def pre7 : List Code := [cL b7, cL (cR b7), cL (cR (cR b7)), cL (cR (cR (cR b7))), cL (cR (cR (cR (cR b7)))), cL (cR (cR (cR (cR (cR b7))))), cL (cR (cR (cR (cR (cR (cR b7))))))]
def rest7 : Code := cR (cR (cR (cR (cR (cR (cR b7))))))
theorem b7_eq : b7 = nest pre7 rest7 := by kernel_rfl
def tmU : List (Nat × Value) → Tr Value → Tr Value
  | [], t => t
  | x :: r, t => tmU r (t.put x.1 x.2)
def frU (n cp : Nat) (I : Int) : Fr := { fn := 7, nt := 77, tm := tmU [(0, .slice (some ⟨0, 0, none⟩) n cp), (1, .int .i64 I), (5, .pointer (some ⟨1, 0, none⟩)), (6, .pointer (some ⟨2, 0, none⟩))] .nil, pt := .nil, loc := .nil, round := none }
def sU (A P Q : Array Value) (la lb : Int) (n1 c1 n2 c2 : Nat) : St :=
  ⟨((((Tr.nil.put 0 (.cells A 1 false)).put 1 (.cells #[.int .i64 50, .int .i64 la, .slice (some ⟨3, 0, none⟩) n1 c1] 1 false)).put 2 (.cells #[.int .i64 50, .int .i64 lb, .slice (some ⟨4, 0, none⟩) n2 c2] 1 false)).put 3 (.cells P 1 true)).put 4 (.cells Q 1 true), 5⟩
def fr7n (I : Int) : Fr := frame0 7 (ntOf 7) #[.slice none 0 0, .int .i64 I]
def frV : Fr := { fn := 7, nt := 77, tm := tmU [(4, .bool true)] .nil, pt := .nil, loc := .nil, round := none }
def selW : Ex → List Tmp × List Kept := fun _ => ([0, 1, 5, 6, 7, 8], [.plain 0, .cells 1, .cells 2, .plain 6, .plain 4])
def selX : Ex → List Tmp × List Kept := fun _ => ([0, 5, 6, 7, 8, 9, 10], [.plain 0, .cells 1, .cells 2, .plain 3, .plain 6])
def selV : Ex → List Tmp × List Kept
  | .normal => ([0, 1, 5, 6], [.plain 0, .cells 1, .cells 2, .plain 3, .plain 4])
  | _ => ([4], [.plain 0])
end
end Go.Proofs.Ytgcffmkifjnmlaa
