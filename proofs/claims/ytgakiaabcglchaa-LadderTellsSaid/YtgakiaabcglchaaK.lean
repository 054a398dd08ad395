/- From the trees to the rows: what all laws of a ladder share. -/
import Derived.Test.YtgakiaabcglchaaRows
import Derived.Test.YtgakiaabcglchaaE
import Derived.ProofKit
namespace Go.Proofs.Ytgakiaabcglchaa
open Go.Am Go.ChangeShapes Go.WideShapes Go.ChangeAt Go.RowKit

theorem f0_eq (l : Nat) : f0 l = { ck := chkV, mv := mayV, en := endV, r0 := rg0, r1 := rg1, r3 := rg3, r4 := rg4, st := stV, pg := fun L W G K F C X Y => decide ((pk L W G K F C X Y).length = l), pe := fun i L W G K F C X Y => Int.ofNat ((pk L W G K F C X Y).getD i 0) } := rfl
theorem ownNone : ownKnob Try.prog.godebug = none := by kernel_rfl

theorem ints_of {W : World} {r : Reach} {b t n : Nat} {v : Value} (hct : Try.prog.cellTypes Try.prog.depth t = some (List.replicate n 3)) (hsz : Try.prog.cellsOf t = n)
    (h : ∃ cs, v = .agg cs ∧ cs.size = Try.prog.cellsOf t ∧ Row.okWide Try.prog W r b t cs) : ∃ l : List Int, l.length = n ∧ v = .agg ⟨l.map (Value.int .i64)⟩ := by
  obtain ⟨cs, rfl, hs, ts, hts, _, hc⟩ := h
  rw [hct] at hts
  cases hts
  rw [hsz] at hs
  have key : ∀ l : List Value, (∀ x ∈ l, ∃ k : Int, x = .int .i64 k) → ∃ m : List Int, m.length = l.length ∧ l = m.map (Value.int .i64) := by
    intro l
    induction l with
    | nil => intro _; exact ⟨[], rfl, rfl⟩
    | cons a l ih =>
      intro hl
      obtain ⟨k, rfl⟩ := hl a (List.mem_cons_self)
      obtain ⟨m, h1, h2⟩ := ih fun x hx => hl x (List.mem_cons_of_mem _ hx)
      exact ⟨k :: m, by simp [h1], by rw [List.map_cons, ← h2]⟩
  obtain ⟨m, h1, h2⟩ := key cs.toList (by
    intro x hx
    obtain ⟨i, hi, rfl⟩ := List.getElem_of_mem hx
    have hi' : i < cs.size := by simpa using hi
    obtain ⟨u, hu, hcell⟩ := hc i cs[i] (Array.getElem?_eq_getElem hi')
    have hu3 : u = 3 := by
      rw [List.getElem?_replicate] at hu
      split at hu
      · exact (Option.some.inj hu).symm
      · cases hu
    subst hu3
    obtain ⟨k, hk, _⟩ := cell_int Try.underlying3 hcell
    exact ⟨k, by simpa using hk⟩)
  refine ⟨m, by simpa [hs] using h1, ?_⟩
  rw [← h2]

theorem len2 {l : List Int} (h : l.length = 2) : ∃ a b, l = [a, b] := by
  match l, h with
  | [a, b], _ => exact ⟨a, b, rfl⟩
theorem len4 {l : List Int} (h : l.length = 4) : ∃ a b c d, l = [a, b, c, d] := by
  match l, h with
  | [a, b, c, d], _ => exact ⟨a, b, c, d, rfl⟩

theorem plan_of {W : World} {r : Reach} {b : Nat} {v : Value} (h : Value.okWide Try.prog W r b 23 v) : ∃ L X G K, v = pl L X G K := by
  unfold Value.okWide at h
  rw [Try.underlying23] at h
  obtain ⟨l, h1, rfl⟩ := ints_of (n := 4) (by kernel_rfl) (by kernel_rfl) h
  obtain ⟨a, b, c, d, rfl⟩ := len4 h1
  exact ⟨a, b, c, d, rfl⟩
theorem run_of {W : World} {r : Reach} {b : Nat} {v : Value} (h : Value.okWide Try.prog W r b 25 v) : ∃ F C, v = rn F C := by
  unfold Value.okWide at h
  rw [Try.underlying25] at h
  obtain ⟨l, h1, rfl⟩ := ints_of (n := 2) (by kernel_rfl) (by kernel_rfl) h
  obtain ⟨a, b, rfl⟩ := len2 h1
  exact ⟨a, b, rfl⟩
theorem times_of {W : World} {r : Reach} {b : Nat} {v : Value} (h : Value.okWide Try.prog W r b 26 v) : ∃ X Y, v = .agg #[.int .i64 X, .int .i64 Y] := by
  unfold Value.okWide at h
  rw [Try.underlying26] at h
  obtain ⟨l, h1, rfl⟩ := ints_of (n := 2) (by kernel_rfl) (by kernel_rfl) h
  obtain ⟨a, b, rfl⟩ := len2 h1
  exact ⟨a, b, rfl⟩
theorem num_of {W : World} {r : Reach} {b : Nat} {v : Value} (h : Value.okWide Try.prog W r b 3 v) : ∃ X, v = .int .i64 X := by
  unfold Value.okWide at h
  rw [Try.underlying3] at h
  obtain ⟨k, hk, _⟩ := cell_int Try.underlying3 h
  exact ⟨k, hk⟩

/-- What a tree says of a call, the machine does. -/
theorem run_law {g : Cfg} {o : FuncId → Option HandT} (ho : ∀ f k hd, o f = some k → g.hand f = some hd → ∀ a c s, (k a c s).eval = hd a c s) (hg : ∀ B, Go.Am.Good g B) (hng : g.ng = 0) (hP : g.P = Try.prog) {f : FuncId} (hh : g.hand f = none) (hi : ∃ i, g.fns f = some i)
    {args : Array Value} (hp : args.all (plainN 9) = true) (ht : (callT g o 60 (.func (.func f) #[] #[]) args (ctx0 0) st0).evalW Proofs.Ytgakiaabcglchaa.isTrue = true) (W : World) : Calls Try.prog f args W fun e w' => e = .returned (.bool true) ∧ Below W.heap.size W w' := by
  rw [DT.evalW_eq, callT_eval g o ho] at ht
  obtain ⟨s', hx⟩ := of_isTrue ht
  obtain ⟨i, hi⟩ := hi
  rw [← hP]
  exact calls_of (hg _) (Laid.nil hng W) hh hi ⟨rfl, fun i x x' hx hx' => by rw [hx] at hx'; cases hx'; exact plain_rel _ _ _ 9 x (all_get hp hx)⟩ hx
end Go.Proofs.Ytgakiaabcglchaa
