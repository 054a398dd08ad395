/- Some answers that the document gives: texts told. -/
import Derived.Test.YtmpokdnpkjcnbaaDoorL
namespace Go.Proofs.YtmpokdnpkjcnbaaDoor
open Go.Am
noncomputable section
def is4 (a b c d e f g h : Int) : Bool := a == e && (b == f && (c == g && d == h))
theorem is4_mk {a b c d e f g h : Int} (H : is4 a b c d e f g h = true) : mk a b c d = mk e f g h := by
  simp only [is4, Bool.and_eq_true, beq_iff_eq] at H
  obtain ⟨rfl, rfl, rfl, rfl⟩ := H; rfl
def textF (a b c d : Int) : Option (Value × St) := bif is4 a b c d 38 0 0 9223372036854775808 then some (.string sA, st0) else bif is4 a b c d 6 0 0 0 then some (.string sB, st0) else none
def textD : Array Value → DT (Option (Value × St))
  | ⟨[.agg ⟨[.int .u64 a, .int .u64 b, .int .u64 c, .int .u64 d]⟩]⟩ => .leaf (textF a b c d)
  | _ => .leaf none
theorem i24_fn : ∃ i, cfC.fns 24 = some i := ⟨_, rfl⟩
theorem tells24 [Z : Zone] [T : Tab] : Tells cfC 24 (fun a => (textD a).eval) := by
  obtain ⟨i, hi⟩ := i24_fn
  refine tells_call (fun B => goodC B) rfl hi fun args y hx => ?_
  try simp only at hx
  unfold textD at hx
  split at hx
  · rename_i a b c d
    rw [DT.eval_leaf] at hx
    unfold textF at hx
    cases h1 : is4 a b c d 38 0 0 9223372036854775808
    · rw [h1, cond_false] at hx
      cases h2 : is4 a b c d 6 0 0 0
      · rw [h2] at hx; cases hx
      · rw [h2] at hx; cases hx
        have e : (#[mk a b c d] : Array Value) = #[mB] := by rw [is4_mk h2]; rfl
        obtain ⟨v, s', h1, h2⟩ := of_seenOf text_b
        exact ⟨by simp [freeN], 400, v, s', (by show call cfC 400 _ #[mk a b c d] _ _ = _; rw [e]; exact h1), h2⟩
    · rw [h1] at hx; cases hx
      have e : (#[mk a b c d] : Array Value) = #[mA] := by rw [is4_mk h1]; rfl
      obtain ⟨v, s', h1, h2⟩ := of_seenOf text_a
      exact ⟨by simp [freeN], 400, v, s', (by show call cfC 400 _ #[mk a b c d] _ _ = _; rw [e]; exact h1), h2⟩
  · cases hx
def TL : FuncId → Option (Array Value → DT (Option (Value × St)))
  | 24 => some textD
  | _ => none
def cfL : Cfg := cfC.told TL
theorem goodL [Z : Zone] [T : Tab] (B : Base) : Go.Am.Good cfL B := tells_good (fun B => goodC B) (fun f F h => by
  unfold TL at h
  split at h
  · cases h; exact ⟨i24_fn, tells24⟩
  · cases h) B
end
end Go.Proofs.YtmpokdnpkjcnbaaDoor
