/- What is shared by the laws of a net: its answer at the document's examples; a list of texts. -/
import Derived.Test.YtgcffmkifjnmlaaGood
import Derived.Test.YtgcffmkifjnmlaaAmFn
namespace Go.Proofs.Ytgcffmkifjnmlaa
open Go.Am
noncomputable section

def on0 (k : DT (Option (Value × St))) : Array Value → DT (Option (Value × St))
  | ⟨[]⟩ => k
  | _ => .leaf none
theorem on0_some {k : DT (Option (Value × St))} {args : Array Value} {x : Value × St} (h : (on0 k args).eval = some x) : args = #[] ∧ k.eval = some x := by
  unfold on0 at h
  split at h
  · exact ⟨rfl, h⟩
  · cases h

theorem live_true : (callT cfg noT 60 (.func (.func 9) #[] #[]) #[] (ctx0 0) st0).evalW seenOf = some (.bool true, st0) := by kernel_rfl
theorem live_apart : Apart cfg 9 (on0 (.leaf (some (.bool true, st0)))) := by
  intro args x hx
  obtain ⟨rfl, hk⟩ := on0_some hx
  exact ⟨by kernel_rfl, apart_of noT_ok (live_true.trans hk)⟩
def T0 : FuncId → Option (Array Value → DT (Option (Value × St)))
  | 9 => some (on0 (.leaf (some (.bool true, st0))))
  | _ => none
theorem T0_ok : ∀ f F, T0 f = some F → cfg.hand f = none ∧ (∃ i, cfg.fns f = some i) ∧ Apart cfg f F := by
  intro f F h
  unfold T0 at h
  split at h
  · cases h; exact ⟨rfl, ⟨_, rfl⟩, live_apart⟩
  · cases h
def cfg1 : Cfg := cfg.told T0
def t1 : FuncId → Option HandT := treeT T0 noT
theorem good1 (B : Base) : Go.Am.Good cfg1 B := told_good good rfl T0_ok B
theorem t1_ok : ∀ f k hd, t1 f = some k → cfg1.hand f = some hd → ∀ a c s, (k a c s).eval = hd a c s := treeT_ok noT_ok

def bodyOf (f : FuncId) : Code := match cfg.fns f with | some i => i.body | none => .skip
def ntOf (f : FuncId) : Nat := match cfg.fns f with | some i => i.nt | none => 0
/-- A row of texts, and what is laid at first. -/
def heap1 (A : Array Value) : St := ⟨.node .nil (some (.cells A 1 false)) .nil, 1⟩
abbrev c1 : Ctx := { floor := 1, own := [], hide := [] }
end
end Go.Proofs.Ytgcffmkifjnmlaa
