/- The tables of the abstract machine are the program's own. Written by prep.py. -/
import Derived.Test.YtgcffmkifjnmlaaCfg
import Derived.Test.YtgcffmkifjnmlaaAmLaw
import Derived.KernelRfl
namespace Go.Proofs.Ytgcffmkifjnmlaa
open Go.Am
theorem fnI_some {F : Func} {p : Bool} {i : FnI} (h : fnI F p = some i) : F.body = some i.body ∧ F.ntmps = i.nt ∧ F.results.toList = i.results := by
  unfold fnI at h
  obtain ⟨b, hb, e⟩ := Option.map_eq_some_iff.1 h
  subst e
  exact ⟨hb, rfl, rfl⟩
theorem fns_ok : ∀ f i, fns f = some i → ∃ F : Func, Try.prog.funcs[f]? = some F ∧ F.body = some i.body ∧ F.ntmps = i.nt ∧ F.results.toList = i.results ∧ (F.name == "runtime.NumGoroutine") = false := by
  intro f i h
  unfold fns at h
  split at h
  · obtain ⟨a, b, c⟩ := fnI_some h; exact ⟨_, Try.func3, a, b, c, by kernel_rfl⟩
  · obtain ⟨a, b, c⟩ := fnI_some h; exact ⟨_, Try.func4, a, b, c, by kernel_rfl⟩
  · obtain ⟨a, b, c⟩ := fnI_some h; exact ⟨_, Try.func5, a, b, c, by kernel_rfl⟩
  · obtain ⟨a, b, c⟩ := fnI_some h; exact ⟨_, Try.func6, a, b, c, by kernel_rfl⟩
  · obtain ⟨a, b, c⟩ := fnI_some h; exact ⟨_, Try.func7, a, b, c, by kernel_rfl⟩
  · obtain ⟨a, b, c⟩ := fnI_some h; exact ⟨_, Try.func8, a, b, c, by kernel_rfl⟩
  · obtain ⟨a, b, c⟩ := fnI_some h; exact ⟨_, Try.func9, a, b, c, by kernel_rfl⟩
  · obtain ⟨a, b, c⟩ := fnI_some h; exact ⟨_, Try.func10, a, b, c, by kernel_rfl⟩
  · obtain ⟨a, b, c⟩ := fnI_some h; exact ⟨_, Try.func11, a, b, c, by kernel_rfl⟩
  · obtain ⟨a, b, c⟩ := fnI_some h; exact ⟨_, Try.func12, a, b, c, by kernel_rfl⟩
  · obtain ⟨a, b, c⟩ := fnI_some h; exact ⟨_, Try.func13, a, b, c, by kernel_rfl⟩
  · obtain ⟨a, b, c⟩ := fnI_some h; exact ⟨_, Try.func14, a, b, c, by kernel_rfl⟩
  · obtain ⟨a, b, c⟩ := fnI_some h; exact ⟨_, Try.func15, a, b, c, by kernel_rfl⟩
  · obtain ⟨a, b, c⟩ := fnI_some h; exact ⟨_, Try.func16, a, b, c, by kernel_rfl⟩
  · obtain ⟨a, b, c⟩ := fnI_some h; exact ⟨_, Try.func17, a, b, c, by kernel_rfl⟩
  · obtain ⟨a, b, c⟩ := fnI_some h; exact ⟨_, Try.func18, a, b, c, by kernel_rfl⟩
  · obtain ⟨a, b, c⟩ := fnI_some h; exact ⟨_, Try.func19, a, b, c, by kernel_rfl⟩
  · obtain ⟨a, b, c⟩ := fnI_some h; exact ⟨_, Try.func20, a, b, c, by kernel_rfl⟩
  · obtain ⟨a, b, c⟩ := fnI_some h; exact ⟨_, Try.func21, a, b, c, by kernel_rfl⟩
  · obtain ⟨a, b, c⟩ := fnI_some h; exact ⟨_, Try.func22, a, b, c, by kernel_rfl⟩
  · obtain ⟨a, b, c⟩ := fnI_some h; exact ⟨_, Try.func23, a, b, c, by kernel_rfl⟩
  · obtain ⟨a, b, c⟩ := fnI_some h; exact ⟨_, Try.func24, a, b, c, by kernel_rfl⟩
  · obtain ⟨a, b, c⟩ := fnI_some h; exact ⟨_, Try.func25, a, b, c, by kernel_rfl⟩
  · obtain ⟨a, b, c⟩ := fnI_some h; exact ⟨_, Try.func26, a, b, c, by kernel_rfl⟩
  · obtain ⟨a, b, c⟩ := fnI_some h; exact ⟨_, Try.func27, a, b, c, by kernel_rfl⟩
  · obtain ⟨a, b, c⟩ := fnI_some h; exact ⟨_, Try.func28, a, b, c, by kernel_rfl⟩
  · obtain ⟨a, b, c⟩ := fnI_some h; exact ⟨_, Try.func29, a, b, c, by kernel_rfl⟩
  · cases h
theorem good [Z : Zone] (B : Go.Am.Base) : Go.Am.Good cfg B := ⟨fns_ok, (fun f hd h => (nomatch h)), (fun f hd h => (nomatch h))⟩
def isTrue : Option (Outc × St) → Bool
  | some (.ret (.bool true), _) => true
  | _ => false
theorem of_isTrue {x : Option (Outc × St)} (h : isTrue x = true) : ∃ s, x = some (.ret (.bool true), s) := by
  unfold isTrue at h
  split at h
  · exact ⟨_, rfl⟩
  · cases h
end Go.Proofs.Ytgcffmkifjnmlaa
