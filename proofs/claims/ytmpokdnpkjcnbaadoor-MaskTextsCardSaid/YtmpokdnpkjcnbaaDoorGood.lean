/- The tables of the abstract machine are the program's own. Written by prep.py. -/
import Derived.Test.YtmpokdnpkjcnbaaDoorCfg
import Derived.Test.YtmpokdnpkjcnbaaDoorAmLaw
import Derived.KernelRfl
namespace Go.Proofs.YtmpokdnpkjcnbaaDoor
open Go.Am
theorem fnI_some {F : Func} {p : Bool} {i : FnI} (h : fnI F p = some i) : F.body = some i.body ∧ F.ntmps = i.nt ∧ F.results.toList = i.results := by
  unfold fnI at h
  obtain ⟨b, hb, e⟩ := Option.map_eq_some_iff.1 h
  subst e
  exact ⟨hb, rfl, rfl⟩
theorem fns_ok : ∀ f i, fns f = some i → ∃ F : Func, Tryd.prog.funcs[f]? = some F ∧ F.body = some i.body ∧ F.ntmps = i.nt ∧ F.results.toList = i.results ∧ (F.name == "runtime.NumGoroutine") = false := by
  intro f i h
  unfold fns at h
  split at h
  · obtain ⟨a, b, c⟩ := fnI_some h; exact ⟨_, Tryd.func3, a, b, c, by kernel_rfl⟩
  · obtain ⟨a, b, c⟩ := fnI_some h; exact ⟨_, Tryd.func4, a, b, c, by kernel_rfl⟩
  · obtain ⟨a, b, c⟩ := fnI_some h; exact ⟨_, Tryd.func5, a, b, c, by kernel_rfl⟩
  · obtain ⟨a, b, c⟩ := fnI_some h; exact ⟨_, Tryd.func6, a, b, c, by kernel_rfl⟩
  · obtain ⟨a, b, c⟩ := fnI_some h; exact ⟨_, Tryd.func7, a, b, c, by kernel_rfl⟩
  · obtain ⟨a, b, c⟩ := fnI_some h; exact ⟨_, Tryd.func8, a, b, c, by kernel_rfl⟩
  · obtain ⟨a, b, c⟩ := fnI_some h; exact ⟨_, Tryd.func9, a, b, c, by kernel_rfl⟩
  · obtain ⟨a, b, c⟩ := fnI_some h; exact ⟨_, Tryd.func10, a, b, c, by kernel_rfl⟩
  · obtain ⟨a, b, c⟩ := fnI_some h; exact ⟨_, Tryd.func11, a, b, c, by kernel_rfl⟩
  · obtain ⟨a, b, c⟩ := fnI_some h; exact ⟨_, Tryd.func12, a, b, c, by kernel_rfl⟩
  · obtain ⟨a, b, c⟩ := fnI_some h; exact ⟨_, Tryd.func13, a, b, c, by kernel_rfl⟩
  · obtain ⟨a, b, c⟩ := fnI_some h; exact ⟨_, Tryd.func14, a, b, c, by kernel_rfl⟩
  · obtain ⟨a, b, c⟩ := fnI_some h; exact ⟨_, Tryd.func15, a, b, c, by kernel_rfl⟩
  · obtain ⟨a, b, c⟩ := fnI_some h; exact ⟨_, Tryd.func16, a, b, c, by kernel_rfl⟩
  · obtain ⟨a, b, c⟩ := fnI_some h; exact ⟨_, Tryd.func17, a, b, c, by kernel_rfl⟩
  · obtain ⟨a, b, c⟩ := fnI_some h; exact ⟨_, Tryd.func18, a, b, c, by kernel_rfl⟩
  · obtain ⟨a, b, c⟩ := fnI_some h; exact ⟨_, Tryd.func19, a, b, c, by kernel_rfl⟩
  · obtain ⟨a, b, c⟩ := fnI_some h; exact ⟨_, Tryd.func20, a, b, c, by kernel_rfl⟩
  · obtain ⟨a, b, c⟩ := fnI_some h; exact ⟨_, Tryd.func21, a, b, c, by kernel_rfl⟩
  · obtain ⟨a, b, c⟩ := fnI_some h; exact ⟨_, Tryd.func22, a, b, c, by kernel_rfl⟩
  · obtain ⟨a, b, c⟩ := fnI_some h; exact ⟨_, Tryd.func23, a, b, c, by kernel_rfl⟩
  · obtain ⟨a, b, c⟩ := fnI_some h; exact ⟨_, Tryd.func24, a, b, c, by kernel_rfl⟩
  · obtain ⟨a, b, c⟩ := fnI_some h; exact ⟨_, Tryd.func25, a, b, c, by kernel_rfl⟩
  · obtain ⟨a, b, c⟩ := fnI_some h; exact ⟨_, Tryd.func26, a, b, c, by kernel_rfl⟩
  · obtain ⟨a, b, c⟩ := fnI_some h; exact ⟨_, Tryd.func27, a, b, c, by kernel_rfl⟩
  · obtain ⟨a, b, c⟩ := fnI_some h; exact ⟨_, Tryd.func28, a, b, c, by kernel_rfl⟩
  · obtain ⟨a, b, c⟩ := fnI_some h; exact ⟨_, Tryd.func29, a, b, c, by kernel_rfl⟩
  · obtain ⟨a, b, c⟩ := fnI_some h; exact ⟨_, Tryd.func30, a, b, c, by kernel_rfl⟩
  · obtain ⟨a, b, c⟩ := fnI_some h; exact ⟨_, Tryd.func31, a, b, c, by kernel_rfl⟩
  · obtain ⟨a, b, c⟩ := fnI_some h; exact ⟨_, Tryd.func32, a, b, c, by kernel_rfl⟩
  · obtain ⟨a, b, c⟩ := fnI_some h; exact ⟨_, Tryd.func33, a, b, c, by kernel_rfl⟩
  · obtain ⟨a, b, c⟩ := fnI_some h; exact ⟨_, Tryd.func34, a, b, c, by kernel_rfl⟩
  · obtain ⟨a, b, c⟩ := fnI_some h; exact ⟨_, Tryd.func35, a, b, c, by kernel_rfl⟩
  · obtain ⟨a, b, c⟩ := fnI_some h; exact ⟨_, Tryd.func36, a, b, c, by kernel_rfl⟩
  · obtain ⟨a, b, c⟩ := fnI_some h; exact ⟨_, Tryd.func37, a, b, c, by kernel_rfl⟩
  · obtain ⟨a, b, c⟩ := fnI_some h; exact ⟨_, Tryd.func38, a, b, c, by kernel_rfl⟩
  · obtain ⟨a, b, c⟩ := fnI_some h; exact ⟨_, Tryd.func39, a, b, c, by kernel_rfl⟩
  · obtain ⟨a, b, c⟩ := fnI_some h; exact ⟨_, Tryd.func40, a, b, c, by kernel_rfl⟩
  · obtain ⟨a, b, c⟩ := fnI_some h; exact ⟨_, Tryd.func41, a, b, c, by kernel_rfl⟩
  · obtain ⟨a, b, c⟩ := fnI_some h; exact ⟨_, Tryd.func42, a, b, c, by kernel_rfl⟩
  · obtain ⟨a, b, c⟩ := fnI_some h; exact ⟨_, Tryd.func43, a, b, c, by kernel_rfl⟩
  · obtain ⟨a, b, c⟩ := fnI_some h; exact ⟨_, Tryd.func44, a, b, c, by kernel_rfl⟩
  · obtain ⟨a, b, c⟩ := fnI_some h; exact ⟨_, Tryd.func45, a, b, c, by kernel_rfl⟩
  · obtain ⟨a, b, c⟩ := fnI_some h; exact ⟨_, Tryd.func46, a, b, c, by kernel_rfl⟩
  · obtain ⟨a, b, c⟩ := fnI_some h; exact ⟨_, Tryd.func47, a, b, c, by kernel_rfl⟩
  · obtain ⟨a, b, c⟩ := fnI_some h; exact ⟨_, Tryd.func48, a, b, c, by kernel_rfl⟩
  · obtain ⟨a, b, c⟩ := fnI_some h; exact ⟨_, Tryd.func49, a, b, c, by kernel_rfl⟩
  · obtain ⟨a, b, c⟩ := fnI_some h; exact ⟨_, Tryd.func50, a, b, c, by kernel_rfl⟩
  · obtain ⟨a, b, c⟩ := fnI_some h; exact ⟨_, Tryd.func51, a, b, c, by kernel_rfl⟩
  · obtain ⟨a, b, c⟩ := fnI_some h; exact ⟨_, Tryd.func52, a, b, c, by kernel_rfl⟩
  · obtain ⟨a, b, c⟩ := fnI_some h; exact ⟨_, Tryd.func53, a, b, c, by kernel_rfl⟩
  · obtain ⟨a, b, c⟩ := fnI_some h; exact ⟨_, Tryd.func54, a, b, c, by kernel_rfl⟩
  · obtain ⟨a, b, c⟩ := fnI_some h; exact ⟨_, Tryd.func55, a, b, c, by kernel_rfl⟩
  · obtain ⟨a, b, c⟩ := fnI_some h; exact ⟨_, Tryd.func56, a, b, c, by kernel_rfl⟩
  · obtain ⟨a, b, c⟩ := fnI_some h; exact ⟨_, Tryd.func57, a, b, c, by kernel_rfl⟩
  · obtain ⟨a, b, c⟩ := fnI_some h; exact ⟨_, Tryd.func58, a, b, c, by kernel_rfl⟩
  · obtain ⟨a, b, c⟩ := fnI_some h; exact ⟨_, Tryd.func59, a, b, c, by kernel_rfl⟩
  · obtain ⟨a, b, c⟩ := fnI_some h; exact ⟨_, Tryd.func60, a, b, c, by kernel_rfl⟩
  · obtain ⟨a, b, c⟩ := fnI_some h; exact ⟨_, Tryd.func61, a, b, c, by kernel_rfl⟩
  · obtain ⟨a, b, c⟩ := fnI_some h; exact ⟨_, Tryd.func62, a, b, c, by kernel_rfl⟩
  · obtain ⟨a, b, c⟩ := fnI_some h; exact ⟨_, Tryd.func63, a, b, c, by kernel_rfl⟩
  · obtain ⟨a, b, c⟩ := fnI_some h; exact ⟨_, Tryd.func64, a, b, c, by kernel_rfl⟩
  · obtain ⟨a, b, c⟩ := fnI_some h; exact ⟨_, Tryd.func65, a, b, c, by kernel_rfl⟩
  · obtain ⟨a, b, c⟩ := fnI_some h; exact ⟨_, Tryd.func66, a, b, c, by kernel_rfl⟩
  · obtain ⟨a, b, c⟩ := fnI_some h; exact ⟨_, Tryd.func67, a, b, c, by kernel_rfl⟩
  · obtain ⟨a, b, c⟩ := fnI_some h; exact ⟨_, Tryd.func68, a, b, c, by kernel_rfl⟩
  · obtain ⟨a, b, c⟩ := fnI_some h; exact ⟨_, Tryd.func69, a, b, c, by kernel_rfl⟩
  · obtain ⟨a, b, c⟩ := fnI_some h; exact ⟨_, Tryd.func70, a, b, c, by kernel_rfl⟩
  · obtain ⟨a, b, c⟩ := fnI_some h; exact ⟨_, Tryd.func72, a, b, c, by kernel_rfl⟩
  · obtain ⟨a, b, c⟩ := fnI_some h; exact ⟨_, Tryd.func73, a, b, c, by kernel_rfl⟩
  · obtain ⟨a, b, c⟩ := fnI_some h; exact ⟨_, Tryd.func74, a, b, c, by kernel_rfl⟩
  · obtain ⟨a, b, c⟩ := fnI_some h; exact ⟨_, Tryd.func75, a, b, c, by kernel_rfl⟩
  · obtain ⟨a, b, c⟩ := fnI_some h; exact ⟨_, Tryd.func76, a, b, c, by kernel_rfl⟩
  · obtain ⟨a, b, c⟩ := fnI_some h; exact ⟨_, Tryd.func77, a, b, c, by kernel_rfl⟩
  · obtain ⟨a, b, c⟩ := fnI_some h; exact ⟨_, Tryd.func78, a, b, c, by kernel_rfl⟩
  · obtain ⟨a, b, c⟩ := fnI_some h; exact ⟨_, Tryd.func79, a, b, c, by kernel_rfl⟩
  · obtain ⟨a, b, c⟩ := fnI_some h; exact ⟨_, Tryd.func80, a, b, c, by kernel_rfl⟩
  · obtain ⟨a, b, c⟩ := fnI_some h; exact ⟨_, Tryd.func81, a, b, c, by kernel_rfl⟩
  · obtain ⟨a, b, c⟩ := fnI_some h; exact ⟨_, Tryd.func82, a, b, c, by kernel_rfl⟩
  · obtain ⟨a, b, c⟩ := fnI_some h; exact ⟨_, Tryd.func86, a, b, c, by kernel_rfl⟩
  · obtain ⟨a, b, c⟩ := fnI_some h; exact ⟨_, Tryd.func87, a, b, c, by kernel_rfl⟩
  · obtain ⟨a, b, c⟩ := fnI_some h; exact ⟨_, Tryd.func88, a, b, c, by kernel_rfl⟩
  · obtain ⟨a, b, c⟩ := fnI_some h; exact ⟨_, Tryd.func89, a, b, c, by kernel_rfl⟩
  · obtain ⟨a, b, c⟩ := fnI_some h; exact ⟨_, Tryd.func90, a, b, c, by kernel_rfl⟩
  · obtain ⟨a, b, c⟩ := fnI_some h; exact ⟨_, Tryd.func91, a, b, c, by kernel_rfl⟩
  · obtain ⟨a, b, c⟩ := fnI_some h; exact ⟨_, Tryd.func92, a, b, c, by kernel_rfl⟩
  · obtain ⟨a, b, c⟩ := fnI_some h; exact ⟨_, Tryd.func93, a, b, c, by kernel_rfl⟩
  · obtain ⟨a, b, c⟩ := fnI_some h; exact ⟨_, Tryd.func94, a, b, c, by kernel_rfl⟩
  · obtain ⟨a, b, c⟩ := fnI_some h; exact ⟨_, Tryd.func95, a, b, c, by kernel_rfl⟩
  · obtain ⟨a, b, c⟩ := fnI_some h; exact ⟨_, Tryd.func96, a, b, c, by kernel_rfl⟩
  · obtain ⟨a, b, c⟩ := fnI_some h; exact ⟨_, Tryd.func97, a, b, c, by kernel_rfl⟩
  · obtain ⟨a, b, c⟩ := fnI_some h; exact ⟨_, Tryd.func98, a, b, c, by kernel_rfl⟩
  · obtain ⟨a, b, c⟩ := fnI_some h; exact ⟨_, Tryd.func128, a, b, c, by kernel_rfl⟩
  · cases h
theorem good [Z : Zone] (B : Go.Am.Base) : Go.Am.Good cfg B := ⟨fns_ok, (fun f hd h => (nomatch h)), (fun f hd h => (nomatch h))⟩
def isTrue : Option (Outc × St) → Bool
  | some (.ret (.bool true), _) => true
  | _ => false
theorem of_isTrue {x : Option (Outc × St)} (h : isTrue x = true) : ∃ s, x = some (.ret (.bool true), s) := by
  unfold isTrue at h
  split at h
  · exact ⟨_, rfl⟩
  · cases h
end Go.Proofs.YtmpokdnpkjcnbaaDoor
