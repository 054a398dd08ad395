/- Some answers that the document gives. -/
import Derived.Test.YtmpokdnpkjcnbaaDoorG
namespace Go.Proofs.YtmpokdnpkjcnbaaDoor
open Go.Am
noncomputable section
def TC : FuncId → Option (Array Value → DT (Option (Value × St)))
  | 18 => some cntD
  | _ => none
def cfC : Cfg := cfB.told TC
theorem goodC [Z : Zone] [T : Tab] (B : Base) : Go.Am.Good cfC B := tells_good (fun B => goodB B) (fun f F h => by
  unfold TC at h
  split at h
  · cases h; exact ⟨⟨_, i18_fn⟩, tells18⟩
  · cases h) B
def tC : FuncId → Option HandT := treeT TC tB
theorem tC_ok : ∀ f k hd, tC f = some k → cfC.hand f = some hd → ∀ a c s, (k a c s).eval = hd a c s := treeT_ok tB_ok
end
end Go.Proofs.YtmpokdnpkjcnbaaDoor
