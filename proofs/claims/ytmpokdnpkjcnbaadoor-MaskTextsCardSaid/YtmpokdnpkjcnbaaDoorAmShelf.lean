/- Calls that a contract of the library's tells: a plain answer, and a world in which all that was there stands. -/
import Derived.Test.YtmpokdnpkjcnbaaDoorAmIso
import Derived.Below
namespace Go.Am
open Go.RowKit
noncomputable section
variable {Z : Zone}
section
variable {g : Cfg}
/-- A function as a contract tells it: what it answers, from its arguments and the state. -/
def shelfT (F : Array Value → Ctx → St → DT (Option Value)) : HandT := fun args c s => (F args c s).bind fun o => .leaf (o.map fun v => (.ret v, s))
def shelfHand (F : Array Value → Ctx → St → DT (Option Value)) : Hand := fun args c s => (F args c s).eval.map fun v => (.ret v, s)
theorem shelfT_eval (F : Array Value → Ctx → St → DT (Option Value)) (args : Array Value) (c : Ctx) (s : St) : (shelfT F args c s).eval = shelfHand F args c s := by
  unfold shelfT shelfHand
  rw [DT.eval_bind]; rfl
def ShelfOk [Z : Zone] (g : Cfg) (f : FuncId) (F : Array Value → Ctx → St → DT (Option Value)) : Prop :=
  ∀ args c s v, (F args c s).eval = some v → plainN 9 v = true ∧ ∀ base φ ω w args', SRel g base φ ω c s w → Arel φ c s.next args args' → Calls g.P f args' w fun e w' => e = .returned v ∧ Below w.heap.size w w'
def Cfg.shelf (g : Cfg) (T : FuncId → Option (Array Value → Ctx → St → DT (Option Value))) : Cfg := { g with hand := fun f => match T f with | some F => some (shelfHand F) | none => g.hand f }
theorem shelf_good [Z : Zone] (hg : ∀ B, Go.Am.Good g B) {T : FuncId → Option (Array Value → Ctx → St → DT (Option Value))} (hT : ∀ f F, T f = some F → (∃ i, g.fns f = some i) ∧ ShelfOk g f F) (B : Base) : Go.Am.Good (g.shelf T) B where
  fns := (hg B).fns
  hgrow f hd h args c s r hr := by
    simp only [Cfg.shelf] at h
    split at h
    · rename_i F hF
      cases h
      unfold shelfHand at hr
      obtain ⟨x, _, rfl⟩ := Option.map_eq_some_iff.1 hr
      exact Grow.refl _ _
    · exact (hg B).hgrow f hd h args c s r hr
  hand f hd h := by
    simp only [Cfg.shelf] at h
    split at h
    · rename_i F hF
      cases h
      obtain ⟨⟨i, hi⟩, hA⟩ := hT f F hF
      intro args c s r s' hr φ ω w args' hs ha
      unfold shelfHand at hr
      obtain ⟨v, hv, e⟩ := Option.map_eq_some_iff.1 hr
      cases e
      obtain ⟨hp, hc⟩ := hA args c s v hv
      have hs0 : SRel g B φ ω c s w := SRel.cfg (g := g.shelf T) (g' := g) rfl hs
      obtain ⟨G, g1, g2, _, _, g5⟩ := (hg B).fns f i hi
      refine ⟨f, args', run_callFunc g1 g2 g5 args', ?_⟩
      refine callsIn_FF (r := none) ((callsIn_wide.2 (hc B φ ω w args' hs0 ha)).mono fun e W' hR => ?_)
      obtain ⟨rfl, hb⟩ := hR
      exact ⟨φ, ω, fun _ _ => rfl, Nat.le_refl _, hs.below hb.size hb.block, ⟨hb.os, hb.tape, hb.output, hb.size, fun b hlt _ _ => ⟨hb.block b hlt, rfl⟩⟩, .ret _ _ (plain_rel φ c s.next 9 v hp)⟩
    · intro args c s r s' hr φ ω w args' hs ha
      obtain ⟨f', as', h1, h2⟩ := (hg B).hand f hd h args c s r s' hr φ ω w args' (SRel.cfg (g := g.shelf T) (g' := g) rfl hs) ha
      exact ⟨f', as', h1, h2.mono fun e W' hR => CallR.cfg (g := g) (g' := g.shelf T) rfl hR⟩
def treeS (T : FuncId → Option (Array Value → Ctx → St → DT (Option Value))) (o : FuncId → Option HandT) : FuncId → Option HandT := fun f => match T f with | some F => some (shelfT F) | none => o f
theorem treeS_ok {T : FuncId → Option (Array Value → Ctx → St → DT (Option Value))} {o : FuncId → Option HandT} (ho : ∀ f k hd, o f = some k → g.hand f = some hd → ∀ a c s, (k a c s).eval = hd a c s) :
    ∀ f k hd, treeS T o f = some k → (g.shelf T).hand f = some hd → ∀ a c s, (k a c s).eval = hd a c s := by
  intro f k hd h1 h2 a c s
  simp only [treeS] at h1
  simp only [Cfg.shelf] at h2
  cases hT : T f with
  | some F =>
    rw [hT] at h1 h2
    cases h1; cases h2
    exact shelfT_eval F a c s
  | none =>
    rw [hT] at h1 h2
    exact ho f k hd h1 h2 a c s
end
end
end Go.Am
