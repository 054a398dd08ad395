/- A call that turns a thing, by one path of its tree. -/
import Derived.Test.YtgcffmkifjnmlaaNA
namespace Go.Proofs.Ytgcffmkifjnmlaa
open Go.Am
noncomputable section
theorem path_eval {g : Cfg} {o : FuncId → Option HandT} (ho : ∀ f k hd, o f = some k → g.hand f = some hd → ∀ a c s, (k a c s).eval = hd a c s) {n lim : Nat} {c : Ctx} {k : Code} {fr : Fr} {s : St} {bs : List Bool} {β : Type} {p : Option (Ex × Fr × St) → Option β} {y : β}
    (h1 : (followT bs (codeT g (callT g o n) lim c k fr s)).1 = true) (h2 : pathObs p bs (codeT g (callT g o n) lim c k fr s) = some y) : p (code g (call g n) lim c k fr s) = some y := by
  unfold pathObs at h2
  split at h2
  · rename_i a ha
    have := followT_eval _ _ h1 ha
    rw [codeT_eval g _ _ (callT_eval g o ho n)] at this
    rw [this]; exact h2
  · cases h2
theorem leaves_some {L : List Tmp} {r : Option (Ex × Fr × St)} {ex : Ex} {vs : List (Option Value)} {h0 h1 h2 h3 : Option AObj} (h : leaves L r = some (ex, vs, h0, h1, h2, h3)) : ∃ fr s, r = some (ex, fr, s) ∧ L.map fr.tm.get = vs ∧ s.heap.get 0 = h0 ∧ s.heap.get 1 = h1 ∧ s.heap.get 2 = h2 ∧ s.heap.get 3 = h3 := by
  unfold leaves at h
  split at h
  · rename_i ex' fr s
    simp only [Option.some.injEq, Prod.mk.injEq] at h
    obtain ⟨rfl, rfl, rfl, rfl, rfl, rfl⟩ := h
    exact ⟨fr, s, rfl, rfl, rfl, rfl, rfl, rfl⟩
  · cases h
/-- One slot for the result. -/
theorem eff_one [Z : Zone] {g : Cfg} (hg : ∀ B, Go.Am.Good g B) {n lim B : Nat} {i : FnI} {f : FuncId} {j : Bool} {N : Net} {l : List Value} {t : Tmp} {v : Value} {ex : Ex} {a b : Int} {row : Option (Bool × Array Value)} {h0 h1 h2 h3 : Option AObj} (hr : i.results = [.tmp t]) (hex : ex = .normal ∨ ex = .ret) (hv : plainN 9 v = true)
    (h : leaves [t] (code g (call g n) lim cz i.body (frame0 f i.nt ⟨.pointer (some ⟨0, 0, none⟩) :: l⟩) (netS j N)) = some (ex, [some v], h0, h1, h2, h3))
    (he : ∀ s : St, s.heap.get 0 = h0 → s.heap.get 1 = h1 → s.heap.get 2 = h2 → s.heap.get 3 = h3 → EffEnd j a b N row s) :
    AWp g ⟨0, B⟩ cz i.body (frame0 f i.nt ⟨.pointer (some ⟨0, 0, none⟩) :: l⟩) (netS j N) fun ex fr' s' => (ex = .normal ∨ ex = .ret) ∧ ∃ u, resultsV g cz fr' s' i.results = some u ∧ u = v ∧ EffEnd j a b N row s' := by
  obtain ⟨fr, s, hc, hL, e0, e1, e2, e3⟩ := leaves_some h
  refine AWp.eval hg hc ⟨hex, v, ?_, rfl, he s e0 e1 e2 e3⟩
  simp only [List.map_cons, List.map_nil, List.cons.injEq, and_true] at hL
  rw [hr]
  exact resultsV_one hL hv
theorem eff_two [Z : Zone] {g : Cfg} (hg : ∀ B, Go.Am.Good g B) {n lim B : Nat} {i : FnI} {f : FuncId} {j : Bool} {N : Net} {l : List Value} {t u : Tmp} {v w : Value} {ex : Ex} {a b : Int} {row : Option (Bool × Array Value)} {h0 h1 h2 h3 : Option AObj} (hr : i.results = [.tmp t, .tmp u]) (hex : ex = .normal ∨ ex = .ret) (hv : plainN 9 v = true) (hw : plainN 9 w = true)
    (h : leaves [t, u] (code g (call g n) lim cz i.body (frame0 f i.nt ⟨.pointer (some ⟨0, 0, none⟩) :: l⟩) (netS j N)) = some (ex, [some v, some w], h0, h1, h2, h3))
    (he : ∀ s : St, s.heap.get 0 = h0 → s.heap.get 1 = h1 → s.heap.get 2 = h2 → s.heap.get 3 = h3 → EffEnd j a b N row s) :
    AWp g ⟨0, B⟩ cz i.body (frame0 f i.nt ⟨.pointer (some ⟨0, 0, none⟩) :: l⟩) (netS j N) fun ex fr' s' => (ex = .normal ∨ ex = .ret) ∧ ∃ u, resultsV g cz fr' s' i.results = some u ∧ u = .tuple #[v, w] ∧ EffEnd j a b N row s' := by
  obtain ⟨fr, s, hc, hL, e0, e1, e2, e3⟩ := leaves_some h
  refine AWp.eval hg hc ⟨hex, _, ?_, rfl, he s e0 e1 e2 e3⟩
  simp only [List.map_cons, List.map_nil, List.cons.injEq, and_true] at hL
  rw [hr]
  exact resultsV_two hL.1 hv hL.2 hw
/-- The same, out of a path. -/
theorem eff_p1 [Z : Zone] {g : Cfg} (hg : ∀ B, Go.Am.Good g B) {o : FuncId → Option HandT} (ho : ∀ f k hd, o f = some k → g.hand f = some hd → ∀ a c s, (k a c s).eval = hd a c s) {n lim B : Nat} {i : FnI} {f : FuncId} {j : Bool} {N : Net} {l : List Value} {t : Tmp} {v v' : Value} {ex : Ex} {a b : Int} {row : Option (Bool × Array Value)} {h0 h1 h2 h3 : Option AObj} {bs : List Bool} {cc : Bool} (hr : i.results = [.tmp t])
    (hc : (followT bs (codeT g (callT g o n) lim cz i.body (frame0 f i.nt ⟨.pointer (some ⟨0, 0, none⟩) :: l⟩) (netS j N))).1 = cc) (hlf : pathObs (leaves [t]) bs (codeT g (callT g o n) lim cz i.body (frame0 f i.nt ⟨.pointer (some ⟨0, 0, none⟩) :: l⟩) (netS j N)) = some (ex, [some v'], h0, h1, h2, h3))
    (hex : ex = .normal ∨ ex = .ret) (hcc : cc = true) (hv : v' = v) (hpl : plainN 9 v = true) (he : ∀ s : St, s.heap.get 0 = h0 → s.heap.get 1 = h1 → s.heap.get 2 = h2 → s.heap.get 3 = h3 → EffEnd j a b N row s) :
    AWp g ⟨0, B⟩ cz i.body (frame0 f i.nt ⟨.pointer (some ⟨0, 0, none⟩) :: l⟩) (netS j N) fun ex fr' s' => (ex = .normal ∨ ex = .ret) ∧ ∃ u, resultsV g cz fr' s' i.results = some u ∧ u = v ∧ EffEnd j a b N row s' := by
  subst hv
  exact eff_one hg hr hex hpl (path_eval ho (hc.trans hcc) hlf) he
theorem eff_p2 [Z : Zone] {g : Cfg} (hg : ∀ B, Go.Am.Good g B) {o : FuncId → Option HandT} (ho : ∀ f k hd, o f = some k → g.hand f = some hd → ∀ a c s, (k a c s).eval = hd a c s) {n lim B : Nat} {i : FnI} {f : FuncId} {j : Bool} {N : Net} {l : List Value} {t t' : Tmp} {v v' w w' : Value} {ex : Ex} {a b : Int} {row : Option (Bool × Array Value)} {h0 h1 h2 h3 : Option AObj} {bs : List Bool} {cc : Bool} (hr : i.results = [.tmp t, .tmp t'])
    (hc : (followT bs (codeT g (callT g o n) lim cz i.body (frame0 f i.nt ⟨.pointer (some ⟨0, 0, none⟩) :: l⟩) (netS j N))).1 = cc) (hlf : pathObs (leaves [t, t']) bs (codeT g (callT g o n) lim cz i.body (frame0 f i.nt ⟨.pointer (some ⟨0, 0, none⟩) :: l⟩) (netS j N)) = some (ex, [some v', some w'], h0, h1, h2, h3))
    (hex : ex = .normal ∨ ex = .ret) (hcc : cc = true) (hv : v' = v) (hw : w' = w) (hpl : plainN 9 v = true) (hpl' : plainN 9 w = true) (he : ∀ s : St, s.heap.get 0 = h0 → s.heap.get 1 = h1 → s.heap.get 2 = h2 → s.heap.get 3 = h3 → EffEnd j a b N row s) :
    AWp g ⟨0, B⟩ cz i.body (frame0 f i.nt ⟨.pointer (some ⟨0, 0, none⟩) :: l⟩) (netS j N) fun ex fr' s' => (ex = .normal ∨ ex = .ret) ∧ ∃ u, resultsV g cz fr' s' i.results = some u ∧ u = .tuple #[v, w] ∧ EffEnd j a b N row s' := by
  subst hv hw
  exact eff_two hg hr hex hpl hpl' (path_eval ho (hc.trans hcc) hlf) he
/-- The same, of objects with other numbers. -/
def leavesK (L K : List Nat) : Option (Ex × Fr × St) → Option (Ex × List (Option Value) × List (Option AObj))
  | some (ex, fr, s) => some (ex, L.map fr.tm.get, K.map s.heap.get)
  | none => none
theorem eff_pk [Z : Zone] {g : Cfg} (hg : ∀ B, Go.Am.Good g B) {o : FuncId → Option HandT} (ho : ∀ f k hd, o f = some k → g.hand f = some hd → ∀ a c s, (k a c s).eval = hd a c s) {n lim B : Nat} {i : FnI} {f : FuncId} {j : Bool} {N : Net} {l : List Value} {t : Tmp} {K : List Nat} {v v' : Value} {ex : Ex} {a b : Int} {row : Option (Bool × Array Value)} {hs : List (Option AObj)} {bs : List Bool} {cc : Bool} (hr : i.results = [.tmp t])
    (hc : (followT bs (codeT g (callT g o n) lim cz i.body (frame0 f i.nt ⟨.pointer (some ⟨0, 0, none⟩) :: l⟩) (netS j N))).1 = cc) (hlf : pathObs (leavesK [t] K) bs (codeT g (callT g o n) lim cz i.body (frame0 f i.nt ⟨.pointer (some ⟨0, 0, none⟩) :: l⟩) (netS j N)) = some (ex, [some v'], hs))
    (hex : ex = .normal ∨ ex = .ret) (hcc : cc = true) (hv : v' = v) (hpl : plainN 9 v = true) (he : ∀ s : St, K.map s.heap.get = hs → EffEnd j a b N row s) :
    AWp g ⟨0, B⟩ cz i.body (frame0 f i.nt ⟨.pointer (some ⟨0, 0, none⟩) :: l⟩) (netS j N) fun ex fr' s' => (ex = .normal ∨ ex = .ret) ∧ ∃ u, resultsV g cz fr' s' i.results = some u ∧ u = v ∧ EffEnd j a b N row s' := by
  subst hv
  have h := path_eval ho (hc.trans hcc) hlf
  unfold leavesK at h
  split at h
  · rename_i ex' fr s hcode
    simp only [Option.some.injEq, Prod.mk.injEq] at h
    obtain ⟨rfl, hL, hK⟩ := h
    refine AWp.eval hg hcode ⟨hex, v', ?_, rfl, he s hK⟩
    simp only [List.map_cons, List.map_nil, List.cons.injEq, and_true] at hL
    rw [hr]
    exact resultsV_one hL hpl
  · cases h
/-- What is kept may be said by another word. -/
theorem gcObs_sel {k0 fl : Nat} {sel sel' : Ex → List Tmp × List Kept} {r : Option (Ex × Fr × St)} {ex : Ex} {fr : Fr} {s : St} (h : gcObs k0 fl sel r = some (ex, fr, s)) (e : sel' ex = sel ex) : gcObs k0 fl sel' r = some (ex, fr, s) := by
  obtain ⟨fr', s', h1, h2, h3⟩ := gcObs_some h
  subst h1
  cases ex with
  | pan v => exact (h2 v rfl).elim
  | normal => unfold gcObs; simp only; rw [e, h3]
  | ret => unfold gcObs; simp only; rw [e, h3]
  | exit j => unfold gcObs; simp only; rw [e, h3]
end
end Go.Proofs.Ytgcffmkifjnmlaa
