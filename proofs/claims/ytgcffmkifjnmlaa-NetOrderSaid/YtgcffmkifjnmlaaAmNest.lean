/- Code in a row. -/
import Derived.Test.YtgcffmkifjnmlaaAmFn
namespace Go.Am
noncomputable section

def seqOf : List Code → Code
  | [] => .skip
  | p :: ps => .seq p (seqOf ps)
def nest : List Code → Code → Code
  | [], rest => rest
  | p :: ps, rest => .seq p (nest ps rest)

def contP : Ex → Prop → Prop → Prop
  | .normal, A, _ => A
  | _, _, B => B

section
variable {g : Cfg} {base : Base} {c : Ctx}

theorem AWp.nest (hg : ∀ B, Good g B) {n lim : Nat} {rest : Code} {ex : Ex} {fr' : Fr} {s' : St} {R : Ex → Fr → St → Prop} : ∀ (ps : List Code) (fr : Fr) (s : St), code g (call g n) lim c (seqOf ps) fr s = some (ex, fr', s') →
    (Grow c s s' → contP ex (AWp g base c rest fr' s' R) (R ex fr' s')) → AWp g base c (Go.Am.nest ps rest) fr s R := by
  intro ps
  induction ps with
  | nil =>
    intro fr s h hR
    simp only [seqOf, code, Option.some.injEq, Prod.mk.injEq] at h
    obtain ⟨rfl, rfl, rfl⟩ := h
    exact hR (Grow.refl _ _)
  | cons p ps ih =>
    intro fr s h hR
    simp only [seqOf, code] at h
    replace h := bind_some h; obtain ⟨⟨ex1, fr1, s1⟩, h1, h⟩ := h
    have hg1 : Grow c s s1 := code_grow (call_grow (hg base).hgrow n) _ _ _ _ h1
    refine AWp.seq (AWp.eval hg h1 ⟨hg1, ?_⟩)
    cases ex1 with
    | normal =>
      simp only at h ⊢
      exact ih fr1 s1 h fun hg2 => hR (hg1.trans hg2)
    | ret =>
      simp only [pure, Option.some.injEq, Prod.mk.injEq] at h
      obtain ⟨rfl, rfl, rfl⟩ := h
      exact hR hg1
    | exit i =>
      simp only [pure, Option.some.injEq, Prod.mk.injEq] at h
      obtain ⟨rfl, rfl, rfl⟩ := h
      exact hR hg1
    | pan v =>
      simp only [pure, Option.some.injEq, Prod.mk.injEq] at h
      obtain ⟨rfl, rfl, rfl⟩ := h
      exact hR hg1

/-- Code in a row, from a state that is laid. -/
theorem AWp.nestFirst (hg : ∀ B, Good g B) {k0 fl b n lim : Nat} {ps : List Code} {rest : Code} {fr : Fr} {s : St} {sel : Ex → List Tmp × List Kept} {ex : Ex} {frj : Fr} {sj : St}
    (h : gcObs k0 fl sel (code g (call g n) lim { floor := fl, own := [], hide := [] } (seqOf ps) fr s) = some (ex, frj, sj)) (hp : plainJ sj (sel ex).2 0) (hfl : fl ≤ s.next) {R : Ex → Fr → St → Prop}
    (hR : ∀ fr' s', Sn ⟨k0, b⟩ k0 fl { floor := fl, own := [], hide := [] } frj sj fr' s' → contP ex (AWp g ⟨k0, b⟩ { floor := fl, own := [], hide := [] } rest fr' s' R) (R ex fr' s')) : AWp g ⟨k0, b⟩ { floor := fl, own := [], hide := [] } (Go.Am.nest ps rest) fr s R := by
  obtain ⟨fr', s', h1, h2, h3⟩ := gcObs_some h
  have hgr : Grow { floor := fl, own := [], hide := [] } s s' := code_grow (call_grow (hg ⟨k0, b⟩).hgrow n) _ _ _ _ h1
  obtain ⟨e, V, F⟩ := gc_view h3 hp (Nat.le_trans hfl hgr.next) (b := b)
  exact AWp.nest hg ps fr s h1 fun _ => hR fr' s' ⟨e, V, F⟩

/-- By its tree. -/
theorem gcObs_tree {o : FuncId → Option HandT} (ho : ∀ f k hd, o f = some k → g.hand f = some hd → ∀ a c s, (k a c s).eval = hd a c s) {k0 fl n lim : Nat} {sel : Ex → List Tmp × List Kept} {k : Code} {fr : Fr} {s : St} :
    (codeT g (callT g o n) lim c k fr s).evalW (gcObs k0 fl sel) = gcObs k0 fl sel (code g (call g n) lim c k fr s) := by
  rw [DT.evalW_eq, codeT_eval g _ _ (callT_eval g o ho n)]

/-! ### One path of a tree -/
def followT {α : Type} : List Bool → DT α → Bool × Option α
  | _, .leaf a => (true, some a)
  | [], .node _ _ _ => (false, none)
  | b :: bs, .node c t f => (cond (cond b c (!c)) (followT bs (cond b t f)).1 false, (followT bs (cond b t f)).2)
theorem followT_eval {α : Type} : ∀ (bs : List Bool) (x : DT α) {a : α}, (followT bs x).1 = true → (followT bs x).2 = some a → x.eval = a := by
  intro bs
  induction bs with
  | nil =>
    intro x a h1 h2
    cases x with
    | leaf y => simp only [followT, Option.some.injEq] at h2; exact h2
    | node c t f => cases h1
  | cons b bs ih =>
    intro x a h1 h2
    cases x with
    | leaf y => simp only [followT, Option.some.injEq] at h2; exact h2
    | node c t f =>
      simp only [followT] at h1 h2
      cases c <;> cases b <;> simp only [cond_true, cond_false, Bool.not_true, Bool.not_false, Bool.false_eq_true] at h1 h2
      · exact ih f h1 h2
      · exact ih t h1 h2
/-- The path's end, seen. -/
def pathObs {α β : Type} (p : α → Option β) (bs : List Bool) (x : DT α) : Option β := match (followT bs x).2 with | some a => p a | none => none
theorem path_ok {g : Cfg} {o : FuncId → Option HandT} (ho : ∀ f k hd, o f = some k → g.hand f = some hd → ∀ a c s, (k a c s).eval = hd a c s) {k0 fl n lim : Nat} {sel : Ex → List Tmp × List Kept} {k : Code} {fr : Fr} {s : St} {bs : List Bool} {y : Ex × Fr × St}
    (h1 : (followT bs (codeT g (callT g o n) lim { floor := fl, own := [], hide := [] } k fr s)).1 = true) (h2 : pathObs (gcObs k0 fl sel) bs (codeT g (callT g o n) lim { floor := fl, own := [], hide := [] } k fr s) = some y) :
    gcObs k0 fl sel (code g (call g n) lim { floor := fl, own := [], hide := [] } k fr s) = some y := by
  unfold pathObs at h2
  split at h2
  · rename_i a ha
    have := followT_eval _ _ h1 ha
    rw [codeT_eval g _ _ (callT_eval g o ho n)] at this
    rw [this]; exact h2
  · cases h2

/-! ### Parts of code -/
def cL : Code → Code
  | .seq a _ => a
  | c => c
def cR : Code → Code
  | .seq _ b => b
  | c => c
def cB : Code → Code
  | .block _ a => a
  | .loop a => a
  | c => c
end
end
end Go.Am
