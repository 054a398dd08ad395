/- LadderMoved: the walk. -/
import Derived.Test.YtgakiaabcglchaaE
namespace Go.Proofs.Ytgakiaabcglchaa
open Go.Am
noncomputable section
/-- The rungs of a run that may be: from 0 on. -/
structure Ns where
  n0 : Int → Int → Int → Int → Int → Int → Nat
  n1 : Int → Int → Int → Int → Int → Int → Nat
  n2 : Int → Int → Int → Int → Int → Int → Nat
  n3 : Int → Int → Int → Int → Int → Int → Nat
  n4 : Int → Int → Int → Int → Int → Int → Nat
def q0 : Ns := { n0 := fun L W G K F C => (rg0 L W G K F C).toNat, n1 := fun L W G K F C => (rg1 L W G K F C).toNat, n2 := fun L W G K F C => (endV L W G K F C).toNat, n3 := fun L W G K F C => (rg3 L W G K F C).toNat, n4 := fun L W G K F C => (rg4 L W G K F C).toNat }
def rgsM (m : Bool) (p : Fs) (q : Ns) (L W G K F C : Int) : DT (Option (Value × St)) :=
  .node (p.mv L W G K F C)
    (.leaf (if m then some (.agg #[.int .i64 (Int.ofNat (q.n0 L W G K F C)), .int .i64 (Int.ofNat (q.n1 L W G K F C)), .int .i64 (Int.ofNat (q.n2 L W G K F C)), .int .i64 (Int.ofNat (q.n3 L W G K F C)), .int .i64 (Int.ofNat (q.n4 L W G K F C))], st0) else none))
    (.leaf (if m then none else some (.agg #[.int .i64 (-1), .int .i64 (-1), .int .i64 (-1), .int .i64 (-1), .int .i64 (-1)], st0)))
theorem rgsM_some {m : Bool} {L W G K F C : Int} {x : Value × St} (h : (rgsM m (f0 0) q0 L W G K F C).eval = some x) : (rgsA (f0 0) L W G K F C).eval = some x := by
  rw [← h]
  simp only [rgsM, rgsA, f0, mayV, q0] at h ⊢
  by_cases e : May L W G K F C
  · have he := end_le e
    have h' := e
    unfold May Chk at h'
    cases m with
    | false => simp [e, DT.eval_leaf, DT.eval_node] at h
    | true =>
      have t0 : Int.ofNat (rg0 L W G K F C).toNat = rg0 L W G K F C := Int.toNat_of_nonneg (by simp only [rg0, if_pos e]; omega)
      have t1 : Int.ofNat (rg1 L W G K F C).toNat = rg1 L W G K F C := Int.toNat_of_nonneg (by simp only [rg1, if_pos e]; split <;> omega)
      have t2 : Int.ofNat (endV L W G K F C).toNat = endV L W G K F C := Int.toNat_of_nonneg (by omega)
      have t3 : Int.ofNat (rg3 L W G K F C).toNat = rg3 L W G K F C := Int.toNat_of_nonneg (by simp only [rg3, if_pos e]; omega)
      have t4 : Int.ofNat (rg4 L W G K F C).toNat = rg4 L W G K F C := Int.toNat_of_nonneg (by simp only [rg4, if_pos e]; omega)
      rw [t0, t1, t2, t3, t4]
      simp only [e, decide_true, DT.eval_node, DT.eval_leaf, cond_true, if_true]
  · cases m with
    | true => simp [e, DT.eval_leaf, DT.eval_node] at h
    | false =>
      have he : endV L W G K F C = -1 := by simp only [endV, if_neg e]
      simp only [rg0, rg1, rg3, rg4, if_neg e, he, decide_false, DT.eval_node, DT.eval_leaf, cond_false]
      simp [e]

theorem apart6' {g : Cfg} {o : FuncId → Option HandT} (ho : ∀ f k hd, o f = some k → g.hand f = some hd → ∀ a c s, (k a c s).eval = hd a c s) {f : FuncId} {k : Int → Int → Int → Int → Int → Int → DT (Option (Value × St))}
    (h : ∀ L W G K F C x, (k L W G K F C).eval = some x → (callT g o 60 (.func (.func f) #[] #[]) #[pl L W G K, rn F C] (ctx0 0) st0).evalW seenOf = some x) : Apart g f (on6 k) := by
  intro args x hx
  obtain ⟨L, W, G, K, F, C, rfl, hk⟩ := on6_some hx
  exact ⟨congrFun (congrFun (congrFun (congrFun (congrFun (congrFun plain6 L) W) G) K) F) C, apart_of ho (h L W G K F C x hk)⟩

def T2M (m : Bool) (p : Fs) (q : Ns) : FuncId → Option (Array Value → DT (Option (Value × St)))
  | 9 => some (on6 (rgsM m p q))
  | _ => none
theorem T2M_ok (m : Bool) : ∀ f F, T2M m (f0 0) q0 f = some F → (cfg2 (f0 0)).hand f = none ∧ (∃ i, (cfg2 (f0 0)).fns f = some i) ∧ Apart (cfg2 (f0 0)) f F := by
  intro f F h
  unfold T2M at h
  split at h
  · cases h; exact ⟨rfl, ⟨_, rfl⟩, apart6' (t2_ok _) fun L W G K F C x hx => (rungs_eq 0 L W G K F C).trans (rgsM_some hx)⟩
  · cases h
def cfgM (m : Bool) (p : Fs) (q : Ns) : Cfg := (cfg2 p).told (T2M m p q)
def tM (m : Bool) (p : Fs) (q : Ns) : FuncId → Option HandT := treeT (T2M m p q) (t2 p)
theorem goodM (m : Bool) (B : Base) : Go.Am.Good (cfgM m (f0 0) q0) B := told_good (good2 0) rfl (T2M_ok m) B
theorem tM_ok (m : Bool) (p : Fs) (q : Ns) : ∀ f k hd, tM m p q f = some k → (cfgM m p q).hand f = some hd → ∀ a c s, (k a c s).eval = hd a c s := treeT_ok (t2_ok p)

def movL (m : Bool) (p : Fs) (q : Ns) (L W G K F C F' C' Z : Int) : Bool :=
  match m with
  | true => bif p.mv L W G K F C then bif p.mv L W G K F' C' then
      bif Int.ofNat (q.n0 L W G K F' C') != IntKind.wrap .i64 (Int.ofNat (q.n0 L W G K F C) + Z) then false else bif Int.ofNat (q.n1 L W G K F' C') != IntKind.wrap .i64 (Int.ofNat (q.n1 L W G K F C) + Z) then false else
      bif Int.ofNat (q.n2 L W G K F' C') != IntKind.wrap .i64 (Int.ofNat (q.n2 L W G K F C) + Z) then false else bif Int.ofNat (q.n3 L W G K F' C') != IntKind.wrap .i64 (Int.ofNat (q.n3 L W G K F C) + Z) then false else
      bif Int.ofNat (q.n4 L W G K F' C') != IntKind.wrap .i64 (Int.ofNat (q.n4 L W G K F C) + Z) then false else true
      else false else false
  | false => bif p.mv L W G K F C then false else bif p.mv L W G K F' C' then false else true
def movedT (m : Bool) (p : Fs) (q : Ns) (L W G K F C Z : Int) : Bool :=
  bif decide (Z < 0) then true else bif decide (Z > 1073741824) then true else bif decide (F < 0) then true else bif decide (F > 1073741824) then true else bif decide (C > 1073741824) then true else
  bif decide (C ≥ 0) then movL m p q L W G K F C (IntKind.wrap .i64 (F + Z)) (IntKind.wrap .i64 (C + Z)) Z else movL m p q L W G K F C (IntKind.wrap .i64 (F + Z)) C Z
def movedC (m : Bool) (p : Fs) (q : Ns) (L W G K F C Z : Int) : Bool := (callT (cfgM m p q) (tM m p q) 60 (.func (.func 6) #[] #[]) #[pl L W G K, rn F C, .int .i64 Z] (ctx0 0) st0).evalW Proofs.Ytgakiaabcglchaa.isTrue
theorem moved_tree1 : (fun p q L W G K F C Z => movedC true p q L W G K F C Z) = movedT true := by kernel_rfl
theorem moved_tree2 : (fun p q L W G K F C Z => movedC false p q L W G K F C Z) = movedT false := by kernel_rfl
end
end Go.Proofs.Ytgakiaabcglchaa
