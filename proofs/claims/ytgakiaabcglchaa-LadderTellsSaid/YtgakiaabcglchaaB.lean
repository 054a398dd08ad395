/- What the small functions of a ladder come to: when a run ends. -/
import Derived.Test.YtgakiaabcglchaaA
namespace Go.Proofs.Ytgakiaabcglchaa
open Go.Am
noncomputable section

theorem w64 {n : Int} (h : -9223372036854775808 ≤ n) (h' : n < 9223372036854775808) : IntKind.wrap .i64 n = n := by
  simp [IntKind.wrap, IntKind.bits, IntKind.signed]
  split <;> omega

theorem ending_tree : (fun (p : Fs) (L W G K F C : Int) => (callT (cfg1 p) (t1 p) 60 (.func (.func 12) #[] #[]) #[pl L W G K, rn F C] (ctx0 0) st0).evalW seenOf) = fun (p : Fs) (L W G K F C : Int) =>
    (bif !p.mv L W G K F C then
     some (Value.int IntKind.i64 (-1), st0)
    else
     bif C != -1 then
      some (Value.int IntKind.i64 (if C < IntKind.wrap IntKind.i64 (F + L) then C else IntKind.wrap IntKind.i64 (F + L)), st0)
     else
      some (Value.int IntKind.i64 (IntKind.wrap IntKind.i64 (F + L)), st0)) := by kernel_rfl

theorem refend_tree : (fun (p : Fs) (L W G K F C : Int) => (callT (cfg1 p) (t1 p) 60 (.func (.func 13) #[] #[]) #[pl L W G K, rn F C] (ctx0 0) st0).evalW seenOf) = fun (p : Fs) (L W G K F C : Int) =>
    (bif !p.mv L W G K F C then
     some (Value.int IntKind.i64 (-1), st0)
    else
     bif decide (C ≥ 0) then
      bif decide (C < IntKind.wrap IntKind.i64 (F + L)) then
       some (Value.int IntKind.i64 C, st0)
      else
       some (Value.int IntKind.i64 (IntKind.wrap IntKind.i64 (F + L)), st0)
     else
      some (Value.int IntKind.i64 (IntKind.wrap IntKind.i64 (F + L)), st0)) := by kernel_rfl

theorem ending_eq (l : Nat) (L W G K F C : Int) : (callT (cfg1 (f0 l)) (t1 (f0 l)) 60 (.func (.func 12) #[] #[]) #[pl L W G K, rn F C] (ctx0 0) st0).evalW seenOf = some (.int .i64 (endV L W G K F C), st0) := by
  rw [congrFun (congrFun (congrFun (congrFun (congrFun (congrFun (congrFun ending_tree (f0 l)) L) W) G) K) F) C]
  simp only [f0]
  by_cases h : May L W G K F C
  · have h' := h
    unfold May Chk at h'
    rw [w64 (n := F + L) (by omega) (by omega)]
    simp only [endV, mayV, h, decide_true, Bool.not_true, cond_false, if_true, Bool.cond_eq_ite, bne_iff_ne, ne_eq, ite_not]
    by_cases hc : C = -1 <;> simp [hc]
  · simp [endV, mayV, h]

theorem refend_eq (l : Nat) (L W G K F C : Int) : (callT (cfg1 (f0 l)) (t1 (f0 l)) 60 (.func (.func 13) #[] #[]) #[pl L W G K, rn F C] (ctx0 0) st0).evalW seenOf = some (.int .i64 (endV L W G K F C), st0) := by
  rw [congrFun (congrFun (congrFun (congrFun (congrFun (congrFun (congrFun refend_tree (f0 l)) L) W) G) K) F) C]
  simp only [f0]
  by_cases h : May L W G K F C
  · have h' := h
    unfold May Chk at h'
    rw [w64 (n := F + L) (by omega) (by omega)]
    by_cases hc : C = -1
    · subst hc; simp [endV, mayV, h]
    · have h0 : 0 ≤ C := by omega
      by_cases h1 : C < F + L <;> simp [endV, mayV, h, hc, h0, h1]
  · simp [endV, mayV, h]

def T1 (p : Fs) : FuncId → Option (Array Value → DT (Option (Value × St)))
  | 12 => some (on6 fun L W G K F C => int (p.en L W G K F C))
  | 13 => some (on6 fun L W G K F C => int (p.en L W G K F C))
  | _ => none

theorem T1_ok (l : Nat) : ∀ f F, T1 (f0 l) f = some F → (cfg1 (f0 l)).hand f = none ∧ (∃ i, (cfg1 (f0 l)).fns f = some i) ∧ Apart (cfg1 (f0 l)) f F := by
  intro f F h
  unfold T1 at h
  split at h
  · cases h; exact ⟨rfl, ⟨_, rfl⟩, apart6 (t1_ok _) (ending_eq l)⟩
  · cases h; exact ⟨rfl, ⟨_, rfl⟩, apart6 (t1_ok _) (refend_eq l)⟩
  · cases h

def cfg2 (p : Fs) : Cfg := (cfg1 p).told (T1 p)
def t2 (p : Fs) : FuncId → Option HandT := treeT (T1 p) (t1 p)
theorem good2 (l : Nat) (B : Base) : Go.Am.Good (cfg2 (f0 l)) B := told_good (good1 l) rfl (T1_ok l) B
theorem t2_ok (p : Fs) : ∀ f k hd, t2 p f = some k → (cfg2 p).hand f = some hd → ∀ a c s, (k a c s).eval = hd a c s := treeT_ok (t1_ok p)
end
end Go.Proofs.Ytgakiaabcglchaa
