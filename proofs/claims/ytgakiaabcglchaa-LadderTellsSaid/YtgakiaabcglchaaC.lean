/- What the small functions of a ladder come to: the rungs. -/
import Derived.Test.YtgakiaabcglchaaB
namespace Go.Proofs.Ytgakiaabcglchaa
open Go.Am
noncomputable section


def rgsA (p : Fs) (L W G K F C : Int) : DT (Option (Value × St)) :=
  .leaf (some (.agg #[.int .i64 (p.r0 L W G K F C), .int .i64 (p.r1 L W G K F C), .int .i64 (p.en L W G K F C), .int .i64 (p.r3 L W G K F C), .int .i64 (p.r4 L W G K F C)], st0))
def rgsS (p : Fs) (L W G K F C : Int) : DT (Option (Value × St)) :=
  .leaf (some (.slice (some ⟨0, 0, none⟩) 5 5, { heap := Tr.node Tr.nil (some (.cells #[.int .i64 (p.r0 L W G K F C), .int .i64 (p.r1 L W G K F C), .int .i64 (p.en L W G K F C), .int .i64 (p.r3 L W G K F C), .int .i64 (p.r4 L W G K F C)] 1 false)) Tr.nil, next := 1 }))

theorem end_le {L W G K F C : Int} (h : May L W G K F C) : endV L W G K F C ≤ F + L ∧ F ≤ endV L W G K F C := by
  have h' := h
  unfold May Chk at h'
  simp only [endV, if_pos h]
  split
  · omega
  · split <;> omega

theorem rungs_tree : (fun (p : Fs) (L W G K F C : Int) => (callT (cfg2 p) (t2 p) 60 (.func (.func 9) #[] #[]) #[pl L W G K, rn F C] (ctx0 0) st0).evalW seenOf) = fun (p : Fs) (L W G K F C : Int) =>
    (bif p.en L W G K F C == -1 then
     some (Value.agg { toList := [Value.int IntKind.i64 (-1), Value.int IntKind.i64 (-1), Value.int IntKind.i64 (-1), Value.int IntKind.i64 (-1), Value.int IntKind.i64 (-1)] }, st0)
    else
     some (Value.agg { toList := [Value.int IntKind.i64 F, Value.int IntKind.i64 (if p.en L W G K F C < IntKind.wrap IntKind.i64 (IntKind.wrap IntKind.i64 (F + L) - W) then p.en L W G K F C else IntKind.wrap IntKind.i64 (IntKind.wrap IntKind.i64 (F + L) - W)), Value.int IntKind.i64 (p.en L W G K F C), Value.int IntKind.i64 (IntKind.wrap IntKind.i64 (p.en L W G K F C + G)), Value.int IntKind.i64 (IntKind.wrap IntKind.i64 (IntKind.wrap IntKind.i64 (p.en L W G K F C + G) + K))] }, st0)) := by kernel_rfl

theorem refrungs_tree : (fun (p : Fs) (L W G K F C : Int) => (callT (cfg2 p) (t2 p) 60 (.func (.func 15) #[] #[]) #[pl L W G K, rn F C] (ctx0 0) st0).evalW seenOf) = fun (p : Fs) (L W G K F C : Int) =>
    (bif !p.mv L W G K F C then
     some (Value.slice (some { block := 0, off := 0 }) 5 5, { heap := Tr.node Tr.nil (some (AObj.cells { toList := [Value.int IntKind.i64 (-1), Value.int IntKind.i64 (-1), Value.int IntKind.i64 (-1), Value.int IntKind.i64 (-1), Value.int IntKind.i64 (-1)] } 1 false)) Tr.nil, next := 1 })
    else
     some (Value.slice (some { block := 0, off := 0 }) 5 5, { heap := Tr.node Tr.nil (some (AObj.cells { toList := [Value.int IntKind.i64 F, Value.int IntKind.i64 (if p.en L W G K F C < IntKind.wrap IntKind.i64 (IntKind.wrap IntKind.i64 (F + L) - W) then p.en L W G K F C else IntKind.wrap IntKind.i64 (IntKind.wrap IntKind.i64 (F + L) - W)), Value.int IntKind.i64 (p.en L W G K F C), Value.int IntKind.i64 (IntKind.wrap IntKind.i64 (p.en L W G K F C + G)), Value.int IntKind.i64 (IntKind.wrap IntKind.i64 (IntKind.wrap IntKind.i64 (p.en L W G K F C + G) + K))] } 1 false)) Tr.nil, next := 1 })) := by kernel_rfl

theorem wraps {L W G K F C : Int} (h : May L W G K F C) : IntKind.wrap .i64 (IntKind.wrap .i64 (F + L) - W) = F + L - W ∧ IntKind.wrap .i64 (endV L W G K F C + G) = endV L W G K F C + G ∧
    IntKind.wrap .i64 (IntKind.wrap .i64 (endV L W G K F C + G) + K) = endV L W G K F C + G + K := by
  have he := end_le h
  unfold May Chk at h
  have h1 : IntKind.wrap .i64 (endV L W G K F C + G) = endV L W G K F C + G := w64 (by omega) (by omega)
  refine ⟨?_, h1, ?_⟩
  · rw [w64 (n := F + L) (by omega) (by omega)]; exact w64 (by omega) (by omega)
  · rw [h1]; exact w64 (by omega) (by omega)

theorem rungs_eq (l : Nat) (L W G K F C : Int) : (callT (cfg2 (f0 l)) (t2 (f0 l)) 60 (.func (.func 9) #[] #[]) #[pl L W G K, rn F C] (ctx0 0) st0).evalW seenOf = (rgsA (f0 l) L W G K F C).eval := by
  rw [congrFun (congrFun (congrFun (congrFun (congrFun (congrFun (congrFun rungs_tree (f0 l)) L) W) G) K) F) C]
  simp only [f0]
  by_cases h : May L W G K F C
  · obtain ⟨h1, h2, h3⟩ := wraps h
    have he := end_le h
    have h' := h
    unfold May Chk at h'
    have hn : (endV L W G K F C == -1) = false := by rw [beq_eq_false_iff_ne]; omega
    rw [hn, h1, h3, h2]
    simp only [cond_false, rgsA, DT.eval_leaf, DT.eval_node, f0, rg0, rg1, rg3, rg4, if_pos h]
    try rfl
  · have he : endV L W G K F C = -1 := by simp only [endV, if_neg h]
    simp only [rgsA, DT.eval_leaf, DT.eval_node, f0, rg0, rg1, rg3, rg4, if_neg h, he]
    rfl

theorem refrungs_eq (l : Nat) (L W G K F C : Int) : (callT (cfg2 (f0 l)) (t2 (f0 l)) 60 (.func (.func 15) #[] #[]) #[pl L W G K, rn F C] (ctx0 0) st0).evalW seenOf = (rgsS (f0 l) L W G K F C).eval := by
  rw [congrFun (congrFun (congrFun (congrFun (congrFun (congrFun (congrFun refrungs_tree (f0 l)) L) W) G) K) F) C]
  simp only [f0]
  by_cases h : May L W G K F C
  · obtain ⟨h1, h2, h3⟩ := wraps h
    have hn : mayV L W G K F C = true := decide_eq_true h
    rw [hn, h1, h3, h2]
    simp only [Bool.not_true, cond_false, rgsS, DT.eval_leaf, DT.eval_node, f0, rg0, rg1, rg3, rg4, if_pos h]
    try rfl
  · have he : endV L W G K F C = -1 := by simp only [endV, if_neg h]
    have hn : mayV L W G K F C = false := decide_eq_false h
    rw [hn]
    simp only [Bool.not_false, cond_true, rgsS, DT.eval_leaf, DT.eval_node, f0, rg0, rg1, rg3, rg4, if_neg h, he]
    try rfl

def T2 (p : Fs) : FuncId → Option (Array Value → DT (Option (Value × St)))
  | 9 => some (on6 (rgsA p))
  | 15 => some (on6 (rgsS p))
  | _ => none

theorem T2_ok (l : Nat) : ∀ f F, T2 (f0 l) f = some F → (cfg2 (f0 l)).hand f = none ∧ (∃ i, (cfg2 (f0 l)).fns f = some i) ∧ Apart (cfg2 (f0 l)) f F := by
  intro f F h
  unfold T2 at h
  split at h
  · cases h; exact ⟨rfl, ⟨_, rfl⟩, apart6 (t2_ok _) (rungs_eq l)⟩
  · cases h; exact ⟨rfl, ⟨_, rfl⟩, apart6 (t2_ok _) (refrungs_eq l)⟩
  · cases h

def cfg3 (p : Fs) : Cfg := (cfg2 p).told (T2 p)
def t3 (p : Fs) : FuncId → Option HandT := treeT (T2 p) (t2 p)
theorem good3 (l : Nat) (B : Base) : Go.Am.Good (cfg3 (f0 l)) B := told_good (good2 l) rfl (T2_ok l) B
theorem t3_ok (p : Fs) : ∀ f k hd, t3 p f = some k → (cfg3 p).hand f = some hd → ∀ a c s, (k a c s).eval = hd a c s := treeT_ok (t2_ok p)
end
end Go.Proofs.Ytgakiaabcglchaa
