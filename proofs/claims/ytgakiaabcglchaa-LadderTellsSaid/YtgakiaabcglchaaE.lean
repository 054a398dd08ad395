/- The laws of a ladder: the parts told. -/
import Derived.Test.YtgakiaabcglchaaD
namespace Go.Proofs.Ytgakiaabcglchaa
open Go.Am
noncomputable section

/-- A fresh list of so many numbers. -/
def freshS (l : Nat) (f : Nat → Int) : Value × St :=
  match l with
  | 0 => (.slice none 0 0, st0)
  | n + 1 => (.slice (some ⟨0, 0, none⟩) (n + 1) (n + 1), ⟨.node .nil (some (.cells ⟨(List.range (n + 1)).map fun i => Value.int .i64 (f i)⟩ 1 true)) .nil, 1⟩)
theorem freshS_eq (l : List Nat) : freshS l.length (fun i => Int.ofNat (l.getD i 0)) = freshL l := by
  cases l with
  | nil => rfl
  | cons a r =>
    simp only [freshS, freshL, List.length_cons]
    have : (List.range (r.length + 1)).map (fun i => Value.int .i64 (Int.ofNat ((a :: r).getD i 0))) = (a :: r).map fun (n : Nat) => Value.int .i64 (Int.ofNat n) := by
      apply List.ext_getElem
      · simp
      · intro i h1 h2
        simp at h1 h2
        simp only [List.getElem_map, List.getElem_range]
        rw [List.getD_eq_getElem?_getD, List.getElem?_eq_getElem (by simpa using h2)]
        rfl
    rw [this]
def onePick (p : Fs) (l : Nat) (L W G K F C X Y : Int) : DT (Option (Value × St)) := .node (p.pg L W G K F C X Y) (.leaf (some (freshS l (fun i => p.pe i L W G K F C X Y)))) (.leaf none)

theorem between_eq (l : Nat) (L W G K F C X Y : Int) : (callT (cfg3 (f0 l)) (t3 (f0 l)) 60 (.func (.func 18) #[] #[]) #[pl L W G K, rn F C, .int .i64 X, .int .i64 Y] (ctx0 0) st0).evalW seenOf = some (freshL (pk L W G K F C X Y)) := by
  rw [congrFun (congrFun (congrFun (congrFun (congrFun (congrFun (congrFun (congrFun (congrFun between_tree (f0 l)) L) W) G) K) F) C) X) Y, btw_eq]
  change (bif !mayV L W G K F C then some (Value.slice none 0 0, st0) else some (freshL ([] ++ picked (sels L W G K F C X Y)))) = _
  by_cases h : May L W G K F C
  · simp [pk, mayV, h]
  · simp [pk, mayV, h, freshL]
theorem refbetween_eq (l : Nat) (L W G K F C X Y : Int) : (callT (cfg3 (f0 l)) (t3 (f0 l)) 60 (.func (.func 19) #[] #[]) #[pl L W G K, rn F C, .int .i64 X, .int .i64 Y] (ctx0 0) st0).evalW seenOf = some (freshL (pk L W G K F C X Y)) := by
  rw [congrFun (congrFun (congrFun (congrFun (congrFun (congrFun (congrFun (congrFun (congrFun refbetween_tree (f0 l)) L) W) G) K) F) C) X) Y, btw_eq]
  change (bif !mayV L W G K F C then some (Value.slice none 0 0, st0) else some (freshL ([] ++ picked (sels L W G K F C X Y)))) = _
  by_cases h : May L W G K F C
  · simp [pk, mayV, h]
  · simp [pk, mayV, h, freshL]
theorem onePick_some {l : Nat} {L W G K F C X Y : Int} {x : Value × St} (h : (onePick (f0 l) l L W G K F C X Y).eval = some x) : some (freshL (pk L W G K F C X Y)) = some x := by
  simp only [onePick, f0] at h
  by_cases e : (pk L W G K F C X Y).length = l
  · rw [decide_eq_true e] at h
    simp only [DT.eval_node, cond_true, DT.eval_leaf] at h
    rw [← h, ← freshS_eq, e]
  · rw [decide_eq_false e] at h
    cases h

def T3 (p : Fs) (l : Nat) : FuncId → Option (Array Value → DT (Option (Value × St)))
  | 16 => some (on7 fun L W G K F C N => int (p.st L W G K F C N))
  | 17 => some (on7 fun L W G K F C N => int (p.st L W G K F C N))
  | 18 => some (on8 (onePick p l))
  | 19 => some (on8 (onePick p l))
  | _ => none

theorem T3_ok (l : Nat) : ∀ f F, T3 (f0 l) l f = some F → (cfg3 (f0 l)).hand f = none ∧ (∃ i, (cfg3 (f0 l)).fns f = some i) ∧ Apart (cfg3 (f0 l)) f F := by
  intro f F h
  unfold T3 at h
  split at h
  · cases h; exact ⟨rfl, ⟨_, rfl⟩, apart7 (t3_ok _) (stage_eq l)⟩
  · cases h; exact ⟨rfl, ⟨_, rfl⟩, apart7 (t3_ok _) (refstage_eq l)⟩
  · cases h; exact ⟨rfl, ⟨_, rfl⟩, apart8 (t3_ok _) fun L W G K F C X Y x hx => (between_eq l L W G K F C X Y).trans (onePick_some hx)⟩
  · cases h; exact ⟨rfl, ⟨_, rfl⟩, apart8 (t3_ok _) fun L W G K F C X Y x hx => (refbetween_eq l L W G K F C X Y).trans (onePick_some hx)⟩
  · cases h

def cfg4 (p : Fs) (l : Nat) : Cfg := (cfg3 p).told (T3 p l)
def t4 (p : Fs) (l : Nat) : FuncId → Option HandT := treeT (T3 p l) (t3 p)
theorem good4 (l : Nat) (B : Base) : Go.Am.Good (cfg4 (f0 l) l) B := told_good (good3 l) rfl (T3_ok l) B
theorem t4_ok (p : Fs) (l : Nat) : ∀ f k hd, t4 p l f = some k → (cfg4 p l).hand f = some hd → ∀ a c s, (k a c s).eval = hd a c s := treeT_ok (t3_ok p)

def lst (b0 b1 b2 b3 b4 : Bool) : List Nat := (if b0 then [0] else []) ++ (if b1 then [1] else []) ++ (if b2 then [2] else []) ++ (if b3 then [3] else []) ++ (if b4 then [4] else [])
theorem pk_lst (L W G K F C X Y : Int) : pk L W G K F C X Y = lst
    (decide (May L W G K F C) && (decide (rg0 L W G K F C > X) && decide (rg0 L W G K F C ≤ Y))) (decide (May L W G K F C) && (decide (rg1 L W G K F C > X) && decide (rg1 L W G K F C ≤ Y)))
    (decide (May L W G K F C) && (decide (endV L W G K F C > X) && decide (endV L W G K F C ≤ Y))) (decide (May L W G K F C) && (decide (rg3 L W G K F C > X) && decide (rg3 L W G K F C ≤ Y)))
    (decide (May L W G K F C) && (decide (rg4 L W G K F C > X) && decide (rg4 L W G K F C ≤ Y))) := by
  unfold pk
  by_cases h : May L W G K F C
  · simp only [h, if_true, decide_true, Bool.true_and, sels, picked]
    generalize (decide (rg0 L W G K F C > X) && decide (rg0 L W G K F C ≤ Y)) = b0
    generalize (decide (rg1 L W G K F C > X) && decide (rg1 L W G K F C ≤ Y)) = b1
    generalize (decide (endV L W G K F C > X) && decide (endV L W G K F C ≤ Y)) = b2
    generalize (decide (rg3 L W G K F C > X) && decide (rg3 L W G K F C ≤ Y)) = b3
    generalize (decide (rg4 L W G K F C > X) && decide (rg4 L W G K F C ≤ Y)) = b4
    cases b0 <;> cases b1 <;> cases b2 <;> cases b3 <;> cases b4 <;> rfl
  · simp [h, lst]
end
end Go.Proofs.Ytgakiaabcglchaa
