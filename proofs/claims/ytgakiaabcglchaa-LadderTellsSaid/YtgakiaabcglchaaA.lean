/- What the small functions of a ladder come to: whether a plan may be, and when a run ends. -/
import Derived.Test.YtgakiaabcglchaaGood
import Derived.Test.YtgakiaabcglchaaAmIso
namespace Go.Proofs.Ytgakiaabcglchaa
open Go.Am
noncomputable section

def on4 (k : Int → Int → Int → Int → DT (Option (Value × St))) : Array Value → DT (Option (Value × St))
  | ⟨[.agg ⟨[.int .i64 L, .int .i64 W, .int .i64 G, .int .i64 K]⟩]⟩ => k L W G K
  | _ => .leaf none
def on6 (k : Int → Int → Int → Int → Int → Int → DT (Option (Value × St))) : Array Value → DT (Option (Value × St))
  | ⟨[.agg ⟨[.int .i64 L, .int .i64 W, .int .i64 G, .int .i64 K]⟩, .agg ⟨[.int .i64 F, .int .i64 C]⟩]⟩ => k L W G K F C
  | _ => .leaf none
def on0 (k : DT (Option (Value × St))) : Array Value → DT (Option (Value × St))
  | ⟨[]⟩ => k
  | _ => .leaf none
def int (n : Int) : DT (Option (Value × St)) := .leaf (some (.int .i64 n, st0))
def bool (b : Bool) : DT (Option (Value × St)) := .leaf (some (.bool b, st0))

abbrev pl (L W G K : Int) : Value := .agg #[.int .i64 L, .int .i64 W, .int .i64 G, .int .i64 K]
abbrev rn (F C : Int) : Value := .agg #[.int .i64 F, .int .i64 C]

def Chk (L W G K : Int) : Prop := 1 ≤ L ∧ L ≤ 1073741824 ∧ 0 ≤ W ∧ W ≤ L ∧ 0 ≤ G ∧ G ≤ 1073741824 ∧ 0 ≤ K ∧ K ≤ 1073741824
instance (L W G K : Int) : Decidable (Chk L W G K) := by unfold Chk; infer_instance
def May (L W G K F C : Int) : Prop := Chk L W G K ∧ 0 ≤ F ∧ F ≤ 1099511627776 ∧ (C = -1 ∨ F ≤ C ∧ C ≤ 1099511627776)
instance (L W G K F C : Int) : Decidable (May L W G K F C) := by unfold May; infer_instance
def chkV (L W G K : Int) : Int := if Chk L W G K then 0 else 1
def mayV (L W G K F C : Int) : Bool := decide (May L W G K F C)
def endV (L W G K F C : Int) : Int := if May L W G K F C then (if C = -1 then F + L else if C < F + L then C else F + L) else -1

def rg0 (L W G K F C : Int) : Int := if May L W G K F C then F else -1
def rg1 (L W G K F C : Int) : Int := if May L W G K F C then (if endV L W G K F C < F + L - W then endV L W G K F C else F + L - W) else -1
def rg3 (L W G K F C : Int) : Int := if May L W G K F C then endV L W G K F C + G else -1
def rg4 (L W G K F C : Int) : Int := if May L W G K F C then endV L W G K F C + G + K else -1
def stV (L W G K F C N : Int) : Int :=
  if May L W G K F C then (if rg4 L W G K F C ≤ N then 4 else if rg3 L W G K F C ≤ N then 3 else if endV L W G K F C ≤ N then 2 else if rg1 L W G K F C ≤ N then 1 else if rg0 L W G K F C ≤ N then 0 else -1) else -1

def picked : List (Bool × Bool × Nat) → List Nat
  | [] => []
  | (c, d, i) :: r => if c && d then i :: picked r else picked r
def sels (L W G K F C X Y : Int) : List (Bool × Bool × Nat) :=
  [(decide (rg0 L W G K F C > X), decide (rg0 L W G K F C ≤ Y), 0), (decide (rg1 L W G K F C > X), decide (rg1 L W G K F C ≤ Y), 1), (decide (endV L W G K F C > X), decide (endV L W G K F C ≤ Y), 2),
   (decide (rg3 L W G K F C > X), decide (rg3 L W G K F C ≤ Y), 3), (decide (rg4 L W G K F C > X), decide (rg4 L W G K F C ≤ Y), 4)]

def pk (L W G K F C X Y : Int) : List Nat := if May L W G K F C then picked (sels L W G K F C X Y) else []
/-- What the functions of a ladder tell. -/
structure Fs where
  ck : Int → Int → Int → Int → Int
  mv : Int → Int → Int → Int → Int → Int → Bool
  en : Int → Int → Int → Int → Int → Int → Int
  r0 : Int → Int → Int → Int → Int → Int → Int
  r1 : Int → Int → Int → Int → Int → Int → Int
  r3 : Int → Int → Int → Int → Int → Int → Int
  r4 : Int → Int → Int → Int → Int → Int → Int
  st : Int → Int → Int → Int → Int → Int → Int → Int
  pg : Int → Int → Int → Int → Int → Int → Int → Int → Bool
  pe : Nat → Int → Int → Int → Int → Int → Int → Int → Int → Int
def f0 (l : Nat) : Fs := { ck := chkV, mv := mayV, en := endV, r0 := rg0, r1 := rg1, r3 := rg3, r4 := rg4, st := stV, pg := fun L W G K F C X Y => decide ((pk L W G K F C X Y).length = l), pe := fun i L W G K F C X Y => Int.ofNat ((pk L W G K F C X Y).getD i 0) }

theorem ite_to {α : Type} {p : Prop} [Decidable p] {a b x : α} (h1 : p → a = x) (h2 : ¬p → b = x) : (if p then a else b) = x := by
  by_cases h : p
  · rw [if_pos h]; exact h1 h
  · rw [if_neg h]; exact h2 h

theorem check_tree : (fun L W G K => (callT cfg noT 60 (.func (.func 10) #[] #[]) #[pl L W G K] (ctx0 0) st0).evalW seenOf) = fun L W G K =>
    (bif decide (L ≥ 1) then bif !decide (L ≤ 1073741824) then some (Value.int IntKind.i64 1, st0) else
      bif decide (W ≥ 0) then bif !decide (W ≤ L) then some (Value.int IntKind.i64 1, st0) else
       bif decide (G ≥ 0) then bif !decide (G ≤ 1073741824) then some (Value.int IntKind.i64 1, st0) else
        bif decide (K ≥ 0) then bif !decide (K ≤ 1073741824) then some (Value.int IntKind.i64 1, st0) else some (Value.int IntKind.i64 0, st0)
        else some (Value.int IntKind.i64 1, st0)
       else some (Value.int IntKind.i64 1, st0)
      else some (Value.int IntKind.i64 1, st0)
    else some (Value.int IntKind.i64 1, st0)) := by kernel_rfl

theorem check_eq (L W G K : Int) : (callT cfg noT 60 (.func (.func 10) #[] #[]) #[pl L W G K] (ctx0 0) st0).evalW seenOf = some (.int .i64 (chkV L W G K), st0) := by
  rw [congrFun (congrFun (congrFun (congrFun check_tree L) W) G) K]
  by_cases h : Chk L W G K
  · have h' := h; unfold Chk at h'
    obtain ⟨h1, h2, h3, h4, h5, h6, h7, h8⟩ := h'
    simp [chkV, h, h1, h2, h3, h4, h5, h6, h7, h8]
  · simp only [chkV, if_neg h, Bool.cond_eq_ite, decide_eq_true_eq, Bool.not_eq_true', decide_eq_false_iff_not]
    unfold Chk at h
    repeat' split
    all_goals first | rfl | (exfalso; omega)
theorem refcheck_tree : (fun (L W G K : Int) => (callT cfg noT 60 (.func (.func 11) #[] #[]) #[pl L W G K] (ctx0 0) st0).evalW seenOf) = fun (L W G K : Int) =>
    (bif decide (L < 1) then
     some (Value.int IntKind.i64 1, st0)
    else
     bif decide (L > 1073741824) then
      some (Value.int IntKind.i64 1, st0)
     else
      bif decide (W < 0) then
       some (Value.int IntKind.i64 1, st0)
      else
       bif decide (W > L) then
        some (Value.int IntKind.i64 1, st0)
       else
        bif decide (G < 0) then
         some (Value.int IntKind.i64 1, st0)
        else
         bif decide (G > 1073741824) then
          some (Value.int IntKind.i64 1, st0)
         else
          bif decide (K < 0) then
           some (Value.int IntKind.i64 1, st0)
          else
           bif decide (K > 1073741824) then
            some (Value.int IntKind.i64 1, st0)
           else
            some (Value.int IntKind.i64 0, st0)) := by kernel_rfl

theorem may_tree : (fun (L W G K F C : Int) => (callT cfg noT 60 (.func (.func 22) #[] #[]) #[pl L W G K, rn F C] (ctx0 0) st0).evalW seenOf) = fun (L W G K F C : Int) =>
    (bif decide (L ≥ 1) then
     bif !decide (L ≤ 1073741824) then
      some (Value.bool false, st0)
     else
      bif decide (W ≥ 0) then
       bif !decide (W ≤ L) then
        some (Value.bool false, st0)
       else
        bif decide (G ≥ 0) then
         bif !decide (G ≤ 1073741824) then
          some (Value.bool false, st0)
         else
          bif decide (K ≥ 0) then
           bif !decide (K ≤ 1073741824) then
            some (Value.bool false, st0)
           else
            bif decide (F ≥ 0) then
             bif decide (F ≤ 1099511627776) then
              bif C == -1 then
               some (Value.bool true, st0)
              else
               bif decide (C ≥ F) then
                some (Value.bool (decide (C ≤ 1099511627776)), st0)
               else
                some (Value.bool false, st0)
             else
              some (Value.bool false, st0)
            else
             some (Value.bool false, st0)
          else
           some (Value.bool false, st0)
        else
         some (Value.bool false, st0)
      else
       some (Value.bool false, st0)
    else
     some (Value.bool false, st0)) := by kernel_rfl

theorem refmay_tree : (fun (L W G K F C : Int) => (callT cfg noT 60 (.func (.func 23) #[] #[]) #[pl L W G K, rn F C] (ctx0 0) st0).evalW seenOf) = fun (L W G K F C : Int) =>
    (bif decide (L < 1) then
     some (Value.bool false, st0)
    else
     bif decide (L > 1073741824) then
      some (Value.bool false, st0)
     else
      bif decide (W < 0) then
       some (Value.bool false, st0)
      else
       bif decide (W > L) then
        some (Value.bool false, st0)
       else
        bif decide (G < 0) then
         some (Value.bool false, st0)
        else
         bif decide (G > 1073741824) then
          some (Value.bool false, st0)
         else
          bif decide (K < 0) then
           some (Value.bool false, st0)
          else
           bif decide (K > 1073741824) then
            some (Value.bool false, st0)
           else
            bif decide (F ≥ 0) then
             bif decide (F ≤ 1099511627776) then
              bif C == -1 then
               some (Value.bool true, st0)
              else
               bif decide (C ≥ F) then
                some (Value.bool (decide (C ≤ 1099511627776)), st0)
               else
                some (Value.bool false, st0)
             else
              some (Value.bool false, st0)
            else
             some (Value.bool false, st0)) := by kernel_rfl

theorem refcheck_eq (L W G K : Int) : (callT cfg noT 60 (.func (.func 11) #[] #[]) #[pl L W G K] (ctx0 0) st0).evalW seenOf = some (.int .i64 (chkV L W G K), st0) := by
  rw [congrFun (congrFun (congrFun (congrFun refcheck_tree L) W) G) K]
  by_cases h : Chk L W G K
  · simp only [chkV, if_pos h, Bool.cond_eq_ite, decide_eq_true_eq, Bool.not_eq_true', decide_eq_false_iff_not]
    unfold Chk at h
    repeat' split
    all_goals first | rfl | (exfalso; omega)
  · simp only [chkV, if_neg h, Bool.cond_eq_ite, decide_eq_true_eq, Bool.not_eq_true', decide_eq_false_iff_not]
    unfold Chk at h
    repeat' split
    all_goals first | rfl | (exfalso; omega)

theorem may_eq (L W G K F C : Int) : (callT cfg noT 60 (.func (.func 22) #[] #[]) #[pl L W G K, rn F C] (ctx0 0) st0).evalW seenOf = some (.bool (mayV L W G K F C), st0) := by
  rw [congrFun (congrFun (congrFun (congrFun (congrFun (congrFun may_tree L) W) G) K) F) C]
  simp only [mayV, Bool.cond_eq_ite, decide_eq_true_eq, Bool.not_eq_true', decide_eq_false_iff_not, beq_iff_eq]
  repeat' (refine ite_to ?_ ?_ <;> intro _)
  all_goals (refine congrArg (fun b => some (Value.bool b, st0)) ?_; rw [Bool.eq_iff_iff]; simp only [decide_eq_true_eq, Bool.false_eq_true, false_iff, true_iff]; unfold May Chk; omega)

theorem refmay_eq (L W G K F C : Int) : (callT cfg noT 60 (.func (.func 23) #[] #[]) #[pl L W G K, rn F C] (ctx0 0) st0).evalW seenOf = some (.bool (mayV L W G K F C), st0) := by
  rw [congrFun (congrFun (congrFun (congrFun (congrFun (congrFun refmay_tree L) W) G) K) F) C]
  simp only [mayV, Bool.cond_eq_ite, decide_eq_true_eq, Bool.not_eq_true', decide_eq_false_iff_not, beq_iff_eq]
  repeat' (refine ite_to ?_ ?_ <;> intro _)
  all_goals (refine congrArg (fun b => some (Value.bool b, st0)) ?_; rw [Bool.eq_iff_iff]; simp only [decide_eq_true_eq, Bool.false_eq_true, false_iff, true_iff]; unfold May Chk; omega)

/-! ### These calls, told -/
theorem on4_some {k : Int → Int → Int → Int → DT (Option (Value × St))} {args : Array Value} {x : Value × St} (h : (on4 k args).eval = some x) : ∃ L W G K, args = #[pl L W G K] ∧ (k L W G K).eval = some x := by
  unfold on4 at h
  split at h
  · exact ⟨_, _, _, _, rfl, h⟩
  · cases h
theorem on6_some {k : Int → Int → Int → Int → Int → Int → DT (Option (Value × St))} {args : Array Value} {x : Value × St} (h : (on6 k args).eval = some x) : ∃ L W G K F C, args = #[pl L W G K, rn F C] ∧ (k L W G K F C).eval = some x := by
  unfold on6 at h
  split at h
  · exact ⟨_, _, _, _, _, _, rfl, h⟩
  · cases h
theorem on0_some {k : DT (Option (Value × St))} {args : Array Value} {x : Value × St} (h : (on0 k args).eval = some x) : args = #[] ∧ k.eval = some x := by
  unfold on0 at h
  split at h
  · exact ⟨rfl, h⟩
  · cases h

theorem plain4 : (fun L W G K => (#[pl L W G K] : Array Value).all (plainN 9)) = fun _ _ _ _ => true := by kernel_rfl
theorem plain6 : (fun L W G K F C => (#[pl L W G K, rn F C] : Array Value).all (plainN 9)) = fun _ _ _ _ _ _ => true := by kernel_rfl

theorem apart4 {g : Cfg} {o : FuncId → Option HandT} (ho : ∀ f k hd, o f = some k → g.hand f = some hd → ∀ a c s, (k a c s).eval = hd a c s) {f : FuncId} {k : Int → Int → Int → Int → DT (Option (Value × St))}
    (h : ∀ L W G K, (callT g o 60 (.func (.func f) #[] #[]) #[pl L W G K] (ctx0 0) st0).evalW seenOf = (k L W G K).eval) : Apart g f (on4 k) := by
  intro args x hx
  obtain ⟨L, W, G, K, rfl, hk⟩ := on4_some hx
  exact ⟨congrFun (congrFun (congrFun (congrFun plain4 L) W) G) K, apart_of ho ((h L W G K).trans hk)⟩
theorem apart6 {g : Cfg} {o : FuncId → Option HandT} (ho : ∀ f k hd, o f = some k → g.hand f = some hd → ∀ a c s, (k a c s).eval = hd a c s) {f : FuncId} {k : Int → Int → Int → Int → Int → Int → DT (Option (Value × St))}
    (h : ∀ L W G K F C, (callT g o 60 (.func (.func f) #[] #[]) #[pl L W G K, rn F C] (ctx0 0) st0).evalW seenOf = (k L W G K F C).eval) : Apart g f (on6 k) := by
  intro args x hx
  obtain ⟨L, W, G, K, F, C, rfl, hk⟩ := on6_some hx
  exact ⟨congrFun (congrFun (congrFun (congrFun (congrFun (congrFun plain6 L) W) G) K) F) C, apart_of ho ((h L W G K F C).trans hk)⟩

theorem live_true : (callT cfg noT 60 (.func (.func 20) #[] #[]) #[] (ctx0 0) st0).evalW seenOf = some (.bool true, st0) := by kernel_rfl
theorem live_apart : Apart cfg 20 (on0 (bool true)) := by
  intro args x hx
  obtain ⟨rfl, hk⟩ := on0_some hx
  exact ⟨by kernel_rfl, apart_of noT_ok (live_true.trans hk)⟩

def T0 (p : Fs) : FuncId → Option (Array Value → DT (Option (Value × St)))
  | 10 => some (on4 fun L W G K => int (p.ck L W G K))
  | 11 => some (on4 fun L W G K => int (p.ck L W G K))
  | 20 => some (on0 (bool true))
  | 22 => some (on6 fun L W G K F C => bool (p.mv L W G K F C))
  | 23 => some (on6 fun L W G K F C => bool (p.mv L W G K F C))
  | _ => none

theorem T0_ok (l : Nat) : ∀ f F, T0 (f0 l) f = some F → cfg.hand f = none ∧ (∃ i, cfg.fns f = some i) ∧ Apart cfg f F := by
  intro f F h
  unfold T0 at h
  split at h
  · cases h; exact ⟨rfl, ⟨_, rfl⟩, apart4 noT_ok check_eq⟩
  · cases h; exact ⟨rfl, ⟨_, rfl⟩, apart4 noT_ok refcheck_eq⟩
  · cases h; exact ⟨rfl, ⟨_, rfl⟩, live_apart⟩
  · cases h; exact ⟨rfl, ⟨_, rfl⟩, apart6 noT_ok may_eq⟩
  · cases h; exact ⟨rfl, ⟨_, rfl⟩, apart6 noT_ok refmay_eq⟩
  · cases h

def cfg1 (p : Fs) : Cfg := cfg.told (T0 p)
def t1 (p : Fs) : FuncId → Option HandT := treeT (T0 p) noT
theorem good1 (l : Nat) (B : Base) : Go.Am.Good (cfg1 (f0 l)) B := told_good good rfl (T0_ok l) B
theorem t1_ok (p : Fs) : ∀ f k hd, t1 p f = some k → (cfg1 p).hand f = some hd → ∀ a c s, (k a c s).eval = hd a c s := treeT_ok noT_ok
end
end Go.Proofs.Ytgakiaabcglchaa
