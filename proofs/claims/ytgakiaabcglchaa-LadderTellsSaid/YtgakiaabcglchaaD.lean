/- What the small functions of a ladder come to: the stage, and what begins between two times. -/
import Derived.Test.YtgakiaabcglchaaC
namespace Go.Proofs.Ytgakiaabcglchaa
open Go.Am
noncomputable section

def on7 (k : Int → Int → Int → Int → Int → Int → Int → DT (Option (Value × St))) : Array Value → DT (Option (Value × St))
  | ⟨[.agg ⟨[.int .i64 L, .int .i64 W, .int .i64 G, .int .i64 K]⟩, .agg ⟨[.int .i64 F, .int .i64 C]⟩, .int .i64 N]⟩ => k L W G K F C N
  | _ => .leaf none
def on8 (k : Int → Int → Int → Int → Int → Int → Int → Int → DT (Option (Value × St))) : Array Value → DT (Option (Value × St))
  | ⟨[.agg ⟨[.int .i64 L, .int .i64 W, .int .i64 G, .int .i64 K]⟩, .agg ⟨[.int .i64 F, .int .i64 C]⟩, .int .i64 X, .int .i64 Y]⟩ => k L W G K F C X Y
  | _ => .leaf none
theorem on7_some {k : Int → Int → Int → Int → Int → Int → Int → DT (Option (Value × St))} {args : Array Value} {x : Value × St} (h : (on7 k args).eval = some x) : ∃ L W G K F C N, args = #[pl L W G K, rn F C, .int .i64 N] ∧ (k L W G K F C N).eval = some x := by
  unfold on7 at h
  split at h
  · exact ⟨_, _, _, _, _, _, _, rfl, h⟩
  · cases h
theorem on8_some {k : Int → Int → Int → Int → Int → Int → Int → Int → DT (Option (Value × St))} {args : Array Value} {x : Value × St} (h : (on8 k args).eval = some x) : ∃ L W G K F C X Y, args = #[pl L W G K, rn F C, .int .i64 X, .int .i64 Y] ∧ (k L W G K F C X Y).eval = some x := by
  unfold on8 at h
  split at h
  · exact ⟨_, _, _, _, _, _, _, _, rfl, h⟩
  · cases h
theorem plain7 : (fun L W G K F C N => (#[pl L W G K, rn F C, .int .i64 N] : Array Value).all (plainN 9)) = fun _ _ _ _ _ _ _ => true := by kernel_rfl
theorem plain8 : (fun L W G K F C X Y => (#[pl L W G K, rn F C, .int .i64 X, .int .i64 Y] : Array Value).all (plainN 9)) = fun _ _ _ _ _ _ _ _ => true := by kernel_rfl
theorem apart7 {g : Cfg} {o : FuncId → Option HandT} (ho : ∀ f k hd, o f = some k → g.hand f = some hd → ∀ a c s, (k a c s).eval = hd a c s) {f : FuncId} {k : Int → Int → Int → Int → Int → Int → Int → DT (Option (Value × St))}
    (h : ∀ L W G K F C N, (callT g o 60 (.func (.func f) #[] #[]) #[pl L W G K, rn F C, .int .i64 N] (ctx0 0) st0).evalW seenOf = (k L W G K F C N).eval) : Apart g f (on7 k) := by
  intro args x hx
  obtain ⟨L, W, G, K, F, C, N, rfl, hk⟩ := on7_some hx
  exact ⟨congrFun (congrFun (congrFun (congrFun (congrFun (congrFun (congrFun plain7 L) W) G) K) F) C) N, apart_of ho ((h L W G K F C N).trans hk)⟩
theorem apart8 {g : Cfg} {o : FuncId → Option HandT} (ho : ∀ f k hd, o f = some k → g.hand f = some hd → ∀ a c s, (k a c s).eval = hd a c s) {f : FuncId} {k : Int → Int → Int → Int → Int → Int → Int → Int → DT (Option (Value × St))}
    (h : ∀ L W G K F C X Y x, (k L W G K F C X Y).eval = some x → (callT g o 60 (.func (.func f) #[] #[]) #[pl L W G K, rn F C, .int .i64 X, .int .i64 Y] (ctx0 0) st0).evalW seenOf = some x) : Apart g f (on8 k) := by
  intro args x hx
  obtain ⟨L, W, G, K, F, C, X, Y, rfl, hk⟩ := on8_some hx
  exact ⟨congrFun (congrFun (congrFun (congrFun (congrFun (congrFun (congrFun (congrFun plain8 L) W) G) K) F) C) X) Y, apart_of ho (h L W G K F C X Y x hk)⟩

theorem stage_tree : (fun (p : Fs) (L W G K F C N : Int) => (callT (cfg3 p) (t3 p) 60 (.func (.func 16) #[] #[]) #[pl L W G K, rn F C, .int .i64 N] (ctx0 0) st0).evalW seenOf) = fun (p : Fs) (L W G K F C N : Int) =>
    (bif !p.mv L W G K F C then
     some (Value.int IntKind.i64 (-1), st0)
    else
     bif decide (p.r4 L W G K F C ≤ N) then
      some (Value.int IntKind.i64 4, st0)
     else
      bif decide (p.r3 L W G K F C ≤ N) then
       some (Value.int IntKind.i64 3, st0)
      else
       bif decide (p.en L W G K F C ≤ N) then
        some (Value.int IntKind.i64 2, st0)
       else
        bif decide (p.r1 L W G K F C ≤ N) then
         some (Value.int IntKind.i64 1, st0)
        else
         bif decide (p.r0 L W G K F C ≤ N) then
          some (Value.int IntKind.i64 0, st0)
         else
          some (Value.int IntKind.i64 (-1), st0)) := by kernel_rfl

theorem refstage_tree : (fun (p : Fs) (L W G K F C N : Int) => (callT (cfg3 p) (t3 p) 60 (.func (.func 17) #[] #[]) #[pl L W G K, rn F C, .int .i64 N] (ctx0 0) st0).evalW seenOf) = fun (p : Fs) (L W G K F C N : Int) =>
    (bif !p.mv L W G K F C then
     some (Value.int IntKind.i64 (-1), st0)
    else
     bif decide (p.r0 L W G K F C ≤ N) then
      bif decide (p.r1 L W G K F C ≤ N) then
       bif decide (p.en L W G K F C ≤ N) then
        bif decide (p.r3 L W G K F C ≤ N) then
         bif decide (p.r4 L W G K F C ≤ N) then
          some (Value.int IntKind.i64 4, st0)
         else
          some (Value.int IntKind.i64 3, st0)
        else
         bif decide (p.r4 L W G K F C ≤ N) then
          some (Value.int IntKind.i64 4, st0)
         else
          some (Value.int IntKind.i64 2, st0)
       else
        bif decide (p.r3 L W G K F C ≤ N) then
         bif decide (p.r4 L W G K F C ≤ N) then
          some (Value.int IntKind.i64 4, st0)
         else
          some (Value.int IntKind.i64 3, st0)
        else
         bif decide (p.r4 L W G K F C ≤ N) then
          some (Value.int IntKind.i64 4, st0)
         else
          some (Value.int IntKind.i64 1, st0)
      else
       bif decide (p.en L W G K F C ≤ N) then
        bif decide (p.r3 L W G K F C ≤ N) then
         bif decide (p.r4 L W G K F C ≤ N) then
          some (Value.int IntKind.i64 4, st0)
         else
          some (Value.int IntKind.i64 3, st0)
        else
         bif decide (p.r4 L W G K F C ≤ N) then
          some (Value.int IntKind.i64 4, st0)
         else
          some (Value.int IntKind.i64 2, st0)
       else
        bif decide (p.r3 L W G K F C ≤ N) then
         bif decide (p.r4 L W G K F C ≤ N) then
          some (Value.int IntKind.i64 4, st0)
         else
          some (Value.int IntKind.i64 3, st0)
        else
         bif decide (p.r4 L W G K F C ≤ N) then
          some (Value.int IntKind.i64 4, st0)
         else
          some (Value.int IntKind.i64 0, st0)
     else
      bif decide (p.r1 L W G K F C ≤ N) then
       bif decide (p.en L W G K F C ≤ N) then
        bif decide (p.r3 L W G K F C ≤ N) then
         bif decide (p.r4 L W G K F C ≤ N) then
          some (Value.int IntKind.i64 4, st0)
         else
          some (Value.int IntKind.i64 3, st0)
        else
         bif decide (p.r4 L W G K F C ≤ N) then
          some (Value.int IntKind.i64 4, st0)
         else
          some (Value.int IntKind.i64 2, st0)
       else
        bif decide (p.r3 L W G K F C ≤ N) then
         bif decide (p.r4 L W G K F C ≤ N) then
          some (Value.int IntKind.i64 4, st0)
         else
          some (Value.int IntKind.i64 3, st0)
        else
         bif decide (p.r4 L W G K F C ≤ N) then
          some (Value.int IntKind.i64 4, st0)
         else
          some (Value.int IntKind.i64 1, st0)
      else
       bif decide (p.en L W G K F C ≤ N) then
        bif decide (p.r3 L W G K F C ≤ N) then
         bif decide (p.r4 L W G K F C ≤ N) then
          some (Value.int IntKind.i64 4, st0)
         else
          some (Value.int IntKind.i64 3, st0)
        else
         bif decide (p.r4 L W G K F C ≤ N) then
          some (Value.int IntKind.i64 4, st0)
         else
          some (Value.int IntKind.i64 2, st0)
       else
        bif decide (p.r3 L W G K F C ≤ N) then
         bif decide (p.r4 L W G K F C ≤ N) then
          some (Value.int IntKind.i64 4, st0)
         else
          some (Value.int IntKind.i64 3, st0)
        else
         bif decide (p.r4 L W G K F C ≤ N) then
          some (Value.int IntKind.i64 4, st0)
         else
          some (Value.int IntKind.i64 (-1), st0)) := by kernel_rfl

theorem stage_eq (l : Nat) (L W G K F C N : Int) : (callT (cfg3 (f0 l)) (t3 (f0 l)) 60 (.func (.func 16) #[] #[]) #[pl L W G K, rn F C, .int .i64 N] (ctx0 0) st0).evalW seenOf = (int (stV L W G K F C N)).eval := by
  rw [congrFun (congrFun (congrFun (congrFun (congrFun (congrFun (congrFun (congrFun stage_tree (f0 l)) L) W) G) K) F) C) N]
  simp only [f0]
  unfold stV mayV int
  by_cases h : May L W G K F C <;> by_cases h0 : rg0 L W G K F C ≤ N <;> by_cases h1 : rg1 L W G K F C ≤ N <;> by_cases h2 : endV L W G K F C ≤ N <;> by_cases h3 : rg3 L W G K F C ≤ N <;> by_cases h4 : rg4 L W G K F C ≤ N <;>
    simp [h, h0, h1, h2, h3, h4, DT.eval_leaf, DT.eval_node]

theorem refstage_eq (l : Nat) (L W G K F C N : Int) : (callT (cfg3 (f0 l)) (t3 (f0 l)) 60 (.func (.func 17) #[] #[]) #[pl L W G K, rn F C, .int .i64 N] (ctx0 0) st0).evalW seenOf = (int (stV L W G K F C N)).eval := by
  rw [congrFun (congrFun (congrFun (congrFun (congrFun (congrFun (congrFun (congrFun refstage_tree (f0 l)) L) W) G) K) F) C) N]
  simp only [f0]
  unfold stV mayV int
  by_cases h : May L W G K F C <;> by_cases h0 : rg0 L W G K F C ≤ N <;> by_cases h1 : rg1 L W G K F C ≤ N <;> by_cases h2 : endV L W G K F C ≤ N <;> by_cases h3 : rg3 L W G K F C ≤ N <;> by_cases h4 : rg4 L W G K F C ≤ N <;>
    simp [h, h0, h1, h2, h3, h4, DT.eval_leaf, DT.eval_node]

/-- A fresh list of numbers. -/
def freshL (acc : List Nat) : Value × St :=
  match acc with
  | [] => (.slice none 0 0, st0)
  | _ => (.slice (some ⟨0, 0, none⟩) acc.length acc.length, ⟨.node .nil (some (.cells ⟨acc.map fun (n : Nat) => Value.int .i64 (Int.ofNat n)⟩ 1 true)) .nil, 1⟩)
def btw : List (Bool × Bool × Nat) → List Nat → Option (Value × St)
  | [], acc => some (freshL acc)
  | (c, d, i) :: r, acc => cond c (cond d (btw r (acc ++ [i])) (btw r acc)) (btw r acc)
theorem btw_eq : ∀ (l : List (Bool × Bool × Nat)) (acc : List Nat), btw l acc = some (freshL (acc ++ picked l)) := by
  intro l
  induction l with
  | nil => intro acc; simp [btw, picked]
  | cons x r ih =>
    intro acc
    obtain ⟨c, d, i⟩ := x
    cases c <;> cases d <;> simp [btw, picked, ih]

def selG (p : Fs) (L W G K F C X Y : Int) : List (Bool × Bool × Nat) :=
  [(decide (p.r0 L W G K F C > X), decide (p.r0 L W G K F C ≤ Y), 0), (decide (p.r1 L W G K F C > X), decide (p.r1 L W G K F C ≤ Y), 1), (decide (p.en L W G K F C > X), decide (p.en L W G K F C ≤ Y), 2),
   (decide (p.r3 L W G K F C > X), decide (p.r3 L W G K F C ≤ Y), 3), (decide (p.r4 L W G K F C > X), decide (p.r4 L W G K F C ≤ Y), 4)]

theorem between_tree : (fun (p : Fs) (L W G K F C X Y : Int) => (callT (cfg3 p) (t3 p) 60 (.func (.func 18) #[] #[]) #[pl L W G K, rn F C, .int .i64 X, .int .i64 Y] (ctx0 0) st0).evalW seenOf) = fun (p : Fs) (L W G K F C X Y : Int) =>
    bif !p.mv L W G K F C then some (Value.slice none 0 0, st0) else btw (selG p L W G K F C X Y) [] := by kernel_rfl
theorem refbetween_tree : (fun (p : Fs) (L W G K F C X Y : Int) => (callT (cfg3 p) (t3 p) 60 (.func (.func 19) #[] #[]) #[pl L W G K, rn F C, .int .i64 X, .int .i64 Y] (ctx0 0) st0).evalW seenOf) = fun (p : Fs) (L W G K F C X Y : Int) =>
    bif !p.mv L W G K F C then some (Value.slice none 0 0, st0) else btw (selG p L W G K F C X Y) [] := by kernel_rfl
end
end Go.Proofs.Ytgakiaabcglchaa
