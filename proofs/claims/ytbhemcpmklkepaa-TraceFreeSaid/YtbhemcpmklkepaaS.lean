/- May an event be? And up to where may events be? -/
import Derived.Test.YtbhemcpmklkepaaR
import Derived.Test.YtbhemcpmklkepaaK
namespace Go.Proofs.Ytbhemcpmklkepaa
open Go.Am
noncomputable section
def T6 : FuncId → Option (Array Value → DT (Option (Value × St)))
  | 34 => some F34
  | 35 => some F35
  | 36 => some F36
  | _ => none
def cfg6 : Cfg := cfg1.told T6
def t6 : FuncId → Option HandT := treeT T6 t1
theorem good6 [Z : Zone] (B : Base) : Go.Am.Good cfg6 B := tells_good good1 (fun f F h => by
  unfold T6 at h
  split at h
  · cases h; exact ⟨⟨_, i34_fn⟩, Tells.cfg (g := cfg4) (g' := cfg1) rfl rfl tells34⟩
  · cases h; exact ⟨⟨_, i35_fn⟩, tells35⟩
  · cases h; exact ⟨⟨_, i36_fn⟩, Tells.cfg (g := cfg5) (g' := cfg1) rfl rfl tells36⟩
  · cases h) B
theorem t6_ok : ∀ f k hd, t6 f = some k → cfg6.hand f = some hd → ∀ a c s, (k a c s).eval = hd a c s := treeT_ok t1_ok
def Sw {α : Type} (c1 c2 : Bool) (A R : α) : α := bif c1 then (bif c1 then A else R) else (bif c2 then A else R)
def has {α : Type} (X : Array Value) (o n : Nat) (k : Int) (x : Ev) (A B : Option α) : Option α := bif evsOk X o n then (bif hasE X o n k x then A else B) else none
theorem t23_0_k : (fun (X : Array Value) (o n : Nat) (K : Array Value) (ko kn : Nat) (S : Array Value) (so sn : Nat) (a1 a2 a3 a4 a5 : Int) => (callT cfg6 t6 60 (.func (.func 23) #[] #[]) #[VS X o n, jobV K ko kn S so sn, (Ev.mk 0 a1 a2 a3 a4 a5).val] cz st0).evalM seenOf) = fun (X : Array Value) (o n : Nat) (K : Array Value) (ko kn : Nat) (S : Array Value) (so sn : Nat) (a1 a2 a3 a4 a5 : Int) => (has X o n 0 (Ev.mk 0 a1 a2 a3 a4 a5) (fB false) (has X o n 7 (Ev.mk 0 a1 a2 a3 a4 a5) (fB false) (fB true))) := by kernel_rfl
theorem t23_0 (X : Array Value) (o n : Nat) (K : Array Value) (ko kn : Nat) (S : Array Value) (so sn : Nat) (a1 a2 a3 a4 a5 : Int) : (callT cfg6 t6 60 (.func (.func 23) #[] #[]) #[VS X o n, jobV K ko kn S so sn, (Ev.mk 0 a1 a2 a3 a4 a5).val] cz st0).evalM seenOf = (has X o n 0 (Ev.mk 0 a1 a2 a3 a4 a5) (fB false) (has X o n 7 (Ev.mk 0 a1 a2 a3 a4 a5) (fB false) (fB true))) := congrFun (congrFun (congrFun (congrFun (congrFun (congrFun (congrFun (congrFun (congrFun (congrFun (congrFun (congrFun (congrFun (congrFun t23_0_k X) o) n) K) ko) kn) S) so) sn) a1) a2) a3) a4) a5
theorem t23_7_k : (fun (X : Array Value) (o n : Nat) (K : Array Value) (ko kn : Nat) (S : Array Value) (so sn : Nat) (a1 a2 a3 a4 a5 : Int) => (callT cfg6 t6 60 (.func (.func 23) #[] #[]) #[VS X o n, jobV K ko kn S so sn, (Ev.mk 7 a1 a2 a3 a4 a5).val] cz st0).evalM seenOf) = fun (X : Array Value) (o n : Nat) (K : Array Value) (ko kn : Nat) (S : Array Value) (so sn : Nat) (a1 a2 a3 a4 a5 : Int) => (has X o n 0 (Ev.mk 7 a1 a2 a3 a4 a5) (fB false) (has X o n 7 (Ev.mk 7 a1 a2 a3 a4 a5) (fB false) (fB true))) := by kernel_rfl
theorem t23_7 (X : Array Value) (o n : Nat) (K : Array Value) (ko kn : Nat) (S : Array Value) (so sn : Nat) (a1 a2 a3 a4 a5 : Int) : (callT cfg6 t6 60 (.func (.func 23) #[] #[]) #[VS X o n, jobV K ko kn S so sn, (Ev.mk 7 a1 a2 a3 a4 a5).val] cz st0).evalM seenOf = (has X o n 0 (Ev.mk 7 a1 a2 a3 a4 a5) (fB false) (has X o n 7 (Ev.mk 7 a1 a2 a3 a4 a5) (fB false) (fB true))) := congrFun (congrFun (congrFun (congrFun (congrFun (congrFun (congrFun (congrFun (congrFun (congrFun (congrFun (congrFun (congrFun (congrFun t23_7_k X) o) n) K) ko) kn) S) so) sn) a1) a2) a3) a4) a5
theorem t23_1_k : (fun (X : Array Value) (o n : Nat) (K : Array Value) (ko kn : Nat) (S : Array Value) (so sn : Nat) (a1 a2 a3 a4 a5 : Int) => (callT cfg6 t6 60 (.func (.func 23) #[] #[]) #[VS X o n, jobV K ko kn S so sn, (Ev.mk 1 a1 a2 a3 a4 a5).val] cz st0).evalM seenOf) = fun (X : Array Value) (o n : Nat) (K : Array Value) (ko kn : Nat) (S : Array Value) (so sn : Nat) (a1 a2 a3 a4 a5 : Int) => (has X o n 0 (Ev.mk 1 a1 a2 a3 a4 a5) (bif (fstE X o n 0 (Ev.mk 1 a1 a2 a3 a4 a5)).arg == 0 then has X o n 6 (Ev.mk 1 a1 a2 a3 a4 a5) (fB false) (has X o n 1 (Ev.mk 1 a1 a2 a3 a4 a5) (fB false) (has X o n 2 (Ev.mk 1 a1 a2 a3 a4 a5) (fB false) (fB true))) else fB false) (fB false)) := by kernel_rfl
theorem t23_1 (X : Array Value) (o n : Nat) (K : Array Value) (ko kn : Nat) (S : Array Value) (so sn : Nat) (a1 a2 a3 a4 a5 : Int) : (callT cfg6 t6 60 (.func (.func 23) #[] #[]) #[VS X o n, jobV K ko kn S so sn, (Ev.mk 1 a1 a2 a3 a4 a5).val] cz st0).evalM seenOf = (has X o n 0 (Ev.mk 1 a1 a2 a3 a4 a5) (bif (fstE X o n 0 (Ev.mk 1 a1 a2 a3 a4 a5)).arg == 0 then has X o n 6 (Ev.mk 1 a1 a2 a3 a4 a5) (fB false) (has X o n 1 (Ev.mk 1 a1 a2 a3 a4 a5) (fB false) (has X o n 2 (Ev.mk 1 a1 a2 a3 a4 a5) (fB false) (fB true))) else fB false) (fB false)) := congrFun (congrFun (congrFun (congrFun (congrFun (congrFun (congrFun (congrFun (congrFun (congrFun (congrFun (congrFun (congrFun (congrFun t23_1_k X) o) n) K) ko) kn) S) so) sn) a1) a2) a3) a4) a5
theorem t23_2_k : (fun (X : Array Value) (o n : Nat) (K : Array Value) (ko kn : Nat) (S : Array Value) (so sn : Nat) (a1 a2 a3 a4 a5 : Int) => (callT cfg6 t6 60 (.func (.func 23) #[] #[]) #[VS X o n, jobV K ko kn S so sn, (Ev.mk 2 a1 a2 a3 a4 a5).val] cz st0).evalM seenOf) = fun (X : Array Value) (o n : Nat) (K : Array Value) (ko kn : Nat) (S : Array Value) (so sn : Nat) (a1 a2 a3 a4 a5 : Int) => (has X o n 0 (Ev.mk 2 a1 a2 a3 a4 a5) (bif (fstE X o n 0 (Ev.mk 2 a1 a2 a3 a4 a5)).arg == 0 then has X o n 6 (Ev.mk 2 a1 a2 a3 a4 a5) (fB false) (has X o n 1 (Ev.mk 2 a1 a2 a3 a4 a5) (fB false) (has X o n 2 (Ev.mk 2 a1 a2 a3 a4 a5) (fB false) (has X o n 10 ((Ev.mk 2 a1 a2 a3 a4 a5).at (-1)) (fB false) (fB true)))) else fB false) (fB false)) := by kernel_rfl
theorem t23_2 (X : Array Value) (o n : Nat) (K : Array Value) (ko kn : Nat) (S : Array Value) (so sn : Nat) (a1 a2 a3 a4 a5 : Int) : (callT cfg6 t6 60 (.func (.func 23) #[] #[]) #[VS X o n, jobV K ko kn S so sn, (Ev.mk 2 a1 a2 a3 a4 a5).val] cz st0).evalM seenOf = (has X o n 0 (Ev.mk 2 a1 a2 a3 a4 a5) (bif (fstE X o n 0 (Ev.mk 2 a1 a2 a3 a4 a5)).arg == 0 then has X o n 6 (Ev.mk 2 a1 a2 a3 a4 a5) (fB false) (has X o n 1 (Ev.mk 2 a1 a2 a3 a4 a5) (fB false) (has X o n 2 (Ev.mk 2 a1 a2 a3 a4 a5) (fB false) (has X o n 10 ((Ev.mk 2 a1 a2 a3 a4 a5).at (-1)) (fB false) (fB true)))) else fB false) (fB false)) := congrFun (congrFun (congrFun (congrFun (congrFun (congrFun (congrFun (congrFun (congrFun (congrFun (congrFun (congrFun (congrFun (congrFun t23_2_k X) o) n) K) ko) kn) S) so) sn) a1) a2) a3) a4) a5
theorem t23_3_k : (fun (X : Array Value) (o n : Nat) (K : Array Value) (ko kn : Nat) (S : Array Value) (so sn : Nat) (a1 a2 a3 a4 a5 : Int) => (callT cfg6 t6 60 (.func (.func 23) #[] #[]) #[VS X o n, jobV K ko kn S so sn, (Ev.mk 3 a1 a2 a3 a4 a5).val] cz st0).evalM seenOf) = fun (X : Array Value) (o n : Nat) (K : Array Value) (ko kn : Nat) (S : Array Value) (so sn : Nat) (a1 a2 a3 a4 a5 : Int) => (has X o n 1 (Ev.mk 3 a1 a2 a3 a4 a5) (has X o n 3 (Ev.mk 3 a1 a2 a3 a4 a5) (fB false) (has X o n 4 (Ev.mk 3 a1 a2 a3 a4 a5) (fB false) (has X o n 10 ((Ev.mk 3 a1 a2 a3 a4 a5).at (-1)) (fB true) (fB false)))) (fB false)) := by kernel_rfl
theorem t23_3 (X : Array Value) (o n : Nat) (K : Array Value) (ko kn : Nat) (S : Array Value) (so sn : Nat) (a1 a2 a3 a4 a5 : Int) : (callT cfg6 t6 60 (.func (.func 23) #[] #[]) #[VS X o n, jobV K ko kn S so sn, (Ev.mk 3 a1 a2 a3 a4 a5).val] cz st0).evalM seenOf = (has X o n 1 (Ev.mk 3 a1 a2 a3 a4 a5) (has X o n 3 (Ev.mk 3 a1 a2 a3 a4 a5) (fB false) (has X o n 4 (Ev.mk 3 a1 a2 a3 a4 a5) (fB false) (has X o n 10 ((Ev.mk 3 a1 a2 a3 a4 a5).at (-1)) (fB true) (fB false)))) (fB false)) := congrFun (congrFun (congrFun (congrFun (congrFun (congrFun (congrFun (congrFun (congrFun (congrFun (congrFun (congrFun (congrFun (congrFun t23_3_k X) o) n) K) ko) kn) S) so) sn) a1) a2) a3) a4) a5
theorem t23_4_k : (fun (X : Array Value) (o n : Nat) (K : Array Value) (ko kn : Nat) (S : Array Value) (so sn : Nat) (a1 a2 a3 a4 a5 : Int) => (callT cfg6 t6 60 (.func (.func 23) #[] #[]) #[VS X o n, jobV K ko kn S so sn, (Ev.mk 4 a1 a2 a3 a4 a5).val] cz st0).evalM seenOf) = fun (X : Array Value) (o n : Nat) (K : Array Value) (ko kn : Nat) (S : Array Value) (so sn : Nat) (a1 a2 a3 a4 a5 : Int) => (has X o n 1 (Ev.mk 4 a1 a2 a3 a4 a5) (has X o n 3 (Ev.mk 4 a1 a2 a3 a4 a5) (fB false) (has X o n 4 (Ev.mk 4 a1 a2 a3 a4 a5) (fB false) (has X o n 10 ((Ev.mk 4 a1 a2 a3 a4 a5).at (-1)) (fB false) (fB true)))) (fB false)) := by kernel_rfl
theorem t23_4 (X : Array Value) (o n : Nat) (K : Array Value) (ko kn : Nat) (S : Array Value) (so sn : Nat) (a1 a2 a3 a4 a5 : Int) : (callT cfg6 t6 60 (.func (.func 23) #[] #[]) #[VS X o n, jobV K ko kn S so sn, (Ev.mk 4 a1 a2 a3 a4 a5).val] cz st0).evalM seenOf = (has X o n 1 (Ev.mk 4 a1 a2 a3 a4 a5) (has X o n 3 (Ev.mk 4 a1 a2 a3 a4 a5) (fB false) (has X o n 4 (Ev.mk 4 a1 a2 a3 a4 a5) (fB false) (has X o n 10 ((Ev.mk 4 a1 a2 a3 a4 a5).at (-1)) (fB false) (fB true)))) (fB false)) := congrFun (congrFun (congrFun (congrFun (congrFun (congrFun (congrFun (congrFun (congrFun (congrFun (congrFun (congrFun (congrFun (congrFun t23_4_k X) o) n) K) ko) kn) S) so) sn) a1) a2) a3) a4) a5
theorem t23_5_k : (fun (X : Array Value) (o n : Nat) (K : Array Value) (ko kn : Nat) (S : Array Value) (so sn : Nat) (a1 a2 a3 a4 a5 : Int) => (callT cfg6 t6 60 (.func (.func 23) #[] #[]) #[VS X o n, jobV K ko kn S so sn, (Ev.mk 5 a1 a2 a3 a4 a5).val] cz st0).evalM seenOf) = fun (X : Array Value) (o n : Nat) (K : Array Value) (ko kn : Nat) (S : Array Value) (so sn : Nat) (a1 a2 a3 a4 a5 : Int) => (has X o n 3 (Ev.mk 5 a1 a2 a3 a4 a5) (has X o n 5 (Ev.mk 5 a1 a2 a3 a4 a5) (fB false) (fB true)) (fB false)) := by kernel_rfl
theorem t23_5 (X : Array Value) (o n : Nat) (K : Array Value) (ko kn : Nat) (S : Array Value) (so sn : Nat) (a1 a2 a3 a4 a5 : Int) : (callT cfg6 t6 60 (.func (.func 23) #[] #[]) #[VS X o n, jobV K ko kn S so sn, (Ev.mk 5 a1 a2 a3 a4 a5).val] cz st0).evalM seenOf = (has X o n 3 (Ev.mk 5 a1 a2 a3 a4 a5) (has X o n 5 (Ev.mk 5 a1 a2 a3 a4 a5) (fB false) (fB true)) (fB false)) := congrFun (congrFun (congrFun (congrFun (congrFun (congrFun (congrFun (congrFun (congrFun (congrFun (congrFun (congrFun (congrFun (congrFun t23_5_k X) o) n) K) ko) kn) S) so) sn) a1) a2) a3) a4) a5
theorem t23_6_k : (fun (X : Array Value) (o n : Nat) (K : Array Value) (ko kn : Nat) (S : Array Value) (so sn : Nat) (a1 a2 a3 a4 a5 : Int) => (callT cfg6 t6 60 (.func (.func 23) #[] #[]) #[VS X o n, jobV K ko kn S so sn, (Ev.mk 6 a1 a2 a3 a4 a5).val] cz st0).evalM seenOf) = fun (X : Array Value) (o n : Nat) (K : Array Value) (ko kn : Nat) (S : Array Value) (so sn : Nat) (a1 a2 a3 a4 a5 : Int) => (has X o n 0 (Ev.mk 6 a1 a2 a3 a4 a5) (has X o n 6 (Ev.mk 6 a1 a2 a3 a4 a5) (fB false) (bif evsOk X o n then fB (!alvB X o n (Ev.mk 6 a1 a2 a3 a4 a5)) else none)) (fB false)) := by kernel_rfl
theorem t23_6 (X : Array Value) (o n : Nat) (K : Array Value) (ko kn : Nat) (S : Array Value) (so sn : Nat) (a1 a2 a3 a4 a5 : Int) : (callT cfg6 t6 60 (.func (.func 23) #[] #[]) #[VS X o n, jobV K ko kn S so sn, (Ev.mk 6 a1 a2 a3 a4 a5).val] cz st0).evalM seenOf = (has X o n 0 (Ev.mk 6 a1 a2 a3 a4 a5) (has X o n 6 (Ev.mk 6 a1 a2 a3 a4 a5) (fB false) (bif evsOk X o n then fB (!alvB X o n (Ev.mk 6 a1 a2 a3 a4 a5)) else none)) (fB false)) := congrFun (congrFun (congrFun (congrFun (congrFun (congrFun (congrFun (congrFun (congrFun (congrFun (congrFun (congrFun (congrFun (congrFun t23_6_k X) o) n) K) ko) kn) S) so) sn) a1) a2) a3) a4) a5
theorem t23_10_k : (fun (X : Array Value) (o n : Nat) (K : Array Value) (ko kn : Nat) (S : Array Value) (so sn : Nat) (a1 a2 a3 a4 a5 : Int) => (callT cfg6 t6 60 (.func (.func 23) #[] #[]) #[VS X o n, jobV K ko kn S so sn, (Ev.mk 10 a1 a2 a3 a4 a5).val] cz st0).evalM seenOf) = fun (X : Array Value) (o n : Nat) (K : Array Value) (ko kn : Nat) (S : Array Value) (so sn : Nat) (a1 a2 a3 a4 a5 : Int) => ((bif evsOk X o n && ((intsOk K ko kn && decide (kn ≤ 20)) && (stepsOk S so sn && (decide (0 ≤ a4) && decide (a4 < (sn : Int))))) then fB (goingB X o n K ko kn S so (Ev.mk 10 a1 a2 a3 a4 a5)) else none)) := by kernel_rfl
theorem t23_10 (X : Array Value) (o n : Nat) (K : Array Value) (ko kn : Nat) (S : Array Value) (so sn : Nat) (a1 a2 a3 a4 a5 : Int) : (callT cfg6 t6 60 (.func (.func 23) #[] #[]) #[VS X o n, jobV K ko kn S so sn, (Ev.mk 10 a1 a2 a3 a4 a5).val] cz st0).evalM seenOf = ((bif evsOk X o n && ((intsOk K ko kn && decide (kn ≤ 20)) && (stepsOk S so sn && (decide (0 ≤ a4) && decide (a4 < (sn : Int))))) then fB (goingB X o n K ko kn S so (Ev.mk 10 a1 a2 a3 a4 a5)) else none)) := congrFun (congrFun (congrFun (congrFun (congrFun (congrFun (congrFun (congrFun (congrFun (congrFun (congrFun (congrFun (congrFun (congrFun t23_10_k X) o) n) K) ko) kn) S) so) sn) a1) a2) a3) a4) a5
theorem t23_11_k : (fun (X : Array Value) (o n : Nat) (K : Array Value) (ko kn : Nat) (S : Array Value) (so sn : Nat) (a1 a2 a3 a4 a5 : Int) => (callT cfg6 t6 60 (.func (.func 23) #[] #[]) #[VS X o n, jobV K ko kn S so sn, (Ev.mk 11 a1 a2 a3 a4 a5).val] cz st0).evalM seenOf) = fun (X : Array Value) (o n : Nat) (K : Array Value) (ko kn : Nat) (S : Array Value) (so sn : Nat) (a1 a2 a3 a4 a5 : Int) => ((bif evsOk X o n && (intsOk K ko kn && decide (kn ≤ nLim)) then fB (codedB X o n K ko kn (Ev.mk 11 a1 a2 a3 a4 a5)) else none)) := by kernel_rfl
theorem t23_11 (X : Array Value) (o n : Nat) (K : Array Value) (ko kn : Nat) (S : Array Value) (so sn : Nat) (a1 a2 a3 a4 a5 : Int) : (callT cfg6 t6 60 (.func (.func 23) #[] #[]) #[VS X o n, jobV K ko kn S so sn, (Ev.mk 11 a1 a2 a3 a4 a5).val] cz st0).evalM seenOf = ((bif evsOk X o n && (intsOk K ko kn && decide (kn ≤ nLim)) then fB (codedB X o n K ko kn (Ev.mk 11 a1 a2 a3 a4 a5)) else none)) := congrFun (congrFun (congrFun (congrFun (congrFun (congrFun (congrFun (congrFun (congrFun (congrFun (congrFun (congrFun (congrFun (congrFun t23_11_k X) o) n) K) ko) kn) S) so) sn) a1) a2) a3) a4) a5
theorem has_eq {α : Type} {X : Array Value} {o n : Nat} (hx : evsOk X o n = true) (k : Int) (x : Ev) (A B : Option α) : has X o n k x A B = bif hasE X o n k x then A else B := by unfold has; rw [hx]; rfl
/-- May an event be, behind others? -/
def mayB (X : Array Value) (o n : Nat) (K : Array Value) (ko kn : Nat) (S : Array Value) (so : Nat) (x : Ev) : Bool :=
  bif x.kind == 0 then !hasE X o n 0 x && !hasE X o n 7 x else bif x.kind == 7 then !hasE X o n 0 x && !hasE X o n 7 x else bif x.kind == 1 then hasE X o n 0 x && ((fstE X o n 0 x).arg == 0 && (!hasE X o n 6 x && (!hasE X o n 1 x && !hasE X o n 2 x))) else bif x.kind == 2 then hasE X o n 0 x && ((fstE X o n 0 x).arg == 0 && (!hasE X o n 6 x && (!hasE X o n 1 x && (!hasE X o n 2 x && !hasE X o n 10 (x.at (-1)))))) else bif x.kind == 3 then hasE X o n 1 x && (!hasE X o n 3 x && (!hasE X o n 4 x && hasE X o n 10 (x.at (-1)))) else bif x.kind == 4 then hasE X o n 1 x && (!hasE X o n 3 x && (!hasE X o n 4 x && !hasE X o n 10 (x.at (-1)))) else bif x.kind == 5 then hasE X o n 3 x && !hasE X o n 5 x else bif x.kind == 6 then hasE X o n 0 x && (!hasE X o n 6 x && !alvB X o n x) else bif x.kind == 10 then goingB X o n K ko kn S so x else codedB X o n K ko kn x
def kOk (k : Int) : Bool := (decide (0 ≤ k) && decide (k ≤ 7)) || (k == 10 || k == 11)
def c23 (X : Array Value) (o n : Nat) (K : Array Value) (ko kn : Nat) (S : Array Value) (so sn : Nat) (x : Ev) : Bool := evsOk X o n && ((intsOk K ko kn && decide (kn ≤ 20)) && (stepsOk S so sn && ((!(x.kind == 10) || (decide (0 ≤ x.step) && decide (x.step < (sn : Int)))) && kOk x.kind)))
theorem e23 {X : Array Value} {o n : Nat} {K : Array Value} {ko kn : Nat} {S : Array Value} {so sn : Nat} {x : Ev} (h : c23 X o n K ko kn S so sn x = true) : (callT cfg6 t6 60 (.func (.func 23) #[] #[]) #[VS X o n, jobV K ko kn S so sn, x.val] cz st0).evalM seenOf = fB (mayB X o n K ko kn S so x) := by
  unfold c23 kOk at h
  simp only [Bool.and_eq_true, Bool.or_eq_true, decide_eq_true_eq, beq_iff_eq] at h
  obtain ⟨hx, ⟨hk, hl⟩, hs, hst, hkind⟩ := h
  obtain ⟨k, a1, a2, a3, a4, a5⟩ := x
  have hk10 : k = 0 ∨ k = 7 ∨ k = 1 ∨ k = 2 ∨ k = 3 ∨ k = 4 ∨ k = 5 ∨ k = 6 ∨ k = 10 ∨ k = 11 := by
    simp only at hkind; omega
  have hl' : kn ≤ nLim := by unfold nLim; omega
  rcases hk10 with rfl | rfl | rfl | rfl | rfl | rfl | rfl | rfl | rfl | rfl
  · refine (t23_0 X o n K ko kn S so sn a1 a2 a3 a4 a5).trans ?_
    show _ = fB (!hasE X o n 0 (Ev.mk 0 a1 a2 a3 a4 a5) && !hasE X o n 7 (Ev.mk 0 a1 a2 a3 a4 a5))
    simp only [has_eq hx]
    generalize (hasE X o n 0 (Ev.mk 0 a1 a2 a3 a4 a5)) = b0
    generalize (hasE X o n 7 (Ev.mk 0 a1 a2 a3 a4 a5)) = b7
    cases b0 <;> cases b7 <;> rfl
  · refine (t23_7 X o n K ko kn S so sn a1 a2 a3 a4 a5).trans ?_
    show _ = fB (!hasE X o n 0 (Ev.mk 7 a1 a2 a3 a4 a5) && !hasE X o n 7 (Ev.mk 7 a1 a2 a3 a4 a5))
    simp only [has_eq hx]
    generalize (hasE X o n 0 (Ev.mk 7 a1 a2 a3 a4 a5)) = b0
    generalize (hasE X o n 7 (Ev.mk 7 a1 a2 a3 a4 a5)) = b7
    cases b0 <;> cases b7 <;> rfl
  · refine (t23_1 X o n K ko kn S so sn a1 a2 a3 a4 a5).trans ?_
    show _ = fB (hasE X o n 0 (Ev.mk 1 a1 a2 a3 a4 a5) && ((fstE X o n 0 (Ev.mk 1 a1 a2 a3 a4 a5)).arg == 0 && (!hasE X o n 6 (Ev.mk 1 a1 a2 a3 a4 a5) && (!hasE X o n 1 (Ev.mk 1 a1 a2 a3 a4 a5) && !hasE X o n 2 (Ev.mk 1 a1 a2 a3 a4 a5)))))
    simp only [has_eq hx]
    generalize (hasE X o n 0 (Ev.mk 1 a1 a2 a3 a4 a5)) = b0
    generalize ((fstE X o n 0 (Ev.mk 1 a1 a2 a3 a4 a5)).arg == 0) = bq
    generalize (hasE X o n 6 (Ev.mk 1 a1 a2 a3 a4 a5)) = b6
    generalize (hasE X o n 1 (Ev.mk 1 a1 a2 a3 a4 a5)) = b1
    generalize (hasE X o n 2 (Ev.mk 1 a1 a2 a3 a4 a5)) = b2
    cases b0 <;> cases bq <;> cases b6 <;> cases b1 <;> cases b2 <;> rfl
  · refine (t23_2 X o n K ko kn S so sn a1 a2 a3 a4 a5).trans ?_
    show _ = fB (hasE X o n 0 (Ev.mk 2 a1 a2 a3 a4 a5) && ((fstE X o n 0 (Ev.mk 2 a1 a2 a3 a4 a5)).arg == 0 && (!hasE X o n 6 (Ev.mk 2 a1 a2 a3 a4 a5) && (!hasE X o n 1 (Ev.mk 2 a1 a2 a3 a4 a5) && (!hasE X o n 2 (Ev.mk 2 a1 a2 a3 a4 a5) && !hasE X o n 10 ((Ev.mk 2 a1 a2 a3 a4 a5).at (-1)))))))
    simp only [has_eq hx]
    generalize (hasE X o n 0 (Ev.mk 2 a1 a2 a3 a4 a5)) = b0
    generalize ((fstE X o n 0 (Ev.mk 2 a1 a2 a3 a4 a5)).arg == 0) = bq
    generalize (hasE X o n 6 (Ev.mk 2 a1 a2 a3 a4 a5)) = b6
    generalize (hasE X o n 1 (Ev.mk 2 a1 a2 a3 a4 a5)) = b1
    generalize (hasE X o n 2 (Ev.mk 2 a1 a2 a3 a4 a5)) = b2
    generalize (hasE X o n 10 ((Ev.mk 2 a1 a2 a3 a4 a5).at (-1))) = bg
    cases b0 <;> cases bq <;> cases b6 <;> cases b1 <;> cases b2 <;> cases bg <;> rfl
  · refine (t23_3 X o n K ko kn S so sn a1 a2 a3 a4 a5).trans ?_
    show _ = fB (hasE X o n 1 (Ev.mk 3 a1 a2 a3 a4 a5) && (!hasE X o n 3 (Ev.mk 3 a1 a2 a3 a4 a5) && (!hasE X o n 4 (Ev.mk 3 a1 a2 a3 a4 a5) && hasE X o n 10 ((Ev.mk 3 a1 a2 a3 a4 a5).at (-1)))))
    simp only [has_eq hx]
    generalize (hasE X o n 1 (Ev.mk 3 a1 a2 a3 a4 a5)) = b1
    generalize (hasE X o n 3 (Ev.mk 3 a1 a2 a3 a4 a5)) = b3
    generalize (hasE X o n 4 (Ev.mk 3 a1 a2 a3 a4 a5)) = b4
    generalize (hasE X o n 10 ((Ev.mk 3 a1 a2 a3 a4 a5).at (-1))) = bg
    cases b1 <;> cases b3 <;> cases b4 <;> cases bg <;> rfl
  · refine (t23_4 X o n K ko kn S so sn a1 a2 a3 a4 a5).trans ?_
    show _ = fB (hasE X o n 1 (Ev.mk 4 a1 a2 a3 a4 a5) && (!hasE X o n 3 (Ev.mk 4 a1 a2 a3 a4 a5) && (!hasE X o n 4 (Ev.mk 4 a1 a2 a3 a4 a5) && !hasE X o n 10 ((Ev.mk 4 a1 a2 a3 a4 a5).at (-1)))))
    simp only [has_eq hx]
    generalize (hasE X o n 1 (Ev.mk 4 a1 a2 a3 a4 a5)) = b1
    generalize (hasE X o n 3 (Ev.mk 4 a1 a2 a3 a4 a5)) = b3
    generalize (hasE X o n 4 (Ev.mk 4 a1 a2 a3 a4 a5)) = b4
    generalize (hasE X o n 10 ((Ev.mk 4 a1 a2 a3 a4 a5).at (-1))) = bg
    cases b1 <;> cases b3 <;> cases b4 <;> cases bg <;> rfl
  · refine (t23_5 X o n K ko kn S so sn a1 a2 a3 a4 a5).trans ?_
    show _ = fB (hasE X o n 3 (Ev.mk 5 a1 a2 a3 a4 a5) && !hasE X o n 5 (Ev.mk 5 a1 a2 a3 a4 a5))
    simp only [has_eq hx]
    generalize (hasE X o n 3 (Ev.mk 5 a1 a2 a3 a4 a5)) = b3
    generalize (hasE X o n 5 (Ev.mk 5 a1 a2 a3 a4 a5)) = b5
    cases b3 <;> cases b5 <;> rfl
  · refine (t23_6 X o n K ko kn S so sn a1 a2 a3 a4 a5).trans ?_
    show _ = fB (hasE X o n 0 (Ev.mk 6 a1 a2 a3 a4 a5) && (!hasE X o n 6 (Ev.mk 6 a1 a2 a3 a4 a5) && !alvB X o n (Ev.mk 6 a1 a2 a3 a4 a5)))
    simp only [has_eq hx]
    simp only [hx, cond_true]
    generalize (hasE X o n 0 (Ev.mk 6 a1 a2 a3 a4 a5)) = b0
    generalize (hasE X o n 6 (Ev.mk 6 a1 a2 a3 a4 a5)) = b6
    generalize (alvB X o n (Ev.mk 6 a1 a2 a3 a4 a5)) = ba
    cases b0 <;> cases b6 <;> cases ba <;> rfl
  · refine (t23_10 X o n K ko kn S so sn a1 a2 a3 a4 a5).trans ?_
    show _ = fB (goingB X o n K ko kn S so (Ev.mk 10 a1 a2 a3 a4 a5))
    have h10 : 0 ≤ a4 ∧ a4 < (sn : Int) := by simpa using hst
    rw [hx, hk, hs]
    simp only [hl, h10.1, h10.2, decide_true, Bool.and_true, cond_true]
  · refine (t23_11 X o n K ko kn S so sn a1 a2 a3 a4 a5).trans ?_
    show _ = fB (codedB X o n K ko kn (Ev.mk 11 a1 a2 a3 a4 a5))
    rw [hx, hk]
    simp only [hl', decide_true, Bool.and_true, cond_true]
def F23 : Array Value → DT (Option (Value × St))
  | ⟨[.func (.method nm) X ⟨[.slice none o n]⟩, .agg ⟨[.func (.method nm1) K ⟨[.slice none ko kn]⟩, .func (.method nm2) S ⟨[.slice none so sn]⟩]⟩, .agg ⟨[.int .i64 x0, .int .i64 x1, .int .i64 x2, .int .i64 x3, .int .i64 x4, .int .i64 x5]⟩]⟩ =>
    .must ((decide (nm = "") && (decide (nm1 = "") && decide (nm2 = ""))) && c23 X o n K ko kn S so sn ⟨x0, x1, x2, x3, x4, x5⟩) (.leaf (some (.bool (mayB X o n K ko kn S so ⟨x0, x1, x2, x3, x4, x5⟩), st0))) (.leaf none)
  | _ => .leaf none
theorem i23_fn : cfg6.fns 23 = some { body := bodyOf 23, nt := ntOf 23, results := [.tmp 6], pure := false } := by kernel_rfl
theorem tells23 [Z : Zone] : Tells cfg6 23 fun a => (F23 a).eval := by
  refine tells_call good6 rfl i23_fn fun args y hx => ?_
  unfold F23 at hx
  split at hx
  · rename_i nm X o n nm1 K ko kn nm2 S so sn x0 x1 x2 x3 x4 x5
    rw [DT.eval_must] at hx
    cases h : ((decide (nm = "") && (decide (nm1 = "") && decide (nm2 = ""))) && c23 X o n K ko kn S so sn ⟨x0, x1, x2, x3, x4, x5⟩) with
    | false => rw [h] at hx; cases hx
    | true =>
      rw [h, cond_true, DT.eval_leaf] at hx
      cases hx
      simp only [Bool.and_eq_true, decide_eq_true_eq] at h
      obtain ⟨⟨rfl, rfl, rfl⟩, h1⟩ := h
      exact ⟨by simp [freeN], tree_call t6_ok (e23 h1)⟩
  · cases hx
/-! ### Check -/
def T7 : FuncId → Option (Array Value → DT (Option (Value × St)))
  | 17 => some F17
  | 23 => some F23
  | _ => none
def cfg7 : Cfg := cfg6.told T7
def t7 : FuncId → Option HandT := treeT T7 t6
theorem good7 [Z : Zone] (B : Base) : Go.Am.Good cfg7 B := tells_good good6 (fun f F h => by
  unfold T7 at h
  split at h
  · cases h; exact ⟨⟨_, i17_fn⟩, Tells.cfg (g := cfg1) (g' := cfg6) rfl rfl tells17⟩
  · cases h; exact ⟨⟨_, i23_fn⟩, tells23⟩
  · cases h) B
theorem t7_ok : ∀ f k hd, t7 f = some k → cfg7.hand f = some hd → ∀ a c s, (k a c s).eval = hd a c s := treeT_ok t6_ok
def b14 : Code := bodyOf 14
def k14 : Code := cB (cB (cR (cL (cN 1 b14))))
theorem b14_eq : b14 = nest [cL b14] (.seq (.seq (cL (cL (cN 1 b14))) (.block 0 (.loop k14))) (cN 2 b14)) := by kernel_rfl
def fr14 (J : Array Value) (jo jn : Nat) (X : Array Value) (o n : Nat) (i : Int) : Fr := frS 14 [(0, VS J jo jn), (1, VS X o n), (8, VS X o n), (9, nI n), (10, .int .i64 i)]
def R14 (i e : Int) : Option (Ex × Fr × St) := some (.ret, frS 14 [(4, .int .i64 i), (5, .int .i64 e)], st0)
def jK2 (jo : Nat) (x : Ev) : Nat := jo + Int.toNat (IntKind.wrap .i64 (x.job - 1)) * 2
def mayJ (J : Array Value) (k : Nat) (X : Array Value) (o n : Nat) (x : Ev) : Bool := mayB X o n (ndX J k) (ndO J k) (ndL J k) (stX J k) (stO J k) x
theorem p14_k : (fun (J : Array Value) (jo jn : Nat) (X : Array Value) (o n : Nat) => (codeT cfg7 (callT cfg7 t7 60) 60 cz (seqOf [cL b14]) (frame0 14 (ntOf 14) #[VS J jo jn, VS X o n]) st0).evalM (gcObs 0 0 (keep [0, 1]))) = fun (J : Array Value) (jo jn : Nat) (X : Array Value) (o n : Nat) => some (.normal, frS 14 [(0, VS J jo jn), (1, VS X o n)], st0) := by kernel_rfl
theorem p14 (J : Array Value) (jo jn : Nat) (X : Array Value) (o n : Nat) : (codeT cfg7 (callT cfg7 t7 60) 60 cz (seqOf [cL b14]) (frame0 14 (ntOf 14) #[VS J jo jn, VS X o n]) st0).evalM (gcObs 0 0 (keep [0, 1])) = some (.normal, frS 14 [(0, VS J jo jn), (1, VS X o n)], st0) := congrFun (congrFun (congrFun (congrFun (congrFun (congrFun p14_k J) jo) jn) X) o) n
theorem i14_k : (fun (J : Array Value) (jo jn : Nat) (X : Array Value) (o n : Nat) => (codeT cfg7 (callT cfg7 t7 60) 60 cz (cL (cL (cN 1 b14))) (frS 14 [(0, VS J jo jn), (1, VS X o n)]) st0).evalM (gcObs 0 0 (keep [0, 1, 8, 9, 10]))) = fun (J : Array Value) (jo jn : Nat) (X : Array Value) (o n : Nat) => some (.normal, fr14 J jo jn X o n 0, st0) := by kernel_rfl
theorem i14 (J : Array Value) (jo jn : Nat) (X : Array Value) (o n : Nat) : (codeT cfg7 (callT cfg7 t7 60) 60 cz (cL (cL (cN 1 b14))) (frS 14 [(0, VS J jo jn), (1, VS X o n)]) st0).evalM (gcObs 0 0 (keep [0, 1, 8, 9, 10])) = some (.normal, fr14 J jo jn X o n 0, st0) := congrFun (congrFun (congrFun (congrFun (congrFun (congrFun i14_k J) jo) jn) X) o) n
theorem e14_k : (fun (J : Array Value) (jo jn : Nat) (X : Array Value) (o n : Nat) (i : Int) => (codeT cfg7 (callT cfg7 t7 60) 60 cz (cN 2 b14) (fr14 J jo jn X o n i) st0).evalM (gcObs 0 0 (keepR [] [4, 5]))) = fun (J : Array Value) (jo jn : Nat) (X : Array Value) (o n : Nat) (i : Int) => R14 n 0 := by kernel_rfl
theorem e14 (J : Array Value) (jo jn : Nat) (X : Array Value) (o n : Nat) (i : Int) : (codeT cfg7 (callT cfg7 t7 60) 60 cz (cN 2 b14) (fr14 J jo jn X o n i) st0).evalM (gcObs 0 0 (keepR [] [4, 5])) = R14 n 0 := congrFun (congrFun (congrFun (congrFun (congrFun (congrFun (congrFun e14_k J) jo) jn) X) o) n) i
theorem r14_k : (fun (J : Array Value) (jo jn : Nat) (X : Array Value) (o n : Nat) (i : Int) => (codeT cfg7 (callT cfg7 t7 60) 60 cz k14 (fr14 J jo jn X o n i) st0).evalM (gcObs 0 0 (keepR [0, 1, 8, 9, 10] [4, 5]))) = fun (J : Array Value) (jo jn : Nat) (X : Array Value) (o n : Nat) (i : Int) => (bif decide (i < (n : Int)) then (bif decide (0 ≤ i) && decide (i < (n : Int)) then (bif decide (o + Int.toNat i * 6 + 6 ≤ X.size) then (bif cellsOk X ev6 (o + Int.toNat i * 6) then (bif jobsOk J jo jn then (bif !toldB J jo jn (eA X o i) then R14 i 5 else (bif decide (0 ≤ i) then (bif decide (Int.toNat i ≤ n) then (bif jD jn (eA X o i).job then (bif decide (jK2 jo (eA X o i) + 2 ≤ J.size) then (bif cellsOk J ck2 (jK2 jo (eA X o i)) then (bif c23 X (o + 0 * 6) (Int.toNat i - 0) (ndX J (jK2 jo (eA X o i))) (ndO J (jK2 jo (eA X o i))) (ndL J (jK2 jo (eA X o i))) (stX J (jK2 jo (eA X o i))) (stO J (jK2 jo (eA X o i))) (stL J (jK2 jo (eA X o i))) (eA X o i) then (bif !mayJ J (jK2 jo (eA X o i)) X (o + 0 * 6) (Int.toNat i - 0) (eA X o i) then R14 i 14 else some (.normal, fr14 J jo jn X o n (IntKind.wrap .i64 (i + 1)), st0)) else none) else none) else none) else none) else none) else none)) else none) else none) else none) else none) else some (.exit 0, fr14 J jo jn X o n i, st0)) := by kernel_rfl
theorem r14 (J : Array Value) (jo jn : Nat) (X : Array Value) (o n : Nat) (i : Int) : (codeT cfg7 (callT cfg7 t7 60) 60 cz k14 (fr14 J jo jn X o n i) st0).evalM (gcObs 0 0 (keepR [0, 1, 8, 9, 10] [4, 5])) = (bif decide (i < (n : Int)) then (bif decide (0 ≤ i) && decide (i < (n : Int)) then (bif decide (o + Int.toNat i * 6 + 6 ≤ X.size) then (bif cellsOk X ev6 (o + Int.toNat i * 6) then (bif jobsOk J jo jn then (bif !toldB J jo jn (eA X o i) then R14 i 5 else (bif decide (0 ≤ i) then (bif decide (Int.toNat i ≤ n) then (bif jD jn (eA X o i).job then (bif decide (jK2 jo (eA X o i) + 2 ≤ J.size) then (bif cellsOk J ck2 (jK2 jo (eA X o i)) then (bif c23 X (o + 0 * 6) (Int.toNat i - 0) (ndX J (jK2 jo (eA X o i))) (ndO J (jK2 jo (eA X o i))) (ndL J (jK2 jo (eA X o i))) (stX J (jK2 jo (eA X o i))) (stO J (jK2 jo (eA X o i))) (stL J (jK2 jo (eA X o i))) (eA X o i) then (bif !mayJ J (jK2 jo (eA X o i)) X (o + 0 * 6) (Int.toNat i - 0) (eA X o i) then R14 i 14 else some (.normal, fr14 J jo jn X o n (IntKind.wrap .i64 (i + 1)), st0)) else none) else none) else none) else none) else none) else none)) else none) else none) else none) else none) else some (.exit 0, fr14 J jo jn X o n i, st0)) := congrFun (congrFun (congrFun (congrFun (congrFun (congrFun (congrFun r14_k J) jo) jn) X) o) n) i
end
end Go.Proofs.Ytbhemcpmklkepaa
