/- How many cores a node's steps have: the law. -/
import Derived.Test.YtbhemcpmklkepaaK
namespace Go.Proofs.Ytbhemcpmklkepaa
open Go.Am
noncomputable section
def F8 : Array Value → DT (Option (Value × St))
  | ⟨[]⟩ => .leaf (some (.bool true, st0))
  | _ => .leaf none
theorem i8_fn : cfg.fns 8 = some { body := bodyOf 8, nt := ntOf 8, results := [.tmp 0], pure := false } := by kernel_rfl
theorem tells8 [Z : Zone] : Tells cfg 8 fun a => (F8 a).eval := by
  refine tells_call good rfl i8_fn fun args y hx => ?_
  unfold F8 at hx
  split at hx
  · rw [DT.eval_leaf] at hx
    cases hx
    exact ⟨by simp, tree_callW noT_ok live_true⟩
  · cases hx
def TA : FuncId → Option (Array Value → DT (Option (Value × St)))
  | 8 => some F8
  | 10 => some F10
  | 11 => some F9
  | 13 => some F13
  | 15 => some F15
  | _ => none
def cfgA : Cfg := cfg.told TA
def tA : FuncId → Option HandT := treeT TA noT
theorem goodA [Z : Zone] (B : Base) : Go.Am.Good cfgA B := tells_good good (fun f F h => by
  unfold TA at h
  split at h
  · cases h; exact ⟨⟨_, i8_fn⟩, tells8⟩
  · cases h; exact ⟨⟨_, i10_fn⟩, Tells.cfg (g := cfg3) (g' := cfg) rfl rfl tells10⟩
  · cases h; exact ⟨⟨_, i11_fn⟩, Tells.cfg (g := cfg2) (g' := cfg) rfl rfl tells11⟩
  · cases h; exact ⟨⟨_, i13_fn⟩, Tells.cfg (g := cfg2) (g' := cfg) rfl rfl tells13⟩
  · cases h; exact ⟨⟨_, i15_fn⟩, Tells.cfg (g := cfg3) (g' := cfg) rfl rfl tells15⟩
  · cases h) B
theorem tA_ok : ∀ f k hd, tA f = some k → cfgA.hand f = some hd → ∀ a c s, (k a c s).eval = hd a c s := treeT_ok noT_ok
def TL : FuncId → Option (Array Value → DT (Option (Value × St)))
  | 9 => some F9
  | 12 => some F13
  | _ => none
def cfgL : Cfg := cfgA.frz TL
def tL : FuncId → Option HandT := treeF TL tA
theorem goodL [Z : Zone] (B : Base) : Go.Am.Good cfgL B := frz_good (fun Z' => @goodA Z') rfl (fun f F h => by
  unfold TL at h
  split at h
  · cases h; exact ⟨⟨_, i9_fn⟩, fun Z' => @Tells.cfg Z' cfg2 cfgA rfl rfl _ _ (@tells9 Z')⟩
  · cases h; exact ⟨⟨_, i12_fn⟩, fun Z' => @Tells.cfg Z' cfg3 cfgA rfl rfl _ _ (@tells12 Z')⟩
  · cases h) B
theorem tL_ok : ∀ f k hd, tL f = some k → cfgL.hand f = some hd → ∀ a c s, (k a c s).eval = hd a c s := treeF_ok tA_ok
/-- Events are handed over. -/
def ownT (X : Array Value) (o n : Nat) (A : Array Value → Nat → Option (Value × St)) : Option (Value × St) := bif evsOk X o n && decide (n ≤ nLim) then (bif decide (n = 0) then A #[] 0 else (bif decide (n ≤ n) && (decide ((rowE X o n).size ≠ 0) && (rowE X o n).all (freeN 9)) then A (rowE X o n) n else none)) else none
def m3 (J : Array Value) (jo jn : Nat) (X : Array Value) (o n : Nat) (x : Ev) (E : Array Value) (m : Nat) : Option (Value × St) := bif jobsOk J jo jn && evsOk E 0 m then (bif jobsOk J jo jn && evsOk X o n then (bif endB J jo jn E 0 m x.job x.epoch == endB J jo jn X o n x.job x.epoch then fB true else fB false) else none) else none
def m1 (J : Array Value) (jo jn : Nat) (X : Array Value) (o n : Nat) (x : Ev) (E : Array Value) (m : Nat) : Option (Value × St) := bif jobsOk J jo jn && evsOk E 0 m then (bif jobsOk J jo jn && evsOk X o n then (bif ownI J jo jn E 0 m x.node == ownI J jo jn X o n x.node then ownT X o n (m3 J jo jn X o n x) else fB false) else none) else none
def m0 (J : Array Value) (jo jn : Nat) (X : Array Value) (o n : Nat) (x : Ev) : Option (Value × St) := ownT X o n (m1 J jo jn X o n x)
theorem t3e_k : (fun (J : Array Value) (jo jn : Nat) (X : Array Value) (o n : Nat) (x : Ev) => (callT cfgL tL 60 (.func (.func 3) #[] #[]) #[VS J jo jn, VS X o n, x.val] cz st0).evalM seenOf) = fun (J : Array Value) (jo jn : Nat) (X : Array Value) (o n : Nat) (x : Ev) => (bif jobsOk J jo jn then (bif smallB J jo jn then (bif !decide ((n : Int) ≤ 60) then fB true else m0 J jo jn X o n x) else fB true) else none) := by kernel_rfl
theorem t3e (J : Array Value) (jo jn : Nat) (X : Array Value) (o n : Nat) (x : Ev) : (callT cfgL tL 60 (.func (.func 3) #[] #[]) #[VS J jo jn, VS X o n, x.val] cz st0).evalM seenOf = (bif jobsOk J jo jn then (bif smallB J jo jn then (bif !decide ((n : Int) ≤ 60) then fB true else m0 J jo jn X o n x) else fB true) else none) := congrFun (congrFun (congrFun (congrFun (congrFun (congrFun (congrFun t3e_k J) jo) jn) X) o) n) x

/-! ### The same events, wherever they stand -/
theorem findN_congr {p q : Nat → Bool} {n : Nat} (h : ∀ i, i < n → p i = q i) : findN p n = findN q n := by
  unfold findN
  have key : ∀ l : List Nat, (∀ x ∈ l, p x = q x) → l.find? p = l.find? q := fun l => by
    induction l with
    | nil => intro _; rfl
    | cons x r ih =>
      intro hl
      rw [List.find?_cons, List.find?_cons, hl x (by simp), ih fun y hy => hl y (by simp [hy])]
  exact key _ fun x hx => h x (List.mem_range.1 hx)
def EvSame (Y : Array Value) (o2 : Nat) (X : Array Value) (o1 n : Nat) : Prop := ∀ k, k < n → evAt Y (o2 + k * 6) = evAt X (o1 + k * 6)
theorem EvSame.drop {Y X : Array Value} {o2 o1 n : Nat} (h : EvSame Y o2 X o1 n) (m : Nat) : EvSame Y (o2 + m * 6) X (o1 + m * 6) (n - m) := fun k hk => by
  have := h (m + k) (by omega)
  rw [show o2 + m * 6 + k * 6 = o2 + (m + k) * 6 by omega, show o1 + m * 6 + k * 6 = o1 + (m + k) * 6 by omega]
  exact this
theorem EvSame.hasE {Y X : Array Value} {o2 o1 n : Nat} (h : EvSame Y o2 X o1 n) (k : Int) (x : Ev) : hasE Y o2 n k x = hasE X o1 n k x := by
  unfold Go.Proofs.Ytbhemcpmklkepaa.hasE firstN
  rw [findN_congr (p := evP Y o2 k x) (q := evP X o1 k x) fun i hi => by unfold evP; rw [h i hi]]
theorem EvSame.acc {J : Array Value} {jo jn : Nat} {Y X : Array Value} {o2 o1 n : Nat} (h : EvSame Y o2 X o1 n) (nd : Int) : ∀ i, i ≤ n → accA J jo jn Y o2 n nd i = accA J jo jn X o1 n nd i := by
  intro i
  induction i with
  | zero => intro _; rfl
  | succ i ih =>
    intro hi
    simp only [accA, cndA]
    rw [ih (by omega), h i (by omega), (h.drop (i + 1)).hasE, (h.drop (i + 1)).hasE]
theorem EvSame.end_ {J : Array Value} {jo jn : Nat} {Y X : Array Value} {o2 o1 n : Nat} (h : EvSame Y o2 X o1 n) (job epoch : Int) : endB J jo jn Y o2 n job epoch = endB J jo jn X o1 n job epoch := by
  unfold endB
  rw [findN_congr (p := opn (ndX J (jobK jo job)) (ndO J (jobK jo job)) Y o2 n job epoch) (q := opn (ndX J (jobK jo job)) (ndO J (jobK jo job)) X o1 n job epoch) fun i hi => by unfold opn; rw [h.hasE, h.hasE]]
theorem own_ok {X : Array Value} {o n : Nat} {A : Array Value → Nat → Option (Value × St)} (hx : evsOk X o n = true) (hn : n ≤ 60) (h : ∀ E, EvSame E 0 X o n → evsOk E 0 n = true → A E n = fB true) : ownT X o n A = fB true := by
  unfold ownT
  have h1 : n ≤ nLim := by unfold nLim; omega
  rw [hx]
  simp only [h1, decide_true, Bool.and_true, cond_true]
  have hs : EvSame (rowE X o n) 0 X o n := fun k hk => (rowE_ev hk).1
  cases n with
  | zero => exact h #[] hs rfl
  | succ m =>
    have e1 : ¬ (m + 1 = 0) := by omega
    have e2 : (rowE X o (m + 1)).size ≠ 0 := by rw [rowE_size]; omega
    simp only [e1, decide_false, cond_false, Nat.le_refl, decide_true, e2, ne_eq, not_false_eq_true, (rowE_plain X o (m + 1)).2.2, Bool.and_true, cond_true]
    exact h _ hs (rowE_ok hx)
theorem law3 {J : Array Value} {jo jn : Nat} {X : Array Value} {o n : Nat} {x : Ev} (hj : jobsOk J jo jn = true) (hx : evsOk X o n = true) : (callT cfgL tL 60 (.func (.func 3) #[] #[]) #[VS J jo jn, VS X o n, x.val] cz st0).evalM seenOf = fB true := by
  rw [t3e, hj]
  simp only [cond_true]
  cases smallB J jo jn with
  | false => rfl
  | true =>
    by_cases hn : n ≤ 60
    · have hn' : (n : Int) ≤ 60 := by omega
      simp only [hn', decide_true, Bool.not_true, cond_false, cond_true]
      refine own_ok hx hn fun E hE hok => ?_
      unfold m1
      rw [hj, hok, hx]
      have e1 : ownI J jo jn E 0 n x.node = ownI J jo jn X o n x.node := hE.acc x.node n (Nat.le_refl _)
      simp only [Bool.and_true, cond_true, e1, beq_self_eq_true]
      refine own_ok hx hn fun E' hE' hok' => ?_
      unfold m3
      rw [hj, hok', hx, hE'.end_]
      simp only [Bool.and_true, cond_true, beq_self_eq_true]
    · have hn' : ¬ ((n : Int) ≤ 60) := by omega
      simp only [hn', decide_false, Bool.not_false, cond_true]
end
end Go.Proofs.Ytbhemcpmklkepaa
