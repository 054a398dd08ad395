/- What is told so far; may an event be told? -/
import Derived.Test.YtbhemcpmklkepaaE
namespace Go.Proofs.Ytbhemcpmklkepaa
open Go.Am
noncomputable section
def T1 : FuncId → Option (Array Value → DT (Option (Value × St)))
  | 20 => some F20
  | 29 => some F29
  | 39 => some F39
  | _ => none
def cfg1 : Cfg := cfg.told T1
def t1 : FuncId → Option HandT := treeT T1 noT
theorem good1 [Z : Zone] (B : Base) : Go.Am.Good cfg1 B := tells_good good (fun f F h => by
  unfold T1 at h
  split at h
  · cases h; exact ⟨⟨_, i20_fn⟩, tells20⟩
  · cases h; exact ⟨⟨_, i29_fn⟩, tells29⟩
  · cases h; exact ⟨⟨_, i39_fn⟩, tells39⟩
  · cases h) B
theorem t1_ok : ∀ f k hd, t1 f = some k → cfg1.hand f = some hd → ∀ a c s, (k a c s).eval = hd a c s := treeT_ok noT_ok

/-! ### Jobs -/
def ndX (J : Array Value) (k : Nat) : Array Value := vX J[k]?
def ndO (J : Array Value) (k : Nat) : Nat := vO J[k]?
def ndL (J : Array Value) (k : Nat) : Nat := vL J[k]?
def stX (J : Array Value) (k : Nat) : Array Value := vX J[k + 1]?
def stO (J : Array Value) (k : Nat) : Nat := vO J[k + 1]?
def stL (J : Array Value) (k : Nat) : Nat := vL J[k + 1]?
def ck2 : List CK := [.sl, .sl]
def ck5 : List CK := [.int .i64, .int .i64, .int .i64, .int .i64, .sl]
def ckE : List CK := [.int .i64, .int .i64]
def edgesOk (X : Array Value) (o n : Nat) : Bool := decide (n ≤ maxI) && (decide (o + n * 2 ≤ X.size) && (List.range n).all fun i => cellsOk X ckE (o + i * 2))
def stepsOk (X : Array Value) (o n : Nat) : Bool := decide (n ≤ maxI) && (decide (o + n * 5 ≤ X.size) && (List.range n).all fun i => cellsOk X ck5 (o + i * 5) && edgesOk (vX X[o + i * 5 + 4]?) (vO X[o + i * 5 + 4]?) (vL X[o + i * 5 + 4]?))
def jobsOk (X : Array Value) (o n : Nat) : Bool := decide (n ≤ maxI) && (decide (o + n * 2 ≤ X.size) && (List.range n).all fun i => cellsOk X ck2 (o + i * 2) && (intsOk (ndX X (o + i * 2)) (ndO X (o + i * 2)) (ndL X (o + i * 2)) && stepsOk (stX X (o + i * 2)) (stO X (o + i * 2)) (stL X (o + i * 2))))
theorem jobsOk_get {X : Array Value} {o n i : Nat} (h : jobsOk X o n = true) (hi : i < n) : cellsOk X ck2 (o + i * 2) = true ∧ o + i * 2 + 2 ≤ X.size ∧ intsOk (ndX X (o + i * 2)) (ndO X (o + i * 2)) (ndL X (o + i * 2)) = true ∧ stepsOk (stX X (o + i * 2)) (stO X (o + i * 2)) (stL X (o + i * 2)) = true := by
  simp only [jobsOk, Bool.and_eq_true, List.all_eq_true, List.mem_range, decide_eq_true_eq] at h
  obtain ⟨h1, h2, h3⟩ := h.2.2 i hi
  exact ⟨h1, by omega, h2, h3⟩
theorem jobsOk_n {X : Array Value} {o n : Nat} (h : jobsOk X o n = true) : n ≤ 9223372036854775807 := by
  simp only [jobsOk, Bool.and_eq_true, decide_eq_true_eq] at h
  exact h.1
theorem stepsOk_get {X : Array Value} {o n i : Nat} (h : stepsOk X o n = true) (hi : i < n) : cellsOk X ck5 (o + i * 5) = true ∧ o + i * 5 + 5 ≤ X.size ∧ edgesOk (vX X[o + i * 5 + 4]?) (vO X[o + i * 5 + 4]?) (vL X[o + i * 5 + 4]?) = true := by
  simp only [stepsOk, Bool.and_eq_true, List.all_eq_true, List.mem_range, decide_eq_true_eq] at h
  obtain ⟨h1, h2⟩ := h.2.2 i hi
  exact ⟨h1, by omega, h2⟩

/-! ### May an event be told? -/
def fB (b : Bool) : Option (Value × St) := some (.bool b, st0)
def idxJ (jo : Nat) (w : Int) : Nat := jo + Int.toNat w * 2
def hasNode (J : Array Value) (k : Nat) (node : Int) : Bool := decide (idxI (eqAt (ndX J k) (ndO J k) node) (ndL J k) ≥ 0)
def n17 (J : Array Value) (k : Nat) (x : Ev) : Option (Value × St) := bif x.kind == 10 then fB (x.node == -1) else bif x.kind == 11 then fB (x.node == -1) else bif decide (x.kind ≥ 0) then (bif decide (x.kind ≤ 7) then (bif intsOk (ndX J k) (ndO J k) (ndL J k) then fB (hasNode J k x.node) else none) else fB false) else fB false
theorem t17_k : (fun (J : Array Value) (jo jn : Nat) (x : Ev) => (callT cfg1 t1 60 (.func (.func 17) #[] #[]) #[VS J jo jn, x.val] cz st0).evalM seenOf) = fun (J : Array Value) (jo jn : Nat) (x : Ev) => (bif decide (x.job < 1) then fB false else bif decide (x.job > (jn : Int)) then fB false else bif decide (x.epoch < 0) then fB false else bif decide (0 ≤ IntKind.wrap .i64 (x.job - 1)) && decide (IntKind.wrap .i64 (x.job - 1) < (jn : Int)) then (bif decide (idxJ jo (IntKind.wrap .i64 (x.job - 1)) + 2 ≤ J.size) then (bif cellsOk J ck2 (idxJ jo (IntKind.wrap .i64 (x.job - 1))) then (bif x.kind == 0 then n17 J (idxJ jo (IntKind.wrap .i64 (x.job - 1))) x else bif x.kind == 6 then n17 J (idxJ jo (IntKind.wrap .i64 (x.job - 1))) x else bif !(x.kind == 7) then (bif decide (x.step < 0) then fB false else bif decide (x.step ≥ (stL J (idxJ jo (IntKind.wrap .i64 (x.job - 1))) : Int)) then fB false else n17 J (idxJ jo (IntKind.wrap .i64 (x.job - 1))) x) else n17 J (idxJ jo (IntKind.wrap .i64 (x.job - 1))) x) else none) else none) else none) := by kernel_rfl
theorem t17 (J : Array Value) (jo jn : Nat) (x : Ev) : (callT cfg1 t1 60 (.func (.func 17) #[] #[]) #[VS J jo jn, x.val] cz st0).evalM seenOf = (bif decide (x.job < 1) then fB false else bif decide (x.job > (jn : Int)) then fB false else bif decide (x.epoch < 0) then fB false else bif decide (0 ≤ IntKind.wrap .i64 (x.job - 1)) && decide (IntKind.wrap .i64 (x.job - 1) < (jn : Int)) then (bif decide (idxJ jo (IntKind.wrap .i64 (x.job - 1)) + 2 ≤ J.size) then (bif cellsOk J ck2 (idxJ jo (IntKind.wrap .i64 (x.job - 1))) then (bif x.kind == 0 then n17 J (idxJ jo (IntKind.wrap .i64 (x.job - 1))) x else bif x.kind == 6 then n17 J (idxJ jo (IntKind.wrap .i64 (x.job - 1))) x else bif !(x.kind == 7) then (bif decide (x.step < 0) then fB false else bif decide (x.step ≥ (stL J (idxJ jo (IntKind.wrap .i64 (x.job - 1))) : Int)) then fB false else n17 J (idxJ jo (IntKind.wrap .i64 (x.job - 1))) x) else n17 J (idxJ jo (IntKind.wrap .i64 (x.job - 1))) x) else none) else none) else none) := congrFun (congrFun (congrFun (congrFun t17_k J) jo) jn) x

def jobK (jo : Nat) (job : Int) : Nat := jo + (job - 1).toNat * 2
def toldB (J : Array Value) (jo jn : Nat) (x : Ev) : Bool :=
  if x.job < 1 ∨ x.job > jn ∨ x.epoch < 0 then false else
  if whole x.kind = false ∧ (x.step < 0 ∨ x.step ≥ (stL J (jobK jo x.job) : Int)) then false else
  if x.kind = 10 ∨ x.kind = 11 then x.node == -1 else
  decide (0 ≤ x.kind ∧ x.kind ≤ 7) && hasNode J (jobK jo x.job) x.node
theorem wrap_sub {a : Int} {n : Nat} (h1 : 1 ≤ a) (h2 : a ≤ n) (hn : n ≤ 9223372036854775807) : IntKind.wrap .i64 (a - 1) = a - 1 := by
  simp [IntKind.wrap, IntKind.bits, IntKind.signed]
  split <;> omega
theorem n17_eq {J : Array Value} {k : Nat} {x : Ev} (h : intsOk (ndX J k) (ndO J k) (ndL J k) = true) : n17 J k x = fB (if x.kind = 10 ∨ x.kind = 11 then x.node == -1 else decide (0 ≤ x.kind ∧ x.kind ≤ 7) && hasNode J k x.node) := by
  unfold n17
  rw [h]
  by_cases h1 : x.kind = 10
  · simp [h1]
  · by_cases h2 : x.kind = 11
    · simp [h2]
    · have b1 : (x.kind == 10) = false := by simpa using h1
      have b2 : (x.kind == 11) = false := by simpa using h2
      by_cases h3 : 0 ≤ x.kind
      · by_cases h4 : x.kind ≤ 7
        · simp [b1, b2, h1, h2, h3, h4]
        · simp [b1, b2, h1, h2, h3, h4]
      · simp [b1, b2, h1, h2, h3]
theorem e17 {J : Array Value} {jo jn : Nat} {x : Ev} (h : jobsOk J jo jn = true) : (callT cfg1 t1 60 (.func (.func 17) #[] #[]) #[VS J jo jn, x.val] cz st0).evalM seenOf = fB (toldB J jo jn x) := by
  have hn := jobsOk_n h
  rw [t17]
  unfold toldB
  by_cases h1 : x.job < 1
  · simp [h1]
  · by_cases h2 : x.job > jn
    · simp [h1, h2]
    · by_cases h3 : x.epoch < 0
      · simp [h1, h2, h3]
      · have hw := wrap_sub (a := x.job) (n := jn) (by omega) (by omega) hn
        have hk : (x.job - 1).toNat < jn := by omega
        obtain ⟨g1, g2, g3, _⟩ := jobsOk_get h hk
        have g4 : (0 : Int) ≤ x.job - 1 := by omega
        have g5 : x.job - 1 < jn := by omega
        rw [hw]
        have e0 : idxJ jo (x.job - 1) = jobK jo x.job := rfl
        rw [e0]
        have g2' : jobK jo x.job + 2 ≤ J.size := g2
        have g1' : cellsOk J ck2 (jobK jo x.job) = true := g1
        rw [n17_eq (J := J) (k := jobK jo x.job) (x := x) g3]
        simp only [h1, h2, h3, g4, g5, g1', g2', decide_false, decide_true, cond_false, cond_true, Bool.and_true, or_self, if_false]
        unfold whole
        by_cases w1 : x.kind = 0
        · simp [w1]
        · by_cases w2 : x.kind = 6
          · simp [w2]
          · by_cases w3 : x.kind = 7
            · simp [w3]
            · have b1 : (x.kind == 0) = false := by simpa using w1
              have b2 : (x.kind == 6) = false := by simpa using w2
              have b3 : (x.kind == 7) = false := by simpa using w3
              simp only [b1, b2, b3, cond_false, Bool.not_false, cond_true, Bool.or_self, true_and]
              by_cases s1 : x.step < 0
              · simp [s1]
              · by_cases s2 : x.step ≥ (stL J (jobK jo x.job) : Int)
                · simp [s1, s2]
                · simp only [s1, s2, decide_false, cond_false, or_self, if_false]
def F17 : Array Value → DT (Option (Value × St))
  | ⟨[.func (.method nm) J ⟨[.slice none jo jn]⟩, .agg ⟨[.int .i64 x0, .int .i64 x1, .int .i64 x2, .int .i64 x3, .int .i64 x4, .int .i64 x5]⟩]⟩ =>
    .must (decide (nm = "") && jobsOk J jo jn) (.leaf (some (.bool (toldB J jo jn ⟨x0, x1, x2, x3, x4, x5⟩), st0))) (.leaf none)
  | _ => .leaf none
theorem i17_fn : cfg1.fns 17 = some { body := bodyOf 17, nt := ntOf 17, results := [.tmp 4], pure := false } := by kernel_rfl
theorem tells17 [Z : Zone] : Tells cfg1 17 fun a => (F17 a).eval := by
  refine tells_call good1 rfl i17_fn fun args y hx => ?_
  unfold F17 at hx
  split at hx
  · rename_i nm J jo jn x0 x1 x2 x3 x4 x5
    rw [DT.eval_must] at hx
    cases h : (decide (nm = "") && jobsOk J jo jn) with
    | false => rw [h] at hx; cases hx
    | true =>
      rw [h, cond_true, DT.eval_leaf] at hx
      cases hx
      simp only [Bool.and_eq_true, decide_eq_true_eq] at h
      obtain ⟨rfl, h⟩ := h
      exact ⟨by simp [freeN], tree_call t1_ok (e17 (x := ⟨x0, x1, x2, x3, x4, x5⟩) h)⟩
  · cases hx
end
end Go.Proofs.Ytbhemcpmklkepaa
