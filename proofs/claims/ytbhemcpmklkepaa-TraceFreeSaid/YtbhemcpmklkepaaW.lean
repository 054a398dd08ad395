/- If events may be, so may the first ones of them: the law. -/
import Derived.Test.YtbhemcpmklkepaaV
namespace Go.Proofs.Ytbhemcpmklkepaa
open Go.Am
noncomputable section
def TB : FuncId → Option (Array Value → DT (Option (Value × St)))
  | 8 => some F8
  | 10 => some F10
  | 15 => some F15
  | _ => none
def cfgB : Cfg := cfg.told TB
def tB : FuncId → Option HandT := treeT TB noT
theorem goodB [Z : Zone] (B : Base) : Go.Am.Good cfgB B := tells_good good (fun f F h => by
  unfold TB at h
  split at h
  · cases h; exact ⟨⟨_, i8_fn⟩, tells8⟩
  · cases h; exact ⟨⟨_, i10_fn⟩, Tells.cfg (g := cfg3) (g' := cfg) rfl rfl tells10⟩
  · cases h; exact ⟨⟨_, i15_fn⟩, Tells.cfg (g := cfg3) (g' := cfg) rfl rfl tells15⟩
  · cases h) B
theorem tB_ok : ∀ f k hd, tB f = some k → cfgB.hand f = some hd → ∀ a c s, (k a c s).eval = hd a c s := treeT_ok noT_ok
def TP : FuncId → Option (Array Value → DT (Option (Value × St)))
  | 14 => some F14
  | _ => none
def cfgP : Cfg := cfgB.frz TP
def tP : FuncId → Option HandT := treeF TP tB
theorem goodP [Z : Zone] (B : Base) : Go.Am.Good cfgP B := frz_good (fun Z' => @goodB Z') rfl (fun f F h => by
  unfold TP at h
  split at h
  · cases h; exact ⟨⟨_, i14_fn⟩, fun Z' => @Tells.cfg Z' cfg7 cfgB rfl rfl _ _ (@tells14 Z')⟩
  · cases h) B
theorem tP_ok : ∀ f k hd, tP f = some k → cfgP.hand f = some hd → ∀ a c s, (k a c s).eval = hd a c s := treeF_ok tB_ok
def c14 (J : Array Value) (jo jn : Nat) (E : Array Value) (m : Nat) (A : Option (Value × St)) : Option (Value × St) := bif (jobsOk J jo jn && smallB J jo jn) && evsOk E 0 m then A else none
def fin4 (n : Nat) (at' : Int) (c c2 : Int × Int) : Option (Value × St) := bif decide (c.1 < 0) then fB false else bif decide (c.1 > (n : Int)) then fB false else bif decide (c.1 ≥ at') then (bif c2.1 == at' then (bif c2.2 == 0 then fB true else fB false) else fB false) else (bif c2.1 == c.1 then (bif c2.2 == c.2 then fB true else fB false) else fB false)
theorem t4e_k : (fun (J : Array Value) (jo jn : Nat) (X : Array Value) (o n : Nat) (at' : Int) => (callT cfgP tP 60 (.func (.func 4) #[] #[]) #[VS J jo jn, VS X o n, .int .i64 at'] cz st0).evalM seenOf) = fun (J : Array Value) (jo jn : Nat) (X : Array Value) (o n : Nat) (at' : Int) => (bif jobsOk J jo jn then (bif smallB J jo jn then (bif !decide ((n : Int) ≤ 60) then fB true else bif decide (at' < 0) then fB true else bif decide (at' > (n : Int)) then fB true else ownT X o n (fun E m => c14 J jo jn E m (bif decide (0 ≤ at') then (bif decide (Int.toNat at' ≤ n) then ownT X (o + 0 * 6) (Int.toNat at' - 0) (fun E2 m2 => c14 J jo jn E2 m2 (fin4 n at' (chk J jo jn E 0 m) (chk J jo jn E2 0 m2))) else none) else none))) else fB true) else none) := by kernel_rfl
theorem t4e (J : Array Value) (jo jn : Nat) (X : Array Value) (o n : Nat) (at' : Int) : (callT cfgP tP 60 (.func (.func 4) #[] #[]) #[VS J jo jn, VS X o n, .int .i64 at'] cz st0).evalM seenOf = (bif jobsOk J jo jn then (bif smallB J jo jn then (bif !decide ((n : Int) ≤ 60) then fB true else bif decide (at' < 0) then fB true else bif decide (at' > (n : Int)) then fB true else ownT X o n (fun E m => c14 J jo jn E m (bif decide (0 ≤ at') then (bif decide (Int.toNat at' ≤ n) then ownT X (o + 0 * 6) (Int.toNat at' - 0) (fun E2 m2 => c14 J jo jn E2 m2 (fin4 n at' (chk J jo jn E 0 m) (chk J jo jn E2 0 m2))) else none) else none))) else fB true) else none) := congrFun (congrFun (congrFun (congrFun (congrFun (congrFun (congrFun t4e_k J) jo) jn) X) o) n) at'

theorem EvSame.take {Y X : Array Value} {o2 o1 n : Nat} (h : EvSame Y o2 X o1 n) {k : Nat} (hk : k ≤ n) : EvSame Y o2 X o1 k := fun i hi => h i (by omega)
section
variable {Y X : Array Value} {o2 o1 n : Nat}
theorem EvSame.hasF (h : EvSame Y o2 X o1 n) : Go.Proofs.Ytbhemcpmklkepaa.hasE Y o2 n = Go.Proofs.Ytbhemcpmklkepaa.hasE X o1 n := by
  funext k x; exact h.hasE k x
theorem EvSame.fstF (h : EvSame Y o2 X o1 n) : fstE Y o2 n = fstE X o1 n := by
  funext k x
  have e : firstN Y o2 n k x = firstN X o1 n k x := by
    unfold firstN
    exact findN_congr fun i hi => by unfold evP; rw [h i hi]
  unfold fstE
  rw [e]
  cases hf : firstN X o1 n k x with
  | none => rfl
  | some i =>
    simp only
    unfold firstN at hf
    exact h i (findN_get hf).1
theorem EvSame.alv (h : EvSame Y o2 X o1 n) (x : Ev) : alvB Y o2 n x = alvB X o1 n x := by
  unfold alvB
  rw [findN_congr (p := alvP Y o2 n Y o2 n x) (q := alvP X o1 n X o1 n x) fun i hi => by unfold alvP; rw [h i hi, h.hasF]]
theorem EvSame.nd (h : EvSame Y o2 X o1 n) (K : Array Value) (ko kn : Nat) (x : Ev) : ∀ f k, ndB Y o2 n K ko kn x f k = ndB X o1 n K ko kn x f k := by
  intro f
  induction f with
  | zero => intro k; rfl
  | succ f ih => intro k; unfold ndB; rw [h.hasF, ih]
theorem EvSame.going (h : EvSame Y o2 X o1 n) (K : Array Value) (ko kn : Nat) (S : Array Value) (so : Nat) (x : Ev) : goingB Y o2 n K ko kn S so x = goingB X o1 n K ko kn S so x := by
  unfold goingB goingE
  rw [h.hasF, h.nd, findN_congr (p := fun i => !hldB Y o2 n x (vX S[sI35 so x]?) (vO S[sI35 so x]?) i) (q := fun i => !hldB X o1 n x (vX S[sI35 so x]?) (vO S[sI35 so x]?) i) fun i hi => by unfold hldB; rw [h.hasF, h.fstF]]
theorem EvSame.codE (h : EvSame Y o2 X o1 n) (K : Array Value) (ko : Nat) (x : Ev) : ∀ i, Go.Proofs.Ytbhemcpmklkepaa.codE Y o2 n K ko x i = Go.Proofs.Ytbhemcpmklkepaa.codE X o1 n K ko x i := by
  intro i
  induction i with
  | zero => rfl
  | succ i ih => unfold Go.Proofs.Ytbhemcpmklkepaa.codE; rw [ih, h.fstF]
theorem EvSame.coded (h : EvSame Y o2 X o1 n) (K : Array Value) (ko kn : Nat) (x : Ev) : codedB Y o2 n K ko kn x = codedB X o1 n K ko kn x := by
  unfold codedB cod5 goesB
  rw [h.hasF, h.codE]
theorem EvSame.may (h : EvSame Y o2 X o1 n) (K : Array Value) (ko kn : Nat) (S : Array Value) (so : Nat) (x : Ev) : mayB Y o2 n K ko kn S so x = mayB X o1 n K ko kn S so x := by
  unfold mayB
  rw [h.hasF, h.fstF, h.alv, h.going, h.coded]
theorem EvSame.bad {J : Array Value} {jo jn : Nat} (h : EvSame Y o2 X o1 n) {i : Nat} (hi : i < n) : badC J jo jn Y o2 i = badC J jo jn X o1 i := by
  unfold badC mayC mayJ
  rw [h i hi, (h.take (k := i) (by omega)).may]
theorem EvSame.chk {J : Array Value} {jo jn : Nat} (h : EvSame Y o2 X o1 n) : Go.Proofs.Ytbhemcpmklkepaa.chk J jo jn Y o2 n = Go.Proofs.Ytbhemcpmklkepaa.chk J jo jn X o1 n := by
  unfold Go.Proofs.Ytbhemcpmklkepaa.chk
  rw [findN_congr (p := badC J jo jn Y o2) (q := badC J jo jn X o1) fun i hi => h.bad hi]
  cases hf : findN (badC J jo jn X o1) n with
  | none => rfl
  | some i => simp only; rw [h i (findN_get hf).1]
end
theorem chk_take {J : Array Value} {jo jn : Nat} {X : Array Value} {o n k : Nat} (hk : k ≤ n) : fin4 n (k : Int) (chk J jo jn X o n) (chk J jo jn X o k) = fB true := by
  have key : ∀ c : Int × Int, 0 ≤ c.1 → c.1 ≤ n → ∀ c2 : Int × Int, (c.1 ≥ k → c2 = ((k : Int), 0)) → (¬ c.1 ≥ k → c2 = c) → fin4 n (k : Int) c c2 = fB true := fun c h1 h2 c2 h3 h4 => by
    unfold fin4
    have a1 : ¬ (c.1 < 0) := by omega
    have a2 : ¬ (c.1 > (n : Int)) := by omega
    simp only [a1, a2, decide_false, cond_false]
    by_cases h : c.1 ≥ k
    · rw [h3 h]
      simp only [h, decide_true, cond_true, beq_self_eq_true]
    · rw [h4 h]
      simp only [h, decide_false, cond_false, beq_self_eq_true, cond_true]
  unfold chk
  cases hf : findN (badC J jo jn X o) n with
  | none =>
    have hno := findN_no hf
    rw [findN_none (n := k) fun j hj => hno j (by omega)]
    refine key _ ?_ ?_ _ (fun _ => rfl) (fun h => ?_)
    · show (0 : Int) ≤ n; omega
    · show (n : Int) ≤ n; omega
    · exact absurd (show (n : Int) ≥ k by omega) h
  | some i =>
    obtain ⟨g1, g2, g3⟩ := findN_get hf
    by_cases h : i < k
    · rw [findN_some h g2 g3]
      refine key _ ?_ ?_ _ (fun h' => ?_) (fun _ => rfl)
      · show (0 : Int) ≤ i; omega
      · show (i : Int) ≤ n; omega
      · have h'' : (i : Int) ≥ k := h'
        omega
    · rw [findN_none (n := k) fun j hj => g3 j (by omega)]
      refine key _ ?_ ?_ _ (fun _ => rfl) (fun h' => ?_)
      · show (0 : Int) ≤ i; omega
      · show (i : Int) ≤ n; omega
      · exact absurd (show (i : Int) ≥ k by omega) h'
theorem law4 {J : Array Value} {jo jn : Nat} {X : Array Value} {o n : Nat} {at' : Int} (hj : jobsOk J jo jn = true) (hx : evsOk X o n = true) : (callT cfgP tP 60 (.func (.func 4) #[] #[]) #[VS J jo jn, VS X o n, .int .i64 at'] cz st0).evalM seenOf = fB true := by
  rw [t4e, hj]
  simp only [cond_true]
  cases hs : smallB J jo jn with
  | false => rfl
  | true =>
    by_cases hn : n ≤ 60
    · have hn' : (n : Int) ≤ 60 := by omega
      by_cases a1 : at' < 0
      · simp only [hn', a1, decide_true, Bool.not_true, cond_false, cond_true]
      · by_cases a2 : at' > (n : Int)
        · simp only [hn', a1, a2, decide_true, decide_false, Bool.not_true, cond_false, cond_true]
        · have a3 : 0 ≤ at' := by omega
          obtain ⟨k, rfl⟩ : ∃ k : Nat, at' = (k : Int) := ⟨at'.toNat, by omega⟩
          have a4 : k ≤ n := by omega
          simp only [Int.toNat_natCast, hn', a1, a2, a3, a4, decide_true, decide_false, Bool.not_true, cond_false, cond_true, Nat.zero_mul, Nat.add_zero, Nat.sub_zero]
          refine own_ok hx hn fun E hE hok => ?_
          have hc : ∀ (A : Option (Value × St)), c14 J jo jn E n A = A := fun A => by unfold c14; rw [hj, hs, hok]; rfl
          refine (hc _).trans ?_
          refine own_ok (evsOk_take hx a4) (by omega) fun E2 hE2 hok2 => ?_
          have hc2 : ∀ (A : Option (Value × St)), c14 J jo jn E2 k A = A := fun A => by unfold c14; rw [hj, hs, hok2]; rfl
          refine (hc2 _).trans ?_
          rw [hE.chk, hE2.chk]
          exact chk_take a4
    · have hn' : ¬ ((n : Int) ≤ 60) := by omega
      simp only [hn', decide_false, Bool.not_false, cond_true]
end
end Go.Proofs.Ytbhemcpmklkepaa
