/- May a step go? -/
import Derived.Test.YtbhemcpmklkepaaQ
namespace Go.Proofs.Ytbhemcpmklkepaa
open Go.Am
noncomputable section
def b35 : Code := bodyOf 35
def k35 : Code := cB (cB (cR (cL (cN 2 b35))))
theorem b35_eq : b35 = nest [cL b35, cL (cN 1 b35)] (.seq (.seq (cL (cL (cN 2 b35))) (.block 0 (.loop k35))) (cN 3 b35)) := by kernel_rfl
def hp35 (X : Array Value) (o n : Nat) (x : Ev) : St := stS [(0, .cells #[VS X o n] 1 false), (1, .cells ⟨x.cells⟩ 1 false)] 2
def fr35a (K : Array Value) (ko kn : Nat) (S : Array Value) (so sn : Nat) : Fr := frO 35 [(3, pt' 0), (5, pt' 1)] [(4, (4, 0))] [(4, ⟨[VS K ko kn, VS S so sn]⟩)]
def fr35 (K : Array Value) (ko kn : Nat) (S : Array Value) (so sn : Nat) (G : Array Value) (eo en : Nat) (i : Int) : Fr := frO 35 [(3, pt' 0), (5, pt' 1), (19, VS G eo en), (20, nI en), (21, .int .i64 i)] [(4, (4, 0))] [(4, ⟨[VS K ko kn, VS S so sn]⟩)]
def sel35 (L : List Tmp) : Ex → List Tmp × List Kept
  | .normal => (L, [.cells 0, .cells 1])
  | .exit _ => (L, [.cells 0, .cells 1])
  | _ => ([6], [])
def R5 (b : Bool) : Option (Ex × Fr × St) := some (.ret, frS 35 [(6, .bool b)], st0)
theorem p35_k : (fun (X : Array Value) (o n : Nat) (K : Array Value) (ko kn : Nat) (S : Array Value) (so sn : Nat) (x : Ev) => (codeT cfg1 (callT cfg1 t1 60) 60 cz (seqOf [cL b35, cL (cN 1 b35)]) (frame0 35 (ntOf 35) #[VS X o n, jobV K ko kn S so sn, x.val]) st0).evalM (gcObs 0 0 (sel35 [3, 4, 5]))) = fun (X : Array Value) (o n : Nat) (K : Array Value) (ko kn : Nat) (S : Array Value) (so sn : Nat) (x : Ev) => (bif evsOk X o n then (bif hasE X o n 10 x then R5 false else (bif evsOk X o n then (bif hasE X o n 11 x then R5 false else some (.normal, fr35a K ko kn S so sn, hp35 X o n x)) else none)) else none) := by kernel_rfl
theorem p35 (X : Array Value) (o n : Nat) (K : Array Value) (ko kn : Nat) (S : Array Value) (so sn : Nat) (x : Ev) : (codeT cfg1 (callT cfg1 t1 60) 60 cz (seqOf [cL b35, cL (cN 1 b35)]) (frame0 35 (ntOf 35) #[VS X o n, jobV K ko kn S so sn, x.val]) st0).evalM (gcObs 0 0 (sel35 [3, 4, 5])) = (bif evsOk X o n then (bif hasE X o n 10 x then R5 false else (bif evsOk X o n then (bif hasE X o n 11 x then R5 false else some (.normal, fr35a K ko kn S so sn, hp35 X o n x)) else none)) else none) := congrFun (congrFun (congrFun (congrFun (congrFun (congrFun (congrFun (congrFun (congrFun (congrFun p35_k X) o) n) K) ko) kn) S) so) sn) x
def sI35 (so : Nat) (x : Ev) : Nat := so + Int.toNat x.step * 5 + 4
theorem i35_k : (fun (X : Array Value) (o n : Nat) (K : Array Value) (ko kn : Nat) (S : Array Value) (so sn : Nat) (x : Ev) => (codeT cfg1 (callT cfg1 t1 60) 60 cz (cL (cL (cN 2 b35))) (fr35a K ko kn S so sn) (hp35 X o n x)).evalM (gcObs 0 0 (sel35 [3, 4, 5, 19, 20, 21]))) = fun (X : Array Value) (o n : Nat) (K : Array Value) (ko kn : Nat) (S : Array Value) (so sn : Nat) (x : Ev) => (bif decide (0 ≤ x.step) && decide (x.step < (sn : Int)) then (bif isV S[sI35 so x]? then some (.normal, fr35 K ko kn S so sn (vX S[sI35 so x]?) (vO S[sI35 so x]?) (vL S[sI35 so x]?) 0, hp35 X o n x) else none) else none) := by kernel_rfl
theorem i35 (X : Array Value) (o n : Nat) (K : Array Value) (ko kn : Nat) (S : Array Value) (so sn : Nat) (x : Ev) : (codeT cfg1 (callT cfg1 t1 60) 60 cz (cL (cL (cN 2 b35))) (fr35a K ko kn S so sn) (hp35 X o n x)).evalM (gcObs 0 0 (sel35 [3, 4, 5, 19, 20, 21])) = (bif decide (0 ≤ x.step) && decide (x.step < (sn : Int)) then (bif isV S[sI35 so x]? then some (.normal, fr35 K ko kn S so sn (vX S[sI35 so x]?) (vO S[sI35 so x]?) (vL S[sI35 so x]?) 0, hp35 X o n x) else none) else none) := congrFun (congrFun (congrFun (congrFun (congrFun (congrFun (congrFun (congrFun (congrFun (congrFun i35_k X) o) n) K) ko) kn) S) so) sn) x
def Ev.cs (x : Ev) (st : Int) : Ev := ⟨x.kind, -1, x.job, x.epoch, st, x.arg⟩
def hold35 {α : Type} (c ek : Int) (F N : α) : α := bif ek == 0 then (bif !(c == 0) then F else N) else bif ek == 1 then (bif !(c != -1) then F else N) else bif decide (c ≥ 1) then (bif !(decide (c ≤ 255)) then F else N) else F
def N35 (X : Array Value) (o n : Nat) (K : Array Value) (ko kn : Nat) (S : Array Value) (so sn : Nat) (x : Ev) (G : Array Value) (eo en : Nat) (i : Int) : Option (Ex × Fr × St) := some (.normal, fr35 K ko kn S so sn G eo en (IntKind.wrap .i64 (i + 1)), hp35 X o n x)
theorem r35_k : (fun (X : Array Value) (o n : Nat) (K : Array Value) (ko kn : Nat) (S : Array Value) (so sn : Nat) (x : Ev) (G : Array Value) (eo en : Nat) (i : Int) => (codeT cfg1 (callT cfg1 t1 60) 60 cz k35 (fr35 K ko kn S so sn G eo en i) (hp35 X o n x)).evalM (gcObs 0 0 (sel35 [3, 4, 5, 19, 20, 21]))) = fun (X : Array Value) (o n : Nat) (K : Array Value) (ko kn : Nat) (S : Array Value) (so sn : Nat) (x : Ev) (G : Array Value) (eo en : Nat) (i : Int) => (bif decide (i < (en : Int)) then (bif decide (0 ≤ i) && decide (i < (en : Int)) then (bif decide (eo + Int.toNat i * 2 + 2 ≤ G.size) then (bif cellsOk G ckE (eo + Int.toNat i * 2) then (bif evsOk X o n then (bif hasE X o n 11 (x.cs (toI G[eo + Int.toNat i * 2]?)) then hold35 (fstE X o n 11 (x.cs (toI G[eo + Int.toNat i * 2]?))).arg (toI G[eo + Int.toNat i * 2 + 1]?) (R5 false) (N35 X o n K ko kn S so sn x G eo en i) else hold35 (-1) (toI G[eo + Int.toNat i * 2 + 1]?) (R5 false) (N35 X o n K ko kn S so sn x G eo en i)) else none) else none) else none) else none) else some (.exit 0, fr35 K ko kn S so sn G eo en i, hp35 X o n x)) := by kernel_rfl
theorem r35 (X : Array Value) (o n : Nat) (K : Array Value) (ko kn : Nat) (S : Array Value) (so sn : Nat) (x : Ev) (G : Array Value) (eo en : Nat) (i : Int) : (codeT cfg1 (callT cfg1 t1 60) 60 cz k35 (fr35 K ko kn S so sn G eo en i) (hp35 X o n x)).evalM (gcObs 0 0 (sel35 [3, 4, 5, 19, 20, 21])) = (bif decide (i < (en : Int)) then (bif decide (0 ≤ i) && decide (i < (en : Int)) then (bif decide (eo + Int.toNat i * 2 + 2 ≤ G.size) then (bif cellsOk G ckE (eo + Int.toNat i * 2) then (bif evsOk X o n then (bif hasE X o n 11 (x.cs (toI G[eo + Int.toNat i * 2]?)) then hold35 (fstE X o n 11 (x.cs (toI G[eo + Int.toNat i * 2]?))).arg (toI G[eo + Int.toNat i * 2 + 1]?) (R5 false) (N35 X o n K ko kn S so sn x G eo en i) else hold35 (-1) (toI G[eo + Int.toNat i * 2 + 1]?) (R5 false) (N35 X o n K ko kn S so sn x G eo en i)) else none) else none) else none) else none) else some (.exit 0, fr35 K ko kn S so sn G eo en i, hp35 X o n x)) := congrFun (congrFun (congrFun (congrFun (congrFun (congrFun (congrFun (congrFun (congrFun (congrFun (congrFun (congrFun (congrFun (congrFun r35_k X) o) n) K) ko) kn) S) so) sn) x) G) eo) en) i
def nd35 (X : Array Value) (o n : Nat) (K : Array Value) (ko kn : Nat) (x : Ev) : Nat → Int → Option (Ex × Fr × St)
  | 0, _ => none
  | f + 1, k => bif decide (k < (kn : Int)) then (bif decide (0 ≤ k) && decide (k < (kn : Int)) then (bif isI .i64 K[ko + Int.toNat k * 1]? then (bif evsOk X o n then (bif hasE X o n 1 (x.at (toI K[ko + Int.toNat k * 1]?)) then nd35 X o n K ko kn x f (IntKind.wrap .i64 (k + 1)) else R5 (!decide (k ≥ 0))) else none) else none) else none) else R5 true
theorem e35_k : (fun (X : Array Value) (o n : Nat) (K : Array Value) (ko kn : Nat) (S : Array Value) (so sn : Nat) (x : Ev) (G : Array Value) (eo en : Nat) (i : Int) => (codeT cfg1 (callT cfg1 t1 26) 22 cz (cN 3 b35) (fr35 K ko kn S so sn G eo en i) (hp35 X o n x)).evalM (gcObs 0 0 (sel35 [6]))) = fun (X : Array Value) (o n : Nat) (K : Array Value) (ko kn : Nat) (S : Array Value) (so sn : Nat) (x : Ev) (G : Array Value) (eo en : Nat) (i : Int) => nd35 X o n K ko kn x 24 0 := by kernel_rfl
theorem e35 (X : Array Value) (o n : Nat) (K : Array Value) (ko kn : Nat) (S : Array Value) (so sn : Nat) (x : Ev) (G : Array Value) (eo en : Nat) (i : Int) : (codeT cfg1 (callT cfg1 t1 26) 22 cz (cN 3 b35) (fr35 K ko kn S so sn G eo en i) (hp35 X o n x)).evalM (gcObs 0 0 (sel35 [6])) = nd35 X o n K ko kn x 24 0 := congrFun (congrFun (congrFun (congrFun (congrFun (congrFun (congrFun (congrFun (congrFun (congrFun (congrFun (congrFun (congrFun (congrFun e35_k X) o) n) K) ko) kn) S) so) sn) x) G) eo) en) i

/-- Does an edge hold? -/
def hldB (X : Array Value) (o n : Nat) (x : Ev) (G : Array Value) (eo : Nat) (i : Nat) : Bool := bif hasE X o n 11 (x.cs (toI G[eo + i * 2]?)) then hold35 (fstE X o n 11 (x.cs (toI G[eo + i * 2]?))).arg (toI G[eo + i * 2 + 1]?) false true else hold35 (-1) (toI G[eo + i * 2 + 1]?) false true
theorem hold35_eq {α : Type} (c ek : Int) (F N : α) : hold35 c ek F N = bif hold35 c ek false true then N else F := by
  unfold hold35
  cases ek == 0 <;> cases ek == 1 <;> cases c == 0 <;> cases c != -1 <;> cases decide (c ≥ 1) <;> cases decide (c ≤ 255) <;> rfl
def ndB (X : Array Value) (o n : Nat) (K : Array Value) (ko kn : Nat) (x : Ev) : Nat → Nat → Bool
  | 0, _ => true
  | f + 1, k => bif decide (k < kn) then (bif hasE X o n 1 (x.at (toI K[ko + k]?)) then ndB X o n K ko kn x f (k + 1) else false) else true
theorem nd35_eq {X : Array Value} {o n : Nat} {K : Array Value} {ko kn : Nat} {x : Ev} (hx : evsOk X o n = true) (hk : intsOk K ko kn = true) : ∀ f k, k ≤ kn → kn < k + f → nd35 X o n K ko kn x f k = R5 (ndB X o n K ko kn x f k) := by
  have hn := intsOk_n hk
  intro f
  induction f with
  | zero => intro k h1 h2; omega
  | succ f ih =>
    intro k h0 h1
    unfold nd35 ndB
    by_cases h : k < kn
    · have g1 := intsOk_get hk h
      have hi0 : (0 : Int) ≤ k := by omega
      have hw := wrap_nat (i := k) (by omega)
      have hge : ((k : Int) ≥ 0) := hi0
      simp only [h, Int.ofNat_lt, hi0, hge, decide_true, Bool.and_true, cond_true, Int.toNat_natCast, Nat.mul_one, g1, hx, hw, Bool.not_true]
      rw [ih (k + 1) (by omega) (by omega)]
      cases hasE X o n 1 (x.at (toI K[ko + k]?)) <;> rfl
    · simp only [h, Int.ofNat_lt, decide_false, cond_false]
/-- May it go? -/
def goingE (X : Array Value) (o n : Nat) (K : Array Value) (ko kn : Nat) (x : Ev) (G : Array Value) (eo en : Nat) : Bool := match findN (fun i => !hldB X o n x G eo i) en with
  | some _ => false
  | none => ndB X o n K ko kn x 24 0
def goingB (X : Array Value) (o n : Nat) (K : Array Value) (ko kn : Nat) (S : Array Value) (so : Nat) (x : Ev) : Bool := bif hasE X o n 10 x then false else bif hasE X o n 11 x then false else goingE X o n K ko kn x (vX S[sI35 so x]?) (vO S[sI35 so x]?) (vL S[sI35 so x]?)
def stop35 (X : Array Value) (o n : Nat) (K : Array Value) (ko kn : Nat) (S : Array Value) (so sn : Nat) (x : Ev) (G : Array Value) (eo en : Nat) (i : Nat) : Option (Ex × Fr × St) :=
  if i < en then (if hldB X o n x G eo i then none else R5 false) else some (.exit 0, fr35 K ko kn S so sn G eo en i, hp35 X o n x)
theorem q35 {X : Array Value} {o n : Nat} {K : Array Value} {ko kn : Nat} {S : Array Value} {so sn : Nat} {x : Ev} {G : Array Value} {eo en : Nat} (hx : evsOk X o n = true) (hg : edgesOk G eo en = true) (i : Nat) (hi : i ≤ en) :
    (codeT cfg1 (callT cfg1 t1 60) 60 cz k35 (fr35 K ko kn S so sn G eo en i) (hp35 X o n x)).evalM (gcObs 0 0 (sel35 [3, 4, 5, 19, 20, 21])) = some (match stop35 X o n K ko kn S so sn x G eo en i with | some r => r | none => (.normal, fr35 K ko kn S so sn G eo en ((i + 1 : Nat) : Int), hp35 X o n x)) := by
  simp only [edgesOk, Bool.and_eq_true, List.all_eq_true, List.mem_range, decide_eq_true_eq] at hg
  obtain ⟨g1, g2, g3⟩ := hg
  rw [r35]
  unfold stop35
  by_cases h : i < en
  · have hi0 : (0 : Int) ≤ i := by omega
    have hw := wrap_nat (i := i) (by unfold maxI at g1; omega)
    have h2 : eo + i * 2 + 2 ≤ G.size := by omega
    simp only [h, if_true, Int.ofNat_lt, hi0, decide_true, Bool.and_true, cond_true, Int.toNat_natCast, g3 i h, h2, hx, N35, hw]
    rw [hold35_eq (fstE X o n 11 (x.cs (toI G[eo + i * 2]?))).arg, hold35_eq (-1)]
    unfold hldB
    cases hasE X o n 11 (x.cs (toI G[eo + i * 2]?)) with
    | true => simp only [cond_true]; cases hold35 (fstE X o n 11 (x.cs (toI G[eo + i * 2]?))).arg (toI G[eo + i * 2 + 1]?) false true <;> rfl
    | false => simp only [cond_false]; cases hold35 (-1) (toI G[eo + i * 2 + 1]?) false true <;> rfl
  · simp only [h, if_false, Int.ofNat_lt, decide_false, cond_false]
theorem one35 {v w : Value} (h : v = w) : ∀ q ∈ [((6 : Tmp), v)], (frS 35 [(6, w)]).tm.get q.1 = some q.2 := fun q hq => by
  simp only [List.mem_singleton] at hq; subst hq; rw [h]; exact frS_one _ _ _
theorem ok35 [Z : Zone] {b : Nat} {X : Array Value} {o n : Nat} {K : Array Value} {ko kn : Nat} {S : Array Value} {so sn : Nat} {x : Ev} (hx : evsOk X o n = true) (hk : intsOk K ko kn = true) (hl : kn ≤ 20) (hs : stepsOk S so sn = true) (hs1 : 0 ≤ x.step) (hs2 : x.step < (sn : Int)) :
    AWp cfg1 ⟨0, b⟩ cz b35 (frame0 35 (ntOf 35) #[VS X o n, jobV K ko kn S so sn, x.val]) st0 (RetL [(6, .bool (goingB X o n K ko kn S so x))]) := by
  have hp := p35 X o n K ko kn S so sn x
  have hi := i35 X o n K ko kn S so sn x
  obtain ⟨s1, s2, s3⟩ := stepsOk_get hs (i := x.step.toNat) (by omega)
  have hv : isV S[sI35 so x]? = true := by
    unfold ck5 at s1
    simp only [cellsOk, Bool.and_eq_true] at s1
    exact s1.2.2.2.2.1
  rw [hv] at hi
  simp only [hs1, hs2, decide_true, Bool.and_true, cond_true] at hi
  have s3' : edgesOk (vX S[sI35 so x]?) (vO S[sI35 so x]?) (vL S[sI35 so x]?) = true := s3
  rw [hx] at hp
  simp only [cond_true] at hp
  rw [b35_eq]
  unfold goingB
  cases h1 : hasE X o n 10 x with
  | true => rw [h1] at hp; exact AWp.nestEarly good1 (pl1 rfl) (of_treeM t1_ok hp) trivial (one35 rfl)
  | false =>
    rw [h1] at hp
    cases h2 : hasE X o n 11 x with
    | true => rw [h2] at hp; exact AWp.nestEarly good1 (pl1 rfl) (of_treeM t1_ok hp) trivial (one35 rfl)
    | false =>
      rw [h2] at hp
      simp only [cond_false] at hp ⊢
      generalize vX S[sI35 so x]? = G at *
      generalize vO S[sI35 so x]? = eo at *
      generalize vL S[sI35 so x]? = en at *
      refine AWp.nestRet good1 rfl (pl1 rfl) (of_treeM t1_ok hp) trivial ?_
      refine AWp.forStmt (N := en) (head := fun i => fr35 K ko kn S so sn G eo en i) (sh := fun _ => hp35 X o n x) (sel2 := sel35 [3, 4, 5, 19, 20, 21]) (stop := stop35 X o n K ko kn S so sn x G eo en)
        good1 rfl (pl1 rfl) (of_treeM t1_ok hi) trivial (fun i hi _ => of_treeM t1_ok (q35 hx s3' i hi)) (fun i hi => ?_) ⟨en, Nat.le_refl _, by unfold stop35; simp⟩ (fun i r hi hno hr => ?_)
      · unfold stop35
        split
        · rename_i r hr
          split at hr
          · split at hr
            · cases hr
            · cases hr; trivial
          · cases hr; trivial
        · trivial
      · have hno' : ∀ j, j < i → j < en → hldB X o n x G eo j = true := fun j hj hjn => by
          have := hno j hj
          unfold stop35 at this
          simp only [hjn, if_true] at this
          cases hq : hldB X o n x G eo j with
          | true => rfl
          | false => rw [hq] at this; simp [R5] at this
        unfold stop35 at hr
        split at hr
        · rename_i hlt
          split at hr
          · cases hr
          · rename_i hq
            cases hr
            have hc : goingE X o n K ko kn x G eo en = false := by
              unfold goingE
              rw [findN_some (p := fun i => !hldB X o n x G eo i) hlt (by simpa using hq) fun j hj => by simp [hno' j hj (by omega)]]
            rw [hc]
            exact one35 rfl
        · have hin : i = en := by omega
          cases hr
          have hc : goingE X o n K ko kn x G eo en = ndB X o n K ko kn x 24 0 := by
            unfold goingE
            rw [findN_none (p := fun i => !hldB X o n x G eo i) fun j hj => by simp [hno' j (by omega) hj]]
          rw [hc]
          have he := nd35_eq (x := x) hx hk 24 0 (by omega) (by omega)
          exact ⟨rfl, fun Z' => AWp.done good1 (pl1 rfl) (.inr rfl) (of_treeM t1_ok ((e35 X o n K ko kn S so sn x G eo en i).trans he)) trivial (one35 rfl)⟩
def F35 : Array Value → DT (Option (Value × St))
  | ⟨[.func (.method nm) X ⟨[.slice none o n]⟩, .agg ⟨[.func (.method nm1) K ⟨[.slice none ko kn]⟩, .func (.method nm2) S ⟨[.slice none so sn]⟩]⟩, .agg ⟨[.int .i64 x0, .int .i64 x1, .int .i64 x2, .int .i64 x3, .int .i64 x4, .int .i64 x5]⟩]⟩ =>
    .must ((decide (nm = "") && evsOk X o n) && ((decide (nm1 = "") && decide (nm2 = "")) && ((intsOk K ko kn && decide (kn ≤ 20)) && (stepsOk S so sn && (decide (0 ≤ x4) && decide (x4 < (sn : Int))))))) (.leaf (some (.bool (goingB X o n K ko kn S so ⟨x0, x1, x2, x3, x4, x5⟩), st0))) (.leaf none)
  | _ => .leaf none
theorem i35_fn : cfg1.fns 35 = some { body := b35, nt := ntOf 35, results := [.tmp 6], pure := false } := by kernel_rfl
theorem tells35 [Z : Zone] : Tells cfg1 35 fun a => (F35 a).eval := by
  refine tells_one good1 rfl i35_fn rfl fun args y hx => ?_
  unfold F35 at hx
  split at hx
  · rename_i nm X o n nm1 K ko kn nm2 S so sn x0 x1 x2 x3 x4 x5
    rw [DT.eval_must] at hx
    cases h : ((decide (nm = "") && evsOk X o n) && ((decide (nm1 = "") && decide (nm2 = "")) && ((intsOk K ko kn && decide (kn ≤ 20)) && (stepsOk S so sn && (decide (0 ≤ x4) && decide (x4 < (sn : Int))))))) with
    | false => rw [h] at hx; cases hx
    | true =>
      rw [h, cond_true, DT.eval_leaf] at hx
      cases hx
      simp only [Bool.and_eq_true, decide_eq_true_eq] at h
      obtain ⟨⟨rfl, h1⟩, ⟨rfl, rfl⟩, ⟨h2, h3⟩, h4, h5, h6⟩ := h
      exact ⟨by simp [freeN], by show 3 ≤ ntOf 35; decide, _, rfl, rfl, fun b => ok35 (x := ⟨x0, x1, x2, x3, x4, x5⟩) h1 h2 h3 h4 h5 h6⟩
  · cases hx
end
end Go.Proofs.Ytbhemcpmklkepaa
