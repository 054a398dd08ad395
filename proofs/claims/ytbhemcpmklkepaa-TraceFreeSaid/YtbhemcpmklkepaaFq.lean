/- When a job has ended on all its nodes, none of its steps has a core: the law's walk. -/
import Derived.Test.YtbhemcpmklkepaaFr
namespace Go.Proofs.Ytbhemcpmklkepaa
open Go.Am
noncomputable section
theorem one6 {v w : Value} (h : v = w) : ∀ q ∈ [((4 : Tmp), v)], (frS 6 [(4, w)]).tm.get q.1 = some q.2 := fun q hq => by
  simp only [List.mem_singleton] at hq; subst hq; rw [h]; exact frS_one _ _ _
theorem m6_eq {J : Array Value} {jo jn : Nat} {X : Array Value} {o n : Nat} (hj : jobsOk J jo jn = true) (hs : smallB J jo jn = true) (hx : evsOk X o n = true) (hn : n ≤ 60) :
    (codeT cfgF (callT cfgF tF 60) 60 cz (seqOf [cL (cN 3 b6), cL (cN 4 b6)]) (fr6 J jo jn X o n) st0).evalM (gcObs 0 0 (keepR [0, 1] [4])) = bif (chk J jo jn X o n).2 != 0 then V6 true else bif !endB J jo jn X o n 1 0 then V6 true else some (.normal, fr6 J jo jn X o n, st0) := by
  rw [m6]
  have h1 : n ≤ nLim := by unfold nLim; omega
  cases n with
  | zero =>
    have hE : EvSame #[] 0 X o 0 := fun k hk => by omega
    have ok0 : evsOk #[] 0 0 = true := rfl
    unfold c14g
    rw [hE.chk, hE.end_, hj, hs, ok0, hx]
    simp
  | succ m =>
    have hE : EvSame (rowE X o (m + 1)) 0 X o (m + 1) := fun k hk => (rowE_ev hk).1
    have ok0 := rowE_ok hx
    have e1 : ¬ (m + 1 = 0) := by omega
    have e2 : (rowE X o (m + 1)).size ≠ 0 := by rw [rowE_size]; omega
    have e3 := (rowE_plain X o (m + 1)).2.2
    unfold c14g
    rw [hE.chk, hE.end_, hj, hs, ok0, hx, e3]
    simp only [h1, e1, e2, decide_true, decide_false, Bool.and_true, cond_true, cond_false, Nat.le_refl, ne_eq, not_false_eq_true]
theorem r6b_eq {J : Array Value} {jo : Nat} {X : Array Value} {o n : Nat} (hj : jobsOk J jo 1 = true) (hx : evsOk X o n = true) (hn : n ≤ 60) (i : Nat) (hi : i < ndL J jo) (h0 : ownI J jo 1 X o n (toI (ndX J jo)[ndO J jo + i]?) = 0) :
    (codeT cfgF (callT cfgF tF 60) 60 cz k6b (fr6b J jo 1 X o n i) st0).evalM (gcObs 0 0 (keepR [0, 1, 8] [4])) = some (.normal, fr6b J jo 1 X o n ((i + 1 : Nat) : Int), st0) := by
  obtain ⟨g1, g2, g3, _⟩ := jobsOk_get hj (i := 0) (by omega)
  have g1' : (isV J[jo + 0 * 2]? && (isV J[jo + 0 * 2 + 1]? && true)) = true := g1
  simp only [Bool.and_eq_true] at g1'
  have hv : isV J[jo + Int.toNat 0 * 2]? = true := g1'.1
  have g3' : intsOk (ndX J jo) (ndO J jo) (ndL J jo) = true := g3
  have g4 := intsOk_get g3' hi
  have hnn := intsOk_n g3'
  have hw := wrap_nat (i := i) (by omega)
  have hi0 : (0 : Int) ≤ i := by omega
  have h1 : n ≤ nLim := by unfold nLim; omega
  have hj1 : (0 : Int) < ((1 : Nat) : Int) := by omega
  have ej : jo + Int.toNat 0 * 2 = jo := rfl
  rw [r6b]
  unfold ix6 w6
  rw [hv, ej]
  cases n with
  | zero =>
    have hE : EvSame #[] 0 X o 0 := fun k hk => by omega
    have ok0 : evsOk #[] 0 0 = true := rfl
    have ho : ownI J jo 1 #[] 0 0 (toI (ndX J jo)[ndO J jo + i]?) = 0 := (hE.acc _ 0 (Nat.le_refl _)).trans h0
    rw [hj, ok0, hx]
    simp only [h1, hj1, hi, hi0, Int.ofNat_lt, Int.toNat_natCast, Nat.mul_one, g4, ho, hw, decide_true, Bool.and_true, cond_true, bne_self_eq_false, cond_false]
  | succ m =>
    have hE : EvSame (rowE X o (m + 1)) 0 X o (m + 1) := fun k hk => (rowE_ev hk).1
    have ok0 := rowE_ok hx
    have e1 : ¬ (m + 1 = 0) := by omega
    have e2 : (rowE X o (m + 1)).size ≠ 0 := by rw [rowE_size]; omega
    have e3 := (rowE_plain X o (m + 1)).2.2
    have ho : ownI J jo 1 (rowE X o (m + 1)) 0 (m + 1) (toI (ndX J jo)[ndO J jo + i]?) = 0 := (hE.acc _ (m + 1) (Nat.le_refl _)).trans h0
    rw [hj, ok0, hx, e3]
    simp only [h1, hj1, hi, hi0, e1, e2, Int.ofNat_lt, Int.toNat_natCast, Nat.mul_one, g4, ho, hw, decide_true, decide_false, Bool.and_true, cond_true, bne_self_eq_false, cond_false, Nat.le_refl, ne_eq, not_false_eq_true]
theorem ok6b [Z : Zone] {b : Nat} {J : Array Value} {jo : Nat} {X : Array Value} {o n : Nat} (hj : jobsOk J jo 1 = true) (hx : evsOk X o n = true) (hn : n ≤ 60) (h0 : ∀ i, i < ndL J jo → ownI J jo 1 X o n (toI (ndX J jo)[ndO J jo + i]?) = 0) :
    AWp cfgF ⟨0, b⟩ cz (.seq (.seq (cL (cL (cN 5 b6))) (.block 2 (.loop k6b))) (cN 6 b6)) (fr6 J jo 1 X o n) st0 (RetL [(4, .bool true)]) := by
  refine AWp.forStmt (n2 := 60) (lim2 := 60) (N := ndL J jo) (head := fun i => fr6b J jo 1 X o n i) (sh := fun _ => st0) (sel2 := keepR [0, 1, 8] [4]) (stop := fun i => if i < ndL J jo then none else some (.exit 2, fr6b J jo 1 X o n i, st0))
    goodF rfl (pl1 rfl) (of_treeM tF_ok (i6b J jo 1 X o n)) trivial (fun i hi _ => of_treeM tF_ok ?_) (fun i hi => ?_) ⟨ndL J jo, Nat.le_refl _, by simp⟩ (fun i r hi hno hr => ?_)
  · by_cases h : i < ndL J jo
    · simp only [h, if_true]
      exact r6b_eq hj hx hn i h (h0 i h)
    · have e : i = ndL J jo := by omega
      obtain ⟨g1, _, _, _⟩ := jobsOk_get hj (i := 0) (by omega)
      have g1' : (isV J[jo + 0 * 2]? && (isV J[jo + 0 * 2 + 1]? && true)) = true := g1
      simp only [Bool.and_eq_true] at g1'
      have hv : isV J[jo + Int.toNat 0 * 2]? = true := g1'.1
      have hj1 : (0 : Int) < ((1 : Nat) : Int) := by omega
      have ej : jo + Int.toNat 0 * 2 = jo := rfl
      simp only [h, if_false]
      refine (r6b J jo 1 X o n i).trans ?_
      rw [hv, ej, e]
      simp only [hj1, decide_true, cond_true, Int.lt_irrefl, decide_false, cond_false]
  · split
    · rename_i r hr
      split at hr
      · cases hr
      · cases hr; trivial
    · trivial
  · split at hr
    · cases hr
    · cases hr
      exact ⟨rfl, fun Z' => AWp.done goodF (pl1 rfl) (.inr rfl) (of_treeM tF_ok (e6 J jo 1 X o n i)) trivial (one6 rfl)⟩
theorem ok6m [Z : Zone] {b : Nat} {J : Array Value} {jo : Nat} {X : Array Value} {o n : Nat} (hj : jobsOk J jo 1 = true) (hs : smallB J jo 1 = true) (hx : evsOk X o n = true) (hn : n ≤ 60) (hep : ∀ i, i < n → (evAt X (o + i * 6)).epoch = 0) :
    AWp cfgF ⟨0, b⟩ cz (nest [cL (cN 3 b6), cL (cN 4 b6)] (.seq (.seq (cL (cL (cN 5 b6))) (.block 2 (.loop k6b))) (cN 6 b6))) (fr6 J jo 1 X o n) st0 (RetL [(4, .bool true)]) := by
  have hm := m6_eq hj hs hx hn
  by_cases hc : (chk J jo 1 X o n).2 = 0
  · have hb : ((chk J jo 1 X o n).2 != 0) = false := by simpa using hc
    rw [hb] at hm
    obtain ⟨_, hno⟩ := chk_zero hc
    cases he : endB J jo 1 X o n 1 0 with
    | false => rw [he] at hm; exact AWp.nestEarly goodF (pl1 rfl) (of_treeM tF_ok (hm.trans (show _ = V6 true from rfl))) trivial (one6 rfl)
    | true =>
      rw [he] at hm
      refine AWp.nestRet goodF rfl (pl1 rfl) (of_treeM tF_ok (hm.trans (show _ = some (Ex.normal, fr6 J jo 1 X o n, st0) from rfl))) trivial (ok6b hj hx hn fun i hi => ?_)
      refine acc_zero (free_cnd hno hep ?_) n (Nat.le_refl _)
      unfold endB at he
      have e1 : ¬ ((1 : Int) < 1 ∨ (1 : Int) > ((1 : Nat) : Int)) := by omega
      rw [if_neg e1] at he
      have ek : jobK jo 1 = jo := rfl
      rw [ek] at he
      have hnone : findN (opn (ndX J jo) (ndO J jo) X o n 1 0) (ndL J jo) = none := by
        cases hf : findN (opn (ndX J jo) (ndO J jo) X o n 1 0) (ndL J jo) with
        | none => rfl
        | some _ => rw [hf] at he; cases he
      have hp := findN_no hnone i hi
      unfold opn evE at hp
      simp only [Bool.and_eq_false_iff, Bool.not_eq_false'] at hp
      exact hp
  · have hb : ((chk J jo 1 X o n).2 != 0) = true := by simpa using hc
    rw [hb] at hm
    exact AWp.nestEarly goodF (pl1 rfl) (of_treeM tF_ok (hm.trans (show _ = V6 true from rfl))) trivial (one6 rfl)
theorem ok6 [Z : Zone] {b : Nat} {J : Array Value} {jo jn : Nat} {X : Array Value} {o n : Nat} (hj : jobsOk J jo jn = true) (hx : evsOk X o n = true) :
    AWp cfgF ⟨0, b⟩ cz b6 (frame0 6 (ntOf 6) #[VS J jo jn, VS X o n]) st0 (RetL [(4, .bool true)]) := by
  have hp := p6 J jo jn X o n
  rw [hj] at hp
  simp only [cond_true] at hp
  rw [b6_eq]
  have early : (codeT cfgF (callT cfgF tF 60) 60 cz (seqOf [cL b6, cL (cN 1 b6)]) (frame0 6 (ntOf 6) #[VS J jo jn, VS X o n]) st0).evalM (gcObs 0 0 (keepR [0, 1] [4])) = V6 true → AWp cfgF ⟨0, b⟩ cz (nest [cL b6, cL (cN 1 b6)] (.seq (.seq (cL (cL (cN 2 b6))) (.block 0 (.loop k6a))) (nest [cL (cN 3 b6), cL (cN 4 b6)] (.seq (.seq (cL (cL (cN 5 b6))) (.block 2 (.loop k6b))) (cN 6 b6))))) (frame0 6 (ntOf 6) #[VS J jo jn, VS X o n]) st0 (RetL [(4, .bool true)]) := fun h =>
    AWp.nestEarly goodF (pl1 rfl) (of_treeM tF_ok h) trivial (one6 rfl)
  cases hs : smallB J jo jn with
  | false => rw [hs] at hp; exact early hp
  | true =>
    rw [hs] at hp
    simp only [cond_true] at hp
    by_cases hn : n ≤ 60
    · have hn' : (n : Int) ≤ 60 := by omega
      by_cases h1 : jn = 1
      · subst h1
        have hne : (((1 : Nat) : Int) != 1) = false := rfl
        rw [hne] at hp
        simp only [hn', decide_true, Bool.not_true, cond_false] at hp
        refine AWp.nestRet goodF rfl (pl1 rfl) (of_treeM tF_ok hp) trivial ?_
        have hnn := evsOk_n hx
        refine AWp.forStmt (N := n) (head := fun i => fr6a J jo 1 X o n i) (sh := fun _ => st0) (stop := fun i => if i < n then (if (evAt X (o + i * 6)).epoch = 0 then none else V6 true) else some (.exit 0, fr6 J jo 1 X o n, st0))
          goodF rfl (pl1 rfl) (of_treeM tF_ok (i6a J jo 1 X o n)) trivial (fun i hi _ => of_treeM tF_ok ((r6a J jo 1 X o n i).trans ?_)) (fun i hi => ?_) ⟨n, Nat.le_refl _, by simp⟩ (fun i r hi hno hr => ?_)
        · by_cases h : i < n
          · obtain ⟨g1, g2⟩ := evsOk_get hx h
            simp only [ev6, cellsOk, Bool.and_eq_true] at g1
            have g3 : isI .i64 X[o + i * 6 + 3]? = true := g1.2.2.2.1
            have hi0 : (0 : Int) ≤ i := by omega
            have hw := wrap_nat (i := i) (by omega)
            have hE : (evAt X (o + i * 6)).epoch = toI X[o + i * 6 + 3]? := rfl
            simp only [h, if_true, Int.ofNat_lt, hi0, Int.toNat_natCast, g3, hw, decide_true, Bool.and_true, cond_true, hE]
            by_cases h0 : toI X[o + i * 6 + 3]? = 0
            · have hb : (toI X[o + i * 6 + 3]? != 0) = false := by simpa using h0
              rw [hb, if_pos h0]; rfl
            · have hb : (toI X[o + i * 6 + 3]? != 0) = true := by simpa using h0
              rw [hb, if_neg h0]; rfl
          · simp only [h, if_false, Int.ofNat_lt, decide_false, cond_false]
        · split
          · rename_i r hr
            split at hr
            · split at hr
              · cases hr
              · cases hr; trivial
            · cases hr; trivial
          · trivial
        · split at hr
          · split at hr
            · cases hr
            · cases hr; exact one6 rfl
          · cases hr
            have hin : i = n := by omega
            subst hin
            refine ⟨rfl, fun Z' => ok6m hj hs hx hn fun j hj' => ?_⟩
            have := hno j hj'
            simp only [hj', if_true] at this
            split at this
            · rename_i h0; exact h0
            · cases this
      · have hne : ((jn : Int) != 1) = true := by
          have : (jn : Int) ≠ 1 := by omega
          simpa using this
        rw [hne] at hp
        exact early (hp.trans (by simp only [hn', decide_true, Bool.not_true, cond_false, cond_true]))
    · have hn' : ¬ ((n : Int) ≤ 60) := by omega
      exact early (hp.trans (by simp only [hn', decide_false, Bool.not_false, cond_true]))
end
end Go.Proofs.Ytbhemcpmklkepaa
