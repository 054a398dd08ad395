/- No event may be twice: what is computed. -/
import Derived.Test.YtbhemcpmklkepaaX
namespace Go.Proofs.Ytbhemcpmklkepaa
open Go.Am
noncomputable section
theorem may_twice {X : Array Value} {o n : Nat} {K : Array Value} {ko kn : Nat} {S : Array Value} {so : Nat} {x : Ev} (h : hasE X o n x.kind x = true) (hk : kOk x.kind = true) : mayB X o n K ko kn S so x = false := by
  obtain ⟨k, a1, a2, a3, a4, a5⟩ := x
  unfold kOk at hk
  simp only [Bool.and_eq_true, Bool.or_eq_true, decide_eq_true_eq, beq_iff_eq] at hk
  have hk10 : k = 0 ∨ k = 7 ∨ k = 1 ∨ k = 2 ∨ k = 3 ∨ k = 4 ∨ k = 5 ∨ k = 6 ∨ k = 10 ∨ k = 11 := by omega
  rcases hk10 with rfl | rfl | rfl | rfl | rfl | rfl | rfl | rfl | rfl | rfl
  · have h : hasE X o n 0 (Ev.mk 0 a1 a2 a3 a4 a5) = true := h
    show (!hasE X o n 0 (Ev.mk 0 a1 a2 a3 a4 a5) && !hasE X o n 7 (Ev.mk 0 a1 a2 a3 a4 a5)) = false
    rw [h]; rfl
  · have h : hasE X o n 7 (Ev.mk 7 a1 a2 a3 a4 a5) = true := h
    show (!hasE X o n 0 (Ev.mk 7 a1 a2 a3 a4 a5) && !hasE X o n 7 (Ev.mk 7 a1 a2 a3 a4 a5)) = false
    rw [h]; simp
  · have h : hasE X o n 1 (Ev.mk 1 a1 a2 a3 a4 a5) = true := h
    show (hasE X o n 0 (Ev.mk 1 a1 a2 a3 a4 a5) && ((fstE X o n 0 (Ev.mk 1 a1 a2 a3 a4 a5)).arg == 0 && (!hasE X o n 6 (Ev.mk 1 a1 a2 a3 a4 a5) && (!hasE X o n 1 (Ev.mk 1 a1 a2 a3 a4 a5) && !hasE X o n 2 (Ev.mk 1 a1 a2 a3 a4 a5))))) = false
    rw [h]; simp
  · have h : hasE X o n 2 (Ev.mk 2 a1 a2 a3 a4 a5) = true := h
    show (hasE X o n 0 (Ev.mk 2 a1 a2 a3 a4 a5) && ((fstE X o n 0 (Ev.mk 2 a1 a2 a3 a4 a5)).arg == 0 && (!hasE X o n 6 (Ev.mk 2 a1 a2 a3 a4 a5) && (!hasE X o n 1 (Ev.mk 2 a1 a2 a3 a4 a5) && (!hasE X o n 2 (Ev.mk 2 a1 a2 a3 a4 a5) && !hasE X o n 10 ((Ev.mk 2 a1 a2 a3 a4 a5).at (-1))))))) = false
    rw [h]; simp
  · have h : hasE X o n 3 (Ev.mk 3 a1 a2 a3 a4 a5) = true := h
    show (hasE X o n 1 (Ev.mk 3 a1 a2 a3 a4 a5) && (!hasE X o n 3 (Ev.mk 3 a1 a2 a3 a4 a5) && (!hasE X o n 4 (Ev.mk 3 a1 a2 a3 a4 a5) && hasE X o n 10 ((Ev.mk 3 a1 a2 a3 a4 a5).at (-1))))) = false
    rw [h]; simp
  · have h : hasE X o n 4 (Ev.mk 4 a1 a2 a3 a4 a5) = true := h
    show (hasE X o n 1 (Ev.mk 4 a1 a2 a3 a4 a5) && (!hasE X o n 3 (Ev.mk 4 a1 a2 a3 a4 a5) && (!hasE X o n 4 (Ev.mk 4 a1 a2 a3 a4 a5) && !hasE X o n 10 ((Ev.mk 4 a1 a2 a3 a4 a5).at (-1))))) = false
    rw [h]; simp
  · have h : hasE X o n 5 (Ev.mk 5 a1 a2 a3 a4 a5) = true := h
    show (hasE X o n 3 (Ev.mk 5 a1 a2 a3 a4 a5) && !hasE X o n 5 (Ev.mk 5 a1 a2 a3 a4 a5)) = false
    rw [h]; simp
  · have h : hasE X o n 6 (Ev.mk 6 a1 a2 a3 a4 a5) = true := h
    show (hasE X o n 0 (Ev.mk 6 a1 a2 a3 a4 a5) && (!hasE X o n 6 (Ev.mk 6 a1 a2 a3 a4 a5) && !alvB X o n (Ev.mk 6 a1 a2 a3 a4 a5))) = false
    rw [h]; simp
  · have h : hasE X o n 10 (Ev.mk 10 a1 a2 a3 a4 a5) = true := h
    show goingB X o n K ko kn S so (Ev.mk 10 a1 a2 a3 a4 a5) = false
    unfold goingB
    rw [h]; rfl
  · have h : hasE X o n 11 (Ev.mk 11 a1 a2 a3 a4 a5) = true := h
    show codedB X o n K ko kn (Ev.mk 11 a1 a2 a3 a4 a5) = false
    unfold codedB
    rw [h]; rfl
theorem evM_self (x : Ev) : evM x.kind x x = true := by unfold evM; simp
theorem hasE_at {X : Array Value} {o n i : Nat} (hi : i < n) {x : Ev} (he : evAt X (o + i * 6) = x) : hasE X o n x.kind x = true := by
  unfold hasE firstN
  cases hf : findN (evP X o x.kind x) n with
  | some j => rfl
  | none =>
    have := findN_no hf i hi
    unfold evP at this
    rw [he, evM_self] at this
    cases this
/-! ### Rows as they stand -/
theorem extract_row {X : Array Value} {o : Nat} : ∀ n, evsOk X o n = true → X.extract o (o + n * 6) = rowE X o n := by
  intro n
  induction n with
  | zero => intro _; simp [rowE]; omega
  | succ n ih =>
    intro h
    have h1 := ih (evsOk_take h (by omega))
    obtain ⟨g1, g2⟩ := evsOk_get h (i := n) (by omega)
    have g3 := cellsV_eq X ev6 (o + n * 6) g1
    have g4 : X.extract (o + n * 6) (o + (n + 1) * 6) = ⟨(evAt X (o + n * 6)).cells⟩ := by
      rw [show o + (n + 1) * 6 = o + n * 6 + ev6.length by show _ = o + n * 6 + 6; omega]
      exact g3
    unfold rowE
    rw [← h1, ← g4, Array.extract_append_extract]
    congr 1 <;> omega
theorem row_one (X : Array Value) (o n : Nat) : (rowE X o n).toList.all Value.oneCell' = true := by
  induction n with
  | zero => simp [rowE]
  | succ n ih => simp only [rowE, Array.toList_append, List.all_append, ih, Bool.true_and]; rfl
theorem newE_eq {X : Array Value} {o n k : Nat} (h : evsOk X o n = true) : newE X o n (k : Int) = rowE X o n ++ ⟨(evAt X (o + k * 6)).cells⟩ := by
  unfold newE
  rw [extract_row n h]
  have : (rowE X o n).extract 0 (0 + n * 6) = rowE X o n := by
    rw [Nat.zero_add, ← rowE_size X o n]; exact Array.extract_size
  rw [this]
  rfl
section
variable {X : Array Value} {o n : Nat} {x : Ev}
theorem app_l {m : Nat} (hm : m < n * 6) : (rowE X o n ++ ⟨x.cells⟩ : Array Value)[m]? = (rowE X o n)[m]? := Array.getElem?_append_left (by rw [rowE_size]; exact hm)
theorem app_r {j : Nat} : (rowE X o n ++ ⟨x.cells⟩ : Array Value)[n * 6 + j]? = x.cells[j]? := by
  rw [Array.getElem?_append_right (by rw [rowE_size]; omega), rowE_size, show n * 6 + j - n * 6 = j by omega]
  simp only [List.getElem?_toArray]
theorem app_ev {k : Nat} (hk : k < n) : evAt (rowE X o n ++ ⟨x.cells⟩) (0 + k * 6) = evAt X (o + k * 6) ∧ cellsOk (rowE X o n ++ ⟨x.cells⟩) ev6 (0 + k * 6) = true := by
  obtain ⟨g1, g2⟩ := rowE_ev (X := X) (o := o) hk
  have l0 : (rowE X o n ++ ⟨x.cells⟩ : Array Value)[0 + k * 6]? = (rowE X o n)[0 + k * 6]? := app_l (by omega)
  have l1 : (rowE X o n ++ ⟨x.cells⟩ : Array Value)[0 + k * 6 + 1]? = (rowE X o n)[0 + k * 6 + 1]? := app_l (by omega)
  have l2 : (rowE X o n ++ ⟨x.cells⟩ : Array Value)[0 + k * 6 + 1 + 1]? = (rowE X o n)[0 + k * 6 + 1 + 1]? := app_l (by omega)
  have l3 : (rowE X o n ++ ⟨x.cells⟩ : Array Value)[0 + k * 6 + 1 + 1 + 1]? = (rowE X o n)[0 + k * 6 + 1 + 1 + 1]? := app_l (by omega)
  have l4 : (rowE X o n ++ ⟨x.cells⟩ : Array Value)[0 + k * 6 + 1 + 1 + 1 + 1]? = (rowE X o n)[0 + k * 6 + 1 + 1 + 1 + 1]? := app_l (by omega)
  have l5 : (rowE X o n ++ ⟨x.cells⟩ : Array Value)[0 + k * 6 + 1 + 1 + 1 + 1 + 1]? = (rowE X o n)[0 + k * 6 + 1 + 1 + 1 + 1 + 1]? := app_l (by omega)
  refine ⟨?_, ?_⟩
  · rw [← g1]
    unfold evAt
    rw [l0, l1, l2, l3, l4, l5]
  · rw [← g2]
    simp only [ev6, cellsOk, l0, l1, l2, l3, l4, l5]
theorem app_last : evAt (rowE X o n ++ ⟨x.cells⟩) (0 + n * 6) = x ∧ cellsOk (rowE X o n ++ ⟨x.cells⟩) ev6 (0 + n * 6) = true := by
  have g := fun j => app_r (X := X) (o := o) (n := n) (x := x) (j := j)
  have e0 : (rowE X o n ++ ⟨x.cells⟩ : Array Value)[0 + n * 6]? = some (.int .i64 x.kind) := by rw [Nat.zero_add]; exact g 0
  have e1 : (rowE X o n ++ ⟨x.cells⟩ : Array Value)[0 + n * 6 + 1]? = some (.int .i64 x.node) := by rw [Nat.zero_add]; exact g 1
  have e2 : (rowE X o n ++ ⟨x.cells⟩ : Array Value)[0 + n * 6 + 1 + 1]? = some (.int .i64 x.job) := by rw [Nat.zero_add]; exact g 2
  have e3 : (rowE X o n ++ ⟨x.cells⟩ : Array Value)[0 + n * 6 + 1 + 1 + 1]? = some (.int .i64 x.epoch) := by rw [Nat.zero_add]; exact g 3
  have e4 : (rowE X o n ++ ⟨x.cells⟩ : Array Value)[0 + n * 6 + 1 + 1 + 1 + 1]? = some (.int .i64 x.step) := by rw [Nat.zero_add]; exact g 4
  have e5 : (rowE X o n ++ ⟨x.cells⟩ : Array Value)[0 + n * 6 + 1 + 1 + 1 + 1 + 1]? = some (.int .i64 x.arg) := by rw [Nat.zero_add]; exact g 5
  refine ⟨?_, ?_⟩
  · unfold evAt
    rw [e0, e1, e2, e3, e4, e5]
    rfl
  · simp only [ev6, cellsOk, e0, e1, e2, e3, e4, e5]
    rfl
theorem app_ok (hn : n < maxI) : evsOk (rowE X o n ++ ⟨x.cells⟩) 0 (n + 1) = true := by
  simp only [evsOk, Bool.and_eq_true, List.all_eq_true, List.mem_range, decide_eq_true_eq, Array.size_append, rowE_size]
  refine ⟨by omega, ?_, fun i hi => ?_⟩
  · show 0 + (n + 1) * 6 ≤ n * 6 + 6; omega
  · by_cases h : i < n
    · exact (app_ev h).2
    · have : i = n := by omega
      subst this
      exact app_last.2
theorem app_free : (rowE X o n ++ ⟨x.cells⟩ : Array Value).all (freeN 9) = true := by
  simp only [Array.all_append, (rowE_plain X o n).2.2, Bool.true_and]
  simp [Ev.cells, freeN]
end

/-! ### The law -/
theorem own_ok3 {α : Type} {X : Array Value} {o n : Nat} {A : Bool → Array Value → Nat → Option α} {R : Option α} (hx : evsOk X o n = true) (hn : n ≤ 61) (h : ∀ ok E, EvSame E 0 X o n → evsOk E 0 n = true → (n ≠ 0 → ok = true) → A ok E n = R) : ownT3 X o n A = R := by
  unfold ownT3
  have h1 : n ≤ nLim := by unfold nLim; omega
  rw [hx]
  simp only [h1, decide_true, Bool.and_true, cond_true]
  have hs : EvSame (rowE X o n) 0 X o n := fun k hk => (rowE_ev hk).1
  cases n with
  | zero => exact h false #[] hs rfl (fun h => absurd rfl h)
  | succ m =>
    have e1 : ¬ (m + 1 = 0) := by omega
    have e2 : (rowE X o (m + 1)).size ≠ 0 := by rw [rowE_size]; omega
    simp only [e1, decide_false, cond_false, Nat.le_refl, decide_true, e2, ne_eq, not_false_eq_true, (rowE_plain X o (m + 1)).1, (rowE_plain X o (m + 1)).2.1, (rowE_plain X o (m + 1)).2.2, Bool.and_true, cond_true]
    exact h true _ hs (rowE_ok hx) (fun _ => rfl)
theorem ap5 {J : Array Value} {jo jn : Nat} {X : Array Value} {o n k : Nat} {ok : Bool} {c : Int × Int} (hx : evsOk X o n = true) (hn : n ≤ 60) (hk : k < n) (hok : ok = true) : AP5 J jo jn X o n (k : Int) ok c = some (.normal, fr5 J jo jn X o n c.1, stS (ro10 (newE X o n (k : Int))) 1) := by
  subst hok
  obtain ⟨g1, g2⟩ := evsOk_get hx hk
  have g3 : o + n * 6 ≤ X.size := by
    simp only [evsOk, Bool.and_eq_true, decide_eq_true_eq] at hx
    exact hx.2.1
  have h1 : 0 + n ≤ nLim := by unfold nLim; omega
  have h2 : n + 1 ≤ nLim := by unfold nLim; omega
  have h3 : ¬ (n = 0) := by omega
  have h4 : ¬ (n + 1 ≤ n) := by omega
  have hi0 : (0 : Int) ≤ k := by omega
  have h5 : 0 + n * 6 ≤ (rowE X o n).size := by rw [rowE_size]; omega
  have h6 : (0 + n * 6 == (rowE X o n).size) = true := by rw [rowE_size]; simp
  unfold AP5 at5
  rw [extract_row n hx, row_one, h6]
  simp only [h1, h2, h3, h4, h5, g1, g2, g3, hi0, hk, Int.ofNat_lt, Int.toNat_natCast, Nat.le_refl, decide_true, decide_false, Bool.and_true, cond_true, cond_false, beq_self_eq_true]
theorem chk_zero {J : Array Value} {jo jn : Nat} {X : Array Value} {o n : Nat} (h : (chk J jo jn X o n).2 = 0) : (chk J jo jn X o n).1 = n ∧ ∀ i, i < n → badC J jo jn X o i = false := by
  unfold chk at h ⊢
  cases hf : findN (badC J jo jn X o) n with
  | none => exact ⟨rfl, findN_no hf⟩
  | some i =>
    rw [hf] at h
    simp only at h
    split at h <;> omega
theorem chk_nz {J : Array Value} {jo jn : Nat} {X : Array Value} {o n : Nat} (h : (chk J jo jn X o n).2 ≠ 0) : (chk J jo jn X o n).1 ≥ 0 ∧ (chk J jo jn X o n).1 < (n : Int) := by
  unfold chk at h ⊢
  cases hf : findN (badC J jo jn X o) n with
  | none => rw [hf] at h; exact absurd rfl h
  | some i =>
    have := (findN_get hf).1
    show (i : Int) ≥ 0 ∧ (i : Int) < n
    omega
theorem chk_twice {J : Array Value} {jo jn : Nat} {X : Array Value} {o n k : Nat} (hk : k < n) (hno : ∀ i, i < n → badC J jo jn X o i = false) : chk J jo jn (rowE X o n ++ ⟨(evAt X (o + k * 6)).cells⟩) 0 (n + 1) = ((n : Int), 14) := by
  have hS : EvSame (rowE X o n ++ ⟨(evAt X (o + k * 6)).cells⟩) 0 X o n := fun i hi => (app_ev hi).1
  have hl : evAt (rowE X o n ++ ⟨(evAt X (o + k * 6)).cells⟩) (0 + n * 6) = evAt X (o + k * 6) := app_last.1
  have ht : toldB J jo jn (evAt X (o + k * 6)) = true := by
    have := hno k hk
    unfold badC at this
    cases h : toldB J jo jn (evAt X (o + k * 6)) with
    | true => rfl
    | false => rw [h] at this; cases this
  have hm : mayC J jo (rowE X o n ++ ⟨(evAt X (o + k * 6)).cells⟩) 0 n = false := by
    unfold mayC mayJ
    rw [hl]
    exact may_twice (hasE_at hk (app_ev hk).1) (told_job ht).2.2.1
  unfold chk
  rw [findN_some (i := n) (by omega) (by unfold badC; rw [hm]; simp) fun j hj => by rw [hS.bad hj]; exact hno j hj]
  simp only [hl, ht, if_true]
theorem one5 {v w : Value} (h : v = w) : ∀ q ∈ [((6 : Tmp), v)], (frS 5 [(6, w)]).tm.get q.1 = some q.2 := fun q hq => by
  simp only [List.mem_singleton] at hq; subst hq; rw [h]; exact frS_one _ _ _
theorem ok5 [Z : Zone] {b : Nat} {J : Array Value} {jo jn : Nat} {X : Array Value} {o n : Nat} {at' : Int} (hj : jobsOk J jo jn = true) (hx : evsOk X o n = true) :
    AWp cfgQ ⟨0, b⟩ cz b5 (frame0 5 (ntOf 5) #[VS J jo jn, VS X o n, .int .i64 at']) st0 (RetL [(6, .bool true)]) := by
  have ht := t5e J jo jn X o n at'
  rw [hj] at ht
  simp only [cond_true] at ht
  rw [b5_eq]
  have early : (codeT cfgQ (callT cfgQ tQ 60) 60 cz (seqOf pre5) (frame0 5 (ntOf 5) #[VS J jo jn, VS X o n, .int .i64 at']) st0).evalM (gcObs 0 0 sel5) = V5 true → AWp cfgQ ⟨0, b⟩ cz (nest pre5 (cN 7 b5)) (frame0 5 (ntOf 5) #[VS J jo jn, VS X o n, .int .i64 at']) st0 (RetL [(6, .bool true)]) := fun h =>
    AWp.nestEarly goodQ (pl1 rfl) (of_treeM tQ_ok h) trivial (one5 rfl)
  cases hs : smallB J jo jn with
  | false => rw [hs] at ht; exact early ht
  | true =>
    rw [hs] at ht
    simp only [cond_true] at ht
    by_cases hn : n ≤ 60
    · have hn' : (n : Int) ≤ 60 := by omega
      by_cases a1 : at' < 0
      · exact early (ht.trans (by simp only [hn', a1, decide_true, Bool.not_true, cond_false, cond_true]))
      · by_cases a2 : at' ≥ (n : Int)
        · exact early (ht.trans (by simp only [hn', a1, a2, decide_true, decide_false, Bool.not_true, cond_false, cond_true]))
        · obtain ⟨k, rfl⟩ : ∃ k : Nat, at' = (k : Int) := ⟨at'.toNat, by omega⟩
          have hk : k < n := by omega
          simp only [hn', a1, a2, decide_true, decide_false, Bool.not_true, cond_false] at ht
          by_cases hc : (chk J jo jn X o n).2 = 0
          · obtain ⟨c1, hno⟩ := chk_zero hc
            have hmain := ht.trans (own_ok3 (R := some (Ex.normal, fr5 J jo jn X o n (chk J jo jn X o n).1, stS (ro10 (newE X o n (k : Int))) 1)) hx (by omega) fun ok E hE hok h0 => by
              unfold c14g
              rw [hj, hs, hok, hE.chk]
              unfold G5
              rw [hc]
              exact ap5 hx hn hk (h0 (by omega)))
            rw [newE_eq hx] at hmain
            have hfree := app_free (X := X) (o := o) (n := n) (x := evAt X (o + k * 6))
            have hmx : n < maxI := by unfold maxI; omega
            have hok1 := app_ok (X := X) (o := o) (n := n) (x := evAt X (o + k * 6)) hmx
            refine AWp.nestRet goodQ rfl (pl1 rfl) (of_treeM tQ_ok hmain) ⟨hfree, trivial⟩ ?_
            refine AWp.done goodQ (pl1 rfl) (.inr rfl) (of_treeM tQ_ok ((e5 J jo jn X o n _ _).trans (show _ = V5 true from ?_))) trivial (one5 rfl)
            have hsz : (rowE X o n ++ ⟨(evAt X (o + k * 6)).cells⟩ : Array Value).size ≠ 0 := by
              rw [Array.size_append]
              show (rowE X o n).size + 6 ≠ 0
              omega
            simp only [Nat.le_refl, decide_true, Bool.true_and, hsz, ne_eq, not_false_eq_true, hfree, cond_true]
            refine own_ok3 hok1 (by omega) fun ok E hE hokE h0 => ?_
            unfold c14g
            rw [hj, hs, hokE, hE.chk, chk_twice hk hno, c1]
            unfold g5
            simp
          · obtain ⟨c1, c2⟩ := chk_nz hc
            refine early (ht.trans (own_ok3 hx (by omega) fun ok E hE hok h0 => ?_))
            unfold c14g
            rw [hj, hs, hok, hE.chk]
            unfold G5
            have hb : ((chk J jo jn X o n).2 != 0) = true := by simpa using hc
            rw [hb]
            simp only [c1, c2, decide_true, cond_true, Bool.and_true]
    · have hn' : ¬ ((n : Int) ≤ 60) := by omega
      exact early (ht.trans (by simp only [hn', decide_false, Bool.not_false, cond_true]))
end
end Go.Proofs.Ytbhemcpmklkepaa
