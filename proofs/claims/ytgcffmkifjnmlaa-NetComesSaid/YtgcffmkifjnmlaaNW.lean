/- NetScripts: a round. -/
import Derived.Test.YtgcffmkifjnmlaaNV
namespace Go.Proofs.Ytgcffmkifjnmlaa
open Go.Am
noncomputable section
theorem nxt_a {E : Eff} {n : Net} {l : List Value} : (nxt E n l).a = E.a n l ∧ (nxt E n l).b = E.b n l := by
  unfold nxt
  cases E.row n l <;> exact ⟨rfl, rfl⟩
theorem rObs_some {r : Option (Ex × Fr × St)} {ex : Ex} {f : FuncId × Nat × Option Nat} {vs : List (Option Value)} {hs : List (Option AObj)} {n : Nat} (h : rObs r = some (ex, f, vs, hs, n)) : ∃ fr s, r = some (ex, fr, s) ∧ (fr.fn, fr.nt, fr.round) = f ∧ [1, 5, 6, 7].map fr.tm.get = vs ∧ [0, 1, 2, 3, 4, 5, 6].map s.heap.get = hs ∧ s.next = n := by
  unfold rObs at h
  split at h
  · simp only [Option.some.injEq, Prod.mk.injEq] at h
    obtain ⟨rfl, h2, h3, h4, h5⟩ := h
    exact ⟨_, _, rfl, h2, h3, h4, h5⟩
  · cases h
section
variable {X : Array Value} {o n : Nat} {i : Nat} {A B : Net} {E E' : Eff} {l : List Value}
theorem round_op (hA : netOk A = true) (hB : netOk B = true) {r : Option (Ex × Fr × St)} {z : Option AObj} (h : rObs r = some (.normal, (3, 59, none), [some (VS X o n), some (ptrV 0), some (ptrV 2), some (.int .i64 (inc i))],
      [some (boxO false (E.a (nA A) l) (E.b (nA A) l) (w1 E A l)), oldO (netO A.nl A.M) (E.row (nA A) l), some (boxO true (E'.a (nB B) l) (E'.b (nB B) l) (w3 E' B l)), oldO (netO B.nl B.M) (E'.row (nB B) l), newO (E.row (nA A) l), newO (E'.row (nB B) l), z], 7)) (hi : i ≤ 4294967296) :
    ∃ fr s, r = some (.normal, fr, s) ∧ EndOk fr s X o n ((i + 1 : Nat) : Int) (nxt E A l) (nxt E' B l) := by
  obtain ⟨fr, s, h1, h2, h3, h4, h5⟩ := rObs_some h
  simp only [List.map_cons, List.map_nil, List.cons.injEq, and_true] at h4
  obtain ⟨g0, g1, g2, g3, g4, g5, _⟩ := h4
  rw [w1_eq hA, nA_eq hA, ← (nxt_a (E := E)).1, ← (nxt_a (E := E)).2] at g0
  rw [w3_eq hB, nB_eq hB, ← (nxt_a (E := E')).1, ← (nxt_a (E := E')).2] at g2
  rw [nA_eq hA] at g1 g4
  rw [nB_eq hB] at g3 g5
  have e1 : s.heap.get (at1 E A l 1 4) = netO (nxt E A l).nl (nxt E A l).M ∧ (at1 E A l 1 4 = 1 ∨ at1 E A l 1 4 = 4) := by
    unfold at1 nxt
    cases hr : E.row A l with
    | none => rw [hr] at g1; exact ⟨g1, .inl rfl⟩
    | some x => rw [hr] at g4; exact ⟨g4, .inr rfl⟩
  have e3 : s.heap.get (at1 E' B l 3 5) = netO (nxt E' B l).nl (nxt E' B l).M ∧ (at1 E' B l 3 5 = 3 ∨ at1 E' B l 3 5 = 5) := by
    unfold at1 nxt
    cases hr : E'.row B l with
    | none => rw [hr] at g3; exact ⟨g3, .inl rfl⟩
    | some x => rw [hr] at g5; exact ⟨g5, .inr rfl⟩
  refine ⟨fr, s, h1, h2, by rw [h3, incN hi], at1 E A l 1 4, at1 E' B l 3 5, ?_, ?_, ?_, ?_, ?_, ?_, ?_, ?_, g0, e1.1, g2, e3.1⟩
  all_goals first | (rcases e1.2 with e | e <;> rcases e3.2 with e' <;> omega) | omega

theorem pI_nat : pI o ((i : Nat) : Int) = o + i * 3 := rfl
theorem round3 (hI : Inv A B i) (hi : i < n) (hn : n ≤ 60) (hop : opOk X o i = true) :
    ∃ A' B' fr1 s1, Inv A' B' (i + 1) ∧ code cfS (call cfS 60) 60 cz k3c (frH X o n i) (sB A B) = some (.normal, fr1, s1) ∧ EndOk fr1 s1 X o n ((i + 1 : Nat) : Int) A' B' := by
  obtain ⟨hA, hB, ha, hb, hM, hle⟩ := hI
  simp only [opOk, Bool.and_eq_true, decide_eq_true_eq] at hop
  obtain ⟨o1, o2, o3, o4, o5, o6⟩ := hop
  simp only [intOk, Bool.and_eq_true, decide_eq_true_eq] at o6
  have hi1 : ((i : Nat) : Int) < (n : Int) := by omega
  have hi0 : (0 : Int) ≤ (i : Int) := by omega
  have o2' : cellsOk X ([CK.int .i64] ++ ([CK.sl] ++ ([CK.int .i64] ++ []))) (pI o (i : Nat)) = true := o2
  have o1' : pI o (i : Nat) + 3 ≤ X.size := o1
  have hnA := nA_eq hA
  have hnB := nB_eq hB
  obtain ⟨a, b, nl, M⟩ := A
  obtain ⟨a2, b2, nl2, M2⟩ := B
  simp only at ha hb hM hle
  subst ha hb hM
  obtain ⟨q1, q2, q3, q4, q5, q6, q7⟩ := netOk_iff.1 hA
  simp only at q1 q2 q3 q4 q5 q6 q7
  -- the calls of one number
  have hint : (iA X o (i : Nat)).all (freeN 9) = true := rfl
  have hokI : ∀ {nl : Bool}, netOk ⟨a, b, nl, M⟩ = true → (netOk ⟨a, b, nl, M⟩ && (match iA X o (i : Nat) with | [.int .i64 i] => intOk i | _ => false)) = true := fun h => by
    rw [h]
    show (true && intOk (toI X[o + i * 3 + 2]?)) = true
    simp only [intOk, Bool.true_and, Bool.and_eq_true, decide_eq_true_eq]
    exact o6
  by_cases d0 : toI X[o + i * 3]? = 0
  · -- sent
    have d0' : (toI X[pI o (i : Nat)]? == 0) = true := by show (toI X[o + i * 3]? == 0) = true; rw [d0]; rfl
    have hbk : b + ((vL X[o + i * 3 + 1]? : Nat) : Int) ≤ 1099511627776 := by omega
    have hrow : ∀ {nl : Bool}, netOk ⟨a, b, nl, M⟩ = true → sendE.ok ⟨a, b, nl, M⟩ (sA X o (i : Nat)) = true := fun h => by
      show (netOk _ && (decide ("" = "") && rowOk (vX X[o + i * 3 + 1]?) (vO X[o + i * 3 + 1]?) (vL X[o + i * 3 + 1]?) && decide (b + ((vL X[o + i * 3 + 1]? : Nat) : Int) ≤ 1099511627776))) = true
      rw [h]
      simp only [rowOk, Bool.and_eq_true, decide_eq_true_eq, o4, true_and, and_true]
      omega
    have N1 := nx_send (Y := vX X[o + i * 3 + 1]?) (q := vO X[o + i * 3 + 1]?) (k := vL X[o + i * 3 + 1]?) hA o4 hbk
    have N2 := nx_send (Y := vX X[o + i * 3 + 1]?) (q := vO X[o + i * 3 + 1]?) (k := vL X[o + i * 3 + 1]?) hB o4 hbk
    have hl : (sA X o (i : Nat)).all (freeN 9) = true := rfl
    obtain ⟨k1, k2, k3, k4, k5⟩ := op_conds (E := sendE) (E' := sendE) (l := sA X o (i : Nat)) hA hB (hrow hA) (hrow hB) rfl rfl hl N1.1 N2.1 (N1.2.2.2.trans N2.2.2.2.symm)
    have hc := path_eval tS_ok ((ka1_cond X o n (i : Nat) _ _).trans (by
      unfold ka1_c
      rw [k1, k2, k3, k4, k5, d0', o2', hnA, hnB, decide_eq_true hi1, decide_eq_true hi0, decide_eq_true o1',
        show laidN ⟨a, b, nl, M⟩ (vL X[pI o (i : Nat) + 1]?) = laidN ⟨a, b, nl2, M⟩ (vL X[pI o (i : Nat) + 1]?) from rfl, show sendE.b ⟨a, b, nl, M⟩ (sA X o (i : Nat)) = sendE.b ⟨a, b, nl2, M⟩ (sA X o (i : Nat)) from rfl]
      simp)) (ka1_leaf X o n (i : Nat) _ _)
    obtain ⟨fr, s, h1, h2⟩ := round_op hA hB hc (by omega)
    refine ⟨_, _, fr, s, ⟨N1.1, N2.1, N1.2.1.trans N2.2.1.symm, N1.2.2.1.trans N2.2.2.1.symm, N1.2.2.2.trans N2.2.2.2.symm, ?_⟩, h1, h2⟩
    show (nxt sendE ⟨a, b, nl, M⟩ [VS _ _ _]).b ≤ _
    rw [N1.2.2.1]; omega
  · have d0' : (toI X[pI o (i : Nat)]? == 0) = false := by show (toI X[o + i * 3]? == 0) = false; simpa using d0
    by_cases d1 : toI X[o + i * 3]? = 1
    · -- taken
      have d1' : (toI X[pI o (i : Nat)]? == 1) = true := by show (toI X[o + i * 3]? == 1) = true; rw [d1]; rfl
      have N1 := nx_take (z := false) (i := toI X[o + i * 3 + 2]?) hA
      have N2 := nx_take (z := true) (i := toI X[o + i * 3 + 2]?) hB
      obtain ⟨k1, k2, k3, k4, k5⟩ := op_conds (E := takeE false) (E' := takeE true) (l := iA X o (i : Nat)) hA hB (hokI hA) (hokI hB) (by simp [takeE, plainN]) (by simp [takeE, plainN]) hint N1.1 N2.1 (N1.2.2.2.trans N2.2.2.2.symm)
      have hc := path_eval tS_ok ((ka2_cond X o n (i : Nat) _ _).trans (by
        unfold ka2_c
        rw [k1, k2, k3, k4, k5, d0', d1', o2', hnA, hnB, decide_eq_true hi1, decide_eq_true hi0, decide_eq_true o1', show (takeE false).b ⟨a, b, nl, M⟩ (iA X o (i : Nat)) = (takeE true).b ⟨a, b, nl2, M⟩ (iA X o (i : Nat)) from rfl]
        simp)) (ka2_leaf X o n (i : Nat) _ _)
      obtain ⟨fr, s, h1, h2⟩ := round_op hA hB hc (by omega)
      refine ⟨_, _, fr, s, ⟨N1.1, N2.1, N1.2.1.trans N2.2.1.symm, N1.2.2.1.trans N2.2.2.1.symm, N1.2.2.2.trans N2.2.2.2.symm, ?_⟩, h1, h2⟩
      show (nxt (takeE false) ⟨a, b, nl, M⟩ [.int .i64 _]).b ≤ _
      rw [N1.2.2.1]; omega
    · have d1' : (toI X[pI o (i : Nat)]? == 1) = false := by show (toI X[o + i * 3]? == 1) = false; simpa using d1
      by_cases d2 : toI X[o + i * 3]? = 2
      · -- dropped
        have d2' : (toI X[pI o (i : Nat)]? == 2) = true := by show (toI X[o + i * 3]? == 2) = true; rw [d2]; rfl
        have hb1 : b + 1 ≤ 1099511627776 := by omega
        have N1 := nx_drop (z := false) (i := toI X[o + i * 3 + 2]?) hA hb1
        have N2 := nx_drop (z := true) (i := toI X[o + i * 3 + 2]?) hB hb1
        have hokD : ∀ {z nl : Bool}, netOk ⟨a, b, nl, M⟩ = true → (dropE z).ok ⟨a, b, nl, M⟩ (iA X o (i : Nat)) = true := fun h => by
          show (_ && decide (b + 1 ≤ 1099511627776)) = true
          rw [decide_eq_true hb1, Bool.and_true]
          exact hokI h
        obtain ⟨k1, k2, k3, k4, k5⟩ := op_conds (E := dropE false) (E' := dropE true) (l := iA X o (i : Nat)) hA hB (hokD hA) (hokD hB) rfl rfl hint N1.1 N2.1 (N1.2.2.2.trans N2.2.2.2.symm)
        have hc := path_eval tS_ok ((ka3_cond X o n (i : Nat) _ _).trans (by
          unfold ka3_c
          rw [k1, k2, k3, k4, k5, d0', d1', d2', o2', hnA, hnB, decide_eq_true hi1, decide_eq_true hi0, decide_eq_true o1', show (dropE false).b ⟨a, b, nl, M⟩ (iA X o (i : Nat)) = (dropE true).b ⟨a, b, nl2, M⟩ (iA X o (i : Nat)) from rfl]
          simp)) (ka3_leaf X o n (i : Nat) _ _)
        obtain ⟨fr, s, h1, h2⟩ := round_op hA hB hc (by omega)
        refine ⟨_, _, fr, s, ⟨N1.1, N2.1, N1.2.1.trans N2.2.1.symm, N1.2.2.1.trans N2.2.2.1.symm, N1.2.2.2.trans N2.2.2.2.symm, ?_⟩, h1, h2⟩
        show (nxt (dropE false) ⟨a, b, nl, M⟩ [.int .i64 _]).b ≤ _
        rw [N1.2.2.1]; split <;> omega
      · have d2' : (toI X[pI o (i : Nat)]? == 2) = false := by show (toI X[o + i * 3]? == 2) = false; simpa using d2
        by_cases d3 : toI X[o + i * 3]? = 3
        · -- doubled
          have d3' : (toI X[pI o (i : Nat)]? == 3) = true := by show (toI X[o + i * 3]? == 3) = true; rw [d3]; rfl
          have N1 := nx_twice (i := toI X[o + i * 3 + 2]?) hA
          have N2 := nx_twice (i := toI X[o + i * 3 + 2]?) hB
          obtain ⟨k1, k2, k3, k4, k5⟩ := op_conds (E := twiceE) (E' := twiceE) (l := iA X o (i : Nat)) hA hB (hokI hA) (hokI hB) rfl rfl hint N1.1 N2.1 (N1.2.2.2.trans N2.2.2.2.symm)
          have hc := path_eval tS_ok ((ka4_cond X o n (i : Nat) _ _).trans (by
            unfold ka4_c
            rw [k1, k2, k3, k4, k5, d0', d1', d2', d3', o2', hnA, hnB, decide_eq_true hi1, decide_eq_true hi0, decide_eq_true o1', show twiceE.b ⟨a, b, nl, M⟩ (iA X o (i : Nat)) = twiceE.b ⟨a, b, nl2, M⟩ (iA X o (i : Nat)) from rfl, show fullN ⟨a, b, nl, M⟩ = fullN ⟨a, b, nl2, M⟩ from rfl]
            simp)) (ka4_leaf X o n (i : Nat) _ _)
          obtain ⟨fr, s, h1, h2⟩ := round_op hA hB hc (by omega)
          refine ⟨_, _, fr, s, ⟨N1.1, N2.1, N1.2.1.trans N2.2.1.symm, N1.2.2.1.trans N2.2.2.1.symm, N1.2.2.2.trans N2.2.2.2.symm, ?_⟩, h1, h2⟩
          show (nxt twiceE ⟨a, b, nl, M⟩ [.int .i64 _]).b ≤ _
          rw [N1.2.2.1]; omega
        · -- nothing
          have d3' : (toI X[pI o (i : Nat)]? == 3) = false := by show (toI X[o + i * 3]? == 3) = false; simpa using d3
          obtain ⟨k1, k2, k3⟩ := no_conds hA hB rfl
          have hc := path_eval tS_ok ((ka5_cond X o n (i : Nat) ⟨a, b, nl, M⟩ ⟨a, b, nl2, M⟩).trans (by
            unfold ka5_c
            rw [k1, k2, k3, d0', d1', d2', d3', o2', decide_eq_true hi1, decide_eq_true hi0, decide_eq_true o1']
            simp)) (ka5_leaf X o n (i : Nat) _ _)
          obtain ⟨fr, s, h1, h2, h3, h4, h5⟩ := rObs_some hc
          simp only [List.map_cons, List.map_nil, List.cons.injEq, and_true] at h4
          obtain ⟨g0, g1, g2, g3, _⟩ := h4
          exact ⟨⟨a, b, nl, M⟩, ⟨a, b, nl2, M⟩, fr, s, ⟨hA, hB, rfl, rfl, rfl, by simp only; omega⟩, h1, h2, by rw [h3, incN (by omega)], 1, 3, by decide, by decide, by decide, by decide, by decide, by omega, by omega, by omega, g0, g1, g2, g3⟩
end
end
end Go.Proofs.Ytgcffmkifjnmlaa
