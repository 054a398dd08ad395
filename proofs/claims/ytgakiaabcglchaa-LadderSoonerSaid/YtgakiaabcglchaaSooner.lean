/- LadderSooner: whose end is asked sooner has no rung later; with less of a limit neither. Without a condition. -/
import Derived.Test.YtgakiaabcglchaaI
import Derived.Test.YtgakiaabcglchaaK
namespace Go.Proofs.Ytgakiaabcglchaa.ladderSooner
open Go.Am Go.ChangeShapes Go.WideShapes Go.ChangeAt Go.RowKit Go.Proofs.Ytgakiaabcglchaa

theorem rungs_le {L L' W G K F C C' : Int} (h : May L W G K F C) (h' : May L' W G K F C') (hl : L' ≤ L) (hc : C' = C ∨ (0 ≤ C' ∧ (C = -1 ∨ C' ≤ C))) :
    rg0 L' W G K F C' ≤ rg0 L W G K F C ∧ rg1 L' W G K F C' ≤ rg1 L W G K F C ∧ endV L' W G K F C' ≤ endV L W G K F C ∧ rg3 L' W G K F C' ≤ rg3 L W G K F C ∧ rg4 L' W G K F C' ≤ rg4 L W G K F C := by
  have he : endV L' W G K F C' ≤ endV L W G K F C := by
    have a := h
    have b := h'
    unfold May Chk at a b
    simp only [endV, if_pos h, if_pos h']
    by_cases c1 : C = -1
    · rw [if_pos c1]
      by_cases c2 : C' = -1
      · rw [if_pos c2]; omega
      · rw [if_neg c2]; split <;> omega
    · rw [if_neg c1, if_neg (show ¬ C' = -1 by omega)]
      split <;> split <;> omega
  simp only [rg0, rg1, rg3, rg4, if_pos h, if_pos h']
  refine ⟨Int.le_refl _, ?_, he, by omega, by omega⟩
  split <;> split <;> omega

theorem soon2_true {L W G K F C : Int} (h : May L W G K F C) : soon2 (f0 0) L W G K F C = true := by
  have a := h
  unfold May Chk at a
  rw [f0_eq]
  simp only [soon2]
  rw [w64 (n := L - 1) (by omega) (by omega)]
  by_cases c1 : L < 2
  · rw [decide_eq_true c1]; rfl
  · rw [decide_eq_false c1]
    by_cases c2 : W > L - 1
    · rw [decide_eq_true c2]; rfl
    · rw [decide_eq_false c2]
      have h' : May (L - 1) W G K F C := by unfold May Chk; omega
      obtain ⟨m0, m1, m2, m3, m4⟩ := rungs_le h h' (by omega) (.inl rfl)
      rw [decide_eq_false (Int.not_lt.2 m0), decide_eq_false (Int.not_lt.2 m1), decide_eq_false (Int.not_lt.2 m2), decide_eq_false (Int.not_lt.2 m3), decide_eq_false (Int.not_lt.2 m4)]
      rfl

theorem soon1_true {L W G K F C Z : Int} (h : May L W G K F C) (h' : May L W G K F Z) (hz : 0 ≤ Z) (hc : C = -1 ∨ Z ≤ C) : soon1 (f0 0) L W G K F C Z = true := by
  simp only [soon1, soon2_true h]
  rw [f0_eq]
  obtain ⟨m0, m1, m2, m3, m4⟩ := rungs_le h h' (Int.le_refl _) (.inr ⟨hz, hc⟩)
  simp only []
  rw [decide_eq_false (Int.not_lt.2 m0), decide_eq_false (Int.not_lt.2 m1), decide_eq_false (Int.not_lt.2 m2), decide_eq_false (Int.not_lt.2 m3), decide_eq_false (Int.not_lt.2 m4)]
  rfl

theorem true_of (L W G K F C Z : Int) : soonerT (f0 0) L W G K F C Z = true := by
  have hs : May L W G K F C → May L W G K F Z → 0 ≤ Z → (C = -1 ∨ Z ≤ C) → soon1 (f0 0) L W G K F C Z = true := fun a b c d => soon1_true a b c d
  unfold soonerT
  generalize soon1 (f0 0) L W G K F C Z = S at hs ⊢
  rw [f0_eq]
  simp only []
  by_cases h : May L W G K F C
  · have a := h
    unfold May Chk at a
    by_cases h' : May L W G K F Z
    · by_cases hz : Z < 0
      · rw [decide_eq_true hz]; cases decide (rg0 L W G K F C < 0) <;> cases decide (rg0 L W G K F Z < 0) <;> rfl
      · by_cases hc : C = -1
        · rw [hs h h' (by omega) (.inl hc)]
          cases decide (rg0 L W G K F C < 0) <;> cases decide (rg0 L W G K F Z < 0) <;> cases decide (Z < 0) <;> cases decide (C ≥ 0) <;> cases decide (Z > C) <;> rfl
        · by_cases hzc : Z > C
          · rw [decide_eq_true hzc, decide_eq_true (show C ≥ 0 by omega)]
            cases decide (rg0 L W G K F C < 0) <;> cases decide (rg0 L W G K F Z < 0) <;> cases decide (Z < 0) <;> rfl
          · rw [hs h h' (by omega) (.inr (by omega))]
            cases decide (rg0 L W G K F C < 0) <;> cases decide (rg0 L W G K F Z < 0) <;> cases decide (Z < 0) <;> cases decide (C ≥ 0) <;> cases decide (Z > C) <;> rfl
    · rw [show decide (rg0 L W G K F Z < 0) = true from decide_eq_true (by simp only [rg0, if_neg h']; omega)]
      cases decide (rg0 L W G K F C < 0) <;> rfl
  · rw [show decide (rg0 L W G K F C < 0) = true from decide_eq_true (by simp only [rg0, if_neg h]; omega)]
    rfl

theorem plainZ : (fun L W G K F C Z => (#[pl L W G K, rn F C, .int .i64 Z] : Array Value).all (plainN 9)) = fun _ _ _ _ _ _ _ => true := by kernel_rfl
theorem told (W : World) (L X G K F C Z : Int) : Calls Try.prog 7 #[pl L X G K, rn F C, .int .i64 Z] W fun e w' => e = .returned (.bool true) ∧ Below W.heap.size W w' :=
  run_law (t4_ok (f0 0) 0) (good4 0) rfl rfl rfl ⟨_, rfl⟩ (congrFun (congrFun (congrFun (congrFun (congrFun (congrFun (congrFun plainZ L) X) G) K) F) C) Z)
    ((congrFun (congrFun (congrFun (congrFun (congrFun (congrFun (congrFun (congrFun sooner_tree (f0 0)) L) X) G) K) F) C) Z).trans (true_of L X G K F C Z)) W

theorem walk (W : World) (args : Array Value) (h : ∀ (j : Nat) t v, Try.f7.params[j]? = some t → args[j]? = some v → Value.okWide Try.prog W .any 0 t v) (hs : args.size = 3) :
    Calls Try.prog 7 args W fun e w' => e = .returned (.bool true) ∧ Below W.heap.size W w' := by
  obtain ⟨L, X0, G, K, e0⟩ := plan_of (h 0 23 args[0] (by rw [Try.params7]; rfl) (Array.getElem?_eq_getElem (by omega)))
  obtain ⟨F, C, e1⟩ := run_of (h 1 25 args[1] (by rw [Try.params7]; rfl) (Array.getElem?_eq_getElem (by omega)))
  obtain ⟨Z, e2⟩ := num_of (h 2 3 args[2] (by rw [Try.params7]; rfl) (Array.getElem?_eq_getElem (by omega)))
  have hargs : args = #[args[0], args[1], args[2]] := by
    apply Array.ext (by simp [hs])
    intro k h1 h2
    match k with
    | 0 => rfl
    | 1 => rfl
    | 2 => rfl
    | k + 3 => omega
  rw [hargs, e0, e1, e2]
  exact told W L X0 G K F C Z

set_option maxRecDepth 100000 in
theorem lifted (os : Os) (started : os.Started) (H : Type) (enc : TypeId × Value → H) :
    ReturnsInHanded {} Try.checked os 7 .any (Rows.ladderSoonerSpec.pre6 enc Try.prog Try.f7 Rows.ladderSoonerRow.domain false) (Rows.ladderSoonerSpec.post enc Try.prog Try.f7 false true false false) := by
  refine returnsInHanded_of_change (C := Try.checked) ownNone started (by kernel_rfl) Try.func7
    (ChangeSpec.witness6 (enc := enc) (C := Try.checked) false ⟨#[], #[.agg #[.int .i64 0, .int .i64 0, .int .i64 0, .int .i64 0], .agg #[.int .i64 0, .int .i64 0], .int .i64 0], []⟩ 8 (by kernel_rfl) (by kernel_rfl) (by kernel_rfl) (by kernel_rfl)) ?_
  intro W base args ds gs before hval hW hcnd _
  have hW' := hW
  obtain ⟨p, q, hA, hV, rfl, hfz, hnd⟩ := hW
  rw [Try.params7] at hA
  obtain ⟨v0, vs0, d0, ds0, p0, q0, hargs, rfl, rfl, h0, r0⟩ := trodAll_cons hA
  obtain ⟨v1, vs1, d1, ds1, p1, q1, rfl, rfl, rfl, h1, r1⟩ := trodAll_cons r0
  obtain ⟨v2, vs2, d2, ds2, p2, q2, rfl, rfl, rfl, h2, r2⟩ := trodAll_cons r1
  obtain ⟨rfl, rfl, rfl⟩ := trodAll_nil r2
  obtain ⟨rfl, rfl⟩ := trodVars_none hV
  have hsz : args.size = 3 := by rw [← Array.length_toList, hargs]; rfl
  refine (walk W args (fun j t v h1 h2 => hval j t v h1 h2) hsz).mono fun e W' ⟨he, hb⟩ => ?_
  subst he
  exact ⟨_, rfl, post_of_below (by kernel_rfl) (by kernel_rfl) (by kernel_rfl) Try.underlying4 rfl rfl hW' hb⟩

theorem over : Rows.ladderSoonerRow.holds Try.pinned (OpenSpec.ofChange Rows.ladderSoonerSpec) :=
  OpenClaim.holds_of_wide 7 Try.f7 rfl rfl rfl rfl rfl rfl rfl ⟨rfl, rfl, rfl, rfl, rfl⟩ rfl rfl rfl rfl rfl (by kernel_rfl) Try.func7 (by kernel_rfl)
    (of_decide_eq_true (by kernel_rfl)) (by unfold Func.isWrapper; first | (rw [if_pos (by decide +kernel)]; kernel_rfl) | (rw [if_neg (by decide +kernel)]; exact ⟨rfl, rfl⟩))
    (fun os started H enc _ => lifted os started H enc)
end Go.Proofs.Ytgakiaabcglchaa.ladderSooner

namespace Go.Proofs.Ytgakiaabcglchaa
theorem ladderSooner_holds : Rows.LadderSoonerSaid := ladderSooner.over
#print axioms ladderSooner_holds
end Go.Proofs.Ytgakiaabcglchaa
