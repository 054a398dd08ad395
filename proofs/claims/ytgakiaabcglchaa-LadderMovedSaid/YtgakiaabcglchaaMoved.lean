/- LadderMoved: a run that begins later has all its rungs as much later. Without a condition. -/
import Derived.Test.YtgakiaabcglchaaJ
import Derived.Test.YtgakiaabcglchaaK
namespace Go.Proofs.Ytgakiaabcglchaa.ladderMoved
open Go.Am Go.ChangeShapes Go.WideShapes Go.ChangeAt Go.RowKit Go.Proofs.Ytgakiaabcglchaa

theorem may_moved {L W G K F C C' Z : Int} (h : May L W G K F C) (hz : 0 ≤ Z) (hz' : Z ≤ 1073741824) (hF : F ≤ 1073741824) (hC : C ≤ 1073741824) (hc : (0 ≤ C ∧ C' = C + Z) ∨ (C < 0 ∧ C' = C)) : May L W G K (F + Z) C' := by
  unfold May Chk at h ⊢
  omega
theorem may_back {L W G K F C C' Z : Int} (h : May L W G K (F + Z) C') (hz : 0 ≤ Z) (hF : 0 ≤ F) (hF' : F ≤ 1073741824) (hC : C ≤ 1073741824) (hc : (0 ≤ C ∧ C' = C + Z) ∨ (C < 0 ∧ C' = C)) : May L W G K F C := by
  unfold May Chk at h ⊢
  omega

theorem rungs_moved {L W G K F C C' Z : Int} (h : May L W G K F C) (h' : May L W G K (F + Z) C') (hz : 0 ≤ Z) (hc : (0 ≤ C ∧ C' = C + Z) ∨ (C < 0 ∧ C' = C)) :
    rg0 L W G K (F + Z) C' = rg0 L W G K F C + Z ∧ rg1 L W G K (F + Z) C' = rg1 L W G K F C + Z ∧ endV L W G K (F + Z) C' = endV L W G K F C + Z ∧ rg3 L W G K (F + Z) C' = rg3 L W G K F C + Z ∧ rg4 L W G K (F + Z) C' = rg4 L W G K F C + Z := by
  have he : endV L W G K (F + Z) C' = endV L W G K F C + Z := by
    have a := h
    unfold May Chk at a
    simp only [endV, if_pos h, if_pos h']
    by_cases c1 : C = -1
    · rw [if_pos c1, if_pos (by omega)]; omega
    · rw [if_neg c1, if_neg (by omega)]
      split <;> split <;> omega
  refine ⟨?_, ?_, he, ?_, ?_⟩
  · simp only [rg0, if_pos h, if_pos h']
  · simp only [rg1, if_pos h, if_pos h', he]
    split <;> split <;> omega
  · simp only [rg3, if_pos h, if_pos h', he]; omega
  · simp only [rg4, if_pos h, if_pos h', he]; omega

theorem rungs_range {L W G K F C : Int} (h : May L W G K F C) : (0 ≤ rg0 L W G K F C ∧ rg0 L W G K F C ≤ 1200000000000) ∧ (0 ≤ rg1 L W G K F C ∧ rg1 L W G K F C ≤ 1200000000000) ∧ (0 ≤ endV L W G K F C ∧ endV L W G K F C ≤ 1200000000000) ∧
    (0 ≤ rg3 L W G K F C ∧ rg3 L W G K F C ≤ 1200000000000) ∧ (0 ≤ rg4 L W G K F C ∧ rg4 L W G K F C ≤ 1200000000000) := by
  have he := end_le h
  have a := h
  unfold May Chk at a
  simp only [rg0, rg1, rg3, rg4, if_pos h]
  refine ⟨by omega, ?_, by omega, by omega, by omega⟩
  split <;> omega

theorem step1 {r r' Z : Int} (h : 0 ≤ r ∧ r ≤ 1200000000000) (h' : 0 ≤ r') (hz : 0 ≤ Z) (hz' : Z ≤ 1073741824) (e : r' = r + Z) : (Int.ofNat r'.toNat != IntKind.wrap .i64 (Int.ofNat r.toNat + Z)) = false := by
  rw [show Int.ofNat r'.toNat = r' from Int.toNat_of_nonneg h', show Int.ofNat r.toNat = r from Int.toNat_of_nonneg h.1, w64 (by omega) (by omega), e]
  simp

theorem movL_true {L W G K F C C' Z : Int} (hz : 0 ≤ Z) (hz' : Z ≤ 1073741824) (hF0 : 0 ≤ F) (hF : F ≤ 1073741824) (hC : C ≤ 1073741824) (hc : (0 ≤ C ∧ C' = C + Z) ∨ (C < 0 ∧ C' = C)) :
    movL (decide (May L W G K F C)) (f0 0) q0 L W G K F C (F + Z) C' Z = true := by
  rw [f0_eq]
  by_cases h : May L W G K F C
  · have h' := may_moved h hz hz' hF hC hc
    obtain ⟨m0, m1, m2, m3, m4⟩ := rungs_moved h h' hz hc
    obtain ⟨a0, a1, a2, a3, a4⟩ := rungs_range h
    obtain ⟨b0, b1, b2, b3, b4⟩ := rungs_range h'
    rw [decide_eq_true h]
    simp only [movL, q0, mayV]
    rw [decide_eq_true h, decide_eq_true h', step1 a0 b0.1 hz hz' m0, step1 a1 b1.1 hz hz' m1, step1 a2 b2.1 hz hz' m2, step1 a3 b3.1 hz hz' m3, step1 a4 b4.1 hz hz' m4]
    rfl
  · have h' : ¬ May L W G K (F + Z) C' := fun h' => h (may_back h' hz hF0 hF hC hc)
    rw [decide_eq_false h]
    simp only [movL, mayV]
    rw [decide_eq_false h, decide_eq_false h']
    rfl

theorem true_of (L W G K F C Z : Int) : movedT (decide (May L W G K F C)) (f0 0) q0 L W G K F C Z = true := by
  unfold movedT
  by_cases c1 : Z < 0
  · rw [decide_eq_true c1]; rfl
  by_cases c2 : Z > 1073741824
  · rw [decide_eq_true c2, decide_eq_false c1]; rfl
  by_cases c3 : F < 0
  · rw [decide_eq_true c3, decide_eq_false c1, decide_eq_false c2]; rfl
  by_cases c4 : F > 1073741824
  · rw [decide_eq_true c4, decide_eq_false c1, decide_eq_false c2, decide_eq_false c3]; rfl
  by_cases c5 : C > 1073741824
  · rw [decide_eq_true c5, decide_eq_false c1, decide_eq_false c2, decide_eq_false c3, decide_eq_false c4]; rfl
  rw [decide_eq_false c1, decide_eq_false c2, decide_eq_false c3, decide_eq_false c4, decide_eq_false c5]
  simp only [cond_false]
  rw [w64 (n := F + Z) (by omega) (by omega)]
  by_cases c6 : C ≥ 0
  · rw [decide_eq_true c6, w64 (n := C + Z) (by omega) (by omega)]
    exact movL_true (by omega) (by omega) (by omega) (by omega) (by omega) (.inl ⟨c6, rfl⟩)
  · rw [decide_eq_false c6]
    exact movL_true (by omega) (by omega) (by omega) (by omega) (by omega) (.inr ⟨by omega, rfl⟩)

theorem moved_tree (m : Bool) (p : Fs) (q : Ns) (L W G K F C Z : Int) : movedC m p q L W G K F C Z = movedT m p q L W G K F C Z := by
  cases m with
  | true => exact congrFun (congrFun (congrFun (congrFun (congrFun (congrFun (congrFun (congrFun (congrFun moved_tree1 p) q) L) W) G) K) F) C) Z
  | false => exact congrFun (congrFun (congrFun (congrFun (congrFun (congrFun (congrFun (congrFun (congrFun moved_tree2 p) q) L) W) G) K) F) C) Z

theorem plainZ : (fun L W G K F C Z => (#[pl L W G K, rn F C, .int .i64 Z] : Array Value).all (plainN 9)) = fun _ _ _ _ _ _ _ => true := by kernel_rfl
theorem told (W : World) (L X G K F C Z : Int) : Calls Try.prog 6 #[pl L X G K, rn F C, .int .i64 Z] W fun e w' => e = .returned (.bool true) ∧ Below W.heap.size W w' :=
  run_law (tM_ok (decide (May L X G K F C)) (f0 0) q0) (goodM _) rfl rfl rfl ⟨_, rfl⟩ (congrFun (congrFun (congrFun (congrFun (congrFun (congrFun (congrFun plainZ L) X) G) K) F) C) Z)
    ((moved_tree (decide (May L X G K F C)) (f0 0) q0 L X G K F C Z).trans (true_of L X G K F C Z)) W

theorem walk (W : World) (args : Array Value) (h : ∀ (j : Nat) t v, Try.f6.params[j]? = some t → args[j]? = some v → Value.okWide Try.prog W .any 0 t v) (hs : args.size = 3) :
    Calls Try.prog 6 args W fun e w' => e = .returned (.bool true) ∧ Below W.heap.size W w' := by
  obtain ⟨L, X0, G, K, e0⟩ := plan_of (h 0 23 args[0] (by rw [Try.params6]; rfl) (Array.getElem?_eq_getElem (by omega)))
  obtain ⟨F, C, e1⟩ := run_of (h 1 25 args[1] (by rw [Try.params6]; rfl) (Array.getElem?_eq_getElem (by omega)))
  obtain ⟨Z, e2⟩ := num_of (h 2 3 args[2] (by rw [Try.params6]; rfl) (Array.getElem?_eq_getElem (by omega)))
  have hargs : args = #[args[0], args[1], args[2]] := by
    apply Array.ext (by simp [hs])
    intro k h1 h2
    match k with
    | 0 => rfl
    | 1 => rfl
    | 2 => rfl
    | k + 3 => omega
  rw [hargs, e0, e1, e2]
  exact told W L X0 G K F C Z

set_option maxRecDepth 100000 in
theorem lifted (os : Os) (started : os.Started) (H : Type) (enc : TypeId × Value → H) :
    ReturnsInHanded {} Try.checked os 6 .any (Rows.ladderMovedSpec.pre6 enc Try.prog Try.f6 Rows.ladderMovedRow.domain false) (Rows.ladderMovedSpec.post enc Try.prog Try.f6 false true false false) := by
  refine returnsInHanded_of_change (C := Try.checked) ownNone started (by kernel_rfl) Try.func6
    (ChangeSpec.witness6 (enc := enc) (C := Try.checked) false ⟨#[], #[.agg #[.int .i64 0, .int .i64 0, .int .i64 0, .int .i64 0], .agg #[.int .i64 0, .int .i64 0], .int .i64 0], []⟩ 8 (by kernel_rfl) (by kernel_rfl) (by kernel_rfl) (by kernel_rfl)) ?_
  intro W base args ds gs before hval hW hcnd _
  have hW' := hW
  obtain ⟨p, q, hA, hV, rfl, hfz, hnd⟩ := hW
  rw [Try.params6] at hA
  obtain ⟨v0, vs0, d0, ds0, p0, q0, hargs, rfl, rfl, h0, r0⟩ := trodAll_cons hA
  obtain ⟨v1, vs1, d1, ds1, p1, q1, rfl, rfl, rfl, h1, r1⟩ := trodAll_cons r0
  obtain ⟨v2, vs2, d2, ds2, p2, q2, rfl, rfl, rfl, h2, r2⟩ := trodAll_cons r1
  obtain ⟨rfl, rfl, rfl⟩ := trodAll_nil r2
  obtain ⟨rfl, rfl⟩ := trodVars_none hV
  have hsz : args.size = 3 := by rw [← Array.length_toList, hargs]; rfl
  refine (walk W args (fun j t v h1 h2 => hval j t v h1 h2) hsz).mono fun e W' ⟨he, hb⟩ => ?_
  subst he
  exact ⟨_, rfl, post_of_below (by kernel_rfl) (by kernel_rfl) (by kernel_rfl) Try.underlying4 rfl rfl hW' hb⟩

theorem over : Rows.ladderMovedRow.holds Try.pinned (OpenSpec.ofChange Rows.ladderMovedSpec) :=
  OpenClaim.holds_of_wide 6 Try.f6 rfl rfl rfl rfl rfl rfl rfl ⟨rfl, rfl, rfl, rfl, rfl⟩ rfl rfl rfl rfl rfl (by kernel_rfl) Try.func6 (by kernel_rfl)
    (of_decide_eq_true (by kernel_rfl)) (by unfold Func.isWrapper; first | (rw [if_pos (by decide +kernel)]; kernel_rfl) | (rw [if_neg (by decide +kernel)]; exact ⟨rfl, rfl⟩))
    (fun os started H enc _ => lifted os started H enc)
end Go.Proofs.Ytgakiaabcglchaa.ladderMoved

namespace Go.Proofs.Ytgakiaabcglchaa
theorem ladderMoved_holds : Rows.LadderMovedSaid := ladderMoved.over
#print axioms ladderMoved_holds
end Go.Proofs.Ytgakiaabcglchaa
