/- LadderGrace: who is asked to end is killed a grace later, and given up when it should have been dead; no end is later than the limit says. Without a condition. -/
import Derived.Test.YtgakiaabcglchaaH
import Derived.Test.YtgakiaabcglchaaK
namespace Go.Proofs.Ytgakiaabcglchaa.ladderGrace
open Go.Am Go.ChangeShapes Go.WideShapes Go.ChangeAt Go.RowKit Go.Proofs.Ytgakiaabcglchaa

theorem true_of (L W G K F C : Int) : graceT (f0 0) L W G K F C = true := by
  rw [f0_eq]
  simp only [graceT]
  by_cases h : May L W G K F C
  · have he := end_le h
    have h' := h
    unfold May Chk at h'
    have e3 : rg3 L W G K F C = endV L W G K F C + G := by simp only [rg3, if_pos h]
    have e4 : rg4 L W G K F C = endV L W G K F C + G + K := by simp only [rg4, if_pos h]
    have e1 : rg1 L W G K F C ≤ endV L W G K F C := by simp only [rg1, if_pos h]; split <;> omega
    have hf : May L W G K F (-1) := by unfold May Chk; omega
    have ef : endV L W G K F (-1) = F + L := by simp [endV, hf]
    have w1 : IntKind.wrap .i64 (rg3 L W G K F C - endV L W G K F C) = G := by rw [e3, w64 (by omega) (by omega)]; omega
    have w2 : IntKind.wrap .i64 (rg4 L W G K F C - rg3 L W G K F C) = K := by rw [e3, e4, w64 (by omega) (by omega)]; omega
    have w3 : IntKind.wrap .i64 (endV L W G K F C + G) = endV L W G K F C + G := w64 (by omega) (by omega)
    have w4 : IntKind.wrap .i64 (IntKind.wrap .i64 (endV L W G K F C + G) + K) = endV L W G K F C + G + K := by rw [w3]; exact w64 (by omega) (by omega)
    have w5 : IntKind.wrap .i64 (IntKind.wrap .i64 (endV L W G K F C + G) - 1) = endV L W G K F C + G - 1 := by rw [w3]; exact w64 (by omega) (by omega)
    have s1 : 2 ≤ stV L W G K F C (endV L W G K F C) := by
      unfold stV; rw [if_pos h, e3, e4]
      split
      · omega
      · split
        · omega
        · rw [if_pos (Int.le_refl _)]; omega
    have s2 : stV L W G K F C (endV L W G K F C + G + K) = 4 := by unfold stV; rw [if_pos h, e4, if_pos (Int.le_refl _)]
    have s3 : G ≠ 0 → stV L W G K F C (endV L W G K F C + G - 1) = 2 := fun hG => by
      unfold stV; rw [if_pos h, e3, e4, if_neg (by omega), if_neg (by omega), if_pos (by omega)]
    rw [w1, w2, w4, w5, s2]
    have c1 : decide (endV L W G K F C < 0) = false := decide_eq_false (by omega)
    have c2 : decide (endV L W G K F C > endV L W G K F (-1)) = false := decide_eq_false (by omega)
    have c3 : decide (endV L W G K F C < F) = false := decide_eq_false (by omega)
    have c4 : decide (rg1 L W G K F C > endV L W G K F C) = false := decide_eq_false (by omega)
    have c5 : decide (stV L W G K F C (endV L W G K F C) ≥ 2) = true := decide_eq_true s1
    rw [c1, c2, c3, c4, c5]
    by_cases hG : G = 0
    · simp [hG]
    · rw [s3 hG]; simp [hG]
  · have e : endV L W G K F C = -1 := by simp only [endV, if_neg h]
    have c1 : decide (endV L W G K F C < 0) = true := decide_eq_true (by omega)
    have c2 : (endV L W G K F C == -1) = true := by rw [e]; rfl
    rw [c1, c2]
    rfl

theorem told (W : World) (L X G K F C : Int) : Calls Try.prog 5 #[pl L X G K, rn F C] W fun e w' => e = .returned (.bool true) ∧ Below W.heap.size W w' :=
  run_law (t4_ok (f0 0) 0) (good4 0) rfl rfl rfl ⟨_, rfl⟩ (congrFun (congrFun (congrFun (congrFun (congrFun (congrFun plain6 L) X) G) K) F) C)
    ((congrFun (congrFun (congrFun (congrFun (congrFun (congrFun (congrFun grace_tree (f0 0)) L) X) G) K) F) C).trans (true_of L X G K F C)) W

theorem walk (W : World) (args : Array Value) (h : ∀ (j : Nat) t v, Try.f5.params[j]? = some t → args[j]? = some v → Value.okWide Try.prog W .any 0 t v) (hs : args.size = 2) :
    Calls Try.prog 5 args W fun e w' => e = .returned (.bool true) ∧ Below W.heap.size W w' := by
  obtain ⟨L, X0, G, K, e0⟩ := plan_of (h 0 23 args[0] (by rw [Try.params5]; rfl) (Array.getElem?_eq_getElem (by omega)))
  obtain ⟨F, C, e1⟩ := run_of (h 1 25 args[1] (by rw [Try.params5]; rfl) (Array.getElem?_eq_getElem (by omega)))
  have hargs : args = #[args[0], args[1]] := by
    apply Array.ext (by simp [hs])
    intro k h1 h2
    match k with
    | 0 => rfl
    | 1 => rfl
    | k + 2 => omega
  rw [hargs, e0, e1]
  exact told W L X0 G K F C

set_option maxRecDepth 100000 in
theorem lifted (os : Os) (started : os.Started) (H : Type) (enc : TypeId × Value → H) :
    ReturnsInHanded {} Try.checked os 5 .any (Rows.ladderGraceSpec.pre6 enc Try.prog Try.f5 Rows.ladderGraceRow.domain false) (Rows.ladderGraceSpec.post enc Try.prog Try.f5 false true false false) := by
  refine returnsInHanded_of_change (C := Try.checked) ownNone started (by kernel_rfl) Try.func5
    (ChangeSpec.witness6 (enc := enc) (C := Try.checked) false ⟨#[], #[.agg #[.int .i64 0, .int .i64 0, .int .i64 0, .int .i64 0], .agg #[.int .i64 0, .int .i64 0]], []⟩ 8 (by kernel_rfl) (by kernel_rfl) (by kernel_rfl) (by kernel_rfl)) ?_
  intro W base args ds gs before hval hW hcnd _
  have hW' := hW
  obtain ⟨p, q, hA, hV, rfl, hfz, hnd⟩ := hW
  rw [Try.params5] at hA
  obtain ⟨v0, vs0, d0, ds0, p0, q0, hargs, rfl, rfl, h0, r0⟩ := trodAll_cons hA
  obtain ⟨v1, vs1, d1, ds1, p1, q1, rfl, rfl, rfl, h1, r1⟩ := trodAll_cons r0
  obtain ⟨rfl, rfl, rfl⟩ := trodAll_nil r1
  obtain ⟨rfl, rfl⟩ := trodVars_none hV
  have hsz : args.size = 2 := by rw [← Array.length_toList, hargs]; rfl
  refine (walk W args (fun j t v h1 h2 => hval j t v h1 h2) hsz).mono fun e W' ⟨he, hb⟩ => ?_
  subst he
  exact ⟨_, rfl, post_of_below (by kernel_rfl) (by kernel_rfl) (by kernel_rfl) Try.underlying4 rfl rfl hW' hb⟩

theorem over : Rows.ladderGraceRow.holds Try.pinned (OpenSpec.ofChange Rows.ladderGraceSpec) :=
  OpenClaim.holds_of_wide 5 Try.f5 rfl rfl rfl rfl rfl rfl rfl ⟨rfl, rfl, rfl, rfl, rfl⟩ rfl rfl rfl rfl rfl (by kernel_rfl) Try.func5 (by kernel_rfl)
    (of_decide_eq_true (by kernel_rfl)) (by unfold Func.isWrapper; first | (rw [if_pos (by decide +kernel)]; kernel_rfl) | (rw [if_neg (by decide +kernel)]; exact ⟨rfl, rfl⟩))
    (fun os started H enc _ => lifted os started H enc)
end Go.Proofs.Ytgakiaabcglchaa.ladderGrace

namespace Go.Proofs.Ytgakiaabcglchaa
theorem ladderGrace_holds : Rows.LadderGraceSaid := ladderGrace.over
#print axioms ladderGrace_holds
end Go.Proofs.Ytgakiaabcglchaa
