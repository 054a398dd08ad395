/- LadderRises: stages never fall with time; between two times as many begin as the stage rises. Without a condition. -/
import Derived.Test.YtgakiaabcglchaaG
import Derived.Test.YtgakiaabcglchaaK
namespace Go.Proofs.Ytgakiaabcglchaa.ladderRises
open Go.Am Go.ChangeShapes Go.WideShapes Go.ChangeAt Go.RowKit Go.Proofs.Ytgakiaabcglchaa

def stB (b0 b1 b2 b3 b4 : Bool) : Int := if b4 then 4 else if b3 then 3 else if b2 then 2 else if b1 then 1 else if b0 then 0 else -1
def okB (b0 b1 b2 b3 b4 : Bool) : Bool := (!b4 || b3) && (!b3 || b2) && (!b2 || b1) && (!b1 || b0)
def leB (b0 b1 b2 b3 b4 c0 c1 c2 c3 c4 : Bool) : Bool := (!b0 || c0) && (!b1 || c1) && (!b2 || c2) && (!b3 || c3) && (!b4 || c4)
def goal (b0 b1 b2 b3 b4 c0 c1 c2 c3 c4 : Bool) : Bool :=
  let l := lst (!b0 && c0) (!b1 && c1) (!b2 && c2) (!b3 && c3) (!b4 && c4)
  decide (stB b0 b1 b2 b3 b4 ≤ stB c0 c1 c2 c3 c4) && decide (Int.ofNat l.length = stB c0 c1 c2 c3 c4 - stB b0 b1 b2 b3 b4) && (List.range l.length).all fun i => decide (Int.ofNat (l.getD i 0) = stB b0 b1 b2 b3 b4 + 1 + Int.ofNat i)
theorem goal_ok : ∀ b0 b1 b2 b3 b4 c0 c1 c2 c3 c4 : Bool, okB b0 b1 b2 b3 b4 = true → okB c0 c1 c2 c3 c4 = true → leB b0 b1 b2 b3 b4 c0 c1 c2 c3 c4 = true → goal b0 b1 b2 b3 b4 c0 c1 c2 c3 c4 = true := by decide +kernel

theorem stV_eq {L W G K F C N : Int} (h : May L W G K F C) : stV L W G K F C N = stB (decide (rg0 L W G K F C ≤ N)) (decide (rg1 L W G K F C ≤ N)) (decide (endV L W G K F C ≤ N)) (decide (rg3 L W G K F C ≤ N)) (decide (rg4 L W G K F C ≤ N)) := by
  simp only [stV, if_pos h, stB, decide_eq_true_eq]

theorem mono {L W G K F C : Int} (h : May L W G K F C) : rg0 L W G K F C ≤ rg1 L W G K F C ∧ rg1 L W G K F C ≤ endV L W G K F C ∧ endV L W G K F C ≤ rg3 L W G K F C ∧ rg3 L W G K F C ≤ rg4 L W G K F C := by
  have he := end_le h
  have a := h
  unfold May Chk at a
  simp only [rg0, rg1, rg3, rg4, if_pos h]
  refine ⟨?_, ?_, by omega, by omega⟩
  · split <;> omega
  · split <;> omega

theorem imp_le {a b : Int} {N : Int} (h : a ≤ b) : (!decide (b ≤ N) || decide (a ≤ N)) = true := by
  by_cases e : b ≤ N
  · simp [e]; omega
  · simp [e]
theorem imp_at {a X Y : Int} (h : X ≤ Y) : (!decide (a ≤ X) || decide (a ≤ Y)) = true := by
  by_cases e : a ≤ X
  · simp [e]; omega
  · simp [e]
theorem not_gt (a X : Int) : decide (a > X) = !decide (a ≤ X) := by
  by_cases e : a ≤ X <;> simp [e] <;> omega

theorem pk_of {L W G K F C X Y : Int} (h : May L W G K F C) (hXY : X ≤ Y) : stV L W G K F C X ≤ stV L W G K F C Y ∧ Int.ofNat (pk L W G K F C X Y).length = stV L W G K F C Y - stV L W G K F C X ∧
    ∀ i, i < (pk L W G K F C X Y).length → Int.ofNat ((pk L W G K F C X Y).getD i 0) = stV L W G K F C X + 1 + Int.ofNat i := by
  obtain ⟨m0, m1, m2, m3⟩ := mono h
  rw [stV_eq h, stV_eq h, pk_lst, decide_eq_true h]
  simp only [Bool.true_and, not_gt]
  have := goal_ok (decide (rg0 L W G K F C ≤ X)) (decide (rg1 L W G K F C ≤ X)) (decide (endV L W G K F C ≤ X)) (decide (rg3 L W G K F C ≤ X)) (decide (rg4 L W G K F C ≤ X))
    (decide (rg0 L W G K F C ≤ Y)) (decide (rg1 L W G K F C ≤ Y)) (decide (endV L W G K F C ≤ Y)) (decide (rg3 L W G K F C ≤ Y)) (decide (rg4 L W G K F C ≤ Y))
    (by simp only [okB, imp_le m0, imp_le m1, imp_le m2, imp_le m3, Bool.and_self]) (by simp only [okB, imp_le m0, imp_le m1, imp_le m2, imp_le m3, Bool.and_self]) (by simp only [leB, imp_at hXY, Bool.and_self])
  simp only [goal, Bool.and_eq_true, decide_eq_true_eq, List.all_eq_true, List.mem_range] at this
  exact ⟨this.1.1, this.1.2, this.2⟩

theorem stV_range (L W G K F C N : Int) : -1 ≤ stV L W G K F C N ∧ stV L W G K F C N ≤ 4 := by
  unfold stV
  repeat' split
  all_goals omega

theorem riseL_true {f : Nat → Int} {a : Int} (ha : -1 ≤ a ∧ a ≤ 4) : ∀ (n i : Nat) (k : Int), k = Int.ofNat i → i + n ≤ 5 → (∀ j, j < i + n → f j = a + 1 + Int.ofNat j) → riseL f a n i k = true := by
  intro n
  induction n with
  | zero => intro i k _ _ _; rfl
  | succ n ih =>
    intro i k hk hle hf
    have hk' : k = (i : Int) := hk
    have e1 : IntKind.wrap .i64 (a + 1) = a + 1 := w64 (by omega) (by omega)
    have e2 : IntKind.wrap .i64 (IntKind.wrap .i64 (a + 1) + k) = a + 1 + k := by rw [e1]; exact w64 (by omega) (by omega)
    have e3 : IntKind.wrap .i64 (k + 1) = k + 1 := w64 (by omega) (by omega)
    have hfi := hf i (by omega)
    simp only [riseL]
    rw [e2, hfi, hk, bne_self_eq_false, ← hk]
    simp only [cond_false]
    exact ih (i + 1) _ (by rw [e3, hk']; rfl) (by omega) (fun j hj => hf j (by omega))

theorem len_le (L W G K F C X Y : Int) : (pk L W G K F C X Y).length ≤ 5 := by
  rw [pk_lst]
  have : ∀ a b c d e : Bool, (lst a b c d e).length ≤ 5 := by decide +kernel
  exact this _ _ _ _ _

theorem true_of (L W G K F C X Y : Int) : risesT (pk L W G K F C X Y).length (f0 (pk L W G K F C X Y).length) L W G K F C X Y = true := by
  unfold risesT
  rw [f0_eq]
  simp only []
  by_cases c1 : X > Y
  · rw [decide_eq_true c1]; rfl
  rw [decide_eq_false c1]
  by_cases h : May L W G K F C
  · obtain ⟨p1, p2, p3⟩ := pk_of h (show X ≤ Y by omega)
    have r1 := stV_range L W G K F C X
    have r2 := stV_range L W G K F C Y
    have hr : riseL (fun i => Int.ofNat ((pk L W G K F C X Y).getD i 0)) (stV L W G K F C X) (pk L W G K F C X Y).length 0 0 = true :=
      riseL_true r1 _ 0 0 rfl (by have := len_le L W G K F C X Y; omega) (fun j hj => p3 j (by omega))
    rw [hr, show decide True = true from rfl, decide_eq_false (Int.not_lt.2 p1), w64 (n := stV L W G K F C Y - stV L W G K F C X) (by omega) (by omega), p2, bne_self_eq_false]
    cases decide (endV L W G K F C < 0) <;> rfl
  · rw [show decide (endV L W G K F C < 0) = true from decide_eq_true (by simp only [endV, if_neg h]; omega)]
    rfl

theorem ends {a0 a1 a2 a3 a4 a5 b0 b1 b2 b3 b4 b5 : Bool} (h : [a0, a1, a2, a3, a4, a5] = [b0, b1, b2, b3, b4, b5]) : a0 = b0 ∧ a1 = b1 ∧ a2 = b2 ∧ a3 = b3 ∧ a4 = b4 ∧ a5 = b5 := by
  simp only [List.cons.injEq, and_true] at h
  exact h
theorem tree (n : Nat) (h : n ≤ 5) (p : Fs) (L W G K F C X Y : Int) : risesC n p L W G K F C X Y = risesT n p L W G K F C X Y := by
  obtain ⟨t0, t1, t2, t3, t4, t5⟩ := ends (congrFun (congrFun (congrFun (congrFun (congrFun (congrFun (congrFun (congrFun (congrFun rises_tree p) L) W) G) K) F) C) X) Y)
  match n, h with
  | 0, _ => exact t0
  | 1, _ => exact t1
  | 2, _ => exact t2
  | 3, _ => exact t3
  | 4, _ => exact t4
  | 5, _ => exact t5
  | n + 6, h => omega

theorem plainT : (fun L W G K F C X Y => (#[pl L W G K, rn F C, .agg #[.int .i64 X, .int .i64 Y]] : Array Value).all (plainN 9)) = fun _ _ _ _ _ _ _ _ => true := by kernel_rfl
theorem told (W : World) (L X0 G K F C X Y : Int) : Calls Try.prog 4 #[pl L X0 G K, rn F C, .agg #[.int .i64 X, .int .i64 Y]] W fun e w' => e = .returned (.bool true) ∧ Below W.heap.size W w' :=
  run_law (t4_ok (f0 (pk L X0 G K F C X Y).length) _) (good4 _) rfl rfl rfl ⟨_, rfl⟩ (congrFun (congrFun (congrFun (congrFun (congrFun (congrFun (congrFun (congrFun plainT L) X0) G) K) F) C) X) Y)
    ((tree _ (len_le L X0 G K F C X Y) _ L X0 G K F C X Y).trans (true_of L X0 G K F C X Y)) W

theorem walk (W : World) (args : Array Value) (h : ∀ (j : Nat) t v, Try.f4.params[j]? = some t → args[j]? = some v → Value.okWide Try.prog W .any 0 t v) (hs : args.size = 3) :
    Calls Try.prog 4 args W fun e w' => e = .returned (.bool true) ∧ Below W.heap.size W w' := by
  obtain ⟨L, X0, G, K, e0⟩ := plan_of (h 0 23 args[0] (by rw [Try.params4]; rfl) (Array.getElem?_eq_getElem (by omega)))
  obtain ⟨F, C, e1⟩ := run_of (h 1 25 args[1] (by rw [Try.params4]; rfl) (Array.getElem?_eq_getElem (by omega)))
  obtain ⟨X, Y, e2⟩ := times_of (h 2 26 args[2] (by rw [Try.params4]; rfl) (Array.getElem?_eq_getElem (by omega)))
  have hargs : args = #[args[0], args[1], args[2]] := by
    apply Array.ext (by simp [hs])
    intro k h1 h2
    match k with
    | 0 => rfl
    | 1 => rfl
    | 2 => rfl
    | k + 3 => omega
  rw [hargs, e0, e1, e2]
  exact told W L X0 G K F C X Y

set_option maxRecDepth 100000 in
theorem lifted (os : Os) (started : os.Started) (H : Type) (enc : TypeId × Value → H) :
    ReturnsInHanded {} Try.checked os 4 .any (Rows.ladderRisesSpec.pre6 enc Try.prog Try.f4 Rows.ladderRisesRow.domain false) (Rows.ladderRisesSpec.post enc Try.prog Try.f4 false true false false) := by
  refine returnsInHanded_of_change (C := Try.checked) ownNone started (by kernel_rfl) Try.func4
    (ChangeSpec.witness6 (enc := enc) (C := Try.checked) false ⟨#[], #[.agg #[.int .i64 0, .int .i64 0, .int .i64 0, .int .i64 0], .agg #[.int .i64 0, .int .i64 0], .agg #[.int .i64 0, .int .i64 0]], []⟩ 8 (by kernel_rfl) (by kernel_rfl) (by kernel_rfl) (by kernel_rfl)) ?_
  intro W base args ds gs before hval hW hcnd _
  have hW' := hW
  obtain ⟨p, q, hA, hV, rfl, hfz, hnd⟩ := hW
  rw [Try.params4] at hA
  obtain ⟨v0, vs0, d0, ds0, p0, q0, hargs, rfl, rfl, h0, r0⟩ := trodAll_cons hA
  obtain ⟨v1, vs1, d1, ds1, p1, q1, rfl, rfl, rfl, h1, r1⟩ := trodAll_cons r0
  obtain ⟨v2, vs2, d2, ds2, p2, q2, rfl, rfl, rfl, h2, r2⟩ := trodAll_cons r1
  obtain ⟨rfl, rfl, rfl⟩ := trodAll_nil r2
  obtain ⟨rfl, rfl⟩ := trodVars_none hV
  have hsz : args.size = 3 := by rw [← Array.length_toList, hargs]; rfl
  refine (walk W args (fun j t v h1 h2 => hval j t v h1 h2) hsz).mono fun e W' ⟨he, hb⟩ => ?_
  subst he
  exact ⟨_, rfl, post_of_below (by kernel_rfl) (by kernel_rfl) (by kernel_rfl) Try.underlying4 rfl rfl hW' hb⟩

theorem over : Rows.ladderRisesRow.holds Try.pinned (OpenSpec.ofChange Rows.ladderRisesSpec) :=
  OpenClaim.holds_of_wide 4 Try.f4 rfl rfl rfl rfl rfl rfl rfl ⟨rfl, rfl, rfl, rfl, rfl⟩ rfl rfl rfl rfl rfl (by kernel_rfl) Try.func4 (by kernel_rfl)
    (of_decide_eq_true (by kernel_rfl)) (by unfold Func.isWrapper; first | (rw [if_pos (by decide +kernel)]; kernel_rfl) | (rw [if_neg (by decide +kernel)]; exact ⟨rfl, rfl⟩))
    (fun os started H enc _ => lifted os started H enc)
end Go.Proofs.Ytgakiaabcglchaa.ladderRises

namespace Go.Proofs.Ytgakiaabcglchaa
theorem ladderRises_holds : Rows.LadderRisesSaid := ladderRises.over
#print axioms ladderRises_holds
end Go.Proofs.Ytgakiaabcglchaa
