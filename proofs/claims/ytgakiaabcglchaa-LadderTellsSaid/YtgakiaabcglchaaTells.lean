/- LadderTells: the rungs, the end, and the stage at any time, of any plan and run. Without a condition. -/
import Derived.Test.YtgakiaabcglchaaF0
import Derived.Test.YtgakiaabcglchaaF1
import Derived.Test.YtgakiaabcglchaaF2
import Derived.Test.YtgakiaabcglchaaF3
import Derived.Test.YtgakiaabcglchaaF4
import Derived.Test.YtgakiaabcglchaaF5
import Derived.Test.YtgakiaabcglchaaK
namespace Go.Proofs.Ytgakiaabcglchaa.ladderTells
open Go.Am Go.ChangeShapes Go.WideShapes Go.ChangeAt Go.RowKit Go.Proofs.Ytgakiaabcglchaa

theorem sameL_true (f : Nat → Int) : ∀ n i, sameL f n i = true := by
  intro n
  induction n with
  | zero => intro i; rfl
  | succ n ih => intro i; simp [sameL, ih]

theorem true_of (L W G K F C X Y : Int) : tellsT (pk L W G K F C X Y).length (f0 (pk L W G K F C X Y).length) L W G K F C X Y = true := by
  simp only [tellsT, sameL_true]
  rw [f0_eq]
  simp

theorem len_le (L W G K F C X Y : Int) : (pk L W G K F C X Y).length ≤ 5 := by
  rw [pk_lst]
  have : ∀ a b c d e : Bool, (lst a b c d e).length ≤ 5 := by decide +kernel
  exact this _ _ _ _ _

theorem tree (n : Nat) (h : n ≤ 5) (p : Fs) (L W G K F C X Y : Int) : tellsC n p L W G K F C X Y = tellsT n p L W G K F C X Y := by
  match n, h with
  | 0, _ => exact congrFun (congrFun (congrFun (congrFun (congrFun (congrFun (congrFun (congrFun (congrFun tells_tree0 p) L) W) G) K) F) C) X) Y
  | 1, _ => exact congrFun (congrFun (congrFun (congrFun (congrFun (congrFun (congrFun (congrFun (congrFun tells_tree1 p) L) W) G) K) F) C) X) Y
  | 2, _ => exact congrFun (congrFun (congrFun (congrFun (congrFun (congrFun (congrFun (congrFun (congrFun tells_tree2 p) L) W) G) K) F) C) X) Y
  | 3, _ => exact congrFun (congrFun (congrFun (congrFun (congrFun (congrFun (congrFun (congrFun (congrFun tells_tree3 p) L) W) G) K) F) C) X) Y
  | 4, _ => exact congrFun (congrFun (congrFun (congrFun (congrFun (congrFun (congrFun (congrFun (congrFun tells_tree4 p) L) W) G) K) F) C) X) Y
  | 5, _ => exact congrFun (congrFun (congrFun (congrFun (congrFun (congrFun (congrFun (congrFun (congrFun tells_tree5 p) L) W) G) K) F) C) X) Y
  | n + 6, h => omega

theorem plainT : (fun L W G K F C X Y => (#[pl L W G K, rn F C, .agg #[.int .i64 X, .int .i64 Y]] : Array Value).all (plainN 9)) = fun _ _ _ _ _ _ _ _ => true := by kernel_rfl
theorem told (W : World) (L X0 G K F C X Y : Int) : Calls Try.prog 3 #[pl L X0 G K, rn F C, .agg #[.int .i64 X, .int .i64 Y]] W fun e w' => e = .returned (.bool true) ∧ Below W.heap.size W w' :=
  run_law (t4_ok (f0 (pk L X0 G K F C X Y).length) _) (good4 _) rfl rfl rfl ⟨_, rfl⟩ (congrFun (congrFun (congrFun (congrFun (congrFun (congrFun (congrFun (congrFun plainT L) X0) G) K) F) C) X) Y)
    ((tree _ (len_le L X0 G K F C X Y) _ L X0 G K F C X Y).trans (true_of L X0 G K F C X Y)) W

theorem walk (W : World) (args : Array Value) (h : ∀ (j : Nat) t v, Try.f3.params[j]? = some t → args[j]? = some v → Value.okWide Try.prog W .any 0 t v) (hs : args.size = 3) :
    Calls Try.prog 3 args W fun e w' => e = .returned (.bool true) ∧ Below W.heap.size W w' := by
  obtain ⟨L, X0, G, K, e0⟩ := plan_of (h 0 23 args[0] (by rw [Try.params3]; rfl) (Array.getElem?_eq_getElem (by omega)))
  obtain ⟨F, C, e1⟩ := run_of (h 1 25 args[1] (by rw [Try.params3]; rfl) (Array.getElem?_eq_getElem (by omega)))
  obtain ⟨X, Y, e2⟩ := times_of (h 2 26 args[2] (by rw [Try.params3]; rfl) (Array.getElem?_eq_getElem (by omega)))
  have hargs : args = #[args[0], args[1], args[2]] := by
    apply Array.ext (by simp [hs])
    intro k h1 h2
    match k with
    | 0 => rfl
    | 1 => rfl
    | 2 => rfl
    | k + 3 => omega
  rw [hargs, e0, e1, e2]
  exact told W L X0 G K F C X Y

set_option maxRecDepth 100000 in
theorem lifted (os : Os) (started : os.Started) (H : Type) (enc : TypeId × Value → H) :
    ReturnsInHanded {} Try.checked os 3 .any (Rows.ladderTellsSpec.pre6 enc Try.prog Try.f3 Rows.ladderTellsRow.domain false) (Rows.ladderTellsSpec.post enc Try.prog Try.f3 false true false false) := by
  refine returnsInHanded_of_change (C := Try.checked) ownNone started (by kernel_rfl) Try.func3
    (ChangeSpec.witness6 (enc := enc) (C := Try.checked) false ⟨#[], #[.agg #[.int .i64 0, .int .i64 0, .int .i64 0, .int .i64 0], .agg #[.int .i64 0, .int .i64 0], .agg #[.int .i64 0, .int .i64 0]], []⟩ 8 (by kernel_rfl) (by kernel_rfl) (by kernel_rfl) (by kernel_rfl)) ?_
  intro W base args ds gs before hval hW hcnd _
  have hW' := hW
  obtain ⟨p, q, hA, hV, rfl, hfz, hnd⟩ := hW
  rw [Try.params3] at hA
  obtain ⟨v0, vs0, d0, ds0, p0, q0, hargs, rfl, rfl, h0, r0⟩ := trodAll_cons hA
  obtain ⟨v1, vs1, d1, ds1, p1, q1, rfl, rfl, rfl, h1, r1⟩ := trodAll_cons r0
  obtain ⟨v2, vs2, d2, ds2, p2, q2, rfl, rfl, rfl, h2, r2⟩ := trodAll_cons r1
  obtain ⟨rfl, rfl, rfl⟩ := trodAll_nil r2
  obtain ⟨rfl, rfl⟩ := trodVars_none hV
  have hsz : args.size = 3 := by rw [← Array.length_toList, hargs]; rfl
  refine (walk W args (fun j t v h1 h2 => hval j t v h1 h2) hsz).mono fun e W' ⟨he, hb⟩ => ?_
  subst he
  exact ⟨_, rfl, post_of_below (by kernel_rfl) (by kernel_rfl) (by kernel_rfl) Try.underlying4 rfl rfl hW' hb⟩

theorem over : Rows.ladderTellsRow.holds Try.pinned (OpenSpec.ofChange Rows.ladderTellsSpec) :=
  OpenClaim.holds_of_wide 3 Try.f3 rfl rfl rfl rfl rfl rfl rfl ⟨rfl, rfl, rfl, rfl, rfl⟩ rfl rfl rfl rfl rfl (by kernel_rfl) Try.func3 (by kernel_rfl)
    (of_decide_eq_true (by kernel_rfl)) (by unfold Func.isWrapper; first | (rw [if_pos (by decide +kernel)]; kernel_rfl) | (rw [if_neg (by decide +kernel)]; exact ⟨rfl, rfl⟩))
    (fun os started H enc _ => lifted os started H enc)
end Go.Proofs.Ytgakiaabcglchaa.ladderTells

namespace Go.Proofs.Ytgakiaabcglchaa
theorem ladderTells_holds : Rows.LadderTellsSaid := ladderTells.over
#print axioms ladderTells_holds
end Go.Proofs.Ytgakiaabcglchaa
