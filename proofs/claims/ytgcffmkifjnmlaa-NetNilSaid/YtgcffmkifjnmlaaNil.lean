/- NetNil: whatever is asked of a net that is none, it has nothing. Without a condition. -/
import Derived.Test.YtgcffmkifjnmlaaRows
import Derived.Test.YtgcffmkifjnmlaaGood
import Derived.ProofKit
namespace Go.Proofs.Ytgcffmkifjnmlaa.netNil
open Go.Am Go.ChangeShapes Go.WideShapes Go.ChangeAt Go.RowKit

theorem own : ownKnob Try.prog.godebug = none := by kernel_rfl

theorem some_slice : (fun (i j : Int) (l cp : Nat) => isTrue (call cfg 60 (.func (.func 5) #[] #[]) #[.agg #[.int .i64 i, .slice (some ⟨0, 0, none⟩) l cp, .int .i64 j]] (ctx0 1) ⟨.nil, 1⟩)) = fun _ _ _ _ => true := by kernel_rfl
theorem no_slice : (fun (i j : Int) => isTrue (call cfg 60 (.func (.func 5) #[] #[]) #[.agg #[.int .i64 i, .slice none 0 0, .int .i64 j]] (ctx0 0) ⟨.nil, 0⟩)) = fun _ _ => true := by kernel_rfl

theorem fns5 : ∃ i, cfg.fns 5 = some i := ⟨_, rfl⟩

theorem agg3 {φ : Nat → Pl} {c : Ctx} {n : Nat} {a b d a' b' d' : Value} (ha : Vrel φ c n a a') (hb : Vrel φ c n b b') (hd : Vrel φ c n d d') : Arel φ c n #[.agg #[a, b, d]] #[.agg #[a', b', d']] := by
  refine ⟨rfl, fun i x x' hx hx' => ?_⟩
  match i with
  | 0 =>
    simp at hx hx'; subst hx hx'
    refine .agg _ _ rfl fun k y y' hy hy' => ?_
    match k with
    | 0 => simp at hy hy'; subst hy hy'; exact ha
    | 1 => simp at hy hy'; subst hy hy'; exact hb
    | 2 => simp at hy hy'; subst hy hy'; exact hd
    | k + 3 => simp at hy
  | i + 1 => simp at hx

theorem walk (W : World) (args : Array Value) (h : ∀ (j : Nat) t v, Try.f5.params[j]? = some t → args[j]? = some v → Value.okWide Try.prog W .any 0 t v) (hs : args.size = 1) :
    Calls Try.prog 5 args W fun e w' => e = .returned (.bool true) ∧ Below W.heap.size W w' := by
  obtain ⟨i, hi⟩ := fns5
  have hv := h 0 32 args[0] (by rw [Try.params5]; rfl) (Array.getElem?_eq_getElem (by omega))
  have hargs : args = #[args[0]] := by
    apply Array.ext (by simp [hs])
    intro k h1 h2
    have : k = 0 := by omega
    subst this; simp
  rw [hargs]
  generalize args[0] = v at hv
  unfold Value.okWide at hv
  rw [Try.underlying32] at hv
  simp only at hv
  obtain ⟨cs, rfl, hsz, ts, hts, _, hc⟩ := hv
  have hsz' : cs.size = 3 := hsz.trans (by kernel_rfl)
  have hts' : ts = [3, 30, 3] := by
    have : Try.prog.cellTypes Try.prog.depth 32 = some [3, 30, 3] := by kernel_rfl
    rw [this] at hts; cases hts; rfl
  subst hts'
  have h0 := hc 0 cs[0] (Array.getElem?_eq_getElem (by omega))
  have h1 := hc 1 cs[1] (Array.getElem?_eq_getElem (by omega))
  have h2 := hc 2 cs[2] (Array.getElem?_eq_getElem (by omega))
  have hcs : cs = #[cs[0], cs[1], cs[2]] := by
    apply Array.ext (by simp [hsz'])
    intro k h3 h4
    match k with
    | 0 => rfl
    | 1 => rfl
    | 2 => rfl
    | k + 3 => omega
  rw [hcs]
  generalize cs[0] = v0 at h0
  generalize cs[1] = v1 at h1
  generalize cs[2] = v2 at h2
  obtain ⟨u, hu, h0⟩ := h0; cases hu
  obtain ⟨u, hu, h1⟩ := h1; cases hu
  obtain ⟨u, hu, h2⟩ := h2; cases hu
  obtain ⟨n0, rfl, _⟩ := cell_int Try.underlying3 h0
  obtain ⟨n2, rfl, _⟩ := cell_int Try.underlying3 h2
  rcases cell_slice Try.underlying30 h1 with rfl | ⟨blk, off, l, cp, rfl, hb, _⟩
  · obtain ⟨s', hx⟩ := of_isTrue (congrFun (congrFun no_slice n0) n2)
    exact calls_of (good _) (Laid.nil rfl W) rfl hi (agg3 (.int _ _) (.nilSlice _ _) (.int _ _)) hx
  · obtain ⟨s', hx⟩ := of_isTrue (congrFun (congrFun (congrFun (congrFun some_slice n0) n2) l) cp)
    have L : Laid cfg 1 (fun _ => ⟨blk, off, 0⟩) .nil W := ⟨fun id o h => by simp [Tr.get_nil] at h, fun id o h => by simp [Tr.get_nil] at h, fun id _ => hb, fun i h => by cases h⟩
    exact calls_of (good _) L rfl hi (agg3 (.int _ _) (.slice (φ := fun _ => ⟨blk, off, 0⟩) 0 0 l cp ⟨by omega, rfl⟩) (.int _ _)) hx

set_option maxRecDepth 100000 in
theorem lifted (os : Os) (started : os.Started) (H : Type) (enc : TypeId × Value → H) :
    ReturnsInHanded {} Try.checked os 5 .any (Rows.netNilSpec.pre6 enc Try.prog Try.f5 Rows.netNilRow.domain false) (Rows.netNilSpec.post enc Try.prog Try.f5 false true false false) := by
  refine returnsInHanded_of_change (C := Try.checked) own started (by kernel_rfl) Try.func5
    (ChangeSpec.witness6 (enc := enc) (C := Try.checked) false ⟨#[], #[.agg #[.int .i64 0, .slice none 0 0, .int .i64 0]], []⟩ 8 (by kernel_rfl) (by kernel_rfl) (by kernel_rfl) (by kernel_rfl)) ?_
  intro W base args ds gs before hval hW hcnd _
  have hW' := hW
  obtain ⟨p, q, hA, hV, rfl, hfz, hnd⟩ := hW
  rw [Try.params5] at hA
  obtain ⟨v0, vs0, d0, ds0, p0, q0, hargs, rfl, rfl, h0, r0⟩ := trodAll_cons hA
  obtain ⟨rfl, rfl, rfl⟩ := trodAll_nil r0
  obtain ⟨rfl, rfl⟩ := trodVars_none hV
  have hsz : args.size = 1 := by rw [← Array.length_toList, hargs]; rfl
  refine (walk W args (fun j t v h1 h2 => hval j t v h1 h2) hsz).mono fun e W' ⟨he, hb⟩ => ?_
  subst he
  exact ⟨_, rfl, post_of_below (by kernel_rfl) (by kernel_rfl) (by kernel_rfl) Try.underlying4 rfl rfl hW' hb⟩

theorem over : Rows.netNilRow.holds Try.pinned (OpenSpec.ofChange Rows.netNilSpec) :=
  OpenClaim.holds_of_wide 5 Try.f5 rfl rfl rfl rfl rfl rfl rfl ⟨rfl, rfl, rfl, rfl, rfl⟩ rfl rfl rfl rfl rfl (by kernel_rfl) Try.func5 (by kernel_rfl)
    (of_decide_eq_true (by kernel_rfl)) (by unfold Func.isWrapper; first | (rw [if_pos (by decide +kernel)]; kernel_rfl) | (rw [if_neg (by decide +kernel)]; exact ⟨rfl, rfl⟩))
    (fun os started H enc _ => lifted os started H enc)
end Go.Proofs.Ytgcffmkifjnmlaa.netNil

namespace Go.Proofs.Ytgcffmkifjnmlaa
theorem netNil_holds : Rows.NetNilSaid := netNil.over
#print axioms netNil_holds
end Go.Proofs.Ytgcffmkifjnmlaa
