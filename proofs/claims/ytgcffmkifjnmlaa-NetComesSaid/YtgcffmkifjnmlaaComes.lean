/- NetComes: what is taken was sent, and what was made is what came, was lost, and is there. Without a condition. -/
import Derived.Test.YtgcffmkifjnmlaaNY
import Derived.Test.YtgcffmkifjnmlaaPJK
namespace Go.Proofs.Ytgcffmkifjnmlaa.netComes
open Go.Am Go.ChangeShapes Go.WideShapes Go.ChangeAt Go.RowKit Go.Proofs.Ytgcffmkifjnmlaa

set_option maxRecDepth 100000 in
theorem arg_int {W : World} {b : Nat} {v : Value} (o2 : Value.okWide Try.prog W .any b 3 v) : ∃ x, v = .int .i64 x := by
  unfold Value.okWide at o2
  rw [Try.underlying3] at o2
  obtain ⟨x, a2, _⟩ := cell_int Try.underlying3 o2
  exact ⟨x, a2⟩
theorem own : ownKnob Try.prog.godebug = none := by kernel_rfl
theorem i4_fn : cfC.fns 4 = some { body := b4, nt := ntOf 4, results := [.tmp 4], pure := false } := by kernel_rfl
theorem told (W : World) {v0 v1 : Value} {lo : List dOp.den} {x : Int} (wo : (DTy.slice dOp).wf lo) (h0 : v0 = .int .i64 x) (h1 : Abs W (VS (dOp.row lo) 0 lo.length) v1) :
    Calls Try.prog 4 #[v0, v1] W fun e w' => e = .returned (.bool true) ∧ Below W.heap.size W w' := by
  exact @law_of (zoneOf W) cfC (fun B => @goodC (zoneOf W) B) 0 (fun _ => ⟨0, 0, 0⟩) .nil W (@Laid.nil (zoneOf W) cfC rfl W (zoneOf_ok W)) 4 _ i4_fn #[.int .i64 x, VS (dOp.row lo) 0 lo.length] #[v0, v1]
    (@Arel.cons2 (zoneOf W) _ _ _ _ _ _ _ (by rw [h0]; exact @Vrel.int (zoneOf W) _ _ _ .i64 x) (h1.vrel _ _ _)) (by show 2 ≤ ntOf 4; rw [nt4]; decide)
    ((@law4 (dOp.row lo) lo.length x (zoneOf W) (sm_ok lo wo) (fun hs => ops_ok lo wo hs) W.heap.size).mono fun ex fr' s' hR => ⟨hR.1, resultsV_one (hR.2 (4, .bool true) (by simp)) rfl⟩)

set_option maxRecDepth 100000 in
theorem lifted (os : Os) (started : os.Started) (H : Type) (enc : TypeId × Value → H) :
    ReturnsInHanded {} Try.checked os 4 .any (Rows.netComesSpec.pre6 enc Try.prog Try.f4 Rows.netComesRow.domain false) (Rows.netComesSpec.post enc Try.prog Try.f4 false true false false) := by
  refine returnsInHanded_of_change (C := Try.checked) own started (by kernel_rfl) Try.func4
    (ChangeSpec.witness6 (enc := enc) (C := Try.checked) false ⟨#[], #[.int .i64 0, .slice none 0 0], []⟩ 8 (by kernel_rfl) (by kernel_rfl) (by kernel_rfl) (by kernel_rfl)) ?_
  intro W base args ds gs before hval hW hcnd _
  have hW' := hW
  obtain ⟨p, q, hA, hV, rfl, hfz, hnd⟩ := hW
  rw [Try.params4] at hA
  obtain ⟨v0, vs0, d0, ds0, p0, q0, hargs, rfl, rfl, h0, r0⟩ := trodAll_cons hA
  obtain ⟨v1, vs1, d1, ds1, p1, q1, rfl, rfl, rfl, h1, r1⟩ := trodAll_cons r0
  obtain ⟨rfl, rfl, rfl⟩ := trodAll_nil r1
  obtain ⟨rfl, rfl⟩ := trodVars_none hV
  have hsz : args.size = 2 := by rw [← Array.length_toList, hargs]; rfl
  have ea : args = #[v0, v1] := by
    apply Array.ext'
    rw [hargs]
  have k0 : args[0]? = some v0 := by rw [ea]; rfl
  have k1 : args[1]? = some v1 := by rw [ea]; rfl
  have o0 := hval 0 3 v0 (by rw [Try.params4]; rfl) k0
  have o1 := hval 1 22 v1 (by rw [Try.params4]; rfl) k1
  obtain ⟨x, a0⟩ := arg_int o0
  obtain ⟨lo, wo, a1⟩ := arg_slice code22 Try.underlying22 o1 h1
  have hres := told W wo a0 a1
  rw [← ea] at hres
  refine hres.mono fun e W' ⟨he, hb⟩ => ?_
  subst he
  exact ⟨_, rfl, post_of_below (by kernel_rfl) (by kernel_rfl) (by kernel_rfl) Try.underlying4 rfl rfl hW' hb⟩

theorem over : Rows.netComesRow.holds Try.pinned (OpenSpec.ofChange Rows.netComesSpec) :=
  OpenClaim.holds_of_wide 4 Try.f4 rfl rfl rfl rfl rfl rfl rfl ⟨rfl, rfl, rfl, rfl, rfl⟩ rfl rfl rfl rfl rfl (by kernel_rfl) Try.func4 (by kernel_rfl)
    (of_decide_eq_true (by kernel_rfl)) (by unfold Func.isWrapper; first | (rw [if_pos (by decide +kernel)]; kernel_rfl) | (rw [if_neg (by decide +kernel)]; exact ⟨rfl, rfl⟩))
    (fun os started H enc _ => lifted os started H enc)
end Go.Proofs.Ytgcffmkifjnmlaa.netComes

namespace Go.Proofs.Ytgcffmkifjnmlaa
theorem netComes_holds : Rows.NetComesSaid := netComes.over
#print axioms netComes_holds
end Go.Proofs.Ytgcffmkifjnmlaa
