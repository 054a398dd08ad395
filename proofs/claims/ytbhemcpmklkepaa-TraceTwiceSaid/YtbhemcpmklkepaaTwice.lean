/- TraceTwice: no event of a kind, a node, and a step may be twice, whatever stands between. Without a condition. -/
import Derived.Test.YtbhemcpmklkepaaN
import Derived.Test.YtbhemcpmklkepaaY
namespace Go.Proofs.Ytbhemcpmklkepaa.traceTwice
open Go.Am Go.ChangeShapes Go.WideShapes Go.ChangeAt Go.RowKit Go.Proofs.Ytbhemcpmklkepaa

set_option maxRecDepth 100000 in
theorem arg_int {W : World} {b : Nat} {v : Value} (o2 : Value.okWide Try.prog W .any b 3 v) : ∃ x, v = .int .i64 x := by
  unfold Value.okWide at o2
  rw [Try.underlying3] at o2
  obtain ⟨x, a2, _⟩ := cell_int Try.underlying3 o2
  exact ⟨x, a2⟩
theorem own : ownKnob Try.prog.godebug = none := by kernel_rfl
theorem i5_fn : cfgQ.fns 5 = some { body := b5, nt := ntOf 5, results := [.tmp 6], pure := false } := by kernel_rfl
theorem told (W : World) {v0 v1 v2 : Value} {lj : List dJob.den} {le : List dEv.den} {x : Int} (wj : (DTy.slice dJob).wf lj) (we : (DTy.slice dEv).wf le) (h0 : Abs W (VS (dJob.row lj) 0 lj.length) v0) (h1 : Abs W (VS (dEv.row le) 0 le.length) v1) (h2 : v2 = .int .i64 x) :
    Calls Try.prog 5 #[v0, v1, v2] W fun e w' => e = .returned (.bool true) ∧ Below W.heap.size W w' := by
  exact @law_of (zoneOf W) cfgQ (fun B => @goodQ (zoneOf W) B) 0 (fun _ => ⟨0, 0, 0⟩) .nil W (@Laid.nil (zoneOf W) cfgQ rfl W (zoneOf_ok W)) 5 _ i5_fn #[VS (dJob.row lj) 0 lj.length, VS (dEv.row le) 0 le.length, .int .i64 x] #[v0, v1, v2]
    (@Arel.cons3 (zoneOf W) _ _ _ _ _ _ _ _ _ (h0.vrel _ _ _) (h1.vrel _ _ _) (by rw [h2]; exact intArg _ _)) (by show 3 ≤ ntOf 5; decide)
    ((@ok5 (zoneOf W) W.heap.size _ _ _ _ _ _ x (jobs_ok lj wj) (evs_ok le we.1)).mono fun ex fr' s' hR => ⟨hR.1, resultsV_one (hR.2 (6, .bool true) (by simp)) rfl⟩)

set_option maxRecDepth 100000 in
theorem lifted (os : Os) (started : os.Started) (H : Type) (enc : TypeId × Value → H) :
    ReturnsInHanded {} Try.checked os 5 .any (Rows.traceTwiceSpec.pre6 enc Try.prog Try.f5 Rows.traceTwiceRow.domain false) (Rows.traceTwiceSpec.post enc Try.prog Try.f5 false true false false) := by
  refine returnsInHanded_of_change (C := Try.checked) own started (by kernel_rfl) Try.func5
    (ChangeSpec.witness6 (enc := enc) (C := Try.checked) false ⟨#[], #[.slice none 0 0, .slice none 0 0, .int .i64 0], []⟩ 8 (by kernel_rfl) (by kernel_rfl) (by kernel_rfl) (by kernel_rfl)) ?_
  intro W base args ds gs before hval hW hcnd _
  have hW' := hW
  obtain ⟨p, q, hA, hV, rfl, hfz, hnd⟩ := hW
  rw [Try.params5] at hA
  obtain ⟨v0, vs0, d0, ds0, p0, q0, hargs, rfl, rfl, h0, r0⟩ := trodAll_cons hA
  obtain ⟨v1, vs1, d1, ds1, p1, q1, rfl, rfl, rfl, h1, r1⟩ := trodAll_cons r0
  obtain ⟨v2, vs2, d2, ds2, p2, q2, rfl, rfl, rfl, h2, r2⟩ := trodAll_cons r1
  obtain ⟨rfl, rfl, rfl⟩ := trodAll_nil r2
  obtain ⟨rfl, rfl⟩ := trodVars_none hV
  have hsz : args.size = 3 := by rw [← Array.length_toList, hargs]; rfl
  have ea : args = #[v0, v1, v2] := by
    apply Array.ext'
    rw [hargs]
  have k0 : args[0]? = some v0 := by rw [ea]; rfl
  have k1 : args[1]? = some v1 := by rw [ea]; rfl
  have k2 : args[2]? = some v2 := by rw [ea]; rfl
  have o0 := hval 0 22 v0 (by rw [Try.params5]; rfl) k0
  have o1 := hval 1 23 v1 (by rw [Try.params5]; rfl) k1
  have o2 := hval 2 3 v2 (by rw [Try.params5]; rfl) k2
  obtain ⟨lj, wj, a0⟩ := arg_slice code22 Try.underlying22 o0 h0
  obtain ⟨le, we, a1⟩ := arg_slice code23 Try.underlying23 o1 h1
  obtain ⟨x, a2⟩ := arg_int o2
  have hres := told W wj we a0 a1 a2
  rw [← ea] at hres
  refine hres.mono fun e W' ⟨he, hb⟩ => ?_
  subst he
  exact ⟨_, rfl, post_of_below (by kernel_rfl) (by kernel_rfl) (by kernel_rfl) Try.underlying4 rfl rfl hW' hb⟩

theorem over : Rows.traceTwiceRow.holds Try.pinned (OpenSpec.ofChange Rows.traceTwiceSpec) :=
  OpenClaim.holds_of_wide 5 Try.f5 rfl rfl rfl rfl rfl rfl rfl ⟨rfl, rfl, rfl, rfl, rfl⟩ rfl rfl rfl rfl rfl (by kernel_rfl) Try.func5 (by kernel_rfl)
    (of_decide_eq_true (by kernel_rfl)) (by unfold Func.isWrapper; first | (rw [if_pos (by decide +kernel)]; kernel_rfl) | (rw [if_neg (by decide +kernel)]; exact ⟨rfl, rfl⟩))
    (fun os started H enc _ => lifted os started H enc)
end Go.Proofs.Ytbhemcpmklkepaa.traceTwice

namespace Go.Proofs.Ytbhemcpmklkepaa
theorem traceTwice_holds : Rows.TraceTwiceSaid := traceTwice.over
#print axioms traceTwice_holds
end Go.Proofs.Ytbhemcpmklkepaa
