/- TraceFree: of events that may be, of one job, in one epoch: when the job has ended on all its nodes, none of its steps has a core. Without a condition. -/
import Derived.Test.YtbhemcpmklkepaaN
import Derived.Test.YtbhemcpmklkepaaFq
namespace Go.Proofs.Ytbhemcpmklkepaa.traceFree
open Go.Am Go.ChangeShapes Go.WideShapes Go.ChangeAt Go.RowKit Go.Proofs.Ytbhemcpmklkepaa

theorem own : ownKnob Try.prog.godebug = none := by kernel_rfl
theorem i6_fn : cfgF.fns 6 = some { body := b6, nt := ntOf 6, results := [.tmp 4], pure := false } := by kernel_rfl
theorem told (W : World) {v0 v1 : Value} {lj : List dJob.den} {le : List dEv.den} (wj : (DTy.slice dJob).wf lj) (we : (DTy.slice dEv).wf le) (h0 : Abs W (VS (dJob.row lj) 0 lj.length) v0) (h1 : Abs W (VS (dEv.row le) 0 le.length) v1) :
    Calls Try.prog 6 #[v0, v1] W fun e w' => e = .returned (.bool true) ∧ Below W.heap.size W w' := by
  exact @law_of (zoneOf W) cfgF (fun B => @goodF (zoneOf W) B) 0 (fun _ => ⟨0, 0, 0⟩) .nil W (@Laid.nil (zoneOf W) cfgF rfl W (zoneOf_ok W)) 6 _ i6_fn #[VS (dJob.row lj) 0 lj.length, VS (dEv.row le) 0 le.length] #[v0, v1]
    (@Arel.cons2 (zoneOf W) _ _ _ _ _ _ _ (h0.vrel _ _ _) (h1.vrel _ _ _)) (by show 2 ≤ ntOf 6; decide)
    ((@ok6 (zoneOf W) W.heap.size _ _ _ _ _ _ (jobs_ok lj wj) (evs_ok le we.1)).mono fun ex fr' s' hR => ⟨hR.1, resultsV_one (hR.2 (4, .bool true) (by simp)) rfl⟩)

set_option maxRecDepth 100000 in
theorem lifted (os : Os) (started : os.Started) (H : Type) (enc : TypeId × Value → H) :
    ReturnsInHanded {} Try.checked os 6 .any (Rows.traceFreeSpec.pre6 enc Try.prog Try.f6 Rows.traceFreeRow.domain false) (Rows.traceFreeSpec.post enc Try.prog Try.f6 false true false false) := by
  refine returnsInHanded_of_change (C := Try.checked) own started (by kernel_rfl) Try.func6
    (ChangeSpec.witness6 (enc := enc) (C := Try.checked) false ⟨#[], #[.slice none 0 0, .slice none 0 0], []⟩ 8 (by kernel_rfl) (by kernel_rfl) (by kernel_rfl) (by kernel_rfl)) ?_
  intro W base args ds gs before hval hW hcnd _
  have hW' := hW
  obtain ⟨p, q, hA, hV, rfl, hfz, hnd⟩ := hW
  rw [Try.params6] at hA
  obtain ⟨v0, vs0, d0, ds0, p0, q0, hargs, rfl, rfl, h0, r0⟩ := trodAll_cons hA
  obtain ⟨v1, vs1, d1, ds1, p1, q1, rfl, rfl, rfl, h1, r1⟩ := trodAll_cons r0
  obtain ⟨rfl, rfl, rfl⟩ := trodAll_nil r1
  obtain ⟨rfl, rfl⟩ := trodVars_none hV
  have hsz : args.size = 2 := by rw [← Array.length_toList, hargs]; rfl
  have ea : args = #[v0, v1] := by
    apply Array.ext'
    rw [hargs]
  have k0 : args[0]? = some v0 := by rw [ea]; rfl
  have k1 : args[1]? = some v1 := by rw [ea]; rfl
  have o0 := hval 0 22 v0 (by rw [Try.params6]; rfl) k0
  have o1 := hval 1 23 v1 (by rw [Try.params6]; rfl) k1
  obtain ⟨lj, wj, a0⟩ := arg_slice code22 Try.underlying22 o0 h0
  obtain ⟨le, we, a1⟩ := arg_slice code23 Try.underlying23 o1 h1
  have hres := told W wj we a0 a1
  rw [← ea] at hres
  refine hres.mono fun e W' ⟨he, hb⟩ => ?_
  subst he
  exact ⟨_, rfl, post_of_below (by kernel_rfl) (by kernel_rfl) (by kernel_rfl) Try.underlying4 rfl rfl hW' hb⟩

theorem over : Rows.traceFreeRow.holds Try.pinned (OpenSpec.ofChange Rows.traceFreeSpec) :=
  OpenClaim.holds_of_wide 6 Try.f6 rfl rfl rfl rfl rfl rfl rfl ⟨rfl, rfl, rfl, rfl, rfl⟩ rfl rfl rfl rfl rfl (by kernel_rfl) Try.func6 (by kernel_rfl)
    (of_decide_eq_true (by kernel_rfl)) (by unfold Func.isWrapper; first | (rw [if_pos (by decide +kernel)]; kernel_rfl) | (rw [if_neg (by decide +kernel)]; exact ⟨rfl, rfl⟩))
    (fun os started H enc _ => lifted os started H enc)
end Go.Proofs.Ytbhemcpmklkepaa.traceFree

namespace Go.Proofs.Ytbhemcpmklkepaa
theorem traceFree_holds : Rows.TraceFreeSaid := traceFree.over
#print axioms traceFree_holds
end Go.Proofs.Ytbhemcpmklkepaa
