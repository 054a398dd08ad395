/- MaskTells: the cores of any mask, and whether it has any number, masks of any cores, and of the first ones, are what the document says. The card: the row's premise, the library's tables as the program's text lays them, is tied by the given tie. -/
import Derived.Test.YtmpokdnpkjcnbaaDoorVs
import Derived.Test.YtmpokdnpkjcnbaaDoorArgs
import Derived.Test.YtmpokdnpkjcnbaaDoorCards
namespace Go.Proofs.YtmpokdnpkjcnbaaDoor.maskTells
open Go.Am Go.ChangeShapes Go.WideShapes Go.ChangeAt Go.RowKit Go.Proofs.YtmpokdnpkjcnbaaDoor

theorem own : ownKnob Tryd.prog.godebug = none := by kernel_rfl
theorem i_fn : ∃ i, cfVp.fns 3 = some i := ⟨_, rfl⟩
theorem told (W : World) (hL : laidMetH Tryd.prog Rows.maskTellsRow.laid W) {v0 v1 v2 : Value} {m0 : B256} {l1 : List (DTy.int .i64).den} (w1 : (DTy.slice (.int .i64)).wf l1) {n2 : Int} (h0 : ∀ (φ : Nat → Pl) (k : Ctx) (n : Nat), @Vrel (zoneOf W) φ k n (mkB m0) v0) (h1 : Abs W (VS ((DTy.int .i64).row l1) 0 l1.length) v1) (h2 : v2 = .int .i64 n2) :
    Calls Tryd.prog 3 #[v0, v1, v2] W fun e w' => e = .returned (.bool true) ∧ Below W.heap.size W w' := by
  obtain ⟨v, s', hcall, hsh⟩ := law3 m0 _ 0 _ n2 (ints_ok l1 w1)
  cases shed_bool hsh
  obtain ⟨i, hi⟩ := i_fn
  have T : @Tab (zoneOf W) := tab_of hL
  exact @calls_of (zoneOf W) cfVp 0 60 (fun _ => ⟨0, 0, 0⟩) .nil W (@goodVp (zoneOf W) T _) (@Laid.nil (zoneOf W) cfVp rfl W (zoneOf_ok W)) 3 _ rfl hi #[mkB m0, VS ((DTy.int .i64).row l1) 0 l1.length, .int .i64 n2] #[v0, v1, v2]
    (@Arel.cons3 (zoneOf W) _ _ _ _ _ _ _ _ _ (h0 _ _ _) (h1.vrel _ _ _) (by rw [h2]; exact Vrel.int (Z := zoneOf W) _ _)) true s' hcall

set_option maxRecDepth 100000 in
theorem lifted (os : Os) (started : os.Started) (H : Type) (enc : TypeId × Value → H) :
    ReturnsInHanded {} Tryd.checked os 3 .any (fun w args => (Rows.maskTellsSpec.pre enc Tryd.prog Tryd.f3 Rows.maskTellsRow.domain false w args ∧ laidMetH Tryd.prog Rows.maskTellsRow.laid w) ∧ sizedMet enc Tryd.prog Tryd.f3 (OpenSpec.ofChange Rows.maskTellsSpec) false w args)
      (Rows.maskTellsSpec.post enc Tryd.prog Tryd.f3 false true false false) := by
  refine returnsInHanded_of_change_and (C := Tryd.checked) (X := fun w _ => laidMetH Tryd.prog Rows.maskTellsRow.laid w) (fun _ _ _ hh h => h.of_heap hh) own started (by kernel_rfl) Tryd.func3
    (ChangeSpec.witness_shaped (enc := enc) (C := Tryd.checked) (os := os) (X := fun w _ => laidMetH Tryd.prog Rows.maskTellsRow.laid w) false (World.laidAll Tryd.prog os Rows.maskTellsRow.laid)
      #[.agg #[.int .u64 0, .int .u64 0, .int .u64 0, .int .u64 0], .slice none 0 0, .int .i64 0] 8 (World.laidAll_os _ _ _)
      (World.shaped_of_ZipB (by kernel_rfl) (by kernel_rfl)) (by kernel_rfl) (by kernel_rfl) (by kernel_rfl)
      (by rw [MakeChecks.laidMetH_plain _ _ _ (by kernel_rfl)]; exact laidMet_laidAll _ (by kernel_rfl) (by kernel_rfl))) ?_
  intro W base args ds gs before hval hW hcnd _ hL _
  have hW' := hW
  obtain ⟨p, q, hA, hV, rfl, hfz, hnd⟩ := hW
  rw [Tryd.params3] at hA
  obtain ⟨v0, vs0, d0, ds0, q0, r0, hargs, rfl, rfl, h0, s0_⟩ := trodAll_cons hA
  obtain ⟨v1, vs1, d1, ds1, q1, r1, rfl, rfl, rfl, h1, s1_⟩ := trodAll_cons s0_
  obtain ⟨v2, vs2, d2, ds2, q2, r2, rfl, rfl, rfl, h2, s2_⟩ := trodAll_cons s1_
  obtain ⟨rfl, rfl, rfl⟩ := trodAll_nil s2_
  obtain ⟨rfl, rfl⟩ := trodVars_none hV
  have ea : args = #[v0, v1, v2] := by
    apply Array.ext'
    rw [hargs]
  have k0 : args[0]? = some v0 := by rw [ea]; rfl
  have k1 : args[1]? = some v1 := by rw [ea]; rfl
  have k2 : args[2]? = some v2 := by rw [ea]; rfl
  have o0 := hval 0 24 v0 (by rw [Tryd.params3]; rfl) k0
  have o1 := hval 1 25 v1 (by rw [Tryd.params3]; rfl) k1
  have o2 := hval 2 3 v2 (by rw [Tryd.params3]; rfl) k2
  obtain ⟨_, a0⟩ := arg_set o0 h0
  obtain ⟨_, w1, a1⟩ := arg_ints o1 h1
  obtain ⟨_, a2⟩ := arg_int o2 h2
  have hres := told W hL w1 a0 a1 a2
  rw [← ea] at hres
  refine hres.mono fun e W' ⟨he, hb⟩ => ?_
  subst he
  exact ⟨_, rfl, post_of_below (by kernel_rfl) (by kernel_rfl) (by kernel_rfl) Tryd.underlying4 rfl rfl hW' hb⟩

theorem over : Rows.MaskTellsSaid :=
  OpenClaim.holds_of_wide 3 Tryd.f3 rfl rfl rfl rfl rfl rfl rfl ⟨rfl, rfl, rfl, rfl, rfl⟩ rfl rfl rfl rfl rfl (by kernel_rfl) Tryd.func3 (by kernel_rfl)
    (of_decide_eq_true (by kernel_rfl)) (by unfold Func.isWrapper; first | (rw [if_pos (by decide +kernel)]; kernel_rfl) | (rw [if_neg (by decide +kernel)]; exact ⟨rfl, rfl⟩))
    (fun os started H enc _ => lifted os started H enc)
end Go.Proofs.YtmpokdnpkjcnbaaDoor.maskTells

namespace Go.Proofs.YtmpokdnpkjcnbaaDoor
theorem maskTells_holds : Rows.MaskTellsCardSaid :=
  Claim7.holds_tied_plain_at .later [] [.data, .data, .data, .data, .sentinel, .sentinel, .pinned] true (true, "433b3d7bbde3ca705b8a51c39459c7e4445242a4cc22b138d8881f3d53b8e29f") true
    maskTells.over (fun _ h => by cases h) (by kernel_rfl) (fun _ h => by cases h) maskTells_row_tie rfl ⟨rfl, rfl⟩ (by kernel_rfl) rfl
    (fun f fn hf hfn => by
      obtain rfl : f = 3 := Option.some.inj ((show Tryd.prog.funcNamed "roundhouse/roundhouselaw03.MaskTells" = some 3 by kernel_rfl).symm.trans hf) |>.symm
      obtain rfl : fn = Tryd.f3 := (Option.some.inj (Tryd.func3.symm.trans hfn)).symm
      exact ⟨by kernel_rfl, fun j t ht => by
        rw [Tryd.params3] at ht
        have hm : t ∈ [24, 25, 3] := by simpa using Array.mem_of_getElem? ht
        have hall : ([24, 25, 3].all fun u => !Tryd.prog.wantsStandIn u) = true := by kernel_rfl
        exact (show Tryd.prog.wantsStandIn t = false by simpa using List.all_eq_true.1 hall t hm)⟩)
    (by kernel_rfl)
#print axioms maskTells_holds
end Go.Proofs.YtmpokdnpkjcnbaaDoor
