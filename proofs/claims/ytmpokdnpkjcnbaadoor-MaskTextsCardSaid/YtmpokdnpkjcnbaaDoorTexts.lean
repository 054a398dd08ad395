/- MaskTexts: the text of any mask is the document's, and of any text the mask that is told. The card: the row's premise, the library's tables and errors as the program's text lays them, is tied by the given tie. -/
import Derived.Test.YtmpokdnpkjcnbaaDoorXKM
import Derived.Test.YtmpokdnpkjcnbaaDoorArgs
import Derived.Test.YtmpokdnpkjcnbaaDoorWm
import Derived.Test.YtmpokdnpkjcnbaaDoorCards
namespace Go.Proofs.YtmpokdnpkjcnbaaDoor.maskTexts
open Go.Am Go.ChangeShapes Go.WideShapes Go.ChangeAt Go.RowKit Go.Proofs.YtmpokdnpkjcnbaaDoor

theorem own : ownKnob Tryd.prog.godebug = none := by kernel_rfl
theorem i_fn : ∃ i, cfXj.fns 4 = some i := ⟨_, rfl⟩
theorem told (W : World) (hL : laidMetH Tryd.prog Rows.maskTextsRow.laid W) {v0 v1 : Value} {m0 : B256} {s1 : ByteArray} (h0 : ∀ (φ : Nat → Pl) (k : Ctx) (n : Nat), @Vrel (zoneOf W) φ k n (mkB m0) v0) (h1 : v1 = .string s1) :
    Calls Tryd.prog 4 #[v0, v1] W fun e w' => e = .returned (.bool true) ∧ Below W.heap.size W w' := by
  obtain ⟨v, s', hcall, hsh⟩ := law4 m0 s1
  cases shed_bool hsh
  obtain ⟨i, hi⟩ := i_fn
  have T : @Tab (zoneOf W) := tab_of hL
  exact @calls_of (zoneOf W) cfXj 0 60 (fun _ => ⟨0, 0, 0⟩) .nil W (@goodXj (zoneOf W) T _) (@Laid.nil (zoneOf W) cfXj rfl W (zoneOf_ok W)) 4 _ rfl hi #[mkB m0, .string s1] #[v0, v1]
    (@Arel.cons2 (zoneOf W) _ _ _ _ _ _ _ (h0 _ _ _) (by rw [h1]; exact Vrel.string (Z := zoneOf W) _)) true s' hcall

set_option maxRecDepth 100000 in
theorem lifted (os : Os) (started : os.Started) (H : Type) (enc : TypeId × Value → H) :
    ReturnsInHanded {} Tryd.checked os 4 .any (fun w args => (Rows.maskTextsSpec.pre enc Tryd.prog Tryd.f4 Rows.maskTextsRow.domain false w args ∧ laidMetH Tryd.prog Rows.maskTextsRow.laid w) ∧ sizedMet enc Tryd.prog Tryd.f4 (OpenSpec.ofChange Rows.maskTextsSpec) false w args)
      (Rows.maskTextsSpec.post enc Tryd.prog Tryd.f4 false true false false) := by
  refine returnsInHanded_of_change_and (C := Tryd.checked) (X := fun w _ => laidMetH Tryd.prog Rows.maskTextsRow.laid w) (fun _ _ _ hh h => h.of_heap hh) own started (by kernel_rfl) Tryd.func4
    (ChangeSpec.witness_shaped (enc := enc) (C := Tryd.checked) (os := os) (X := fun w _ => laidMetH Tryd.prog Rows.maskTextsRow.laid w) false (World.laidAll Tryd.prog os Rows.maskTextsRow.laid)
      #[.agg #[.int .u64 0, .int .u64 0, .int .u64 0, .int .u64 0], .string ⟨#[]⟩] 8 (World.laidAll_os _ _ _)
      (World.shaped_of_ZipB (by kernel_rfl) (by kernel_rfl)) (by kernel_rfl) (by kernel_rfl) (by kernel_rfl)
      (by rw [MakeChecks.laidMetH_plain _ _ _ (by kernel_rfl)]; exact laidMet_laidAll _ (by kernel_rfl) (by kernel_rfl))) ?_
  intro W base args ds gs before hval hW hcnd _ hL _
  have hW' := hW
  obtain ⟨p, q, hA, hV, rfl, hfz, hnd⟩ := hW
  rw [Tryd.params4] at hA
  obtain ⟨v0, vs0, d0, ds0, q0, r0, hargs, rfl, rfl, h0, s0_⟩ := trodAll_cons hA
  obtain ⟨v1, vs1, d1, ds1, q1, r1, rfl, rfl, rfl, h1, s1_⟩ := trodAll_cons s0_
  obtain ⟨rfl, rfl, rfl⟩ := trodAll_nil s1_
  obtain ⟨rfl, rfl⟩ := trodVars_none hV
  have ea : args = #[v0, v1] := by
    apply Array.ext'
    rw [hargs]
  have k0 : args[0]? = some v0 := by rw [ea]; rfl
  have k1 : args[1]? = some v1 := by rw [ea]; rfl
  have o0 := hval 0 24 v0 (by rw [Tryd.params4]; rfl) k0
  have o1 := hval 1 9 v1 (by rw [Tryd.params4]; rfl) k1
  obtain ⟨_, a0⟩ := arg_set o0 h0
  obtain ⟨_, a1⟩ := arg_str o1 h1
  have hres := told W hL  a0 a1
  rw [← ea] at hres
  refine hres.mono fun e W' ⟨he, hb⟩ => ?_
  subst he
  exact ⟨_, rfl, post_of_below (by kernel_rfl) (by kernel_rfl) (by kernel_rfl) Tryd.underlying4 rfl rfl hW' hb⟩

theorem over : Rows.MaskTextsSaid :=
  OpenClaim.holds_of_wide 4 Tryd.f4 rfl rfl rfl rfl rfl rfl rfl ⟨rfl, rfl, rfl, rfl, rfl⟩ rfl rfl rfl rfl rfl (by kernel_rfl) Tryd.func4 (by kernel_rfl)
    (of_decide_eq_true (by kernel_rfl)) (by unfold Func.isWrapper; first | (rw [if_pos (by decide +kernel)]; kernel_rfl) | (rw [if_neg (by decide +kernel)]; exact ⟨rfl, rfl⟩))
    (fun os started H enc _ => lifted os started H enc)
end Go.Proofs.YtmpokdnpkjcnbaaDoor.maskTexts

namespace Go.Proofs.YtmpokdnpkjcnbaaDoor
theorem maskTexts_holds : Rows.MaskTextsCardSaid :=
  Claim7.holds_tied_plain_at .later [] [.data, .data, .data, .data, .sentinel, .sentinel, .pinned] true (true, "433b3d7bbde3ca705b8a51c39459c7e4445242a4cc22b138d8881f3d53b8e29f") true
    maskTexts.over (fun _ h => by cases h) (by kernel_rfl) (fun _ h => by cases h) maskTexts_row_tie rfl ⟨rfl, rfl⟩ (by kernel_rfl) rfl
    (fun f fn hf hfn => by
      obtain rfl : f = 4 := Option.some.inj ((show Tryd.prog.funcNamed "roundhouse/roundhouselaw03.MaskTexts" = some 4 by kernel_rfl).symm.trans hf) |>.symm
      obtain rfl : fn = Tryd.f4 := (Option.some.inj (Tryd.func4.symm.trans hfn)).symm
      exact ⟨by kernel_rfl, fun j t ht => by
        rw [Tryd.params4] at ht
        have hm : t ∈ [24, 9] := by simpa using Array.mem_of_getElem? ht
        have hall : ([24, 9].all fun u => !Tryd.prog.wantsStandIn u) = true := by kernel_rfl
        exact (show Tryd.prog.wantsStandIn t = false by simpa using List.all_eq_true.1 hall t hm)⟩)
    (by kernel_rfl)
#print axioms maskTexts_holds
end Go.Proofs.YtmpokdnpkjcnbaaDoor
