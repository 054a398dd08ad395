import Derived.Test.YtmpokdnpkjcnbaaDoorSHH
import Derived.Test.YtmpokdnpkjcnbaaDoorHa
import Derived.WalkKit
import Derived.BigCall
import Derived.Test.YtmpokdnpkjcnbaaDoorVAD
/- The number of a word, over the shelf's contract on strconv.Atoi. -/
namespace Go.Proofs.YtmpokdnpkjcnbaaDoor
open Go.Shelf Go.RowKit
/-- the number of a word; below 0: it is none -/
def numI (s : ByteArray) : Int := match Lib.atoiAll s.data.toList with
  | .ok v => if 0 ≤ v ∧ v < 256 then v else -1
  | _ => -1
set_option maxRecDepth 100000 in
theorem core_calls (v : Int) (b : Bool) (hb : b = (decide (0 ≤ v) && decide (v < 256))) (w : World) : Calls Tryd.prog 34 #[.int .i64 v] w fun e w' => e = .returned (.bool b) ∧ w' = w := by
  subst hb
  by_cases h0 : v ≥ 0
  · by_cases h1 : v < 256
    · have e0 : decide (0 ≤ v) = true := decide_eq_true h0
      go_enter Tryd.func34, Tryd.ntmps34
      go_wp2
      go_ret
      simp [h0, h1]
    · go_enter Tryd.func34, Tryd.ntmps34
      go_wp2
      go_ret
      simp [h0, h1]
  · go_enter Tryd.func34, Tryd.ntmps34
    go_wp2
    go_ret
    simp [h0]
    omega
set_option maxRecDepth 100000 in
theorem num_calls (s : ByteArray) (hlim : s.size ≤ 281474976710656) (w : World) (ev0 ev1 : Value) (hv0 : w.cell? ⟨3, 0, none⟩ = some ev0) (he0 : ev0 = .nilIface ∨ ∃ te pe, ev0 = .iface te pe) (hv1 : w.cell? ⟨4, 0, none⟩ = some ev1) (he1 : ev1 = .nilIface ∨ ∃ te pe, ev1 = .iface te pe) :
    Calls Tryd.prog 42 #[.string s] w fun e w' => e = .returned (.int .i64 (numI s)) ∧ Below w.heap.size w w' := by
  rcases h : Lib.atoiAll s.data.toList with v | _ | _
  ·
    by_cases hr : 0 ≤ v ∧ v < 256
    · have hn : numI s = v := by simp only [numI, h, if_pos hr]
      rw [hn]
      go_enter Tryd.func42, Tryd.ntmps42
      go_wp2_with (go_at_call 55; refine (Tryd.strconv_Atoi_ok s (by omega) v h _).mono ?_; rintro e w' ⟨rfl, hw⟩)
      go_wp2_with (go_at_call 34; refine (core_calls v true (by simp [hr]) _).mono ?_; rintro e w1 ⟨rfl, rfl⟩)
      go_ret
      refine ⟨rfl, ?_⟩
      rcases hw with rfl | ⟨t, rfl⟩
      · exact Below.refl _ _
      · exact Lib.bytesWorld_below _ _ _
    · have hn : numI s = -1 := by simp only [numI, h, if_neg hr]
      rw [hn]
      go_enter Tryd.func42, Tryd.ntmps42
      go_wp2_with (go_at_call 55; refine (Tryd.strconv_Atoi_ok s (by omega) v h _).mono ?_; rintro e w' ⟨rfl, hw⟩)
      go_wp2_with (go_at_call 34; refine (core_calls v false (by simp; omega) _).mono ?_; rintro e w1 ⟨rfl, rfl⟩)
      go_ret
      refine ⟨rfl, ?_⟩
      rcases hw with rfl | ⟨t, rfl⟩
      · exact Below.refl _ _
      · exact Lib.bytesWorld_below _ _ _
  ·
    have hr : numI s = -1 := by simp only [numI, h]
    rw [hr]
    go_enter Tryd.func42, Tryd.ntmps42
    go_wp2_with (go_at_call 55; refine (Tryd.strconv_Atoi_syntax s hlim h ev0 _ ?_ he0).mono ?_)
    · exact hv0
    rintro e W1 ⟨N, rfl, -, -, hb⟩
    go_wp2
    go_ret
    exact ⟨rfl, hb⟩
  ·
    have hr : numI s = -1 := by simp only [numI, h]
    rw [hr]
    go_enter Tryd.func42, Tryd.ntmps42
    go_wp2_with (go_at_call 55; refine (Tryd.strconv_Atoi_range s hlim h ev1 _ ?_ he1).mono ?_)
    · exact hv1
    rintro e W1 ⟨N, rfl, -, -, hb⟩
    go_wp2
    go_ret
    exact ⟨rfl, hb⟩
end Go.Proofs.YtmpokdnpkjcnbaaDoor

/- The number of a word, told. -/
namespace Go.Proofs.YtmpokdnpkjcnbaaDoor
open Go.Am Go.RowKit
noncomputable section
def numF (args : Array Value) (_ : Ctx) (_ : St) : DT (Option Value) :=
  match args with
  | ⟨[.string s]⟩ => .must (decide (s.size ≤ 281474976710656)) (.leaf (some (.int .i64 (numI s)))) (.leaf none)
  | _ => .leaf none
theorem num_ok [Z : Zone] [T : Tab] {g : Cfg} (hP : g.P = Tryd.prog) : ShelfOk g 42 numF := by
  intro args c s v h
  unfold numF at h
  split at h
  · rename_i t
    rw [DT.eval_must] at h
    cases hc : decide (t.size ≤ 281474976710656) with
    | false => rw [hc] at h; cases h
    | true =>
      rw [hc, cond_true, DT.eval_leaf] at h
      cases h
      refine ⟨rfl, fun base φ ω w args' hs ha => ?_⟩
      rw [args_plain ha (by simp [plainN]), hP]
      obtain ⟨t0, p0, h0⟩ := syn_is hs
      obtain ⟨t1, p1, h1⟩ := rng_is hs
      exact num_calls t (of_decide_eq_true hc) w _ _ h0 (.inr ⟨_, _, rfl⟩) h1 (.inr ⟨_, _, rfl⟩)
  · cases h
def TW : FuncId → Option (Array Value → Ctx → St → DT (Option Value))
  | 42 => some numF
  | _ => none
def cfW : Cfg := cfVd.shelf TW
theorem goodW [Z : Zone] [T : Tab] (B : Base) : Go.Am.Good cfW B := shelf_good (fun B => goodVd B) (fun f F h => by
  unfold TW at h
  split at h
  · cases h; exact ⟨⟨_, rfl⟩, num_ok rfl⟩
  · cases h) B
def tW : FuncId → Option HandT := treeS TW tVd
theorem tW_ok : ∀ f k hd, tW f = some k → cfW.hand f = some hd → ∀ a c s, (k a c s).eval = hd a c s := treeS_ok tVd_ok
end
end Go.Proofs.YtmpokdnpkjcnbaaDoor
