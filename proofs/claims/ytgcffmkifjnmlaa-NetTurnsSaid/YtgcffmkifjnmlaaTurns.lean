/- NetTurns: a place counts from the front, over and over: taken at i, or at i less three times the number of messages, a net gives the same message and has the same left. Without a condition. -/
import Derived.Test.YtgcffmkifjnmlaaRows
import Derived.Test.YtgcffmkifjnmlaaU9
import Derived.ProofKit
import Derived.SliceStrings
namespace Go.Proofs.Ytgcffmkifjnmlaa.netTurns
open Go.Am Go.ChangeShapes Go.WideShapes Go.ChangeAt Go.RowKit Go.Proofs.Ytgcffmkifjnmlaa

theorem own : ownKnob Try.prog.godebug = none := by kernel_rfl
def rowOfS (ss : List ByteArray) : Array Value := ⟨ss.map Value.string⟩
theorem rowOfS_str (ss : List ByteArray) : Str (rowOfS ss) := by
  intro i x hx
  have : (ss.map Value.string)[i]? = some x := by simpa [rowOfS] using hx
  rw [List.getElem?_map] at this
  obtain ⟨b, _, rfl⟩ := Option.map_eq_some_iff.1 this
  exact ⟨b, rfl⟩

/-- A list of texts, laid. -/
theorem laid_strs {W : World} {blk off : Nat} {ss : List ByteArray} (hb : blk < W.heap.size) (hc : ∀ i, i < ss.length → W.cell? ⟨blk, off + i, none⟩ = some (.string (ss.getD i ByteArray.empty))) : Laid cfg2 1 (fun _ => ⟨blk, off, 0⟩) (heap1 (rowOfS ss)).heap W := by
  have hget : ∀ id o, (heap1 (rowOfS ss)).heap.get id = some o → id = 0 ∧ o = .cells (rowOfS ss) 1 false := by
    intro id o h
    simp only [heap1] at h
    rw [Tr.get_node] at h
    split at h
    · rename_i e; cases h; exact ⟨e, rfl⟩
    · split at h <;> (rw [Tr.get_nil] at h; cases h)
  refine ⟨fun id o h => by rw [(hget id o h).1]; exact Nat.zero_lt_one, fun id o h => ?_, fun id _ => hb, fun i hi => by cases hi⟩
  obtain ⟨rfl, rfl⟩ := hget id o h
  refine ⟨fun _ => rfl, fun hs => ?_⟩
  have hsz : (rowOfS ss).size = ss.length := by simp [rowOfS]
  have hpos : 0 < ss.length := by
    rcases hs with hs | hs
    · omega
    · cases hs
  have hrow : ∃ c el fz, W.heap[blk]? = some (.cells c el fz) ∧ ∀ i, i < ss.length → c[off + i]? = some (.string (ss.getD i ByteArray.empty)) := by
    have h0 := hc 0 hpos
    unfold World.cell? at h0
    split at h0
    · rename_i c el fz hh
      refine ⟨c, el, fz, hh, fun i hi => ?_⟩
      have hi' := hc i hi
      unfold World.cell? at hi'
      rw [hh] at hi'
      simpa using hi'
    · cases h0
  obtain ⟨c, el, fz, h1, h2⟩ := hrow
  refine ⟨c, el, fz, h1, fun h => by simp only at h; omega, ?_, fun i x hx => ?_⟩
  · have := (Array.getElem?_eq_some_iff.1 (h2 (ss.length - 1) (by omega))).1
    simp only [hsz]; omega
  · have hx' : (ss.map Value.string)[i]? = some x := by simpa [rowOfS] using hx
    obtain ⟨hi, _⟩ := List.getElem?_eq_some_iff.1 hx'
    have hi' : i < ss.length := by simpa using hi
    refine ⟨_, h2 i hi', ?_⟩
    rw [List.getElem?_map, List.getElem?_eq_getElem hi'] at hx'
    cases hx'
    rw [List.getD_eq_getElem?_getD, List.getElem?_eq_getElem hi']
    exact .string _

theorem arel2 {φ : Nat → Pl} {c : Ctx} {n : Nat} {a b a' b' : Value} (ha : Vrel φ c n a a') (hb : Vrel φ c n b b') : Arel φ c n #[a, b] #[a', b'] := by
  refine ⟨rfl, fun i x x' hx hx' => ?_⟩
  match i with
  | 0 => simp at hx hx'; subst hx hx'; exact ha
  | 1 => simp at hx hx'; subst hx hx'; exact hb
  | i + 2 => simp at hx

theorem fns7 : cfg2.fns 7 = some { body := b7, nt := 77, results := [.tmp 4], pure := false } := by kernel_rfl

theorem told_nil (W : World) (M : Int) : Calls Try.prog 7 #[.slice none 0 0, .int .i64 M] W fun e w' => e = .returned (.bool true) ∧ Below W.heap.size W w' :=
  law_of (g := cfg2) (φ := fun _ => ⟨0, 0, 0⟩) (h := .nil) (n := 0) good2 (Laid.nil rfl W) fns7 (args := #[.slice none 0 0, .int .i64 M]) (arel2 (.nilSlice _ _) (.int _ _)) (by show 2 ≤ 77; omega) (turns_nil)

theorem told_some (W : World) (M : Int) {blk off len cap : Nat} {ss : List ByteArray} (hb : blk < W.heap.size) (hl : len ≤ ss.length) (hlc : len ≤ cap) (hc : ∀ i, i < ss.length → W.cell? ⟨blk, off + i, none⟩ = some (.string (ss.getD i ByteArray.empty))) :
    Calls Try.prog 7 #[.slice (some ⟨blk, off, none⟩) len cap, .int .i64 M] W fun e w' => e = .returned (.bool true) ∧ Below W.heap.size W w' :=
  law_of (g := cfg2) (n := 1) good2 (laid_strs hb hc) fns7 (args := #[.slice (some ⟨0, 0, none⟩) len cap, .int .i64 M]) (arel2 (.slice (φ := fun _ => ⟨blk, off, 0⟩) 0 0 len cap ⟨by omega, rfl⟩) (.int _ _)) (by show 2 ≤ 77; omega)
    (turns_ok (rowOfS_str ss) (by simpa [rowOfS] using hl) hlc)

theorem walk {H : Type} {enc : TypeId × Value → H} {W : World} {b : Nat} {v0 v1 : Value} {d0 : DataW H} {p0 : List MemPlace} (o0 : Value.okWide Try.prog W .any b 30 v0) (o1 : Value.okWide Try.prog W .any b 3 v1) (h0 : DataW.Trod enc Try.prog W 0 (fun _ => true) true 30 v0 d0 p0) :
    Calls Try.prog 7 #[v0, v1] W fun e w' => e = .returned (.bool true) ∧ Below W.heap.size W w' := by
  unfold Value.okWide at o0 o1
  rw [Try.underlying30] at o0
  rw [Try.underlying3] at o1
  obtain ⟨M, rfl, _⟩ := cell_int Try.underlying3 o1
  obtain ⟨fuel, h0⟩ := h0
  rcases cell_slice Try.underlying30 o0 with rfl | ⟨blk, off, l, cp, rfl, hb, hlc⟩
  · exact told_nil W M
  · rcases open_strings (e := 9) Try.underlying30 Try.underlying9 (by kernel_rfl) h0 with ⟨e, _⟩ | ⟨a, len, cap, ss, e, _, _, _, hss, _, hcell, _⟩
    · cases e
    · have e' : (Value.slice (some ⟨blk, off, none⟩) l cp) = Value.slice (some a) len cap := by
        have : [Value.slice (some ⟨blk, off, none⟩) l cp] = [Value.slice (some a) len cap] := e
        simpa using this
      cases e'
      refine told_some W M (ss := ss) hb ?_ hlc fun i hi => ?_
      · rw [hss]; simp only [if_true]; exact hlc
      · have hx := hcell i hi
        unfold Addr.add at hx
        split at hx
        · rename_i e0; subst e0; exact hx
        · exact hx

set_option maxRecDepth 100000 in
theorem lifted (os : Os) (started : os.Started) (H : Type) (enc : TypeId × Value → H) :
    ReturnsInHanded {} Try.checked os 7 .any (Rows.netTurnsSpec.pre6 enc Try.prog Try.f7 Rows.netTurnsRow.domain false) (Rows.netTurnsSpec.post enc Try.prog Try.f7 false true false false) := by
  refine returnsInHanded_of_change (C := Try.checked) own started (by kernel_rfl) Try.func7
    (ChangeSpec.witness6 (enc := enc) (C := Try.checked) false ⟨#[], #[.slice none 0 0, .int .i64 0], []⟩ 8 (by kernel_rfl) (by kernel_rfl) (by kernel_rfl) (by kernel_rfl)) ?_
  intro W base args ds gs before hval hW hcnd _
  have hW' := hW
  obtain ⟨p, q, hA, hV, rfl, hfz, hnd⟩ := hW
  rw [Try.params7] at hA
  obtain ⟨v0, vs0, d0, ds0, p0, q0, hargs, rfl, rfl, h0, r0⟩ := trodAll_cons hA
  obtain ⟨v1, vs1, d1, ds1, p1, q1, rfl, rfl, rfl, h1, r1⟩ := trodAll_cons r0
  obtain ⟨rfl, rfl, rfl⟩ := trodAll_nil r1
  obtain ⟨rfl, rfl⟩ := trodVars_none hV
  have hsz : args.size = 2 := by rw [← Array.length_toList, hargs]; rfl
  have ea : args = #[v0, v1] := by
    apply Array.ext'
    rw [hargs]
  have k0 : args[0]? = some v0 := by rw [ea]; rfl
  have k1 : args[1]? = some v1 := by rw [ea]; rfl
  have o0 := hval 0 30 v0 (by rw [Try.params7]; rfl) k0
  have o1 := hval 1 3 v1 (by rw [Try.params7]; rfl) k1
  have hres := walk (W := W) (b := base) o0 o1 h0
  rw [← ea] at hres
  refine hres.mono fun e W' ⟨he, hb⟩ => ?_
  subst he
  exact ⟨_, rfl, post_of_below (by kernel_rfl) (by kernel_rfl) (by kernel_rfl) Try.underlying4 rfl rfl hW' hb⟩

theorem over : Rows.netTurnsRow.holds Try.pinned (OpenSpec.ofChange Rows.netTurnsSpec) :=
  OpenClaim.holds_of_wide 7 Try.f7 rfl rfl rfl rfl rfl rfl rfl ⟨rfl, rfl, rfl, rfl, rfl⟩ rfl rfl rfl rfl rfl (by kernel_rfl) Try.func7 (by kernel_rfl)
    (of_decide_eq_true (by kernel_rfl)) (by unfold Func.isWrapper; first | (rw [if_pos (by decide +kernel)]; kernel_rfl) | (rw [if_neg (by decide +kernel)]; exact ⟨rfl, rfl⟩))
    (fun os started H enc _ => lifted os started H enc)
end Go.Proofs.Ytgcffmkifjnmlaa.netTurns

namespace Go.Proofs.Ytgcffmkifjnmlaa
theorem netTurns_holds : Rows.NetTurnsSaid := netTurns.over
#print axioms netTurns_holds
end Go.Proofs.Ytgcffmkifjnmlaa
