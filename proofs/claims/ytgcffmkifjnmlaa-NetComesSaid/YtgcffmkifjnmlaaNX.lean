/- NetScripts: the law, walked. -/
import Derived.Test.YtgcffmkifjnmlaaNW
namespace Go.Proofs.Ytgcffmkifjnmlaa
open Go.Am
noncomputable section
theorem leavesK_some {L K : List Nat} {r : Option (Ex × Fr × St)} {ex : Ex} {vs : List (Option Value)} {hs : List (Option AObj)} (h : leavesK L K r = some (ex, vs, hs)) : ∃ fr s, r = some (ex, fr, s) ∧ L.map fr.tm.get = vs ∧ K.map s.heap.get = hs := by
  unfold leavesK at h
  split at h
  · simp only [Option.some.injEq, Prod.mk.injEq] at h
    obtain ⟨rfl, h2, h3⟩ := h
    exact ⟨_, _, rfl, h2, h3⟩
  · cases h
theorem rObs2_some {r : Option (Ex × Fr × St)} {ex : Ex} {f : FuncId × Nat × Option Nat} {vs : List (Option Value)} {hs : List (Option AObj)} {n : Nat} (h : rObs2 r = some (ex, f, vs, hs, n)) : ∃ fr s, r = some (ex, fr, s) ∧ (fr.fn, fr.nt, fr.round) = f ∧ [1, 5, 6].map fr.tm.get = vs ∧ [0, 1, 2, 3].map s.heap.get = hs ∧ s.next = n := by
  unfold rObs2 at h
  split at h
  · simp only [Option.some.injEq, Prod.mk.injEq] at h
    obtain ⟨rfl, h2, h3, h4, h5⟩ := h
    exact ⟨_, _, rfl, h2, h3, h4, h5⟩
  · cases h
section
variable {X : Array Value} {n : Nat} {a : Int}
theorem retB {fr : Fr} {ex : Ex} {s : St} (hex : ex = .normal ∨ ex = .ret) (h : fr.tm.get 4 = some (.bool true)) : RetL [(4, .bool true)] ex fr s := ⟨hex, fun p hp => by simp only [List.mem_singleton] at hp; subst hp; exact h⟩
def net0 (a : Int) : Net := ⟨a, 0, true, #[]⟩
theorem net0_ok (h1 : 1 ≤ a) (h2 : a ≤ 1000) : netOk (net0 a) = true := netOk_iff.2 ⟨h1, h2, by show ((0 : Nat) : Int) ≤ a; omega, by show (0 : Int) ≤ 0; omega, by show (0 : Int) ≤ 1099511627776; omega, by simp [net0, strs], fun _ => rfl⟩
/-- three numbers: 0, 2, 1, 3 -/
def sw : Nat → Nat := fun i => if i = 0 then 0 else if i = 1 then 2 else if i = 2 then 1 else i
/-- Both nets, as they are made, seen where they should be. -/
theorem start_view {b : Nat} {fr : Fr} {s : St} (h1 : 1 ≤ a) (h2 : a ≤ 1000) (hf : (fr.fn, fr.nt, fr.round) = (3, 59, none)) (ht : [1, 5, 6].map fr.tm.get = [some (VS X 0 n), some (ptrV 0), some (ptrV 1)])
    (hh : [0, 1, 2, 3].map s.heap.get = [some (boxO false a 0 (.slice none 0 0)), some (boxO true a 0 (.slice none 0 0)), none, none]) : Sn ⟨0, b⟩ 0 0 cz (frP X 0 n) (sB (net0 a) (net0 a)) fr ⟨s.heap, 4⟩ := by
  simp only [List.map_cons, List.map_nil, List.cons.injEq, and_true] at ht hh
  simp only [Prod.mk.injEq] at hf
  obtain ⟨t1, t5, t6⟩ := ht
  obtain ⟨g0, g1, g2, g3⟩ := hh
  obtain ⟨f1, f2, f3⟩ := hf
  refine ⟨sw, ⟨rfl, Nat.zero_le _, fun i hi => ⟨?_, rfl⟩, fun i j hi hj he => ?_, fun i o ho => ?_, fun i hi _ => rfl, fun i hi => ⟨fun h => absurd h (Nat.not_lt_zero _), fun h => absurd h (Nat.not_lt_zero _)⟩, Nat.zero_le _⟩, ⟨f1.symm, ?_, fun t v hv => ?_, fun t p hp => ?_, fun d cs hd => ?_, f3⟩⟩
  · have hi : i < 4 := hi
    show sw i < 4
    unfold sw
    split
    · omega
    · split
      · omega
      · split <;> omega
  · have hi : i < 4 := hi
    have hj : j < 4 := hj
    rcases (by omega : i = 0 ∨ i = 1 ∨ i = 2 ∨ i = 3) with rfl | rfl | rfl | rfl <;> rcases (by omega : j = 0 ∨ j = 1 ∨ j = 2 ∨ j = 3) with rfl | rfl | rfl | rfl <;> simp [sw] at he ⊢
  · rcases sB_get ho with ⟨rfl, rfl⟩ | ⟨rfl, ho1⟩ | ⟨rfl, rfl⟩ | ⟨rfl, ho1⟩
    · exact ⟨(by decide : 0 < 4), _, g0, box_ren (Vrel.nilSlice (Z := idZone) 0 0)⟩
    · cases ho1
    · exact ⟨(by decide : 2 < 4), _, g1, box_ren (Vrel.nilSlice (Z := idZone) 0 0)⟩
    · cases ho1
  · rw [f2]; exact nt3
  · simp only [frP, frS, tmS] at hv
    rw [Tr.get_put] at hv
    split at hv
    · rename_i e; subst e; cases hv
      exact ⟨_, t6, ptr_ren sw (by decide : 2 < 4)⟩
    · rw [Tr.get_put] at hv
      split at hv
      · rename_i e; subst e; cases hv
        exact ⟨_, t5, ptr_ren sw (by decide : 0 < 4)⟩
      · rw [Tr.get_put] at hv
        split at hv
        · rename_i e; subst e; cases hv
          exact ⟨_, t1, free_self _ _ _ 9 _ rfl⟩
        · rw [Tr.get_nil] at hv; cases hv
  · have hp : (Tr.nil : Tr (Nat × Nat)).get t = some p := hp
    rw [Tr.get_nil] at hp; cases hp
  · have hd : (Tr.nil : Tr (Array Value)).get d = some cs := hd
    rw [Tr.get_nil] at hd; cases hd

theorem law3 [Z : Zone] (hsm : smOk X 0 n = true) (hop : smB X 0 n 60 = true → ∀ i, i < n → opOk X 0 i = true) {b : Nat} : AWp cfS ⟨0, b⟩ cz b3 (frame0 3 (ntOf 3) #[.int .i64 a, VS X 0 n]) st0 (RetL [(4, .bool true)]) := by
  rw [b3_eq]
  cases hs : smB X 0 n 60 with
  | false =>
    obtain ⟨fr, s, hc, hL, _⟩ := leavesK_some (path_eval tS_ok ((la0_cond a X 0 n).trans (by simp [la0_c, hsm, hs])) (la0_leaf a X 0 n))
    simp only [List.map_cons, List.map_nil, List.cons.injEq, and_true] at hL
    exact AWp.nest goodS pre3 _ _ hc fun _ => retB (s := s) (.inr rfl) hL
  | true =>
    have hn : n ≤ 60 := by
      simp only [smB, Bool.and_eq_true, decide_eq_true_eq] at hs
      omega
    by_cases h1 : a < 1
    · obtain ⟨fr, s, hc, hL, _⟩ := leavesK_some (path_eval tS_ok ((la1_cond a X 0 n).trans (by simp [la1_c, hsm, hs, h1])) (la1_leaf a X 0 n))
      simp only [List.map_cons, List.map_nil, List.cons.injEq, and_true] at hL
      exact AWp.nest goodS pre3 _ _ hc fun _ => retB (s := s) (.inr rfl) hL
    · by_cases h2 : a > 1000
      · obtain ⟨fr, s, hc, hL, _⟩ := leavesK_some (path_eval tS_ok ((la2_cond a X 0 n).trans (by simp [la2_c, hsm, hs, h1, h2])) (la2_leaf a X 0 n))
        simp only [List.map_cons, List.map_nil, List.cons.injEq, and_true] at hL
        exact AWp.nest goodS pre3 _ _ hc fun _ => retB (s := s) (.inr rfl) hL
      · obtain ⟨fr, s, hc, hf, ht, hh, hnx⟩ := rObs2_some (path_eval tS_ok ((la3_cond a X 0 n).trans (by simp [la3_c, hsm, hs, h1, h2])) (la3_leaf a X 0 n))
        refine AWp.nest goodS pre3 _ _ hc fun _ => ?_
        show AWp cfS ⟨0, b⟩ cz _ fr s (RetL [(4, .bool true)])
        refine AWp.bump (n2 := 4) (by omega) ?_
        have hS := start_view (b := b) (n := n) (X := X) (a := a) (by omega) (by omega) hf ht hh
        obtain ⟨fr1, s1, hc1, hf1, ht1, hh1, hnx1⟩ := rObs_some (path_eval tS_ok (la4_cond X 0 n (net0 a) (net0 a)) (la4_leaf X 0 n (net0 a) (net0 a)))
        have hok0 := net0_ok (a := a) (by omega) (by omega)
        simp only [List.map_cons, List.map_nil, List.cons.injEq, and_true] at hh1
        obtain ⟨g0, g1, g2, g3, _⟩ := hh1
        obtain ⟨e2, V2, F2⟩ := end_view (X := X) (o := 0) (n := n) (i := 0) (A := net0 a) (B := net0 a) ⟨hf1, ht1, 1, 3, by decide, by decide, by decide, by decide, by decide, by omega, by omega, by omega, g0, g1, g2, g3⟩ hok0 hok0
        refine AWp.seq (AWp.seq (AWp.go goodS rfl hS hc1 (fun v h => nomatch h) V2 F2 fun fr2 s2 hS2 hG2 => ⟨hG2, ?_⟩))
        refine AWp.block ?_
        refine AWp.loop (I := fun (p : Nat) fr' s' => (p ≤ n ∧ ∃ A B, Inv A B p ∧ Sn ⟨0, b⟩ 0 0 cz (frH X 0 n (p : Nat)) (sB A B) fr' s') ∧ Grow cz s2 s') (fun p => n - p) (fun p fr' s' hI => ?_) 0 fr2 s2 ⟨⟨Nat.zero_le _, _, _, ⟨hok0, hok0, rfl, rfl, rfl, by show (0 : Int) ≤ 100 * ((0 : Nat) : Int); omega⟩, hS2⟩, Grow.refl _ _⟩
        obtain ⟨⟨hpn, A, B, hInv, hSp⟩, hG⟩ := hI
        by_cases hlt : p < n
        · obtain ⟨A', B', fr3, s3, hI', hc3, hE⟩ := round3 (o := 0) hInv hlt hn (hop hs p hlt)
          obtain ⟨e3, V3, F3⟩ := end_view hE hI'.okA hI'.okB
          refine AWp.go goodS rfl hSp hc3 (fun v h => nomatch h) V3 F3 fun fr4 s4 hS4 hG4 => ⟨hG4, p + 1, by omega, ⟨by omega, A', B', hI', hS4⟩, hG.trans hG4⟩
        · have e : p = n := by omega
          subst e
          have hni : ¬ ((p : Int) < (p : Int)) := by omega
          obtain ⟨fr3, s3, hc3, hf3, ht3, hh3, hnx3⟩ := rObs_some (path_eval tS_ok ((ka0_cond X 0 p (p : Nat) A B).trans (by simp [ka0_c])) (ka0_leaf X 0 p (p : Nat) A B))
          simp only [List.map_cons, List.map_nil, List.cons.injEq, and_true] at hh3
          obtain ⟨g0, g1, g2, g3, _⟩ := hh3
          obtain ⟨e3, V3, F3⟩ := end_view (X := X) (o := 0) (n := p) (i := (p : Nat)) (A := A) (B := B) ⟨hf3, ht3, 1, 3, by decide, by decide, by decide, by decide, by decide, by omega, by omega, by omega, g0, g1, g2, g3⟩ hInv.okA hInv.okB
          refine AWp.go goodS rfl hSp hc3 (fun v h => nomatch h) V3 F3 fun fr4 s4 hS4 hG4 => ⟨hG4, ?_⟩
          simp only [if_true]
          refine ⟨hG2.trans (hG.trans hG4), ?_⟩
          obtain ⟨fr5, s5, hc5, hL5, _⟩ := leavesK_some (path_eval tS_ok (la5_cond X 0 p (p : Nat) A B) (la5_leaf X 0 p (p : Nat) A B))
          simp only [List.map_cons, List.map_nil, List.cons.injEq, and_true] at hL5
          exact AWp.retSn rfl hS4 (fun p hp => by simp only [List.mem_singleton] at hp; subst hp; rfl) (AWp.eval goodS hc5 (retB (.inr rfl) hL5))
end
end
end Go.Proofs.Ytgcffmkifjnmlaa
