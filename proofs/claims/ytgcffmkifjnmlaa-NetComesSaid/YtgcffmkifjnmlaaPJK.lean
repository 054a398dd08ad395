import Derived.Test.YtgcffmkifjnmlaaPDI
import Derived.Test.YtgcffmkifjnmlaaAmEff
/- NetComes: ahead of the loop, and behind it. -/
namespace Go.Proofs.Ytgcffmkifjnmlaa
open Go.Am
noncomputable section
def pre4 : List Code := [cL b4, cL (cN 1 b4), cL (cN 2 b4), cL (cN 3 b4), cL (cN 4 b4), cL (cN 5 b4), cL (cN 6 b4)]
def frPC (a : Int) (X : Array Value) (o n : Nat) : Fr := frS 4 [(0, .int .i64 a), (1, VS X o n), (5, ptrV 0), (6, nilV), (7, .int .i64 0), (8, .int .i64 0)]
def cObs2 : Option (Ex × Fr × St) → Option (Ex × (FuncId × Nat × Option Nat) × List (Option Value) × List (Option AObj) × Nat)
  | some (ex, fr, s) => some (ex, (fr.fn, fr.nt, fr.round), [0, 1, 5, 6, 7, 8].map fr.tm.get, [0, 1, 2, 3].map s.heap.get, s.next)
  | none => none
def lc0_bits : List Bool := [true, true, true, true, true, true, true, true, true]
def lc0_c (a : Int) (X : Array Value) (o n : Nat) : Bool :=
  (smOk X o n)
   && ((!smB X o n 40)
   && true)
theorem lc0_cond_k : (fun (a : Int) (X : Array Value) (o n : Nat) => (followT lc0_bits (codeT cfC (callT cfC tC 60) 60 cz (seqOf pre4) (frame0 4 (ntOf 4) #[.int .i64 a, VS X o n]) st0)).1) = fun (a : Int) (X : Array Value) (o n : Nat) => lc0_c a X o n := by kernel_rfl
theorem lc0_cond (a : Int) (X : Array Value) (o n : Nat) : (followT lc0_bits (codeT cfC (callT cfC tC 60) 60 cz (seqOf pre4) (frame0 4 (ntOf 4) #[.int .i64 a, VS X o n]) st0)).1 = lc0_c a X o n := congrFun (congrFun (congrFun (congrFun lc0_cond_k a) X) o) n
theorem lc0_leaf_k : (fun (a : Int) (X : Array Value) (o n : Nat) => pathObs (leavesK [4] []) lc0_bits (codeT cfC (callT cfC tC 60) 60 cz (seqOf pre4) (frame0 4 (ntOf 4) #[.int .i64 a, VS X o n]) st0)) = fun (a : Int) (X : Array Value) (o n : Nat) => some (.ret, [some (.bool true)], []) := by kernel_rfl
theorem lc0_leaf (a : Int) (X : Array Value) (o n : Nat) : pathObs (leavesK [4] []) lc0_bits (codeT cfC (callT cfC tC 60) 60 cz (seqOf pre4) (frame0 4 (ntOf 4) #[.int .i64 a, VS X o n]) st0) = some (.ret, [some (.bool true)], []) := congrFun (congrFun (congrFun (congrFun lc0_leaf_k a) X) o) n
def lc1_bits : List Bool := [true, false, false, false, false, true, true, true, true, true, true, false, false, false, true]
def lc1_c (a : Int) (X : Array Value) (o n : Nat) : Bool :=
  (smOk X o n)
   && (!(!smB X o n 40)
   && ((decide (a < 1))
   && true))
theorem lc1_cond_k : (fun (a : Int) (X : Array Value) (o n : Nat) => (followT lc1_bits (codeT cfC (callT cfC tC 60) 60 cz (seqOf pre4) (frame0 4 (ntOf 4) #[.int .i64 a, VS X o n]) st0)).1) = fun (a : Int) (X : Array Value) (o n : Nat) => lc1_c a X o n := by kernel_rfl
theorem lc1_cond (a : Int) (X : Array Value) (o n : Nat) : (followT lc1_bits (codeT cfC (callT cfC tC 60) 60 cz (seqOf pre4) (frame0 4 (ntOf 4) #[.int .i64 a, VS X o n]) st0)).1 = lc1_c a X o n := congrFun (congrFun (congrFun (congrFun lc1_cond_k a) X) o) n
theorem lc1_leaf_k : (fun (a : Int) (X : Array Value) (o n : Nat) => pathObs (leavesK [4] []) lc1_bits (codeT cfC (callT cfC tC 60) 60 cz (seqOf pre4) (frame0 4 (ntOf 4) #[.int .i64 a, VS X o n]) st0)) = fun (a : Int) (X : Array Value) (o n : Nat) => some (.ret, [some (.bool true)], []) := by kernel_rfl
theorem lc1_leaf (a : Int) (X : Array Value) (o n : Nat) : pathObs (leavesK [4] []) lc1_bits (codeT cfC (callT cfC tC 60) 60 cz (seqOf pre4) (frame0 4 (ntOf 4) #[.int .i64 a, VS X o n]) st0) = some (.ret, [some (.bool true)], []) := congrFun (congrFun (congrFun (congrFun lc1_leaf_k a) X) o) n
def lc2_bits : List Bool := [true, false, false, false, false, false, false, false, false, false, true, false, false, false, true]
def lc2_c (a : Int) (X : Array Value) (o n : Nat) : Bool :=
  (smOk X o n)
   && (!(!smB X o n 40)
   && (!(decide (a < 1))
   && ((decide (a > 1000))
   && true)))
theorem lc2_cond_k : (fun (a : Int) (X : Array Value) (o n : Nat) => (followT lc2_bits (codeT cfC (callT cfC tC 60) 60 cz (seqOf pre4) (frame0 4 (ntOf 4) #[.int .i64 a, VS X o n]) st0)).1) = fun (a : Int) (X : Array Value) (o n : Nat) => lc2_c a X o n := by kernel_rfl
theorem lc2_cond (a : Int) (X : Array Value) (o n : Nat) : (followT lc2_bits (codeT cfC (callT cfC tC 60) 60 cz (seqOf pre4) (frame0 4 (ntOf 4) #[.int .i64 a, VS X o n]) st0)).1 = lc2_c a X o n := congrFun (congrFun (congrFun (congrFun lc2_cond_k a) X) o) n
theorem lc2_leaf_k : (fun (a : Int) (X : Array Value) (o n : Nat) => pathObs (leavesK [4] []) lc2_bits (codeT cfC (callT cfC tC 60) 60 cz (seqOf pre4) (frame0 4 (ntOf 4) #[.int .i64 a, VS X o n]) st0)) = fun (a : Int) (X : Array Value) (o n : Nat) => some (.ret, [some (.bool true)], []) := by kernel_rfl
theorem lc2_leaf (a : Int) (X : Array Value) (o n : Nat) : pathObs (leavesK [4] []) lc2_bits (codeT cfC (callT cfC tC 60) 60 cz (seqOf pre4) (frame0 4 (ntOf 4) #[.int .i64 a, VS X o n]) st0) = some (.ret, [some (.bool true)], []) := congrFun (congrFun (congrFun (congrFun lc2_leaf_k a) X) o) n
def lc3_bits : List Bool := [true, false, false, false, false, false, false, false, false, false, false, false, false, false, false, false, false, false, false, false, false, false]
def lc3_c (a : Int) (X : Array Value) (o n : Nat) : Bool :=
  (smOk X o n)
   && (!(!smB X o n 40)
   && (!(decide (a < 1))
   && (!(decide (a > 1000))
   && (!(decide (a < 1))
   && (!(decide (a > 1000))
   && true)))))
theorem lc3_cond_k : (fun (a : Int) (X : Array Value) (o n : Nat) => (followT lc3_bits (codeT cfC (callT cfC tC 60) 60 cz (seqOf pre4) (frame0 4 (ntOf 4) #[.int .i64 a, VS X o n]) st0)).1) = fun (a : Int) (X : Array Value) (o n : Nat) => lc3_c a X o n := by kernel_rfl
theorem lc3_cond (a : Int) (X : Array Value) (o n : Nat) : (followT lc3_bits (codeT cfC (callT cfC tC 60) 60 cz (seqOf pre4) (frame0 4 (ntOf 4) #[.int .i64 a, VS X o n]) st0)).1 = lc3_c a X o n := congrFun (congrFun (congrFun (congrFun lc3_cond_k a) X) o) n
theorem lc3_leaf_k : (fun (a : Int) (X : Array Value) (o n : Nat) => pathObs cObs2 lc3_bits (codeT cfC (callT cfC tC 60) 60 cz (seqOf pre4) (frame0 4 (ntOf 4) #[.int .i64 a, VS X o n]) st0)) = fun (a : Int) (X : Array Value) (o n : Nat) => some (.normal, (4, 120, none), [some (.int .i64 a), some (VS X o n), some (ptrV 1), some nilV, some (.int .i64 0), some (.int .i64 0)], [some (boxO true a 0 (.slice none 0 0)), some (boxO false a 0 nilV), none, none], 2) := by kernel_rfl
theorem lc3_leaf (a : Int) (X : Array Value) (o n : Nat) : pathObs cObs2 lc3_bits (codeT cfC (callT cfC tC 60) 60 cz (seqOf pre4) (frame0 4 (ntOf 4) #[.int .i64 a, VS X o n]) st0) = some (.normal, (4, 120, none), [some (.int .i64 a), some (VS X o n), some (ptrV 1), some nilV, some (.int .i64 0), some (.int .i64 0)], [some (boxO true a 0 (.slice none 0 0)), some (boxO false a 0 nilV), none, none], 2) := congrFun (congrFun (congrFun (congrFun lc3_leaf_k a) X) o) n
def lc4_bits : List Bool := []
def lc4_c (a : Int) (X : Array Value) (o n : Nat) : Bool :=
  true
theorem lc4_cond_k : (fun (a : Int) (X : Array Value) (o n : Nat) => (followT lc4_bits (codeT cfC (callT cfC tC 60) 60 cz (cL (cL (cN 7 b4))) (frPC a X o n) (sC0 a))).1) = fun (a : Int) (X : Array Value) (o n : Nat) => lc4_c a X o n := by kernel_rfl
theorem lc4_cond (a : Int) (X : Array Value) (o n : Nat) : (followT lc4_bits (codeT cfC (callT cfC tC 60) 60 cz (cL (cL (cN 7 b4))) (frPC a X o n) (sC0 a))).1 = lc4_c a X o n := congrFun (congrFun (congrFun (congrFun lc4_cond_k a) X) o) n
theorem lc4_leaf_k : (fun (a : Int) (X : Array Value) (o n : Nat) => pathObs cObs lc4_bits (codeT cfC (callT cfC tC 60) 60 cz (cL (cL (cN 7 b4))) (frPC a X o n) (sC0 a))) = fun (a : Int) (X : Array Value) (o n : Nat) => some (.normal, (4, 120, none), [some (.int .i64 a), some (VS X o n), some (ptrV 0), some nilV, some (.int .i64 0), some (.int .i64 0), some (.int .i64 0)], [some (boxO false a 0 nilV), none, none, none, none, none], 2) := by kernel_rfl
theorem lc4_leaf (a : Int) (X : Array Value) (o n : Nat) : pathObs cObs lc4_bits (codeT cfC (callT cfC tC 60) 60 cz (cL (cL (cN 7 b4))) (frPC a X o n) (sC0 a)) = some (.normal, (4, 120, none), [some (.int .i64 a), some (VS X o n), some (ptrV 0), some nilV, some (.int .i64 0), some (.int .i64 0), some (.int .i64 0)], [some (boxO false a 0 nilV), none, none, none, none, none], 2) := congrFun (congrFun (congrFun (congrFun lc4_leaf_k a) X) o) n
def lc5_bits : List Bool := []
def lc5_c (a : Int) (X : Array Value) (o n : Nat) (v : Value) (ca ma i : Int) : Bool :=
  true
theorem lc5_cond_k : (fun (a : Int) (X : Array Value) (o n : Nat) (v : Value) (ca ma i : Int) => (followT lc5_bits (codeT cfC (callT cfC tC 60) 60 cz (cN 8 b4) (frC a X o n v ca ma i) (sC0 a))).1) = fun (a : Int) (X : Array Value) (o n : Nat) (v : Value) (ca ma i : Int) => lc5_c a X o n v ca ma i := by kernel_rfl
theorem lc5_cond (a : Int) (X : Array Value) (o n : Nat) (v : Value) (ca ma i : Int) : (followT lc5_bits (codeT cfC (callT cfC tC 60) 60 cz (cN 8 b4) (frC a X o n v ca ma i) (sC0 a))).1 = lc5_c a X o n v ca ma i := congrFun (congrFun (congrFun (congrFun (congrFun (congrFun (congrFun (congrFun lc5_cond_k a) X) o) n) v) ca) ma) i
theorem lc5_leaf_k : (fun (a : Int) (X : Array Value) (o n : Nat) (v : Value) (ca ma i : Int) => pathObs (leavesK [4] []) lc5_bits (codeT cfC (callT cfC tC 60) 60 cz (cN 8 b4) (frC a X o n v ca ma i) (sC0 a))) = fun (a : Int) (X : Array Value) (o n : Nat) (v : Value) (ca ma i : Int) => some (.ret, [some (.bool true)], []) := by kernel_rfl
theorem lc5_leaf (a : Int) (X : Array Value) (o n : Nat) (v : Value) (ca ma i : Int) : pathObs (leavesK [4] []) lc5_bits (codeT cfC (callT cfC tC 60) 60 cz (cN 8 b4) (frC a X o n v ca ma i) (sC0 a)) = some (.ret, [some (.bool true)], []) := congrFun (congrFun (congrFun (congrFun (congrFun (congrFun (congrFun (congrFun lc5_leaf_k a) X) o) n) v) ca) ma) i
def lc6_bits : List Bool := []
def lc6_c (a : Int) (X : Array Value) (o n : Nat) (v : Value) (ca ma i : Int) (p q : Int) (M S : Array Value) : Bool :=
  true
theorem lc6_cond_k : (fun (a : Int) (X : Array Value) (o n : Nat) (v : Value) (ca ma i : Int) (p q : Int) (M S : Array Value) => (followT lc6_bits (codeT cfC (callT cfC tC 60) 60 cz (cN 8 b4) (frC a X o n v ca ma i) (sC1 p q M S))).1) = fun (a : Int) (X : Array Value) (o n : Nat) (v : Value) (ca ma i : Int) (p q : Int) (M S : Array Value) => lc6_c a X o n v ca ma i p q M S := by kernel_rfl
theorem lc6_cond (a : Int) (X : Array Value) (o n : Nat) (v : Value) (ca ma i : Int) (p q : Int) (M S : Array Value) : (followT lc6_bits (codeT cfC (callT cfC tC 60) 60 cz (cN 8 b4) (frC a X o n v ca ma i) (sC1 p q M S))).1 = lc6_c a X o n v ca ma i p q M S := congrFun (congrFun (congrFun (congrFun (congrFun (congrFun (congrFun (congrFun (congrFun (congrFun (congrFun (congrFun lc6_cond_k a) X) o) n) v) ca) ma) i) p) q) M) S
theorem lc6_leaf_k : (fun (a : Int) (X : Array Value) (o n : Nat) (v : Value) (ca ma i : Int) (p q : Int) (M S : Array Value) => pathObs (leavesK [4] []) lc6_bits (codeT cfC (callT cfC tC 60) 60 cz (cN 8 b4) (frC a X o n v ca ma i) (sC1 p q M S))) = fun (a : Int) (X : Array Value) (o n : Nat) (v : Value) (ca ma i : Int) (p q : Int) (M S : Array Value) => some (.ret, [some (.bool true)], []) := by kernel_rfl
theorem lc6_leaf (a : Int) (X : Array Value) (o n : Nat) (v : Value) (ca ma i : Int) (p q : Int) (M S : Array Value) : pathObs (leavesK [4] []) lc6_bits (codeT cfC (callT cfC tC 60) 60 cz (cN 8 b4) (frC a X o n v ca ma i) (sC1 p q M S)) = some (.ret, [some (.bool true)], []) := congrFun (congrFun (congrFun (congrFun (congrFun (congrFun (congrFun (congrFun (congrFun (congrFun (congrFun (congrFun lc6_leaf_k a) X) o) n) v) ca) ma) i) p) q) M) S
end
end Go.Proofs.Ytgcffmkifjnmlaa

/- NetComes: the law, walked. -/
namespace Go.Proofs.Ytgcffmkifjnmlaa
open Go.Am
noncomputable section
theorem cObs2_some {r : Option (Ex × Fr × St)} {ex : Ex} {f : FuncId × Nat × Option Nat} {vs : List (Option Value)} {hs : List (Option AObj)} {n : Nat} (h : cObs2 r = some (ex, f, vs, hs, n)) : ∃ fr s, r = some (ex, fr, s) ∧ (fr.fn, fr.nt, fr.round) = f ∧ [0, 1, 5, 6, 7, 8].map fr.tm.get = vs ∧ [0, 1, 2, 3].map s.heap.get = hs ∧ s.next = n := by
  unfold cObs2 at h
  split at h
  · simp only [Option.some.injEq, Prod.mk.injEq] at h
    obtain ⟨rfl, h2, h3, h4, h5⟩ := h
    exact ⟨_, _, rfl, h2, h3, h4, h5⟩
  · cases h
section
variable {X : Array Value} {n : Nat} {a : Int}
def sw2 : Nat → Nat := fun i => if i = 0 then 1 else if i = 1 then 0 else i
theorem start_viewC {b : Nat} {fr : Fr} {s : St} (hf : (fr.fn, fr.nt, fr.round) = (4, 120, none)) (ht : [0, 1, 5, 6, 7, 8].map fr.tm.get = [some (.int .i64 a), some (VS X 0 n), some (ptrV 1), some nilV, some (.int .i64 0), some (.int .i64 0)])
    (hh : s.heap.get 1 = some (boxO false a 0 nilV)) (hn : s.next = 2) : Sn ⟨0, b⟩ 0 0 cz (frPC a X 0 n) (sC0 a) fr s := by
  simp only [List.map_cons, List.map_nil, List.cons.injEq, and_true] at ht
  simp only [Prod.mk.injEq] at hf
  obtain ⟨t0, t1, t5, t6, t7, t8⟩ := ht
  obtain ⟨f1, f2, f3⟩ := hf
  refine ⟨sw2, ⟨rfl, Nat.zero_le _, fun i hi => ⟨?_, rfl⟩, fun i j hi hj he => ?_, fun i o ho => ?_, fun i hi _ => rfl, fun i hi => ⟨fun h => absurd h (Nat.not_lt_zero _), fun h => absurd h (Nat.not_lt_zero _)⟩, Nat.zero_le _⟩, ⟨f1.symm, ?_, fun t v hv => ?_, fun t p hp => ?_, fun d cs hd => ?_, f3⟩⟩
  · have hi : i < 2 := hi
    unfold sw2
    split
    · omega
    · split <;> omega
  · have hi : i < 2 := hi
    have hj : j < 2 := hj
    rcases (by omega : i = 0 ∨ i = 1) with rfl | rfl <;> rcases (by omega : j = 0 ∨ j = 1) with rfl | rfl <;> simp [sw2] at he ⊢
  · obtain ⟨rfl, rfl⟩ := sC0_get ho
    exact ⟨(by decide : 0 < 2), _, hh, box_ren (Vrel.nilSlice (Z := idZone) 0 0)⟩
  · rw [f2]; exact nt4
  · simp only [frPC, frS, tmS] at hv
    rw [Tr.get_put] at hv
    split at hv
    · rename_i e; subst e; cases hv; exact ⟨_, t8, Vrel.int (Z := idZone) _ _⟩
    rw [Tr.get_put] at hv
    split at hv
    · rename_i e; subst e; cases hv; exact ⟨_, t7, Vrel.int (Z := idZone) _ _⟩
    rw [Tr.get_put] at hv
    split at hv
    · rename_i e; subst e; cases hv; exact ⟨_, t6, Vrel.nilSlice (Z := idZone) 0 0⟩
    rw [Tr.get_put] at hv
    split at hv
    · rename_i e; subst e; cases hv; exact ⟨_, t5, ptr_ren sw2 (by decide : 0 < 2)⟩
    rw [Tr.get_put] at hv
    split at hv
    · rename_i e; subst e; cases hv; exact ⟨_, t1, free_self _ _ _ 9 _ rfl⟩
    rw [Tr.get_put] at hv
    split at hv
    · rename_i e; subst e; cases hv; exact ⟨_, t0, Vrel.int (Z := idZone) _ _⟩
    rw [Tr.get_nil] at hv; cases hv
  · have hp : (Tr.nil : Tr (Nat × Nat)).get t = some p := hp
    rw [Tr.get_nil] at hp; cases hp
  · have hd : (Tr.nil : Tr (Array Value)).get d = some cs := hd
    rw [Tr.get_nil] at hd; cases hd
theorem roundC {c : Cst} {ca ma : Int} {o i : Nat} (hI : InvC a c ca ma i) (hi : i < n) (hn : n ≤ 40) (hop : opOk X o i = true) : Done (code cfC (call cfC 60) 60 cz k4c (frC a X o n c.val ca ma i) (c.st a)) a X o n i := by
  cases c with
  | zero => exact round0 hI hi hn hop
  | one p q M S => exact round1 hI hi hn hop
theorem lastC {c : Cst} {ca ma : Int} {o : Nat} : ∃ fr s, code cfC (call cfC 60) 60 cz k4c (frC a X o n c.val ca ma n) (c.st a) = some (.exit 0, fr, s) ∧ EndC fr s a X o n ca ma n c := by
  have hni : ¬ ((n : Int) < (n : Int)) := by omega
  cases c with
  | zero =>
    obtain ⟨fr, s, h1, h2, h3, h4, h5⟩ := cObs_some (path_eval tC_ok ((rc0_cond a X o n ca ma (n : Nat)).trans (by simp [rc0_c])) (rc0_leaf a X o n ca ma (n : Nat)))
    simp only [List.map_cons, List.map_nil, List.cons.injEq, and_true] at h4
    exact ⟨fr, s, h1, h2, h3, by omega, h4.1⟩
  | one p q M S =>
    obtain ⟨fr, s, h1, h2, h3, h4, h5⟩ := cObs_some (path_eval tC_ok ((rb0_cond a X o n ca ma (n : Nat) p q M S).trans (by simp [rb0_c])) (rb0_leaf a X o n ca ma (n : Nat) p q M S))
    simp only [List.map_cons, List.map_nil, List.cons.injEq, and_true] at h4
    obtain ⟨g0, g1, g2, _⟩ := h4
    exact ⟨fr, s, h1, h2, 1, 2, by omega, by omega, by omega, by omega, by omega, h3, g0, g1, g2⟩
theorem retC {c : Cst} {ca ma i : Int} {o : Nat} : ∃ fr s, code cfC (call cfC 60) 60 cz (cN 8 b4) (frC a X o n c.val ca ma i) (c.st a) = some (.ret, fr, s) ∧ fr.tm.get 4 = some (.bool true) := by
  cases c with
  | zero =>
    obtain ⟨fr, s, h1, h2, _⟩ := leavesK_some (path_eval tC_ok (lc5_cond a X o n nilV ca ma i) (lc5_leaf a X o n nilV ca ma i))
    simp only [List.map_cons, List.map_nil, List.cons.injEq, and_true] at h2
    exact ⟨fr, s, h1, h2⟩
  | one p q M S =>
    obtain ⟨fr, s, h1, h2, _⟩ := leavesK_some (path_eval tC_ok (lc6_cond a X o n (sent 2 S) ca ma i p q M S) (lc6_leaf a X o n (sent 2 S) ca ma i p q M S))
    simp only [List.map_cons, List.map_nil, List.cons.injEq, and_true] at h2
    exact ⟨fr, s, h1, h2⟩
theorem law4 [Z : Zone] (hsm : smOk X 0 n = true) (hop : smB X 0 n 40 = true → ∀ i, i < n → opOk X 0 i = true) {b : Nat} : AWp cfC ⟨0, b⟩ cz b4 (frame0 4 (ntOf 4) #[.int .i64 a, VS X 0 n]) st0 (RetL [(4, .bool true)]) := by
  rw [b4_eq]
  cases hs : smB X 0 n 40 with
  | false =>
    obtain ⟨fr, s, hc, hL, _⟩ := leavesK_some (path_eval tC_ok ((lc0_cond a X 0 n).trans (by simp [lc0_c, hsm, hs])) (lc0_leaf a X 0 n))
    simp only [List.map_cons, List.map_nil, List.cons.injEq, and_true] at hL
    exact AWp.nest goodC pre4 _ _ hc fun _ => retB (s := s) (.inr rfl) hL
  | true =>
    have hn : n ≤ 40 := by
      simp only [smB, Bool.and_eq_true, decide_eq_true_eq] at hs
      omega
    by_cases h1 : a < 1
    · obtain ⟨fr, s, hc, hL, _⟩ := leavesK_some (path_eval tC_ok ((lc1_cond a X 0 n).trans (by simp [lc1_c, hsm, hs, h1])) (lc1_leaf a X 0 n))
      simp only [List.map_cons, List.map_nil, List.cons.injEq, and_true] at hL
      exact AWp.nest goodC pre4 _ _ hc fun _ => retB (s := s) (.inr rfl) hL
    · by_cases h2 : a > 1000
      · obtain ⟨fr, s, hc, hL, _⟩ := leavesK_some (path_eval tC_ok ((lc2_cond a X 0 n).trans (by simp [lc2_c, hsm, hs, h1, h2])) (lc2_leaf a X 0 n))
        simp only [List.map_cons, List.map_nil, List.cons.injEq, and_true] at hL
        exact AWp.nest goodC pre4 _ _ hc fun _ => retB (s := s) (.inr rfl) hL
      · obtain ⟨fr, s, hc, hf, ht, hh, hnx⟩ := cObs2_some (path_eval tC_ok ((lc3_cond a X 0 n).trans (by simp [lc3_c, hsm, hs, h1, h2])) (lc3_leaf a X 0 n))
        simp only [List.map_cons, List.map_nil, List.cons.injEq, and_true] at hh
        refine AWp.nest goodC pre4 _ _ hc fun _ => ?_
        show AWp cfC ⟨0, b⟩ cz _ fr s (RetL [(4, .bool true)])
        have hS := start_viewC (b := b) (n := n) (X := X) (a := a) hf ht hh.2.1 hnx
        have hok0 := net0_ok (a := a) (by omega) (by omega)
        have sN : strs (#[] : Array Value) = true := by simp [strs]
        have hI0 : InvC a .zero 0 0 0 := ⟨hok0, rfl, by show (0 : Int) ≤ _; omega, rfl, by omega, by omega, fun v hv => hv, sN, Nat.le_refl 0, trivial⟩
        obtain ⟨fr1, s1, hc1, hf1, ht1, hh1, hnx1⟩ := cObs_some (path_eval tC_ok (lc4_cond a X 0 n) (lc4_leaf a X 0 n))
        simp only [List.map_cons, List.map_nil, List.cons.injEq, and_true] at hh1
        obtain ⟨e2, V2, F2⟩ := end_viewC (c := .zero) (a := a) (X := X) (o := 0) (n := n) (ca := 0) (ma := 0) (i := 0) ⟨hf1, ht1, by omega, hh1.1⟩ hok0 sN
        refine AWp.seq (AWp.seq (AWp.go goodC rfl hS hc1 (fun v h => nomatch h) V2 F2 fun fr2 s2 hS2 hG2 => ⟨hG2, ?_⟩))
        refine AWp.block ?_
        refine AWp.loop (I := fun (p : Nat) fr' s' => (p ≤ n ∧ ∃ c ca ma, InvC a c ca ma p ∧ Sn ⟨0, b⟩ 0 0 cz (frC a X 0 n c.val ca ma (p : Nat)) (c.st a) fr' s') ∧ Grow cz s2 s') (fun p => n - p) (fun p fr' s' hI => ?_) 0 fr2 s2 ⟨⟨Nat.zero_le _, .zero, 0, 0, hI0, hS2⟩, Grow.refl _ _⟩
        obtain ⟨⟨hpn, c, ca, ma, hInv, hSp⟩, hG⟩ := hI
        by_cases hlt : p < n
        · obtain ⟨c', ca', ma', fr3, s3, hI', hc3, hE⟩ := roundC (o := 0) hInv hlt hn (hop hs p hlt)
          obtain ⟨e3, V3, F3⟩ := end_viewC hE hI'.ok hI'.strs
          refine AWp.go goodC rfl hSp hc3 (fun v h => nomatch h) V3 F3 fun fr4 s4 hS4 hG4 => ⟨hG4, p + 1, by omega, ⟨by omega, c', ca', ma', hI', hS4⟩, hG.trans hG4⟩
        · have e : p = n := by omega
          subst e
          obtain ⟨fr3, s3, hc3, hE⟩ := lastC (a := a) (X := X) (n := p) (c := c) (ca := ca) (ma := ma) (o := 0)
          obtain ⟨e3, V3, F3⟩ := end_viewC hE hInv.ok hInv.strs
          refine AWp.go goodC rfl hSp hc3 (fun v h => nomatch h) V3 F3 fun fr4 s4 hS4 hG4 => ⟨hG4, ?_⟩
          simp only [if_true]
          refine ⟨hG2.trans (hG.trans hG4), ?_⟩
          obtain ⟨fr5, s5, hc5, hL5⟩ := retC (a := a) (X := X) (n := p) (c := c) (ca := ca) (ma := ma) (i := (p : Nat)) (o := 0)
          exact AWp.retSn rfl hS4 (fun p hp => by simp only [List.mem_singleton] at hp; subst hp; rfl) (AWp.eval goodC hc5 (retB (.inr rfl) hL5))
end
end
end Go.Proofs.Ytgcffmkifjnmlaa
