import Derived.Test.YtmpokdnpkjcnbaaDoorXCE
/- The document's number: paths. -/
namespace Go.Proofs.YtmpokdnpkjcnbaaDoor
open Go.Am
noncomputable section
def b43 : Code := bodyOf 43
def k43 : Code := cB (cB (cL (cN 3 b43)))
def fr43 (s : ByteArray) (at_ n i : Int) : Fr := frS 43 [(0, .string s), (1, .int .i64 at_), (6, .int .i64 n), (7, .int .i64 i)]
theorem b43_eq : b43 = nest [cL b43, cL (cN 1 b43), cL (cN 2 b43)] (.seq (.block 0 (.loop k43)) (cN 4 b43)) := by kernel_rfl
def byI (s : ByteArray) (i : Int) : Int := ((UInt8.toNat (Option.getD s[Int.toNat i]? 0) : Nat) : Int)
def nxN (n b : Int) : Int := IntKind.wrap .i64 (IntKind.wrap .i64 (IntKind.wrap .i64 (10 * n) + IntKind.wrap .i64 b) - 48)
theorem s43a_k : (fun (s : ByteArray) (a : Int) => (codeT cfXe (callT cfXe tXe 60) 60 cz (seqOf [cL b43, cL (cN 1 b43), cL (cN 2 b43)]) (frame0 43 (ntOf 43) #[.string s, .int .i64 a]) st0).evalM (gcObs 0 0 (kp [0, 1, 6, 7] []))) = fun (s : ByteArray) (a : Int) => some (.normal, fr43 s a 0 a, st0) := by kernel_rfl
theorem s43a (s : ByteArray) (a : Int) : (codeT cfXe (callT cfXe tXe 60) 60 cz (seqOf [cL b43, cL (cN 1 b43), cL (cN 2 b43)]) (frame0 43 (ntOf 43) #[.string s, .int .i64 a]) st0).evalM (gcObs 0 0 (kp [0, 1, 6, 7] [])) = some (.normal, fr43 s a 0 a, st0) := congrFun (congrFun s43a_k s) a
def n0_bits : List Bool := [true, false, false, false, false, false, false, false, false, false, false, false, false, false, false, false, false, false, false, false, false, false, false, false, false, false, false, false, false]
def n0_c (s : ByteArray) (_ _ i : Int) : Bool :=
  !(decide (i < ((ByteArray.size s : Nat) : Int)))
   && true
theorem n0_cond_k : (fun (s : ByteArray) (a n i : Int) => (followT n0_bits (codeT cfXe (callT cfXe tXe 60) 60 cz k43 (fr43 s a n i) st0)).1) = fun (s : ByteArray) (a n i : Int) => n0_c s a n i := by kernel_rfl
theorem n0_cond (s : ByteArray) (a n i : Int) : (followT n0_bits (codeT cfXe (callT cfXe tXe 60) 60 cz k43 (fr43 s a n i) st0)).1 = n0_c s a n i := congrFun (congrFun (congrFun (congrFun n0_cond_k s) a) n) i
theorem n0_leaf_k : (fun (s : ByteArray) (a n i : Int) => pathObs (gcObs 0 0 (kp [0, 1, 6, 7] [])) n0_bits (codeT cfXe (callT cfXe tXe 60) 60 cz k43 (fr43 s a n i) st0)) = fun (s : ByteArray) (a n i : Int) => some (.exit 0, fr43 s a n i, st0) := by kernel_rfl
theorem n0_leaf (s : ByteArray) (a n i : Int) : pathObs (gcObs 0 0 (kp [0, 1, 6, 7] [])) n0_bits (codeT cfXe (callT cfXe tXe 60) 60 cz k43 (fr43 s a n i) st0) = some (.exit 0, fr43 s a n i, st0) := congrFun (congrFun (congrFun (congrFun n0_leaf_k s) a) n) i
def n1_bits : List Bool := [true, true, true, true, true, true, true, true, true, true, true, true, false, false, false, false, false, false, false, false, false, false, false, false, false, false, false, false, false, false, false]
def n1_c (s : ByteArray) (_ _ i : Int) : Bool :=
  (decide (i < ((ByteArray.size s : Nat) : Int)))
   && ((decide (0 ≤ i))
   && ((Option.isSome s[Int.toNat i]?)
   && (!(decide ((byI s i) ≥ 48))
   && true)))
theorem n1_cond_k : (fun (s : ByteArray) (a n i : Int) => (followT n1_bits (codeT cfXe (callT cfXe tXe 60) 60 cz k43 (fr43 s a n i) st0)).1) = fun (s : ByteArray) (a n i : Int) => n1_c s a n i := by kernel_rfl
theorem n1_cond (s : ByteArray) (a n i : Int) : (followT n1_bits (codeT cfXe (callT cfXe tXe 60) 60 cz k43 (fr43 s a n i) st0)).1 = n1_c s a n i := congrFun (congrFun (congrFun (congrFun n1_cond_k s) a) n) i
theorem n1_leaf_k : (fun (s : ByteArray) (a n i : Int) => pathObs (gcObs 0 0 (kp [0, 1, 6, 7] [])) n1_bits (codeT cfXe (callT cfXe tXe 60) 60 cz k43 (fr43 s a n i) st0)) = fun (s : ByteArray) (a n i : Int) => some (.exit 0, fr43 s a n i, st0) := by kernel_rfl
theorem n1_leaf (s : ByteArray) (a n i : Int) : pathObs (gcObs 0 0 (kp [0, 1, 6, 7] [])) n1_bits (codeT cfXe (callT cfXe tXe 60) 60 cz k43 (fr43 s a n i) st0) = some (.exit 0, fr43 s a n i, st0) := congrFun (congrFun (congrFun (congrFun n1_leaf_k s) a) n) i
def n2_bits : List Bool := [true, true, true, true, true, true, true, true, true, true, true, true, true, true, true, true, true, true, true, true, true, true, true, false, false, false, false, false, false, false, false, false, false]
def n2_c (s : ByteArray) (_ _ i : Int) : Bool :=
  (decide (i < ((ByteArray.size s : Nat) : Int)))
   && ((decide (0 ≤ i))
   && ((Option.isSome s[Int.toNat i]?)
   && ((decide ((byI s i) ≥ 48))
   && ((decide (0 ≤ i))
   && ((Option.isSome s[Int.toNat i]?)
   && (!(decide ((byI s i) ≤ 57))
   && true))))))
theorem n2_cond_k : (fun (s : ByteArray) (a n i : Int) => (followT n2_bits (codeT cfXe (callT cfXe tXe 60) 60 cz k43 (fr43 s a n i) st0)).1) = fun (s : ByteArray) (a n i : Int) => n2_c s a n i := by kernel_rfl
theorem n2_cond (s : ByteArray) (a n i : Int) : (followT n2_bits (codeT cfXe (callT cfXe tXe 60) 60 cz k43 (fr43 s a n i) st0)).1 = n2_c s a n i := congrFun (congrFun (congrFun (congrFun n2_cond_k s) a) n) i
theorem n2_leaf_k : (fun (s : ByteArray) (a n i : Int) => pathObs (gcObs 0 0 (kp [0, 1, 6, 7] [])) n2_bits (codeT cfXe (callT cfXe tXe 60) 60 cz k43 (fr43 s a n i) st0)) = fun (s : ByteArray) (a n i : Int) => some (.exit 0, fr43 s a n i, st0) := by kernel_rfl
theorem n2_leaf (s : ByteArray) (a n i : Int) : pathObs (gcObs 0 0 (kp [0, 1, 6, 7] [])) n2_bits (codeT cfXe (callT cfXe tXe 60) 60 cz k43 (fr43 s a n i) st0) = some (.exit 0, fr43 s a n i, st0) := congrFun (congrFun (congrFun (congrFun n2_leaf_k s) a) n) i
def n3_bits : List Bool := [true, true, true, true, true, true, true, true, true, true, true, true, true, true, true, true, true, true, true, true, true, true, true, true, true, true, true, true, true, true, true, true, false]
def n3_c (s : ByteArray) (a _ i : Int) : Bool :=
  (decide (i < ((ByteArray.size s : Nat) : Int)))
   && ((decide (0 ≤ i))
   && ((Option.isSome s[Int.toNat i]?)
   && ((decide ((byI s i) ≥ 48))
   && ((decide (0 ≤ i))
   && ((Option.isSome s[Int.toNat i]?)
   && ((decide ((byI s i) ≤ 57))
   && (!(decide (i < IntKind.wrap .i64 (a + 4)))
   && true)))))))
theorem n3_cond_k : (fun (s : ByteArray) (a n i : Int) => (followT n3_bits (codeT cfXe (callT cfXe tXe 60) 60 cz k43 (fr43 s a n i) st0)).1) = fun (s : ByteArray) (a n i : Int) => n3_c s a n i := by kernel_rfl
theorem n3_cond (s : ByteArray) (a n i : Int) : (followT n3_bits (codeT cfXe (callT cfXe tXe 60) 60 cz k43 (fr43 s a n i) st0)).1 = n3_c s a n i := congrFun (congrFun (congrFun (congrFun n3_cond_k s) a) n) i
theorem n3_leaf_k : (fun (s : ByteArray) (a n i : Int) => pathObs (gcObs 0 0 (kp [0, 1, 6, 7] [])) n3_bits (codeT cfXe (callT cfXe tXe 60) 60 cz k43 (fr43 s a n i) st0)) = fun (s : ByteArray) (a n i : Int) => some (.exit 0, fr43 s a n i, st0) := by kernel_rfl
theorem n3_leaf (s : ByteArray) (a n i : Int) : pathObs (gcObs 0 0 (kp [0, 1, 6, 7] [])) n3_bits (codeT cfXe (callT cfXe tXe 60) 60 cz k43 (fr43 s a n i) st0) = some (.exit 0, fr43 s a n i, st0) := congrFun (congrFun (congrFun (congrFun n3_leaf_k s) a) n) i
def n4_bits : List Bool := [true, true, true, true, true, true, true, true, true, true, true, true, true, true, true, true, true, true, true, true, true, true, true, true, true, true, true, true, true, true, true, true, true, true, true]
def n4_c (s : ByteArray) (a _ i : Int) : Bool :=
  (decide (i < ((ByteArray.size s : Nat) : Int)))
   && ((decide (0 ≤ i))
   && ((Option.isSome s[Int.toNat i]?)
   && ((decide ((byI s i) ≥ 48))
   && ((decide (0 ≤ i))
   && ((Option.isSome s[Int.toNat i]?)
   && ((decide ((byI s i) ≤ 57))
   && ((decide (i < IntKind.wrap .i64 (a + 4)))
   && ((decide (0 ≤ i))
   && ((Option.isSome s[Int.toNat i]?)
   && true)))))))))
theorem n4_cond_k : (fun (s : ByteArray) (a n i : Int) => (followT n4_bits (codeT cfXe (callT cfXe tXe 60) 60 cz k43 (fr43 s a n i) st0)).1) = fun (s : ByteArray) (a n i : Int) => n4_c s a n i := by kernel_rfl
theorem n4_cond (s : ByteArray) (a n i : Int) : (followT n4_bits (codeT cfXe (callT cfXe tXe 60) 60 cz k43 (fr43 s a n i) st0)).1 = n4_c s a n i := congrFun (congrFun (congrFun (congrFun n4_cond_k s) a) n) i
theorem n4_leaf_k : (fun (s : ByteArray) (a n i : Int) => pathObs (gcObs 0 0 (kp [0, 1, 6, 7] [])) n4_bits (codeT cfXe (callT cfXe tXe 60) 60 cz k43 (fr43 s a n i) st0)) = fun (s : ByteArray) (a n i : Int) => some (.normal, fr43 s a (nxN n (byI s i)) (inc i), st0) := by kernel_rfl
theorem n4_leaf (s : ByteArray) (a n i : Int) : pathObs (gcObs 0 0 (kp [0, 1, 6, 7] [])) n4_bits (codeT cfXe (callT cfXe tXe 60) 60 cz k43 (fr43 s a n i) st0) = some (.normal, fr43 s a (nxN n (byI s i)) (inc i), st0) := congrFun (congrFun (congrFun (congrFun n4_leaf_k s) a) n) i
def ne0_bits : List Bool := [false]
def ne0_c (_ : ByteArray) (a _ i : Int) : Bool :=
  !(i == a)
   && true
theorem ne0_cond_k : (fun (s : ByteArray) (a n i : Int) => (followT ne0_bits (codeT cfXe (callT cfXe tXe 60) 60 cz (cN 4 b43) (fr43 s a n i) st0)).1) = fun (s : ByteArray) (a n i : Int) => ne0_c s a n i := by kernel_rfl
theorem ne0_cond (s : ByteArray) (a n i : Int) : (followT ne0_bits (codeT cfXe (callT cfXe tXe 60) 60 cz (cN 4 b43) (fr43 s a n i) st0)).1 = ne0_c s a n i := congrFun (congrFun (congrFun (congrFun ne0_cond_k s) a) n) i
theorem ne0_leaf_k : (fun (s : ByteArray) (a n i : Int) => pathObs (gcObs 0 0 (kp [4, 5] [])) ne0_bits (codeT cfXe (callT cfXe tXe 60) 60 cz (cN 4 b43) (fr43 s a n i) st0)) = fun (_ : ByteArray) (_ n i : Int) => some (.ret, frS 43 [(4, .int .i64 n), (5, .int .i64 i)], st0) := by kernel_rfl
theorem ne0_leaf (s : ByteArray) (a n i : Int) : pathObs (gcObs 0 0 (kp [4, 5] [])) ne0_bits (codeT cfXe (callT cfXe tXe 60) 60 cz (cN 4 b43) (fr43 s a n i) st0) = some (.ret, frS 43 [(4, .int .i64 n), (5, .int .i64 i)], st0) := congrFun (congrFun (congrFun (congrFun ne0_leaf_k s) a) n) i
def ne1_bits : List Bool := [true]
def ne1_c (_ : ByteArray) (a _ i : Int) : Bool :=
  (i == a)
   && true
theorem ne1_cond_k : (fun (s : ByteArray) (a n i : Int) => (followT ne1_bits (codeT cfXe (callT cfXe tXe 60) 60 cz (cN 4 b43) (fr43 s a n i) st0)).1) = fun (s : ByteArray) (a n i : Int) => ne1_c s a n i := by kernel_rfl
theorem ne1_cond (s : ByteArray) (a n i : Int) : (followT ne1_bits (codeT cfXe (callT cfXe tXe 60) 60 cz (cN 4 b43) (fr43 s a n i) st0)).1 = ne1_c s a n i := congrFun (congrFun (congrFun (congrFun ne1_cond_k s) a) n) i
theorem ne1_leaf_k : (fun (s : ByteArray) (a n i : Int) => pathObs (gcObs 0 0 (kp [4, 5] [])) ne1_bits (codeT cfXe (callT cfXe tXe 60) 60 cz (cN 4 b43) (fr43 s a n i) st0)) = fun (_ : ByteArray) (a _ _ : Int) => some (.ret, frS 43 [(4, .int .i64 (-1)), (5, .int .i64 a)], st0) := by kernel_rfl
theorem ne1_leaf (s : ByteArray) (a n i : Int) : pathObs (gcObs 0 0 (kp [4, 5] [])) ne1_bits (codeT cfXe (callT cfXe tXe 60) 60 cz (cN 4 b43) (fr43 s a n i) st0) = some (.ret, frS 43 [(4, .int .i64 (-1)), (5, .int .i64 a)], st0) := congrFun (congrFun (congrFun (congrFun ne1_leaf_k s) a) n) i
end
end Go.Proofs.YtmpokdnpkjcnbaaDoor

/- The document's number, told. -/
namespace Go.Proofs.YtmpokdnpkjcnbaaDoor
open Go.Am
noncomputable section
def byN (s : ByteArray) (i : Nat) : Nat := (s[i]?.getD 0).toNat
theorem byI_nat (s : ByteArray) (i : Nat) : byI s (i : Int) = ((byN s i : Nat) : Int) := by
  unfold byI
  rw [Int.toNat_natCast]; rfl
/-- is there a digit at a place? -/
def dgt (s : ByteArray) (i : Nat) : Bool := decide (i < s.size) && (decide (48 ≤ byN s i) && decide (byN s i ≤ 57))
def goN (s : ByteArray) (a p : Nat) : Bool := dgt s (a + p) && decide (p < 4)
def valN (s : ByteArray) (a : Nat) : Nat → Nat
  | 0 => 0
  | p + 1 => 10 * valN s a p + (byN s (a + p) - 48)
def numP (s : ByteArray) (a : Nat) : Nat := bif goN s a 0 then (bif goN s a 1 then (bif goN s a 2 then (bif goN s a 3 then 4 else 3) else 2) else 1) else 0
theorem numP_le (s : ByteArray) (a : Nat) : numP s a ≤ 4 := by
  unfold numP
  cases goN s a 0 <;> cases goN s a 1 <;> cases goN s a 2 <;> cases goN s a 3 <;> decide
theorem numP_is {s : ByteArray} {a p : Nat} (h : ∀ j, j < p → goN s a j = true) (he : goN s a p = false) (hp : p ≤ 4) : numP s a = p := by
  unfold numP
  rcases (by omega : p = 0 ∨ p = 1 ∨ p = 2 ∨ p = 3 ∨ p = 4) with rfl | rfl | rfl | rfl | rfl
  · rw [he]; rfl
  · rw [h 0 (by omega), he]; rfl
  · rw [h 0 (by omega), h 1 (by omega), he]; rfl
  · rw [h 0 (by omega), h 1 (by omega), h 2 (by omega), he]; rfl
  · rw [h 0 (by omega), h 1 (by omega), h 2 (by omega), h 3 (by omega)]; rfl
theorem dgt_iff {s : ByteArray} {i : Nat} : dgt s i = true ↔ i < s.size ∧ 48 ≤ byN s i ∧ byN s i ≤ 57 := by
  unfold dgt
  rw [Bool.and_eq_true, Bool.and_eq_true, decide_eq_true_eq, decide_eq_true_eq, decide_eq_true_eq]
theorem goN_iff {s : ByteArray} {a p : Nat} : goN s a p = true ↔ dgt s (a + p) = true ∧ p < 4 := by
  unfold goN
  rw [Bool.and_eq_true, decide_eq_true_eq]
theorem valN_lt {s : ByteArray} {a : Nat} : ∀ p, (∀ j, j < p → goN s a j = true) → valN s a p < 10 ^ p := by
  intro p
  induction p with
  | zero => intro _; exact Nat.one_pos
  | succ p ih =>
    intro h
    have h1 := ih fun j hj => h j (by omega)
    have h2 := (dgt_iff.1 (goN_iff.1 (h p (by omega))).1).2.2
    show 10 * valN s a p + (byN s (a + p) - 48) < 10 ^ (p + 1)
    rw [Nat.pow_succ]
    omega
theorem nxN_ok {n b : Nat} (hn : n ≤ 9999) (h1 : 48 ≤ b) (h2 : b ≤ 57) : nxN (n : Int) (b : Int) = ((10 * n + (b - 48) : Nat) : Int) := by
  unfold nxN
  rw [wrapI (x := 10 * (n : Int)) (by omega) (by omega), wrapI (x := (b : Int)) (by omega) (by omega), wrapI (x := 10 * (n : Int) + b) (by omega) (by omega), wrapI (by omega) (by omega)]
  omega
theorem some_at {s : ByteArray} {i : Nat} (h : i < s.size) : Option.isSome s[i]? = true := by
  rw [getElem?_pos s i h]; rfl
theorem round43 [Z : Zone] [T : Tab] (s : ByteArray) (a p : Nat) (hs : s.size ≤ 1000000) (ha : a ≤ s.size) (hp : p ≤ 4) (hno : ∀ j, j < p → goN s a j = true) :
    gcObs 0 0 (kp [0, 1, 6, 7] []) (code cfXe (call cfXe 60) 60 cz k43 (fr43 s a (valN s a p : Nat) ((a + p : Nat) : Int)) st0) = some (match (if goN s a p then none else some (Ex.exit 0, fr43 s a (valN s a p : Nat) ((a + p : Nat) : Int), st0) : Option (Ex × Fr × St)) with | some r => r | none => (.normal, fr43 s a (valN s a (p + 1) : Nat) ((a + (p + 1) : Nat) : Int), st0)) := by
  have hw : IntKind.wrap .i64 ((a : Int) + 4) = (a : Int) + 4 := wrapI (by omega) (by omega)
  have i0 : decide ((0 : Int) ≤ ((a + p : Nat) : Int)) = true := decide_eq_true (by omega)
  have ht : Int.toNat ((a + p : Nat) : Int) = a + p := Int.toNat_natCast _
  cases hg : goN s a p with
  | true =>
    obtain ⟨h1, h4⟩ := goN_iff.1 hg
    obtain ⟨h1, h2, h3⟩ := dgt_iff.1 h1
    have hv : valN s a p ≤ 9999 := by
      have := valN_lt p hno
      have : 10 ^ p ≤ 10 ^ 4 := Nat.pow_le_pow_right (by omega) hp
      omega
    have hl := n4_leaf s a (valN s a p : Nat) ((a + p : Nat) : Int)
    rw [byI_nat, nxN_ok hv h2 h3, show inc ((a + p : Nat) : Int) = ((a + p + 1 : Nat) : Int) from incN (by omega)] at hl
    refine path_eval tXe_ok ((n4_cond ..).trans ?_) hl
    unfold n4_c
    rw [i0, ht, some_at h1, byI_nat, hw, decide_eq_true (by omega : ((a + p : Nat) : Int) < (s.size : Int)), decide_eq_true (by omega : ((byN s (a + p) : Nat) : Int) ≥ 48), decide_eq_true (by omega : ((byN s (a + p) : Nat) : Int) ≤ 57), decide_eq_true (by omega : ((a + p : Nat) : Int) < (a : Int) + 4)]
    rfl
  | false =>
    by_cases h1 : a + p < s.size
    · by_cases h2 : 48 ≤ byN s (a + p)
      · by_cases h3 : byN s (a + p) ≤ 57
        · have h4 : ¬ p < 4 := fun h => by
            rw [goN_iff.2 ⟨dgt_iff.2 ⟨h1, h2, h3⟩, h⟩] at hg; cases hg
          refine path_eval tXe_ok ((n3_cond ..).trans ?_) (n3_leaf ..)
          unfold n3_c
          rw [i0, ht, some_at h1, byI_nat, hw, decide_eq_true (by omega : ((a + p : Nat) : Int) < (s.size : Int)), decide_eq_true (by omega : ((byN s (a + p) : Nat) : Int) ≥ 48), decide_eq_true (by omega : ((byN s (a + p) : Nat) : Int) ≤ 57), decide_eq_false (by omega : ¬ ((a + p : Nat) : Int) < (a : Int) + 4)]
          rfl
        · refine path_eval tXe_ok ((n2_cond ..).trans ?_) (n2_leaf ..)
          unfold n2_c
          rw [i0, ht, some_at h1, byI_nat, decide_eq_true (by omega : ((a + p : Nat) : Int) < (s.size : Int)), decide_eq_true (by omega : ((byN s (a + p) : Nat) : Int) ≥ 48), decide_eq_false (by omega : ¬ ((byN s (a + p) : Nat) : Int) ≤ 57)]
          rfl
      · refine path_eval tXe_ok ((n1_cond ..).trans ?_) (n1_leaf ..)
        unfold n1_c
        rw [i0, ht, some_at h1, byI_nat, decide_eq_true (by omega : ((a + p : Nat) : Int) < (s.size : Int)), decide_eq_false (by omega : ¬ ((byN s (a + p) : Nat) : Int) ≥ 48)]
        rfl
    · refine path_eval tXe_ok ((n0_cond ..).trans ?_) (n0_leaf ..)
      unfold n0_c
      rw [decide_eq_false (by omega : ¬ ((a + p : Nat) : Int) < (s.size : Int))]
      rfl
/-- what number answers -/
def numV (s : ByteArray) (a : Nat) : Int := if numP s a = 0 then -1 else (valN s a (numP s a) : Nat)
def numT (s : ByteArray) (a : Nat) : Int := ((a + numP s a : Nat) : Int)
theorem pl2 {t u : Tmp} {v w : Value} (h : plainN 9 v = true) (k : plainN 9 w = true) : plainL [(t, v), (u, w)] := fun p hp => by
  simp only [List.mem_cons, List.mem_nil_iff, or_false] at hp
  rcases hp with rfl | rfl
  · exact h
  · exact k
theorem ret43 (v w : Value) : ∀ p ∈ [((4 : Tmp), v), (5, w)], (frS 43 [(4, v), (5, w)]).tm.get p.1 = some p.2 := fun p hp => by
  simp only [List.mem_cons, List.mem_nil_iff, or_false] at hp
  rcases hp with rfl | rfl <;> simp [frS, tmS, Tr.get_put]
theorem ok43 [Z : Zone] [T : Tab] {B : Nat} {s : ByteArray} {a : Nat} (hs : s.size ≤ 1000000) (ha : a ≤ s.size) :
    AWp cfXe ⟨0, B⟩ cz b43 (frame0 43 (ntOf 43) #[.string s, .int .i64 a]) st0 (RetL [(4, .int .i64 (numV s a)), (5, .int .i64 (numT s a))]) := by
  rw [b43_eq]
  refine AWp.nestFirst (n := 60) (lim := 60) goodXe (of_treeM tXe_ok (s43a ..)) trivial (Nat.zero_le _) fun fr1 s1 hS1 => ?_
  refine AWp.seq (AWp.block ?_)
  refine AWp.countPI (m := 0) (n := 60) (lim := 60) (N := 4) (head := fun p => fr43 s a (valN s a p : Nat) ((a + p : Nat) : Int)) (sh := fun _ => st0) (sel := fun _ => kp [0, 1, 6, 7] [])
    (stop := fun p => if goN s a p then none else some (.exit 0, fr43 s a (valN s a p : Nat) ((a + p : Nat) : Int), st0)) goodXe rfl (fun _ => Nat.zero_le _) (fun _ => Nat.zero_le _)
    (fun p hp hno => round43 s a p hs ha hp fun j hj => ?_) (fun i _ => ?_) (fun _ _ => pin0) ⟨4, Nat.le_refl _, ?_⟩ (fun i r hr => ?_) (fun p r hp hno hr fr' s' hS' hG' => ?_) (snP hS1) (Grow.refl _ _)
  · have := hno j hj
    cases hb : goN s a j with
    | true => rfl
    | false => rw [hb] at this; cases this
  · split <;> trivial
  · have : goN s a 4 = false := by
      cases hb : goN s a 4 with
      | false => rfl
      | true => exact absurd (goN_iff.1 hb).2 (by omega)
    rw [this]; simp
  · split at hr
    · cases hr
    · cases hr; intro e; cases e
  · cases hb : goN s a p with
    | true => rw [hb] at hr; cases hr
    | false =>
      rw [hb] at hr; cases hr
      have hno' : ∀ j, j < p → goN s a j = true := fun j hj => by
        have := hno j hj
        cases hb : goN s a j with
        | true => rfl
        | false => rw [hb] at this; cases this
      have hP := numP_is hno' hb hp
      refine ⟨hG', ?_⟩
      unfold numV numT
      rw [hP]
      by_cases h0 : p = 0
      · subst h0
        refine AWp.seen goodXe rfl (snQ hS') (Nat.zero_le _) (path_eval tXe_ok ((ne1_cond ..).trans ?_) (ne1_leaf ..)) trivial fun fr4 s4 hS4 _ => ⟨.inr rfl, hS4.plains ?_ (ret43 _ _)⟩
        · unfold ne1_c
          rw [Nat.add_zero, beq_self_eq_true]; rfl
        · exact pl2 rfl rfl
      · rw [if_neg h0]
        refine AWp.seen goodXe rfl (snQ hS') (Nat.zero_le _) (path_eval tXe_ok ((ne0_cond ..).trans ?_) (ne0_leaf ..)) trivial fun fr4 s4 hS4 _ => ⟨.inr rfl, hS4.plains ?_ (ret43 _ _)⟩
        · unfold ne0_c
          rw [beq_eq_false_iff_ne.2 (by omega)]; rfl
        · exact pl2 rfl rfl
theorem i43_fn : cfXe.fns 43 = some { body := b43, nt := ntOf 43, results := [.tmp 4, .tmp 5], pure := false } := by kernel_rfl
theorem nt43_le : 2 ≤ ntOf 43 := by decide +kernel
def numD2 (v : ByteArray → Nat → Int) (e : ByteArray → Nat → Int) : Array Value → DT (Option (Value × St))
  | ⟨[.string s, .int .i64 a]⟩ => .must (decide (0 ≤ a) && (decide (a ≤ ((ByteArray.size s : Nat) : Int)) && decide (s.size ≤ 1000000))) (.leaf (some (.tuple #[.int .i64 (v s a.toNat), .int .i64 (e s a.toNat)], st0))) (.leaf none)
  | _ => .leaf none
theorem tells43 [Z : Zone] [T : Tab] : Tells cfXe 43 fun a => (numD2 numV numT a).eval := by
  refine tells_two goodXe rfl i43_fn (t := 4) (u := 5) rfl fun args x hx => ?_
  unfold numD2 at hx
  split at hx
  · rename_i s a
    rw [DT.eval_must] at hx
    cases h : (decide (0 ≤ a) && (decide (a ≤ ((ByteArray.size s : Nat) : Int)) && decide (s.size ≤ 1000000))) with
    | false => rw [h] at hx; cases hx
    | true =>
      rw [h, cond_true, DT.eval_leaf] at hx
      cases hx
      rw [Bool.and_eq_true, Bool.and_eq_true, decide_eq_true_eq, decide_eq_true_eq, decide_eq_true_eq] at h
      obtain ⟨h0, h1, h2⟩ := h
      have hok := fun b => ok43 (B := b) (s := s) (a := a.toNat) h2 (by omega)
      rw [Int.toNat_of_nonneg h0] at hok
      exact ⟨by simp [freeN], nt43_le, _, _, rfl, rfl, rfl, rfl, rfl, hok⟩
  · cases hx
def TXg : FuncId → Option (Array Value → DT (Option (Value × St)))
  | 43 => some (numD2 numV numT)
  | _ => none
def cfXg : Cfg := cfXe.told TXg
theorem goodXg [Z : Zone] [T : Tab] (B : Base) : Go.Am.Good cfXg B := tells_good (fun B => goodXe B) (fun f F h => by
  unfold TXg at h
  split at h
  · cases h; exact ⟨⟨_, i43_fn⟩, tells43⟩
  · cases h) B
def tXg : FuncId → Option HandT := treeT TXg tXe
theorem tXg_ok : ∀ f k hd, tXg f = some k → cfXg.hand f = some hd → ∀ a c s, (k a c s).eval = hd a c s := treeT_ok tXe_ok
end
end Go.Proofs.YtmpokdnpkjcnbaaDoor
