/- Masks as bits: the laws of and, or, minus; how many. -/
import Derived.Test.YtmpokdnpkjcnbaaDoorM
namespace Go.Proofs.YtmpokdnpkjcnbaaDoor
open Go.Am
noncomputable section
abbrev B64 := BitVec 64
/-- a number of 64 bits, as the program has it -/
def U (x : B64) : Int := (x.toNat : Int)
theorem u_rep {a : Int} (h : 0 ≤ a ∧ a < 18446744073709551616) : ∃ x, a = U x := by
  refine ⟨BitVec.ofInt 64 a, ?_⟩
  unfold U
  rw [BitVec.toNat_ofInt]
  have e : a % ((2 ^ 64 : Nat) : Int) = a := Int.emod_eq_of_lt h.1 (by have := h.2; simpa using this)
  rw [e, Int.toNat_of_nonneg h.1]
theorem u_inU (x : B64) : inU (U x) = true := by
  have h := x.isLt
  unfold inU U
  rw [decide_eq_true (by omega : (0 : Int) ≤ (x.toNat : Int)), decide_eq_true (by omega : (x.toNat : Int) < 18446744073709551616)]
  rfl
theorem u_inQ (x y z w : B64) : inQ (U x) (U y) (U z) (U w) = true := by simp [inQ, u_inU]
theorem u_of (x : B64) : BitVec.ofInt (IntKind.bits .u64) (U x) = x := by
  show BitVec.ofInt 64 ((x.toNat : Nat) : Int) = x
  rw [BitVec.ofInt_natCast, BitVec.ofNat_toNat]
  simp
theorem u_wrap (x : B64) : IntKind.wrap .u64 ((x.toNat : Nat) : Int) = U x := wrapU (by omega) (by have := x.isLt; omega)
theorem u_and (x y : B64) : and64 (U x) (U y) = U (x &&& y) := by unfold and64; rw [u_of, u_of]; exact u_wrap _
theorem u_or (x y : B64) : or64 (U x) (U y) = U (x ||| y) := by unfold or64; rw [u_of, u_of]; exact u_wrap _
theorem u_not (x y : B64) : not64 (U x) (U y) = U (x &&& ~~~y) := by unfold not64; rw [u_of, u_of]; exact u_wrap _
theorem u_bit (x : B64) (k : Nat) : Nat.testBit (U x).toNat k = x.getLsbD k := by
  show Nat.testBit (Int.toNat ((x.toNat : Nat) : Int)) k = _
  rw [Int.toNat_natCast]
  exact BitVec.testBit_toNat x
def c4 (a b c d : B64) (k : Nat) : B64 := cond (Nat.beq k 0) a (cond (Nat.beq k 1) b (cond (Nat.beq k 2) c d))
theorem u_cell (a b c d : B64) (k : Nat) : cell4 (U a) (U b) (U c) (U d) k = U (c4 a b c d k) := by
  unfold cell4 c4
  cases Nat.beq k 0 <;> cases Nat.beq k 1 <;> cases Nat.beq k 2 <;> rfl
theorem hasB_and (a b c d e f g h : B64) (n : Int) : hasB (U (a &&& e)) (U (b &&& f)) (U (c &&& g)) (U (d &&& h)) n = (hasB (U a) (U b) (U c) (U d) n && hasB (U e) (U f) (U g) (U h) n) := by
  unfold hasB
  rw [u_cell, u_cell, u_cell, u_bit, u_bit, u_bit]
  have e : c4 (a &&& e) (b &&& f) (c &&& g) (d &&& h) (n.toNat / 64) = c4 a b c d (n.toNat / 64) &&& c4 e f g h (n.toNat / 64) := by
    unfold c4
    cases Nat.beq (n.toNat / 64) 0 <;> cases Nat.beq (n.toNat / 64) 1 <;> cases Nat.beq (n.toNat / 64) 2 <;> rfl
  rw [e, BitVec.getLsbD_and]
  cases decide (0 ≤ n) <;> cases decide (n < 256) <;> simp
theorem hasB_or (a b c d e f g h : B64) (n : Int) : hasB (U (a ||| e)) (U (b ||| f)) (U (c ||| g)) (U (d ||| h)) n = (hasB (U a) (U b) (U c) (U d) n || hasB (U e) (U f) (U g) (U h) n) := by
  unfold hasB
  rw [u_cell, u_cell, u_cell, u_bit, u_bit, u_bit]
  have e : c4 (a ||| e) (b ||| f) (c ||| g) (d ||| h) (n.toNat / 64) = c4 a b c d (n.toNat / 64) ||| c4 e f g h (n.toNat / 64) := by
    unfold c4
    cases Nat.beq (n.toNat / 64) 0 <;> cases Nat.beq (n.toNat / 64) 1 <;> cases Nat.beq (n.toNat / 64) 2 <;> rfl
  rw [e, BitVec.getLsbD_or]
  cases decide (0 ≤ n) <;> cases decide (n < 256) <;> simp
theorem cnt_sum (a b c d e f g h : B64) (i : Nat) : cntN (U (a &&& e)) (U (b &&& f)) (U (c &&& g)) (U (d &&& h)) i + cntN (U (a ||| e)) (U (b ||| f)) (U (c ||| g)) (U (d ||| h)) i = cntN (U a) (U b) (U c) (U d) i + cntN (U e) (U f) (U g) (U h) i := by
  induction i with
  | zero => rfl
  | succ i ih =>
    unfold cntN
    rw [hasB_and, hasB_or]
    cases hasB (U a) (U b) (U c) (U d) i <;> cases hasB (U e) (U f) (U g) (U h) i <;> simp <;> omega
theorem e_and (x y : B64) : (U (x &&& y) == U (y &&& x)) = true := by rw [BitVec.and_comm]; exact beq_self_eq_true _
theorem e_or (x y : B64) : (U (x ||| y) == U (y ||| x)) = true := by rw [BitVec.or_comm]; exact beq_self_eq_true _
theorem e_dist (x y z : B64) : (U (x &&& (y ||| z)) == U ((x &&& y) ||| (x &&& z))) = true := by
  have : x &&& (y ||| z) = (x &&& y) ||| (x &&& z) := by
    apply BitVec.eq_of_getLsbD_eq; intro i hi; simp only [BitVec.getLsbD_and, BitVec.getLsbD_or]; cases x.getLsbD i <;> simp
  rw [this]; exact beq_self_eq_true _
theorem e_dem (x y z : B64) : (U (x &&& ~~~(y ||| z)) == U ((x &&& ~~~y) &&& ~~~z)) = true := by
  have : x &&& ~~~(y ||| z) = (x &&& ~~~y) &&& ~~~z := by
    apply BitVec.eq_of_getLsbD_eq; intro i hi; simp only [BitVec.getLsbD_and, BitVec.getLsbD_or, BitVec.getLsbD_not, hi, decide_true, Bool.true_and]; cases x.getLsbD i <;> cases y.getLsbD i <;> simp
  rw [this]; exact beq_self_eq_true _
theorem e_back (x y : B64) : (U ((x &&& ~~~y) ||| (x &&& y)) == U x) = true := by
  have : (x &&& ~~~y) ||| (x &&& y) = x := by
    apply BitVec.eq_of_getLsbD_eq; intro i hi; simp only [BitVec.getLsbD_and, BitVec.getLsbD_or, BitVec.getLsbD_not, hi, decide_true, Bool.true_and]; cases x.getLsbD i <;> cases y.getLsbD i <;> simp
  rw [this]; exact beq_self_eq_true _
theorem e_zero (x y : B64) : (U ((x &&& ~~~y) &&& y) == 0) = true := by
  have : (x &&& ~~~y) &&& y = 0#64 := by
    apply BitVec.eq_of_getLsbD_eq; intro i hi; simp only [BitVec.getLsbD_and, BitVec.getLsbD_not, hi, decide_true, Bool.true_and]; cases x.getLsbD i <;> cases y.getLsbD i <;> simp
  rw [this]; rfl
/-- what they compute -/
def p0 : Fs := ⟨and64, or64, not64, fun a b c d => (cntN a b c d 256 : Nat), inQ⟩
theorem alg_true (a b c d e f g h q r s t : B64) : alg_c p0 (U a) (U b) (U c) (U d) (U e) (U f) (U g) (U h) (U q) (U r) (U s) (U t) = true := by
  have hc := cnt_sum a b c d e f g h 256
  have h1 : ((cntN (U (a &&& e)) (U (b &&& f)) (U (c &&& g)) (U (d &&& h)) 256 : Nat) : Int) + ((cntN (U (a ||| e)) (U (b ||| f)) (U (c ||| g)) (U (d ||| h)) 256 : Nat) : Int) = ((cntN (U a) (U b) (U c) (U d) 256 : Nat) : Int) + ((cntN (U e) (U f) (U g) (U h) 256 : Nat) : Int) := by omega
  simp only [alg_c, p0, u_and, u_or, u_not, e_and, e_or, e_dist, e_dem, e_back, e_zero, u_inQ, h1, beq_self_eq_true, Bool.and_true, Bool.not_true, Bool.not_false]
end
end Go.Proofs.YtmpokdnpkjcnbaaDoor
