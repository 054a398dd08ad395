/- Masks: the straight functions, told. -/
import Derived.Test.YtmpokdnpkjcnbaaDoorC
namespace Go.Proofs.YtmpokdnpkjcnbaaDoor
open Go.Am
noncomputable section
def cell4 (a b c d : Int) (k : Nat) : Int := cond (Nat.beq k 0) a (cond (Nat.beq k 1) b (cond (Nat.beq k 2) c d))
def inU (x : Int) : Bool := decide (0 ≤ x) && decide (x < 18446744073709551616)
def inQ (a b c d : Int) : Bool := inU a && (inU b && (inU c && inU d))
/-- has a mask a core? -/
def hasB (a b c d n : Int) : Bool := decide (0 ≤ n) && (decide (n < 256) && Nat.testBit (cell4 a b c d (n.toNat / 64)).toNat (n.toNat % 64))
theorem wrapI {x : Int} (h1 : -9223372036854775808 ≤ x) (h2 : x ≤ 9223372036854775807) : IntKind.wrap .i64 x = x := by
  simp [IntKind.wrap, IntKind.signed, IntKind.bits, Int.bmod]
  split <;> omega
theorem wrapU {x : Int} (h1 : 0 ≤ x) (h2 : x < 18446744073709551616) : IntKind.wrap .u64 x = x := by
  simp [IntKind.wrap, IntKind.signed, IntKind.bits]
  omega
theorem and64_nat (x y : Nat) : and64 (x : Int) (y : Int) = (((x % 18446744073709551616) &&& (y % 18446744073709551616) : Nat) : Int) := by
  unfold and64
  have e : BitVec.toNat (BitVec.ofInt (IntKind.bits .u64) (x : Int) &&& BitVec.ofInt (IntKind.bits .u64) (y : Int)) = (x % 18446744073709551616) &&& (y % 18446744073709551616) := by
    rw [BitVec.toNat_and, BitVec.ofInt_natCast, BitVec.ofInt_natCast, BitVec.toNat_ofNat, BitVec.toNat_ofNat]
    rfl
  rw [e]
  refine wrapU (by omega) ?_
  have : (x % 18446744073709551616) &&& (y % 18446744073709551616) ≤ x % 18446744073709551616 := Nat.and_le_left
  omega
theorem bit1_eq {x : Nat} (hx : x < 18446744073709551616) {n : Nat} (hn : n < 256) : (bit1 (x : Int) (n : Int) == 1) = Nat.testBit x (n % 64) := by
  unfold bit1
  have e1 : Int.toNat (Int.tmod (n : Int) 64) = n % 64 := by
    rw [Int.tmod_eq_emod_of_nonneg (by omega)]
    omega
  have e2 : min (n % 64) (IntKind.bits .u64) = n % 64 := by simp [IntKind.bits]; omega
  rw [e1, e2]
  have e3 : Int.fdiv (x : Int) (2 ^ (n % 64)) = ((x / 2 ^ (n % 64) : Nat) : Int) := by
    rw [Int.fdiv_eq_ediv_of_nonneg _ (Int.le_of_lt (Int.pow_pos (by decide)))]
    have e : ((2 ^ (n % 64) : Nat) : Int) = 2 ^ (n % 64) := by simp
    rw [← e]
    rfl
  have e5 := and64_nat (x / 2 ^ (n % 64)) 1
  rw [e3, show and64 ((x / 2 ^ (n % 64) : Nat) : Int) 1 = _ from e5]
  have h4 : x / 2 ^ (n % 64) % 18446744073709551616 = x / 2 ^ (n % 64) := Nat.mod_eq_of_lt (Nat.lt_of_le_of_lt (Nat.div_le_self _ _) hx)
  rw [h4, show 1 % 18446744073709551616 = 1 from rfl, Nat.and_one_is_mod, Nat.testBit_eq_decide_div_mod_eq]
  by_cases h : x / 2 ^ (n % 64) % 2 = 1
  · simp [h]
  · have : x / 2 ^ (n % 64) % 2 = 0 := by omega
    simp [this]
end
end Go.Proofs.YtmpokdnpkjcnbaaDoor
