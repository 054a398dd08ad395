import Derived.Test.YtmpokdnpkjcnbaaDoorHb
/- Masks: trees. -/
namespace Go.Proofs.YtmpokdnpkjcnbaaDoor
open Go.Am
noncomputable section
/-- a mask: four numbers -/
def mk (a b c d : Int) : Value := .agg ⟨[.int .u64 a, .int .u64 b, .int .u64 c, .int .u64 d]⟩
def w4 (a b c d : Int) (n : Int) : Option Value := (⟨[.int .u64 a, .int .u64 b, .int .u64 c, .int .u64 d]⟩ : Array Value)[0 + Int.toNat (IntKind.wrap .i64 (Int.tdiv n 64)) * 1]?
def and64 (a b : Int) : Int := IntKind.wrap .u64 ((BitVec.toNat (BitVec.ofInt (IntKind.bits .u64) a &&& BitVec.ofInt (IntKind.bits .u64) b) : Nat) : Int)
def or64 (a b : Int) : Int := IntKind.wrap .u64 ((BitVec.toNat (BitVec.ofInt (IntKind.bits .u64) a ||| BitVec.ofInt (IntKind.bits .u64) b) : Nat) : Int)
def not64 (a b : Int) : Int := IntKind.wrap .u64 ((BitVec.toNat (BitVec.ofInt (IntKind.bits .u64) a &&& ~~~BitVec.ofInt (IntKind.bits .u64) b) : Nat) : Int)
def bit1 (x : Int) (n : Int) : Int := and64 (Int.fdiv x (2 ^ (min (Int.toNat (Int.tmod n 64)) (IntKind.bits .u64)))) 1
def inI (n : Int) : Bool := decide (0 ≤ IntKind.wrap .i64 (Int.tdiv n 64)) && decide (IntKind.wrap .i64 (Int.tdiv n 64) < ((4 : Nat) : Int))
theorem has_t_k : (fun (a b c d n : Int) => (callT cfA tA 40 (.func (.func 19) #[] #[]) #[mk a b c d, .int .i64 n] (ctx0 0) st0).evalM seenOf) = fun (a b c d n : Int) => bif decide (n ≥ 0) then (bif decide (n < 256) then (bif inI n then (bif isI .u64 (w4 a b c d n) then (bif decide (Int.tmod n 64 < 0) then none else some (.bool (bit1 (toI (w4 a b c d n)) n == 1), st0)) else none) else none) else some (.bool false, st0)) else some (.bool false, st0) := by kernel_rfl
theorem has_t (a b c d n : Int) : (callT cfA tA 40 (.func (.func 19) #[] #[]) #[mk a b c d, .int .i64 n] (ctx0 0) st0).evalM seenOf = bif decide (n ≥ 0) then (bif decide (n < 256) then (bif inI n then (bif isI .u64 (w4 a b c d n) then (bif decide (Int.tmod n 64 < 0) then none else some (.bool (bit1 (toI (w4 a b c d n)) n == 1), st0)) else none) else none) else some (.bool false, st0)) else some (.bool false, st0) := congrFun (congrFun (congrFun (congrFun (congrFun has_t_k a) b) c) d) n
theorem and_t_k : (fun (a b c d e f g h : Int) => (callT cfA tA 40 (.func (.func 29) #[] #[]) #[mk a b c d, mk e f g h] (ctx0 0) st0).evalM seenOf) = fun (a b c d e f g h : Int) => some (mk (and64 a e) (and64 b f) (and64 c g) (and64 d h), st0) := by kernel_rfl
theorem and_t (a b c d e f g h : Int) : (callT cfA tA 40 (.func (.func 29) #[] #[]) #[mk a b c d, mk e f g h] (ctx0 0) st0).evalM seenOf = some (mk (and64 a e) (and64 b f) (and64 c g) (and64 d h), st0) := congrFun (congrFun (congrFun (congrFun (congrFun (congrFun (congrFun (congrFun and_t_k a) b) c) d) e) f) g) h
theorem or_t_k : (fun (a b c d e f g h : Int) => (callT cfA tA 40 (.func (.func 31) #[] #[]) #[mk a b c d, mk e f g h] (ctx0 0) st0).evalM seenOf) = fun (a b c d e f g h : Int) => some (mk (or64 a e) (or64 b f) (or64 c g) (or64 d h), st0) := by kernel_rfl
theorem or_t (a b c d e f g h : Int) : (callT cfA tA 40 (.func (.func 31) #[] #[]) #[mk a b c d, mk e f g h] (ctx0 0) st0).evalM seenOf = some (mk (or64 a e) (or64 b f) (or64 c g) (or64 d h), st0) := congrFun (congrFun (congrFun (congrFun (congrFun (congrFun (congrFun (congrFun or_t_k a) b) c) d) e) f) g) h
theorem not_t_k : (fun (a b c d e f g h : Int) => (callT cfA tA 40 (.func (.func 27) #[] #[]) #[mk a b c d, mk e f g h] (ctx0 0) st0).evalM seenOf) = fun (a b c d e f g h : Int) => some (mk (not64 a e) (not64 b f) (not64 c g) (not64 d h), st0) := by kernel_rfl
theorem not_t (a b c d e f g h : Int) : (callT cfA tA 40 (.func (.func 27) #[] #[]) #[mk a b c d, mk e f g h] (ctx0 0) st0).evalM seenOf = some (mk (not64 a e) (not64 b f) (not64 c g) (not64 d h), st0) := congrFun (congrFun (congrFun (congrFun (congrFun (congrFun (congrFun (congrFun not_t_k a) b) c) d) e) f) g) h
theorem told_t_k : (fun (a b c d : Int) => (callT cfA tA 40 (.func (.func 21) #[] #[]) #[mk a b c d] (ctx0 0) st0).evalM seenOf) = fun (a b c d : Int) => some (mk a b c d, st0) := by kernel_rfl
theorem told_t (a b c d : Int) : (callT cfA tA 40 (.func (.func 21) #[] #[]) #[mk a b c d] (ctx0 0) st0).evalM seenOf = some (mk a b c d, st0) := congrFun (congrFun (congrFun (congrFun told_t_k a) b) c) d
theorem own_t_k : (fun (a b c d : Int) => (callT cfA tA 40 (.func (.func 10) #[] #[]) #[mk a b c d] (ctx0 0) st0).evalM seenOf) = fun (a b c d : Int) => some (mk a b c d, st0) := by kernel_rfl
theorem own_t (a b c d : Int) : (callT cfA tA 40 (.func (.func 10) #[] #[]) #[mk a b c d] (ctx0 0) st0).evalM seenOf = some (mk a b c d, st0) := congrFun (congrFun (congrFun (congrFun own_t_k a) b) c) d
end
end Go.Proofs.YtmpokdnpkjcnbaaDoor

/- Masks: the straight functions, told. -/
namespace Go.Proofs.YtmpokdnpkjcnbaaDoor
open Go.Am
noncomputable section
def cell4 (a b c d : Int) (k : Nat) : Int := cond (Nat.beq k 0) a (cond (Nat.beq k 1) b (cond (Nat.beq k 2) c d))
def inU (x : Int) : Bool := decide (0 ≤ x) && decide (x < 18446744073709551616)
def inQ (a b c d : Int) : Bool := inU a && (inU b && (inU c && inU d))
/-- has a mask a core? -/
def hasB (a b c d n : Int) : Bool := decide (0 ≤ n) && (decide (n < 256) && Nat.testBit (cell4 a b c d (n.toNat / 64)).toNat (n.toNat % 64))
theorem wrapI {x : Int} (h1 : -9223372036854775808 ≤ x) (h2 : x ≤ 9223372036854775807) : IntKind.wrap .i64 x = x := by
  simp [IntKind.wrap, IntKind.signed, IntKind.bits, Int.bmod]
  split <;> omega
theorem wrapU {x : Int} (h1 : 0 ≤ x) (h2 : x < 18446744073709551616) : IntKind.wrap .u64 x = x := by
  simp [IntKind.wrap, IntKind.signed, IntKind.bits]
  omega
theorem and64_nat (x y : Nat) : and64 (x : Int) (y : Int) = (((x % 18446744073709551616) &&& (y % 18446744073709551616) : Nat) : Int) := by
  unfold and64
  have e : BitVec.toNat (BitVec.ofInt (IntKind.bits .u64) (x : Int) &&& BitVec.ofInt (IntKind.bits .u64) (y : Int)) = (x % 18446744073709551616) &&& (y % 18446744073709551616) := by
    rw [BitVec.toNat_and, BitVec.ofInt_natCast, BitVec.ofInt_natCast, BitVec.toNat_ofNat, BitVec.toNat_ofNat]
    rfl
  rw [e]
  refine wrapU (by omega) ?_
  have : (x % 18446744073709551616) &&& (y % 18446744073709551616) ≤ x % 18446744073709551616 := Nat.and_le_left
  omega
theorem bit1_eq {x : Nat} (hx : x < 18446744073709551616) {n : Nat} (hn : n < 256) : (bit1 (x : Int) (n : Int) == 1) = Nat.testBit x (n % 64) := by
  unfold bit1
  have e1 : Int.toNat (Int.tmod (n : Int) 64) = n % 64 := by
    rw [Int.tmod_eq_emod_of_nonneg (by omega)]
    omega
  have e2 : min (n % 64) (IntKind.bits .u64) = n % 64 := by simp [IntKind.bits]; omega
  rw [e1, e2]
  have e3 : Int.fdiv (x : Int) (2 ^ (n % 64)) = ((x / 2 ^ (n % 64) : Nat) : Int) := by
    rw [Int.fdiv_eq_ediv_of_nonneg _ (Int.le_of_lt (Int.pow_pos (by decide)))]
    have e : ((2 ^ (n % 64) : Nat) : Int) = 2 ^ (n % 64) := by simp
    rw [← e]
    rfl
  have e5 := and64_nat (x / 2 ^ (n % 64)) 1
  rw [e3, show and64 ((x / 2 ^ (n % 64) : Nat) : Int) 1 = _ from e5]
  have h4 : x / 2 ^ (n % 64) % 18446744073709551616 = x / 2 ^ (n % 64) := Nat.mod_eq_of_lt (Nat.lt_of_le_of_lt (Nat.div_le_self _ _) hx)
  rw [h4, show 1 % 18446744073709551616 = 1 from rfl, Nat.and_one_is_mod, Nat.testBit_eq_decide_div_mod_eq]
  by_cases h : x / 2 ^ (n % 64) % 2 = 1
  · simp [h]
  · have : x / 2 ^ (n % 64) % 2 = 0 := by omega
    simp [this]
end
end Go.Proofs.YtmpokdnpkjcnbaaDoor

/- Masks: the straight functions, told. -/
namespace Go.Proofs.YtmpokdnpkjcnbaaDoor
open Go.Am
noncomputable section
theorem inU_iff {x : Int} : inU x = true ↔ 0 ≤ x ∧ x < 18446744073709551616 := by simp [inU]
theorem inQ_iff {a b c d : Int} : inQ a b c d = true ↔ (0 ≤ a ∧ a < 18446744073709551616) ∧ (0 ≤ b ∧ b < 18446744073709551616) ∧ (0 ≤ c ∧ c < 18446744073709551616) ∧ (0 ≤ d ∧ d < 18446744073709551616) := by
  simp [inQ, inU_iff]
theorem w4_eq {a b c d : Int} {n : Nat} (hn : n < 256) : w4 a b c d (n : Int) = some (.int .u64 (cell4 a b c d (n / 64))) := by
  unfold w4
  have e1 : Int.tdiv (n : Int) 64 = ((n / 64 : Nat) : Int) := by
    rw [Int.tdiv_eq_ediv_of_nonneg (by omega)]
    rfl
  rw [e1, wrapI (by omega) (by omega), Int.toNat_natCast]
  rcases (by omega : n / 64 = 0 ∨ n / 64 = 1 ∨ n / 64 = 2 ∨ n / 64 = 3) with h | h | h | h <;> rw [h] <;> rfl
theorem has_tree {a b c d n : Int} (h : inQ a b c d = true) : (callT cfA tA 40 (.func (.func 19) #[] #[]) #[mk a b c d, .int .i64 n] (ctx0 0) st0).evalM seenOf = some (.bool (hasB a b c d n), st0) := by
  rw [has_t]
  by_cases h0 : n ≥ 0
  · rw [decide_eq_true h0, cond_true]
    by_cases h1 : n < 256
    · rw [decide_eq_true h1, cond_true]
      obtain ⟨m, rfl⟩ : ∃ m : Nat, n = m := ⟨n.toNat, by omega⟩
      have hm : m < 256 := by omega
      have e1 : Int.tdiv (m : Int) 64 = ((m / 64 : Nat) : Int) := by
        rw [Int.tdiv_eq_ediv_of_nonneg (by omega)]
        rfl
      have hI : inI (m : Int) = true := by
        unfold inI
        rw [e1, wrapI (by omega) (by omega), decide_eq_true (by omega), decide_eq_true (by omega)]
        rfl
      have ht : ¬ Int.tmod (m : Int) 64 < 0 := by
        rw [Int.tmod_eq_emod_of_nonneg (by omega)]
        omega
      obtain ⟨q1, q2, q3, q4⟩ := inQ_iff.1 h
      have hc : 0 ≤ cell4 a b c d (m / 64) ∧ cell4 a b c d (m / 64) < 18446744073709551616 := by
        rcases (by omega : m / 64 = 0 ∨ m / 64 = 1 ∨ m / 64 = 2 ∨ m / 64 = 3) with h | h | h | h <;> rw [h]
        · exact q1
        · exact q2
        · exact q3
        · exact q4
      rw [hI, cond_true, w4_eq hm, show isI .u64 (some (.int .u64 (cell4 a b c d (m / 64)))) = true from rfl, cond_true, decide_eq_false ht, cond_false]
      obtain ⟨x, hx⟩ : ∃ x : Nat, cell4 a b c d (m / 64) = x := ⟨(cell4 a b c d (m / 64)).toNat, by omega⟩
      have hb : (bit1 (toI (some (.int .u64 (cell4 a b c d (m / 64))))) (m : Int) == 1) = hasB a b c d m := by
        show (bit1 (cell4 a b c d (m / 64)) (m : Int) == 1) = _
        unfold hasB
        rw [Int.toNat_natCast, hx, Int.toNat_natCast, bit1_eq (by omega) hm, decide_eq_true (by omega), decide_eq_true (by omega)]
        rfl
      rw [hb]
    · rw [decide_eq_false h1, cond_false]
      unfold hasB
      rw [decide_eq_false h1]
      simp
  · rw [decide_eq_false h0, cond_false]
    unfold hasB
    rw [decide_eq_false h0]
    rfl
def hasD : Array Value → DT (Option (Value × St))
  | ⟨[.agg ⟨[.int .u64 a, .int .u64 b, .int .u64 c, .int .u64 d]⟩, .int .i64 n]⟩ => .must (inQ a b c d) (.leaf (some (.bool (hasB a b c d n), st0))) (.leaf none)
  | _ => .leaf none
def binD (o : Int → Int → Int) : Array Value → DT (Option (Value × St))
  | ⟨[.agg ⟨[.int .u64 a, .int .u64 b, .int .u64 c, .int .u64 d]⟩, .agg ⟨[.int .u64 e, .int .u64 f, .int .u64 g, .int .u64 h]⟩]⟩ => .leaf (some (mk (o a e) (o b f) (o c g) (o d h), st0))
  | _ => .leaf none
def oneD : Array Value → DT (Option (Value × St))
  | ⟨[.agg ⟨[.int .u64 a, .int .u64 b, .int .u64 c, .int .u64 d]⟩]⟩ => .leaf (some (mk a b c d, st0))
  | _ => .leaf none
def TB : FuncId → Option (Array Value → DT (Option (Value × St)))
  | 10 => some oneD
  | 19 => some hasD
  | 21 => some oneD
  | 27 => some (binD not64)
  | 29 => some (binD and64)
  | 31 => some (binD or64)
  | _ => none
theorem bin_apart {f : FuncId} {o : Int → Int → Int} (ht : ∀ a b c d e f' g h : Int, (callT cfA tA 40 (.func (.func f) #[] #[]) #[mk a b c d, mk e f' g h] (ctx0 0) st0).evalM seenOf = some (mk (o a e) (o b f') (o c g) (o d h), st0)) : Apart cfA f (binD o) := by
  intro args x h
  unfold binD at h
  split at h
  · cases h
    exact ⟨by simp [freeN], tree_call tA_ok (ht ..)⟩
  · cases h
theorem one_apart {f : FuncId} (ht : ∀ a b c d : Int, (callT cfA tA 40 (.func (.func f) #[] #[]) #[mk a b c d] (ctx0 0) st0).evalM seenOf = some (mk a b c d, st0)) : Apart cfA f oneD := by
  intro args x h
  unfold oneD at h
  split at h
  · cases h
    exact ⟨by simp [freeN], tree_call tA_ok (ht ..)⟩
  · cases h
theorem has_apart : Apart cfA 19 hasD := by
  intro args x h
  unfold hasD at h
  split at h
  · rename_i a b c d n
    rw [DT.eval_must] at h
    cases hc : inQ a b c d with
    | false => rw [hc] at h; cases h
    | true =>
      rw [hc, cond_true, DT.eval_leaf] at h
      cases h
      exact ⟨by simp [freeN], tree_call tA_ok (has_tree hc)⟩
  · cases h
def cfB : Cfg := cfA.told TB
theorem hasF (f : FuncId) (h : (cfA.fns f).isSome = true) : ∃ i, cfA.fns f = some i := Option.isSome_iff_exists.1 h
theorem goodB [Z : Zone] [T : Tab] (B : Base) : Go.Am.Good cfB B := told_good (fun B => goodA B) rfl (fun f F h => by
  unfold TB at h
  split at h
  · cases h; exact ⟨rfl, hasF 10 (by kernel_rfl), one_apart own_t⟩
  · cases h; exact ⟨rfl, hasF 19 (by kernel_rfl), has_apart⟩
  · cases h; exact ⟨rfl, hasF 21 (by kernel_rfl), one_apart told_t⟩
  · cases h; exact ⟨rfl, hasF 27 (by kernel_rfl), bin_apart not_t⟩
  · cases h; exact ⟨rfl, hasF 29 (by kernel_rfl), bin_apart and_t⟩
  · cases h; exact ⟨rfl, hasF 31 (by kernel_rfl), bin_apart or_t⟩
  · cases h) B
def tB : FuncId → Option HandT := treeT TB tA
theorem tB_ok : ∀ f k hd, tB f = some k → cfB.hand f = some hd → ∀ a c s, (k a c s).eval = hd a c s := treeT_ok tA_ok
end
end Go.Proofs.YtmpokdnpkjcnbaaDoor
