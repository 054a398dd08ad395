/- Masks: trees. -/
import Derived.Test.YtmpokdnpkjcnbaaDoorHb
namespace Go.Proofs.YtmpokdnpkjcnbaaDoor
open Go.Am
noncomputable section
/-- a mask: four numbers -/
def mk (a b c d : Int) : Value := .agg ⟨[.int .u64 a, .int .u64 b, .int .u64 c, .int .u64 d]⟩
def w4 (a b c d : Int) (n : Int) : Option Value := (⟨[.int .u64 a, .int .u64 b, .int .u64 c, .int .u64 d]⟩ : Array Value)[0 + Int.toNat (IntKind.wrap .i64 (Int.tdiv n 64)) * 1]?
def and64 (a b : Int) : Int := IntKind.wrap .u64 ((BitVec.toNat (BitVec.ofInt (IntKind.bits .u64) a &&& BitVec.ofInt (IntKind.bits .u64) b) : Nat) : Int)
def or64 (a b : Int) : Int := IntKind.wrap .u64 ((BitVec.toNat (BitVec.ofInt (IntKind.bits .u64) a ||| BitVec.ofInt (IntKind.bits .u64) b) : Nat) : Int)
def not64 (a b : Int) : Int := IntKind.wrap .u64 ((BitVec.toNat (BitVec.ofInt (IntKind.bits .u64) a &&& ~~~BitVec.ofInt (IntKind.bits .u64) b) : Nat) : Int)
def bit1 (x : Int) (n : Int) : Int := and64 (Int.fdiv x (2 ^ (min (Int.toNat (Int.tmod n 64)) (IntKind.bits .u64)))) 1
def inI (n : Int) : Bool := decide (0 ≤ IntKind.wrap .i64 (Int.tdiv n 64)) && decide (IntKind.wrap .i64 (Int.tdiv n 64) < ((4 : Nat) : Int))
theorem has_t_k : (fun (a b c d n : Int) => (callT cfA tA 40 (.func (.func 19) #[] #[]) #[mk a b c d, .int .i64 n] (ctx0 0) st0).evalM seenOf) = fun (a b c d n : Int) => bif decide (n ≥ 0) then (bif decide (n < 256) then (bif inI n then (bif isI .u64 (w4 a b c d n) then (bif decide (Int.tmod n 64 < 0) then none else some (.bool (bit1 (toI (w4 a b c d n)) n == 1), st0)) else none) else none) else some (.bool false, st0)) else some (.bool false, st0) := by kernel_rfl
theorem has_t (a b c d n : Int) : (callT cfA tA 40 (.func (.func 19) #[] #[]) #[mk a b c d, .int .i64 n] (ctx0 0) st0).evalM seenOf = bif decide (n ≥ 0) then (bif decide (n < 256) then (bif inI n then (bif isI .u64 (w4 a b c d n) then (bif decide (Int.tmod n 64 < 0) then none else some (.bool (bit1 (toI (w4 a b c d n)) n == 1), st0)) else none) else none) else some (.bool false, st0)) else some (.bool false, st0) := congrFun (congrFun (congrFun (congrFun (congrFun has_t_k a) b) c) d) n
theorem and_t_k : (fun (a b c d e f g h : Int) => (callT cfA tA 40 (.func (.func 29) #[] #[]) #[mk a b c d, mk e f g h] (ctx0 0) st0).evalM seenOf) = fun (a b c d e f g h : Int) => some (mk (and64 a e) (and64 b f) (and64 c g) (and64 d h), st0) := by kernel_rfl
theorem and_t (a b c d e f g h : Int) : (callT cfA tA 40 (.func (.func 29) #[] #[]) #[mk a b c d, mk e f g h] (ctx0 0) st0).evalM seenOf = some (mk (and64 a e) (and64 b f) (and64 c g) (and64 d h), st0) := congrFun (congrFun (congrFun (congrFun (congrFun (congrFun (congrFun (congrFun and_t_k a) b) c) d) e) f) g) h
theorem or_t_k : (fun (a b c d e f g h : Int) => (callT cfA tA 40 (.func (.func 31) #[] #[]) #[mk a b c d, mk e f g h] (ctx0 0) st0).evalM seenOf) = fun (a b c d e f g h : Int) => some (mk (or64 a e) (or64 b f) (or64 c g) (or64 d h), st0) := by kernel_rfl
theorem or_t (a b c d e f g h : Int) : (callT cfA tA 40 (.func (.func 31) #[] #[]) #[mk a b c d, mk e f g h] (ctx0 0) st0).evalM seenOf = some (mk (or64 a e) (or64 b f) (or64 c g) (or64 d h), st0) := congrFun (congrFun (congrFun (congrFun (congrFun (congrFun (congrFun (congrFun or_t_k a) b) c) d) e) f) g) h
theorem not_t_k : (fun (a b c d e f g h : Int) => (callT cfA tA 40 (.func (.func 27) #[] #[]) #[mk a b c d, mk e f g h] (ctx0 0) st0).evalM seenOf) = fun (a b c d e f g h : Int) => some (mk (not64 a e) (not64 b f) (not64 c g) (not64 d h), st0) := by kernel_rfl
theorem not_t (a b c d e f g h : Int) : (callT cfA tA 40 (.func (.func 27) #[] #[]) #[mk a b c d, mk e f g h] (ctx0 0) st0).evalM seenOf = some (mk (not64 a e) (not64 b f) (not64 c g) (not64 d h), st0) := congrFun (congrFun (congrFun (congrFun (congrFun (congrFun (congrFun (congrFun not_t_k a) b) c) d) e) f) g) h
theorem told_t_k : (fun (a b c d : Int) => (callT cfA tA 40 (.func (.func 21) #[] #[]) #[mk a b c d] (ctx0 0) st0).evalM seenOf) = fun (a b c d : Int) => some (mk a b c d, st0) := by kernel_rfl
theorem told_t (a b c d : Int) : (callT cfA tA 40 (.func (.func 21) #[] #[]) #[mk a b c d] (ctx0 0) st0).evalM seenOf = some (mk a b c d, st0) := congrFun (congrFun (congrFun (congrFun told_t_k a) b) c) d
theorem own_t_k : (fun (a b c d : Int) => (callT cfA tA 40 (.func (.func 10) #[] #[]) #[mk a b c d] (ctx0 0) st0).evalM seenOf) = fun (a b c d : Int) => some (mk a b c d, st0) := by kernel_rfl
theorem own_t (a b c d : Int) : (callT cfA tA 40 (.func (.func 10) #[] #[]) #[mk a b c d] (ctx0 0) st0).evalM seenOf = some (mk a b c d, st0) := congrFun (congrFun (congrFun (congrFun own_t_k a) b) c) d
end
end Go.Proofs.YtmpokdnpkjcnbaaDoor
