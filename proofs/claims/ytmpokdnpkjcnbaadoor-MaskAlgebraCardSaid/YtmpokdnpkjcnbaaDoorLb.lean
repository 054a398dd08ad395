/- Some answers that the document gives: words read, cores told. -/
import Derived.Test.YtmpokdnpkjcnbaaDoorLa
namespace Go.Proofs.YtmpokdnpkjcnbaaDoor
open Go.Am
noncomputable section
def nI (n : Nat) : Value := .int .i64 n
def mW : Value := mk 18446744073709551615 18446744073709551615 18446744073709551615 18446744073709551615
theorem parse_a : seenOf (call cfL 400 (.func (.func 22) #[] #[]) #[.string sA] (ctx0 0) st0) = some (.tuple #[mA, .int .i64 0], st0) := by kernel_rfl
theorem parse_c : seenOf (call cfL 400 (.func (.func 22) #[] #[]) #[.string sC] (ctx0 0) st0) = some (.tuple #[mk 0 0 0 0, .int .i64 5], st0) := by kernel_rfl
end
end Go.Proofs.YtmpokdnpkjcnbaaDoor
