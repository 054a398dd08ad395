/- Some answers that the document gives: all as they are. -/
import Derived.Test.YtmpokdnpkjcnbaaDoorH
namespace Go.Proofs.YtmpokdnpkjcnbaaDoor
open Go.Am
noncomputable section
def mA : Value := mk 38 0 0 9223372036854775808
def mB : Value := mk 6 0 0 0
def sA : ByteArray := ⟨#[49, 45, 50, 44, 53, 44, 50, 53, 53]⟩
def sB : ByteArray := ⟨#[49, 45, 50]⟩
def sC : ByteArray := ⟨#[49, 44, 50]⟩
theorem text_a : seenOf (call cfC 400 (.func (.func 24) #[] #[]) #[mA] (ctx0 0) st0) = some (.string sA, st0) := by kernel_rfl
theorem text_b : seenOf (call cfC 400 (.func (.func 24) #[] #[]) #[mB] (ctx0 0) st0) = some (.string sB, st0) := by kernel_rfl
end
end Go.Proofs.YtmpokdnpkjcnbaaDoor
