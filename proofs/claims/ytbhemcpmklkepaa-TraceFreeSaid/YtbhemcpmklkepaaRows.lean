/-
  No cell of these rows narrows 'for every input' (looked for: loops, veiled, ifaces, maps, wideKeys, modest, calm, conditions, laid).
  DERIVED. THE GIVEN ROWS OF THIS SEAT. 4 by the template 'for every input the law returns true; each argument reads behind the call as it read before'; 0 by the template 'total and deterministic' (their statements: YtbhemcpmklkepaaTotals.lean).
  GIVEN WITH THE SEED: the statements are not yours to turn. If you find one false, say at which input.
  Laid BY PROGRAM, IN A SANDBOX (cutbox-rows.mjs): the forced cells as the released guide's own fill.sh prints them over the translation 6f5f7b1abbee1a13… (all of the seat's roots in one cut). By AI agents, Wed Nov 11 2026. No macro, syntax, notation, axiom, sorry.
-/
import Derived.Test.YtbhemcpmklkepaaChecked
import GoSem.Claim
import GoSem.ClaimJoined
import GoSem.ClaimMapViews
import Derived.JoinedTies
import Derived.KernelRfl
namespace Go.Proofs.Ytbhemcpmklkepaa
/- THE CELL 'sum', in the pinned program and in every row, IS THE sha256 OF THE DUMP (.gsa) THAT YtbhemcpmklkepaaProg.lean LOADS. Nothing in Lean hashes anything: it is a label: what it is worth is what the hold of that sum in a sandbox is worth. -/
noncomputable def Try.pinned : Pinned := { name := "ytbhemcpmklkepaa", sum := "6f5f7b1abbee1a133b144b2cb640345740b1fdbf56b9d280cc0ade1341428b41", checked := Try.checked }
namespace Rows
def none {H : Type} : Left H := { results := [], args := [] }

/-- 'roundhouselaw21.TraceOwns': WHATEVER THE INPUT: true; the input reads as it did. -/
def traceOwnsSpec : ChangeSpec := { name := "traceOwns", fn := fun _ => fun
  | [d1, d2, d3] => { results := [.lit (.bool true)], args := [d1, d2, d3] }
  | _ => none }
def traceOwnsRow : OpenClaim := { program := "ytbhemcpmklkepaa", sum := "6f5f7b1abbee1a133b144b2cb640345740b1fdbf56b9d280cc0ade1341428b41", func := "roundhouse/roundhouselaw21.TraceOwns", spec := "traceOwns", unfollowed := true, recurses := true, plainKeys := false, apart := false }
def TraceOwnsSaid : Prop := traceOwnsRow.holds Try.pinned (OpenSpec.ofChange traceOwnsSpec)

/-- ITS FALSE NEIGHBOUR: 'it returns false'. Refute it at one input. -/
def traceOwnsWrong : ChangeSpec := { name := "traceOwns", fn := fun _ => fun
  | [d1, d2, d3] => { results := [.lit (.bool false)], args := [d1, d2, d3] }
  | _ => none }
def TraceOwnsWrongFalsely : Prop := traceOwnsRow.holds Try.pinned (OpenSpec.ofChange traceOwnsWrong)

/-- 'roundhouselaw21.TracePrefix': WHATEVER THE INPUT: true; the input reads as it did. -/
def tracePrefixSpec : ChangeSpec := { name := "tracePrefix", fn := fun _ => fun
  | [d1, d2, d3] => { results := [.lit (.bool true)], args := [d1, d2, d3] }
  | _ => none }
def tracePrefixRow : OpenClaim := { program := "ytbhemcpmklkepaa", sum := "6f5f7b1abbee1a133b144b2cb640345740b1fdbf56b9d280cc0ade1341428b41", func := "roundhouse/roundhouselaw21.TracePrefix", spec := "tracePrefix", unfollowed := true, recurses := true, plainKeys := false, apart := false }
def TracePrefixSaid : Prop := tracePrefixRow.holds Try.pinned (OpenSpec.ofChange tracePrefixSpec)

/-- ITS FALSE NEIGHBOUR: 'it returns false'. Refute it at one input. -/
def tracePrefixWrong : ChangeSpec := { name := "tracePrefix", fn := fun _ => fun
  | [d1, d2, d3] => { results := [.lit (.bool false)], args := [d1, d2, d3] }
  | _ => none }
def TracePrefixWrongFalsely : Prop := tracePrefixRow.holds Try.pinned (OpenSpec.ofChange tracePrefixWrong)

/-- 'roundhouselaw21.TraceTwice': WHATEVER THE INPUT: true; the input reads as it did. -/
def traceTwiceSpec : ChangeSpec := { name := "traceTwice", fn := fun _ => fun
  | [d1, d2, d3] => { results := [.lit (.bool true)], args := [d1, d2, d3] }
  | _ => none }
def traceTwiceRow : OpenClaim := { program := "ytbhemcpmklkepaa", sum := "6f5f7b1abbee1a133b144b2cb640345740b1fdbf56b9d280cc0ade1341428b41", func := "roundhouse/roundhouselaw21.TraceTwice", spec := "traceTwice", unfollowed := true, recurses := true, plainKeys := false, apart := false }
def TraceTwiceSaid : Prop := traceTwiceRow.holds Try.pinned (OpenSpec.ofChange traceTwiceSpec)

/-- ITS FALSE NEIGHBOUR: 'it returns false'. Refute it at one input. -/
def traceTwiceWrong : ChangeSpec := { name := "traceTwice", fn := fun _ => fun
  | [d1, d2, d3] => { results := [.lit (.bool false)], args := [d1, d2, d3] }
  | _ => none }
def TraceTwiceWrongFalsely : Prop := traceTwiceRow.holds Try.pinned (OpenSpec.ofChange traceTwiceWrong)

/-- 'roundhouselaw21.TraceFree': WHATEVER THE INPUT: true; the input reads as it did. -/
def traceFreeSpec : ChangeSpec := { name := "traceFree", fn := fun _ => fun
  | [d1, d2] => { results := [.lit (.bool true)], args := [d1, d2] }
  | _ => none }
def traceFreeRow : OpenClaim := { program := "ytbhemcpmklkepaa", sum := "6f5f7b1abbee1a133b144b2cb640345740b1fdbf56b9d280cc0ade1341428b41", func := "roundhouse/roundhouselaw21.TraceFree", spec := "traceFree", unfollowed := true, recurses := true, plainKeys := false, apart := false }
def TraceFreeSaid : Prop := traceFreeRow.holds Try.pinned (OpenSpec.ofChange traceFreeSpec)

/-- ITS FALSE NEIGHBOUR: 'it returns false'. Refute it at one input. -/
def traceFreeWrong : ChangeSpec := { name := "traceFree", fn := fun _ => fun
  | [d1, d2] => { results := [.lit (.bool false)], args := [d1, d2] }
  | _ => none }
def TraceFreeWrongFalsely : Prop := traceFreeRow.holds Try.pinned (OpenSpec.ofChange traceFreeWrong)

/- THE SECOND FORM. 'bulk': how many values and letters a reading holds, each counted each time it is reached (what is shared counts as often as it is met; a slice's spare places count too). A statement '..UptoSaid' is the law's where the arguments, and the package variables that the reading takes, are together of bulk at most 1048576: NARROWER than '..Said'. Prove '..Said' where nothing that the law and all that it calls make is longer than what came in: it says more and counts as full. Else prove '..UptoSaid'. A law counts once. -/
mutual
def uptoBulk {H : Type} : DataW H → Nat
  | .lit (.string bytes) => bytes.length + 1
  | .lit _ => 1
  | .nil => 1
  | .ptr d => uptoBulk d + 1
  | .slice elems spare => uptoBulkAll elems + uptoBulkAll spare + 1
  | .agg parts => uptoBulkAll parts + 1
  | .iface _ d => uptoBulk d + 1
  | .map entries => uptoBulkEntries entries + 1
  | .held _ => 1
def uptoBulkAll {H : Type} : List (DataW H) → Nat
  | [] => 0
  | d :: r => uptoBulk d + uptoBulkAll r
def uptoBulkEntries {H : Type} : List (Lit × DataW H) → Nat
  | [] => 0
  | x :: r => uptoBulkEntry x + uptoBulkEntries r
def uptoBulkEntry {H : Type} : Lit × DataW H → Nat
  | (.string bytes, d) => bytes.length + uptoBulk d + 1
  | (_, d) => uptoBulk d + 1
 end
def uptoSmall : (H : Type) → List (DataW H) → Bool := fun _ ds => decide (uptoBulkAll ds ≤ 1048576)
def OpenSpec.upto (s : _root_.Go.ChangeSpec) : _root_.Go.OpenSpec := { _root_.Go.OpenSpec.ofChange s with cond := some uptoSmall }

/-- 'roundhouselaw21.TraceOwns', WHERE WHAT IT READS IS OF BULK AT MOST 1048576: true; the input reads as it did. -/
def traceOwnsUptoRow : OpenClaim := { program := "ytbhemcpmklkepaa", sum := "6f5f7b1abbee1a133b144b2cb640345740b1fdbf56b9d280cc0ade1341428b41", func := "roundhouse/roundhouselaw21.TraceOwns", spec := "traceOwns", unfollowed := true, recurses := true, plainKeys := false, apart := false, narrowed := true }
def TraceOwnsUptoSaid : Prop := traceOwnsUptoRow.holds Try.pinned (OpenSpec.upto traceOwnsSpec)

/-- 'roundhouselaw21.TracePrefix', WHERE WHAT IT READS IS OF BULK AT MOST 1048576: true; the input reads as it did. -/
def tracePrefixUptoRow : OpenClaim := { program := "ytbhemcpmklkepaa", sum := "6f5f7b1abbee1a133b144b2cb640345740b1fdbf56b9d280cc0ade1341428b41", func := "roundhouse/roundhouselaw21.TracePrefix", spec := "tracePrefix", unfollowed := true, recurses := true, plainKeys := false, apart := false, narrowed := true }
def TracePrefixUptoSaid : Prop := tracePrefixUptoRow.holds Try.pinned (OpenSpec.upto tracePrefixSpec)

/-- 'roundhouselaw21.TraceTwice', WHERE WHAT IT READS IS OF BULK AT MOST 1048576: true; the input reads as it did. -/
def traceTwiceUptoRow : OpenClaim := { program := "ytbhemcpmklkepaa", sum := "6f5f7b1abbee1a133b144b2cb640345740b1fdbf56b9d280cc0ade1341428b41", func := "roundhouse/roundhouselaw21.TraceTwice", spec := "traceTwice", unfollowed := true, recurses := true, plainKeys := false, apart := false, narrowed := true }
def TraceTwiceUptoSaid : Prop := traceTwiceUptoRow.holds Try.pinned (OpenSpec.upto traceTwiceSpec)

/-- 'roundhouselaw21.TraceFree', WHERE WHAT IT READS IS OF BULK AT MOST 1048576: true; the input reads as it did. -/
def traceFreeUptoRow : OpenClaim := { program := "ytbhemcpmklkepaa", sum := "6f5f7b1abbee1a133b144b2cb640345740b1fdbf56b9d280cc0ade1341428b41", func := "roundhouse/roundhouselaw21.TraceFree", spec := "traceFree", unfollowed := true, recurses := true, plainKeys := false, apart := false, narrowed := true }
def TraceFreeUptoSaid : Prop := traceFreeUptoRow.holds Try.pinned (OpenSpec.upto traceFreeSpec)

end Rows
end Go.Proofs.Ytbhemcpmklkepaa
