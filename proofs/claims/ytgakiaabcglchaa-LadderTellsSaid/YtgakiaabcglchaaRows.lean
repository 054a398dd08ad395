/-
  No cell of these rows narrows 'for every input' (looked for: loops, veiled, ifaces, maps, wideKeys, modest, calm, conditions, laid).
  DERIVED. THE GIVEN ROWS OF THIS SEAT. 5 by the template 'for every input the law returns true; each argument reads behind the call as it read before'; 0 by the template 'total and deterministic' (their statements: YtgakiaabcglchaaTotals.lean).
  GIVEN WITH THE SEED: the statements are not yours to turn. If you find one false, say at which input.
  Laid BY PROGRAM, IN A SANDBOX (cutbox-rows.mjs): the forced cells as the released guide's own fill.sh prints them over the translation 03e96792d5f59c6d… (all of the seat's roots in one cut). By AI agents, Wed Nov 11 2026. No macro, syntax, notation, axiom, sorry.
-/
import Derived.Test.YtgakiaabcglchaaChecked
import GoSem.Claim
import GoSem.ClaimJoined
import GoSem.ClaimMapViews
import Derived.JoinedTies
import Derived.KernelRfl
namespace Go.Proofs.Ytgakiaabcglchaa
/- THE CELL 'sum', in the pinned program and in every row, IS THE sha256 OF THE DUMP (.gsa) THAT YtgakiaabcglchaaProg.lean LOADS. Nothing in Lean hashes anything: it is a label: what it is worth is what the hold of that sum in a sandbox is worth. -/
noncomputable def Try.pinned : Pinned := { name := "ytgakiaabcglchaa", sum := "03e96792d5f59c6d9ef1beace0f99b387eb41d8ec9e0fddf1a3946fe209dfde1", checked := Try.checked }
namespace Rows
def none {H : Type} : Left H := { results := [], args := [] }

/-- 'roundhouselaw10.LadderTells': WHATEVER THE INPUT: true; the input reads as it did. -/
def ladderTellsSpec : ChangeSpec := { name := "ladderTells", fn := fun _ => fun
  | [d1, d2, d3] => { results := [.lit (.bool true)], args := [d1, d2, d3] }
  | _ => none }
def ladderTellsRow : OpenClaim := { program := "ytgakiaabcglchaa", sum := "03e96792d5f59c6d9ef1beace0f99b387eb41d8ec9e0fddf1a3946fe209dfde1", func := "roundhouse/roundhouselaw10.LadderTells", spec := "ladderTells", unfollowed := true, recurses := true, apart := false }
def LadderTellsSaid : Prop := ladderTellsRow.holds Try.pinned (OpenSpec.ofChange ladderTellsSpec)

/-- ITS FALSE NEIGHBOUR: 'it returns false'. Refute it at one input. -/
def ladderTellsWrong : ChangeSpec := { name := "ladderTells", fn := fun _ => fun
  | [d1, d2, d3] => { results := [.lit (.bool false)], args := [d1, d2, d3] }
  | _ => none }
def LadderTellsWrongFalsely : Prop := ladderTellsRow.holds Try.pinned (OpenSpec.ofChange ladderTellsWrong)

/-- 'roundhouselaw10.LadderRises': WHATEVER THE INPUT: true; the input reads as it did. -/
def ladderRisesSpec : ChangeSpec := { name := "ladderRises", fn := fun _ => fun
  | [d1, d2, d3] => { results := [.lit (.bool true)], args := [d1, d2, d3] }
  | _ => none }
def ladderRisesRow : OpenClaim := { program := "ytgakiaabcglchaa", sum := "03e96792d5f59c6d9ef1beace0f99b387eb41d8ec9e0fddf1a3946fe209dfde1", func := "roundhouse/roundhouselaw10.LadderRises", spec := "ladderRises", unfollowed := true, recurses := true, apart := false }
def LadderRisesSaid : Prop := ladderRisesRow.holds Try.pinned (OpenSpec.ofChange ladderRisesSpec)

/-- ITS FALSE NEIGHBOUR: 'it returns false'. Refute it at one input. -/
def ladderRisesWrong : ChangeSpec := { name := "ladderRises", fn := fun _ => fun
  | [d1, d2, d3] => { results := [.lit (.bool false)], args := [d1, d2, d3] }
  | _ => none }
def LadderRisesWrongFalsely : Prop := ladderRisesRow.holds Try.pinned (OpenSpec.ofChange ladderRisesWrong)

/-- 'roundhouselaw10.LadderGrace': WHATEVER THE INPUT: true; the input reads as it did. -/
def ladderGraceSpec : ChangeSpec := { name := "ladderGrace", fn := fun _ => fun
  | [d1, d2] => { results := [.lit (.bool true)], args := [d1, d2] }
  | _ => none }
def ladderGraceRow : OpenClaim := { program := "ytgakiaabcglchaa", sum := "03e96792d5f59c6d9ef1beace0f99b387eb41d8ec9e0fddf1a3946fe209dfde1", func := "roundhouse/roundhouselaw10.LadderGrace", spec := "ladderGrace", unfollowed := true, recurses := true, apart := false }
def LadderGraceSaid : Prop := ladderGraceRow.holds Try.pinned (OpenSpec.ofChange ladderGraceSpec)

/-- ITS FALSE NEIGHBOUR: 'it returns false'. Refute it at one input. -/
def ladderGraceWrong : ChangeSpec := { name := "ladderGrace", fn := fun _ => fun
  | [d1, d2] => { results := [.lit (.bool false)], args := [d1, d2] }
  | _ => none }
def LadderGraceWrongFalsely : Prop := ladderGraceRow.holds Try.pinned (OpenSpec.ofChange ladderGraceWrong)

/-- 'roundhouselaw10.LadderMoved': WHATEVER THE INPUT: true; the input reads as it did. -/
def ladderMovedSpec : ChangeSpec := { name := "ladderMoved", fn := fun _ => fun
  | [d1, d2, d3] => { results := [.lit (.bool true)], args := [d1, d2, d3] }
  | _ => none }
def ladderMovedRow : OpenClaim := { program := "ytgakiaabcglchaa", sum := "03e96792d5f59c6d9ef1beace0f99b387eb41d8ec9e0fddf1a3946fe209dfde1", func := "roundhouse/roundhouselaw10.LadderMoved", spec := "ladderMoved", unfollowed := true, recurses := true, apart := false }
def LadderMovedSaid : Prop := ladderMovedRow.holds Try.pinned (OpenSpec.ofChange ladderMovedSpec)

/-- ITS FALSE NEIGHBOUR: 'it returns false'. Refute it at one input. -/
def ladderMovedWrong : ChangeSpec := { name := "ladderMoved", fn := fun _ => fun
  | [d1, d2, d3] => { results := [.lit (.bool false)], args := [d1, d2, d3] }
  | _ => none }
def LadderMovedWrongFalsely : Prop := ladderMovedRow.holds Try.pinned (OpenSpec.ofChange ladderMovedWrong)

/-- 'roundhouselaw10.LadderSooner': WHATEVER THE INPUT: true; the input reads as it did. -/
def ladderSoonerSpec : ChangeSpec := { name := "ladderSooner", fn := fun _ => fun
  | [d1, d2, d3] => { results := [.lit (.bool true)], args := [d1, d2, d3] }
  | _ => none }
def ladderSoonerRow : OpenClaim := { program := "ytgakiaabcglchaa", sum := "03e96792d5f59c6d9ef1beace0f99b387eb41d8ec9e0fddf1a3946fe209dfde1", func := "roundhouse/roundhouselaw10.LadderSooner", spec := "ladderSooner", unfollowed := true, recurses := true, apart := false }
def LadderSoonerSaid : Prop := ladderSoonerRow.holds Try.pinned (OpenSpec.ofChange ladderSoonerSpec)

/-- ITS FALSE NEIGHBOUR: 'it returns false'. Refute it at one input. -/
def ladderSoonerWrong : ChangeSpec := { name := "ladderSooner", fn := fun _ => fun
  | [d1, d2, d3] => { results := [.lit (.bool false)], args := [d1, d2, d3] }
  | _ => none }
def LadderSoonerWrongFalsely : Prop := ladderSoonerRow.holds Try.pinned (OpenSpec.ofChange ladderSoonerWrong)

/- THE SECOND FORM. 'bulk': how many values and letters a reading holds, each counted each time it is reached (what is shared counts as often as it is met; a slice's spare places count too). A statement '..UptoSaid' is the law's where the arguments, and the package variables that the reading takes, are together of bulk at most 1048576: NARROWER than '..Said'. Prove '..Said' where nothing that the law and all that it calls make is longer than what came in: it says more and counts as full. Else prove '..UptoSaid'. A law counts once. -/
mutual
def uptoBulk {H : Type} : DataW H → Nat
  | .lit (.string bytes) => bytes.length + 1
  | .lit _ => 1
  | .nil => 1
  | .ptr d => uptoBulk d + 1
  | .slice elems spare => uptoBulkAll elems + uptoBulkAll spare + 1
  | .agg parts => uptoBulkAll parts + 1
  | .iface _ d => uptoBulk d + 1
  | .map entries => uptoBulkEntries entries + 1
  | .held _ => 1
def uptoBulkAll {H : Type} : List (DataW H) → Nat
  | [] => 0
  | d :: r => uptoBulk d + uptoBulkAll r
def uptoBulkEntries {H : Type} : List (Lit × DataW H) → Nat
  | [] => 0
  | x :: r => uptoBulkEntry x + uptoBulkEntries r
def uptoBulkEntry {H : Type} : Lit × DataW H → Nat
  | (.string bytes, d) => bytes.length + uptoBulk d + 1
  | (_, d) => uptoBulk d + 1
 end
def uptoSmall : (H : Type) → List (DataW H) → Bool := fun _ ds => decide (uptoBulkAll ds ≤ 1048576)
def OpenSpec.upto (s : _root_.Go.ChangeSpec) : _root_.Go.OpenSpec := { _root_.Go.OpenSpec.ofChange s with cond := some uptoSmall }

/-- 'roundhouselaw10.LadderTells', WHERE WHAT IT READS IS OF BULK AT MOST 1048576: true; the input reads as it did. -/
def ladderTellsUptoRow : OpenClaim := { program := "ytgakiaabcglchaa", sum := "03e96792d5f59c6d9ef1beace0f99b387eb41d8ec9e0fddf1a3946fe209dfde1", func := "roundhouse/roundhouselaw10.LadderTells", spec := "ladderTells", unfollowed := true, recurses := true, apart := false, narrowed := true }
def LadderTellsUptoSaid : Prop := ladderTellsUptoRow.holds Try.pinned (OpenSpec.upto ladderTellsSpec)

/-- 'roundhouselaw10.LadderRises', WHERE WHAT IT READS IS OF BULK AT MOST 1048576: true; the input reads as it did. -/
def ladderRisesUptoRow : OpenClaim := { program := "ytgakiaabcglchaa", sum := "03e96792d5f59c6d9ef1beace0f99b387eb41d8ec9e0fddf1a3946fe209dfde1", func := "roundhouse/roundhouselaw10.LadderRises", spec := "ladderRises", unfollowed := true, recurses := true, apart := false, narrowed := true }
def LadderRisesUptoSaid : Prop := ladderRisesUptoRow.holds Try.pinned (OpenSpec.upto ladderRisesSpec)

/-- 'roundhouselaw10.LadderGrace', WHERE WHAT IT READS IS OF BULK AT MOST 1048576: true; the input reads as it did. -/
def ladderGraceUptoRow : OpenClaim := { program := "ytgakiaabcglchaa", sum := "03e96792d5f59c6d9ef1beace0f99b387eb41d8ec9e0fddf1a3946fe209dfde1", func := "roundhouse/roundhouselaw10.LadderGrace", spec := "ladderGrace", unfollowed := true, recurses := true, apart := false, narrowed := true }
def LadderGraceUptoSaid : Prop := ladderGraceUptoRow.holds Try.pinned (OpenSpec.upto ladderGraceSpec)

/-- 'roundhouselaw10.LadderMoved', WHERE WHAT IT READS IS OF BULK AT MOST 1048576: true; the input reads as it did. -/
def ladderMovedUptoRow : OpenClaim := { program := "ytgakiaabcglchaa", sum := "03e96792d5f59c6d9ef1beace0f99b387eb41d8ec9e0fddf1a3946fe209dfde1", func := "roundhouse/roundhouselaw10.LadderMoved", spec := "ladderMoved", unfollowed := true, recurses := true, apart := false, narrowed := true }
def LadderMovedUptoSaid : Prop := ladderMovedUptoRow.holds Try.pinned (OpenSpec.upto ladderMovedSpec)

/-- 'roundhouselaw10.LadderSooner', WHERE WHAT IT READS IS OF BULK AT MOST 1048576: true; the input reads as it did. -/
def ladderSoonerUptoRow : OpenClaim := { program := "ytgakiaabcglchaa", sum := "03e96792d5f59c6d9ef1beace0f99b387eb41d8ec9e0fddf1a3946fe209dfde1", func := "roundhouse/roundhouselaw10.LadderSooner", spec := "ladderSooner", unfollowed := true, recurses := true, apart := false, narrowed := true }
def LadderSoonerUptoSaid : Prop := ladderSoonerUptoRow.holds Try.pinned (OpenSpec.upto ladderSoonerSpec)

end Rows
end Go.Proofs.Ytgakiaabcglchaa
