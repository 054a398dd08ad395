/-
  DERIVED. GIVEN WITH THE SEED: THE CARDS: each row of YtmpokdnpkjcnbaaDoorRows.lean that lists a variable, with what it lists TIED to the program's text (the seventh form; the later family's looks); each row that meets fmt, with fmt's text TOLD by the authors' own Lean function (tested against real Go, not proved from fmt's source: count such statements apart). THE CARD IS WHAT COUNTS. Prove the row's statement (the work); the ties are given (YtmpokdnpkjcnbaaDoorTie.lean); close each card by the builder's one call (the guide's Derived/Test/ToyasCard.lean, 'card_holds'). Laid BY PROGRAM, IN A SANDBOX (cutbox-door.mjs). By AI agents, Wed Nov 11 2026. No macro, syntax, notation, axiom, sorry.
-/
import Derived.Test.YtmpokdnpkjcnbaaDoorRows
import GoSem.ClaimSeven
namespace Go.Proofs.YtmpokdnpkjcnbaaDoor
namespace Rows

/-- THE TIED CARD OF 'roundhouselaw03.MaskTells'. -/
def maskTellsCard : Claim7 := { stood := { row := maskTellsRow, standIns := [], harness := (true, "433b3d7bbde3ca705b8a51c39459c7e4445242a4cc22b138d8881f3d53b8e29f"), looks := true }, kinds := [], alts := [], laidByText := true, laidKinds := [.data, .data, .data, .data, .sentinel, .sentinel, .pinned], laidTests := true, laidLooks := .later }
def MaskTellsCardSaid : Prop := Claim7.holds Tryd.pinned (.plain (OpenSpec.ofChange maskTellsSpec)) maskTellsCard

/-- THE TIED CARD OF 'roundhouselaw03.MaskTexts'. -/
def maskTextsCard : Claim7 := { stood := { row := maskTextsRow, standIns := [], harness := (true, "433b3d7bbde3ca705b8a51c39459c7e4445242a4cc22b138d8881f3d53b8e29f"), looks := true }, kinds := [], alts := [], laidByText := true, laidKinds := [.data, .data, .data, .data, .sentinel, .sentinel, .pinned], laidTests := true, laidLooks := .later }
def MaskTextsCardSaid : Prop := Claim7.holds Tryd.pinned (.plain (OpenSpec.ofChange maskTextsSpec)) maskTextsCard

/-- THE TIED CARD OF 'roundhouselaw03.MaskBack'. -/
def maskBackCard : Claim7 := { stood := { row := maskBackRow, standIns := [], harness := (true, "433b3d7bbde3ca705b8a51c39459c7e4445242a4cc22b138d8881f3d53b8e29f"), looks := true }, kinds := [], alts := [], laidByText := true, laidKinds := [.data, .data, .data, .data, .sentinel, .sentinel, .pinned], laidTests := true, laidLooks := .later }
def MaskBackCardSaid : Prop := Claim7.holds Tryd.pinned (.plain (OpenSpec.ofChange maskBackSpec)) maskBackCard

/-- THE TIED CARD OF 'roundhouselaw03.MaskLowest'. -/
def maskLowestCard : Claim7 := { stood := { row := maskLowestRow, standIns := [], harness := (true, "433b3d7bbde3ca705b8a51c39459c7e4445242a4cc22b138d8881f3d53b8e29f"), looks := true }, kinds := [], alts := [], laidByText := true, laidKinds := [.data, .data, .data, .data, .sentinel, .sentinel, .pinned], laidTests := true, laidLooks := .later }
def MaskLowestCardSaid : Prop := Claim7.holds Tryd.pinned (.plain (OpenSpec.ofChange maskLowestSpec)) maskLowestCard

/-- THE TIED CARD OF 'roundhouselaw03.MaskTwo'. -/
def maskTwoCard : Claim7 := { stood := { row := maskTwoRow, standIns := [], harness := (true, "433b3d7bbde3ca705b8a51c39459c7e4445242a4cc22b138d8881f3d53b8e29f"), looks := true }, kinds := [], alts := [], laidByText := true, laidKinds := [.data, .data, .data, .data, .sentinel, .sentinel, .pinned], laidTests := true, laidLooks := .later }
def MaskTwoCardSaid : Prop := Claim7.holds Tryd.pinned (.plain (OpenSpec.ofChange maskTwoSpec)) maskTwoCard

/-- THE TIED CARD OF 'roundhouselaw03.MaskAlgebra'. -/
def maskAlgebraCard : Claim7 := { stood := { row := maskAlgebraRow, standIns := [], harness := (true, "433b3d7bbde3ca705b8a51c39459c7e4445242a4cc22b138d8881f3d53b8e29f"), looks := true }, kinds := [], alts := [], laidByText := true, laidKinds := [.data, .data, .data, .data, .sentinel, .sentinel, .pinned], laidTests := true, laidLooks := .later }
def MaskAlgebraCardSaid : Prop := Claim7.holds Tryd.pinned (.plain (OpenSpec.ofChange maskAlgebraSpec)) maskAlgebraCard

/-- THE SECOND FORM's CARD OF 'roundhouselaw03.MaskTells'. -/
def maskTellsUptoCard : Claim7 := { stood := { row := maskTellsUptoRow, standIns := [], harness := (true, "433b3d7bbde3ca705b8a51c39459c7e4445242a4cc22b138d8881f3d53b8e29f"), looks := true }, kinds := [], alts := [], laidByText := true, laidKinds := [.data, .data, .data, .data, .sentinel, .sentinel, .pinned], laidTests := true, laidLooks := .later }
def MaskTellsUptoCardSaid : Prop := Claim7.holds Tryd.pinned (.plain (OpenSpec.upto maskTellsSpec)) maskTellsUptoCard

/-- THE SECOND FORM's CARD OF 'roundhouselaw03.MaskTexts'. -/
def maskTextsUptoCard : Claim7 := { stood := { row := maskTextsUptoRow, standIns := [], harness := (true, "433b3d7bbde3ca705b8a51c39459c7e4445242a4cc22b138d8881f3d53b8e29f"), looks := true }, kinds := [], alts := [], laidByText := true, laidKinds := [.data, .data, .data, .data, .sentinel, .sentinel, .pinned], laidTests := true, laidLooks := .later }
def MaskTextsUptoCardSaid : Prop := Claim7.holds Tryd.pinned (.plain (OpenSpec.upto maskTextsSpec)) maskTextsUptoCard

/-- THE SECOND FORM's CARD OF 'roundhouselaw03.MaskBack'. -/
def maskBackUptoCard : Claim7 := { stood := { row := maskBackUptoRow, standIns := [], harness := (true, "433b3d7bbde3ca705b8a51c39459c7e4445242a4cc22b138d8881f3d53b8e29f"), looks := true }, kinds := [], alts := [], laidByText := true, laidKinds := [.data, .data, .data, .data, .sentinel, .sentinel, .pinned], laidTests := true, laidLooks := .later }
def MaskBackUptoCardSaid : Prop := Claim7.holds Tryd.pinned (.plain (OpenSpec.upto maskBackSpec)) maskBackUptoCard

/-- THE SECOND FORM's CARD OF 'roundhouselaw03.MaskLowest'. -/
def maskLowestUptoCard : Claim7 := { stood := { row := maskLowestUptoRow, standIns := [], harness := (true, "433b3d7bbde3ca705b8a51c39459c7e4445242a4cc22b138d8881f3d53b8e29f"), looks := true }, kinds := [], alts := [], laidByText := true, laidKinds := [.data, .data, .data, .data, .sentinel, .sentinel, .pinned], laidTests := true, laidLooks := .later }
def MaskLowestUptoCardSaid : Prop := Claim7.holds Tryd.pinned (.plain (OpenSpec.upto maskLowestSpec)) maskLowestUptoCard

/-- THE SECOND FORM's CARD OF 'roundhouselaw03.MaskTwo'. -/
def maskTwoUptoCard : Claim7 := { stood := { row := maskTwoUptoRow, standIns := [], harness := (true, "433b3d7bbde3ca705b8a51c39459c7e4445242a4cc22b138d8881f3d53b8e29f"), looks := true }, kinds := [], alts := [], laidByText := true, laidKinds := [.data, .data, .data, .data, .sentinel, .sentinel, .pinned], laidTests := true, laidLooks := .later }
def MaskTwoUptoCardSaid : Prop := Claim7.holds Tryd.pinned (.plain (OpenSpec.upto maskTwoSpec)) maskTwoUptoCard

/-- THE SECOND FORM's CARD OF 'roundhouselaw03.MaskAlgebra'. -/
def maskAlgebraUptoCard : Claim7 := { stood := { row := maskAlgebraUptoRow, standIns := [], harness := (true, "433b3d7bbde3ca705b8a51c39459c7e4445242a4cc22b138d8881f3d53b8e29f"), looks := true }, kinds := [], alts := [], laidByText := true, laidKinds := [.data, .data, .data, .data, .sentinel, .sentinel, .pinned], laidTests := true, laidLooks := .later }
def MaskAlgebraUptoCardSaid : Prop := Claim7.holds Tryd.pinned (.plain (OpenSpec.upto maskAlgebraSpec)) maskAlgebraUptoCard
end Rows
end Go.Proofs.YtmpokdnpkjcnbaaDoor
