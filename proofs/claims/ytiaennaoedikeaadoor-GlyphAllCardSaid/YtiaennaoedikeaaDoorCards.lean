/-
  DERIVED. GIVEN WITH THE SEED: THE CARDS: each row of YtiaennaoedikeaaDoorRows.lean that lists a variable, with what it lists TIED to the program's text (the seventh form; the later family's looks); each row that meets fmt, with fmt's text TOLD by the authors' own Lean function (tested against real Go, not proved from fmt's source: count such statements apart). THE CARD IS WHAT COUNTS. Prove the row's statement (the work); the ties are given (YtiaennaoedikeaaDoorTie.lean); close each card by the builder's one call (the guide's Derived/Test/ToyasCard.lean, 'card_holds'). Laid BY PROGRAM, IN A SANDBOX (cutbox-door.mjs). By AI agents, Wed Nov 11 2026. No macro, syntax, notation, axiom, sorry.
-/
import Derived.Test.YtiaennaoedikeaaDoorRows
import GoSem.ClaimSeven
namespace Go.Proofs.YtiaennaoedikeaaDoor
namespace Rows

/-- THE TIED CARD OF 'copyistlaw2.GlyphFold'. -/
def glyphFoldCard : Claim7 := { stood := { row := glyphFoldRow, standIns := [], harness := (true, "cb4a0b509df073d67e29518a40929a8b8ff5013d7045d3ec206df70450b6c671"), looks := false }, kinds := [], alts := [], laidByText := true, laidKinds := [.data, .data, .data], laidTests := true, laidLooks := .later }
def GlyphFoldCardSaid : Prop := Claim7.holds Tryd.pinned (.plain (OpenSpec.ofChange glyphFoldSpec)) glyphFoldCard

/-- THE TIED CARD OF 'copyistlaw2.GlyphClass'. -/
def glyphClassCard : Claim7 := { stood := { row := glyphClassRow, standIns := [], harness := (true, "cb4a0b509df073d67e29518a40929a8b8ff5013d7045d3ec206df70450b6c671"), looks := false }, kinds := [], alts := [], laidByText := true, laidKinds := [.data, .data, .data], laidTests := true, laidLooks := .later }
def GlyphClassCardSaid : Prop := Claim7.holds Tryd.pinned (.plain (OpenSpec.ofChange glyphClassSpec)) glyphClassCard

/-- THE TIED CARD OF 'copyistlaw2.GlyphConjunct'. -/
def glyphConjunctCard : Claim7 := { stood := { row := glyphConjunctRow, standIns := [], harness := (true, "cb4a0b509df073d67e29518a40929a8b8ff5013d7045d3ec206df70450b6c671"), looks := false }, kinds := [], alts := [], laidByText := true, laidKinds := [.data, .data, .data], laidTests := true, laidLooks := .later }
def GlyphConjunctCardSaid : Prop := Claim7.holds Tryd.pinned (.plain (OpenSpec.ofChange glyphConjunctSpec)) glyphConjunctCard

/-- THE TIED CARD OF 'copyistlaw2.GlyphWord'. -/
def glyphWordCard : Claim7 := { stood := { row := glyphWordRow, standIns := [], harness := (true, "cb4a0b509df073d67e29518a40929a8b8ff5013d7045d3ec206df70450b6c671"), looks := false }, kinds := [], alts := [], laidByText := true, laidKinds := [.data, .data, .data], laidTests := true, laidLooks := .later }
def GlyphWordCardSaid : Prop := Claim7.holds Tryd.pinned (.plain (OpenSpec.ofChange glyphWordSpec)) glyphWordCard

/-- THE TIED CARD OF 'copyistlaw2.GlyphCase'. -/
def glyphCaseCard : Claim7 := { stood := { row := glyphCaseRow, standIns := [], harness := (true, "cb4a0b509df073d67e29518a40929a8b8ff5013d7045d3ec206df70450b6c671"), looks := false }, kinds := [], alts := [], laidByText := true, laidKinds := [.data, .data, .data], laidTests := true, laidLooks := .later }
def GlyphCaseCardSaid : Prop := Claim7.holds Tryd.pinned (.plain (OpenSpec.ofChange glyphCaseSpec)) glyphCaseCard

/-- THE TIED CARD OF 'copyistlaw2.GlyphWidth'. -/
def glyphWidthCard : Claim7 := { stood := { row := glyphWidthRow, standIns := [], harness := (true, "cb4a0b509df073d67e29518a40929a8b8ff5013d7045d3ec206df70450b6c671"), looks := false }, kinds := [], alts := [], laidByText := true, laidKinds := [.data, .data, .data], laidTests := true, laidLooks := .later }
def GlyphWidthCardSaid : Prop := Claim7.holds Tryd.pinned (.plain (OpenSpec.ofChange glyphWidthSpec)) glyphWidthCard

/-- THE TIED CARD OF 'copyistlaw2.GlyphAll'. -/
def glyphAllCard : Claim7 := { stood := { row := glyphAllRow, standIns := [], harness := (true, "cb4a0b509df073d67e29518a40929a8b8ff5013d7045d3ec206df70450b6c671"), looks := false }, kinds := [], alts := [], laidByText := true, laidKinds := [.data, .data, .data], laidTests := true, laidLooks := .later }
def GlyphAllCardSaid : Prop := Claim7.holds Tryd.pinned (.plain (OpenSpec.ofChange glyphAllSpec)) glyphAllCard

/-- THE SECOND FORM's CARD OF 'copyistlaw2.GlyphFold'. -/
def glyphFoldUptoCard : Claim7 := { stood := { row := glyphFoldUptoRow, standIns := [], harness := (true, "cb4a0b509df073d67e29518a40929a8b8ff5013d7045d3ec206df70450b6c671"), looks := false }, kinds := [], alts := [], laidByText := true, laidKinds := [.data, .data, .data], laidTests := true, laidLooks := .later }
def GlyphFoldUptoCardSaid : Prop := Claim7.holds Tryd.pinned (.plain (OpenSpec.upto glyphFoldSpec)) glyphFoldUptoCard

/-- THE SECOND FORM's CARD OF 'copyistlaw2.GlyphClass'. -/
def glyphClassUptoCard : Claim7 := { stood := { row := glyphClassUptoRow, standIns := [], harness := (true, "cb4a0b509df073d67e29518a40929a8b8ff5013d7045d3ec206df70450b6c671"), looks := false }, kinds := [], alts := [], laidByText := true, laidKinds := [.data, .data, .data], laidTests := true, laidLooks := .later }
def GlyphClassUptoCardSaid : Prop := Claim7.holds Tryd.pinned (.plain (OpenSpec.upto glyphClassSpec)) glyphClassUptoCard

/-- THE SECOND FORM's CARD OF 'copyistlaw2.GlyphConjunct'. -/
def glyphConjunctUptoCard : Claim7 := { stood := { row := glyphConjunctUptoRow, standIns := [], harness := (true, "cb4a0b509df073d67e29518a40929a8b8ff5013d7045d3ec206df70450b6c671"), looks := false }, kinds := [], alts := [], laidByText := true, laidKinds := [.data, .data, .data], laidTests := true, laidLooks := .later }
def GlyphConjunctUptoCardSaid : Prop := Claim7.holds Tryd.pinned (.plain (OpenSpec.upto glyphConjunctSpec)) glyphConjunctUptoCard

/-- THE SECOND FORM's CARD OF 'copyistlaw2.GlyphWord'. -/
def glyphWordUptoCard : Claim7 := { stood := { row := glyphWordUptoRow, standIns := [], harness := (true, "cb4a0b509df073d67e29518a40929a8b8ff5013d7045d3ec206df70450b6c671"), looks := false }, kinds := [], alts := [], laidByText := true, laidKinds := [.data, .data, .data], laidTests := true, laidLooks := .later }
def GlyphWordUptoCardSaid : Prop := Claim7.holds Tryd.pinned (.plain (OpenSpec.upto glyphWordSpec)) glyphWordUptoCard

/-- THE SECOND FORM's CARD OF 'copyistlaw2.GlyphCase'. -/
def glyphCaseUptoCard : Claim7 := { stood := { row := glyphCaseUptoRow, standIns := [], harness := (true, "cb4a0b509df073d67e29518a40929a8b8ff5013d7045d3ec206df70450b6c671"), looks := false }, kinds := [], alts := [], laidByText := true, laidKinds := [.data, .data, .data], laidTests := true, laidLooks := .later }
def GlyphCaseUptoCardSaid : Prop := Claim7.holds Tryd.pinned (.plain (OpenSpec.upto glyphCaseSpec)) glyphCaseUptoCard

/-- THE SECOND FORM's CARD OF 'copyistlaw2.GlyphWidth'. -/
def glyphWidthUptoCard : Claim7 := { stood := { row := glyphWidthUptoRow, standIns := [], harness := (true, "cb4a0b509df073d67e29518a40929a8b8ff5013d7045d3ec206df70450b6c671"), looks := false }, kinds := [], alts := [], laidByText := true, laidKinds := [.data, .data, .data], laidTests := true, laidLooks := .later }
def GlyphWidthUptoCardSaid : Prop := Claim7.holds Tryd.pinned (.plain (OpenSpec.upto glyphWidthSpec)) glyphWidthUptoCard

/-- THE SECOND FORM's CARD OF 'copyistlaw2.GlyphAll'. -/
def glyphAllUptoCard : Claim7 := { stood := { row := glyphAllUptoRow, standIns := [], harness := (true, "cb4a0b509df073d67e29518a40929a8b8ff5013d7045d3ec206df70450b6c671"), looks := false }, kinds := [], alts := [], laidByText := true, laidKinds := [.data, .data, .data], laidTests := true, laidLooks := .later }
def GlyphAllUptoCardSaid : Prop := Claim7.holds Tryd.pinned (.plain (OpenSpec.upto glyphAllSpec)) glyphAllUptoCard
end Rows
end Go.Proofs.YtiaennaoedikeaaDoor
