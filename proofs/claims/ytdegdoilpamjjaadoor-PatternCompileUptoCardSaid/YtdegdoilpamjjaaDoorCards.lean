/-
  DERIVED. GIVEN WITH THE SEED: THE CARDS: each row of YtdegdoilpamjjaaDoorRows.lean that lists a variable, with what it lists TIED to the program's text (the seventh form; the later family's looks); each row that meets fmt, with fmt's text TOLD by the authors' own Lean function (tested against real Go, not proved from fmt's source: count such statements apart). THE CARD IS WHAT COUNTS. Prove the row's statement (the work); the ties are given (YtdegdoilpamjjaaDoorTie.lean); close each card by the builder's one call (the guide's Derived/Test/ToyasCard.lean, 'card_holds'). Laid BY PROGRAM, IN A SANDBOX (cutbox-door.mjs). By AI agents, Wed Nov 11 2026. No macro, syntax, notation, axiom, sorry.
-/
import Derived.Test.YtdegdoilpamjjaaDoorRows
import GoSem.ClaimSeven
namespace Go.Proofs.YtdegdoilpamjjaaDoor
namespace Rows

/-- THE TIED CARD OF 'copyistlaw10.PatternFill'. -/
def patternFillCard : Claim7 := { stood := { row := patternFillRow, standIns := [], harness := (true, "04c4515d4c7f87cd20e8d84f407b8c091b1f25587adb175c5df2aba28d9a84fc"), looks := true }, kinds := [], alts := [], laidByText := true, laidKinds := [.data, .data, .data], laidTests := true, laidLooks := .later }
def PatternFillCardSaid : Prop := Claim7.holds Tryd.pinned (.plain (OpenSpec.ofChange patternFillSpec)) patternFillCard

/-- THE TIED CARD OF 'copyistlaw10.PatternPlain'. -/
def patternPlainCard : Claim7 := { stood := { row := patternPlainRow, standIns := [], harness := (true, "04c4515d4c7f87cd20e8d84f407b8c091b1f25587adb175c5df2aba28d9a84fc"), looks := true }, kinds := [], alts := [], laidByText := true, laidKinds := [.data, .data, .data], laidTests := true, laidLooks := .later }
def PatternPlainCardSaid : Prop := Claim7.holds Tryd.pinned (.plain (OpenSpec.ofChange patternPlainSpec)) patternPlainCard

/-- THE TIED CARD OF 'copyistlaw10.PatternNever'. -/
def patternNeverCard : Claim7 := { stood := { row := patternNeverRow, standIns := [], harness := (true, "04c4515d4c7f87cd20e8d84f407b8c091b1f25587adb175c5df2aba28d9a84fc"), looks := true }, kinds := [], alts := [], laidByText := true, laidKinds := [.data, .data, .data], laidTests := true, laidLooks := .later }
def PatternNeverCardSaid : Prop := Claim7.holds Tryd.pinned (.plain (OpenSpec.ofChange patternNeverSpec)) patternNeverCard

/-- THE TIED CARD OF 'copyistlaw10.PatternCompile'. -/
def patternCompileCard : Claim7 := { stood := { row := patternCompileRow, standIns := [], harness := (true, "04c4515d4c7f87cd20e8d84f407b8c091b1f25587adb175c5df2aba28d9a84fc"), looks := true }, kinds := [], alts := [], laidByText := true, laidKinds := [.data, .data, .data], laidTests := true, laidLooks := .later }
def PatternCompileCardSaid : Prop := Claim7.holds Tryd.pinned (.plain (OpenSpec.ofChange patternCompileSpec)) patternCompileCard

/-- THE TIED CARD OF 'copyistlaw10.PatternEither'. -/
def patternEitherCard : Claim7 := { stood := { row := patternEitherRow, standIns := [], harness := (true, "04c4515d4c7f87cd20e8d84f407b8c091b1f25587adb175c5df2aba28d9a84fc"), looks := true }, kinds := [], alts := [], laidByText := true, laidKinds := [.data, .data, .data], laidTests := true, laidLooks := .later }
def PatternEitherCardSaid : Prop := Claim7.holds Tryd.pinned (.plain (OpenSpec.ofChange patternEitherSpec)) patternEitherCard

/-- THE TIED CARD OF 'copyistlaw10.PatternWithin'. -/
def patternWithinCard : Claim7 := { stood := { row := patternWithinRow, standIns := [], harness := (true, "04c4515d4c7f87cd20e8d84f407b8c091b1f25587adb175c5df2aba28d9a84fc"), looks := true }, kinds := [], alts := [], laidByText := true, laidKinds := [.data, .data, .data], laidTests := true, laidLooks := .later }
def PatternWithinCardSaid : Prop := Claim7.holds Tryd.pinned (.plain (OpenSpec.ofChange patternWithinSpec)) patternWithinCard

/-- THE TIED CARD OF 'copyistlaw10.PatternFresh'. -/
def patternFreshCard : Claim7 := { stood := { row := patternFreshRow, standIns := [], harness := (true, "04c4515d4c7f87cd20e8d84f407b8c091b1f25587adb175c5df2aba28d9a84fc"), looks := true }, kinds := [], alts := [], laidByText := true, laidKinds := [.data, .data, .data], laidTests := true, laidLooks := .later }
def PatternFreshCardSaid : Prop := Claim7.holds Tryd.pinned (.plain (OpenSpec.ofChange patternFreshSpec)) patternFreshCard

/-- THE SECOND FORM's CARD OF 'copyistlaw10.PatternFill'. -/
def patternFillUptoCard : Claim7 := { stood := { row := patternFillUptoRow, standIns := [], harness := (true, "04c4515d4c7f87cd20e8d84f407b8c091b1f25587adb175c5df2aba28d9a84fc"), looks := true }, kinds := [], alts := [], laidByText := true, laidKinds := [.data, .data, .data], laidTests := true, laidLooks := .later }
def PatternFillUptoCardSaid : Prop := Claim7.holds Tryd.pinned (.plain (OpenSpec.upto patternFillSpec)) patternFillUptoCard

/-- THE SECOND FORM's CARD OF 'copyistlaw10.PatternPlain'. -/
def patternPlainUptoCard : Claim7 := { stood := { row := patternPlainUptoRow, standIns := [], harness := (true, "04c4515d4c7f87cd20e8d84f407b8c091b1f25587adb175c5df2aba28d9a84fc"), looks := true }, kinds := [], alts := [], laidByText := true, laidKinds := [.data, .data, .data], laidTests := true, laidLooks := .later }
def PatternPlainUptoCardSaid : Prop := Claim7.holds Tryd.pinned (.plain (OpenSpec.upto patternPlainSpec)) patternPlainUptoCard

/-- THE SECOND FORM's CARD OF 'copyistlaw10.PatternNever'. -/
def patternNeverUptoCard : Claim7 := { stood := { row := patternNeverUptoRow, standIns := [], harness := (true, "04c4515d4c7f87cd20e8d84f407b8c091b1f25587adb175c5df2aba28d9a84fc"), looks := true }, kinds := [], alts := [], laidByText := true, laidKinds := [.data, .data, .data], laidTests := true, laidLooks := .later }
def PatternNeverUptoCardSaid : Prop := Claim7.holds Tryd.pinned (.plain (OpenSpec.upto patternNeverSpec)) patternNeverUptoCard

/-- THE SECOND FORM's CARD OF 'copyistlaw10.PatternCompile'. -/
def patternCompileUptoCard : Claim7 := { stood := { row := patternCompileUptoRow, standIns := [], harness := (true, "04c4515d4c7f87cd20e8d84f407b8c091b1f25587adb175c5df2aba28d9a84fc"), looks := true }, kinds := [], alts := [], laidByText := true, laidKinds := [.data, .data, .data], laidTests := true, laidLooks := .later }
def PatternCompileUptoCardSaid : Prop := Claim7.holds Tryd.pinned (.plain (OpenSpec.upto patternCompileSpec)) patternCompileUptoCard

/-- THE SECOND FORM's CARD OF 'copyistlaw10.PatternEither'. -/
def patternEitherUptoCard : Claim7 := { stood := { row := patternEitherUptoRow, standIns := [], harness := (true, "04c4515d4c7f87cd20e8d84f407b8c091b1f25587adb175c5df2aba28d9a84fc"), looks := true }, kinds := [], alts := [], laidByText := true, laidKinds := [.data, .data, .data], laidTests := true, laidLooks := .later }
def PatternEitherUptoCardSaid : Prop := Claim7.holds Tryd.pinned (.plain (OpenSpec.upto patternEitherSpec)) patternEitherUptoCard

/-- THE SECOND FORM's CARD OF 'copyistlaw10.PatternWithin'. -/
def patternWithinUptoCard : Claim7 := { stood := { row := patternWithinUptoRow, standIns := [], harness := (true, "04c4515d4c7f87cd20e8d84f407b8c091b1f25587adb175c5df2aba28d9a84fc"), looks := true }, kinds := [], alts := [], laidByText := true, laidKinds := [.data, .data, .data], laidTests := true, laidLooks := .later }
def PatternWithinUptoCardSaid : Prop := Claim7.holds Tryd.pinned (.plain (OpenSpec.upto patternWithinSpec)) patternWithinUptoCard

/-- THE SECOND FORM's CARD OF 'copyistlaw10.PatternFresh'. -/
def patternFreshUptoCard : Claim7 := { stood := { row := patternFreshUptoRow, standIns := [], harness := (true, "04c4515d4c7f87cd20e8d84f407b8c091b1f25587adb175c5df2aba28d9a84fc"), looks := true }, kinds := [], alts := [], laidByText := true, laidKinds := [.data, .data, .data], laidTests := true, laidLooks := .later }
def PatternFreshUptoCardSaid : Prop := Claim7.holds Tryd.pinned (.plain (OpenSpec.upto patternFreshSpec)) patternFreshUptoCard
end Rows
end Go.Proofs.YtdegdoilpamjjaaDoor
