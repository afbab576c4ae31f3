/-
  DERIVED. GIVEN WITH THE SEED: THE PROGRAM's TIES (one call each: nine closed facts by the kernel) AND EACH ROW's TIE, after the 31st guide's Derived/Test/Toyas{Tie, Card}.lean. No idea stands in it: it is a product of the set-up. Laid BY PROGRAM, IN A SANDBOX (cutbox-door.mjs). By AI agents, Wed Nov 11 2026. No macro, syntax, notation, axiom, sorry.
-/
import Derived.Test.YtiaennaoedikeaaDoorRows
import Derived.LaidByTextLater
import Derived.SevenTiedAt
import Derived.LaidSub
import Derived.LaidOnce
namespace Go.Proofs.YtiaennaoedikeaaDoor
open Go
set_option maxRecDepth 100000
theorem seatTie1 : Tryd.prog.laidByTextLater [("copyist/glyph.distances", Rows.laid_copyist_glyph_distances), ("copyist/glyph.pairs", Rows.laid_copyist_glyph_pairs), ("copyist/glyph.oneWay", Rows.laid_copyist_glyph_oneWay)] [.data, .data, .data] true :=
  Program.laidByTextLater_by_one 71 8 58 (by kernel_rfl) (by kernel_rfl) (by kernel_rfl) (by kernel_rfl) (by kernel_rfl) (by kernel_rfl) (fun _ _ => by kernel_rfl)
theorem noOwnUnsafe : Tryd.pinned.checked.prog.headLifts.contains "ownunsafe" = false := by kernel_rfl
theorem tie : Tryd.prog.laidByTextLater [("copyist/glyph.distances", Rows.laid_copyist_glyph_distances), ("copyist/glyph.pairs", Rows.laid_copyist_glyph_pairs), ("copyist/glyph.oneWay", Rows.laid_copyist_glyph_oneWay)] [.data, .data, .data] true :=
  Program.laidByTextLater.sub seatTie1 ["copyist/glyph.distances", "copyist/glyph.pairs", "copyist/glyph.oneWay"] (by kernel_rfl) (by kernel_rfl)
theorem glyphFold_row_tie : Rows.glyphFoldRow.laidByTextAt .later Tryd.pinned [.data, .data, .data] true :=
  OpenClaim.laidByTextAt_later rfl rfl tie noOwnUnsafe
theorem glyphClass_row_tie : Rows.glyphClassRow.laidByTextAt .later Tryd.pinned [.data, .data, .data] true :=
  OpenClaim.laidByTextAt_later rfl rfl tie noOwnUnsafe
theorem glyphConjunct_row_tie : Rows.glyphConjunctRow.laidByTextAt .later Tryd.pinned [.data, .data, .data] true :=
  OpenClaim.laidByTextAt_later rfl rfl tie noOwnUnsafe
theorem glyphWord_row_tie : Rows.glyphWordRow.laidByTextAt .later Tryd.pinned [.data, .data, .data] true :=
  OpenClaim.laidByTextAt_later rfl rfl tie noOwnUnsafe
theorem glyphCase_row_tie : Rows.glyphCaseRow.laidByTextAt .later Tryd.pinned [.data, .data, .data] true :=
  OpenClaim.laidByTextAt_later rfl rfl tie noOwnUnsafe
theorem glyphWidth_row_tie : Rows.glyphWidthRow.laidByTextAt .later Tryd.pinned [.data, .data, .data] true :=
  OpenClaim.laidByTextAt_later rfl rfl tie noOwnUnsafe
theorem glyphAll_row_tie : Rows.glyphAllRow.laidByTextAt .later Tryd.pinned [.data, .data, .data] true :=
  OpenClaim.laidByTextAt_later rfl rfl tie noOwnUnsafe
theorem glyphFoldUpto_row_tie : Rows.glyphFoldUptoRow.laidByTextAt .later Tryd.pinned [.data, .data, .data] true :=
  OpenClaim.laidByTextAt_later rfl rfl tie noOwnUnsafe
theorem glyphClassUpto_row_tie : Rows.glyphClassUptoRow.laidByTextAt .later Tryd.pinned [.data, .data, .data] true :=
  OpenClaim.laidByTextAt_later rfl rfl tie noOwnUnsafe
theorem glyphConjunctUpto_row_tie : Rows.glyphConjunctUptoRow.laidByTextAt .later Tryd.pinned [.data, .data, .data] true :=
  OpenClaim.laidByTextAt_later rfl rfl tie noOwnUnsafe
theorem glyphWordUpto_row_tie : Rows.glyphWordUptoRow.laidByTextAt .later Tryd.pinned [.data, .data, .data] true :=
  OpenClaim.laidByTextAt_later rfl rfl tie noOwnUnsafe
theorem glyphCaseUpto_row_tie : Rows.glyphCaseUptoRow.laidByTextAt .later Tryd.pinned [.data, .data, .data] true :=
  OpenClaim.laidByTextAt_later rfl rfl tie noOwnUnsafe
theorem glyphWidthUpto_row_tie : Rows.glyphWidthUptoRow.laidByTextAt .later Tryd.pinned [.data, .data, .data] true :=
  OpenClaim.laidByTextAt_later rfl rfl tie noOwnUnsafe
theorem glyphAllUpto_row_tie : Rows.glyphAllUptoRow.laidByTextAt .later Tryd.pinned [.data, .data, .data] true :=
  OpenClaim.laidByTextAt_later rfl rfl tie noOwnUnsafe
end Go.Proofs.YtiaennaoedikeaaDoor
