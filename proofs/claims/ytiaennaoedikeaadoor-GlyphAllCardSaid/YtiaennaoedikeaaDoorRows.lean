/-
  NARROWER THAN 'FOR EVERY INPUT', by the rows' own cells (each row's printed sentence says how): GlyphFold: laid · GlyphClass: laid · GlyphConjunct: laid · GlyphWord: laid · GlyphCase: laid · GlyphWidth: laid · GlyphAll: laid.
  DERIVED. THE GIVEN ROWS OF THIS SEAT. 7 by the template 'for every input the law returns true; each argument reads behind the call as it read before'; 0 by the template 'total and deterministic' (their statements: YtiaennaoedikeaaDoorTotals.lean).
  GIVEN WITH THE SEED: the statements are not yours to turn. If you find one false, say at which input.
  Laid BY PROGRAM, IN A SANDBOX (cutbox-rows.mjs): the forced cells as the released guide's own fill.sh prints them over the translation 1ae15d4a085e12d0… (all of the seat's roots in one cut). By AI agents, Wed Nov 11 2026. No macro, syntax, notation, axiom, sorry.
-/
import Derived.Test.YtiaennaoedikeaaDoorChecked
import GoSem.Claim
import GoSem.ClaimJoined
import GoSem.ClaimMapViews
import Derived.JoinedTies
import Derived.KernelRfl
namespace Go.Proofs.YtiaennaoedikeaaDoor
/- THE CELL 'sum', in the pinned program and in every row, IS THE sha256 OF THE DUMP (.gsa) THAT YtiaennaoedikeaaDoorProg.lean LOADS. Nothing in Lean hashes anything: it is a label: what it is worth is what the hold of that sum in a sandbox is worth. -/
noncomputable def Tryd.pinned : Pinned := { name := "ytiaennaoedikeaadoor", sum := "1ae15d4a085e12d0ede74e9c7e33f051dc08a0b2d6eab17e4d92ae895bbbb582", checked := Tryd.checked }
namespace Rows
def none {H : Type} : Left H := { results := [], args := [] }

/- WHAT THE LISTED PACKAGE-LEVEL VARIABLES READ AS WHEN THE CALL BEGINS. Each datum BY PROGRAM (the guide's laid-datum.mjs) off the statement by which the dump's own 'gosem.cut.vars' lays the variable. In a bare row this is a premise. The card (YtiaennaoedikeaaDoorCards.lean) ties it to the program's text. -/
def laid_copyist_glyph_distances {H : Type} : DataW H := .agg [.agg [.lit (.int .i64 65), .lit (.int .i64 90), .lit (.int .i64 32)], .agg [.lit (.int .i64 192), .lit (.int .i64 214), .lit (.int .i64 32)], .agg [.lit (.int .i64 216), .lit (.int .i64 222), .lit (.int .i64 32)], .agg [.lit (.int .i64 904), .lit (.int .i64 906), .lit (.int .i64 37)], .agg [.lit (.int .i64 913), .lit (.int .i64 929), .lit (.int .i64 32)], .agg [.lit (.int .i64 931), .lit (.int .i64 939), .lit (.int .i64 32)], .agg [.lit (.int .i64 1024), .lit (.int .i64 1039), .lit (.int .i64 80)], .agg [.lit (.int .i64 1040), .lit (.int .i64 1071), .lit (.int .i64 32)], .agg [.lit (.int .i64 1329), .lit (.int .i64 1366), .lit (.int .i64 48)], .agg [.lit (.int .i64 8544), .lit (.int .i64 8559), .lit (.int .i64 16)], .agg [.lit (.int .i64 9398), .lit (.int .i64 9423), .lit (.int .i64 26)], .agg [.lit (.int .i64 65313), .lit (.int .i64 65338), .lit (.int .i64 32)], .agg [.lit (.int .i64 66560), .lit (.int .i64 66599), .lit (.int .i64 40)], .agg [.lit (.int .i64 376), .lit (.int .i64 376), .lit (.int .i64 (-121))], .agg [.lit (.int .i64 902), .lit (.int .i64 902), .lit (.int .i64 38)], .agg [.lit (.int .i64 908), .lit (.int .i64 908), .lit (.int .i64 64)], .agg [.lit (.int .i64 910), .lit (.int .i64 911), .lit (.int .i64 63)], .agg [.lit (.int .i64 975), .lit (.int .i64 975), .lit (.int .i64 8)], .agg [.lit (.int .i64 1216), .lit (.int .i64 1216), .lit (.int .i64 15)]]
def laid_copyist_glyph_pairs {H : Type} : DataW H := .agg [.agg [.lit (.int .i64 256), .lit (.int .i64 303)], .agg [.lit (.int .i64 306), .lit (.int .i64 311)], .agg [.lit (.int .i64 313), .lit (.int .i64 328)], .agg [.lit (.int .i64 330), .lit (.int .i64 375)], .agg [.lit (.int .i64 377), .lit (.int .i64 382)], .agg [.lit (.int .i64 461), .lit (.int .i64 476)], .agg [.lit (.int .i64 478), .lit (.int .i64 495)], .agg [.lit (.int .i64 504), .lit (.int .i64 543)], .agg [.lit (.int .i64 546), .lit (.int .i64 563)], .agg [.lit (.int .i64 582), .lit (.int .i64 591)], .agg [.lit (.int .i64 880), .lit (.int .i64 883)], .agg [.lit (.int .i64 886), .lit (.int .i64 887)], .agg [.lit (.int .i64 984), .lit (.int .i64 1007)], .agg [.lit (.int .i64 1120), .lit (.int .i64 1153)], .agg [.lit (.int .i64 1162), .lit (.int .i64 1215)], .agg [.lit (.int .i64 1217), .lit (.int .i64 1230)], .agg [.lit (.int .i64 1232), .lit (.int .i64 1327)], .agg [.lit (.int .i64 7680), .lit (.int .i64 7829)], .agg [.lit (.int .i64 7840), .lit (.int .i64 7935)]]
def laid_copyist_glyph_oneWay {H : Type} : DataW H := .agg [.agg [.lit (.int .i64 181), .lit (.int .i64 924), .lit (.int .i64 181)], .agg [.lit (.int .i64 305), .lit (.int .i64 73), .lit (.int .i64 305)], .agg [.lit (.int .i64 383), .lit (.int .i64 83), .lit (.int .i64 383)], .agg [.lit (.int .i64 962), .lit (.int .i64 931), .lit (.int .i64 962)], .agg [.lit (.int .i64 304), .lit (.int .i64 304), .lit (.int .i64 105)], .agg [.lit (.int .i64 7838), .lit (.int .i64 7838), .lit (.int .i64 223)], .agg [.lit (.int .i64 8486), .lit (.int .i64 8486), .lit (.int .i64 969)], .agg [.lit (.int .i64 8490), .lit (.int .i64 8490), .lit (.int .i64 107)], .agg [.lit (.int .i64 8491), .lit (.int .i64 8491), .lit (.int .i64 229)]]

/-- 'copyistlaw2.GlyphFold': WHATEVER THE INPUT: true; the input reads as it did. -/
def glyphFoldSpec : ChangeSpec := { name := "glyphFold", fn := fun _ => fun
  | [d] => { results := [.lit (.bool true)], args := [d] }
  | _ => none }
def glyphFoldRow : OpenClaim := { program := "ytiaennaoedikeaadoor", sum := "1ae15d4a085e12d0ede74e9c7e33f051dc08a0b2d6eab17e4d92ae895bbbb582", func := "copyist/copyistlaw2.GlyphFold", spec := "glyphFold", named := ["copyist/glyph.oneWay", "copyist/glyph.distances", "copyist/glyph.pairs"], apart := false, laid := [("copyist/glyph.distances", laid_copyist_glyph_distances), ("copyist/glyph.pairs", laid_copyist_glyph_pairs), ("copyist/glyph.oneWay", laid_copyist_glyph_oneWay)] }
def GlyphFoldSaid : Prop := glyphFoldRow.holds Tryd.pinned (OpenSpec.ofChange glyphFoldSpec)

/-- ITS FALSE NEIGHBOUR: 'it returns false'. Refute it at one input. -/
def glyphFoldWrong : ChangeSpec := { name := "glyphFold", fn := fun _ => fun
  | [d] => { results := [.lit (.bool false)], args := [d] }
  | _ => none }
def GlyphFoldWrongFalsely : Prop := glyphFoldRow.holds Tryd.pinned (OpenSpec.ofChange glyphFoldWrong)

/-- 'copyistlaw2.GlyphClass': WHATEVER THE INPUT: true; the input reads as it did. -/
def glyphClassSpec : ChangeSpec := { name := "glyphClass", fn := fun _ => fun
  | [d] => { results := [.lit (.bool true)], args := [d] }
  | _ => none }
def glyphClassRow : OpenClaim := { program := "ytiaennaoedikeaadoor", sum := "1ae15d4a085e12d0ede74e9c7e33f051dc08a0b2d6eab17e4d92ae895bbbb582", func := "copyist/copyistlaw2.GlyphClass", spec := "glyphClass", named := ["copyist/glyph.oneWay", "copyist/glyph.distances", "copyist/glyph.pairs"], apart := false, laid := [("copyist/glyph.distances", laid_copyist_glyph_distances), ("copyist/glyph.pairs", laid_copyist_glyph_pairs), ("copyist/glyph.oneWay", laid_copyist_glyph_oneWay)] }
def GlyphClassSaid : Prop := glyphClassRow.holds Tryd.pinned (OpenSpec.ofChange glyphClassSpec)

/-- ITS FALSE NEIGHBOUR: 'it returns false'. Refute it at one input. -/
def glyphClassWrong : ChangeSpec := { name := "glyphClass", fn := fun _ => fun
  | [d] => { results := [.lit (.bool false)], args := [d] }
  | _ => none }
def GlyphClassWrongFalsely : Prop := glyphClassRow.holds Tryd.pinned (OpenSpec.ofChange glyphClassWrong)

/-- 'copyistlaw2.GlyphConjunct': WHATEVER THE INPUT: true; the input reads as it did. -/
def glyphConjunctSpec : ChangeSpec := { name := "glyphConjunct", fn := fun _ => fun
  | [d] => { results := [.lit (.bool true)], args := [d] }
  | _ => none }
def glyphConjunctRow : OpenClaim := { program := "ytiaennaoedikeaadoor", sum := "1ae15d4a085e12d0ede74e9c7e33f051dc08a0b2d6eab17e4d92ae895bbbb582", func := "copyist/copyistlaw2.GlyphConjunct", spec := "glyphConjunct", named := ["copyist/glyph.oneWay", "copyist/glyph.distances", "copyist/glyph.pairs"], apart := false, laid := [("copyist/glyph.distances", laid_copyist_glyph_distances), ("copyist/glyph.pairs", laid_copyist_glyph_pairs), ("copyist/glyph.oneWay", laid_copyist_glyph_oneWay)] }
def GlyphConjunctSaid : Prop := glyphConjunctRow.holds Tryd.pinned (OpenSpec.ofChange glyphConjunctSpec)

/-- ITS FALSE NEIGHBOUR: 'it returns false'. Refute it at one input. -/
def glyphConjunctWrong : ChangeSpec := { name := "glyphConjunct", fn := fun _ => fun
  | [d] => { results := [.lit (.bool false)], args := [d] }
  | _ => none }
def GlyphConjunctWrongFalsely : Prop := glyphConjunctRow.holds Tryd.pinned (OpenSpec.ofChange glyphConjunctWrong)

/-- 'copyistlaw2.GlyphWord': WHATEVER THE INPUT: true; the input reads as it did. -/
def glyphWordSpec : ChangeSpec := { name := "glyphWord", fn := fun _ => fun
  | [d] => { results := [.lit (.bool true)], args := [d] }
  | _ => none }
def glyphWordRow : OpenClaim := { program := "ytiaennaoedikeaadoor", sum := "1ae15d4a085e12d0ede74e9c7e33f051dc08a0b2d6eab17e4d92ae895bbbb582", func := "copyist/copyistlaw2.GlyphWord", spec := "glyphWord", named := ["copyist/glyph.oneWay", "copyist/glyph.distances", "copyist/glyph.pairs"], apart := false, laid := [("copyist/glyph.distances", laid_copyist_glyph_distances), ("copyist/glyph.pairs", laid_copyist_glyph_pairs), ("copyist/glyph.oneWay", laid_copyist_glyph_oneWay)] }
def GlyphWordSaid : Prop := glyphWordRow.holds Tryd.pinned (OpenSpec.ofChange glyphWordSpec)

/-- ITS FALSE NEIGHBOUR: 'it returns false'. Refute it at one input. -/
def glyphWordWrong : ChangeSpec := { name := "glyphWord", fn := fun _ => fun
  | [d] => { results := [.lit (.bool false)], args := [d] }
  | _ => none }
def GlyphWordWrongFalsely : Prop := glyphWordRow.holds Tryd.pinned (OpenSpec.ofChange glyphWordWrong)

/-- 'copyistlaw2.GlyphCase': WHATEVER THE INPUT: true; the input reads as it did. -/
def glyphCaseSpec : ChangeSpec := { name := "glyphCase", fn := fun _ => fun
  | [d] => { results := [.lit (.bool true)], args := [d] }
  | _ => none }
def glyphCaseRow : OpenClaim := { program := "ytiaennaoedikeaadoor", sum := "1ae15d4a085e12d0ede74e9c7e33f051dc08a0b2d6eab17e4d92ae895bbbb582", func := "copyist/copyistlaw2.GlyphCase", spec := "glyphCase", named := ["copyist/glyph.oneWay", "copyist/glyph.distances", "copyist/glyph.pairs"], apart := false, laid := [("copyist/glyph.distances", laid_copyist_glyph_distances), ("copyist/glyph.pairs", laid_copyist_glyph_pairs), ("copyist/glyph.oneWay", laid_copyist_glyph_oneWay)] }
def GlyphCaseSaid : Prop := glyphCaseRow.holds Tryd.pinned (OpenSpec.ofChange glyphCaseSpec)

/-- ITS FALSE NEIGHBOUR: 'it returns false'. Refute it at one input. -/
def glyphCaseWrong : ChangeSpec := { name := "glyphCase", fn := fun _ => fun
  | [d] => { results := [.lit (.bool false)], args := [d] }
  | _ => none }
def GlyphCaseWrongFalsely : Prop := glyphCaseRow.holds Tryd.pinned (OpenSpec.ofChange glyphCaseWrong)

/-- 'copyistlaw2.GlyphWidth': WHATEVER THE INPUT: true; the input reads as it did. -/
def glyphWidthSpec : ChangeSpec := { name := "glyphWidth", fn := fun _ => fun
  | [d] => { results := [.lit (.bool true)], args := [d] }
  | _ => none }
def glyphWidthRow : OpenClaim := { program := "ytiaennaoedikeaadoor", sum := "1ae15d4a085e12d0ede74e9c7e33f051dc08a0b2d6eab17e4d92ae895bbbb582", func := "copyist/copyistlaw2.GlyphWidth", spec := "glyphWidth", named := ["copyist/glyph.oneWay", "copyist/glyph.distances", "copyist/glyph.pairs"], apart := false, laid := [("copyist/glyph.distances", laid_copyist_glyph_distances), ("copyist/glyph.pairs", laid_copyist_glyph_pairs), ("copyist/glyph.oneWay", laid_copyist_glyph_oneWay)] }
def GlyphWidthSaid : Prop := glyphWidthRow.holds Tryd.pinned (OpenSpec.ofChange glyphWidthSpec)

/-- ITS FALSE NEIGHBOUR: 'it returns false'. Refute it at one input. -/
def glyphWidthWrong : ChangeSpec := { name := "glyphWidth", fn := fun _ => fun
  | [d] => { results := [.lit (.bool false)], args := [d] }
  | _ => none }
def GlyphWidthWrongFalsely : Prop := glyphWidthRow.holds Tryd.pinned (OpenSpec.ofChange glyphWidthWrong)

/-- 'copyistlaw2.GlyphAll': WHATEVER THE INPUT: true; the input reads as it did. -/
def glyphAllSpec : ChangeSpec := { name := "glyphAll", fn := fun _ => fun
  | [d] => { results := [.lit (.bool true)], args := [d] }
  | _ => none }
def glyphAllRow : OpenClaim := { program := "ytiaennaoedikeaadoor", sum := "1ae15d4a085e12d0ede74e9c7e33f051dc08a0b2d6eab17e4d92ae895bbbb582", func := "copyist/copyistlaw2.GlyphAll", spec := "glyphAll", named := ["copyist/glyph.oneWay", "copyist/glyph.distances", "copyist/glyph.pairs"], apart := false, laid := [("copyist/glyph.distances", laid_copyist_glyph_distances), ("copyist/glyph.pairs", laid_copyist_glyph_pairs), ("copyist/glyph.oneWay", laid_copyist_glyph_oneWay)] }
def GlyphAllSaid : Prop := glyphAllRow.holds Tryd.pinned (OpenSpec.ofChange glyphAllSpec)

/-- ITS FALSE NEIGHBOUR: 'it returns false'. Refute it at one input. -/
def glyphAllWrong : ChangeSpec := { name := "glyphAll", fn := fun _ => fun
  | [d] => { results := [.lit (.bool false)], args := [d] }
  | _ => none }
def GlyphAllWrongFalsely : Prop := glyphAllRow.holds Tryd.pinned (OpenSpec.ofChange glyphAllWrong)

/- THE SECOND FORM. 'bulk': how many values and letters a reading holds, each counted each time it is reached (what is shared counts as often as it is met; a slice's spare places count too). A statement '..UptoSaid' is the law's where the arguments, and the package variables that the reading takes, are together of bulk at most 1048576: NARROWER than '..Said'. Prove '..Said' where nothing that the law and all that it calls make is longer than what came in: it says more and counts as full. Else prove '..UptoSaid'. A law counts once. -/
mutual
def uptoBulk {H : Type} : DataW H → Nat
  | .lit (.string bytes) => bytes.length + 1
  | .lit _ => 1
  | .nil => 1
  | .ptr d => uptoBulk d + 1
  | .slice elems spare => uptoBulkAll elems + uptoBulkAll spare + 1
  | .agg parts => uptoBulkAll parts + 1
  | .iface _ d => uptoBulk d + 1
  | .map entries => uptoBulkEntries entries + 1
  | .held _ => 1
def uptoBulkAll {H : Type} : List (DataW H) → Nat
  | [] => 0
  | d :: r => uptoBulk d + uptoBulkAll r
def uptoBulkEntries {H : Type} : List (Lit × DataW H) → Nat
  | [] => 0
  | x :: r => uptoBulkEntry x + uptoBulkEntries r
def uptoBulkEntry {H : Type} : Lit × DataW H → Nat
  | (.string bytes, d) => bytes.length + uptoBulk d + 1
  | (_, d) => uptoBulk d + 1
 end
def uptoSmall : (H : Type) → List (DataW H) → Bool := fun _ ds => decide (uptoBulkAll ds ≤ 1048576)
def OpenSpec.upto (s : _root_.Go.ChangeSpec) : _root_.Go.OpenSpec := { _root_.Go.OpenSpec.ofChange s with cond := some uptoSmall }

/-- 'copyistlaw2.GlyphFold', WHERE WHAT IT READS IS OF BULK AT MOST 1048576: true; the input reads as it did. -/
def glyphFoldUptoRow : OpenClaim := { program := "ytiaennaoedikeaadoor", sum := "1ae15d4a085e12d0ede74e9c7e33f051dc08a0b2d6eab17e4d92ae895bbbb582", func := "copyist/copyistlaw2.GlyphFold", spec := "glyphFold", named := ["copyist/glyph.oneWay", "copyist/glyph.distances", "copyist/glyph.pairs"], apart := false, laid := [("copyist/glyph.distances", laid_copyist_glyph_distances), ("copyist/glyph.pairs", laid_copyist_glyph_pairs), ("copyist/glyph.oneWay", laid_copyist_glyph_oneWay)], narrowed := true }
def GlyphFoldUptoSaid : Prop := glyphFoldUptoRow.holds Tryd.pinned (OpenSpec.upto glyphFoldSpec)

/-- 'copyistlaw2.GlyphClass', WHERE WHAT IT READS IS OF BULK AT MOST 1048576: true; the input reads as it did. -/
def glyphClassUptoRow : OpenClaim := { program := "ytiaennaoedikeaadoor", sum := "1ae15d4a085e12d0ede74e9c7e33f051dc08a0b2d6eab17e4d92ae895bbbb582", func := "copyist/copyistlaw2.GlyphClass", spec := "glyphClass", named := ["copyist/glyph.oneWay", "copyist/glyph.distances", "copyist/glyph.pairs"], apart := false, laid := [("copyist/glyph.distances", laid_copyist_glyph_distances), ("copyist/glyph.pairs", laid_copyist_glyph_pairs), ("copyist/glyph.oneWay", laid_copyist_glyph_oneWay)], narrowed := true }
def GlyphClassUptoSaid : Prop := glyphClassUptoRow.holds Tryd.pinned (OpenSpec.upto glyphClassSpec)

/-- 'copyistlaw2.GlyphConjunct', WHERE WHAT IT READS IS OF BULK AT MOST 1048576: true; the input reads as it did. -/
def glyphConjunctUptoRow : OpenClaim := { program := "ytiaennaoedikeaadoor", sum := "1ae15d4a085e12d0ede74e9c7e33f051dc08a0b2d6eab17e4d92ae895bbbb582", func := "copyist/copyistlaw2.GlyphConjunct", spec := "glyphConjunct", named := ["copyist/glyph.oneWay", "copyist/glyph.distances", "copyist/glyph.pairs"], apart := false, laid := [("copyist/glyph.distances", laid_copyist_glyph_distances), ("copyist/glyph.pairs", laid_copyist_glyph_pairs), ("copyist/glyph.oneWay", laid_copyist_glyph_oneWay)], narrowed := true }
def GlyphConjunctUptoSaid : Prop := glyphConjunctUptoRow.holds Tryd.pinned (OpenSpec.upto glyphConjunctSpec)

/-- 'copyistlaw2.GlyphWord', WHERE WHAT IT READS IS OF BULK AT MOST 1048576: true; the input reads as it did. -/
def glyphWordUptoRow : OpenClaim := { program := "ytiaennaoedikeaadoor", sum := "1ae15d4a085e12d0ede74e9c7e33f051dc08a0b2d6eab17e4d92ae895bbbb582", func := "copyist/copyistlaw2.GlyphWord", spec := "glyphWord", named := ["copyist/glyph.oneWay", "copyist/glyph.distances", "copyist/glyph.pairs"], apart := false, laid := [("copyist/glyph.distances", laid_copyist_glyph_distances), ("copyist/glyph.pairs", laid_copyist_glyph_pairs), ("copyist/glyph.oneWay", laid_copyist_glyph_oneWay)], narrowed := true }
def GlyphWordUptoSaid : Prop := glyphWordUptoRow.holds Tryd.pinned (OpenSpec.upto glyphWordSpec)

/-- 'copyistlaw2.GlyphCase', WHERE WHAT IT READS IS OF BULK AT MOST 1048576: true; the input reads as it did. -/
def glyphCaseUptoRow : OpenClaim := { program := "ytiaennaoedikeaadoor", sum := "1ae15d4a085e12d0ede74e9c7e33f051dc08a0b2d6eab17e4d92ae895bbbb582", func := "copyist/copyistlaw2.GlyphCase", spec := "glyphCase", named := ["copyist/glyph.oneWay", "copyist/glyph.distances", "copyist/glyph.pairs"], apart := false, laid := [("copyist/glyph.distances", laid_copyist_glyph_distances), ("copyist/glyph.pairs", laid_copyist_glyph_pairs), ("copyist/glyph.oneWay", laid_copyist_glyph_oneWay)], narrowed := true }
def GlyphCaseUptoSaid : Prop := glyphCaseUptoRow.holds Tryd.pinned (OpenSpec.upto glyphCaseSpec)

/-- 'copyistlaw2.GlyphWidth', WHERE WHAT IT READS IS OF BULK AT MOST 1048576: true; the input reads as it did. -/
def glyphWidthUptoRow : OpenClaim := { program := "ytiaennaoedikeaadoor", sum := "1ae15d4a085e12d0ede74e9c7e33f051dc08a0b2d6eab17e4d92ae895bbbb582", func := "copyist/copyistlaw2.GlyphWidth", spec := "glyphWidth", named := ["copyist/glyph.oneWay", "copyist/glyph.distances", "copyist/glyph.pairs"], apart := false, laid := [("copyist/glyph.distances", laid_copyist_glyph_distances), ("copyist/glyph.pairs", laid_copyist_glyph_pairs), ("copyist/glyph.oneWay", laid_copyist_glyph_oneWay)], narrowed := true }
def GlyphWidthUptoSaid : Prop := glyphWidthUptoRow.holds Tryd.pinned (OpenSpec.upto glyphWidthSpec)

/-- 'copyistlaw2.GlyphAll', WHERE WHAT IT READS IS OF BULK AT MOST 1048576: true; the input reads as it did. -/
def glyphAllUptoRow : OpenClaim := { program := "ytiaennaoedikeaadoor", sum := "1ae15d4a085e12d0ede74e9c7e33f051dc08a0b2d6eab17e4d92ae895bbbb582", func := "copyist/copyistlaw2.GlyphAll", spec := "glyphAll", named := ["copyist/glyph.oneWay", "copyist/glyph.distances", "copyist/glyph.pairs"], apart := false, laid := [("copyist/glyph.distances", laid_copyist_glyph_distances), ("copyist/glyph.pairs", laid_copyist_glyph_pairs), ("copyist/glyph.oneWay", laid_copyist_glyph_oneWay)], narrowed := true }
def GlyphAllUptoSaid : Prop := glyphAllUptoRow.holds Tryd.pinned (OpenSpec.upto glyphAllSpec)

end Rows
end Go.Proofs.YtiaennaoedikeaaDoor
