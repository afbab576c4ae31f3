/-
  NARROWER THAN 'FOR EVERY INPUT', by the rows' own cells (each row's printed sentence says how): PatternFill: laid · PatternPlain: laid · PatternNever: laid · PatternCompile: laid · PatternEither: laid · PatternWithin: laid · PatternFresh: laid.
  DERIVED. THE GIVEN ROWS OF THIS SEAT. 7 by the template 'for every input the law returns true; each argument reads behind the call as it read before'; 0 by the template 'total and deterministic' (their statements: YtdegdoilpamjjaaDoorTotals.lean).
  GIVEN WITH THE SEED: the statements are not yours to turn. If you find one false, say at which input.
  Laid BY PROGRAM, IN A SANDBOX (cutbox-rows.mjs): the forced cells as the released guide's own fill.sh prints them over the translation 895df0f4e25c9b6f… (all of the seat's roots in one cut). By AI agents, Wed Nov 11 2026. No macro, syntax, notation, axiom, sorry.
-/
import Derived.Test.YtdegdoilpamjjaaDoorChecked
import GoSem.Claim
import GoSem.ClaimJoined
import GoSem.ClaimMapViews
import Derived.JoinedTies
import Derived.KernelRfl
namespace Go.Proofs.YtdegdoilpamjjaaDoor
/- THE CELL 'sum', in the pinned program and in every row, IS THE sha256 OF THE DUMP (.gsa) THAT YtdegdoilpamjjaaDoorProg.lean LOADS. Nothing in Lean hashes anything: it is a label: what it is worth is what the hold of that sum in a sandbox is worth. -/
noncomputable def Tryd.pinned : Pinned := { name := "ytdegdoilpamjjaadoor", sum := "895df0f4e25c9b6f4286d346d099b1ec7941cc3ef8712386546fc0a0983c3379", checked := Tryd.checked }
namespace Rows
def none {H : Type} : Left H := { results := [], args := [] }

/- WHAT THE LISTED PACKAGE-LEVEL VARIABLES READ AS WHEN THE CALL BEGINS. Each datum BY PROGRAM (the guide's laid-datum.mjs) off the statement by which the dump's own 'gosem.cut.vars' lays the variable. In a bare row this is a premise. The card (YtdegdoilpamjjaaDoorCards.lean) ties it to the program's text. -/
def laid_copyist_glyph_distances {H : Type} : DataW H := .agg [.agg [.lit (.int .i64 65), .lit (.int .i64 90), .lit (.int .i64 32)], .agg [.lit (.int .i64 192), .lit (.int .i64 214), .lit (.int .i64 32)], .agg [.lit (.int .i64 216), .lit (.int .i64 222), .lit (.int .i64 32)], .agg [.lit (.int .i64 904), .lit (.int .i64 906), .lit (.int .i64 37)], .agg [.lit (.int .i64 913), .lit (.int .i64 929), .lit (.int .i64 32)], .agg [.lit (.int .i64 931), .lit (.int .i64 939), .lit (.int .i64 32)], .agg [.lit (.int .i64 1024), .lit (.int .i64 1039), .lit (.int .i64 80)], .agg [.lit (.int .i64 1040), .lit (.int .i64 1071), .lit (.int .i64 32)], .agg [.lit (.int .i64 1329), .lit (.int .i64 1366), .lit (.int .i64 48)], .agg [.lit (.int .i64 8544), .lit (.int .i64 8559), .lit (.int .i64 16)], .agg [.lit (.int .i64 9398), .lit (.int .i64 9423), .lit (.int .i64 26)], .agg [.lit (.int .i64 65313), .lit (.int .i64 65338), .lit (.int .i64 32)], .agg [.lit (.int .i64 66560), .lit (.int .i64 66599), .lit (.int .i64 40)], .agg [.lit (.int .i64 376), .lit (.int .i64 376), .lit (.int .i64 (-121))], .agg [.lit (.int .i64 902), .lit (.int .i64 902), .lit (.int .i64 38)], .agg [.lit (.int .i64 908), .lit (.int .i64 908), .lit (.int .i64 64)], .agg [.lit (.int .i64 910), .lit (.int .i64 911), .lit (.int .i64 63)], .agg [.lit (.int .i64 975), .lit (.int .i64 975), .lit (.int .i64 8)], .agg [.lit (.int .i64 1216), .lit (.int .i64 1216), .lit (.int .i64 15)]]
def laid_copyist_glyph_pairs {H : Type} : DataW H := .agg [.agg [.lit (.int .i64 256), .lit (.int .i64 303)], .agg [.lit (.int .i64 306), .lit (.int .i64 311)], .agg [.lit (.int .i64 313), .lit (.int .i64 328)], .agg [.lit (.int .i64 330), .lit (.int .i64 375)], .agg [.lit (.int .i64 377), .lit (.int .i64 382)], .agg [.lit (.int .i64 461), .lit (.int .i64 476)], .agg [.lit (.int .i64 478), .lit (.int .i64 495)], .agg [.lit (.int .i64 504), .lit (.int .i64 543)], .agg [.lit (.int .i64 546), .lit (.int .i64 563)], .agg [.lit (.int .i64 582), .lit (.int .i64 591)], .agg [.lit (.int .i64 880), .lit (.int .i64 883)], .agg [.lit (.int .i64 886), .lit (.int .i64 887)], .agg [.lit (.int .i64 984), .lit (.int .i64 1007)], .agg [.lit (.int .i64 1120), .lit (.int .i64 1153)], .agg [.lit (.int .i64 1162), .lit (.int .i64 1215)], .agg [.lit (.int .i64 1217), .lit (.int .i64 1230)], .agg [.lit (.int .i64 1232), .lit (.int .i64 1327)], .agg [.lit (.int .i64 7680), .lit (.int .i64 7829)], .agg [.lit (.int .i64 7840), .lit (.int .i64 7935)]]
def laid_copyist_glyph_oneWay {H : Type} : DataW H := .agg [.agg [.lit (.int .i64 181), .lit (.int .i64 924), .lit (.int .i64 181)], .agg [.lit (.int .i64 305), .lit (.int .i64 73), .lit (.int .i64 305)], .agg [.lit (.int .i64 383), .lit (.int .i64 83), .lit (.int .i64 383)], .agg [.lit (.int .i64 962), .lit (.int .i64 931), .lit (.int .i64 962)], .agg [.lit (.int .i64 304), .lit (.int .i64 304), .lit (.int .i64 105)], .agg [.lit (.int .i64 7838), .lit (.int .i64 7838), .lit (.int .i64 223)], .agg [.lit (.int .i64 8486), .lit (.int .i64 8486), .lit (.int .i64 969)], .agg [.lit (.int .i64 8490), .lit (.int .i64 8490), .lit (.int .i64 107)], .agg [.lit (.int .i64 8491), .lit (.int .i64 8491), .lit (.int .i64 229)]]

/-- 'copyistlaw10.PatternFill': WHATEVER THE INPUT: true; the input reads as it did. -/
def patternFillSpec : ChangeSpec := { name := "patternFill", fn := fun _ => fun
  | [d1, d2, d3] => { results := [.lit (.bool true)], args := [d1, d2, d3] }
  | _ => none }
def patternFillRow : OpenClaim := { program := "ytdegdoilpamjjaadoor", sum := "895df0f4e25c9b6f4286d346d099b1ec7941cc3ef8712386546fc0a0983c3379", func := "copyist/copyistlaw10.PatternFill", spec := "patternFill", unfollowed := true, recurses := true, named := ["copyist/glyph.oneWay", "copyist/glyph.distances", "copyist/glyph.pairs"], apart := false, laid := [("copyist/glyph.distances", laid_copyist_glyph_distances), ("copyist/glyph.pairs", laid_copyist_glyph_pairs), ("copyist/glyph.oneWay", laid_copyist_glyph_oneWay)] }
def PatternFillSaid : Prop := patternFillRow.holds Tryd.pinned (OpenSpec.ofChange patternFillSpec)

/-- ITS FALSE NEIGHBOUR: 'it returns false'. Refute it at one input. -/
def patternFillWrong : ChangeSpec := { name := "patternFill", fn := fun _ => fun
  | [d1, d2, d3] => { results := [.lit (.bool false)], args := [d1, d2, d3] }
  | _ => none }
def PatternFillWrongFalsely : Prop := patternFillRow.holds Tryd.pinned (OpenSpec.ofChange patternFillWrong)

/-- 'copyistlaw10.PatternPlain': WHATEVER THE INPUT: true; the input reads as it did. -/
def patternPlainSpec : ChangeSpec := { name := "patternPlain", fn := fun _ => fun
  | [d1, d2, d3] => { results := [.lit (.bool true)], args := [d1, d2, d3] }
  | _ => none }
def patternPlainRow : OpenClaim := { program := "ytdegdoilpamjjaadoor", sum := "895df0f4e25c9b6f4286d346d099b1ec7941cc3ef8712386546fc0a0983c3379", func := "copyist/copyistlaw10.PatternPlain", spec := "patternPlain", unfollowed := true, recurses := true, named := ["copyist/glyph.oneWay", "copyist/glyph.distances", "copyist/glyph.pairs"], apart := false, laid := [("copyist/glyph.distances", laid_copyist_glyph_distances), ("copyist/glyph.pairs", laid_copyist_glyph_pairs), ("copyist/glyph.oneWay", laid_copyist_glyph_oneWay)] }
def PatternPlainSaid : Prop := patternPlainRow.holds Tryd.pinned (OpenSpec.ofChange patternPlainSpec)

/-- ITS FALSE NEIGHBOUR: 'it returns false'. Refute it at one input. -/
def patternPlainWrong : ChangeSpec := { name := "patternPlain", fn := fun _ => fun
  | [d1, d2, d3] => { results := [.lit (.bool false)], args := [d1, d2, d3] }
  | _ => none }
def PatternPlainWrongFalsely : Prop := patternPlainRow.holds Tryd.pinned (OpenSpec.ofChange patternPlainWrong)

/-- 'copyistlaw10.PatternNever': WHATEVER THE INPUT: true; the input reads as it did. -/
def patternNeverSpec : ChangeSpec := { name := "patternNever", fn := fun _ => fun
  | [d1, d2, d3] => { results := [.lit (.bool true)], args := [d1, d2, d3] }
  | _ => none }
def patternNeverRow : OpenClaim := { program := "ytdegdoilpamjjaadoor", sum := "895df0f4e25c9b6f4286d346d099b1ec7941cc3ef8712386546fc0a0983c3379", func := "copyist/copyistlaw10.PatternNever", spec := "patternNever", unfollowed := true, recurses := true, named := ["copyist/glyph.oneWay", "copyist/glyph.distances", "copyist/glyph.pairs"], apart := false, laid := [("copyist/glyph.distances", laid_copyist_glyph_distances), ("copyist/glyph.pairs", laid_copyist_glyph_pairs), ("copyist/glyph.oneWay", laid_copyist_glyph_oneWay)] }
def PatternNeverSaid : Prop := patternNeverRow.holds Tryd.pinned (OpenSpec.ofChange patternNeverSpec)

/-- ITS FALSE NEIGHBOUR: 'it returns false'. Refute it at one input. -/
def patternNeverWrong : ChangeSpec := { name := "patternNever", fn := fun _ => fun
  | [d1, d2, d3] => { results := [.lit (.bool false)], args := [d1, d2, d3] }
  | _ => none }
def PatternNeverWrongFalsely : Prop := patternNeverRow.holds Tryd.pinned (OpenSpec.ofChange patternNeverWrong)

/-- 'copyistlaw10.PatternCompile': WHATEVER THE INPUT: true; the input reads as it did. -/
def patternCompileSpec : ChangeSpec := { name := "patternCompile", fn := fun _ => fun
  | [d1, d2] => { results := [.lit (.bool true)], args := [d1, d2] }
  | _ => none }
def patternCompileRow : OpenClaim := { program := "ytdegdoilpamjjaadoor", sum := "895df0f4e25c9b6f4286d346d099b1ec7941cc3ef8712386546fc0a0983c3379", func := "copyist/copyistlaw10.PatternCompile", spec := "patternCompile", unfollowed := true, recurses := true, named := ["copyist/glyph.oneWay", "copyist/glyph.distances", "copyist/glyph.pairs"], apart := false, laid := [("copyist/glyph.distances", laid_copyist_glyph_distances), ("copyist/glyph.pairs", laid_copyist_glyph_pairs), ("copyist/glyph.oneWay", laid_copyist_glyph_oneWay)] }
def PatternCompileSaid : Prop := patternCompileRow.holds Tryd.pinned (OpenSpec.ofChange patternCompileSpec)

/-- ITS FALSE NEIGHBOUR: 'it returns false'. Refute it at one input. -/
def patternCompileWrong : ChangeSpec := { name := "patternCompile", fn := fun _ => fun
  | [d1, d2] => { results := [.lit (.bool false)], args := [d1, d2] }
  | _ => none }
def PatternCompileWrongFalsely : Prop := patternCompileRow.holds Tryd.pinned (OpenSpec.ofChange patternCompileWrong)

/-- 'copyistlaw10.PatternEither': WHATEVER THE INPUT: true; the input reads as it did. -/
def patternEitherSpec : ChangeSpec := { name := "patternEither", fn := fun _ => fun
  | [d1, d2, d3, d4] => { results := [.lit (.bool true)], args := [d1, d2, d3, d4] }
  | _ => none }
def patternEitherRow : OpenClaim := { program := "ytdegdoilpamjjaadoor", sum := "895df0f4e25c9b6f4286d346d099b1ec7941cc3ef8712386546fc0a0983c3379", func := "copyist/copyistlaw10.PatternEither", spec := "patternEither", unfollowed := true, recurses := true, named := ["copyist/glyph.oneWay", "copyist/glyph.distances", "copyist/glyph.pairs"], apart := false, laid := [("copyist/glyph.distances", laid_copyist_glyph_distances), ("copyist/glyph.pairs", laid_copyist_glyph_pairs), ("copyist/glyph.oneWay", laid_copyist_glyph_oneWay)] }
def PatternEitherSaid : Prop := patternEitherRow.holds Tryd.pinned (OpenSpec.ofChange patternEitherSpec)

/-- ITS FALSE NEIGHBOUR: 'it returns false'. Refute it at one input. -/
def patternEitherWrong : ChangeSpec := { name := "patternEither", fn := fun _ => fun
  | [d1, d2, d3, d4] => { results := [.lit (.bool false)], args := [d1, d2, d3, d4] }
  | _ => none }
def PatternEitherWrongFalsely : Prop := patternEitherRow.holds Tryd.pinned (OpenSpec.ofChange patternEitherWrong)

/-- 'copyistlaw10.PatternWithin': WHATEVER THE INPUT: true; the input reads as it did. -/
def patternWithinSpec : ChangeSpec := { name := "patternWithin", fn := fun _ => fun
  | [d1, d2, d3, d4] => { results := [.lit (.bool true)], args := [d1, d2, d3, d4] }
  | _ => none }
def patternWithinRow : OpenClaim := { program := "ytdegdoilpamjjaadoor", sum := "895df0f4e25c9b6f4286d346d099b1ec7941cc3ef8712386546fc0a0983c3379", func := "copyist/copyistlaw10.PatternWithin", spec := "patternWithin", unfollowed := true, recurses := true, named := ["copyist/glyph.oneWay", "copyist/glyph.distances", "copyist/glyph.pairs"], apart := false, laid := [("copyist/glyph.distances", laid_copyist_glyph_distances), ("copyist/glyph.pairs", laid_copyist_glyph_pairs), ("copyist/glyph.oneWay", laid_copyist_glyph_oneWay)] }
def PatternWithinSaid : Prop := patternWithinRow.holds Tryd.pinned (OpenSpec.ofChange patternWithinSpec)

/-- ITS FALSE NEIGHBOUR: 'it returns false'. Refute it at one input. -/
def patternWithinWrong : ChangeSpec := { name := "patternWithin", fn := fun _ => fun
  | [d1, d2, d3, d4] => { results := [.lit (.bool false)], args := [d1, d2, d3, d4] }
  | _ => none }
def PatternWithinWrongFalsely : Prop := patternWithinRow.holds Tryd.pinned (OpenSpec.ofChange patternWithinWrong)

/-- 'copyistlaw10.PatternFresh': WHATEVER THE INPUT: true; the input reads as it did. -/
def patternFreshSpec : ChangeSpec := { name := "patternFresh", fn := fun _ => fun
  | [d1, d2, d3] => { results := [.lit (.bool true)], args := [d1, d2, d3] }
  | _ => none }
def patternFreshRow : OpenClaim := { program := "ytdegdoilpamjjaadoor", sum := "895df0f4e25c9b6f4286d346d099b1ec7941cc3ef8712386546fc0a0983c3379", func := "copyist/copyistlaw10.PatternFresh", spec := "patternFresh", unfollowed := true, recurses := true, named := ["copyist/glyph.oneWay", "copyist/glyph.distances", "copyist/glyph.pairs"], apart := false, laid := [("copyist/glyph.distances", laid_copyist_glyph_distances), ("copyist/glyph.pairs", laid_copyist_glyph_pairs), ("copyist/glyph.oneWay", laid_copyist_glyph_oneWay)] }
def PatternFreshSaid : Prop := patternFreshRow.holds Tryd.pinned (OpenSpec.ofChange patternFreshSpec)

/-- ITS FALSE NEIGHBOUR: 'it returns false'. Refute it at one input. -/
def patternFreshWrong : ChangeSpec := { name := "patternFresh", fn := fun _ => fun
  | [d1, d2, d3] => { results := [.lit (.bool false)], args := [d1, d2, d3] }
  | _ => none }
def PatternFreshWrongFalsely : Prop := patternFreshRow.holds Tryd.pinned (OpenSpec.ofChange patternFreshWrong)

/- THE SECOND FORM. 'bulk': how many values and letters a reading holds, each counted each time it is reached (what is shared counts as often as it is met; a slice's spare places count too). A statement '..UptoSaid' is the law's where the arguments, and the package variables that the reading takes, are together of bulk at most 1048576: NARROWER than '..Said'. Prove '..Said' where nothing that the law and all that it calls make is longer than what came in: it says more and counts as full. Else prove '..UptoSaid'. A law counts once. -/
mutual
def uptoBulk {H : Type} : DataW H → Nat
  | .lit (.string bytes) => bytes.length + 1
  | .lit _ => 1
  | .nil => 1
  | .ptr d => uptoBulk d + 1
  | .slice elems spare => uptoBulkAll elems + uptoBulkAll spare + 1
  | .agg parts => uptoBulkAll parts + 1
  | .iface _ d => uptoBulk d + 1
  | .map entries => uptoBulkEntries entries + 1
  | .held _ => 1
def uptoBulkAll {H : Type} : List (DataW H) → Nat
  | [] => 0
  | d :: r => uptoBulk d + uptoBulkAll r
def uptoBulkEntries {H : Type} : List (Lit × DataW H) → Nat
  | [] => 0
  | x :: r => uptoBulkEntry x + uptoBulkEntries r
def uptoBulkEntry {H : Type} : Lit × DataW H → Nat
  | (.string bytes, d) => bytes.length + uptoBulk d + 1
  | (_, d) => uptoBulk d + 1
 end
def uptoSmall : (H : Type) → List (DataW H) → Bool := fun _ ds => decide (uptoBulkAll ds ≤ 1048576)
def OpenSpec.upto (s : _root_.Go.ChangeSpec) : _root_.Go.OpenSpec := { _root_.Go.OpenSpec.ofChange s with cond := some uptoSmall }

/-- 'copyistlaw10.PatternFill', WHERE WHAT IT READS IS OF BULK AT MOST 1048576: true; the input reads as it did. -/
def patternFillUptoRow : OpenClaim := { program := "ytdegdoilpamjjaadoor", sum := "895df0f4e25c9b6f4286d346d099b1ec7941cc3ef8712386546fc0a0983c3379", func := "copyist/copyistlaw10.PatternFill", spec := "patternFill", unfollowed := true, recurses := true, named := ["copyist/glyph.oneWay", "copyist/glyph.distances", "copyist/glyph.pairs"], apart := false, laid := [("copyist/glyph.distances", laid_copyist_glyph_distances), ("copyist/glyph.pairs", laid_copyist_glyph_pairs), ("copyist/glyph.oneWay", laid_copyist_glyph_oneWay)], narrowed := true }
def PatternFillUptoSaid : Prop := patternFillUptoRow.holds Tryd.pinned (OpenSpec.upto patternFillSpec)

/-- 'copyistlaw10.PatternPlain', WHERE WHAT IT READS IS OF BULK AT MOST 1048576: true; the input reads as it did. -/
def patternPlainUptoRow : OpenClaim := { program := "ytdegdoilpamjjaadoor", sum := "895df0f4e25c9b6f4286d346d099b1ec7941cc3ef8712386546fc0a0983c3379", func := "copyist/copyistlaw10.PatternPlain", spec := "patternPlain", unfollowed := true, recurses := true, named := ["copyist/glyph.oneWay", "copyist/glyph.distances", "copyist/glyph.pairs"], apart := false, laid := [("copyist/glyph.distances", laid_copyist_glyph_distances), ("copyist/glyph.pairs", laid_copyist_glyph_pairs), ("copyist/glyph.oneWay", laid_copyist_glyph_oneWay)], narrowed := true }
def PatternPlainUptoSaid : Prop := patternPlainUptoRow.holds Tryd.pinned (OpenSpec.upto patternPlainSpec)

/-- 'copyistlaw10.PatternNever', WHERE WHAT IT READS IS OF BULK AT MOST 1048576: true; the input reads as it did. -/
def patternNeverUptoRow : OpenClaim := { program := "ytdegdoilpamjjaadoor", sum := "895df0f4e25c9b6f4286d346d099b1ec7941cc3ef8712386546fc0a0983c3379", func := "copyist/copyistlaw10.PatternNever", spec := "patternNever", unfollowed := true, recurses := true, named := ["copyist/glyph.oneWay", "copyist/glyph.distances", "copyist/glyph.pairs"], apart := false, laid := [("copyist/glyph.distances", laid_copyist_glyph_distances), ("copyist/glyph.pairs", laid_copyist_glyph_pairs), ("copyist/glyph.oneWay", laid_copyist_glyph_oneWay)], narrowed := true }
def PatternNeverUptoSaid : Prop := patternNeverUptoRow.holds Tryd.pinned (OpenSpec.upto patternNeverSpec)

/-- 'copyistlaw10.PatternCompile', WHERE WHAT IT READS IS OF BULK AT MOST 1048576: true; the input reads as it did. -/
def patternCompileUptoRow : OpenClaim := { program := "ytdegdoilpamjjaadoor", sum := "895df0f4e25c9b6f4286d346d099b1ec7941cc3ef8712386546fc0a0983c3379", func := "copyist/copyistlaw10.PatternCompile", spec := "patternCompile", unfollowed := true, recurses := true, named := ["copyist/glyph.oneWay", "copyist/glyph.distances", "copyist/glyph.pairs"], apart := false, laid := [("copyist/glyph.distances", laid_copyist_glyph_distances), ("copyist/glyph.pairs", laid_copyist_glyph_pairs), ("copyist/glyph.oneWay", laid_copyist_glyph_oneWay)], narrowed := true }
def PatternCompileUptoSaid : Prop := patternCompileUptoRow.holds Tryd.pinned (OpenSpec.upto patternCompileSpec)

/-- 'copyistlaw10.PatternEither', WHERE WHAT IT READS IS OF BULK AT MOST 1048576: true; the input reads as it did. -/
def patternEitherUptoRow : OpenClaim := { program := "ytdegdoilpamjjaadoor", sum := "895df0f4e25c9b6f4286d346d099b1ec7941cc3ef8712386546fc0a0983c3379", func := "copyist/copyistlaw10.PatternEither", spec := "patternEither", unfollowed := true, recurses := true, named := ["copyist/glyph.oneWay", "copyist/glyph.distances", "copyist/glyph.pairs"], apart := false, laid := [("copyist/glyph.distances", laid_copyist_glyph_distances), ("copyist/glyph.pairs", laid_copyist_glyph_pairs), ("copyist/glyph.oneWay", laid_copyist_glyph_oneWay)], narrowed := true }
def PatternEitherUptoSaid : Prop := patternEitherUptoRow.holds Tryd.pinned (OpenSpec.upto patternEitherSpec)

/-- 'copyistlaw10.PatternWithin', WHERE WHAT IT READS IS OF BULK AT MOST 1048576: true; the input reads as it did. -/
def patternWithinUptoRow : OpenClaim := { program := "ytdegdoilpamjjaadoor", sum := "895df0f4e25c9b6f4286d346d099b1ec7941cc3ef8712386546fc0a0983c3379", func := "copyist/copyistlaw10.PatternWithin", spec := "patternWithin", unfollowed := true, recurses := true, named := ["copyist/glyph.oneWay", "copyist/glyph.distances", "copyist/glyph.pairs"], apart := false, laid := [("copyist/glyph.distances", laid_copyist_glyph_distances), ("copyist/glyph.pairs", laid_copyist_glyph_pairs), ("copyist/glyph.oneWay", laid_copyist_glyph_oneWay)], narrowed := true }
def PatternWithinUptoSaid : Prop := patternWithinUptoRow.holds Tryd.pinned (OpenSpec.upto patternWithinSpec)

/-- 'copyistlaw10.PatternFresh', WHERE WHAT IT READS IS OF BULK AT MOST 1048576: true; the input reads as it did. -/
def patternFreshUptoRow : OpenClaim := { program := "ytdegdoilpamjjaadoor", sum := "895df0f4e25c9b6f4286d346d099b1ec7941cc3ef8712386546fc0a0983c3379", func := "copyist/copyistlaw10.PatternFresh", spec := "patternFresh", unfollowed := true, recurses := true, named := ["copyist/glyph.oneWay", "copyist/glyph.distances", "copyist/glyph.pairs"], apart := false, laid := [("copyist/glyph.distances", laid_copyist_glyph_distances), ("copyist/glyph.pairs", laid_copyist_glyph_pairs), ("copyist/glyph.oneWay", laid_copyist_glyph_oneWay)], narrowed := true }
def PatternFreshUptoSaid : Prop := patternFreshUptoRow.holds Tryd.pinned (OpenSpec.upto patternFreshSpec)

end Rows
end Go.Proofs.YtdegdoilpamjjaaDoor
