/-
  No cell of these rows narrows 'for every input' (looked for: loops, veiled, ifaces, maps, wideKeys, modest, calm, conditions, laid).
  DERIVED. THE GIVEN ROWS OF THIS SEAT. 3 by the template 'for every input the law returns true; each argument reads behind the call as it read before'; 0 by the template 'total and deterministic' (their statements: YtiaennaoedikeaaTotals.lean).
  GIVEN WITH THE SEED: the statements are not yours to turn. If you find one false, say at which input.
  Laid BY PROGRAM, IN A SANDBOX (cutbox-rows.mjs): the forced cells as the released guide's own fill.sh prints them over the translation b2cb6ff484e597cb… (all of the seat's roots in one cut). By AI agents, Wed Nov 11 2026. No macro, syntax, notation, axiom, sorry.
-/
import Derived.Test.YtiaennaoedikeaaChecked
import GoSem.Claim
import GoSem.ClaimJoined
import GoSem.ClaimMapViews
import Derived.JoinedTies
import Derived.KernelRfl
namespace Go.Proofs.Ytiaennaoedikeaa
/- THE CELL 'sum', in the pinned program and in every row, IS THE sha256 OF THE DUMP (.gsa) THAT YtiaennaoedikeaaProg.lean LOADS. Nothing in Lean hashes anything: it is a label: what it is worth is what the hold of that sum in a sandbox is worth. -/
noncomputable def Try.pinned : Pinned := { name := "ytiaennaoedikeaa", sum := "b2cb6ff484e597cb151b4d01ee604b34cfcd81de8b1192d05b9fd62b42e1f8b6", checked := Try.checked }
namespace Rows
def none {H : Type} : Left H := { results := [], args := [] }

/-- 'copyistlaw2.GlyphSyllable': WHATEVER THE INPUT: true; the input reads as it did. -/
def glyphSyllableSpec : ChangeSpec := { name := "glyphSyllable", fn := fun _ => fun
  | [d] => { results := [.lit (.bool true)], args := [d] }
  | _ => none }
def glyphSyllableRow : OpenClaim := { program := "ytiaennaoedikeaa", sum := "b2cb6ff484e597cb151b4d01ee604b34cfcd81de8b1192d05b9fd62b42e1f8b6", func := "copyist/copyistlaw2.GlyphSyllable", spec := "glyphSyllable", apart := false }
def GlyphSyllableSaid : Prop := glyphSyllableRow.holds Try.pinned (OpenSpec.ofChange glyphSyllableSpec)

/-- ITS FALSE NEIGHBOUR: 'it returns false'. Refute it at one input. -/
def glyphSyllableWrong : ChangeSpec := { name := "glyphSyllable", fn := fun _ => fun
  | [d] => { results := [.lit (.bool false)], args := [d] }
  | _ => none }
def GlyphSyllableWrongFalsely : Prop := glyphSyllableRow.holds Try.pinned (OpenSpec.ofChange glyphSyllableWrong)

/-- 'copyistlaw2.GlyphColumns': WHATEVER THE INPUT: true; the input reads as it did. -/
def glyphColumnsSpec : ChangeSpec := { name := "glyphColumns", fn := fun _ => fun
  | [d] => { results := [.lit (.bool true)], args := [d] }
  | _ => none }
def glyphColumnsRow : OpenClaim := { program := "ytiaennaoedikeaa", sum := "b2cb6ff484e597cb151b4d01ee604b34cfcd81de8b1192d05b9fd62b42e1f8b6", func := "copyist/copyistlaw2.GlyphColumns", spec := "glyphColumns", apart := false }
def GlyphColumnsSaid : Prop := glyphColumnsRow.holds Try.pinned (OpenSpec.ofChange glyphColumnsSpec)

/-- ITS FALSE NEIGHBOUR: 'it returns false'. Refute it at one input. -/
def glyphColumnsWrong : ChangeSpec := { name := "glyphColumns", fn := fun _ => fun
  | [d] => { results := [.lit (.bool false)], args := [d] }
  | _ => none }
def GlyphColumnsWrongFalsely : Prop := glyphColumnsRow.holds Try.pinned (OpenSpec.ofChange glyphColumnsWrong)

/-- 'copyistlaw2.GlyphJoin': WHATEVER THE INPUT: true; the input reads as it did. -/
def glyphJoinSpec : ChangeSpec := { name := "glyphJoin", fn := fun _ => fun
  | [d] => { results := [.lit (.bool true)], args := [d] }
  | _ => none }
def glyphJoinRow : OpenClaim := { program := "ytiaennaoedikeaa", sum := "b2cb6ff484e597cb151b4d01ee604b34cfcd81de8b1192d05b9fd62b42e1f8b6", func := "copyist/copyistlaw2.GlyphJoin", spec := "glyphJoin", apart := false }
def GlyphJoinSaid : Prop := glyphJoinRow.holds Try.pinned (OpenSpec.ofChange glyphJoinSpec)

/-- ITS FALSE NEIGHBOUR: 'it returns false'. Refute it at one input. -/
def glyphJoinWrong : ChangeSpec := { name := "glyphJoin", fn := fun _ => fun
  | [d] => { results := [.lit (.bool false)], args := [d] }
  | _ => none }
def GlyphJoinWrongFalsely : Prop := glyphJoinRow.holds Try.pinned (OpenSpec.ofChange glyphJoinWrong)

/- THE SECOND FORM. 'bulk': how many values and letters a reading holds, each counted each time it is reached (what is shared counts as often as it is met; a slice's spare places count too). A statement '..UptoSaid' is the law's where the arguments, and the package variables that the reading takes, are together of bulk at most 1048576: NARROWER than '..Said'. Prove '..Said' where nothing that the law and all that it calls make is longer than what came in: it says more and counts as full. Else prove '..UptoSaid'. A law counts once. -/
mutual
def uptoBulk {H : Type} : DataW H → Nat
  | .lit (.string bytes) => bytes.length + 1
  | .lit _ => 1
  | .nil => 1
  | .ptr d => uptoBulk d + 1
  | .slice elems spare => uptoBulkAll elems + uptoBulkAll spare + 1
  | .agg parts => uptoBulkAll parts + 1
  | .iface _ d => uptoBulk d + 1
  | .map entries => uptoBulkEntries entries + 1
  | .held _ => 1
def uptoBulkAll {H : Type} : List (DataW H) → Nat
  | [] => 0
  | d :: r => uptoBulk d + uptoBulkAll r
def uptoBulkEntries {H : Type} : List (Lit × DataW H) → Nat
  | [] => 0
  | x :: r => uptoBulkEntry x + uptoBulkEntries r
def uptoBulkEntry {H : Type} : Lit × DataW H → Nat
  | (.string bytes, d) => bytes.length + uptoBulk d + 1
  | (_, d) => uptoBulk d + 1
 end
def uptoSmall : (H : Type) → List (DataW H) → Bool := fun _ ds => decide (uptoBulkAll ds ≤ 1048576)
def OpenSpec.upto (s : _root_.Go.ChangeSpec) : _root_.Go.OpenSpec := { _root_.Go.OpenSpec.ofChange s with cond := some uptoSmall }

/-- 'copyistlaw2.GlyphSyllable', WHERE WHAT IT READS IS OF BULK AT MOST 1048576: true; the input reads as it did. -/
def glyphSyllableUptoRow : OpenClaim := { program := "ytiaennaoedikeaa", sum := "b2cb6ff484e597cb151b4d01ee604b34cfcd81de8b1192d05b9fd62b42e1f8b6", func := "copyist/copyistlaw2.GlyphSyllable", spec := "glyphSyllable", apart := false, narrowed := true }
def GlyphSyllableUptoSaid : Prop := glyphSyllableUptoRow.holds Try.pinned (OpenSpec.upto glyphSyllableSpec)

/-- 'copyistlaw2.GlyphColumns', WHERE WHAT IT READS IS OF BULK AT MOST 1048576: true; the input reads as it did. -/
def glyphColumnsUptoRow : OpenClaim := { program := "ytiaennaoedikeaa", sum := "b2cb6ff484e597cb151b4d01ee604b34cfcd81de8b1192d05b9fd62b42e1f8b6", func := "copyist/copyistlaw2.GlyphColumns", spec := "glyphColumns", apart := false, narrowed := true }
def GlyphColumnsUptoSaid : Prop := glyphColumnsUptoRow.holds Try.pinned (OpenSpec.upto glyphColumnsSpec)

/-- 'copyistlaw2.GlyphJoin', WHERE WHAT IT READS IS OF BULK AT MOST 1048576: true; the input reads as it did. -/
def glyphJoinUptoRow : OpenClaim := { program := "ytiaennaoedikeaa", sum := "b2cb6ff484e597cb151b4d01ee604b34cfcd81de8b1192d05b9fd62b42e1f8b6", func := "copyist/copyistlaw2.GlyphJoin", spec := "glyphJoin", apart := false, narrowed := true }
def GlyphJoinUptoSaid : Prop := glyphJoinUptoRow.holds Try.pinned (OpenSpec.upto glyphJoinSpec)

end Rows
end Go.Proofs.Ytiaennaoedikeaa
