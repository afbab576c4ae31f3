/-
  No cell of these rows narrows 'for every input' (looked for: loops, veiled, ifaces, maps, wideKeys, modest, calm, conditions, laid).
  DERIVED. THE GIVEN ROWS OF THIS SEAT. 9 by the template 'for every input the law returns true; each argument reads behind the call as it read before'; 0 by the template 'total and deterministic' (their statements: YtpipcmbfdcbboaaTotals.lean).
  GIVEN WITH THE SEED: the statements are not yours to turn. If you find one false, say at which input.
  Laid BY PROGRAM, IN A SANDBOX (cutbox-rows.mjs): the forced cells as the released guide's own fill.sh prints them over the translation f7896b92d9bd7a67… (all of the seat's roots in one cut). By AI agents, Wed Nov 11 2026. No macro, syntax, notation, axiom, sorry.
-/
import Derived.Test.YtpipcmbfdcbboaaChecked
import GoSem.Claim
import GoSem.ClaimJoined
import GoSem.ClaimMapViews
import Derived.JoinedTies
import Derived.KernelRfl
namespace Go.Proofs.Ytpipcmbfdcbboaa
/- THE CELL 'sum', in the pinned program and in every row, IS THE sha256 OF THE DUMP (.gsa) THAT YtpipcmbfdcbboaaProg.lean LOADS. Nothing in Lean hashes anything: it is a label: what it is worth is what the hold of that sum in a sandbox is worth. -/
noncomputable def Try.pinned : Pinned := { name := "ytpipcmbfdcbboaa", sum := "f7896b92d9bd7a6773f4cf05d256a2142108792c0f04b6ff614b02b687bb657d", checked := Try.checked }
namespace Rows
def none {H : Type} : Left H := { results := [], args := [] }

/-- 'copyistlaw3.ClusterBreaks': WHATEVER THE INPUT: true; the input reads as it did. -/
def clusterBreaksSpec : ChangeSpec := { name := "clusterBreaks", fn := fun _ => fun
  | [d] => { results := [.lit (.bool true)], args := [d] }
  | _ => none }
def clusterBreaksRow : OpenClaim := { program := "ytpipcmbfdcbboaa", sum := "f7896b92d9bd7a6773f4cf05d256a2142108792c0f04b6ff614b02b687bb657d", func := "copyist/copyistlaw3.ClusterBreaks", spec := "clusterBreaks", unfollowed := true, recurses := true, apart := false }
def ClusterBreaksSaid : Prop := clusterBreaksRow.holds Try.pinned (OpenSpec.ofChange clusterBreaksSpec)

/-- ITS FALSE NEIGHBOUR: 'it returns false'. Refute it at one input. -/
def clusterBreaksWrong : ChangeSpec := { name := "clusterBreaks", fn := fun _ => fun
  | [d] => { results := [.lit (.bool false)], args := [d] }
  | _ => none }
def ClusterBreaksWrongFalsely : Prop := clusterBreaksRow.holds Try.pinned (OpenSpec.ofChange clusterBreaksWrong)

/-- 'copyistlaw3.ClusterAhead': WHATEVER THE INPUT: true; the input reads as it did. -/
def clusterAheadSpec : ChangeSpec := { name := "clusterAhead", fn := fun _ => fun
  | [d1, d2, d3] => { results := [.lit (.bool true)], args := [d1, d2, d3] }
  | _ => none }
def clusterAheadRow : OpenClaim := { program := "ytpipcmbfdcbboaa", sum := "f7896b92d9bd7a6773f4cf05d256a2142108792c0f04b6ff614b02b687bb657d", func := "copyist/copyistlaw3.ClusterAhead", spec := "clusterAhead", unfollowed := true, recurses := true, apart := false }
def ClusterAheadSaid : Prop := clusterAheadRow.holds Try.pinned (OpenSpec.ofChange clusterAheadSpec)

/-- ITS FALSE NEIGHBOUR: 'it returns false'. Refute it at one input. -/
def clusterAheadWrong : ChangeSpec := { name := "clusterAhead", fn := fun _ => fun
  | [d1, d2, d3] => { results := [.lit (.bool false)], args := [d1, d2, d3] }
  | _ => none }
def ClusterAheadWrongFalsely : Prop := clusterAheadRow.holds Try.pinned (OpenSpec.ofChange clusterAheadWrong)

/-- 'copyistlaw3.ClusterLines': WHATEVER THE INPUT: true; the input reads as it did. -/
def clusterLinesSpec : ChangeSpec := { name := "clusterLines", fn := fun _ => fun
  | [d1, d2] => { results := [.lit (.bool true)], args := [d1, d2] }
  | _ => none }
def clusterLinesRow : OpenClaim := { program := "ytpipcmbfdcbboaa", sum := "f7896b92d9bd7a6773f4cf05d256a2142108792c0f04b6ff614b02b687bb657d", func := "copyist/copyistlaw3.ClusterLines", spec := "clusterLines", unfollowed := true, recurses := true, apart := false }
def ClusterLinesSaid : Prop := clusterLinesRow.holds Try.pinned (OpenSpec.ofChange clusterLinesSpec)

/-- ITS FALSE NEIGHBOUR: 'it returns false'. Refute it at one input. -/
def clusterLinesWrong : ChangeSpec := { name := "clusterLines", fn := fun _ => fun
  | [d1, d2] => { results := [.lit (.bool false)], args := [d1, d2] }
  | _ => none }
def ClusterLinesWrongFalsely : Prop := clusterLinesRow.holds Try.pinned (OpenSpec.ofChange clusterLinesWrong)

/-- 'copyistlaw3.ClusterCut': WHATEVER THE INPUT: true; the input reads as it did. -/
def clusterCutSpec : ChangeSpec := { name := "clusterCut", fn := fun _ => fun
  | [d1, d2] => { results := [.lit (.bool true)], args := [d1, d2] }
  | _ => none }
def clusterCutRow : OpenClaim := { program := "ytpipcmbfdcbboaa", sum := "f7896b92d9bd7a6773f4cf05d256a2142108792c0f04b6ff614b02b687bb657d", func := "copyist/copyistlaw3.ClusterCut", spec := "clusterCut", unfollowed := true, recurses := true, apart := false }
def ClusterCutSaid : Prop := clusterCutRow.holds Try.pinned (OpenSpec.ofChange clusterCutSpec)

/-- ITS FALSE NEIGHBOUR: 'it returns false'. Refute it at one input. -/
def clusterCutWrong : ChangeSpec := { name := "clusterCut", fn := fun _ => fun
  | [d1, d2] => { results := [.lit (.bool false)], args := [d1, d2] }
  | _ => none }
def ClusterCutWrongFalsely : Prop := clusterCutRow.holds Try.pinned (OpenSpec.ofChange clusterCutWrong)

/-- 'copyistlaw3.ClusterMeant': WHATEVER THE INPUT: true; the input reads as it did. -/
def clusterMeantSpec : ChangeSpec := { name := "clusterMeant", fn := fun _ => fun
  | [d1, d2, d3, d4] => { results := [.lit (.bool true)], args := [d1, d2, d3, d4] }
  | _ => none }
def clusterMeantRow : OpenClaim := { program := "ytpipcmbfdcbboaa", sum := "f7896b92d9bd7a6773f4cf05d256a2142108792c0f04b6ff614b02b687bb657d", func := "copyist/copyistlaw3.ClusterMeant", spec := "clusterMeant", unfollowed := true, recurses := true, apart := false }
def ClusterMeantSaid : Prop := clusterMeantRow.holds Try.pinned (OpenSpec.ofChange clusterMeantSpec)

/-- ITS FALSE NEIGHBOUR: 'it returns false'. Refute it at one input. -/
def clusterMeantWrong : ChangeSpec := { name := "clusterMeant", fn := fun _ => fun
  | [d1, d2, d3, d4] => { results := [.lit (.bool false)], args := [d1, d2, d3, d4] }
  | _ => none }
def ClusterMeantWrongFalsely : Prop := clusterMeantRow.holds Try.pinned (OpenSpec.ofChange clusterMeantWrong)

/-- 'copyistlaw3.ClusterColumnsBack': WHATEVER THE INPUT: true; the input reads as it did. -/
def clusterColumnsBackSpec : ChangeSpec := { name := "clusterColumnsBack", fn := fun _ => fun
  | [d1, d2, d3] => { results := [.lit (.bool true)], args := [d1, d2, d3] }
  | _ => none }
def clusterColumnsBackRow : OpenClaim := { program := "ytpipcmbfdcbboaa", sum := "f7896b92d9bd7a6773f4cf05d256a2142108792c0f04b6ff614b02b687bb657d", func := "copyist/copyistlaw3.ClusterColumnsBack", spec := "clusterColumnsBack", unfollowed := true, recurses := true, apart := false }
def ClusterColumnsBackSaid : Prop := clusterColumnsBackRow.holds Try.pinned (OpenSpec.ofChange clusterColumnsBackSpec)

/-- ITS FALSE NEIGHBOUR: 'it returns false'. Refute it at one input. -/
def clusterColumnsBackWrong : ChangeSpec := { name := "clusterColumnsBack", fn := fun _ => fun
  | [d1, d2, d3] => { results := [.lit (.bool false)], args := [d1, d2, d3] }
  | _ => none }
def ClusterColumnsBackWrongFalsely : Prop := clusterColumnsBackRow.holds Try.pinned (OpenSpec.ofChange clusterColumnsBackWrong)

/-- 'copyistlaw3.ClusterWalk': WHATEVER THE INPUT: true; the input reads as it did. -/
def clusterWalkSpec : ChangeSpec := { name := "clusterWalk", fn := fun _ => fun
  | [d] => { results := [.lit (.bool true)], args := [d] }
  | _ => none }
def clusterWalkRow : OpenClaim := { program := "ytpipcmbfdcbboaa", sum := "f7896b92d9bd7a6773f4cf05d256a2142108792c0f04b6ff614b02b687bb657d", func := "copyist/copyistlaw3.ClusterWalk", spec := "clusterWalk", unfollowed := true, recurses := true, apart := false }
def ClusterWalkSaid : Prop := clusterWalkRow.holds Try.pinned (OpenSpec.ofChange clusterWalkSpec)

/-- ITS FALSE NEIGHBOUR: 'it returns false'. Refute it at one input. -/
def clusterWalkWrong : ChangeSpec := { name := "clusterWalk", fn := fun _ => fun
  | [d] => { results := [.lit (.bool false)], args := [d] }
  | _ => none }
def ClusterWalkWrongFalsely : Prop := clusterWalkRow.holds Try.pinned (OpenSpec.ofChange clusterWalkWrong)

/-- 'copyistlaw3.ClusterAll': WHATEVER THE INPUT: true; the input reads as it did. -/
def clusterAllSpec : ChangeSpec := { name := "clusterAll", fn := fun _ => fun
  | [d] => { results := [.lit (.bool true)], args := [d] }
  | _ => none }
def clusterAllRow : OpenClaim := { program := "ytpipcmbfdcbboaa", sum := "f7896b92d9bd7a6773f4cf05d256a2142108792c0f04b6ff614b02b687bb657d", func := "copyist/copyistlaw3.ClusterAll", spec := "clusterAll", unfollowed := true, recurses := true, apart := false }
def ClusterAllSaid : Prop := clusterAllRow.holds Try.pinned (OpenSpec.ofChange clusterAllSpec)

/-- ITS FALSE NEIGHBOUR: 'it returns false'. Refute it at one input. -/
def clusterAllWrong : ChangeSpec := { name := "clusterAll", fn := fun _ => fun
  | [d] => { results := [.lit (.bool false)], args := [d] }
  | _ => none }
def ClusterAllWrongFalsely : Prop := clusterAllRow.holds Try.pinned (OpenSpec.ofChange clusterAllWrong)

/-- 'copyistlaw3.ClusterKept': WHATEVER THE INPUT: true; the input reads as it did. -/
def clusterKeptSpec : ChangeSpec := { name := "clusterKept", fn := fun _ => fun
  | [d1, d2] => { results := [.lit (.bool true)], args := [d1, d2] }
  | _ => none }
def clusterKeptRow : OpenClaim := { program := "ytpipcmbfdcbboaa", sum := "f7896b92d9bd7a6773f4cf05d256a2142108792c0f04b6ff614b02b687bb657d", func := "copyist/copyistlaw3.ClusterKept", spec := "clusterKept", unfollowed := true, recurses := true, apart := false }
def ClusterKeptSaid : Prop := clusterKeptRow.holds Try.pinned (OpenSpec.ofChange clusterKeptSpec)

/-- ITS FALSE NEIGHBOUR: 'it returns false'. Refute it at one input. -/
def clusterKeptWrong : ChangeSpec := { name := "clusterKept", fn := fun _ => fun
  | [d1, d2] => { results := [.lit (.bool false)], args := [d1, d2] }
  | _ => none }
def ClusterKeptWrongFalsely : Prop := clusterKeptRow.holds Try.pinned (OpenSpec.ofChange clusterKeptWrong)

/- THE SECOND FORM. 'bulk': how many values and letters a reading holds, each counted each time it is reached (what is shared counts as often as it is met; a slice's spare places count too). A statement '..UptoSaid' is the law's where the arguments, and the package variables that the reading takes, are together of bulk at most 1048576: NARROWER than '..Said'. Prove '..Said' where nothing that the law and all that it calls make is longer than what came in: it says more and counts as full. Else prove '..UptoSaid'. A law counts once. -/
mutual
def uptoBulk {H : Type} : DataW H → Nat
  | .lit (.string bytes) => bytes.length + 1
  | .lit _ => 1
  | .nil => 1
  | .ptr d => uptoBulk d + 1
  | .slice elems spare => uptoBulkAll elems + uptoBulkAll spare + 1
  | .agg parts => uptoBulkAll parts + 1
  | .iface _ d => uptoBulk d + 1
  | .map entries => uptoBulkEntries entries + 1
  | .held _ => 1
def uptoBulkAll {H : Type} : List (DataW H) → Nat
  | [] => 0
  | d :: r => uptoBulk d + uptoBulkAll r
def uptoBulkEntries {H : Type} : List (Lit × DataW H) → Nat
  | [] => 0
  | x :: r => uptoBulkEntry x + uptoBulkEntries r
def uptoBulkEntry {H : Type} : Lit × DataW H → Nat
  | (.string bytes, d) => bytes.length + uptoBulk d + 1
  | (_, d) => uptoBulk d + 1
 end
def uptoSmall : (H : Type) → List (DataW H) → Bool := fun _ ds => decide (uptoBulkAll ds ≤ 1048576)
def OpenSpec.upto (s : _root_.Go.ChangeSpec) : _root_.Go.OpenSpec := { _root_.Go.OpenSpec.ofChange s with cond := some uptoSmall }

/-- 'copyistlaw3.ClusterBreaks', WHERE WHAT IT READS IS OF BULK AT MOST 1048576: true; the input reads as it did. -/
def clusterBreaksUptoRow : OpenClaim := { program := "ytpipcmbfdcbboaa", sum := "f7896b92d9bd7a6773f4cf05d256a2142108792c0f04b6ff614b02b687bb657d", func := "copyist/copyistlaw3.ClusterBreaks", spec := "clusterBreaks", unfollowed := true, recurses := true, apart := false, narrowed := true }
def ClusterBreaksUptoSaid : Prop := clusterBreaksUptoRow.holds Try.pinned (OpenSpec.upto clusterBreaksSpec)

/-- 'copyistlaw3.ClusterAhead', WHERE WHAT IT READS IS OF BULK AT MOST 1048576: true; the input reads as it did. -/
def clusterAheadUptoRow : OpenClaim := { program := "ytpipcmbfdcbboaa", sum := "f7896b92d9bd7a6773f4cf05d256a2142108792c0f04b6ff614b02b687bb657d", func := "copyist/copyistlaw3.ClusterAhead", spec := "clusterAhead", unfollowed := true, recurses := true, apart := false, narrowed := true }
def ClusterAheadUptoSaid : Prop := clusterAheadUptoRow.holds Try.pinned (OpenSpec.upto clusterAheadSpec)

/-- 'copyistlaw3.ClusterLines', WHERE WHAT IT READS IS OF BULK AT MOST 1048576: true; the input reads as it did. -/
def clusterLinesUptoRow : OpenClaim := { program := "ytpipcmbfdcbboaa", sum := "f7896b92d9bd7a6773f4cf05d256a2142108792c0f04b6ff614b02b687bb657d", func := "copyist/copyistlaw3.ClusterLines", spec := "clusterLines", unfollowed := true, recurses := true, apart := false, narrowed := true }
def ClusterLinesUptoSaid : Prop := clusterLinesUptoRow.holds Try.pinned (OpenSpec.upto clusterLinesSpec)

/-- 'copyistlaw3.ClusterCut', WHERE WHAT IT READS IS OF BULK AT MOST 1048576: true; the input reads as it did. -/
def clusterCutUptoRow : OpenClaim := { program := "ytpipcmbfdcbboaa", sum := "f7896b92d9bd7a6773f4cf05d256a2142108792c0f04b6ff614b02b687bb657d", func := "copyist/copyistlaw3.ClusterCut", spec := "clusterCut", unfollowed := true, recurses := true, apart := false, narrowed := true }
def ClusterCutUptoSaid : Prop := clusterCutUptoRow.holds Try.pinned (OpenSpec.upto clusterCutSpec)

/-- 'copyistlaw3.ClusterMeant', WHERE WHAT IT READS IS OF BULK AT MOST 1048576: true; the input reads as it did. -/
def clusterMeantUptoRow : OpenClaim := { program := "ytpipcmbfdcbboaa", sum := "f7896b92d9bd7a6773f4cf05d256a2142108792c0f04b6ff614b02b687bb657d", func := "copyist/copyistlaw3.ClusterMeant", spec := "clusterMeant", unfollowed := true, recurses := true, apart := false, narrowed := true }
def ClusterMeantUptoSaid : Prop := clusterMeantUptoRow.holds Try.pinned (OpenSpec.upto clusterMeantSpec)

/-- 'copyistlaw3.ClusterColumnsBack', WHERE WHAT IT READS IS OF BULK AT MOST 1048576: true; the input reads as it did. -/
def clusterColumnsBackUptoRow : OpenClaim := { program := "ytpipcmbfdcbboaa", sum := "f7896b92d9bd7a6773f4cf05d256a2142108792c0f04b6ff614b02b687bb657d", func := "copyist/copyistlaw3.ClusterColumnsBack", spec := "clusterColumnsBack", unfollowed := true, recurses := true, apart := false, narrowed := true }
def ClusterColumnsBackUptoSaid : Prop := clusterColumnsBackUptoRow.holds Try.pinned (OpenSpec.upto clusterColumnsBackSpec)

/-- 'copyistlaw3.ClusterWalk', WHERE WHAT IT READS IS OF BULK AT MOST 1048576: true; the input reads as it did. -/
def clusterWalkUptoRow : OpenClaim := { program := "ytpipcmbfdcbboaa", sum := "f7896b92d9bd7a6773f4cf05d256a2142108792c0f04b6ff614b02b687bb657d", func := "copyist/copyistlaw3.ClusterWalk", spec := "clusterWalk", unfollowed := true, recurses := true, apart := false, narrowed := true }
def ClusterWalkUptoSaid : Prop := clusterWalkUptoRow.holds Try.pinned (OpenSpec.upto clusterWalkSpec)

/-- 'copyistlaw3.ClusterAll', WHERE WHAT IT READS IS OF BULK AT MOST 1048576: true; the input reads as it did. -/
def clusterAllUptoRow : OpenClaim := { program := "ytpipcmbfdcbboaa", sum := "f7896b92d9bd7a6773f4cf05d256a2142108792c0f04b6ff614b02b687bb657d", func := "copyist/copyistlaw3.ClusterAll", spec := "clusterAll", unfollowed := true, recurses := true, apart := false, narrowed := true }
def ClusterAllUptoSaid : Prop := clusterAllUptoRow.holds Try.pinned (OpenSpec.upto clusterAllSpec)

/-- 'copyistlaw3.ClusterKept', WHERE WHAT IT READS IS OF BULK AT MOST 1048576: true; the input reads as it did. -/
def clusterKeptUptoRow : OpenClaim := { program := "ytpipcmbfdcbboaa", sum := "f7896b92d9bd7a6773f4cf05d256a2142108792c0f04b6ff614b02b687bb657d", func := "copyist/copyistlaw3.ClusterKept", spec := "clusterKept", unfollowed := true, recurses := true, apart := false, narrowed := true }
def ClusterKeptUptoSaid : Prop := clusterKeptUptoRow.holds Try.pinned (OpenSpec.upto clusterKeptSpec)

end Rows
end Go.Proofs.Ytpipcmbfdcbboaa
