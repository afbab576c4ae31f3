/-
  No cell of these rows narrows 'for every input' (looked for: loops, veiled, ifaces, maps, wideKeys, modest, calm, conditions, laid).
  DERIVED. THE GIVEN ROWS OF THIS SEAT. 9 by the template 'for every input the law returns true; each argument reads behind the call as it read before'; 0 by the template 'total and deterministic' (their statements: YtampjndfhpjheaaTotals.lean).
  GIVEN WITH THE SEED: the statements are not yours to turn. If you find one false, say at which input.
  Laid BY PROGRAM, IN A SANDBOX (cutbox-rows.mjs): the forced cells as the released guide's own fill.sh prints them over the translation 189849c9c861a630… (all of the seat's roots in one cut). By AI agents, Wed Nov 11 2026. No macro, syntax, notation, axiom, sorry.
-/
import Derived.Test.YtampjndfhpjheaaChecked
import GoSem.Claim
import GoSem.ClaimJoined
import GoSem.ClaimMapViews
import Derived.JoinedTies
import Derived.KernelRfl
namespace Go.Proofs.Ytampjndfhpjheaa
/- THE CELL 'sum', in the pinned program and in every row, IS THE sha256 OF THE DUMP (.gsa) THAT YtampjndfhpjheaaProg.lean LOADS. Nothing in Lean hashes anything: it is a label: what it is worth is what the hold of that sum in a sandbox is worth. -/
noncomputable def Try.pinned : Pinned := { name := "ytampjndfhpjheaa", sum := "189849c9c861a6308e55f46f69495315682b6f351af233662e604e5382d1d008", checked := Try.checked }
namespace Rows
def none {H : Type} : Left H := { results := [], args := [] }

/-- 'copyistlaw13.KeysTrie': WHATEVER THE INPUT: true; the input reads as it did. -/
def keysTrieSpec : ChangeSpec := { name := "keysTrie", fn := fun _ => fun
  | [d] => { results := [.lit (.bool true)], args := [d] }
  | _ => none }
def keysTrieRow : OpenClaim := { program := "ytampjndfhpjheaa", sum := "189849c9c861a6308e55f46f69495315682b6f351af233662e604e5382d1d008", func := "copyist/copyistlaw13.KeysTrie", spec := "keysTrie", apart := false }
def KeysTrieSaid : Prop := keysTrieRow.holds Try.pinned (OpenSpec.ofChange keysTrieSpec)

/-- ITS FALSE NEIGHBOUR: 'it returns false'. Refute it at one input. -/
def keysTrieWrong : ChangeSpec := { name := "keysTrie", fn := fun _ => fun
  | [d] => { results := [.lit (.bool false)], args := [d] }
  | _ => none }
def KeysTrieWrongFalsely : Prop := keysTrieRow.holds Try.pinned (OpenSpec.ofChange keysTrieWrong)

/-- 'copyistlaw13.KeysCount': WHATEVER THE INPUT: true; the input reads as it did. -/
def keysCountSpec : ChangeSpec := { name := "keysCount", fn := fun _ => fun
  | [d1, d2, d3, d4] => { results := [.lit (.bool true)], args := [d1, d2, d3, d4] }
  | _ => none }
def keysCountRow : OpenClaim := { program := "ytampjndfhpjheaa", sum := "189849c9c861a6308e55f46f69495315682b6f351af233662e604e5382d1d008", func := "copyist/copyistlaw13.KeysCount", spec := "keysCount", unfollowed := true, recurses := true, apart := false }
def KeysCountSaid : Prop := keysCountRow.holds Try.pinned (OpenSpec.ofChange keysCountSpec)

/-- ITS FALSE NEIGHBOUR: 'it returns false'. Refute it at one input. -/
def keysCountWrong : ChangeSpec := { name := "keysCount", fn := fun _ => fun
  | [d1, d2, d3, d4] => { results := [.lit (.bool false)], args := [d1, d2, d3, d4] }
  | _ => none }
def KeysCountWrongFalsely : Prop := keysCountRow.holds Try.pinned (OpenSpec.ofChange keysCountWrong)

/-- 'copyistlaw13.KeysSpell': WHATEVER THE INPUT: true; the input reads as it did. -/
def keysSpellSpec : ChangeSpec := { name := "keysSpell", fn := fun _ => fun
  | [d1, d2] => { results := [.lit (.bool true)], args := [d1, d2] }
  | _ => none }
def keysSpellRow : OpenClaim := { program := "ytampjndfhpjheaa", sum := "189849c9c861a6308e55f46f69495315682b6f351af233662e604e5382d1d008", func := "copyist/copyistlaw13.KeysSpell", spec := "keysSpell", unfollowed := true, recurses := true, apart := false }
def KeysSpellSaid : Prop := keysSpellRow.holds Try.pinned (OpenSpec.ofChange keysSpellSpec)

/-- ITS FALSE NEIGHBOUR: 'it returns false'. Refute it at one input. -/
def keysSpellWrong : ChangeSpec := { name := "keysSpell", fn := fun _ => fun
  | [d1, d2] => { results := [.lit (.bool false)], args := [d1, d2] }
  | _ => none }
def KeysSpellWrongFalsely : Prop := keysSpellRow.holds Try.pinned (OpenSpec.ofChange keysSpellWrong)

/-- 'copyistlaw13.KeysBack': WHATEVER THE INPUT: true; the input reads as it did. -/
def keysBackSpec : ChangeSpec := { name := "keysBack", fn := fun _ => fun
  | [d1, d2] => { results := [.lit (.bool true)], args := [d1, d2] }
  | _ => none }
def keysBackRow : OpenClaim := { program := "ytampjndfhpjheaa", sum := "189849c9c861a6308e55f46f69495315682b6f351af233662e604e5382d1d008", func := "copyist/copyistlaw13.KeysBack", spec := "keysBack", unfollowed := true, recurses := true, apart := false }
def KeysBackSaid : Prop := keysBackRow.holds Try.pinned (OpenSpec.ofChange keysBackSpec)

/-- ITS FALSE NEIGHBOUR: 'it returns false'. Refute it at one input. -/
def keysBackWrong : ChangeSpec := { name := "keysBack", fn := fun _ => fun
  | [d1, d2] => { results := [.lit (.bool false)], args := [d1, d2] }
  | _ => none }
def KeysBackWrongFalsely : Prop := keysBackRow.holds Try.pinned (OpenSpec.ofChange keysBackWrong)

/-- 'copyistlaw13.KeysLeast': WHATEVER THE INPUT: true; the input reads as it did. -/
def keysLeastSpec : ChangeSpec := { name := "keysLeast", fn := fun _ => fun
  | [d1, d2] => { results := [.lit (.bool true)], args := [d1, d2] }
  | _ => none }
def keysLeastRow : OpenClaim := { program := "ytampjndfhpjheaa", sum := "189849c9c861a6308e55f46f69495315682b6f351af233662e604e5382d1d008", func := "copyist/copyistlaw13.KeysLeast", spec := "keysLeast", unfollowed := true, recurses := true, apart := false }
def KeysLeastSaid : Prop := keysLeastRow.holds Try.pinned (OpenSpec.ofChange keysLeastSpec)

/-- ITS FALSE NEIGHBOUR: 'it returns false'. Refute it at one input. -/
def keysLeastWrong : ChangeSpec := { name := "keysLeast", fn := fun _ => fun
  | [d1, d2] => { results := [.lit (.bool false)], args := [d1, d2] }
  | _ => none }
def KeysLeastWrongFalsely : Prop := keysLeastRow.holds Try.pinned (OpenSpec.ofChange keysLeastWrong)

/-- 'copyistlaw13.KeysFeed': WHATEVER THE INPUT: true; the input reads as it did. -/
def keysFeedSpec : ChangeSpec := { name := "keysFeed", fn := fun _ => fun
  | [d] => { results := [.lit (.bool true)], args := [d] }
  | _ => none }
def keysFeedRow : OpenClaim := { program := "ytampjndfhpjheaa", sum := "189849c9c861a6308e55f46f69495315682b6f351af233662e604e5382d1d008", func := "copyist/copyistlaw13.KeysFeed", spec := "keysFeed", unfollowed := true, recurses := true, apart := false }
def KeysFeedSaid : Prop := keysFeedRow.holds Try.pinned (OpenSpec.ofChange keysFeedSpec)

/-- ITS FALSE NEIGHBOUR: 'it returns false'. Refute it at one input. -/
def keysFeedWrong : ChangeSpec := { name := "keysFeed", fn := fun _ => fun
  | [d] => { results := [.lit (.bool false)], args := [d] }
  | _ => none }
def KeysFeedWrongFalsely : Prop := keysFeedRow.holds Try.pinned (OpenSpec.ofChange keysFeedWrong)

/-- 'copyistlaw13.KeysAll': WHATEVER THE INPUT: true; the input reads as it did. -/
def keysAllSpec : ChangeSpec := { name := "keysAll", fn := fun _ => fun
  | [d] => { results := [.lit (.bool true)], args := [d] }
  | _ => none }
def keysAllRow : OpenClaim := { program := "ytampjndfhpjheaa", sum := "189849c9c861a6308e55f46f69495315682b6f351af233662e604e5382d1d008", func := "copyist/copyistlaw13.KeysAll", spec := "keysAll", unfollowed := true, recurses := true, apart := false }
def KeysAllSaid : Prop := keysAllRow.holds Try.pinned (OpenSpec.ofChange keysAllSpec)

/-- ITS FALSE NEIGHBOUR: 'it returns false'. Refute it at one input. -/
def keysAllWrong : ChangeSpec := { name := "keysAll", fn := fun _ => fun
  | [d] => { results := [.lit (.bool false)], args := [d] }
  | _ => none }
def KeysAllWrongFalsely : Prop := keysAllRow.holds Try.pinned (OpenSpec.ofChange keysAllWrong)

/-- 'copyistlaw13.KeysUnbound': WHATEVER THE INPUT: true; the input reads as it did. -/
def keysUnboundSpec : ChangeSpec := { name := "keysUnbound", fn := fun _ => fun
  | [d1, d2, d3] => { results := [.lit (.bool true)], args := [d1, d2, d3] }
  | _ => none }
def keysUnboundRow : OpenClaim := { program := "ytampjndfhpjheaa", sum := "189849c9c861a6308e55f46f69495315682b6f351af233662e604e5382d1d008", func := "copyist/copyistlaw13.KeysUnbound", spec := "keysUnbound", unfollowed := true, recurses := true, apart := false }
def KeysUnboundSaid : Prop := keysUnboundRow.holds Try.pinned (OpenSpec.ofChange keysUnboundSpec)

/-- ITS FALSE NEIGHBOUR: 'it returns false'. Refute it at one input. -/
def keysUnboundWrong : ChangeSpec := { name := "keysUnbound", fn := fun _ => fun
  | [d1, d2, d3] => { results := [.lit (.bool false)], args := [d1, d2, d3] }
  | _ => none }
def KeysUnboundWrongFalsely : Prop := keysUnboundRow.holds Try.pinned (OpenSpec.ofChange keysUnboundWrong)

/-- 'copyistlaw13.KeysFresh': WHATEVER THE INPUT: true; the input reads as it did. -/
def keysFreshSpec : ChangeSpec := { name := "keysFresh", fn := fun _ => fun
  | [d1, d2, d3] => { results := [.lit (.bool true)], args := [d1, d2, d3] }
  | _ => none }
def keysFreshRow : OpenClaim := { program := "ytampjndfhpjheaa", sum := "189849c9c861a6308e55f46f69495315682b6f351af233662e604e5382d1d008", func := "copyist/copyistlaw13.KeysFresh", spec := "keysFresh", unfollowed := true, recurses := true, apart := false }
def KeysFreshSaid : Prop := keysFreshRow.holds Try.pinned (OpenSpec.ofChange keysFreshSpec)

/-- ITS FALSE NEIGHBOUR: 'it returns false'. Refute it at one input. -/
def keysFreshWrong : ChangeSpec := { name := "keysFresh", fn := fun _ => fun
  | [d1, d2, d3] => { results := [.lit (.bool false)], args := [d1, d2, d3] }
  | _ => none }
def KeysFreshWrongFalsely : Prop := keysFreshRow.holds Try.pinned (OpenSpec.ofChange keysFreshWrong)

/- THE SECOND FORM. 'bulk': how many values and letters a reading holds, each counted each time it is reached (what is shared counts as often as it is met; a slice's spare places count too). A statement '..UptoSaid' is the law's where the arguments, and the package variables that the reading takes, are together of bulk at most 1048576: NARROWER than '..Said'. Prove '..Said' where nothing that the law and all that it calls make is longer than what came in: it says more and counts as full. Else prove '..UptoSaid'. A law counts once. -/
mutual
def uptoBulk {H : Type} : DataW H → Nat
  | .lit (.string bytes) => bytes.length + 1
  | .lit _ => 1
  | .nil => 1
  | .ptr d => uptoBulk d + 1
  | .slice elems spare => uptoBulkAll elems + uptoBulkAll spare + 1
  | .agg parts => uptoBulkAll parts + 1
  | .iface _ d => uptoBulk d + 1
  | .map entries => uptoBulkEntries entries + 1
  | .held _ => 1
def uptoBulkAll {H : Type} : List (DataW H) → Nat
  | [] => 0
  | d :: r => uptoBulk d + uptoBulkAll r
def uptoBulkEntries {H : Type} : List (Lit × DataW H) → Nat
  | [] => 0
  | x :: r => uptoBulkEntry x + uptoBulkEntries r
def uptoBulkEntry {H : Type} : Lit × DataW H → Nat
  | (.string bytes, d) => bytes.length + uptoBulk d + 1
  | (_, d) => uptoBulk d + 1
 end
def uptoSmall : (H : Type) → List (DataW H) → Bool := fun _ ds => decide (uptoBulkAll ds ≤ 1048576)
def OpenSpec.upto (s : _root_.Go.ChangeSpec) : _root_.Go.OpenSpec := { _root_.Go.OpenSpec.ofChange s with cond := some uptoSmall }

/-- 'copyistlaw13.KeysTrie', WHERE WHAT IT READS IS OF BULK AT MOST 1048576: true; the input reads as it did. -/
def keysTrieUptoRow : OpenClaim := { program := "ytampjndfhpjheaa", sum := "189849c9c861a6308e55f46f69495315682b6f351af233662e604e5382d1d008", func := "copyist/copyistlaw13.KeysTrie", spec := "keysTrie", apart := false, narrowed := true }
def KeysTrieUptoSaid : Prop := keysTrieUptoRow.holds Try.pinned (OpenSpec.upto keysTrieSpec)

/-- 'copyistlaw13.KeysCount', WHERE WHAT IT READS IS OF BULK AT MOST 1048576: true; the input reads as it did. -/
def keysCountUptoRow : OpenClaim := { program := "ytampjndfhpjheaa", sum := "189849c9c861a6308e55f46f69495315682b6f351af233662e604e5382d1d008", func := "copyist/copyistlaw13.KeysCount", spec := "keysCount", unfollowed := true, recurses := true, apart := false, narrowed := true }
def KeysCountUptoSaid : Prop := keysCountUptoRow.holds Try.pinned (OpenSpec.upto keysCountSpec)

/-- 'copyistlaw13.KeysSpell', WHERE WHAT IT READS IS OF BULK AT MOST 1048576: true; the input reads as it did. -/
def keysSpellUptoRow : OpenClaim := { program := "ytampjndfhpjheaa", sum := "189849c9c861a6308e55f46f69495315682b6f351af233662e604e5382d1d008", func := "copyist/copyistlaw13.KeysSpell", spec := "keysSpell", unfollowed := true, recurses := true, apart := false, narrowed := true }
def KeysSpellUptoSaid : Prop := keysSpellUptoRow.holds Try.pinned (OpenSpec.upto keysSpellSpec)

/-- 'copyistlaw13.KeysBack', WHERE WHAT IT READS IS OF BULK AT MOST 1048576: true; the input reads as it did. -/
def keysBackUptoRow : OpenClaim := { program := "ytampjndfhpjheaa", sum := "189849c9c861a6308e55f46f69495315682b6f351af233662e604e5382d1d008", func := "copyist/copyistlaw13.KeysBack", spec := "keysBack", unfollowed := true, recurses := true, apart := false, narrowed := true }
def KeysBackUptoSaid : Prop := keysBackUptoRow.holds Try.pinned (OpenSpec.upto keysBackSpec)

/-- 'copyistlaw13.KeysLeast', WHERE WHAT IT READS IS OF BULK AT MOST 1048576: true; the input reads as it did. -/
def keysLeastUptoRow : OpenClaim := { program := "ytampjndfhpjheaa", sum := "189849c9c861a6308e55f46f69495315682b6f351af233662e604e5382d1d008", func := "copyist/copyistlaw13.KeysLeast", spec := "keysLeast", unfollowed := true, recurses := true, apart := false, narrowed := true }
def KeysLeastUptoSaid : Prop := keysLeastUptoRow.holds Try.pinned (OpenSpec.upto keysLeastSpec)

/-- 'copyistlaw13.KeysFeed', WHERE WHAT IT READS IS OF BULK AT MOST 1048576: true; the input reads as it did. -/
def keysFeedUptoRow : OpenClaim := { program := "ytampjndfhpjheaa", sum := "189849c9c861a6308e55f46f69495315682b6f351af233662e604e5382d1d008", func := "copyist/copyistlaw13.KeysFeed", spec := "keysFeed", unfollowed := true, recurses := true, apart := false, narrowed := true }
def KeysFeedUptoSaid : Prop := keysFeedUptoRow.holds Try.pinned (OpenSpec.upto keysFeedSpec)

/-- 'copyistlaw13.KeysAll', WHERE WHAT IT READS IS OF BULK AT MOST 1048576: true; the input reads as it did. -/
def keysAllUptoRow : OpenClaim := { program := "ytampjndfhpjheaa", sum := "189849c9c861a6308e55f46f69495315682b6f351af233662e604e5382d1d008", func := "copyist/copyistlaw13.KeysAll", spec := "keysAll", unfollowed := true, recurses := true, apart := false, narrowed := true }
def KeysAllUptoSaid : Prop := keysAllUptoRow.holds Try.pinned (OpenSpec.upto keysAllSpec)

/-- 'copyistlaw13.KeysUnbound', WHERE WHAT IT READS IS OF BULK AT MOST 1048576: true; the input reads as it did. -/
def keysUnboundUptoRow : OpenClaim := { program := "ytampjndfhpjheaa", sum := "189849c9c861a6308e55f46f69495315682b6f351af233662e604e5382d1d008", func := "copyist/copyistlaw13.KeysUnbound", spec := "keysUnbound", unfollowed := true, recurses := true, apart := false, narrowed := true }
def KeysUnboundUptoSaid : Prop := keysUnboundUptoRow.holds Try.pinned (OpenSpec.upto keysUnboundSpec)

/-- 'copyistlaw13.KeysFresh', WHERE WHAT IT READS IS OF BULK AT MOST 1048576: true; the input reads as it did. -/
def keysFreshUptoRow : OpenClaim := { program := "ytampjndfhpjheaa", sum := "189849c9c861a6308e55f46f69495315682b6f351af233662e604e5382d1d008", func := "copyist/copyistlaw13.KeysFresh", spec := "keysFresh", unfollowed := true, recurses := true, apart := false, narrowed := true }
def KeysFreshUptoSaid : Prop := keysFreshUptoRow.holds Try.pinned (OpenSpec.upto keysFreshSpec)

end Rows
end Go.Proofs.Ytampjndfhpjheaa
