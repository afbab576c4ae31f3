/-
  No cell of these rows narrows 'for every input' (looked for: loops, veiled, ifaces, maps, wideKeys, modest, calm, conditions, laid).
  DERIVED. THE GIVEN ROWS OF THIS SEAT. 10 by the template 'for every input the law returns true; each argument reads behind the call as it read before'; 0 by the template 'total and deterministic' (their statements: YtplgpnmahblhbaaTotals.lean).
  GIVEN WITH THE SEED: the statements are not yours to turn. If you find one false, say at which input.
  Laid BY PROGRAM, IN A SANDBOX (cutbox-rows.mjs): the forced cells as the released guide's own fill.sh prints them over the translation afede00ca5390aeb… (all of the seat's roots in one cut). By AI agents, Wed Nov 11 2026. No macro, syntax, notation, axiom, sorry.
-/
import Derived.Test.YtplgpnmahblhbaaChecked
import GoSem.Claim
import GoSem.ClaimJoined
import GoSem.ClaimMapViews
import Derived.JoinedTies
import Derived.KernelRfl
namespace Go.Proofs.Ytplgpnmahblhbaa
/- THE CELL 'sum', in the pinned program and in every row, IS THE sha256 OF THE DUMP (.gsa) THAT YtplgpnmahblhbaaProg.lean LOADS. Nothing in Lean hashes anything: it is a label: what it is worth is what the hold of that sum in a sandbox is worth. -/
noncomputable def Try.pinned : Pinned := { name := "ytplgpnmahblhbaa", sum := "afede00ca5390aeb325559499b0a36deea7c463dde597c24df8306966541f3d0", checked := Try.checked }
namespace Rows
def none {H : Type} : Left H := { results := [], args := [] }

/-- 'copyistlaw14.ViewSeen': WHATEVER THE INPUT: true; the input reads as it did. -/
def viewSeenSpec : ChangeSpec := { name := "viewSeen", fn := fun _ => fun
  | [d1, d2, d3, d4] => { results := [.lit (.bool true)], args := [d1, d2, d3, d4] }
  | _ => none }
def viewSeenRow : OpenClaim := { program := "ytplgpnmahblhbaa", sum := "afede00ca5390aeb325559499b0a36deea7c463dde597c24df8306966541f3d0", func := "copyist/copyistlaw14.ViewSeen", spec := "viewSeen", unfollowed := true, recurses := true, apart := false }
def ViewSeenSaid : Prop := viewSeenRow.holds Try.pinned (OpenSpec.ofChange viewSeenSpec)

/-- ITS FALSE NEIGHBOUR: 'it returns false'. Refute it at one input. -/
def viewSeenWrong : ChangeSpec := { name := "viewSeen", fn := fun _ => fun
  | [d1, d2, d3, d4] => { results := [.lit (.bool false)], args := [d1, d2, d3, d4] }
  | _ => none }
def ViewSeenWrongFalsely : Prop := viewSeenRow.holds Try.pinned (OpenSpec.ofChange viewSeenWrong)

/-- 'copyistlaw14.ViewPercents': WHATEVER THE INPUT: true; the input reads as it did. -/
def viewPercentsSpec : ChangeSpec := { name := "viewPercents", fn := fun _ => fun
  | [d1, d2] => { results := [.lit (.bool true)], args := [d1, d2] }
  | _ => none }
def viewPercentsRow : OpenClaim := { program := "ytplgpnmahblhbaa", sum := "afede00ca5390aeb325559499b0a36deea7c463dde597c24df8306966541f3d0", func := "copyist/copyistlaw14.ViewPercents", spec := "viewPercents", unfollowed := true, recurses := true, apart := false }
def ViewPercentsSaid : Prop := viewPercentsRow.holds Try.pinned (OpenSpec.ofChange viewPercentsSpec)

/-- ITS FALSE NEIGHBOUR: 'it returns false'. Refute it at one input. -/
def viewPercentsWrong : ChangeSpec := { name := "viewPercents", fn := fun _ => fun
  | [d1, d2] => { results := [.lit (.bool false)], args := [d1, d2] }
  | _ => none }
def ViewPercentsWrongFalsely : Prop := viewPercentsRow.holds Try.pinned (OpenSpec.ofChange viewPercentsWrong)

/-- 'copyistlaw14.ViewRound': WHATEVER THE INPUT: true; the input reads as it did. -/
def viewRoundSpec : ChangeSpec := { name := "viewRound", fn := fun _ => fun
  | [d1, d2, d3, d4] => { results := [.lit (.bool true)], args := [d1, d2, d3, d4] }
  | _ => none }
def viewRoundRow : OpenClaim := { program := "ytplgpnmahblhbaa", sum := "afede00ca5390aeb325559499b0a36deea7c463dde597c24df8306966541f3d0", func := "copyist/copyistlaw14.ViewRound", spec := "viewRound", unfollowed := true, recurses := true, apart := false }
def ViewRoundSaid : Prop := viewRoundRow.holds Try.pinned (OpenSpec.ofChange viewRoundSpec)

/-- ITS FALSE NEIGHBOUR: 'it returns false'. Refute it at one input. -/
def viewRoundWrong : ChangeSpec := { name := "viewRound", fn := fun _ => fun
  | [d1, d2, d3, d4] => { results := [.lit (.bool false)], args := [d1, d2, d3, d4] }
  | _ => none }
def ViewRoundWrongFalsely : Prop := viewRoundRow.holds Try.pinned (OpenSpec.ofChange viewRoundWrong)

/-- 'copyistlaw14.ViewScrolled': WHATEVER THE INPUT: true; the input reads as it did. -/
def viewScrolledSpec : ChangeSpec := { name := "viewScrolled", fn := fun _ => fun
  | [d1, d2, d3, d4] => { results := [.lit (.bool true)], args := [d1, d2, d3, d4] }
  | _ => none }
def viewScrolledRow : OpenClaim := { program := "ytplgpnmahblhbaa", sum := "afede00ca5390aeb325559499b0a36deea7c463dde597c24df8306966541f3d0", func := "copyist/copyistlaw14.ViewScrolled", spec := "viewScrolled", unfollowed := true, recurses := true, apart := false }
def ViewScrolledSaid : Prop := viewScrolledRow.holds Try.pinned (OpenSpec.ofChange viewScrolledSpec)

/-- ITS FALSE NEIGHBOUR: 'it returns false'. Refute it at one input. -/
def viewScrolledWrong : ChangeSpec := { name := "viewScrolled", fn := fun _ => fun
  | [d1, d2, d3, d4] => { results := [.lit (.bool false)], args := [d1, d2, d3, d4] }
  | _ => none }
def ViewScrolledWrongFalsely : Prop := viewScrolledRow.holds Try.pinned (OpenSpec.ofChange viewScrolledWrong)

/-- 'copyistlaw14.ViewCover': WHATEVER THE INPUT: true; the input reads as it did. -/
def viewCoverSpec : ChangeSpec := { name := "viewCover", fn := fun _ => fun
  | [d] => { results := [.lit (.bool true)], args := [d] }
  | _ => none }
def viewCoverRow : OpenClaim := { program := "ytplgpnmahblhbaa", sum := "afede00ca5390aeb325559499b0a36deea7c463dde597c24df8306966541f3d0", func := "copyist/copyistlaw14.ViewCover", spec := "viewCover", unfollowed := true, recurses := true, apart := false }
def ViewCoverSaid : Prop := viewCoverRow.holds Try.pinned (OpenSpec.ofChange viewCoverSpec)

/-- ITS FALSE NEIGHBOUR: 'it returns false'. Refute it at one input. -/
def viewCoverWrong : ChangeSpec := { name := "viewCover", fn := fun _ => fun
  | [d] => { results := [.lit (.bool false)], args := [d] }
  | _ => none }
def ViewCoverWrongFalsely : Prop := viewCoverRow.holds Try.pinned (OpenSpec.ofChange viewCoverWrong)

/-- 'copyistlaw14.ViewWild': WHATEVER THE INPUT: true; the input reads as it did. -/
def viewWildSpec : ChangeSpec := { name := "viewWild", fn := fun _ => fun
  | [d1, d2, d3, d4] => { results := [.lit (.bool true)], args := [d1, d2, d3, d4] }
  | _ => none }
def viewWildRow : OpenClaim := { program := "ytplgpnmahblhbaa", sum := "afede00ca5390aeb325559499b0a36deea7c463dde597c24df8306966541f3d0", func := "copyist/copyistlaw14.ViewWild", spec := "viewWild", unfollowed := true, recurses := true, apart := false }
def ViewWildSaid : Prop := viewWildRow.holds Try.pinned (OpenSpec.ofChange viewWildSpec)

/-- ITS FALSE NEIGHBOUR: 'it returns false'. Refute it at one input. -/
def viewWildWrong : ChangeSpec := { name := "viewWild", fn := fun _ => fun
  | [d1, d2, d3, d4] => { results := [.lit (.bool false)], args := [d1, d2, d3, d4] }
  | _ => none }
def ViewWildWrongFalsely : Prop := viewWildRow.holds Try.pinned (OpenSpec.ofChange viewWildWrong)

/-- 'copyistlaw14.ViewLines': WHATEVER THE INPUT: true; the input reads as it did. -/
def viewLinesSpec : ChangeSpec := { name := "viewLines", fn := fun _ => fun
  | [d] => { results := [.lit (.bool true)], args := [d] }
  | _ => none }
def viewLinesRow : OpenClaim := { program := "ytplgpnmahblhbaa", sum := "afede00ca5390aeb325559499b0a36deea7c463dde597c24df8306966541f3d0", func := "copyist/copyistlaw14.ViewLines", spec := "viewLines", unfollowed := true, recurses := true, apart := false }
def ViewLinesSaid : Prop := viewLinesRow.holds Try.pinned (OpenSpec.ofChange viewLinesSpec)

/-- ITS FALSE NEIGHBOUR: 'it returns false'. Refute it at one input. -/
def viewLinesWrong : ChangeSpec := { name := "viewLines", fn := fun _ => fun
  | [d] => { results := [.lit (.bool false)], args := [d] }
  | _ => none }
def ViewLinesWrongFalsely : Prop := viewLinesRow.holds Try.pinned (OpenSpec.ofChange viewLinesWrong)

/-- 'copyistlaw14.ViewShares': WHATEVER THE INPUT: true; the input reads as it did. -/
def viewSharesSpec : ChangeSpec := { name := "viewShares", fn := fun _ => fun
  | [d] => { results := [.lit (.bool true)], args := [d] }
  | _ => none }
def viewSharesRow : OpenClaim := { program := "ytplgpnmahblhbaa", sum := "afede00ca5390aeb325559499b0a36deea7c463dde597c24df8306966541f3d0", func := "copyist/copyistlaw14.ViewShares", spec := "viewShares", unfollowed := true, recurses := true, apart := false }
def ViewSharesSaid : Prop := viewSharesRow.holds Try.pinned (OpenSpec.ofChange viewSharesSpec)

/-- ITS FALSE NEIGHBOUR: 'it returns false'. Refute it at one input. -/
def viewSharesWrong : ChangeSpec := { name := "viewShares", fn := fun _ => fun
  | [d] => { results := [.lit (.bool false)], args := [d] }
  | _ => none }
def ViewSharesWrongFalsely : Prop := viewSharesRow.holds Try.pinned (OpenSpec.ofChange viewSharesWrong)

/-- 'copyistlaw14.ViewCells': WHATEVER THE INPUT: true; the input reads as it did. -/
def viewCellsSpec : ChangeSpec := { name := "viewCells", fn := fun _ => fun
  | [d] => { results := [.lit (.bool true)], args := [d] }
  | _ => none }
def viewCellsRow : OpenClaim := { program := "ytplgpnmahblhbaa", sum := "afede00ca5390aeb325559499b0a36deea7c463dde597c24df8306966541f3d0", func := "copyist/copyistlaw14.ViewCells", spec := "viewCells", unfollowed := true, recurses := true, apart := false }
def ViewCellsSaid : Prop := viewCellsRow.holds Try.pinned (OpenSpec.ofChange viewCellsSpec)

/-- ITS FALSE NEIGHBOUR: 'it returns false'. Refute it at one input. -/
def viewCellsWrong : ChangeSpec := { name := "viewCells", fn := fun _ => fun
  | [d] => { results := [.lit (.bool false)], args := [d] }
  | _ => none }
def ViewCellsWrongFalsely : Prop := viewCellsRow.holds Try.pinned (OpenSpec.ofChange viewCellsWrong)

/-- 'copyistlaw14.ViewAll': WHATEVER THE INPUT: true; the input reads as it did. -/
def viewAllSpec : ChangeSpec := { name := "viewAll", fn := fun _ => fun
  | [d] => { results := [.lit (.bool true)], args := [d] }
  | _ => none }
def viewAllRow : OpenClaim := { program := "ytplgpnmahblhbaa", sum := "afede00ca5390aeb325559499b0a36deea7c463dde597c24df8306966541f3d0", func := "copyist/copyistlaw14.ViewAll", spec := "viewAll", unfollowed := true, recurses := true, apart := false }
def ViewAllSaid : Prop := viewAllRow.holds Try.pinned (OpenSpec.ofChange viewAllSpec)

/-- ITS FALSE NEIGHBOUR: 'it returns false'. Refute it at one input. -/
def viewAllWrong : ChangeSpec := { name := "viewAll", fn := fun _ => fun
  | [d] => { results := [.lit (.bool false)], args := [d] }
  | _ => none }
def ViewAllWrongFalsely : Prop := viewAllRow.holds Try.pinned (OpenSpec.ofChange viewAllWrong)

/- THE SECOND FORM. 'bulk': how many values and letters a reading holds, each counted each time it is reached (what is shared counts as often as it is met; a slice's spare places count too). A statement '..UptoSaid' is the law's where the arguments, and the package variables that the reading takes, are together of bulk at most 1048576: NARROWER than '..Said'. Prove '..Said' where nothing that the law and all that it calls make is longer than what came in: it says more and counts as full. Else prove '..UptoSaid'. A law counts once. -/
mutual
def uptoBulk {H : Type} : DataW H → Nat
  | .lit (.string bytes) => bytes.length + 1
  | .lit _ => 1
  | .nil => 1
  | .ptr d => uptoBulk d + 1
  | .slice elems spare => uptoBulkAll elems + uptoBulkAll spare + 1
  | .agg parts => uptoBulkAll parts + 1
  | .iface _ d => uptoBulk d + 1
  | .map entries => uptoBulkEntries entries + 1
  | .held _ => 1
def uptoBulkAll {H : Type} : List (DataW H) → Nat
  | [] => 0
  | d :: r => uptoBulk d + uptoBulkAll r
def uptoBulkEntries {H : Type} : List (Lit × DataW H) → Nat
  | [] => 0
  | x :: r => uptoBulkEntry x + uptoBulkEntries r
def uptoBulkEntry {H : Type} : Lit × DataW H → Nat
  | (.string bytes, d) => bytes.length + uptoBulk d + 1
  | (_, d) => uptoBulk d + 1
 end
def uptoSmall : (H : Type) → List (DataW H) → Bool := fun _ ds => decide (uptoBulkAll ds ≤ 1048576)
def OpenSpec.upto (s : _root_.Go.ChangeSpec) : _root_.Go.OpenSpec := { _root_.Go.OpenSpec.ofChange s with cond := some uptoSmall }

/-- 'copyistlaw14.ViewSeen', WHERE WHAT IT READS IS OF BULK AT MOST 1048576: true; the input reads as it did. -/
def viewSeenUptoRow : OpenClaim := { program := "ytplgpnmahblhbaa", sum := "afede00ca5390aeb325559499b0a36deea7c463dde597c24df8306966541f3d0", func := "copyist/copyistlaw14.ViewSeen", spec := "viewSeen", unfollowed := true, recurses := true, apart := false, narrowed := true }
def ViewSeenUptoSaid : Prop := viewSeenUptoRow.holds Try.pinned (OpenSpec.upto viewSeenSpec)

/-- 'copyistlaw14.ViewPercents', WHERE WHAT IT READS IS OF BULK AT MOST 1048576: true; the input reads as it did. -/
def viewPercentsUptoRow : OpenClaim := { program := "ytplgpnmahblhbaa", sum := "afede00ca5390aeb325559499b0a36deea7c463dde597c24df8306966541f3d0", func := "copyist/copyistlaw14.ViewPercents", spec := "viewPercents", unfollowed := true, recurses := true, apart := false, narrowed := true }
def ViewPercentsUptoSaid : Prop := viewPercentsUptoRow.holds Try.pinned (OpenSpec.upto viewPercentsSpec)

/-- 'copyistlaw14.ViewRound', WHERE WHAT IT READS IS OF BULK AT MOST 1048576: true; the input reads as it did. -/
def viewRoundUptoRow : OpenClaim := { program := "ytplgpnmahblhbaa", sum := "afede00ca5390aeb325559499b0a36deea7c463dde597c24df8306966541f3d0", func := "copyist/copyistlaw14.ViewRound", spec := "viewRound", unfollowed := true, recurses := true, apart := false, narrowed := true }
def ViewRoundUptoSaid : Prop := viewRoundUptoRow.holds Try.pinned (OpenSpec.upto viewRoundSpec)

/-- 'copyistlaw14.ViewScrolled', WHERE WHAT IT READS IS OF BULK AT MOST 1048576: true; the input reads as it did. -/
def viewScrolledUptoRow : OpenClaim := { program := "ytplgpnmahblhbaa", sum := "afede00ca5390aeb325559499b0a36deea7c463dde597c24df8306966541f3d0", func := "copyist/copyistlaw14.ViewScrolled", spec := "viewScrolled", unfollowed := true, recurses := true, apart := false, narrowed := true }
def ViewScrolledUptoSaid : Prop := viewScrolledUptoRow.holds Try.pinned (OpenSpec.upto viewScrolledSpec)

/-- 'copyistlaw14.ViewCover', WHERE WHAT IT READS IS OF BULK AT MOST 1048576: true; the input reads as it did. -/
def viewCoverUptoRow : OpenClaim := { program := "ytplgpnmahblhbaa", sum := "afede00ca5390aeb325559499b0a36deea7c463dde597c24df8306966541f3d0", func := "copyist/copyistlaw14.ViewCover", spec := "viewCover", unfollowed := true, recurses := true, apart := false, narrowed := true }
def ViewCoverUptoSaid : Prop := viewCoverUptoRow.holds Try.pinned (OpenSpec.upto viewCoverSpec)

/-- 'copyistlaw14.ViewWild', WHERE WHAT IT READS IS OF BULK AT MOST 1048576: true; the input reads as it did. -/
def viewWildUptoRow : OpenClaim := { program := "ytplgpnmahblhbaa", sum := "afede00ca5390aeb325559499b0a36deea7c463dde597c24df8306966541f3d0", func := "copyist/copyistlaw14.ViewWild", spec := "viewWild", unfollowed := true, recurses := true, apart := false, narrowed := true }
def ViewWildUptoSaid : Prop := viewWildUptoRow.holds Try.pinned (OpenSpec.upto viewWildSpec)

/-- 'copyistlaw14.ViewLines', WHERE WHAT IT READS IS OF BULK AT MOST 1048576: true; the input reads as it did. -/
def viewLinesUptoRow : OpenClaim := { program := "ytplgpnmahblhbaa", sum := "afede00ca5390aeb325559499b0a36deea7c463dde597c24df8306966541f3d0", func := "copyist/copyistlaw14.ViewLines", spec := "viewLines", unfollowed := true, recurses := true, apart := false, narrowed := true }
def ViewLinesUptoSaid : Prop := viewLinesUptoRow.holds Try.pinned (OpenSpec.upto viewLinesSpec)

/-- 'copyistlaw14.ViewShares', WHERE WHAT IT READS IS OF BULK AT MOST 1048576: true; the input reads as it did. -/
def viewSharesUptoRow : OpenClaim := { program := "ytplgpnmahblhbaa", sum := "afede00ca5390aeb325559499b0a36deea7c463dde597c24df8306966541f3d0", func := "copyist/copyistlaw14.ViewShares", spec := "viewShares", unfollowed := true, recurses := true, apart := false, narrowed := true }
def ViewSharesUptoSaid : Prop := viewSharesUptoRow.holds Try.pinned (OpenSpec.upto viewSharesSpec)

/-- 'copyistlaw14.ViewCells', WHERE WHAT IT READS IS OF BULK AT MOST 1048576: true; the input reads as it did. -/
def viewCellsUptoRow : OpenClaim := { program := "ytplgpnmahblhbaa", sum := "afede00ca5390aeb325559499b0a36deea7c463dde597c24df8306966541f3d0", func := "copyist/copyistlaw14.ViewCells", spec := "viewCells", unfollowed := true, recurses := true, apart := false, narrowed := true }
def ViewCellsUptoSaid : Prop := viewCellsUptoRow.holds Try.pinned (OpenSpec.upto viewCellsSpec)

/-- 'copyistlaw14.ViewAll', WHERE WHAT IT READS IS OF BULK AT MOST 1048576: true; the input reads as it did. -/
def viewAllUptoRow : OpenClaim := { program := "ytplgpnmahblhbaa", sum := "afede00ca5390aeb325559499b0a36deea7c463dde597c24df8306966541f3d0", func := "copyist/copyistlaw14.ViewAll", spec := "viewAll", unfollowed := true, recurses := true, apart := false, narrowed := true }
def ViewAllUptoSaid : Prop := viewAllUptoRow.holds Try.pinned (OpenSpec.upto viewAllSpec)

end Rows
end Go.Proofs.Ytplgpnmahblhbaa
