/- Contract: tables.read. Condition: fewer than 2^62 keys. -/
import Derived.Test.YtampjndfhpjheaaYxf0
import Derived.Test.YtampjndfhpjheaaYxf1
import Derived.Test.YtampjndfhpjheaaYxf2
import Derived.Test.YtampjndfhpjheaaYxf3
import Derived.Test.YtampjndfhpjheaaYxf4
import Derived.Test.YtampjndfhpjheaaYxt0
import Derived.Test.YtampjndfhpjheaaYxt1
import Derived.Test.YtampjndfhpjheaaYxt2
namespace Go.Proofs.Ytampjndfhpjheaa
open Go.RowKit
set_option maxRecDepth 100000 in
theorem read_c (sel : Bool) (ow0 : Nat → Nat) (tb : Nat) (sl : Option Addr) (cl : Nat) (l : List Int) (w : World) (ht : Tabs w ow0 tb tabT) (hr : IsInts w sl l.length (gl l)) (hs : ∀ a, sl = some a → a.block < w.heap.size) (hcl : l.length ≤ cl) (hl : l.length < 4611686018427387904) (hkeys : ∀ x ∈ l, inKey x) :
    Calls Try.prog 43 #[.pointer (some ⟨tb, 0, none⟩), .bool sel, .slice sl l.length cl] w fun e w' => e = .returned (.tuple #[.agg (readP sel l).2.cells, .int .i64 ((readP sel l).1 : Nat)]) ∧ Below w.heap.size w w' := by
  cases sel
  · rcases cls_5 false l with h | h | h | h | h
    · exact read_false0 ow0 tb sl cl l w ht hr hs hcl hl hkeys h
    · exact read_false1 ow0 tb sl cl l w ht hr hs hcl hl hkeys h
    · exact read_false2 ow0 tb sl cl l w ht hr hs hcl hl hkeys h
    · exact read_false3 ow0 tb sl cl l w ht hr hs hcl hl hkeys h
    · exact read_false4 ow0 tb sl cl l w ht hr hs hcl hl hkeys h
  · rcases cls_sel l with h | h | h
    · exact read_true0 ow0 tb sl cl l w ht hr hs hcl hl hkeys h
    · exact read_true1 ow0 tb sl cl l w ht hr hs hcl hl hkeys h
    · exact read_true2 ow0 tb sl cl l w ht hr hs hcl hl hkeys h
end Go.Proofs.Ytampjndfhpjheaa
