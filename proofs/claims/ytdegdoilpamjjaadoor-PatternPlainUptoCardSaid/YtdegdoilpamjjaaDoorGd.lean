/- Contracts: glyph.Class, Conjunct, Word, Width. No condition. -/
import Derived.Test.YtdegdoilpamjjaaDoorGc
import Derived.KernelRfl
namespace Go.Proofs.YtdegdoilpamjjaaDoor
open Go.RowKit
theorem sought_table (s : ByteArray) (t : List Row) (n : Nat) (a : Int) (w : World) (hs : s.size = 11 * n) (hn : n ≤ 1000) (hk : hexOk s.data.toList = true) (ht : rowsC n s.data.toList = t) (hl : t.length = n) :
    Calls Tryd.prog 100 #[.string s, .int .i64 a] w fun e w' => e = .returned (.int .i64 (sot t a)) ∧ Below w.heap.size w w' :=
  (sought_any s a n w hs hn hk).mono fun e w' ⟨he, hb⟩ => ⟨by rw [he, soughtF_sot ht hl], hb⟩
end Go.Proofs.YtdegdoilpamjjaaDoor
