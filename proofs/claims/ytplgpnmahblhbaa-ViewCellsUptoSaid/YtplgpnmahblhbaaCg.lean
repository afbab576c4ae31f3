/- Contracts: cluster.safe, Snap, IsBreak, Prev, Next. No condition. -/
import Derived.Test.YtplgpnmahblhbaaCf
import Derived.Deep.RegionWith
import Derived.Deep.RegionHeld3
namespace Go.Proofs.Ytplgpnmahblhbaa
open Go.RowKit
theorem cell_below {w1 w2 : World} {p : Addr} {v : Value} (h : w1.cell? p = some v) (hb : Below w1.heap.size w1 w2) : w2.cell? p = some v :=
  (hb.cell (World.block_lt_of_cell? w1 p h)).trans h
theorem snapF_out {f : Nat → Int} {n : Nat} {a : Int} (h : a ≤ 0 ∨ (n : Int) ≤ a) : (snapF f n a : Int) = min (max a 0) n := by
  unfold snapF
  rcases h with h | h
  · rw [show min a.toNat n = 0 from by omega]
    show ((0 : Nat) : Int) = _
    omega
  · rw [show min a.toNat n = n from by omega, snapN_self.2 (isB_end f n)]
    omega
theorem snapF_in {f : Nat → Int} {n a : Nat} (h : a ≤ n) : snapF f n (a : Int) = snapN f n a := by
  unfold snapF; rw [show min (a : Int).toNat n = a from by omega]
end Go.Proofs.Ytplgpnmahblhbaa
