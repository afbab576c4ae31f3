/- The tables of the cases as lists; a world in which the program's variables hold them; slices of ints that came in. No condition. -/
import Derived.Test.YtdegdoilpamjjaaDoorGb
import Derived.Test.YtdegdoilpamjjaaDoorRows
import Derived.ProofKit
import Derived.OpenShut
namespace Go.Proofs.YtdegdoilpamjjaaDoor
open Go.ChangeShapes Go.WideShapes Go.ChangeAt Go.RowKit
def i64s (l : List Int) : Array Value := (l.map fun n => Value.int .i64 n).toArray
def distancesL : List Int := [65, 90, 32, 192, 214, 32, 216, 222, 32, 904, 906, 37, 913, 929, 32, 931, 939, 32, 1024, 1039, 80, 1040, 1071, 32, 1329, 1366, 48, 8544, 8559, 16, 9398, 9423, 26, 65313, 65338, 32, 66560, 66599, 40, 376, 376, (-121), 902, 902, 38, 908, 908, 64, 910, 911, 63, 975, 975, 8, 1216, 1216, 15]
def pairsL : List Int := [256, 303, 306, 311, 313, 328, 330, 375, 377, 382, 461, 476, 478, 495, 504, 543, 546, 563, 582, 591, 880, 883, 886, 887, 984, 1007, 1120, 1153, 1162, 1215, 1217, 1230, 1232, 1327, 7680, 7829, 7840, 7935]
def oneWayL : List Int := [181, 924, 181, 305, 73, 305, 383, 83, 383, 962, 931, 962, 304, 304, 105, 7838, 7838, 223, 8486, 8486, 969, 8490, 8490, 107, 8491, 8491, 229]
def holdAt (g : Nat) (l : List Int) (w : World) : World := { w with heap := w.heap.modify g fun
    | .cells _ t frozen => .cells (i64s l) t frozen
    | o => o }
noncomputable def laidWorld (os : Os) : World :=
  holdAt 0 oneWayL (holdAt 1 distancesL (holdAt 2 pairsL (World.holding Tryd.prog os ⟨#[], #[], []⟩)))
theorem isInts_of {W : World} {x : Addr} {zs : List Int} {len : Nat} (h : ∀ i, i < zs.length → W.cell? (x.add i) = some (.int .i64 (zs.getD i 0))) (hl : len ≤ zs.length) : IsInts W (some x) len (fun i => zs.getD i 0) := by
  by_cases h0 : len = 0
  · exact .inl h0
  · obtain ⟨b, off, rfl, hc⟩ := ints_at h (by omega)
    refine .inr ⟨b, off, rfl, ?_, fun i hi => hc i (by omega)⟩
    exact World.block_lt_of_cell? W _ (hc 0 (by omega))
theorem open_ints_arg {H : Type} {enc : TypeId × Value → H} {W : World} {hd : Bool} {a : Option Addr} {len cap : Nat} {d : DataW H} {p : List MemPlace}
    (h : DataW.Trod enc Tryd.prog W 0 (fun _ => true) hd 22 (.slice a len cap) d p) : ∃ f : Nat → Int, len ≤ maxLen ∧ IsInts W a len f := by
  obtain ⟨fuel, hf⟩ := h
  rcases open_ints Tryd.underlying22 Tryd.underlying3 (by kernel_rfl) hf with ⟨hcs, _⟩ | ⟨x, l, c, zs, hcs, _, hl, hm, hz, _, hcell, hwz⟩
  · simp [Value.cells] at hcs
    obtain ⟨rfl, rfl, rfl⟩ := hcs
    exact ⟨fun _ => 0, Nat.zero_le _, .inl rfl⟩
  · simp [Value.cells] at hcs
    obtain ⟨rfl, rfl, rfl⟩ := hcs
    exact ⟨fun i => zs.getD i 0, Nat.le_trans hl hm, isInts_of hcell (by simp at hz; omega)⟩
end Go.Proofs.YtdegdoilpamjjaaDoor
