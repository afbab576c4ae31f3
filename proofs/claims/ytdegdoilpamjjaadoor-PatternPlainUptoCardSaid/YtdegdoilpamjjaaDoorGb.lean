/- Contracts: glyph.scalar, glyph.number, over the seat's program. Conditions: number reads at most five hexadecimal letters. -/
import Derived.Test.YtdegdoilpamjjaaDoorGp
import Derived.Test.YtdegdoilpamjjaaDoorProg
import Derived.WalkKit
import Derived.WalkSpells
import Derived.WalkLawsBesides
import Derived.Deep.LoopGhost
import Derived.Lib.Hide
namespace Go.Proofs.YtdegdoilpamjjaaDoor
open Go.RowKit
theorem ret_bool {a b : Bool} (h : a = b) : Ending.returned (.bool a) = .returned (.bool b) := by rw [h]
theorem ret_int {k : IntKind} {a b : Int} (h : a = b) : Ending.returned (.int k a) = .returned (.int k b) := by rw [h]
theorem bt {w w1 w2 : World} (h : Below w.heap.size w w1) (k : Below w1.heap.size w1 w2) : Below w.heap.size w w2 := h.trans (k.mono h.size)
/-- a slice of ints that came in: its elements are f 0, f 1, .. -/
def IsInts (w : World) (s : Option Addr) (len : Nat) (f : Nat → Int) : Prop :=
  len = 0 ∨ ∃ b off, s = some ⟨b, off, none⟩ ∧ b < w.heap.size ∧ ∀ i, i < len → w.cell? ⟨b, off + i, none⟩ = some (.int .i64 (f i))
theorem IsInts.at {w w1 : World} {s : Option Addr} {len : Nat} {f : Nat → Int} (h : IsInts w s len f) (hb : Below w.heap.size w w1) {k : Nat} (hk : k < len) :
    ∃ b off, s = some ⟨b, off, none⟩ ∧ w1.cell? ⟨b, off + k, none⟩ = some (.int .i64 (f k)) := by
  rcases h with h | ⟨b, off, hs, hlt, hc⟩
  · omega
  · exact ⟨b, off, hs, (hb.cell (p := ⟨b, off + k, none⟩) hlt).trans (hc k hk)⟩
theorem IsInts.later {w w1 : World} {s : Option Addr} {len : Nat} {f : Nat → Int} (h : IsInts w s len f) (hb : Below w.heap.size w w1) : IsInts w1 s len f := by
  rcases h with h | ⟨b, off, hs, hlt, hc⟩
  · exact .inl h
  · exact .inr ⟨b, off, hs, Nat.lt_of_lt_of_le hlt hb.size, fun k hk => (hb.cell (p := ⟨b, off + k, none⟩) hlt).trans (hc k hk)⟩
set_option maxHeartbeats 400000 in
theorem scalar_any (a : Int) (w : World) :
    Calls Tryd.prog 72 #[.int .i64 a] w fun e w' => e = .returned (.bool (scalarB a)) ∧ w = w' := by
  go_enter Tryd.func72, Tryd.ntmps72
  go_wp2
  all_goals
    go_ret
    exact ⟨ret_bool (by unfold scalarB; rw [Bool.eq_iff_iff]; simp; try omega), rfl⟩
set_option maxHeartbeats 400000 in
theorem number_any (s : ByteArray) (w : World) (hs : s.size ≤ 5) (hk : hexOk s.data.toList = true) :
    Calls Tryd.prog 104 #[.string s] w fun e w' => e = .returned (.int .i64 (hexN s.data.toList)) ∧ w.iter s s.size = w' := by
  have HK := Lib.hid hk
  clear hk
  go_enter Tryd.func104, Tryd.ntmps104
  go_wp2
  go_loopg [3] s.size (fun g n wr => ∃ k : Nat, k ≤ s.size ∧ g = s.size - k ∧ wr = w.iter s k ∧ n = .int .i64 (hexN (s.data.toList.take k)))
  case atStart => exact ⟨0, Nat.zero_le _, rfl, rfl, rfl⟩
  case round =>
    obtain ⟨k, hle, rfl, rfl, rfl⟩ := hrel
    by_cases hlt : k < s.size
    · have hd0 := hexOk_get HK.out k (by simpa using hlt)
      have hd1 : 48 ≤ s[k].toNat := hd0.1
      have hd2 : s[k].toNat ≤ 70 := hd0.2
      clear hd0
      have hb := hexN_bd5 (l := s.data.toList.take k) (by simp; omega) (hexOk_take HK.out k)
      have hnx := fun ty => run_next_ascii (P := Tryd.prog) w s k ty hlt (by omega)
      have hsn : hexN (s.data.toList.take (k + 1)) = hexN (s.data.toList.take k) * 16 + hexD s[k] := by
        rw [List.take_succ_eq_append_getElem (by simpa using hlt), hexN_snoc]; rfl
      have HS := Lib.hid hsn
      clear hsn
      go_wp2
      all_goals
        go_roundg (s.size - (k + 1))
        case measure => omega
        case rel =>
          refine ⟨k + 1, by omega, rfl, rfl, ?_⟩
          rw [HS.out]; unfold hexD
          first | rw [if_pos ‹_›] | rw [if_neg (by omega)]
    · have hnx := fun ty => run_next_end (P := Tryd.prog) w s k ty hlt
      go_wp2
      go_ret
      exact ⟨ret_int (by rw [List.take_of_length_le (by simp; omega)]), by rw [show k = s.size from by omega]⟩
end Go.Proofs.YtdegdoilpamjjaaDoor
