/- Contracts: has and takes of a set of one int; in of no notes. No condition. -/
import Derived.Test.YtdegdoilpamjjaaDoorQh
namespace Go.Proofs.YtdegdoilpamjjaaDoor
open Go.RowKit
set_option linter.unusedVariables false
set_option linter.unusedSimpArgs false
set_option maxRecDepth 100000 in
set_option maxHeartbeats 4000000 in
theorem has_q (w : World) (b g : Nat) (x a : Int) (fold : Bool) (hb : w.heap[b]? = some (.cells #[.slice (some ⟨g, 0, none⟩) 1 1, .slice none 0 0, .bool false, .bool fold] 135 (0, 0))) (hg : w.heap[g]? = some (.cells #[.int .i64 x, .int .i64 x] 144 (0, 0))) :
    Calls Tryd.prog 64 #[.pointer (some ⟨b, 0, none⟩), .int .i64 a] w fun e w' => e = .returned (.bool (decide (a = x))) ∧ Below w.heap.size w w' := by
  have b0 : w.cell? ⟨b, 0, none⟩ = some (.slice (some ⟨g, 0, none⟩) 1 1) := block_cell hb
  have g0 : w.cell? ⟨g, 0, none⟩ = some (.int .i64 x) := block_cell hg
  have g1 : w.cell? ⟨g, 1, none⟩ = some (.int .i64 x) := block_cell hg
  have HB := Lib.hid hb
  obtain ⟨d, hd⟩ : ∃ d, decide (a = x) = d := ⟨_, rfl⟩
  rw [hd]
  have HD := Lib.hid hd
  clear hb hg hd
  go_enter Tryd.func64, Tryd.ntmps64
  go_wp2_with fail
  go_loopg [14] 1 (fun gg iv wr => (gg = 1 ∧ iv = .int .i64 0 ∧ wr = w) ∨ (gg = 0 ∧ iv = .int .i64 1 ∧ a ≠ x ∧ Below w.heap.size w wr))
  case atStart => exact .inl ⟨rfl, rfl, rfl⟩
  case round =>
    rcases hrel with ⟨rfl, rfl, rfl⟩ | ⟨rfl, rfl, hne, hbl⟩
    · have q0 : IntKind.i64.wrap 0 = 0 := by decide
      have q1 : IntKind.i64.wrap ((0 : Int) + 1) = 1 := by decide
      have hbn := below_newJ wr (.cells #[.int .i64 x, .int .i64 x] 144)
      have HBN := Lib.hid hbn
      clear hbn
      by_cases hax : a = x
      · subst hax
        have r1 : a ≤ a := Int.le_refl a
        go_wp2
        go_ret
        exact ⟨ret_bool (by have := HD.out; simpa using this), HBN.out⟩
      · by_cases h1 : x ≤ a
        · have r1 : ¬ a ≤ x := by omega
          go_wp2
          go_roundg 0
          case measure => omega
          case rel => exact .inr ⟨rfl, by go_num, hax, HBN.out⟩
        · go_wp2
          go_roundg 0
          case measure => omega
          case rel => exact .inr ⟨rfl, by go_num, hax, HBN.out⟩
    · have HNE := Lib.hid hne
      have c1 : wr.cell? ⟨b, 1, none⟩ = some (.slice none 0 0) := block_cell ((hbl.block b (heap_lt HB.out)).trans HB.out)
      have HBL := Lib.hid hbl
      clear hbl b0 g0 g1 hne
      go_wp2_with fail
      go_loopg [34] 0 (fun gg iv wq => iv = .int .i64 0 ∧ wq = wr)
      case atStart => exact ⟨rfl, rfl⟩
      case round =>
        obtain ⟨rfl, rfl⟩ := hrel
        go_wp2
        go_ret
        exact ⟨ret_bool (by have := HD.out; rw [decide_eq_false HNE.out] at this; exact this), HBL.out⟩
set_option maxRecDepth 100000 in
set_option maxHeartbeats 4000000 in
theorem takes_q (w : World) (v : Value) (p : Option Addr) (x a : Int) (h : SetN w false v x) (hv : v = .iface 78 (.pointer p)) :
    Calls Tryd.prog 48 #[.pointer p, .int .i64 a] w fun e w' => e = .returned (.bool (decide (a = x))) ∧ Below w.heap.size w w' := by
  obtain ⟨b, g, h1, hb, hg⟩ := h
  rw [hv] at h1
  obtain rfl : p = some ⟨b, 0, none⟩ := by injection h1 with _ h2; injection h2
  have hh := has_q w b g x a false hb hg
  obtain ⟨d, hd⟩ : ∃ d, decide (a = x) = d := ⟨_, rfl⟩
  rw [hd] at hh ⊢
  have HH := Lib.hid hh
  have HB := Lib.hid hb
  clear h1 hb hg hh hv hd
  go_enter Tryd.func48, Tryd.ntmps48
  go_wp2_with fail
  refine HH.out.mono ?_
  rintro e w2 ⟨rfl, hbl⟩
  have c2 : w2.cell? ⟨b, 2, none⟩ = some (.bool false) := block_cell ((hbl.block b (heap_lt HB.out)).trans HB.out)
  have c3 : w2.cell? ⟨b, 3, none⟩ = some (.bool false) := block_cell ((hbl.block b (heap_lt HB.out)).trans HB.out)
  have HBL := Lib.hid hbl
  clear hbl
  cases d
  · go_wp2
    go_ret
    exact ⟨rfl, HBL.out⟩
  · go_wp2
    go_ret
    exact ⟨rfl, HBL.out⟩
set_option maxRecDepth 100000 in
theorem in_nil (k : Int) (w : World) : Calls Tryd.prog 49 #[.pointer none, .int .i64 k] w fun e w' => e = .returned (.int .i64 (-1)) ∧ w' = w := by
  go_enter Tryd.func49, Tryd.ntmps49
  go_wp2_with fail
  go_loopg [0] 0 (fun gg sv wr => sv = .pointer none ∧ wr = w)
  case atStart => exact ⟨rfl, rfl⟩
  case round =>
    obtain ⟨rfl, rfl⟩ := hrel
    go_wp2
    go_ret
    exact ⟨rfl, rfl⟩
end Go.Proofs.YtdegdoilpamjjaaDoor
