/- Contracts: given, wanted and all of the statements of chapter 2. No condition. -/
import Derived.Test.YtiaennaoedikeaaDoorRb
import Derived.Deep.RegionWith
import Derived.Deep.RegionHeld3
namespace Go.Proofs.YtiaennaoedikeaaDoor
open Go.RowKit
set_option maxHeartbeats 1000000 in
theorem given_class (a : Int) (w : World) :
    Calls Tryd.prog 16 #[.int .i64 1, .int .i64 a] w fun e w' => e = .returned (.int .i64 (classF a)) ∧ Below w.heap.size w w' := by
  go_enter Tryd.func16, Tryd.ntmps16
  go_wp2_with fail
  refine (class_any _ _).mono ?_
  rintro e w1 ⟨rfl, hb1⟩
  have HB1 := Lib.hid (hb1)
  clear hb1
  go_wp2
  go_ret
  exact ⟨rfl, HB1.out⟩
set_option maxHeartbeats 1000000 in
theorem wanted_class (a : Int) (w : World) :
    Calls Tryd.prog 17 #[.int .i64 1, .int .i64 a] w fun e w' => e = .returned (.int .i64 (classF a)) ∧ Below w.heap.size w w' := by
  go_enter Tryd.func17, Tryd.ntmps17
  go_wp2_with fail
  refine (rclass_any _ _).mono ?_
  rintro e w' ⟨rfl, rfl⟩
  go_wp2
  go_ret
  exact ⟨rfl, Below.refl _ _⟩
set_option maxHeartbeats 1000000 in
theorem given_conj (a : Int) (w : World) :
    Calls Tryd.prog 16 #[.int .i64 2, .int .i64 a] w fun e w' => e = .returned (.int .i64 (conjF a)) ∧ Below w.heap.size w w' := by
  go_enter Tryd.func16, Tryd.ntmps16
  go_wp2_with fail
  refine (conj_any _ _).mono ?_
  rintro e w1 ⟨rfl, hb1⟩
  have HB1 := Lib.hid (hb1)
  clear hb1
  go_wp2
  go_ret
  exact ⟨rfl, HB1.out⟩
set_option maxHeartbeats 1000000 in
theorem wanted_conj (a : Int) (w : World) :
    Calls Tryd.prog 17 #[.int .i64 2, .int .i64 a] w fun e w' => e = .returned (.int .i64 (conjF a)) ∧ Below w.heap.size w w' := by
  go_enter Tryd.func17, Tryd.ntmps17
  go_wp2_with fail
  refine (rconj_any _ _).mono ?_
  rintro e w' ⟨rfl, rfl⟩
  go_wp2
  go_ret
  exact ⟨rfl, Below.refl _ _⟩
set_option maxHeartbeats 1000000 in
theorem given_word (a : Int) (w : World) :
    Calls Tryd.prog 16 #[.int .i64 3, .int .i64 a] w fun e w' => e = .returned (.int .i64 (wordF a)) ∧ Below w.heap.size w w' := by
  go_enter Tryd.func16, Tryd.ntmps16
  go_wp2_with fail
  refine (word_any _ _).mono ?_
  rintro e w1 ⟨rfl, hb1⟩
  have HB1 := Lib.hid (hb1)
  clear hb1
  go_wp2
  go_ret
  exact ⟨rfl, HB1.out⟩
set_option maxHeartbeats 1000000 in
theorem wanted_word (a : Int) (w : World) :
    Calls Tryd.prog 17 #[.int .i64 3, .int .i64 a] w fun e w' => e = .returned (.int .i64 (wordF a)) ∧ Below w.heap.size w w' := by
  go_enter Tryd.func17, Tryd.ntmps17
  go_wp2_with fail
  refine (rword_any _ _).mono ?_
  rintro e w' ⟨rfl, rfl⟩
  go_wp2
  go_ret
  exact ⟨rfl, Below.refl _ _⟩
set_option maxHeartbeats 1000000 in
theorem given_width (a : Int) (w : World) :
    Calls Tryd.prog 16 #[.int .i64 7, .int .i64 a] w fun e w' => e = .returned (.int .i64 (widthF a)) ∧ Below w.heap.size w w' := by
  go_enter Tryd.func16, Tryd.ntmps16
  go_wp2_with fail
  refine (width_any _ _).mono ?_
  rintro e w1 ⟨rfl, hb1⟩
  have HB1 := Lib.hid (hb1)
  clear hb1
  go_wp2
  go_ret
  exact ⟨rfl, HB1.out⟩
set_option maxHeartbeats 1000000 in
theorem wanted_width (a : Int) (w : World) :
    Calls Tryd.prog 17 #[.int .i64 7, .int .i64 a] w fun e w' => e = .returned (.int .i64 (widthF a)) ∧ Below w.heap.size w w' := by
  go_enter Tryd.func17, Tryd.ntmps17
  go_wp2_with fail
  refine (rwidth_any _ _).mono ?_
  rintro e w' ⟨rfl, rfl⟩
  go_wp2
  go_ret
  exact ⟨rfl, Below.refl _ _⟩
theorem cell_below {w1 w2 : World} {p : Addr} {v : Value} (h : w1.cell? p = some v) (hb : Below w1.heap.size w1 w2) : w2.cell? p = some v :=
  (hb.cell (World.block_lt_of_cell? w1 p h)).trans h
/-- the two agree at a kind: what each answers there -/
def Same (k : Int) (F : Int → Int) (fn : FuncId) : Prop := ∀ (a : Int) (w : World), Calls Tryd.prog fn #[.int .i64 k, .int .i64 a] w fun e w' => e = .returned (.int .i64 (F a)) ∧ Below w.heap.size w w'
set_option maxHeartbeats 4000000 in
theorem all_any (kd first : Int) (F : Int → Int) (hg : Same kd F 16) (hw : Same kd F 17) (s : Option Addr) (len cap : Nat) (f : Nat → Int) (w : World) (hl : len ≤ maxLen) (hr : IsInts w s len f) :
    Calls Tryd.prog 14 #[.int .i64 kd, .int .i64 first, .slice s len cap] w fun e w' => e = .returned (.bool true) ∧ Below w.heap.size w w' := by
  unfold maxLen at hl
  have HR := Lib.hid hr
  clear hr
  go_enter Tryd.func14, Tryd.ntmps14
  go_wp2_with fail
  refine (hg _ _).mono ?_
  rintro e w1 ⟨rfl, hb1⟩
  have HB1 := Lib.hid (hb1)
  clear hb1
  go_wp2_with fail
  refine (hw _ _).mono ?_
  rintro e w2 ⟨rfl, hb2⟩
  have HB2 := Lib.hid (bt HB1.out hb2)
  clear hb2
  go_wp2_with fail
  go_loopg [7] len (fun g i wr => ∃ k : Nat, k ≤ len ∧ g = len - k ∧ i = .int .i64 k ∧ Below w.heap.size w wr)
  case atStart => exact ⟨0, by omega, by omega, rfl, HB2.out⟩
  case round =>
    obtain ⟨k, hk, rfl, rfl, hb⟩ := hrel
    have HB := Lib.hid hb
    clear hb HB1 HB2
    by_cases hlt : k < len
    · obtain ⟨b, off, rfl, hcell⟩ := HR.out.at HB.out hlt
      generalize f k = a at hcell
      go_wp2_with fail
      have HG := Lib.hid hg
      have HW := Lib.hid hw
      have hB := HB.out
      clear hg hw
      go_region_held3 (fun w' => w'.cell? ⟨b, off + k, none⟩ = some (.int .i64 a) ∧ Below w.heap.size w w')
        (first | exact ⟨hcell, hB.drew⟩ | go_keep | (go_split_ands; exact ⟨cell_below (by assumption) hb2, bt (by assumption) hb2⟩))
        (first | (go_at_call 16; refine (HG.out _ _).mono ?_; rintro e w2 ⟨rfl, hb2⟩) | (go_at_call 17; refine (HW.out _ _).mono ?_; rintro e w2 ⟨rfl, hb2⟩))
      all_goals
        have hh : Below w.heap.size w w2 := by (first | (rename_i h; exact h.2) | assumption)
        have HH := Lib.hid hh
        clear hh hB
        go_wp2
        go_roundg (len - (k + 1))
        case measure => omega
        case rel => exact ⟨k + 1, by omega, rfl, by go_num, HH.out⟩
    · go_wp2
      go_ret
      exact ⟨rfl, HB.out⟩
end Go.Proofs.YtiaennaoedikeaaDoor
