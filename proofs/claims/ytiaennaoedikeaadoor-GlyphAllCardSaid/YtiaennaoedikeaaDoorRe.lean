/- The walks of GlyphCase and GlyphAll: each answers true, for every input, where the table variables hold what the text lays. -/
import Derived.Test.YtiaennaoedikeaaDoorRc
import Derived.Test.YtiaennaoedikeaaDoorRd
import Derived.Test.YtiaennaoedikeaaDoorLfold
namespace Go.Proofs.YtiaennaoedikeaaDoor
open Go.RowKit
def askF (k a : Int) : Int := if k = 1 then classF a else if k = 2 then conjF a else if k = 3 then wordF a else if k = 4 then upperF a else if k = 5 then lowerF a else if k = 6 then turnF a else if k = 7 then widthF a else 0
set_option maxHeartbeats 4000000 in
theorem given_ask (k a : Int) (w : World) (ht : Tabs w) :
    Calls Tryd.prog 16 #[.int .i64 k, .int .i64 a] w fun e w' => e = .returned (.int .i64 (askF k a)) ∧ Below w.heap.size w w' := by
  have HT := Lib.hid ht
  clear ht
  by_cases h1 : k = 1
  · subst h1
    go_enter Tryd.func16, Tryd.ntmps16
    go_wp2_with fail
    refine (class_any _ _).mono ?_
    rintro e w1 ⟨rfl, hb1⟩
    have HB1 := Lib.hid (hb1)
    clear hb1
    go_wp2
    go_ret
    exact ⟨rfl, HB1.out⟩
  by_cases h2 : k = 2
  · subst h2
    go_enter Tryd.func16, Tryd.ntmps16
    go_wp2_with fail
    refine (conj_any _ _).mono ?_
    rintro e w1 ⟨rfl, hb1⟩
    have HB1 := Lib.hid (hb1)
    clear hb1
    go_wp2
    go_ret
    exact ⟨rfl, HB1.out⟩
  by_cases h3 : k = 3
  · subst h3
    go_enter Tryd.func16, Tryd.ntmps16
    go_wp2_with fail
    refine (word_any _ _).mono ?_
    rintro e w1 ⟨rfl, hb1⟩
    have HB1 := Lib.hid (hb1)
    clear hb1
    go_wp2
    go_ret
    exact ⟨rfl, HB1.out⟩
  by_cases h4 : k = 4
  · subst h4
    go_enter Tryd.func16, Tryd.ntmps16
    go_wp2_with fail
    refine (upper_any _ _ HT.out).mono ?_
    rintro e w1 ⟨rfl, hb1⟩
    have HB1 := Lib.hid (hb1)
    clear hb1
    go_wp2
    go_ret
    exact ⟨rfl, HB1.out⟩
  by_cases h5 : k = 5
  · subst h5
    go_enter Tryd.func16, Tryd.ntmps16
    go_wp2_with fail
    refine (lower_any _ _ HT.out).mono ?_
    rintro e w1 ⟨rfl, hb1⟩
    have HB1 := Lib.hid (hb1)
    clear hb1
    go_wp2
    go_ret
    exact ⟨rfl, HB1.out⟩
  by_cases h6 : k = 6
  · subst h6
    go_enter Tryd.func16, Tryd.ntmps16
    go_wp2_with fail
    refine (turn_any _ _ HT.out).mono ?_
    rintro e w1 ⟨rfl, hb1⟩
    have HB1 := Lib.hid (hb1)
    clear hb1
    go_wp2
    go_ret
    exact ⟨rfl, HB1.out⟩
  by_cases h7 : k = 7
  · subst h7
    go_enter Tryd.func16, Tryd.ntmps16
    go_wp2_with fail
    refine (width_any _ _).mono ?_
    rintro e w1 ⟨rfl, hb1⟩
    have HB1 := Lib.hid (hb1)
    clear hb1
    go_wp2
    go_ret
    exact ⟨rfl, HB1.out⟩
  have n1 : (k == 1) = false := beq_eq_false_iff_ne.2 h1
  have n2 : (k == 2) = false := beq_eq_false_iff_ne.2 h2
  have n3 : (k == 3) = false := beq_eq_false_iff_ne.2 h3
  have n4 : (k == 4) = false := beq_eq_false_iff_ne.2 h4
  have n5 : (k == 5) = false := beq_eq_false_iff_ne.2 h5
  have n6 : (k == 6) = false := beq_eq_false_iff_ne.2 h6
  have n7 : (k == 7) = false := beq_eq_false_iff_ne.2 h7
  have F := Lib.hid (show askF k a = 0 by unfold askF; rw [if_neg h1, if_neg h2, if_neg h3, if_neg h4, if_neg h5, if_neg h6, if_neg h7])
  clear h1 h2 h3 h4 h5 h6 h7
  go_enter Tryd.func16, Tryd.ntmps16
  go_wp2
  go_ret
  exact ⟨ret_int (by rw [F.out]), Below.refl _ _⟩
set_option maxHeartbeats 4000000 in
theorem wanted_ask (k a : Int) (w : World) (ht : Tabs w) :
    Calls Tryd.prog 17 #[.int .i64 k, .int .i64 a] w fun e w' => e = .returned (.int .i64 (askF k a)) ∧ Below w.heap.size w w' := by
  have HT := Lib.hid ht
  clear ht
  by_cases h1 : k = 1
  · subst h1
    go_enter Tryd.func17, Tryd.ntmps17
    go_wp2_with fail
    refine (rclass_any _ _).mono ?_
    rintro e w' ⟨rfl, rfl⟩
    go_wp2
    go_ret
    exact ⟨rfl, Below.refl _ _⟩
  by_cases h2 : k = 2
  · subst h2
    go_enter Tryd.func17, Tryd.ntmps17
    go_wp2_with fail
    refine (rconj_any _ _).mono ?_
    rintro e w' ⟨rfl, rfl⟩
    go_wp2
    go_ret
    exact ⟨rfl, Below.refl _ _⟩
  by_cases h3 : k = 3
  · subst h3
    go_enter Tryd.func17, Tryd.ntmps17
    go_wp2_with fail
    refine (rword_any _ _).mono ?_
    rintro e w' ⟨rfl, rfl⟩
    go_wp2
    go_ret
    exact ⟨rfl, Below.refl _ _⟩
  by_cases h4 : k = 4
  · subst h4
    go_enter Tryd.func17, Tryd.ntmps17
    go_wp2_with fail
    refine (rup_any _ _).mono ?_
    rintro e w' ⟨rfl, rfl⟩
    go_wp2
    go_ret
    exact ⟨rfl, Below.refl _ _⟩
  by_cases h5 : k = 5
  · subst h5
    go_enter Tryd.func17, Tryd.ntmps17
    go_wp2_with fail
    refine (rlow_any _ _).mono ?_
    rintro e w' ⟨rfl, rfl⟩
    go_wp2
    go_ret
    exact ⟨rfl, Below.refl _ _⟩
  by_cases h6 : k = 6
  · subst h6
    go_enter Tryd.func17, Tryd.ntmps17
    go_wp2_with fail
    refine (rturn_any _ _).mono ?_
    rintro e w' ⟨rfl, rfl⟩
    go_wp2
    go_ret
    exact ⟨rfl, Below.refl _ _⟩
  by_cases h7 : k = 7
  · subst h7
    go_enter Tryd.func17, Tryd.ntmps17
    go_wp2_with fail
    refine (rwidth_any _ _).mono ?_
    rintro e w' ⟨rfl, rfl⟩
    go_wp2
    go_ret
    exact ⟨rfl, Below.refl _ _⟩
  have n1 : (k == 1) = false := beq_eq_false_iff_ne.2 h1
  have n2 : (k == 2) = false := beq_eq_false_iff_ne.2 h2
  have n3 : (k == 3) = false := beq_eq_false_iff_ne.2 h3
  have n4 : (k == 4) = false := beq_eq_false_iff_ne.2 h4
  have n5 : (k == 5) = false := beq_eq_false_iff_ne.2 h5
  have n6 : (k == 6) = false := beq_eq_false_iff_ne.2 h6
  have n7 : (k == 7) = false := beq_eq_false_iff_ne.2 h7
  have F := Lib.hid (show askF k a = 0 by unfold askF; rw [if_neg h1, if_neg h2, if_neg h3, if_neg h4, if_neg h5, if_neg h6, if_neg h7])
  clear h1 h2 h3 h4 h5 h6 h7
  go_enter Tryd.func17, Tryd.ntmps17
  go_wp2
  go_ret
  exact ⟨ret_int (by rw [F.out]), Below.refl _ _⟩
set_option maxHeartbeats 4000000 in
theorem all_tabs (kd first : Int) (s : Option Addr) (len cap : Nat) (f : Nat → Int) (w : World) (ht : Tabs w) (hl : len ≤ maxLen) (hr : IsInts w s len f) :
    Calls Tryd.prog 14 #[.int .i64 kd, .int .i64 first, .slice s len cap] w fun e w' => e = .returned (.bool true) ∧ Below w.heap.size w w' := by
  unfold maxLen at hl
  have HR := Lib.hid hr
  have HT := Lib.hid ht
  clear hr ht
  go_enter Tryd.func14, Tryd.ntmps14
  go_wp2_with fail
  refine (given_ask _ _ _ HT.out).mono ?_
  rintro e w1 ⟨rfl, hb1⟩
  have HB1 := Lib.hid (hb1)
  clear hb1
  go_wp2_with fail
  refine (wanted_ask _ _ _ (HT.out.later HB1.out)).mono ?_
  rintro e w2 ⟨rfl, hb2⟩
  have HB2 := Lib.hid (bt HB1.out hb2)
  clear hb2
  go_wp2_with fail
  go_loopg [7] len (fun g i wr => ∃ k : Nat, k ≤ len ∧ g = len - k ∧ i = .int .i64 k ∧ Below w.heap.size w wr)
  case atStart => exact ⟨0, by omega, by omega, rfl, HB2.out⟩
  case round =>
    obtain ⟨k, hk, rfl, rfl, hb⟩ := hrel
    have HB := Lib.hid hb
    clear hb HB1 HB2
    by_cases hlt : k < len
    · obtain ⟨b, off, rfl, hcell⟩ := HR.out.at HB.out hlt
      generalize f k = a at hcell
      go_wp2_with fail
      have hB := HB.out
      go_region_held3 (fun w' => w'.cell? ⟨b, off + k, none⟩ = some (.int .i64 a) ∧ Below w.heap.size w w')
        (first | exact ⟨hcell, hB.drew⟩ | go_keep | (go_split_ands; exact ⟨cell_below (by assumption) hb2, bt (by assumption) hb2⟩))
        (first | (go_at_call 16; go_split_ands; refine (given_ask _ _ _ (HT.out.later (by assumption))).mono ?_; rintro e w2 ⟨rfl, hb2⟩) | (go_at_call 17; go_split_ands; refine (wanted_ask _ _ _ (HT.out.later (by assumption))).mono ?_; rintro e w2 ⟨rfl, hb2⟩))
      all_goals
        have hh : Below w.heap.size w w2 := by (first | (rename_i h; exact h.2) | assumption)
        have HH := Lib.hid hh
        clear hh hB
        go_wp2
        go_roundg (len - (k + 1))
        case measure => omega
        case rel => exact ⟨k + 1, by omega, rfl, by go_num, HH.out⟩
    · go_wp2
      go_ret
      exact ⟨rfl, HB.out⟩
set_option maxHeartbeats 1000000 in
theorem law_case (s : Option Addr) (len cap : Nat) (f : Nat → Int) (w : World) (ht : Tabs w) (hl : len ≤ maxLen) (hr : IsInts w s len f) :
    Calls Tryd.prog 7 #[.slice s len cap] w fun e w' => e = .returned (.bool true) ∧ Below w.heap.size w w' := by
  have HL := Lib.hid hl
  have HR := Lib.hid hr
  have HT := Lib.hid ht
  clear hl hr ht
  go_enter Tryd.func7, Tryd.ntmps7
  go_wp2_with fail
  refine (all_tabs 4 97 _ _ _ _ _ HT.out HL.out HR.out).mono ?_
  rintro e w1 ⟨rfl, hb1⟩
  have HB1 := Lib.hid (hb1)
  clear hb1
  go_wp2_with fail
  refine (all_tabs 5 65 _ _ _ _ _ (HT.out.later HB1.out) HL.out (HR.out.later HB1.out)).mono ?_
  rintro e w2 ⟨rfl, hb2⟩
  have HB2 := Lib.hid (bt HB1.out hb2)
  clear hb2
  go_wp2_with fail
  refine (all_tabs 6 97 _ _ _ _ _ (HT.out.later HB2.out) HL.out (HR.out.later HB2.out)).mono ?_
  rintro e w3 ⟨rfl, hb3⟩
  have HB3 := Lib.hid (bt HB2.out hb3)
  clear hb3
  go_wp2
  go_ret
  exact ⟨rfl, HB3.out⟩
/-- a slice of asks that came in: element i is {K i, A i} -/
def IsAsks (w : World) (s : Option Addr) (len : Nat) (K A : Nat → Int) : Prop :=
  len = 0 ∨ ∃ b off, s = some ⟨b, off, none⟩ ∧ b < w.heap.size ∧ ∀ i, i < len → w.cell? ⟨b, off + i * 2, none⟩ = some (.int .i64 (K i)) ∧ w.cell? ⟨b, off + i * 2 + 1, none⟩ = some (.int .i64 (A i))
theorem IsAsks.at {w w1 : World} {s : Option Addr} {len : Nat} {K A : Nat → Int} (h : IsAsks w s len K A) (hb : Below w.heap.size w w1) {k : Nat} (hk : k < len) :
    ∃ b off, s = some ⟨b, off, none⟩ ∧ w1.cell? ⟨b, off + k * 2, none⟩ = some (.int .i64 (K k)) ∧ w1.cell? ⟨b, off + k * 2 + 1, none⟩ = some (.int .i64 (A k)) := by
  rcases h with h | ⟨b, off, hs, hlt, hc⟩
  · omega
  · exact ⟨b, off, hs, (hb.cell (p := ⟨b, off + k * 2, none⟩) hlt).trans (hc k hk).1, (hb.cell (p := ⟨b, off + k * 2 + 1, none⟩) hlt).trans (hc k hk).2⟩
set_option maxHeartbeats 4000000 in
theorem law_all (s : Option Addr) (len cap : Nat) (K A : Nat → Int) (w : World) (ht : Tabs w) (hl : len ≤ maxLen) (hr : IsAsks w s len K A) :
    Calls Tryd.prog 9 #[.slice s len cap] w fun e w' => e = .returned (.bool true) ∧ Below w.heap.size w w' := by
  unfold maxLen at hl
  have HR := Lib.hid hr
  have HT := Lib.hid ht
  clear hr ht
  go_enter Tryd.func9, Tryd.ntmps9
  go_wp2_with fail
  refine (class_eq 44032 12 _ (by decide +kernel)).mono ?_
  rintro e w1 ⟨rfl, hb1⟩
  have HB1 := Lib.hid (hb1)
  clear hb1
  go_wp2_with fail
  go_loopg [3] len (fun g i wr => ∃ k : Nat, k ≤ len ∧ g = len - k ∧ i = .int .i64 k ∧ Below w.heap.size w wr)
  case atStart => exact ⟨0, by omega, by omega, rfl, HB1.out⟩
  case round =>
    obtain ⟨k, hk, rfl, rfl, hb⟩ := hrel
    have HB := Lib.hid hb
    clear hb HB1
    by_cases hlt : k < len
    · obtain ⟨b, off, rfl, hk1, hk2⟩ := HR.out.at HB.out hlt
      generalize K k = kd at hk1
      generalize A k = a at hk2
      go_wp2_with fail
      have hB := HB.out
      go_region_held3 (fun w' => w'.cell? ⟨b, off + k * 2, none⟩ = some (.int .i64 kd) ∧ w'.cell? ⟨b, off + k * 2 + 1, none⟩ = some (.int .i64 a) ∧ Below w.heap.size w w')
        (first | exact ⟨hk1, hk2, hB.drew⟩ | go_keep | (go_split_ands; exact ⟨cell_below (by assumption) hb2, cell_below (by assumption) hb2, bt (by assumption) hb2⟩))
        (first | (go_at_call 16; go_split_ands; refine (given_ask _ _ _ (HT.out.later (by assumption))).mono ?_; rintro e w2 ⟨rfl, hb2⟩) | (go_at_call 17; go_split_ands; refine (wanted_ask _ _ _ (HT.out.later (by assumption))).mono ?_; rintro e w2 ⟨rfl, hb2⟩))
      all_goals
        have hh : Below w.heap.size w w2 := by (first | (rename_i h; exact h.2.2) | assumption)
        have HH := Lib.hid hh
        clear hh hB
        go_wp2
        go_roundg (len - (k + 1))
        case measure => omega
        case rel => exact ⟨k + 1, by omega, rfl, by go_num, HH.out⟩
    · have HB0 := HB
      clear HB
      go_wp2_with fail
      clear hlt hk
      go_loopg [4] len (fun g i wr => ∃ k : Nat, k ≤ len ∧ k = g ∧ i = .int .i64 ((k : Int) - 1) ∧ Below w.heap.size w wr)
      case atStart => exact ⟨len, by omega, rfl, rfl, HB0.out⟩
      case round =>
        obtain ⟨k1, hk, rfl, rfl, hb⟩ := hrel
        have HB := Lib.hid hb
        clear hb
        by_cases hlt0 : 1 ≤ k1
        · obtain ⟨k, rfl⟩ : ∃ k, k1 = k + 1 := ⟨k1 - 1, by omega⟩
          have hlt : k < len := by omega
          rw [show ((k + 1 : Nat) : Int) - 1 = (k : Int) from by omega]
          obtain ⟨b, off, rfl, hk1, hk2⟩ := HR.out.at HB.out hlt
          generalize K k = kd at hk1
          generalize A k = a at hk2
          go_wp2_with fail
          have hB := HB.out
          go_region_held3 (fun w' => w'.cell? ⟨b, off + k * 2, none⟩ = some (.int .i64 kd) ∧ w'.cell? ⟨b, off + k * 2 + 1, none⟩ = some (.int .i64 a) ∧ Below w.heap.size w w')
            (first | exact ⟨hk1, hk2, hB.drew⟩ | go_keep | (go_split_ands; exact ⟨cell_below (by assumption) hb2, cell_below (by assumption) hb2, bt (by assumption) hb2⟩))
            (first | (go_at_call 16; go_split_ands; refine (given_ask _ _ _ (HT.out.later (by assumption))).mono ?_; rintro e w2 ⟨rfl, hb2⟩) | (go_at_call 17; go_split_ands; refine (wanted_ask _ _ _ (HT.out.later (by assumption))).mono ?_; rintro e w2 ⟨rfl, hb2⟩))
          all_goals
            have hh : Below w.heap.size w w2 := by (first | (rename_i h; exact h.2.2) | assumption)
            have HH := Lib.hid hh
            clear hh hB
            go_wp2
            go_roundg k
            case measure => omega
            case rel => exact ⟨k, by omega, rfl, rfl, HH.out⟩
        · go_wp2
          go_ret
          exact ⟨rfl, HB.out⟩
end Go.Proofs.YtiaennaoedikeaaDoor
