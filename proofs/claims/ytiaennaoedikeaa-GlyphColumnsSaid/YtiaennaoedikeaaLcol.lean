/- The walk of GlyphColumns: it answers true, for every list. No condition. -/
import Derived.Test.YtiaennaoedikeaaGw
namespace Go.Proofs.Ytiaennaoedikeaa
open Go.RowKit
theorem width_w (a : Int) (h : scalarB a = true) (h9 : a ≠ 9) (hz : zeroClass (classF a) = false) : 1 ≤ widthF a ∧ widthF a ≤ 2 := by
  have hn : 0 ≤ a ∧ a < 55296 ∨ 57343 < a ∧ a ≤ 1114111 := by unfold scalarB at h; exact of_decide_eq_true h
  have := wide_bd a
  unfold widthF
  rw [if_neg (by omega), if_neg (by omega), if_neg (by rintro (h' | h'); rw [h] at h'; cases h'; exact h9 h'), if_neg (by rw [hz]; decide)]
  repeat' split
  all_goals omega
/-- what an atom is -/
theorem col_cases (a : Int) :
    ((a < -256 ∨ 1114111 < a) ∧ classF a = 3 ∧ widthF a = 0) ∨ (-256 ≤ a ∧ a < 0 ∧ classF a = 3 ∧ widthF a = 4) ∨ (55296 ≤ a ∧ a ≤ 57343 ∧ classF a = 3 ∧ widthF a = 6) ∨
    a = 9 ∨ ((0 ≤ a ∧ a < 55296 ∨ 57343 < a ∧ a ≤ 1114111) ∧ a ≠ 9 ∧ (classF a = 1 ∨ classF a = 2 ∨ classF a = 4 ∨ classF a = 5 ∨ classF a = 10 ∨ classF a = 11) ∧ widthF a = 0) ∨
    ((0 ≤ a ∧ a < 55296 ∨ 57343 < a ∧ a ≤ 1114111) ∧ a ≠ 9 ∧ ¬ (classF a = 1 ∨ classF a = 2 ∨ classF a = 4 ∨ classF a = 5 ∨ classF a = 10 ∨ classF a = 11) ∧ 1 ≤ widthF a ∧ widthF a ≤ 2) := by
  cases h : scalarB a
  · have hn : ¬ (0 ≤ a ∧ a < 55296 ∨ 57343 < a ∧ a ≤ 1114111) := by unfold scalarB at h; exact of_decide_eq_false h
    have hc : classF a = 3 := by unfold classF; rw [if_pos h]
    by_cases h1 : -256 ≤ a ∧ a < 0
    · exact .inr (.inl ⟨h1.1, h1.2, hc, by unfold widthF; rw [if_pos h1]⟩)
    · by_cases h4 : 55296 ≤ a ∧ a ≤ 57343
      · exact .inr (.inr (.inl ⟨h4.1, h4.2, hc, by unfold widthF; rw [if_neg h1, if_pos h4]⟩))
      · exact .inl ⟨by omega, hc, by unfold widthF; rw [if_neg h1, if_neg h4, if_pos (.inl h)]⟩
  · have hn : 0 ≤ a ∧ a < 55296 ∨ 57343 < a ∧ a ≤ 1114111 := by unfold scalarB at h; exact of_decide_eq_true h
    by_cases h9 : a = 9
    · exact .inr (.inr (.inr (.inl h9)))
    · cases hz : zeroClass (classF a)
      · exact .inr (.inr (.inr (.inr (.inr ⟨hn, h9, of_decide_eq_false hz, width_w a h h9 hz⟩))))
      · refine .inr (.inr (.inr (.inr (.inl ⟨hn, h9, of_decide_eq_true hz, ?_⟩))))
        unfold widthF
        rw [if_neg (by omega), if_neg (by omega), if_neg (by rintro (h' | h'); rw [h] at h'; cases h'; exact h9 h'), if_pos hz]
set_option maxRecDepth 100000 in
set_option maxHeartbeats 4000000 in
theorem columns_any (s : Option Addr) (len cap : Nat) (f : Nat → Int) (w : World) (hl : len ≤ maxLen) (hr : IsInts w s len f) :
    Calls Try.prog 4 #[.slice s len cap] w fun e w' => e = .returned (.bool true) ∧ Below w.heap.size w w' := by
  unfold maxLen at hl
  have HR := Lib.hid hr
  clear hr
  go_enter Try.func4, Try.ntmps4
  go_wp2_with fail
  refine (width_eq 97 1 _ (by decide +kernel)).mono ?_
  rintro e w1 ⟨rfl, hb1⟩
  have HB1 := Lib.hid (hb1)
  clear hb1
  go_wp2_with fail
  refine (width_eq 19968 2 _ (by decide +kernel)).mono ?_
  rintro e w2 ⟨rfl, hb2⟩
  have HB2 := Lib.hid (bt HB1.out hb2)
  clear hb2
  go_wp2_with fail
  refine (width_eq 7 2 _ (by decide +kernel)).mono ?_
  rintro e w3 ⟨rfl, hb3⟩
  have HB3 := Lib.hid (bt HB2.out hb3)
  clear hb3
  go_wp2_with fail
  go_loopg [3] len (fun g i wr => ∃ k : Nat, k ≤ len ∧ g = len - k ∧ i = .int .i64 k ∧ Below w.heap.size w wr)
  case atStart => exact ⟨0, by omega, by omega, rfl, HB3.out⟩
  case round =>
    obtain ⟨k, hk, rfl, rfl, hb⟩ := hrel
    have HB := Lib.hid hb
    clear hb HB1 HB2 HB3
    by_cases hlt : k < len
    · obtain ⟨b, off, rfl, hcell⟩ := HR.out.at HB.out hlt
      generalize f k = a at hcell
      obtain ⟨c, hc⟩ : ∃ c, classF a = c := ⟨_, rfl⟩
      obtain ⟨v, hv⟩ : ∃ v, widthF a = v := ⟨_, rfl⟩
      have hcs := col_cases a
      rw [hc, hv] at hcs
      have HC := Lib.hid hc
      have HV := Lib.hid hv
      clear hc hv
      rcases hcs with ⟨hcs, rfl, rfl⟩ | ⟨h1, h2, rfl, rfl⟩ | ⟨h1, h2, rfl, rfl⟩ | rfl | ⟨hcs, h9, hz, rfl⟩ | ⟨hcs, h9, hz, h1, h2⟩
      · rcases hcs with hcs | hcs
        all_goals
          go_wp2_with fail
          refine (class_eq _ _ _ HC.out).mono ?_
          rintro e w11 ⟨rfl, hb11⟩
          have HB11 := Lib.hid (bt HB.out hb11)
          clear hb11
          go_wp2_with fail
          refine (width_eq _ _ _ HV.out).mono ?_
          rintro e w12 ⟨rfl, hb12⟩
          have HB12 := Lib.hid (bt HB11.out hb12)
          clear hb12
          go_wp2
          go_roundg (len - (k + 1))
          case measure => omega
          case rel => exact ⟨k + 1, by omega, rfl, by go_num, HB12.out⟩
      · go_wp2_with fail
        refine (class_eq _ _ _ HC.out).mono ?_
        rintro e w11 ⟨rfl, hb11⟩
        have HB11 := Lib.hid (bt HB.out hb11)
        clear hb11
        go_wp2_with fail
        refine (width_eq _ _ _ HV.out).mono ?_
        rintro e w12 ⟨rfl, hb12⟩
        have HB12 := Lib.hid (bt HB11.out hb12)
        clear hb12
        go_wp2
        go_roundg (len - (k + 1))
        case measure => omega
        case rel => exact ⟨k + 1, by omega, rfl, by go_num, HB12.out⟩
      · go_wp2_with fail
        refine (class_eq _ _ _ HC.out).mono ?_
        rintro e w11 ⟨rfl, hb11⟩
        have HB11 := Lib.hid (bt HB.out hb11)
        clear hb11
        go_wp2_with fail
        refine (width_eq _ _ _ HV.out).mono ?_
        rintro e w12 ⟨rfl, hb12⟩
        have HB12 := Lib.hid (bt HB11.out hb12)
        clear hb12
        go_wp2
        go_roundg (len - (k + 1))
        case measure => omega
        case rel => exact ⟨k + 1, by omega, rfl, by go_num, HB12.out⟩
      · obtain rfl : c = 3 := by rw [← HC.out]; decide +kernel
        obtain rfl : v = 0 := by rw [← HV.out]; decide +kernel
        go_wp2_with fail
        refine (class_eq _ _ _ HC.out).mono ?_
        rintro e w11 ⟨rfl, hb11⟩
        have HB11 := Lib.hid (bt HB.out hb11)
        clear hb11
        go_wp2_with fail
        refine (width_eq _ _ _ HV.out).mono ?_
        rintro e w12 ⟨rfl, hb12⟩
        have HB12 := Lib.hid (bt HB11.out hb12)
        clear hb12
        go_wp2
        go_roundg (len - (k + 1))
        case measure => omega
        case rel => exact ⟨k + 1, by omega, rfl, by go_num, HB12.out⟩
      · rcases hcs with hcs | hcs
        all_goals
          rcases hz with rfl | rfl | rfl | rfl | rfl | rfl
          all_goals
            go_wp2_with fail
            refine (class_eq _ _ _ HC.out).mono ?_
            rintro e w11 ⟨rfl, hb11⟩
            have HB11 := Lib.hid (bt HB.out hb11)
            clear hb11
            go_wp2_with fail
            refine (width_eq _ _ _ HV.out).mono ?_
            rintro e w12 ⟨rfl, hb12⟩
            have HB12 := Lib.hid (bt HB11.out hb12)
            clear hb12
            go_wp2
            go_roundg (len - (k + 1))
            case measure => omega
            case rel => exact ⟨k + 1, by omega, rfl, by go_num, HB12.out⟩
      · have n1 : (c == 1) = false := beq_eq_false_iff_ne.2 (by omega)
        have n2 : (c == 2) = false := beq_eq_false_iff_ne.2 (by omega)
        have n4 : (c == 4) = false := beq_eq_false_iff_ne.2 (by omega)
        have n5 : (c == 5) = false := beq_eq_false_iff_ne.2 (by omega)
        have n10 : (c == 10) = false := beq_eq_false_iff_ne.2 (by omega)
        have n11 : (c == 11) = false := beq_eq_false_iff_ne.2 (by omega)
        have n9 : (a == 9) = false := beq_eq_false_iff_ne.2 h9
        have v0 : (v == 0) = false := beq_eq_false_iff_ne.2 (by omega)
        clear hz h9
        rcases hcs with hcs | hcs
        all_goals
          go_wp2_with fail
          refine (class_eq _ _ _ HC.out).mono ?_
          rintro e w11 ⟨rfl, hb11⟩
          have HB11 := Lib.hid (bt HB.out hb11)
          clear hb11
          go_wp2_with fail
          refine (width_eq _ _ _ HV.out).mono ?_
          rintro e w12 ⟨rfl, hb12⟩
          have HB12 := Lib.hid (bt HB11.out hb12)
          clear hb12
          go_wp2
          go_roundg (len - (k + 1))
          case measure => omega
          case rel => exact ⟨k + 1, by omega, rfl, by go_num, HB12.out⟩
    · go_wp2
      go_ret
      exact ⟨rfl, HB.out⟩
end Go.Proofs.Ytiaennaoedikeaa
