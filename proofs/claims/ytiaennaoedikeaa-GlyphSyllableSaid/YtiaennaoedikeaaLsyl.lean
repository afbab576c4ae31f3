/- The walk of GlyphSyllable: it answers true, for every int. No condition. -/
import Derived.Test.YtiaennaoedikeaaGd
namespace Go.Proofs.Ytiaennaoedikeaa
open Go.RowKit
set_option maxHeartbeats 1000000 in
theorem syllable_any (k : Int) (w : World) :
    Calls Try.prog 3 #[.int .i64 k] w fun e w' => e = .returned (.bool true) ∧ Below w.heap.size w w' := by
  by_cases h0 : k < 0
  · go_enter Try.func3, Try.ntmps3
    go_wp2_with fail
    refine (class_eq 44032 12 _ (by decide +kernel)).mono ?_
    rintro e w1 ⟨rfl, hb1⟩
    have HB1 := Lib.hid hb1
    clear hb1
    go_wp2_with fail
    refine (class_eq 55203 13 _ (by decide +kernel)).mono ?_
    rintro e w2 ⟨rfl, hb2⟩
    have HB2 := Lib.hid (bt HB1.out hb2)
    clear hb2
    go_wp2_with fail
    refine (class_eq 55204 0 _ (by decide +kernel)).mono ?_
    rintro e w3 ⟨rfl, hb3⟩
    have HB3 := Lib.hid (bt HB2.out hb3)
    clear hb3
    go_wp2_with fail
    go_ret
    exact ⟨rfl, HB3.out⟩
  · by_cases h1 : 11172 ≤ k
    · go_enter Try.func3, Try.ntmps3
      go_wp2_with fail
      refine (class_eq 44032 12 _ (by decide +kernel)).mono ?_
      rintro e w1 ⟨rfl, hb1⟩
      have HB1 := Lib.hid hb1
      clear hb1
      go_wp2_with fail
      refine (class_eq 55203 13 _ (by decide +kernel)).mono ?_
      rintro e w2 ⟨rfl, hb2⟩
      have HB2 := Lib.hid (bt HB1.out hb2)
      clear hb2
      go_wp2_with fail
      refine (class_eq 55204 0 _ (by decide +kernel)).mono ?_
      rintro e w3 ⟨rfl, hb3⟩
      have HB3 := Lib.hid (bt HB2.out hb3)
      clear hb3
      go_wp2_with fail
      go_ret
      exact ⟨rfl, HB3.out⟩
    · have hl1 : 4352 + k / 588 < 4371 := by omega
      have hl0 : 4352 ≤ 4352 + k / 588 := by omega
      have hv1 : 4449 + k % 588 / 28 < 4470 := by omega
      have hv0 : 4449 ≤ 4449 + k % 588 / 28 := by omega
      by_cases h2 : k % 28 = 0
      · have h3 : (k % 28 == 0) = true := by simp [h2]
        have h4 := Lib.hid (show (44032 + k - 44032) % 28 = 0 by omega)
        clear h2
        go_enter Try.func3, Try.ntmps3
        go_wp2_with fail
        refine (class_eq 44032 12 _ (by decide +kernel)).mono ?_
        rintro e w1 ⟨rfl, hb1⟩
        have HB1 := Lib.hid hb1
        clear hb1
        go_wp2_with fail
        refine (class_eq 55203 13 _ (by decide +kernel)).mono ?_
        rintro e w2 ⟨rfl, hb2⟩
        have HB2 := Lib.hid (bt HB1.out hb2)
        clear hb2
        go_wp2_with fail
        refine (class_eq 55204 0 _ (by decide +kernel)).mono ?_
        rintro e w3 ⟨rfl, hb3⟩
        have HB3 := Lib.hid (bt HB2.out hb3)
        clear hb3
        go_wp2_with fail
        refine (class_eq (4352 + k / 588) 9 _ (class_lead _ hl0 hl1)).mono ?_
        rintro e w4 ⟨rfl, hb4⟩
        have HB4 := Lib.hid (bt HB3.out hb4)
        clear hb4
        go_wp2_with fail
        refine (class_eq (4449 + k % 588 / 28) 10 _ (class_vowel _ hv0 hv1)).mono ?_
        rintro e w5 ⟨rfl, hb5⟩
        have HB5 := Lib.hid (bt HB4.out hb5)
        clear hb5
        go_wp2_with fail
        refine (class_eq (44032 + k) 12 _ (class_lv _ (by omega) (by omega) h4.out)).mono ?_
        rintro e w6 ⟨rfl, hb6⟩
        have HB6 := Lib.hid (bt HB5.out hb6)
        clear hb6
        go_wp2_with fail
        go_ret
        exact ⟨rfl, HB6.out⟩
      · have h3 : (k % 28 == 0) = false := by simp [h2]
        have h4 := Lib.hid (show (44032 + k - 44032) % 28 ≠ 0 by omega)
        have h5 : 1 ≤ k % 28 := by omega
        have h6 : k % 28 ≤ 27 := by omega
        clear h2
        go_enter Try.func3, Try.ntmps3
        go_wp2_with fail
        refine (class_eq 44032 12 _ (by decide +kernel)).mono ?_
        rintro e w1 ⟨rfl, hb1⟩
        have HB1 := Lib.hid hb1
        clear hb1
        go_wp2_with fail
        refine (class_eq 55203 13 _ (by decide +kernel)).mono ?_
        rintro e w2 ⟨rfl, hb2⟩
        have HB2 := Lib.hid (bt HB1.out hb2)
        clear hb2
        go_wp2_with fail
        refine (class_eq 55204 0 _ (by decide +kernel)).mono ?_
        rintro e w3 ⟨rfl, hb3⟩
        have HB3 := Lib.hid (bt HB2.out hb3)
        clear hb3
        go_wp2_with fail
        refine (class_eq (4352 + k / 588) 9 _ (class_lead _ hl0 hl1)).mono ?_
        rintro e w4 ⟨rfl, hb4⟩
        have HB4 := Lib.hid (bt HB3.out hb4)
        clear hb4
        go_wp2_with fail
        refine (class_eq (4449 + k % 588 / 28) 10 _ (class_vowel _ hv0 hv1)).mono ?_
        rintro e w5 ⟨rfl, hb5⟩
        have HB5 := Lib.hid (bt HB4.out hb5)
        clear hb5
        go_wp2_with fail
        refine (class_eq (44032 + k) 13 _ (class_lvt _ (by omega) (by omega) h4.out)).mono ?_
        rintro e w6 ⟨rfl, hb6⟩
        have HB6 := Lib.hid (bt HB5.out hb6)
        clear hb6
        go_wp2_with fail
        refine (class_eq (4519 + k % 28) 11 _ (class_tail _ (by omega) (by omega))).mono ?_
        rintro e w7 ⟨rfl, hb7⟩
        have HB7 := Lib.hid (bt HB6.out hb7)
        clear hb7
        go_wp2_with fail
        go_ret
        exact ⟨rfl, HB7.out⟩
end Go.Proofs.Ytiaennaoedikeaa
