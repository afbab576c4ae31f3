/- Contract: glyph.Width. No condition. -/
import Derived.Test.YtplgpnmahblhbaaGe
namespace Go.Proofs.Ytplgpnmahblhbaa
open Go.RowKit
set_option maxHeartbeats 1000000 in
theorem width_out (a : Int) (w : World) (h : scalarB a = false) :
    Calls Try.prog 23 #[.int .i64 a] w fun e w' => e = .returned (.int .i64 (widthF a)) ∧ Below w.heap.size w w' := by
  have hn : ¬ (0 ≤ a ∧ a < 55296 ∨ 57343 < a ∧ a ≤ 1114111) := by unfold scalarB at h; exact of_decide_eq_false h
  by_cases h1 : -256 ≤ a ∧ a < 0
  · have hfin := Lib.hid (show widthF a = 4 by unfold widthF; rw [if_pos h1])
    obtain ⟨h2, h3⟩ := h1
    clear hn
    go_enter Try.func23, Try.ntmps23
    generalize hS : ByteArray.mk _ = S
    have HS := Lib.hid hS
    clear hS
    go_wp2
    go_ret
    exact ⟨ret_int (by rw [hfin.out]), Below.refl _ _⟩
  · by_cases h4 : 55296 ≤ a ∧ a ≤ 57343
    · have hfin := Lib.hid (show widthF a = 6 by unfold widthF; rw [if_neg h1, if_pos h4])
      obtain ⟨h2, h3⟩ := h4
      clear hn h1
      go_enter Try.func23, Try.ntmps23
      generalize hS : ByteArray.mk _ = S
      have HS := Lib.hid hS
      clear hS
      go_wp2
      go_ret
      exact ⟨ret_int (by rw [hfin.out]), Below.refl _ _⟩
    · have hfin := Lib.hid (show widthF a = 0 by unfold widthF; rw [if_neg h1, if_neg h4, if_pos (.inl h)])
      have h5 : a < -256 ∨ 1114111 < a := by omega
      clear hn h1 h4
      rcases h5 with h5 | h5
      all_goals
        go_enter Try.func23, Try.ntmps23
        generalize hS : ByteArray.mk _ = S
        have HS := Lib.hid hS
        clear hS
        go_wp2_with fail
        refine (scalar_any _ _).mono ?_
        rintro e w' ⟨rfl, rfl⟩
        go_wp2
        go_ret
        exact ⟨ret_int (by rw [hfin.out]), Below.refl _ _⟩
set_option maxHeartbeats 2000000 in
theorem width_in (a : Int) (w : World) (h : scalarB a = true) :
    Calls Try.prog 23 #[.int .i64 a] w fun e w' => e = .returned (.int .i64 (widthF a)) ∧ Below w.heap.size w w' := by
  have hn : 0 ≤ a ∧ a < 55296 ∨ 57343 < a ∧ a ≤ 1114111 := by unfold scalarB at h; exact of_decide_eq_true h
  have hw : widthF a = if a = 9 then 0 else if zeroClass (classF a) then 0 else if classF a = 3 then (if a ≤ 159 then 2 else 1) else 1 + sot wideT a := by
    unfold widthF; rw [if_neg (by omega), if_neg (by omega)]
    by_cases h9 : a = 9
    · rw [if_pos (.inr h9), if_pos h9]
    · rw [if_neg (by rintro (h' | h'); rw [h] at h'; cases h'; exact h9 h'), if_neg h9]
  have H0 := Lib.hid hw
  clear hw
  have hwd := wide_bd a
  obtain ⟨v, hv⟩ : ∃ v, sot wideT a = v := ⟨_, rfl⟩
  rw [hv] at hwd
  have HV := Lib.hid hv
  clear hv
  by_cases h9 : a = 9
  · subst h9
    clear hn hwd
    go_enter Try.func23, Try.ntmps23
    generalize hS : ByteArray.mk _ = S
    have HS := Lib.hid hS
    clear hS
    go_wp2_with fail
    refine (scalar_any _ _).mono ?_
    rintro e w' ⟨rfl, rfl⟩
    go_wp2
    go_ret
    exact ⟨ret_int (by rw [H0.out]; simp), Below.refl _ _⟩
  · obtain ⟨c, hc⟩ : ∃ c, classF a = c := ⟨_, rfl⟩
    have HC := Lib.hid hc
    clear hc
    have hl : (decide (55296 ≤ a) && decide (a ≤ 57343)) = false := by simp; omega
    have h0 : 0 ≤ a := by omega
    by_cases hz : zeroClass c = true
    · have hz' : c = 1 ∨ c = 2 ∨ c = 4 ∨ c = 5 ∨ c = 10 ∨ c = 11 := of_decide_eq_true hz
      clear hz
      rcases hz' with rfl | rfl | rfl | rfl | rfl | rfl
      all_goals
        rcases hn with hn | hn
        all_goals
          go_enter Try.func23, Try.ntmps23
          generalize hS : ByteArray.mk _ = S
          have HS := Lib.hid hS
          clear hS
          go_wp2_with fail
          refine (scalar_any _ _).mono ?_
          rintro e w' ⟨rfl, rfl⟩
          go_wp2_with fail
          refine (class_eq a _ _ HC.out).mono ?_
          rintro e w1 ⟨rfl, hb⟩
          have HB := Lib.hid hb
          clear hb
          go_wp2
          go_ret
          exact ⟨ret_int (by rw [H0.out, if_neg h9, HC.out]; rfl), HB.out⟩
    · have hn' : ¬ (c = 1 ∨ c = 2 ∨ c = 4 ∨ c = 5 ∨ c = 10 ∨ c = 11) := fun h => hz (decide_eq_true h)
      have n1 : c ≠ 1 := by omega
      have n2 : c ≠ 2 := by omega
      have n4 : c ≠ 4 := by omega
      have n5 : c ≠ 5 := by omega
      have n10 : c ≠ 10 := by omega
      have n11 : c ≠ 11 := by omega
      have HZ := Lib.hid hz
      clear hn' hz
      by_cases c3 : c = 3
      · subst c3
        clear n1 n2 n4 n5 n10 n11
        by_cases h159 : a ≤ 159
        · go_enter Try.func23, Try.ntmps23
          generalize hS : ByteArray.mk _ = S
          have HS := Lib.hid hS
          clear hS
          go_wp2_with fail
          refine (scalar_any _ _).mono ?_
          rintro e w' ⟨rfl, rfl⟩
          go_wp2_with fail
          refine (class_eq a _ _ HC.out).mono ?_
          rintro e w1 ⟨rfl, hb⟩
          have HB := Lib.hid hb
          clear hb
          go_wp2
          go_ret
          exact ⟨ret_int (by rw [H0.out, if_neg h9, HC.out, if_neg HZ.out, if_pos rfl, if_pos h159]), HB.out⟩
        · rcases hn with hn | hn
          all_goals
            go_enter Try.func23, Try.ntmps23
            generalize hS : ByteArray.mk _ = S
            have HS := Lib.hid hS
            clear hS
            go_wp2_with fail
            refine (scalar_any _ _).mono ?_
            rintro e w' ⟨rfl, rfl⟩
            go_wp2_with fail
            refine (class_eq a _ _ HC.out).mono ?_
            rintro e w1 ⟨rfl, hb⟩
            have HB := Lib.hid hb
            clear hb
            go_wp2
            go_ret
            exact ⟨ret_int (by rw [H0.out, if_neg h9, HC.out, if_neg HZ.out, if_pos rfl, if_neg (Int.not_le.2 h159)]), HB.out⟩
      · rcases hn with hn | hn
        all_goals
          go_enter Try.func23, Try.ntmps23
          generalize hS : ByteArray.mk _ = S
          have HS := Lib.hid hS
          clear hS
          go_wp2_with fail
          refine (scalar_any _ _).mono ?_
          rintro e w' ⟨rfl, rfl⟩
          go_wp2_with fail
          refine (class_eq a c _ HC.out).mono ?_
          rintro e w1 ⟨rfl, hb⟩
          have HB := Lib.hid hb
          clear hb
          go_wp2_with fail
          refine (sought_table S wideT 18 a _ (by rw [← HS.out]; kernel_rfl) (by omega) (by rw [← HS.out]; kernel_rfl) (by rw [← HS.out]; kernel_rfl) wideT_len).mono ?_
          rintro e w2 ⟨rfl, hb2⟩
          have HB2 := Lib.hid (bt HB.out hb2)
          clear hb2
          rw [HV.out]
          go_wp2
          go_ret
          exact ⟨ret_int (by rw [H0.out, if_neg h9, HC.out, if_neg HZ.out, if_neg c3, HV.out]), HB2.out⟩
theorem width_any (a : Int) (w : World) :
    Calls Try.prog 23 #[.int .i64 a] w fun e w' => e = .returned (.int .i64 (widthF a)) ∧ Below w.heap.size w w' := by
  cases h : scalarB a
  · exact width_out a w h
  · exact width_in a w h
theorem width_eq (a v : Int) (w : World) (h : widthF a = v) :
    Calls Try.prog 23 #[.int .i64 a] w fun e w' => e = .returned (.int .i64 v) ∧ Below w.heap.size w w' := by
  subst h; exact width_any a w
end Go.Proofs.Ytplgpnmahblhbaa
