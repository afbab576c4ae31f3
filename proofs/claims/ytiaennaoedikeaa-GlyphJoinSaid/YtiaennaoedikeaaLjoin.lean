/- The walk of GlyphJoin: it answers true, for every list. No condition. -/
import Derived.Test.YtiaennaoedikeaaGe
namespace Go.Proofs.Ytiaennaoedikeaa
open Go.RowKit
/-- where a table says K: just between p and q -/
def iffChk (K p q : Int) (l h v : Int) : Bool := if v == K then decide (p ≤ l) && decide (h ≤ q) else decide (h < p) || decide (q < l)
theorem iff_of_chk {K p q l h v a : Int} (hl : l ≤ a) (hh : a ≤ h) (hc : iffChk K p q l h v = true) : v = K ↔ p ≤ a ∧ a ≤ q := by
  unfold iffChk at hc
  split at hc
  · rename_i e; simp at e hc; exact ⟨fun _ => by omega, fun _ => e⟩
  · rename_i e; simp at e hc; exact ⟨fun h => absurd h e, fun h => by omega⟩
theorem sot_class_iff (a : Int) (h0 : 0 ≤ a) (h1 : a ≤ 1114111) :
    (sot classT a = 1 ↔ 13 ≤ a ∧ a ≤ 13) ∧ (sot classT a = 2 ↔ 10 ≤ a ∧ a ≤ 10) ∧ (sot classT a = 5 ↔ 8205 ≤ a ∧ a ≤ 8205) ∧ (sot classT a = 6 ↔ 127462 ≤ a ∧ a ≤ 127487) := by
  obtain ⟨l, h, hl, hh, hc⟩ := (sotD classT).each_ok 0 1114111
    (fun l h v => iffChk 1 13 13 l h v && iffChk 2 10 10 l h v && iffChk 5 8205 8205 l h v && iffChk 6 127462 127487 l h v) (by decide +kernel) a h0 h1
  rw [sotD_int] at hc
  simp only [Bool.and_eq_true] at hc
  exact ⟨iff_of_chk hl hh hc.1.1.1, iff_of_chk hl hh hc.1.1.2, iff_of_chk hl hh hc.1.2, iff_of_chk hl hh hc.2⟩
theorem class_iff (a : Int) : (classF a = 1 ↔ a = 13) ∧ (classF a = 2 ↔ a = 10) ∧ (classF a = 5 ↔ a = 8205) ∧ (classF a = 6 ↔ 127462 ≤ a ∧ a ≤ 127487) := by
  cases h : scalarB a
  · have hn : ¬ (0 ≤ a ∧ a < 55296 ∨ 57343 < a ∧ a ≤ 1114111) := by unfold scalarB at h; exact of_decide_eq_false h
    have hc : classF a = 3 := by unfold classF; rw [if_pos h]
    rw [hc]
    omega
  · have hb := scalar_bd h
    by_cases hh : 44032 ≤ a ∧ a < 55204
    · have hc : classF a = 12 ∨ classF a = 13 := by
        unfold classF; rw [if_neg (by rw [h]; decide), if_pos hh]; split
        · exact .inl rfl
        · exact .inr rfl
      omega
    · have hc : classF a = sot classT a := by unfold classF; rw [if_neg (by rw [h]; decide), if_neg hh]
      rw [hc]
      have := sot_class_iff a hb.1 hb.2
      omega
theorem conjT_bd (a : Int) : 0 ≤ sot conjT a ∧ sot conjT a ≤ 1 := sot_bd conjT 1 (by omega) (by decide +kernel) a
theorem join_cases (a : Int) :
    (127462 ≤ a ∧ a ≤ 127487 ∧ classF a = 6 ∧ conjF a = 0) ∨ a = 13 ∨ a = 10 ∨ a = 8205 ∨ a = 8204 ∨
    ((a < 127462 ∨ 127487 < a) ∧ a ≠ 13 ∧ a ≠ 10 ∧ a ≠ 8205 ∧ a ≠ 8204 ∧
      (classF a = 4 ∧ (conjF a = 2 ∨ conjF a = 3) ∨ classF a = 0 ∧ (conjF a = 0 ∨ conjF a = 1) ∨
        (classF a = 3 ∨ classF a = 7 ∨ classF a = 8 ∨ classF a = 9 ∨ classF a = 10 ∨ classF a = 11 ∨ classF a = 12 ∨ classF a = 13 ∨ classF a = 14) ∧ conjF a = 0)) := by
  obtain ⟨i1, i2, i5, i6⟩ := class_iff a
  have hb := class_bd a
  have hj := conjT_bd a
  by_cases hL : isLinker a = true
  · have hL' : a = 2381 ∨ a = 2509 ∨ a = 2765 ∨ a = 2893 ∨ a = 3149 ∨ a = 3405 := of_decide_eq_true hL
    have h3 : conjF a = 3 := by unfold conjF; rw [if_pos hL]
    have h4 : classF a = 4 := by rcases hL' with rfl | rfl | rfl | rfl | rfl | rfl <;> decide +kernel
    omega
  · by_cases hz : a = 8204
    · omega
    · have hcj : conjF a = if classF a = 4 ∨ classF a = 5 then 2 else if classF a = 0 ∧ scalarB a = true then sot conjT a else 0 := by
        unfold conjF; rw [if_neg hL, if_neg hz]
      rw [hcj]
      clear hcj hL
      generalize classF a = c at *
      generalize sot conjT a = t at *
      by_cases h45 : c = 4 ∨ c = 5
      · rw [if_pos h45]; omega
      · rw [if_neg h45]
        split
        · rename_i h0; omega
        · omega
set_option maxHeartbeats 4000000 in
theorem joined_any (a : Int) (w : World) :
    Calls Try.prog 9 #[.int .i64 a] w fun e w' => e = .returned (.bool true) ∧ Below w.heap.size w w' := by
  have hcs := join_cases a
  obtain ⟨c, hc⟩ : ∃ c, classF a = c := ⟨_, rfl⟩
  obtain ⟨j, hv⟩ : ∃ v, conjF a = v := ⟨_, rfl⟩
  rw [hc, hv] at hcs
  have HC := Lib.hid hc
  have HV := Lib.hid hv
  clear hc hv
  rcases hcs with ⟨h1, h2, rfl, rfl⟩ | rfl | rfl | rfl | rfl | ⟨hr, n1, n2, n3, n4, hcs⟩
  · have m1 : (a == 13) = false := beq_eq_false_iff_ne.2 (by omega)
    have m2 : (a == 10) = false := beq_eq_false_iff_ne.2 (by omega)
    have m3 : (a == 8205) = false := beq_eq_false_iff_ne.2 (by omega)
    have m4 : (a == 8204) = false := beq_eq_false_iff_ne.2 (by omega)
    have m5 : (a != 8204) = true := by rw [bne_iff_ne]; omega
    go_enter Try.func9, Try.ntmps9
    go_wp2_with fail
    refine (class_eq _ _ _ HC.out).mono ?_
    rintro e w1 ⟨rfl, hb1⟩
    have HB1 := Lib.hid (hb1)
    clear hb1
    go_wp2_with fail
    refine (conj_eq _ _ _ HV.out).mono ?_
    rintro e w2 ⟨rfl, hb2⟩
    have HB2 := Lib.hid (bt HB1.out hb2)
    clear hb2
    go_wp2
    go_ret
    exact ⟨rfl, HB2.out⟩
  · obtain rfl : c = 1 := by rw [← HC.out]; decide +kernel
    obtain rfl : j = 0 := by rw [← HV.out]; decide +kernel
    go_enter Try.func9, Try.ntmps9
    go_wp2_with fail
    refine (class_eq _ _ _ HC.out).mono ?_
    rintro e w1 ⟨rfl, hb1⟩
    have HB1 := Lib.hid (hb1)
    clear hb1
    go_wp2_with fail
    refine (conj_eq _ _ _ HV.out).mono ?_
    rintro e w2 ⟨rfl, hb2⟩
    have HB2 := Lib.hid (bt HB1.out hb2)
    clear hb2
    go_wp2
    go_ret
    exact ⟨rfl, HB2.out⟩
  · obtain rfl : c = 2 := by rw [← HC.out]; decide +kernel
    obtain rfl : j = 0 := by rw [← HV.out]; decide +kernel
    go_enter Try.func9, Try.ntmps9
    go_wp2_with fail
    refine (class_eq _ _ _ HC.out).mono ?_
    rintro e w1 ⟨rfl, hb1⟩
    have HB1 := Lib.hid (hb1)
    clear hb1
    go_wp2_with fail
    refine (conj_eq _ _ _ HV.out).mono ?_
    rintro e w2 ⟨rfl, hb2⟩
    have HB2 := Lib.hid (bt HB1.out hb2)
    clear hb2
    go_wp2
    go_ret
    exact ⟨rfl, HB2.out⟩
  · obtain rfl : c = 5 := by rw [← HC.out]; decide +kernel
    obtain rfl : j = 2 := by rw [← HV.out]; decide +kernel
    go_enter Try.func9, Try.ntmps9
    go_wp2_with fail
    refine (class_eq _ _ _ HC.out).mono ?_
    rintro e w1 ⟨rfl, hb1⟩
    have HB1 := Lib.hid (hb1)
    clear hb1
    go_wp2_with fail
    refine (conj_eq _ _ _ HV.out).mono ?_
    rintro e w2 ⟨rfl, hb2⟩
    have HB2 := Lib.hid (bt HB1.out hb2)
    clear hb2
    go_wp2
    go_ret
    exact ⟨rfl, HB2.out⟩
  · obtain rfl : c = 4 := by rw [← HC.out]; decide +kernel
    obtain rfl : j = 0 := by rw [← HV.out]; decide +kernel
    go_enter Try.func9, Try.ntmps9
    go_wp2_with fail
    refine (class_eq _ _ _ HC.out).mono ?_
    rintro e w1 ⟨rfl, hb1⟩
    have HB1 := Lib.hid (hb1)
    clear hb1
    go_wp2_with fail
    refine (conj_eq _ _ _ HV.out).mono ?_
    rintro e w2 ⟨rfl, hb2⟩
    have HB2 := Lib.hid (bt HB1.out hb2)
    clear hb2
    go_wp2
    go_ret
    exact ⟨rfl, HB2.out⟩
  · have m1 : (a == 13) = false := beq_eq_false_iff_ne.2 (by omega)
    have m2 : (a == 10) = false := beq_eq_false_iff_ne.2 (by omega)
    have m3 : (a == 8205) = false := beq_eq_false_iff_ne.2 (by omega)
    have m4 : (a == 8204) = false := beq_eq_false_iff_ne.2 (by omega)
    have m5 : (a != 8204) = true := by rw [bne_iff_ne]; omega
    clear n1 n2 n3 n4
    rcases hr with hr | hr
    all_goals
      rcases hcs with ⟨rfl, rfl | rfl⟩ | ⟨rfl, rfl | rfl⟩ | ⟨rfl | rfl | rfl | rfl | rfl | rfl | rfl | rfl | rfl, rfl⟩
      all_goals
        go_enter Try.func9, Try.ntmps9
        go_wp2_with fail
        refine (class_eq _ _ _ HC.out).mono ?_
        rintro e w1 ⟨rfl, hb1⟩
        have HB1 := Lib.hid (hb1)
        clear hb1
        go_wp2_with fail
        refine (conj_eq _ _ _ HV.out).mono ?_
        rintro e w2 ⟨rfl, hb2⟩
        have HB2 := Lib.hid (bt HB1.out hb2)
        clear hb2
        go_wp2
        go_ret
        exact ⟨rfl, HB2.out⟩
theorem word_out (a : Int) (h : scalarB a = false) : wordF a = 1 := by unfold wordF; rw [if_pos h]
theorem class_out (a : Int) (h : scalarB a = false) : classF a = 3 := by unfold classF; rw [if_pos h]
theorem conj_out (a : Int) (h : scalarB a = false) : conjF a = 0 := by
  have hn : ¬ (0 ≤ a ∧ a < 55296 ∨ 57343 < a ∧ a ≤ 1114111) := by unfold scalarB at h; exact of_decide_eq_false h
  unfold conjF
  rw [if_neg (by unfold isLinker; simp; omega), if_neg (by omega), class_out a h]
  rfl
set_option maxHeartbeats 4000000 in
theorem join_any (s : Option Addr) (len cap : Nat) (f : Nat → Int) (w : World) (hl : len ≤ maxLen) (hr : IsInts w s len f) :
    Calls Try.prog 5 #[.slice s len cap] w fun e w' => e = .returned (.bool true) ∧ Below w.heap.size w w' := by
  unfold maxLen at hl
  have HR := Lib.hid hr
  clear hr
  go_enter Try.func5, Try.ntmps5
  go_wp2_with fail
  refine (conj_eq 2325 1 _ (by decide +kernel)).mono ?_
  rintro e w1 ⟨rfl, hb1⟩
  have HB1 := Lib.hid (hb1)
  clear hb1
  go_wp2_with fail
  refine (conj_eq 2381 3 _ (by decide +kernel)).mono ?_
  rintro e w2 ⟨rfl, hb2⟩
  have HB2 := Lib.hid (bt HB1.out hb2)
  clear hb2
  go_wp2_with fail
  refine (class_eq 769 4 _ (by decide +kernel)).mono ?_
  rintro e w3 ⟨rfl, hb3⟩
  have HB3 := Lib.hid (bt HB2.out hb3)
  clear hb3
  go_wp2_with fail
  go_loopg [3] len (fun g i wr => ∃ k : Nat, k ≤ len ∧ g = len - k ∧ i = .int .i64 k ∧ Below w.heap.size w wr)
  case atStart => exact ⟨0, by omega, by omega, rfl, HB3.out⟩
  case round =>
    obtain ⟨k, hk, rfl, rfl, hb⟩ := hrel
    have HB := Lib.hid hb
    clear hb HB1 HB2 HB3
    by_cases hlt : k < len
    · obtain ⟨b, off, rfl, hcell⟩ := HR.out.at HB.out hlt
      generalize f k = a at hcell
      cases hsc : scalarB a
      · have hn : ¬ (0 ≤ a ∧ a < 55296 ∨ 57343 < a ∧ a ≤ 1114111) := by unfold scalarB at hsc; exact of_decide_eq_false hsc
        have hn2 : a < 0 ∨ 1114111 < a ∨ 55296 ≤ a ∧ a ≤ 57343 := by omega
        have HS := Lib.hid hsc
        clear hsc hn
        rcases hn2 with hn | hn | hn
        all_goals
          go_wp2_with fail
          refine (joined_any _ _).mono ?_
          rintro e w11 ⟨rfl, hb11⟩
          have HB11 := Lib.hid (bt HB.out hb11)
          clear hb11
          go_wp2_with fail
          refine (class_eq _ _ _ (class_out _ HS.out)).mono ?_
          rintro e w12 ⟨rfl, hb12⟩
          have HB12 := Lib.hid (bt HB11.out hb12)
          clear hb12
          go_wp2_with fail
          refine (conj_eq _ _ _ (conj_out _ HS.out)).mono ?_
          rintro e w13 ⟨rfl, hb13⟩
          have HB13 := Lib.hid (bt HB12.out hb13)
          clear hb13
          go_wp2_with fail
          refine (word_eq _ _ _ (word_out _ HS.out)).mono ?_
          rintro e w14 ⟨rfl, hb14⟩
          have HB14 := Lib.hid (bt HB13.out hb14)
          clear hb14
          go_wp2
          go_roundg (len - (k + 1))
          case measure => omega
          case rel => exact ⟨k + 1, by omega, rfl, by go_num, HB14.out⟩
      · have hn : 0 ≤ a ∧ a < 55296 ∨ 57343 < a ∧ a ≤ 1114111 := by unfold scalarB at hsc; exact of_decide_eq_true hsc
        clear hsc
        rcases hn with hn | hn
        all_goals
          go_wp2_with fail
          refine (joined_any _ _).mono ?_
          rintro e w11 ⟨rfl, hb11⟩
          have HB11 := Lib.hid (bt HB.out hb11)
          clear hb11
          go_wp2
          go_roundg (len - (k + 1))
          case measure => omega
          case rel => exact ⟨k + 1, by omega, rfl, by go_num, HB11.out⟩
    · go_wp2
      go_ret
      exact ⟨rfl, HB.out⟩
end Go.Proofs.Ytiaennaoedikeaa
