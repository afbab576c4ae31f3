/- Contracts: Class, Conjunct, Word, Width of package copyistref2 answer what the program's do. No condition. -/
import Derived.Test.YtplgpnmahblhbaaRa
import Derived.Test.YtplgpnmahblhbaaGw
namespace Go.Proofs.Ytplgpnmahblhbaa
open Go.RowKit
set_option maxHeartbeats 1000000 in
theorem rscalar_any (a : Int) (w : World) :
    Calls Try.prog 63 #[.int .i64 a] w fun e w' => e = .returned (.bool (scalarB a)) ∧ w = w' := by
  go_enter Try.func63, Try.ntmps63
  go_wp2
  all_goals
    go_ret
    exact ⟨ret_bool (by unfold scalarB; rw [Bool.eq_iff_iff]; simp; try omega), rfl⟩
set_option maxHeartbeats 1000000 in
theorem rraw_any (a : Int) (w : World) :
    Calls Try.prog 61 #[.int .i64 a] w fun e w' => e = .returned (.bool (decide (-256 ≤ a ∧ a < 0))) ∧ w = w' := by
  go_enter Try.func61, Try.ntmps61
  go_wp2
  all_goals
    go_ret
    exact ⟨ret_bool (by rw [Bool.eq_iff_iff]; simp; try omega), rfl⟩
set_option maxHeartbeats 1000000 in
theorem rlone_any (a : Int) (w : World) :
    Calls Try.prog 62 #[.int .i64 a] w fun e w' => e = .returned (.bool (decide (55296 ≤ a ∧ a ≤ 57343))) ∧ w = w' := by
  go_enter Try.func62, Try.ntmps62
  go_wp2
  all_goals
    go_ret
    exact ⟨ret_bool (by rw [Bool.eq_iff_iff]; simp; try omega), rfl⟩
def rawB (a : Int) : Bool := decide (-256 ≤ a ∧ a < 0)
def loneB (a : Int) : Bool := decide (55296 ≤ a ∧ a ≤ 57343)
theorem rraw_b (a : Int) (w : World) :
    Calls Try.prog 61 #[.int .i64 a] w fun e w' => e = .returned (.bool (rawB a)) ∧ w = w' := rraw_any a w
theorem rlone_b (a : Int) (w : World) :
    Calls Try.prog 62 #[.int .i64 a] w fun e w' => e = .returned (.bool (loneB a)) ∧ w = w' := rlone_any a w
set_option maxHeartbeats 1000000 in
theorem rclass_any (a : Int) (w : World) :
    Calls Try.prog 64 #[.int .i64 a] w fun e w' => e = .returned (.int .i64 (classF a)) ∧ w = w' := by
  by_cases h : scalarB a = true
  · have hfin := Lib.hid (show classF a = if 44032 ≤ a ∧ a < 55204 then (if (a - 44032) % 28 = 0 then 12 else 13) else sot classT a by unfold classF; simp [h])
    have h0 := scalar_bd h
    have h1 := h0.1
    have h2 := h0.2
    clear h0
    by_cases h3 : 44032 ≤ a
    · by_cases h4 : a < 55204
      · by_cases h5 : (a - 44032) % 28 = 0
        · have h6 : ((a - 44032) % 28 == 0) = true := by simp [h5]
          have H5 := Lib.hid h5
          clear h5
          go_enter Try.func64, Try.ntmps64
          go_wp2_with fail
          refine (rscalar_any _ _).mono ?_
          rintro e w' ⟨rfl, rfl⟩
          go_wp2
          go_ret
          exact ⟨ret_int (by rw [hfin.out, if_pos ⟨h3, h4⟩, if_pos H5.out]), rfl⟩
        · have h6 : ((a - 44032) % 28 == 0) = false := by simp [h5]
          have H5 := Lib.hid h5
          clear h5
          go_enter Try.func64, Try.ntmps64
          go_wp2_with fail
          refine (rscalar_any _ _).mono ?_
          rintro e w' ⟨rfl, rfl⟩
          go_wp2
          go_ret
          exact ⟨ret_int (by rw [hfin.out, if_pos ⟨h3, h4⟩, if_neg H5.out]), rfl⟩
      · have h5 : 55203 < a := by omega
        go_enter Try.func64, Try.ntmps64
        go_wp2_with fail
        refine (rscalar_any _ _).mono ?_
        rintro e w' ⟨rfl, rfl⟩
        go_wp2_with fail
        refine (class3_sx _ _).mono ?_
        rintro e w' ⟨rfl, rfl⟩
        go_wp2
        go_ret
        exact ⟨ret_int (by rw [hfin.out, if_neg (by omega), class3_eq a (by omega) (by omega)]), rfl⟩
    · by_cases h4 : a < 3076
      · go_enter Try.func64, Try.ntmps64
        go_wp2_with fail
        refine (rscalar_any _ _).mono ?_
        rintro e w' ⟨rfl, rfl⟩
        go_wp2_with fail
        refine (class1_sx _ _).mono ?_
        rintro e w' ⟨rfl, rfl⟩
        go_wp2
        go_ret
        exact ⟨ret_int (by rw [hfin.out, if_neg (by omega), class1_eq a (by omega) (by omega)]), rfl⟩
      · by_cases h5 : a < 8505
        · go_enter Try.func64, Try.ntmps64
          go_wp2_with fail
          refine (rscalar_any _ _).mono ?_
          rintro e w' ⟨rfl, rfl⟩
          go_wp2_with fail
          refine (class2_sx _ _).mono ?_
          rintro e w' ⟨rfl, rfl⟩
          go_wp2
          go_ret
          exact ⟨ret_int (by rw [hfin.out, if_neg (by omega), class2_eq a (by omega) (by omega)]), rfl⟩
        · go_enter Try.func64, Try.ntmps64
          go_wp2_with fail
          refine (rscalar_any _ _).mono ?_
          rintro e w' ⟨rfl, rfl⟩
          go_wp2_with fail
          refine (class3_sx _ _).mono ?_
          rintro e w' ⟨rfl, rfl⟩
          go_wp2
          go_ret
          exact ⟨ret_int (by rw [hfin.out, if_neg (by omega), class3_eq a (by omega) (by omega)]), rfl⟩
  · have h' : scalarB a = false := by simpa using h
    have hfin := Lib.hid (show classF a = 3 by unfold classF; simp [h'])
    clear h
    go_enter Try.func64, Try.ntmps64
    go_wp2_with fail
    refine (rscalar_any _ _).mono ?_
    rintro e w' ⟨rfl, rfl⟩
    go_wp2
    go_ret
    exact ⟨ret_int (by rw [hfin.out]), rfl⟩
theorem rclass_eq (a : Int) (w : World) (v : Int) (h : classF a = v) :
    Calls Try.prog 64 #[.int .i64 a] w fun e w' => e = .returned (.int .i64 v) ∧ w = w' := by
  subst h; exact rclass_any a w
/-- what the document's text answers is what the program's does -/
theorem conj_doc (a : Int) (hL : isLinker a ≠ true) : conjF a = if (classF a = 4 ∨ classF a = 5) ∧ a ≠ 8204 then 2 else if (sxFn Try.f74).int a = 1 then 1 else 0 := by
  unfold conjF
  rw [if_neg hL]
  by_cases hz : a = 8204
  · subst hz; rw [if_pos rfl, if_neg (by omega), if_neg (by intro h; have := consonant_other _ h; revert this; decide +kernel)]
  · rw [if_neg hz]
    by_cases h45 : classF a = 4 ∨ classF a = 5
    · rw [if_pos h45, if_pos ⟨h45, hz⟩]
    · rw [if_neg h45, if_neg (show ¬ ((classF a = 4 ∨ classF a = 5) ∧ a ≠ 8204) from fun h => h45 h.1)]
      by_cases h0 : classF a = 0
      · have hs : scalarB a = true := by
          cases h : scalarB a
          · unfold classF at h0; rw [if_pos h] at h0; cases h0
          · rfl
        have hb := scalar_bd hs
        have hh : ¬ (44032 ≤ a ∧ a < 55204) := by
          intro hh; unfold classF at h0; rw [if_neg (by rw [hs]; decide), if_pos hh] at h0
          split at h0 <;> cases h0
        have hc : sot classT a = 0 := by unfold classF at h0; rw [if_neg (by rw [hs]; decide), if_neg hh] at h0; exact h0
        rw [if_pos ⟨h0, hs⟩, consonant_eq a hb.1 hb.2 hc]
        have := sot_bd conjT 1 (by omega) (by decide +kernel) a
        split <;> omega
      · rw [if_neg (show ¬ (classF a = 0 ∧ scalarB a = true) from fun h => h0 h.1), if_neg (fun h => h0 (consonant_other a h))]
noncomputable def consB (a : Int) : Bool := decide ((sxFn Try.f74).int a = 1)
theorem cons_b (a : Int) (w : World) :
    Calls Try.prog 74 #[.int .i64 a] w fun e w' => e = .returned (.bool (consB a)) ∧ w = w' := consonant_sx a w
set_option maxHeartbeats 1000000 in
theorem rconj_any (a : Int) (w : World) :
    Calls Try.prog 73 #[.int .i64 a] w fun e w' => e = .returned (.int .i64 (conjF a)) ∧ w = w' := by
  by_cases hL : isLinker a = true
  · have hL' : a = 2381 ∨ a = 2509 ∨ a = 2765 ∨ a = 2893 ∨ a = 3149 ∨ a = 3405 := of_decide_eq_true hL
    clear hL
    rcases hL' with rfl | rfl | rfl | rfl | rfl | rfl
    all_goals
      go_enter Try.func73, Try.ntmps73
      go_wp2
      go_ret
      exact ⟨ret_int (by decide +kernel), rfl⟩
  · have hfin := Lib.hid (conj_doc a hL)
    have hn : ¬ (a = 2381 ∨ a = 2509 ∨ a = 2765 ∨ a = 2893 ∨ a = 3149 ∨ a = 3405) := fun h => hL (decide_eq_true h)
    have n1 : (a == 2381) = false := beq_eq_false_iff_ne.2 (by omega)
    have n2 : (a == 2509) = false := beq_eq_false_iff_ne.2 (by omega)
    have n3 : (a == 2765) = false := beq_eq_false_iff_ne.2 (by omega)
    have n4 : (a == 2893) = false := beq_eq_false_iff_ne.2 (by omega)
    have n5 : (a == 3149) = false := beq_eq_false_iff_ne.2 (by omega)
    have n6 : (a == 3405) = false := beq_eq_false_iff_ne.2 (by omega)
    clear hn hL
    obtain ⟨c, hc⟩ : ∃ c, classF a = c := ⟨_, rfl⟩
    have HC := Lib.hid hc
    clear hc
    by_cases hz : a = 8204
    · subst hz
      obtain rfl : c = 4 := by rw [← HC.out]; decide +kernel
      have hk : consB 8204 = false := by kernel_rfl
      go_enter Try.func73, Try.ntmps73
      go_wp2_with fail
      refine (rclass_eq _ _ _ HC.out).mono ?_
      rintro e w' ⟨rfl, rfl⟩
      go_wp2_with fail
      refine (cons_b _ _).mono ?_
      rintro e w' ⟨rfl, rfl⟩
      go_wp2
      go_ret
      exact ⟨ret_int (by rw [hfin.out]; kernel_rfl), rfl⟩
    · have z1 : (a != 8204) = true := by rw [bne_iff_ne]; exact hz
      have HZ := Lib.hid hz
      clear hz
      by_cases h45 : c = 4 ∨ c = 5
      · rcases h45 with rfl | rfl
        all_goals
          go_enter Try.func73, Try.ntmps73
          go_wp2_with fail
          refine (rclass_eq _ _ _ HC.out).mono ?_
          rintro e w' ⟨rfl, rfl⟩
          go_wp2
          go_ret
          exact ⟨ret_int (by rw [hfin.out, if_pos ⟨by rw [HC.out]; omega, HZ.out⟩]), rfl⟩
      · have c4 : (c == 4) = false := beq_eq_false_iff_ne.2 (by omega)
        have c5 : (c == 5) = false := beq_eq_false_iff_ne.2 (by omega)
        have H45 := Lib.hid h45
        clear h45
        cases hk : consB a
        all_goals
          have HK := Lib.hid hk
          go_enter Try.func73, Try.ntmps73
          go_wp2_with fail
          refine (rclass_eq _ _ _ HC.out).mono ?_
          rintro e w' ⟨rfl, rfl⟩
          go_wp2_with fail
          refine (cons_b _ _).mono ?_
          rintro e w' ⟨rfl, rfl⟩
          go_wp2
          go_ret
          refine ⟨ret_int ?_, rfl⟩
          rw [hfin.out, if_neg (fun h => H45.out (by rw [← HC.out]; exact h.1))]
          first | rw [if_pos (of_decide_eq_true HK.out)] | rw [if_neg (of_decide_eq_false HK.out)]
noncomputable def wideB (a : Int) : Bool := decide ((sxFn Try.f65).int a = 1)
theorem width_doc (a : Int) : widthF a = if rawB a then 4 else if loneB a then 6 else if scalarB a = false ∨ a = 9 then 0 else
    if zeroClass (classF a) then 0 else if classF a = 3 then (if a ≤ 159 then 2 else 1) else if wideB a then 2 else 1 := by
  unfold widthF rawB loneB wideB
  simp only [decide_eq_true_eq]
  by_cases hs : scalarB a = false ∨ a = 9
  · rw [if_pos hs, if_pos hs]
  · have hb := scalar_bd (a := a) (by cases h : scalarB a; exact absurd (.inl h) hs; rfl)
    have hw := sot_bd wideT 1 (by omega) (by decide +kernel) a
    rw [if_neg hs, if_neg hs, wide_eq a hb.1 hb.2]
    have e : (1 + sot wideT a) = if sot wideT a = 1 then 2 else 1 := by split <;> omega
    rw [e]
theorem wide_b (a : Int) (w : World) :
    Calls Try.prog 65 #[.int .i64 a] w fun e w' => e = .returned (.bool (wideB a)) ∧ w = w' := wide_sx a w
set_option maxHeartbeats 2000000 in
theorem rwidth_any (a : Int) (w : World) :
    Calls Try.prog 59 #[.int .i64 a] w fun e w' => e = .returned (.int .i64 (widthF a)) ∧ w = w' := by
  have hfin := Lib.hid (width_doc a)
  cases hr : rawB a
  · have HR := Lib.hid hr
    cases hn : loneB a
    · have HN := Lib.hid hn
      cases hs : scalarB a
      · have HS := Lib.hid hs
        go_enter Try.func59, Try.ntmps59
        go_wp2_with fail
        refine (rraw_b _ _).mono ?_
        rintro e w' ⟨rfl, rfl⟩
        go_wp2_with fail
        refine (rlone_b _ _).mono ?_
        rintro e w' ⟨rfl, rfl⟩
        go_wp2_with fail
        refine (rscalar_any _ _).mono ?_
        rintro e w' ⟨rfl, rfl⟩
        go_wp2
        go_ret
        exact ⟨ret_int (by rw [hfin.out, HR.out, HN.out, HS.out]; rfl), rfl⟩
      · have HS := Lib.hid hs
        by_cases h9 : a = 9
        · subst h9
          go_enter Try.func59, Try.ntmps59
          go_wp2_with fail
          refine (rraw_b _ _).mono ?_
          rintro e w' ⟨rfl, rfl⟩
          go_wp2_with fail
          refine (rlone_b _ _).mono ?_
          rintro e w' ⟨rfl, rfl⟩
          go_wp2_with fail
          refine (rscalar_any _ _).mono ?_
          rintro e w' ⟨rfl, rfl⟩
          go_wp2
          go_ret
          exact ⟨ret_int (by decide +kernel), rfl⟩
        · have n9 : (a == 9) = false := beq_eq_false_iff_ne.2 h9
          have H9 := Lib.hid (show ¬ (scalarB a = false ∨ a = 9) by rintro (h | h); rw [hs] at h; cases h; exact h9 h)
          clear h9
          obtain ⟨c, hc⟩ : ∃ c, classF a = c := ⟨_, rfl⟩
          have HC := Lib.hid hc
          clear hc
          have H0 := Lib.hid (show widthF a = if zeroClass c then 0 else if c = 3 then (if a ≤ 159 then 2 else 1) else if wideB a then 2 else 1 by rw [hfin.out, HR.out, HN.out, if_neg (by decide), if_neg (by decide), if_neg H9.out, HC.out])
          by_cases hz : zeroClass c = true
          · have hz' : c = 1 ∨ c = 2 ∨ c = 4 ∨ c = 5 ∨ c = 10 ∨ c = 11 := of_decide_eq_true hz
            clear hz
            rcases hz' with rfl | rfl | rfl | rfl | rfl | rfl
            all_goals
              go_enter Try.func59, Try.ntmps59
              go_wp2_with fail
              refine (rraw_b _ _).mono ?_
              rintro e w' ⟨rfl, rfl⟩
              go_wp2_with fail
              refine (rlone_b _ _).mono ?_
              rintro e w' ⟨rfl, rfl⟩
              go_wp2_with fail
              refine (rscalar_any _ _).mono ?_
              rintro e w' ⟨rfl, rfl⟩
              go_wp2_with fail
              refine (rclass_eq _ _ _ HC.out).mono ?_
              rintro e w' ⟨rfl, rfl⟩
              go_wp2
              go_ret
              exact ⟨ret_int (by rw [H0.out]; rfl), rfl⟩
          · have hn' : ¬ (c = 1 ∨ c = 2 ∨ c = 4 ∨ c = 5 ∨ c = 10 ∨ c = 11) := fun h => hz (decide_eq_true h)
            have n21 : (c == 1) = false := beq_eq_false_iff_ne.2 (by omega)
            have n22 : (c == 2) = false := beq_eq_false_iff_ne.2 (by omega)
            have n24 : (c == 4) = false := beq_eq_false_iff_ne.2 (by omega)
            have n25 : (c == 5) = false := beq_eq_false_iff_ne.2 (by omega)
            have n30 : (c == 10) = false := beq_eq_false_iff_ne.2 (by omega)
            have n31 : (c == 11) = false := beq_eq_false_iff_ne.2 (by omega)
            have HZ := Lib.hid hz
            clear hn' hz
            by_cases c3 : c = 3
            · subst c3
              by_cases h159 : a ≤ 159
              · go_enter Try.func59, Try.ntmps59
                go_wp2_with fail
                refine (rraw_b _ _).mono ?_
                rintro e w' ⟨rfl, rfl⟩
                go_wp2_with fail
                refine (rlone_b _ _).mono ?_
                rintro e w' ⟨rfl, rfl⟩
                go_wp2_with fail
                refine (rscalar_any _ _).mono ?_
                rintro e w' ⟨rfl, rfl⟩
                go_wp2_with fail
                refine (rclass_eq _ _ _ HC.out).mono ?_
                rintro e w' ⟨rfl, rfl⟩
                go_wp2
                go_ret
                exact ⟨ret_int (by rw [H0.out, if_neg HZ.out]; simp [h159]), rfl⟩
              · go_enter Try.func59, Try.ntmps59
                go_wp2_with fail
                refine (rraw_b _ _).mono ?_
                rintro e w' ⟨rfl, rfl⟩
                go_wp2_with fail
                refine (rlone_b _ _).mono ?_
                rintro e w' ⟨rfl, rfl⟩
                go_wp2_with fail
                refine (rscalar_any _ _).mono ?_
                rintro e w' ⟨rfl, rfl⟩
                go_wp2_with fail
                refine (rclass_eq _ _ _ HC.out).mono ?_
                rintro e w' ⟨rfl, rfl⟩
                go_wp2
                go_ret
                exact ⟨ret_int (by rw [H0.out, if_neg HZ.out]; simp [Int.not_le.2 h159]), rfl⟩
            · have n33 : (c == 3) = false := beq_eq_false_iff_ne.2 c3
              have C3 := Lib.hid c3
              clear c3
              cases hk : wideB a
              all_goals
                have HK := Lib.hid hk
                go_enter Try.func59, Try.ntmps59
                go_wp2_with fail
                refine (rraw_b _ _).mono ?_
                rintro e w' ⟨rfl, rfl⟩
                go_wp2_with fail
                refine (rlone_b _ _).mono ?_
                rintro e w' ⟨rfl, rfl⟩
                go_wp2_with fail
                refine (rscalar_any _ _).mono ?_
                rintro e w' ⟨rfl, rfl⟩
                go_wp2_with fail
                refine (rclass_eq _ _ _ HC.out).mono ?_
                rintro e w' ⟨rfl, rfl⟩
                go_wp2_with fail
                refine (wide_b _ _).mono ?_
                rintro e w' ⟨rfl, rfl⟩
                go_wp2
                go_ret
                exact ⟨ret_int (by rw [H0.out, if_neg HZ.out, if_neg C3.out, HK.out]; rfl), rfl⟩
    · have HN := Lib.hid hn
      go_enter Try.func59, Try.ntmps59
      go_wp2_with fail
      refine (rraw_b _ _).mono ?_
      rintro e w' ⟨rfl, rfl⟩
      go_wp2_with fail
      refine (rlone_b _ _).mono ?_
      rintro e w' ⟨rfl, rfl⟩
      go_wp2
      go_ret
      exact ⟨ret_int (by rw [hfin.out, HR.out, HN.out]; rfl), rfl⟩
  · have HR := Lib.hid hr
    go_enter Try.func59, Try.ntmps59
    go_wp2_with fail
    refine (rraw_b _ _).mono ?_
    rintro e w' ⟨rfl, rfl⟩
    go_wp2
    go_ret
    exact ⟨ret_int (by rw [hfin.out, HR.out]; rfl), rfl⟩
end Go.Proofs.Ytplgpnmahblhbaa
