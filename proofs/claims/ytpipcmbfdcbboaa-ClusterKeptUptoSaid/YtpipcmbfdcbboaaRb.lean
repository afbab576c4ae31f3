/- Contracts: Class, Conjunct, Word, Width of package copyistref2 answer what the program's do. No condition. -/
import Derived.Test.YtpipcmbfdcbboaaRa
namespace Go.Proofs.Ytpipcmbfdcbboaa
open Go.RowKit
set_option maxHeartbeats 1000000 in
theorem rscalar_any (a : Int) (w : World) :
    Calls Try.prog 63 #[.int .i64 a] w fun e w' => e = .returned (.bool (scalarB a)) ∧ w = w' := by
  go_enter Try.func63, Try.ntmps63
  go_wp2
  all_goals
    go_ret
    exact ⟨ret_bool (by unfold scalarB; rw [Bool.eq_iff_iff]; simp; try omega), rfl⟩
set_option maxHeartbeats 1000000 in
theorem rclass_any (a : Int) (w : World) :
    Calls Try.prog 47 #[.int .i64 a] w fun e w' => e = .returned (.int .i64 (classF a)) ∧ w = w' := by
  by_cases h : scalarB a = true
  · have hfin := Lib.hid (show classF a = if 44032 ≤ a ∧ a < 55204 then (if (a - 44032) % 28 = 0 then 12 else 13) else sot classT a by unfold classF; simp [h])
    have h0 := scalar_bd h
    have h1 := h0.1
    have h2 := h0.2
    clear h0
    by_cases h3 : 44032 ≤ a
    · by_cases h4 : a < 55204
      · by_cases h5 : (a - 44032) % 28 = 0
        · have h6 : ((a - 44032) % 28 == 0) = true := by simp [h5]
          have H5 := Lib.hid h5
          clear h5
          go_enter Try.func47, Try.ntmps47
          go_wp2_with fail
          refine (rscalar_any _ _).mono ?_
          rintro e w' ⟨rfl, rfl⟩
          go_wp2
          go_ret
          exact ⟨ret_int (by rw [hfin.out, if_pos ⟨h3, h4⟩, if_pos H5.out]), rfl⟩
        · have h6 : ((a - 44032) % 28 == 0) = false := by simp [h5]
          have H5 := Lib.hid h5
          clear h5
          go_enter Try.func47, Try.ntmps47
          go_wp2_with fail
          refine (rscalar_any _ _).mono ?_
          rintro e w' ⟨rfl, rfl⟩
          go_wp2
          go_ret
          exact ⟨ret_int (by rw [hfin.out, if_pos ⟨h3, h4⟩, if_neg H5.out]), rfl⟩
      · have h5 : 55203 < a := by omega
        go_enter Try.func47, Try.ntmps47
        go_wp2_with fail
        refine (rscalar_any _ _).mono ?_
        rintro e w' ⟨rfl, rfl⟩
        go_wp2_with fail
        refine (class3_sx _ _).mono ?_
        rintro e w' ⟨rfl, rfl⟩
        go_wp2
        go_ret
        exact ⟨ret_int (by rw [hfin.out, if_neg (by omega), class3_eq a (by omega) (by omega)]), rfl⟩
    · by_cases h4 : a < 3076
      · go_enter Try.func47, Try.ntmps47
        go_wp2_with fail
        refine (rscalar_any _ _).mono ?_
        rintro e w' ⟨rfl, rfl⟩
        go_wp2_with fail
        refine (class1_sx _ _).mono ?_
        rintro e w' ⟨rfl, rfl⟩
        go_wp2
        go_ret
        exact ⟨ret_int (by rw [hfin.out, if_neg (by omega), class1_eq a (by omega) (by omega)]), rfl⟩
      · by_cases h5 : a < 8505
        · go_enter Try.func47, Try.ntmps47
          go_wp2_with fail
          refine (rscalar_any _ _).mono ?_
          rintro e w' ⟨rfl, rfl⟩
          go_wp2_with fail
          refine (class2_sx _ _).mono ?_
          rintro e w' ⟨rfl, rfl⟩
          go_wp2
          go_ret
          exact ⟨ret_int (by rw [hfin.out, if_neg (by omega), class2_eq a (by omega) (by omega)]), rfl⟩
        · go_enter Try.func47, Try.ntmps47
          go_wp2_with fail
          refine (rscalar_any _ _).mono ?_
          rintro e w' ⟨rfl, rfl⟩
          go_wp2_with fail
          refine (class3_sx _ _).mono ?_
          rintro e w' ⟨rfl, rfl⟩
          go_wp2
          go_ret
          exact ⟨ret_int (by rw [hfin.out, if_neg (by omega), class3_eq a (by omega) (by omega)]), rfl⟩
  · have h' : scalarB a = false := by simpa using h
    have hfin := Lib.hid (show classF a = 3 by unfold classF; simp [h'])
    clear h
    go_enter Try.func47, Try.ntmps47
    go_wp2_with fail
    refine (rscalar_any _ _).mono ?_
    rintro e w' ⟨rfl, rfl⟩
    go_wp2
    go_ret
    exact ⟨ret_int (by rw [hfin.out]), rfl⟩
theorem rclass_eq (a : Int) (w : World) (v : Int) (h : classF a = v) :
    Calls Try.prog 47 #[.int .i64 a] w fun e w' => e = .returned (.int .i64 v) ∧ w = w' := by
  subst h; exact rclass_any a w
/-- what the document's text answers is what the program's does -/
theorem conj_doc (a : Int) (hL : isLinker a ≠ true) : conjF a = if (classF a = 4 ∨ classF a = 5) ∧ a ≠ 8204 then 2 else if (sxFn Try.f70).int a = 1 then 1 else 0 := by
  unfold conjF
  rw [if_neg hL]
  by_cases hz : a = 8204
  · subst hz; rw [if_pos rfl, if_neg (by omega), if_neg (by intro h; have := consonant_other _ h; revert this; decide +kernel)]
  · rw [if_neg hz]
    by_cases h45 : classF a = 4 ∨ classF a = 5
    · rw [if_pos h45, if_pos ⟨h45, hz⟩]
    · rw [if_neg h45, if_neg (show ¬ ((classF a = 4 ∨ classF a = 5) ∧ a ≠ 8204) from fun h => h45 h.1)]
      by_cases h0 : classF a = 0
      · have hs : scalarB a = true := by
          cases h : scalarB a
          · unfold classF at h0; rw [if_pos h] at h0; cases h0
          · rfl
        have hb := scalar_bd hs
        have hh : ¬ (44032 ≤ a ∧ a < 55204) := by
          intro hh; unfold classF at h0; rw [if_neg (by rw [hs]; decide), if_pos hh] at h0
          split at h0 <;> cases h0
        have hc : sot classT a = 0 := by unfold classF at h0; rw [if_neg (by rw [hs]; decide), if_neg hh] at h0; exact h0
        rw [if_pos ⟨h0, hs⟩, consonant_eq a hb.1 hb.2 hc]
        have := sot_bd conjT 1 (by omega) (by decide +kernel) a
        split <;> omega
      · rw [if_neg (show ¬ (classF a = 0 ∧ scalarB a = true) from fun h => h0 h.1), if_neg (fun h => h0 (consonant_other a h))]
noncomputable def consB (a : Int) : Bool := decide ((sxFn Try.f70).int a = 1)
theorem cons_b (a : Int) (w : World) :
    Calls Try.prog 70 #[.int .i64 a] w fun e w' => e = .returned (.bool (consB a)) ∧ w = w' := consonant_sx a w
set_option maxHeartbeats 1000000 in
theorem rconj_any (a : Int) (w : World) :
    Calls Try.prog 67 #[.int .i64 a] w fun e w' => e = .returned (.int .i64 (conjF a)) ∧ w = w' := by
  by_cases hL : isLinker a = true
  · have hL' : a = 2381 ∨ a = 2509 ∨ a = 2765 ∨ a = 2893 ∨ a = 3149 ∨ a = 3405 := of_decide_eq_true hL
    clear hL
    rcases hL' with rfl | rfl | rfl | rfl | rfl | rfl
    all_goals
      go_enter Try.func67, Try.ntmps67
      go_wp2
      go_ret
      exact ⟨ret_int (by decide +kernel), rfl⟩
  · have hfin := Lib.hid (conj_doc a hL)
    have hn : ¬ (a = 2381 ∨ a = 2509 ∨ a = 2765 ∨ a = 2893 ∨ a = 3149 ∨ a = 3405) := fun h => hL (decide_eq_true h)
    have n1 : (a == 2381) = false := beq_eq_false_iff_ne.2 (by omega)
    have n2 : (a == 2509) = false := beq_eq_false_iff_ne.2 (by omega)
    have n3 : (a == 2765) = false := beq_eq_false_iff_ne.2 (by omega)
    have n4 : (a == 2893) = false := beq_eq_false_iff_ne.2 (by omega)
    have n5 : (a == 3149) = false := beq_eq_false_iff_ne.2 (by omega)
    have n6 : (a == 3405) = false := beq_eq_false_iff_ne.2 (by omega)
    clear hn hL
    obtain ⟨c, hc⟩ : ∃ c, classF a = c := ⟨_, rfl⟩
    have HC := Lib.hid hc
    clear hc
    by_cases hz : a = 8204
    · subst hz
      obtain rfl : c = 4 := by rw [← HC.out]; decide +kernel
      have hk : consB 8204 = false := by kernel_rfl
      go_enter Try.func67, Try.ntmps67
      go_wp2_with fail
      refine (rclass_eq _ _ _ HC.out).mono ?_
      rintro e w' ⟨rfl, rfl⟩
      go_wp2_with fail
      refine (cons_b _ _).mono ?_
      rintro e w' ⟨rfl, rfl⟩
      go_wp2
      go_ret
      exact ⟨ret_int (by rw [hfin.out]; kernel_rfl), rfl⟩
    · have z1 : (a != 8204) = true := by rw [bne_iff_ne]; exact hz
      have HZ := Lib.hid hz
      clear hz
      by_cases h45 : c = 4 ∨ c = 5
      · rcases h45 with rfl | rfl
        all_goals
          go_enter Try.func67, Try.ntmps67
          go_wp2_with fail
          refine (rclass_eq _ _ _ HC.out).mono ?_
          rintro e w' ⟨rfl, rfl⟩
          go_wp2
          go_ret
          exact ⟨ret_int (by rw [hfin.out, if_pos ⟨by rw [HC.out]; omega, HZ.out⟩]), rfl⟩
      · have c4 : (c == 4) = false := beq_eq_false_iff_ne.2 (by omega)
        have c5 : (c == 5) = false := beq_eq_false_iff_ne.2 (by omega)
        have H45 := Lib.hid h45
        clear h45
        cases hk : consB a
        all_goals
          have HK := Lib.hid hk
          go_enter Try.func67, Try.ntmps67
          go_wp2_with fail
          refine (rclass_eq _ _ _ HC.out).mono ?_
          rintro e w' ⟨rfl, rfl⟩
          go_wp2_with fail
          refine (cons_b _ _).mono ?_
          rintro e w' ⟨rfl, rfl⟩
          go_wp2
          go_ret
          refine ⟨ret_int ?_, rfl⟩
          rw [hfin.out, if_neg (fun h => H45.out (by rw [← HC.out]; exact h.1))]
          first | rw [if_pos (of_decide_eq_true HK.out)] | rw [if_neg (of_decide_eq_false HK.out)]
end Go.Proofs.Ytpipcmbfdcbboaa
