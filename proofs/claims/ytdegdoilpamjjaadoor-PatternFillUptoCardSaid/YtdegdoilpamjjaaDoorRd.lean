/- Contracts: Upper, Lower, Turn of package copyistref2 answer what the program's do. No condition. -/
import Derived.Test.YtdegdoilpamjjaaDoorBa
import Derived.Test.YtdegdoilpamjjaaDoorUf
namespace Go.Proofs.YtdegdoilpamjjaaDoor
open Go.RowKit
theorem touched_one (a : Int) (h : (oneT.any fun r => r.1 == a) = true) : touched a = true := by unfold touched; rw [h]; rfl
theorem touched_back (a l h : Int) (hl : l ≤ a) (hh : a ≤ h) (hc : (distT.any fun r => decide (r.1 + r.2.2 ≤ l) && decide (h ≤ r.2.1 + r.2.2)) = true) : touched a = true := by
  have : (distT.any fun r => decide (r.1 + r.2.2 ≤ a) && decide (a ≤ r.2.1 + r.2.2)) = true := by
    rw [List.any_eq_true] at hc ⊢
    obtain ⟨r, hr, h⟩ := hc
    exact ⟨r, hr, by simp at h ⊢; omega⟩
  unfold touched; rw [this]; simp
theorem touched_dist (a l h : Int) (hl : l ≤ a) (hh : a ≤ h) (hc : (distT.any fun r => decide (r.1 ≤ l) && decide (h ≤ r.2.1)) = true) : touched a = true := by
  have : (distT.any fun r => decide (r.1 ≤ a) && decide (a ≤ r.2.1)) = true := by
    rw [List.any_eq_true] at hc ⊢
    obtain ⟨r, hr, h⟩ := hc
    exact ⟨r, hr, by simp at h ⊢; omega⟩
  unfold touched; rw [this]; simp
theorem touched_pair (a l h : Int) (hl : l ≤ a) (hh : a ≤ h) (hc : (pairT.any fun r => decide (r.1 ≤ l) && decide (h ≤ r.2)) = true) : touched a = true := by
  have : (pairT.any fun r => decide (r.1 ≤ a) && decide (a ≤ r.2)) = true := by
    rw [List.any_eq_true] at hc ⊢
    obtain ⟨r, hr, h⟩ := hc
    exact ⟨r, hr, by simp at h ⊢; omega⟩
  unfold touched; rw [this]; simp
noncomputable def backI (a : Int) : Int := (sxFn Tryd.f86).int a
noncomputable def distI (a : Int) : Int := (sxFn Tryd.f88).int a
noncomputable def pairI (a : Int) : Int := (sxFn Tryd.f87).int a
theorem back_sx (a : Int) (w : World) : Calls Tryd.prog 86 #[.int .i64 a] w fun e w' => e = .returned (.int .i64 (backI a)) ∧ w = w' := by
  unfold backI
  rw [← DT.den_int a _ (by kernel_rfl)]
  exact calls_of_sx Tryd.func86 (of_decide_eq_true (by kernel_rfl)) (by kernel_rfl) a w
theorem back_facts (a : Int) : backI a = 0 ∨ (0 ≤ a ∧ a ≤ 70000 ∧ (-121 ≤ backI a ∧ backI a ≤ 80) ∧ touched a = true) := by
  by_cases h0 : a < 0
  · left; unfold backI; rw [DT.lowB_int (m := -1) (by omega) _ (by kernel_rfl)]; kernel_rfl
  · by_cases h1 : 70000 < a
    · left; unfold backI; rw [DT.highB_int (m := 70001) (by omega) _ (by kernel_rfl)]; kernel_rfl
    · obtain ⟨l, h, hl, hh, hc⟩ := (sxFn Tryd.f86).each_ok 0 70000 (fun l h v => (v == 0) || (decide (-121 ≤ v) && decide (v ≤ 80) && (distT.any fun r => decide (r.1 + r.2.2 ≤ l) && decide (h ≤ r.2.1 + r.2.2)))) (by kernel_rfl) a (by omega) (by omega)
      change ((backI a == 0) || _) = true at hc
      rw [Bool.or_eq_true] at hc
      rcases hc with hc | hc
      · exact .inl (beq_iff_eq.1 hc)
      · rw [Bool.and_eq_true] at hc
        refine .inr ⟨by omega, by omega, ?_, touched_back a l h hl hh hc.2⟩
        have := hc.1
        simp at this
        change -121 ≤ backI a ∧ backI a ≤ 80
        unfold backI
        omega
theorem dist_sx (a : Int) (w : World) : Calls Tryd.prog 88 #[.int .i64 a] w fun e w' => e = .returned (.int .i64 (distI a)) ∧ w = w' := by
  unfold distI
  rw [← DT.den_int a _ (by kernel_rfl)]
  exact calls_of_sx Tryd.func88 (of_decide_eq_true (by kernel_rfl)) (by kernel_rfl) a w
theorem dist_facts (a : Int) : distI a = 0 ∨ (0 ≤ a ∧ a ≤ 70000 ∧ (-121 ≤ distI a ∧ distI a ≤ 80) ∧ touched a = true) := by
  by_cases h0 : a < 0
  · left; unfold distI; rw [DT.lowB_int (m := -1) (by omega) _ (by kernel_rfl)]; kernel_rfl
  · by_cases h1 : 70000 < a
    · left; unfold distI; rw [DT.highB_int (m := 70001) (by omega) _ (by kernel_rfl)]; kernel_rfl
    · obtain ⟨l, h, hl, hh, hc⟩ := (sxFn Tryd.f88).each_ok 0 70000 (fun l h v => (v == 0) || (decide (-121 ≤ v) && decide (v ≤ 80) && (distT.any fun r => decide (r.1 ≤ l) && decide (h ≤ r.2.1)))) (by kernel_rfl) a (by omega) (by omega)
      change ((distI a == 0) || _) = true at hc
      rw [Bool.or_eq_true] at hc
      rcases hc with hc | hc
      · exact .inl (beq_iff_eq.1 hc)
      · rw [Bool.and_eq_true] at hc
        refine .inr ⟨by omega, by omega, ?_, touched_dist a l h hl hh hc.2⟩
        have := hc.1
        simp at this
        change -121 ≤ distI a ∧ distI a ≤ 80
        unfold distI
        omega
theorem pair_sx (a : Int) (w : World) : Calls Tryd.prog 87 #[.int .i64 a] w fun e w' => e = .returned (.int .i64 (pairI a)) ∧ w = w' := by
  unfold pairI
  rw [← DT.den_int a _ (by kernel_rfl)]
  exact calls_of_sx Tryd.func87 (of_decide_eq_true (by kernel_rfl)) (by kernel_rfl) a w
theorem pair_facts (a : Int) : pairI a = (-1) ∨ (0 ≤ a ∧ a ≤ 70000 ∧ (0 ≤ pairI a ∧ pairI a ≤ a) ∧ touched a = true) := by
  by_cases h0 : a < 0
  · left; unfold pairI; rw [DT.lowB_int (m := -1) (by omega) _ (by kernel_rfl)]; kernel_rfl
  · by_cases h1 : 70000 < a
    · left; unfold pairI; rw [DT.highB_int (m := 70001) (by omega) _ (by kernel_rfl)]; kernel_rfl
    · obtain ⟨l, h, hl, hh, hc⟩ := (sxFn Tryd.f87).each_ok 0 70000 (fun l h v => (v == (-1)) || (decide (0 ≤ v) && decide (v ≤ l) && (pairT.any fun r => decide (r.1 ≤ l) && decide (h ≤ r.2)))) (by kernel_rfl) a (by omega) (by omega)
      change ((pairI a == (-1)) || _) = true at hc
      rw [Bool.or_eq_true] at hc
      rcases hc with hc | hc
      · exact .inl (beq_iff_eq.1 hc)
      · rw [Bool.and_eq_true] at hc
        refine .inr ⟨by omega, by omega, ?_, touched_pair a l h hl hh hc.2⟩
        have := hc.1
        simp at this
        change 0 ≤ pairI a ∧ pairI a ≤ a
        unfold pairI
        omega
/-- what the document's text answers -/
noncomputable def rupF (a : Int) : Int := if a = 181 then 924 else if a = 305 then 73 else if a = 383 then 83 else if a = 962 then 931 else if backI a ≠ 0 then a - backI a else if 0 ≤ pairI a ∧ (a - pairI a) % 2 = 1 then a - 1 else a
noncomputable def rupB (a : Int) : Bool := scalarB a && (rupF a == greatT a)
theorem rup_eq (a : Int) : rupF a = upperF a := by
  cases ht : touched a
  · obtain ⟨e1, e2⟩ := untouched a ht
    have hF : upperF a = a := by
      unfold upperF
      rw [greatF_T]
      split
      · exact e1
      · rfl
    rw [hF]
    have hd : backI a = 0 := by
      rcases back_facts a with h | ⟨_, _, _, h⟩
      · exact h
      · rw [ht] at h; cases h
    have hp : pairI a = -1 := by
      rcases pair_facts a with h | ⟨_, _, _, h⟩
      · exact h
      · rw [ht] at h; cases h
    have h1 : (oneT.any fun r => r.1 == a) = false := by
      cases h : oneT.any fun r => r.1 == a
      · rfl
      · rw [touched_one a h] at ht; cases ht
    rw [List.any_eq_false] at h1
    unfold rupF
    rw [if_neg (by rintro rfl; exact h1 (181, 924, 181) (by decide) rfl)]
    rw [if_neg (by rintro rfl; exact h1 (305, 73, 305) (by decide) rfl)]
    rw [if_neg (by rintro rfl; exact h1 (383, 83, 383) (by decide) rfl)]
    rw [if_neg (by rintro rfl; exact h1 (962, 931, 962) (by decide) rfl)]
    rw [hd, hp]
    rw [if_neg (by omega), if_neg (by omega)]
  · have hB : rupB a = true := touched_all rupB (by kernel_rfl) (by kernel_rfl) (by kernel_rfl) a ht
    unfold rupB at hB
    rw [Bool.and_eq_true] at hB
    rw [beq_iff_eq.1 hB.2]
    unfold upperF
    rw [if_pos hB.1, greatF_T]
set_option maxHeartbeats 2000000 in
theorem rup_any (a : Int) (w : World) :
    Calls Tryd.prog 75 #[.int .i64 a] w fun e w' => e = .returned (.int .i64 (upperF a)) ∧ w = w' := by
  have hfin := Lib.hid (show upperF a = rupF a from (rup_eq a).symm)
  by_cases hc : a = 181 ∨ a = 305 ∨ a = 383 ∨ a = 962
  · rcases hc with rfl | rfl | rfl | rfl
    all_goals
      go_enter Tryd.func75, Tryd.ntmps75
      go_wp2
      go_ret
      exact ⟨ret_int (by rw [hfin.out]; rfl), rfl⟩
  · have n0 : (a == 181) = false := beq_eq_false_iff_ne.2 (by omega)
    have n1 : (a == 305) = false := beq_eq_false_iff_ne.2 (by omega)
    have n2 : (a == 383) = false := beq_eq_false_iff_ne.2 (by omega)
    have n3 : (a == 962) = false := beq_eq_false_iff_ne.2 (by omega)
    have m0 := Lib.hid (show a ≠ 181 by omega)
    have m1 := Lib.hid (show a ≠ 305 by omega)
    have m2 := Lib.hid (show a ≠ 383 by omega)
    have m3 := Lib.hid (show a ≠ 962 by omega)
    have hD := back_facts a
    have hP := pair_facts a
    obtain ⟨d, hd⟩ : ∃ d, backI a = d := ⟨_, rfl⟩
    obtain ⟨p, hp⟩ : ∃ p, pairI a = p := ⟨_, rfl⟩
    rw [hd] at hD
    rw [hp] at hP
    have HD := Lib.hid hd
    have HP := Lib.hid hp
    clear hc hd hp
    by_cases d0 : d = 0
    · subst d0
      clear hD
      have F := Lib.hid (show upperF a = if 0 ≤ p ∧ (a - p) % 2 = 1 then a - 1 else a by rw [hfin.out]; unfold rupF; rw [if_neg m0.out, if_neg m1.out, if_neg m2.out, if_neg m3.out, HD.out, HP.out, if_neg (by omega)])
      by_cases hp0 : 0 ≤ p
      · have hp1 : p ≤ a := by omega
        have ha0 : 0 ≤ a := by omega
        have ha1 : a ≤ 70000 := by omega
        clear hP
        cases hq : ((a - p) % 2 == 1)
        · have HQ := Lib.hid hq
          go_enter Tryd.func75, Tryd.ntmps75
          go_wp2_with fail
          refine (back_sx _ _).mono ?_
          rintro e w' ⟨rfl, rfl⟩
          rw [HD.out]
          go_wp2_with fail
          refine (pair_sx _ _).mono ?_
          rintro e w' ⟨rfl, rfl⟩
          rw [HP.out]
          go_wp2
          go_ret
          exact ⟨ret_int (by rw [F.out, if_neg (fun h => by have := HQ.out; rw [h.2] at this; cases this)]), rfl⟩
        · have HQ := Lib.hid hq
          have HP0 := Lib.hid hp0
          go_enter Tryd.func75, Tryd.ntmps75
          go_wp2_with fail
          refine (back_sx _ _).mono ?_
          rintro e w' ⟨rfl, rfl⟩
          rw [HD.out]
          go_wp2_with fail
          refine (pair_sx _ _).mono ?_
          rintro e w' ⟨rfl, rfl⟩
          rw [HP.out]
          go_wp2
          go_ret
          exact ⟨ret_int (by rw [F.out, if_pos ⟨HP0.out, by simpa using HQ.out⟩]), rfl⟩
      · clear hP
        have HP0 := Lib.hid hp0
        go_enter Tryd.func75, Tryd.ntmps75
        go_wp2_with fail
        refine (back_sx _ _).mono ?_
        rintro e w' ⟨rfl, rfl⟩
        rw [HD.out]
        go_wp2_with fail
        refine (pair_sx _ _).mono ?_
        rintro e w' ⟨rfl, rfl⟩
        rw [HP.out]
        go_wp2
        go_ret
        exact ⟨ret_int (by rw [F.out, if_neg (fun h => absurd h.1 (by have := HP0.out; omega))]), rfl⟩
    · have n9 : (d == 0) = false := beq_eq_false_iff_ne.2 d0
      have n10 : (d != 0) = true := by rw [bne_iff_ne]; exact d0
      have e0 : 0 ≤ a := by omega
      have e1 : a ≤ 70000 := by omega
      have e2 : -121 ≤ d := by omega
      have e3 : d ≤ 80 := by omega
      have F := Lib.hid (show upperF a = a - d by rw [hfin.out]; unfold rupF; rw [if_neg m0.out, if_neg m1.out, if_neg m2.out, if_neg m3.out, HD.out, if_pos d0])
      clear hD hP d0
      go_enter Tryd.func75, Tryd.ntmps75
      go_wp2_with fail
      refine (back_sx _ _).mono ?_
      rintro e w' ⟨rfl, rfl⟩
      rw [HD.out]
      go_wp2
      go_ret
      exact ⟨ret_int (by rw [F.out]), rfl⟩
/-- what the document's text answers -/
noncomputable def rlowF (a : Int) : Int := if a = 304 then 105 else if a = 7838 then 223 else if a = 8486 then 969 else if a = 8490 then 107 else if a = 8491 then 229 else if distI a ≠ 0 then a + distI a else if 0 ≤ pairI a ∧ (a - pairI a) % 2 = 0 then a + 1 else a
noncomputable def rlowB (a : Int) : Bool := scalarB a && (rlowF a == smallT a)
theorem rlow_eq (a : Int) : rlowF a = lowerF a := by
  cases ht : touched a
  · obtain ⟨e1, e2⟩ := untouched a ht
    have hF : lowerF a = a := by
      unfold lowerF
      rw [smallF_T]
      split
      · exact e2
      · rfl
    rw [hF]
    have hd : distI a = 0 := by
      rcases dist_facts a with h | ⟨_, _, _, h⟩
      · exact h
      · rw [ht] at h; cases h
    have hp : pairI a = -1 := by
      rcases pair_facts a with h | ⟨_, _, _, h⟩
      · exact h
      · rw [ht] at h; cases h
    have h1 : (oneT.any fun r => r.1 == a) = false := by
      cases h : oneT.any fun r => r.1 == a
      · rfl
      · rw [touched_one a h] at ht; cases ht
    rw [List.any_eq_false] at h1
    unfold rlowF
    rw [if_neg (by rintro rfl; exact h1 (304, 304, 105) (by decide) rfl)]
    rw [if_neg (by rintro rfl; exact h1 (7838, 7838, 223) (by decide) rfl)]
    rw [if_neg (by rintro rfl; exact h1 (8486, 8486, 969) (by decide) rfl)]
    rw [if_neg (by rintro rfl; exact h1 (8490, 8490, 107) (by decide) rfl)]
    rw [if_neg (by rintro rfl; exact h1 (8491, 8491, 229) (by decide) rfl)]
    rw [hd, hp]
    rw [if_neg (by omega), if_neg (by omega)]
  · have hB : rlowB a = true := touched_all rlowB (by kernel_rfl) (by kernel_rfl) (by kernel_rfl) a ht
    unfold rlowB at hB
    rw [Bool.and_eq_true] at hB
    rw [beq_iff_eq.1 hB.2]
    unfold lowerF
    rw [if_pos hB.1, smallF_T]
set_option maxHeartbeats 2000000 in
theorem rlow_any (a : Int) (w : World) :
    Calls Tryd.prog 76 #[.int .i64 a] w fun e w' => e = .returned (.int .i64 (lowerF a)) ∧ w = w' := by
  have hfin := Lib.hid (show lowerF a = rlowF a from (rlow_eq a).symm)
  by_cases hc : a = 304 ∨ a = 7838 ∨ a = 8486 ∨ a = 8490 ∨ a = 8491
  · rcases hc with rfl | rfl | rfl | rfl | rfl
    all_goals
      go_enter Tryd.func76, Tryd.ntmps76
      go_wp2
      go_ret
      exact ⟨ret_int (by rw [hfin.out]; rfl), rfl⟩
  · have n0 : (a == 304) = false := beq_eq_false_iff_ne.2 (by omega)
    have n1 : (a == 7838) = false := beq_eq_false_iff_ne.2 (by omega)
    have n2 : (a == 8486) = false := beq_eq_false_iff_ne.2 (by omega)
    have n3 : (a == 8490) = false := beq_eq_false_iff_ne.2 (by omega)
    have n4 : (a == 8491) = false := beq_eq_false_iff_ne.2 (by omega)
    have m0 := Lib.hid (show a ≠ 304 by omega)
    have m1 := Lib.hid (show a ≠ 7838 by omega)
    have m2 := Lib.hid (show a ≠ 8486 by omega)
    have m3 := Lib.hid (show a ≠ 8490 by omega)
    have m4 := Lib.hid (show a ≠ 8491 by omega)
    have hD := dist_facts a
    have hP := pair_facts a
    obtain ⟨d, hd⟩ : ∃ d, distI a = d := ⟨_, rfl⟩
    obtain ⟨p, hp⟩ : ∃ p, pairI a = p := ⟨_, rfl⟩
    rw [hd] at hD
    rw [hp] at hP
    have HD := Lib.hid hd
    have HP := Lib.hid hp
    clear hc hd hp
    by_cases d0 : d = 0
    · subst d0
      clear hD
      have F := Lib.hid (show lowerF a = if 0 ≤ p ∧ (a - p) % 2 = 0 then a + 1 else a by rw [hfin.out]; unfold rlowF; rw [if_neg m0.out, if_neg m1.out, if_neg m2.out, if_neg m3.out, if_neg m4.out, HD.out, HP.out, if_neg (by omega)])
      by_cases hp0 : 0 ≤ p
      · have hp1 : p ≤ a := by omega
        have ha0 : 0 ≤ a := by omega
        have ha1 : a ≤ 70000 := by omega
        clear hP
        cases hq : ((a - p) % 2 == 0)
        · have HQ := Lib.hid hq
          go_enter Tryd.func76, Tryd.ntmps76
          go_wp2_with fail
          refine (dist_sx _ _).mono ?_
          rintro e w' ⟨rfl, rfl⟩
          rw [HD.out]
          go_wp2_with fail
          refine (pair_sx _ _).mono ?_
          rintro e w' ⟨rfl, rfl⟩
          rw [HP.out]
          go_wp2
          go_ret
          exact ⟨ret_int (by rw [F.out, if_neg (fun h => by have := HQ.out; rw [h.2] at this; cases this)]), rfl⟩
        · have HQ := Lib.hid hq
          have HP0 := Lib.hid hp0
          go_enter Tryd.func76, Tryd.ntmps76
          go_wp2_with fail
          refine (dist_sx _ _).mono ?_
          rintro e w' ⟨rfl, rfl⟩
          rw [HD.out]
          go_wp2_with fail
          refine (pair_sx _ _).mono ?_
          rintro e w' ⟨rfl, rfl⟩
          rw [HP.out]
          go_wp2
          go_ret
          exact ⟨ret_int (by rw [F.out, if_pos ⟨HP0.out, by simpa using HQ.out⟩]), rfl⟩
      · clear hP
        have HP0 := Lib.hid hp0
        go_enter Tryd.func76, Tryd.ntmps76
        go_wp2_with fail
        refine (dist_sx _ _).mono ?_
        rintro e w' ⟨rfl, rfl⟩
        rw [HD.out]
        go_wp2_with fail
        refine (pair_sx _ _).mono ?_
        rintro e w' ⟨rfl, rfl⟩
        rw [HP.out]
        go_wp2
        go_ret
        exact ⟨ret_int (by rw [F.out, if_neg (fun h => absurd h.1 (by have := HP0.out; omega))]), rfl⟩
    · have n9 : (d == 0) = false := beq_eq_false_iff_ne.2 d0
      have n10 : (d != 0) = true := by rw [bne_iff_ne]; exact d0
      have e0 : 0 ≤ a := by omega
      have e1 : a ≤ 70000 := by omega
      have e2 : -121 ≤ d := by omega
      have e3 : d ≤ 80 := by omega
      have F := Lib.hid (show lowerF a = a + d by rw [hfin.out]; unfold rlowF; rw [if_neg m0.out, if_neg m1.out, if_neg m2.out, if_neg m3.out, if_neg m4.out, HD.out, if_pos d0])
      clear hD hP d0
      go_enter Tryd.func76, Tryd.ntmps76
      go_wp2_with fail
      refine (dist_sx _ _).mono ?_
      rintro e w' ⟨rfl, rfl⟩
      rw [HD.out]
      go_wp2
      go_ret
      exact ⟨ret_int (by rw [F.out]), rfl⟩
end Go.Proofs.YtdegdoilpamjjaaDoor
