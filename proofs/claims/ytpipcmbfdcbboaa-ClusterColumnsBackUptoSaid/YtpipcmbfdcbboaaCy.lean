/- The walk of ClusterColumnsBack. Condition: fewer than 2^20 members. -/
import Derived.Test.YtpipcmbfdcbboaaCx
namespace Go.Proofs.Ytpipcmbfdcbboaa
open Go.RowKit
set_option maxHeartbeats 4000000 in
theorem lawback_any (sh : Option Addr) (nh ch : Nat) (fh : Nat → Int) (a col : Int) (w : World) (hlh : nh < 1048577) (hh : IsInts w sh nh fh) :
    Calls Try.prog 8 #[.slice sh nh ch, .int .i64 a, .int .i64 col] w fun e w' => e = .returned (.bool true) ∧ Below w.heap.size w w' := by
  have HIh := Lib.hid hh
  have HB := Lib.hid (Below.refl w.heap.size w)
  clear hh
  obtain ⟨n, hn⟩ : ∃ n, cn fh nh = n := ⟨_, rfl⟩
  obtain ⟨c, hc⟩ : ∃ c, colF fh nh a = c := ⟨_, rfl⟩
  obtain ⟨s, hs⟩ : ∃ s, snapF fh nh a = s := ⟨_, rfl⟩
  obtain ⟨p, hp⟩ : ∃ p, offF fh nh col = p := ⟨_, rfl⟩
  have ho : offF fh nh (c : Nat) = s := by rw [← hc, off_col, hs]
  have hf : isF fh nh (p : Nat) = true := by rw [← hp]; exact isF_off fh nh col
  have hq : colF fh nh (p : Nat) = min col.toNat n := by rw [← hp, col_off, hn]
  have hnb : n ≤ nh := by rw [← hn]; exact cn_bd fh nh
  have hcn : c ≤ n := by rw [← hn, ← hc]; exact col_le fh nh a
  have hn0 : 0 < nh → 0 < n := by intro h; rw [← hn]; exact cn_pos fh nh h
  have hpb : p ≤ nh := by rw [← hp]; exact (off_is fh nh col).1
  have hsb : s ≤ nh := by rw [← ho]; exact (off_is fh nh c).1
  have HN := Lib.hid hn
  have HC := Lib.hid hc
  have HS := Lib.hid hs
  have HP := Lib.hid hp
  have HO := Lib.hid ho
  have HF := Lib.hid hf
  have HQ := Lib.hid hq
  have HN0 := Lib.hid hn0
  clear hn hc hs hp ho hf hq hn0
  have hz1 : ((nh : Int) == 0) = decide ((n : Int) < 1) := by rw [Bool.eq_iff_iff]; have := HN0.out; simp; omega
  cases hz : ((nh : Int) == 0)
  all_goals
    rw [hz] at hz1
    have hz2 := hz1.symm
    clear hz1
    first
      | have hz3 : (1 : Int) ≤ (n : Int) := by simp at hz2; omega
      | have hz3 : (n : Int) < 1 := by simp at hz2; omega
    clear hz2
    go_enter Try.func8, Try.ntmps8
    go_wp2_with fail
    refine (copied_c sh nh ch fh _ (by omega) HIh.out).mono ?_
    rintro e w1 ⟨sa1, ca1, rfl, hi, hc, ho, hb⟩
    have HIa1 := Lib.hid hi
    replace HIh := Lib.hid (HIh.out.later hb)
    replace HB := Lib.hid (bt HB.out hb)
    clear hb hi hc ho
    go_wp2_with fail
    refine (count_any sa1 nh ca1 fh _ (by unfold maxLen; omega) HIa1.out).mono ?_
    rintro e w2 ⟨rfl, hb⟩
    rw [show (bounds fh nh 0).length = cn fh nh from rfl, HN.out]
    replace HIh := Lib.hid (HIh.out.later hb)
    replace HIa1 := Lib.hid (HIa1.out.later hb)
    replace HB := Lib.hid (bt HB.out hb)
    clear hb
    clear HIa1
    go_wp2_with fail
    refine (copied_c sh nh ch fh _ (by omega) HIh.out).mono ?_
    rintro e w3 ⟨sa2, ca2, rfl, hi, hc, ho, hb⟩
    have HIa2 := Lib.hid hi
    replace HIh := Lib.hid (HIh.out.later hb)
    replace HB := Lib.hid (bt HB.out hb)
    clear hb hi hc ho
    go_wp2_with fail
    refine (isbreak_any sa2 nh ca2 fh 0 _ (by unfold maxLen; omega) HIa2.out).mono ?_
    rintro e w4 ⟨rfl, hb⟩
    rw [isF_zero]
    replace HIh := Lib.hid (HIh.out.later hb)
    replace HIa2 := Lib.hid (HIa2.out.later hb)
    replace HB := Lib.hid (bt HB.out hb)
    clear hb
    clear HIa2
    go_wp2_with fail
    refine (copied_c sh nh ch fh _ (by omega) HIh.out).mono ?_
    rintro e w5 ⟨sa3, ca3, rfl, hi, hc, ho, hb⟩
    have HIa3 := Lib.hid hi
    replace HIh := Lib.hid (HIh.out.later hb)
    replace HB := Lib.hid (bt HB.out hb)
    clear hb hi hc ho
    go_wp2_with fail
    refine (column_any sa3 nh ca3 fh a _ (by unfold maxLen; omega) HIa3.out).mono ?_
    rintro e w6 ⟨rfl, hb⟩
    rw [HC.out]
    replace HIh := Lib.hid (HIh.out.later hb)
    replace HIa3 := Lib.hid (HIa3.out.later hb)
    replace HB := Lib.hid (bt HB.out hb)
    clear hb
    clear HIa3
    go_wp2_with fail
    refine (copied_c sh nh ch fh _ (by omega) HIh.out).mono ?_
    rintro e w7 ⟨sa4, ca4, rfl, hi, hc, ho, hb⟩
    have HIa4 := Lib.hid hi
    replace HIh := Lib.hid (HIh.out.later hb)
    replace HB := Lib.hid (bt HB.out hb)
    clear hb hi hc ho
    go_wp2_with fail
    refine (offset_any sa4 nh ca4 fh (c : Int) _ (by unfold maxLen; omega) HIa4.out).mono ?_
    rintro e w8 ⟨rfl, hb⟩
    rw [HO.out]
    replace HIh := Lib.hid (HIh.out.later hb)
    replace HIa4 := Lib.hid (HIa4.out.later hb)
    replace HB := Lib.hid (bt HB.out hb)
    clear hb
    clear HIa4
    go_wp2_with fail
    refine (copied_c sh nh ch fh _ (by omega) HIh.out).mono ?_
    rintro e w9 ⟨sa5, ca5, rfl, hi, hc, ho, hb⟩
    have HIa5 := Lib.hid hi
    replace HIh := Lib.hid (HIh.out.later hb)
    replace HB := Lib.hid (bt HB.out hb)
    clear hb hi hc ho
    go_wp2_with fail
    refine (snap_any sa5 nh ca5 fh a _ (by unfold maxLen; omega) HIa5.out).mono ?_
    rintro e w10 ⟨rfl, hb⟩
    rw [HS.out]
    replace HIh := Lib.hid (HIh.out.later hb)
    replace HIa5 := Lib.hid (HIa5.out.later hb)
    replace HB := Lib.hid (bt HB.out hb)
    clear hb
    clear HIa5
    go_wp2_with fail
    refine (copied_c sh nh ch fh _ (by omega) HIh.out).mono ?_
    rintro e w11 ⟨sa6, ca6, rfl, hi, hc, ho, hb⟩
    have HIa6 := Lib.hid hi
    replace HIh := Lib.hid (HIh.out.later hb)
    replace HB := Lib.hid (bt HB.out hb)
    clear hb hi hc ho
    go_wp2_with fail
    refine (offset_any sa6 nh ca6 fh col _ (by unfold maxLen; omega) HIa6.out).mono ?_
    rintro e w12 ⟨rfl, hb⟩
    rw [HP.out]
    replace HIh := Lib.hid (HIh.out.later hb)
    replace HIa6 := Lib.hid (HIa6.out.later hb)
    replace HB := Lib.hid (bt HB.out hb)
    clear hb
    clear HIa6
    go_wp2_with fail
    refine (copied_c sh nh ch fh _ (by omega) HIh.out).mono ?_
    rintro e w13 ⟨sa7, ca7, rfl, hi, hc, ho, hb⟩
    have HIa7 := Lib.hid hi
    replace HIh := Lib.hid (HIh.out.later hb)
    replace HB := Lib.hid (bt HB.out hb)
    clear hb hi hc ho
    go_wp2_with fail
    refine (isbreak_any sa7 nh ca7 fh (p : Int) _ (by unfold maxLen; omega) HIa7.out).mono ?_
    rintro e w14 ⟨rfl, hb⟩
    rw [HF.out]
    replace HIh := Lib.hid (HIh.out.later hb)
    replace HIa7 := Lib.hid (HIa7.out.later hb)
    replace HB := Lib.hid (bt HB.out hb)
    clear hb
    clear HIa7
    by_cases hc0 : col < 0
    · have hq : colF fh nh (p : Nat) = 0 := by have := HQ.out; omega
      replace HQ := Lib.hid hq
      clear hq
      go_wp2_with fail
      refine (copied_c sh nh ch fh _ (by omega) HIh.out).mono ?_
      rintro e w21 ⟨sa8, ca8, rfl, hi, hc, ho, hb⟩
      have HIa8 := Lib.hid hi
      replace HIh := Lib.hid (HIh.out.later hb)
      replace HB := Lib.hid (bt HB.out hb)
      clear hb hi hc ho
      go_wp2_with fail
      refine (column_any sa8 nh ca8 fh (p : Int) _ (by unfold maxLen; omega) HIa8.out).mono ?_
      rintro e w22 ⟨rfl, hb⟩
      rw [HQ.out]
      replace HIh := Lib.hid (HIh.out.later hb)
      replace HIa8 := Lib.hid (HIa8.out.later hb)
      replace HB := Lib.hid (bt HB.out hb)
      clear hb
      clear HIa8
      go_wp2
      go_ret
      exact ⟨rfl, HB.out⟩
    · by_cases hc1 : (n : Int) < col
      · have hq : colF fh nh (p : Nat) = n := by have := HQ.out; omega
        replace HQ := Lib.hid hq
        clear hq
        go_wp2_with fail
        refine (copied_c sh nh ch fh _ (by omega) HIh.out).mono ?_
        rintro e w21 ⟨sa8, ca8, rfl, hi, hc, ho, hb⟩
        have HIa8 := Lib.hid hi
        replace HIh := Lib.hid (HIh.out.later hb)
        replace HB := Lib.hid (bt HB.out hb)
        clear hb hi hc ho
        go_wp2_with fail
        refine (column_any sa8 nh ca8 fh (p : Int) _ (by unfold maxLen; omega) HIa8.out).mono ?_
        rintro e w22 ⟨rfl, hb⟩
        rw [HQ.out]
        replace HIh := Lib.hid (HIh.out.later hb)
        replace HIa8 := Lib.hid (HIa8.out.later hb)
        replace HB := Lib.hid (bt HB.out hb)
        clear hb
        clear HIa8
        go_wp2
        go_ret
        exact ⟨rfl, HB.out⟩
      · obtain ⟨m, rfl⟩ : ∃ m : Nat, col = m := ⟨col.toNat, by omega⟩
        have hq : colF fh nh (p : Nat) = m := by have := HQ.out; omega
        replace HQ := Lib.hid hq
        clear hq
        go_wp2_with fail
        refine (copied_c sh nh ch fh _ (by omega) HIh.out).mono ?_
        rintro e w21 ⟨sa8, ca8, rfl, hi, hc, ho, hb⟩
        have HIa8 := Lib.hid hi
        replace HIh := Lib.hid (HIh.out.later hb)
        replace HB := Lib.hid (bt HB.out hb)
        clear hb hi hc ho
        go_wp2_with fail
        refine (column_any sa8 nh ca8 fh (p : Int) _ (by unfold maxLen; omega) HIa8.out).mono ?_
        rintro e w22 ⟨rfl, hb⟩
        rw [HQ.out]
        replace HIh := Lib.hid (HIh.out.later hb)
        replace HIa8 := Lib.hid (HIa8.out.later hb)
        replace HB := Lib.hid (bt HB.out hb)
        clear hb
        clear HIa8
        go_wp2
        go_ret
        exact ⟨rfl, HB.out⟩
end Go.Proofs.Ytpipcmbfdcbboaa
