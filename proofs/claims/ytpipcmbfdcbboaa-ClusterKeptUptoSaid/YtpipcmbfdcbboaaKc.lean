/- Contracts: all, lent, oneCluster of copyistlaw3; plain law: a list of accents is one cluster. Condition: fewer than 2^30 members. -/
import Derived.Test.YtpipcmbfdcbboaaCwk
import Derived.Test.YtpipcmbfdcbboaaOf
import Derived.Maps.AppendAt
namespace Go.Proofs.Ytpipcmbfdcbboaa
open Go.RowKit
def accF : Nat → Int := fun _ => 769
theorem acc_brk (k : Nat) : brkB accF (k + 1) = false := by
  have hst : ∀ k, (stG accF k).last = 4 := by
    intro k
    induction k with
    | zero => show (beginF 769).last = 4; decide +kernel
    | succ k ih =>
      rw [stG_succ]
      have hc : classF (accF (k + 1)) = 4 := by show classF 769 = 4; decide +kernel
      rw [hc]
      split
      · rfl
      · show (beginF 769).last = 4; decide +kernel
  rw [brk_succ]
  have hc : classF (accF (k + 1)) = 4 := by show classF 769 = 4; decide +kernel
  have h := hst k
  rw [hc]
  generalize stG accF k = s at *
  unfold joinsB apartB
  rw [h]
  simp
theorem acc_isB {n k : Nat} (h0 : 0 < k) (h : k < n) : isB accF n k = false := by
  rw [isB_brk h]
  obtain ⟨j, rfl⟩ : ∃ j, k = j + 1 := ⟨k - 1, by omega⟩
  exact acc_brk j
theorem acc_bounds {n : Nat} (h : 0 < n) : bounds accF n 0 = [n] := by
  rw [bounds_filter (Nat.zero_le _) rfl]
  obtain ⟨m, rfl⟩ : ∃ m, n = m + 1 := ⟨n - 1, by omega⟩
  rw [Nat.zero_add, Nat.sub_zero, List.range'_1_concat, List.filter_append]
  rw [show List.filter (isB accF (m + 1)) (List.range' 1 m) = [] from ?_, List.nil_append]
  · rw [List.filter_cons, if_pos (by rw [Nat.add_comm 1 m]; exact isB_end _ _), Nat.add_comm 1 m]; rfl
  · rw [List.filter_eq_nil_iff]
    intro k hk
    have := List.mem_range'_1.1 hk
    rw [acc_isB (by omega) (by omega)]; decide
theorem acc_all {n : Nat} (h : 0 < n) : allB accF n = [0, n] := by rw [allB_bounds, acc_bounds h]
theorem acc_next {n : Nat} (h : 0 < n) : nextF accF n 0 = n := by
  unfold nextF nextN
  rw [if_neg (by decide)]
  have hb := acc_bounds h
  rw [bounds_filter (Nat.zero_le _) rfl] at hb
  simp only [Int.toNat_zero, Nat.zero_min, Nat.zero_add, Nat.sub_zero] at hb ⊢
  rw [← List.head?_filter, hb]; rfl
theorem acc_snap {n k : Nat} (h : k < n) : snapN accF n k = 0 := by
  refine snapN_eq (Nat.zero_le _) (isB_zero _ _) (fun j hj hb => ?_)
  rcases Nat.eq_zero_or_pos j with h0 | h0
  · omega
  · rw [acc_isB h0 (by omega)] at hb; cases hb
theorem acc_prev {n : Nat} (h : 0 < n) : prevF accF n n = 0 := by
  unfold prevF snapF
  rw [if_neg (by omega), if_neg (by omega)]
  exact acc_snap (by omega)
theorem acc_one {n : Nat} (h : 1 < n) : isF accF n 1 = false ∧ snapF accF n 1 = 0 ∧ colF accF n 1 = 0 ∧ offF accF n 1 = n := by
  refine ⟨?_, ?_, ?_, ?_⟩
  · unfold isF
    rw [show (1 : Int).toNat = 1 from rfl, acc_isB (by omega) h]; simp
  · unfold snapF
    exact acc_snap (by show min 1 n < n; omega)
  · unfold colF
    rw [acc_bounds (by omega)]
    have : ¬ ((n : Int) ≤ 1) := by omega
    simp [this]
  · unfold offF
    rw [acc_bounds (by omega), acc_all (by omega)]; rfl
set_option maxHeartbeats 1000000 in
theorem all_c (s : Option Addr) (n c : Nat) (x : Int) (w : World) (hn : n ≤ maxLen) (hr : IsInts w s n (fun _ => x)) :
    Calls Try.prog 44 #[.slice s n c, .int .i64 x] w fun e w' => e = .returned (.bool true) ∧ w = w' := by
  have HR := Lib.hid hr
  clear hr
  have hcb : n ≤ 9223372036854775807 := by unfold maxLen at hn; omega
  go_enter Try.func44, Try.ntmps44
  go_wp2_with fail
  go_loopg [5] n (fun g iv wr => ∃ i : Nat, i + g = n ∧ iv = .int .i64 i ∧ w = wr)
  case atStart => exact ⟨0, by omega, rfl, rfl⟩
  case round =>
    obtain ⟨i, hg, rfl, rfl⟩ := hrel
    by_cases hlt : i < n
    · obtain ⟨b, off, rfl, c0⟩ := HR.out.at (Below.refl _ _) hlt
      go_wp2
      go_roundg (gk - 1)
      case measure => omega
      case rel => exact ⟨i + 1, by omega, by go_num, rfl⟩
    · go_wp2
      go_ret
      exact ⟨rfl, rfl⟩
set_option maxHeartbeats 4000000 in
theorem onecluster_c (s : Option Addr) (n c : Nat) (w : World) (hn : n < 1073741824) (hr : IsInts w s n accF) :
    Calls Try.prog 33 #[.slice s n c] w fun e w' => e = .returned (.bool true) ∧ Below w.heap.size w w' := by
  have HR := Lib.hid hr
  clear hr
  by_cases h0 : n = 0
  · have z0 : ((n : Int) == 0) = true := by simp; omega
    clear h0
    go_enter Try.func33, Try.ntmps33
    go_wp2
    go_ret
    exact ⟨rfl, Below.refl _ _⟩
  · have z0 : ((n : Int) == 0) = false := by simp; omega
    have hp : 0 < n := by omega
    have e1 : (bounds accF n 0).length = 1 := by rw [acc_bounds hp]; rfl
    have e2 : bn accF n = 2 := by unfold bn; rw [acc_all hp]; rfl
    have E1 := Lib.hid e1
    have E2 := Lib.hid e2
    have E3 := Lib.hid (acc_next hp)
    have E4 := Lib.hid (acc_prev hp)
    clear e1 e2 h0
    go_enter Try.func33, Try.ntmps33
    go_wp2_with fail
    refine (count_any s n c accF _ (by unfold maxLen; omega) HR.out).mono ?_
    rintro e w1 ⟨rfl, hb⟩
    rw [E1.out]
    replace HR := Lib.hid (HR.out.later hb)
    have HB := Lib.hid hb
    clear hb
    go_wp2_with fail
    refine (breaks_c s n c accF _ (by omega) HR.out).mono ?_
    rintro e w2 ⟨s2, c2, rfl, _, _, hb⟩
    rw [E2.out]
    replace HR := Lib.hid (HR.out.later hb)
    replace HB := Lib.hid (bt HB.out hb)
    clear hb
    go_wp2_with fail
    refine (next_any s n c accF 0 _ (by unfold maxLen; omega) HR.out).mono ?_
    rintro e w3 ⟨rfl, hb⟩
    rw [E3.out]
    replace HR := Lib.hid (HR.out.later hb)
    replace HB := Lib.hid (bt HB.out hb)
    clear hb
    go_wp2_with fail
    refine (prev_any s n c accF n _ (by unfold maxLen; omega) HR.out).mono ?_
    rintro e w4 ⟨rfl, hb⟩
    rw [E4.out]
    replace HR := Lib.hid (HR.out.later hb)
    replace HB := Lib.hid (bt HB.out hb)
    clear hb
    by_cases h1 : n < 2
    · have h1' : (n : Int) < 2 := by omega
      go_wp2
      go_ret
      exact ⟨ret_bool (by first | rfl | simp), HB.out⟩
    · have h1' : ¬ ((n : Int) < 2) := by omega
      obtain ⟨f1, f2, f3, f4⟩ := acc_one (show 1 < n by omega)
      have F1 := Lib.hid f1
      have F2 := Lib.hid f2
      have F3 := Lib.hid f3
      have F4 := Lib.hid f4
      clear f1 f2 f3 f4
      go_wp2_with fail
      refine (isbreak_any s n c accF 1 _ (by unfold maxLen; omega) HR.out).mono ?_
      rintro e w5 ⟨rfl, hb⟩
      rw [F1.out]
      replace HR := Lib.hid (HR.out.later hb)
      replace HB := Lib.hid (bt HB.out hb)
      clear hb
      go_wp2_with fail
      refine (snap_any s n c accF 1 _ (by unfold maxLen; omega) HR.out).mono ?_
      rintro e w6 ⟨rfl, hb⟩
      rw [F2.out]
      replace HR := Lib.hid (HR.out.later hb)
      replace HB := Lib.hid (bt HB.out hb)
      clear hb
      go_wp2_with fail
      refine (column_any s n c accF 1 _ (by unfold maxLen; omega) HR.out).mono ?_
      rintro e w7 ⟨rfl, hb⟩
      rw [F3.out]
      replace HR := Lib.hid (HR.out.later hb)
      replace HB := Lib.hid (bt HB.out hb)
      clear hb
      go_wp2_with fail
      refine (offset_any s n c accF 1 _ (by unfold maxLen; omega) HR.out).mono ?_
      rintro e w8 ⟨rfl, hb⟩
      rw [F4.out]
      replace HB := Lib.hid (bt HB.out hb)
      clear hb
      go_wp2
      go_ret
      exact ⟨ret_bool (by first | rfl | simp), HB.out⟩
end Go.Proofs.Ytpipcmbfdcbboaa
