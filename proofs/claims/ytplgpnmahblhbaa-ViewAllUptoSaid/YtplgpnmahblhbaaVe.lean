/- Contracts: able of the statements of chapter 14; the walks of ViewSeen and ViewScrolled. No condition. -/
import Derived.Test.YtplgpnmahblhbaaVd
namespace Go.Proofs.Ytplgpnmahblhbaa
open Go.RowKit
theorem able_list (w : World) : IsInts (w.alloc (.cells #[.int .i64 97, .int .i64 9, .int .i64 98] 3)) (some ⟨w.heap.size, 0, none⟩) 3 (fun i => [97, 9, 98].getD i 0) := by
  have h := one_new w (.cells #[.int .i64 97, .int .i64 9, .int .i64 98] 3)
  refine .inr ⟨w.heap.size, 0, rfl, heap_lt h, fun i hi => ?_⟩
  rw [Nat.zero_add, block_cell h]
  match i, hi with
  | 0, _ => rfl
  | 1, _ => rfl
  | 2, _ => rfl
set_option maxHeartbeats 2000000 in
theorem able_any (w : World) :
    Calls Try.prog 13 #[] w fun e w' => e = .returned (.bool true) ∧ Below w.heap.size w w' := by
  go_enter Try.func13, Try.ntmps13
  go_wp2_with fail
  refine (follow_any 10 5 100 15 w).mono ?_
  rintro e w1 ⟨rfl, hb1⟩
  rw [able_follow]
  have HB := Lib.hid hb1
  clear hb1
  go_wp2_with fail
  refine (share_any 2 5 9 4602678819172646912 _ (by decide) able_q).mono ?_
  rintro e w2 ⟨rfl, hb2⟩
  replace HB := Lib.hid (vbt HB.out hb2)
  clear hb2
  go_wp2_with fail
  refine (cell_any _ 3 3 _ 2 _ (by omega) (by omega) (able_list w2)).mono ?_
  rintro e w3 ⟨rfl, hb3⟩
  rw [able_cell]
  replace HB := Lib.hid ((HB.out.alloc HB.out.size _).trans (hb3.mono (by have := HB.out.size; simp; omega)))
  clear hb3
  go_wp2_with fail
  refine (percent_any 0 3 _ 33 _ able_p able_i).mono ?_
  rintro e w4 ⟨rfl, hb4⟩
  replace HB := Lib.hid (vbt HB.out hb4)
  clear hb4
  go_wp2
  go_ret
  exact ⟨rfl, HB.out⟩
set_option maxHeartbeats 4000000 in
theorem lawseen_any (top height lines line : Int) (w : World) :
    Calls Try.prog 3 #[.int .i64 top, .int .i64 height, .int .i64 lines, .int .i64 line] w fun e w' => e = .returned (.bool true) ∧ Below w.heap.size w w' := by
  have H1 := nF_bd lines
  have H2 := hF_bd height
  have ht : tF top lines = max 0 (min top (nF lines - 1)) := by unfold tF; omega
  have hl : tF line lines = max 0 (min line (nF lines - 1)) := by unfold tF; have := nF_bd lines; omega
  have hr : followF top height lines line = if tF line lines < tF top lines then tF line lines else if hF height ≤ tF line lines - tF top lines then tF line lines - hF height + 1 else tF top lines := rfl
  have hfr := frame_any height lines
  have hfo := follow_any top height lines line
  generalize followF top height lines line = r at *
  generalize tF top lines = t at *
  generalize tF line lines = l at *
  generalize hF height = h at *
  generalize nF lines = n at *
  have H3 : 0 ≤ t ∧ t < n := by omega
  have H4 : 0 ≤ l ∧ l < n := by omega
  have htc : (top ≤ 0 ∧ t = 0) ∨ (0 < top ∧ top ≤ n - 1 ∧ top = t) ∨ (0 < n - 1 ∧ n - 1 < top ∧ t = n - 1) ∨ (0 < top ∧ n - 1 = 0 ∧ t = 0) := by omega
  have hlc : (line ≤ 0 ∧ l = 0) ∨ (0 < line ∧ line ≤ n - 1 ∧ line = l) ∨ (0 < n - 1 ∧ n - 1 < line ∧ l = n - 1) ∨ (0 < line ∧ n - 1 = 0 ∧ l = 0) := by omega
  have hrc : (l < t ∧ r = l) ∨ (t ≤ l ∧ h ≤ l - t ∧ r = l - h + 1) ∨ (t ≤ l ∧ l - t < h ∧ r = t) := by
    by_cases g1 : l < t
    · rw [if_pos g1] at hr; omega
    · by_cases g2 : h ≤ l - t
      · rw [if_neg g1, if_pos g2] at hr; omega
      · rw [if_neg g1, if_neg g2] at hr; omega
  have HFR := Lib.hid hfr
  have HFO := Lib.hid hfo
  clear ht hl hr hfr hfo
  rcases hrc with ⟨r1, rfl⟩ | ⟨r1, r2, rfl⟩ | ⟨r1, r2, rfl⟩
  all_goals
    rcases htc with ⟨t1, rfl⟩ | ⟨t1, t2, rfl⟩ | ⟨t1, t2, rfl⟩ | ⟨t1, t2, rfl⟩
    all_goals
      rcases hlc with ⟨l1, rfl⟩ | ⟨l1, l2, rfl⟩ | ⟨l1, l2, rfl⟩ | ⟨l1, l2, rfl⟩
      all_goals
        first
          | (exfalso; omega)
          | (go_enter Try.func3, Try.ntmps3
             go_wp2_with fail
             refine (able_any w).mono ?_
             rintro e w1 ⟨rfl, hb1⟩
             have HB := Lib.hid hb1
             clear hb1
             go_wp2_with fail
             refine (HFR.out w1).mono ?_
             rintro e w2 ⟨rfl, hb2⟩
             replace HB := Lib.hid (vbt HB.out hb2)
             clear hb2
             go_wp2_with fail
             refine (HFO.out w2).mono ?_
             rintro e w3 ⟨rfl, hb3⟩
             replace HB := Lib.hid (vbt HB.out hb3)
             clear hb3
             go_wp2
             all_goals
               first
                 | (go_ret; exact ⟨ret_bool (by first | rfl | (simp; done) | (simp; omega)), HB.out⟩)
                 | (exfalso; omega))
end Go.Proofs.Ytplgpnmahblhbaa
