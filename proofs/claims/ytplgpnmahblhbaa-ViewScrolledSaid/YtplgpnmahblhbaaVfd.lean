/- Cases of the walk of ViewScrolled. Conditions: the case's own. -/
import Derived.Test.YtplgpnmahblhbaaVe
namespace Go.Proofs.Ytplgpnmahblhbaa
open Go.RowKit
set_option maxHeartbeats 8000000 in
theorem scr5_any (top by_ height lines r t b h n : Int) (w : World) (H1 : 1 ≤ n ∧ n ≤ 1099511627776) (H2 : 1 ≤ h ∧ h ≤ 200) (H3 : 0 ≤ t ∧ t < n) (y1 : -9223372036854775808 ≤ by_) (y2 : by_ ≤ 9223372036854775807)
    (hfr : ∀ w : World, Calls Try.prog 14 #[.int .i64 height, .int .i64 lines] w fun e w' => e = .returned (.tuple #[.int .i64 h, .int .i64 n]) ∧ Below w.heap.size w w')
    (hsc : ∀ w : World, Calls Try.prog 19 #[.int .i64 top, .int .i64 by_, .int .i64 height, .int .i64 lines] w fun e w' => e = .returned (.int .i64 r) ∧ Below w.heap.size w w')
    (hs2 : ∀ (w : World) (x : Int), x = -by_ → 0 ≤ by_ → r < b → Calls Try.prog 19 #[.int .i64 r, .int .i64 x, .int .i64 height, .int .i64 lines] w fun e w' => e = .returned (.int .i64 t) ∧ Below w.heap.size w w')
    (htc : (top ≤ 0 ∧ t = 0) ∨ (0 < top ∧ top ≤ n - 1 ∧ top = t) ∨ (0 < n - 1 ∧ n - 1 < top ∧ t = n - 1) ∨ (0 < top ∧ n - 1 = 0 ∧ t = 0))
    (hbc : (n - h < 0 ∧ b = 0) ∨ (0 ≤ n - h ∧ b = n - h))
    (hrc : by_ = 0 ∧ b ≤ t ∧ r = t) :
    Calls Try.prog 6 #[.int .i64 top, .int .i64 by_, .int .i64 height, .int .i64 lines] w fun e w' => e = .returned (.bool true) ∧ Below w.heap.size w w' := by
  have HFR := Lib.hid hfr
  have HSC := Lib.hid hsc
  have HS2 := Lib.hid hs2
  clear hfr hsc hs2
  rcases hbc with ⟨b1, rfl⟩ | ⟨b1, rfl⟩
  all_goals
    obtain ⟨rfl, r2, rfl⟩ := hrc
    rcases htc with ⟨t1, rfl⟩ | ⟨t1, t2, rfl⟩ | ⟨t1, t2, rfl⟩ | ⟨t1, t2, rfl⟩
    all_goals
      first
        | (exfalso; omega)
        | (go_enter Try.func6, Try.ntmps6
           go_wp2_with fail
           refine (able_any w).mono ?_
           rintro e w1 ⟨rfl, hb1⟩
           have HB := Lib.hid hb1
           clear hb1
           go_wp2_with fail
           refine (HFR.out w1).mono ?_
           rintro e w2 ⟨rfl, hb2⟩
           replace HB := Lib.hid (vbt HB.out hb2)
           clear hb2
           go_wp2_with fail
           refine (HSC.out w2).mono ?_
           rintro e w3 ⟨rfl, hb3⟩
           replace HB := Lib.hid (vbt HB.out hb3)
           clear hb3
           go_wp2_with (first | (go_at_call 19; refine (HS2.out _ _ (by omega) (by omega) (by omega)).mono ?_; rintro e w4 ⟨rfl, hb4⟩; replace HB := Lib.hid (vbt HB.out hb4); clear hb4))
           all_goals
             first
               | (go_ret; exact ⟨ret_bool (by first | rfl | (simp; done) | (simp; omega)), HB.out⟩)
               | (exfalso; omega))
set_option maxHeartbeats 8000000 in
theorem scr6_any (top by_ height lines r t b h n : Int) (w : World) (H1 : 1 ≤ n ∧ n ≤ 1099511627776) (H2 : 1 ≤ h ∧ h ≤ 200) (H3 : 0 ≤ t ∧ t < n) (y1 : -9223372036854775808 ≤ by_) (y2 : by_ ≤ 9223372036854775807)
    (hfr : ∀ w : World, Calls Try.prog 14 #[.int .i64 height, .int .i64 lines] w fun e w' => e = .returned (.tuple #[.int .i64 h, .int .i64 n]) ∧ Below w.heap.size w w')
    (hsc : ∀ w : World, Calls Try.prog 19 #[.int .i64 top, .int .i64 by_, .int .i64 height, .int .i64 lines] w fun e w' => e = .returned (.int .i64 r) ∧ Below w.heap.size w w')
    (hs2 : ∀ (w : World) (x : Int), x = -by_ → 0 ≤ by_ → r < b → Calls Try.prog 19 #[.int .i64 r, .int .i64 x, .int .i64 height, .int .i64 lines] w fun e w' => e = .returned (.int .i64 t) ∧ Below w.heap.size w w')
    (htc : (top ≤ 0 ∧ t = 0) ∨ (0 < top ∧ top ≤ n - 1 ∧ top = t) ∨ (0 < n - 1 ∧ n - 1 < top ∧ t = n - 1) ∨ (0 < top ∧ n - 1 = 0 ∧ t = 0))
    (hbc : (n - h < 0 ∧ b = 0) ∨ (0 ≤ n - h ∧ b = n - h))
    (hrc : by_ = 0 ∧ t < b ∧ r = t) :
    Calls Try.prog 6 #[.int .i64 top, .int .i64 by_, .int .i64 height, .int .i64 lines] w fun e w' => e = .returned (.bool true) ∧ Below w.heap.size w w' := by
  have HFR := Lib.hid hfr
  have HSC := Lib.hid hsc
  have HS2 := Lib.hid hs2
  clear hfr hsc hs2
  rcases hbc with ⟨b1, rfl⟩ | ⟨b1, rfl⟩
  all_goals
    obtain ⟨rfl, r2, rfl⟩ := hrc
    rcases htc with ⟨t1, rfl⟩ | ⟨t1, t2, rfl⟩ | ⟨t1, t2, rfl⟩ | ⟨t1, t2, rfl⟩
    all_goals
      first
        | (exfalso; omega)
        | (go_enter Try.func6, Try.ntmps6
           go_wp2_with fail
           refine (able_any w).mono ?_
           rintro e w1 ⟨rfl, hb1⟩
           have HB := Lib.hid hb1
           clear hb1
           go_wp2_with fail
           refine (HFR.out w1).mono ?_
           rintro e w2 ⟨rfl, hb2⟩
           replace HB := Lib.hid (vbt HB.out hb2)
           clear hb2
           go_wp2_with fail
           refine (HSC.out w2).mono ?_
           rintro e w3 ⟨rfl, hb3⟩
           replace HB := Lib.hid (vbt HB.out hb3)
           clear hb3
           go_wp2_with (first | (go_at_call 19; refine (HS2.out _ _ (by omega) (by omega) (by omega)).mono ?_; rintro e w4 ⟨rfl, hb4⟩; replace HB := Lib.hid (vbt HB.out hb4); clear hb4))
           all_goals
             first
               | (go_ret; exact ⟨ret_bool (by first | rfl | (simp; done) | (simp; omega)), HB.out⟩)
               | (exfalso; omega))
end Go.Proofs.Ytplgpnmahblhbaa
