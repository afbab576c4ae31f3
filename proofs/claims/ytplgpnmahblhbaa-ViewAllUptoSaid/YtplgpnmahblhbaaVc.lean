/- Contracts: view.Percent, view.Share, view.width. Conditions: what the float operations give is given. -/
import Derived.Test.YtplgpnmahblhbaaVb
import Derived.Test.YtplgpnmahblhbaaGw
import Derived.Test.YtplgpnmahblhbaaCh
import Derived.Laws.FloatArith
namespace Go.Proofs.Ytplgpnmahblhbaa
open Go.RowKit
set_option maxHeartbeats 2000000 in
theorem percent_any (line lines : Int) (q : Nat) (r : Int) (w : World) (hq : floatBits .quo .f64 (floatOfInt .f64 (100 * (tF line lines + 1))) (floatOfInt .f64 (nF lines)) = some q) (hr : floatToIntVal .f64 q .i64 = some r) :
    Calls Try.prog 16 #[.int .i64 line, .int .i64 lines] w fun e w' => e = .returned (.int .i64 r) ∧ Below w.heap.size w w' := by
  have hop : ∀ t w, (binOp .quo t (.float .f64 (floatOfInt .f64 (100 * (tF line lines + 1)))) (.float .f64 (floatOfInt .f64 (nF lines)))).run Try.prog w = .ok (.float .f64 q) w := fun t w => run_float_arith w .quo t .f64 _ _ q hq
  have hc : ∀ w, (convert 29 3 (.float .f64 q)).run Try.prog w = .ok (.int .i64 r) w := fun w => run_convert_float_int w 29 3 .f64 .i64 q r (by rw [Try.underlying29]; rfl) Try.underlying3 hr
  have H1 := nF_bd lines
  have H3 := tF_bd line lines
  have hwin := window_any line 1 lines w
  rw [show hF 1 = 1 from by decide] at hwin
  have HW := Lib.hid hwin
  clear hq hr hwin
  generalize tF line lines = t at *
  generalize nF lines = n at *
  go_enter Try.func16, Try.ntmps16
  go_wp2_with fail
  refine HW.out.mono ?_
  rintro e w1 ⟨rfl, hb1⟩
  have HB := Lib.hid hb1
  clear hb1 HW
  go_wp2
  go_ret
  exact ⟨rfl, HB.out.alloc HB.out.size _⟩
set_option maxHeartbeats 2000000 in
theorem share_any (top height lines : Int) (q : Nat) (w : World) (hb : 0 < bF height lines) (hq : floatBits .quo .f64 (floatOfInt .f64 (min (tF top lines) (bF height lines))) (floatOfInt .f64 (bF height lines)) = some q) :
    Calls Try.prog 17 #[.int .i64 top, .int .i64 height, .int .i64 lines] w fun e w' => e = .returned (.float .f64 q) ∧ Below w.heap.size w w' := by
  have H1 := nF_bd lines
  have H2 := hF_bd height
  have H3 := tF_bd top lines
  have H4 := bF_bd height lines
  have hbo : bF height lines = max (nF lines - hF height) 0 := rfl
  have hwin := window_any top height lines w
  obtain ⟨m, hm⟩ : ∃ m, min (tF top lines) (bF height lines) = m := ⟨_, rfl⟩
  rw [hm] at hq
  generalize tF top lines = t at *
  generalize bF height lines = b at *
  generalize hF height = h at *
  generalize nF lines = n at *
  have hop : ∀ t w, (binOp .quo t (.float .f64 (floatOfInt .f64 m)) (.float .f64 (floatOfInt .f64 b))).run Try.prog w = .ok (.float .f64 q) w := fun t w => run_float_arith w .quo t .f64 _ _ q hq
  have hbz : (b == 0) = false := by simp; omega
  have HBo := Lib.hid hbo
  have HM := Lib.hid hm
  have HW := Lib.hid hwin
  clear hbo hwin hq hm
  go_enter Try.func17, Try.ntmps17
  go_wp2_with fail
  refine HW.out.mono ?_
  rintro e w1 ⟨rfl, hb1⟩
  have HB := Lib.hid hb1
  clear hb1 HW
  have k1 := win_one w1 t h n
  replace HB := Lib.hid (HB.out.alloc HB.out.size (.cells #[.int .i64 t, .int .i64 h, .int .i64 n] 46))
  obtain ⟨⟨c0, c1, c2⟩, ⟨f0, f1, f2⟩⟩ := k1.facts
  have K1 := Lib.hid k1
  clear k1
  go_wp2_with fail
  refine (bottom_any t h n _ (by omega) (by omega) (by omega) (by omega)).mono ?_
  rintro e w2 ⟨rfl, hb2⟩
  rw [← HBo.out]
  have k1 := K1.out.below hb2
  replace HB := Lib.hid (vbt HB.out hb2)
  clear c0 c1 c2 f0 f1 f2 K1 hb2
  obtain ⟨⟨c0, c1, c2⟩, ⟨f0, f1, f2⟩⟩ := k1.facts
  have hB0 := HB.out
  generalize w1.heap.size = gb at *
  rcases Int.lt_or_le b t with hbt | hbt
  · obtain rfl : b = m := by have := HM.out; omega
    go_wp2_with fail
    go_region_held3 (fun w' => w'.cell? ⟨gb, 0, none⟩ = some (.int .i64 t) ∧ w'.cell? ⟨gb, 1, none⟩ = some (.int .i64 h) ∧ w'.cell? ⟨gb, 2, none⟩ = some (.int .i64 n) ∧ Below w.heap.size w w')
      (first | exact ⟨c0, c1, c2, hB0.drew⟩ | go_keep | (go_split_ands; exact ⟨vcell_below (by assumption) hb2, vcell_below (by assumption) hb2, vcell_below (by assumption) hb2, vbt (by assumption) hb2⟩))
      (first | (go_at_call 29; refine (bottom_any t h n _ (by omega) (by omega) (by omega) (by omega)).mono ?_; rintro e w2 ⟨rfl, hb2⟩; rw [← HBo.out]))
    all_goals
      have hh : Below w.heap.size w w2 := by (first | (rename_i h; exact h.2.2.2) | assumption)
      have HH := Lib.hid hh
      clear hh c0 c1 c2 f0 f1 f2 hB0
      go_wp2
      go_ret
      exact ⟨rfl, HH.out⟩
  · by_cases hlt : t < b
    · obtain rfl : t = m := by have := HM.out; omega
      have hnb : ¬ (b < t) := by omega
      have hnb2 : (b < t) ↔ False := ⟨fun h => by omega, False.elim⟩
      have hnb3 : (b < t) = False := propext hnb2
      go_wp2_with fail
      go_region_held3 (fun w' => w'.cell? ⟨gb, 0, none⟩ = some (.int .i64 t) ∧ w'.cell? ⟨gb, 1, none⟩ = some (.int .i64 h) ∧ w'.cell? ⟨gb, 2, none⟩ = some (.int .i64 n) ∧ Below w.heap.size w w')
        (first | exact ⟨c0, c1, c2, hB0.drew⟩ | go_keep | (go_split_ands; exact ⟨vcell_below (by assumption) hb2, vcell_below (by assumption) hb2, vcell_below (by assumption) hb2, vbt (by assumption) hb2⟩))
        (first | (go_at_call 29; refine (bottom_any t h n _ (by omega) (by omega) (by omega) (by omega)).mono ?_; rintro e w2 ⟨rfl, hb2⟩; rw [← HBo.out]))
      all_goals
        have hh : Below w.heap.size w w2 := by (first | (rename_i h; exact h.2.2.2) | assumption)
        have HH := Lib.hid hh
        clear hh c0 c1 c2 f0 f1 f2 hB0
        go_wp2
        go_ret
        exact ⟨rfl, HH.out⟩
    · obtain rfl : t = b := by omega
      obtain rfl : t = m := by have := HM.out; omega
      go_wp2_with fail
      go_region_held3 (fun w' => w'.cell? ⟨gb, 0, none⟩ = some (.int .i64 t) ∧ w'.cell? ⟨gb, 1, none⟩ = some (.int .i64 h) ∧ w'.cell? ⟨gb, 2, none⟩ = some (.int .i64 n) ∧ Below w.heap.size w w')
        (first | exact ⟨c0, c1, c2, hB0.drew⟩ | go_keep | (go_split_ands; exact ⟨vcell_below (by assumption) hb2, vcell_below (by assumption) hb2, vcell_below (by assumption) hb2, vbt (by assumption) hb2⟩))
        (first | (go_at_call 29; refine (bottom_any t h n _ (by omega) (by omega) (by omega) (by omega)).mono ?_; rintro e w2 ⟨rfl, hb2⟩; rw [← HBo.out]))
      all_goals
        have hh : Below w.heap.size w w2 := by (first | (rename_i h; exact h.2.2.2) | assumption)
        have HH := Lib.hid hh
        clear hh c0 c1 c2 f0 f1 f2 hB0
        go_wp2
        go_ret
        exact ⟨rfl, HH.out⟩
set_option maxHeartbeats 1000000 in
theorem share_zero (top height lines : Int) (w : World) (hb : bF height lines = 0) :
    Calls Try.prog 17 #[.int .i64 top, .int .i64 height, .int .i64 lines] w fun e w' => e = .returned (.float .f64 0) ∧ Below w.heap.size w w' := by
  have H1 := nF_bd lines
  have H2 := hF_bd height
  have hbo : bF height lines = max (nF lines - hF height) 0 := rfl
  have hwin := window_any top height lines w
  rw [hb] at hbo
  generalize tF top lines = t at *
  generalize hF height = h at *
  generalize nF lines = n at *
  have HBo := Lib.hid hbo
  have HW := Lib.hid hwin
  clear hbo hwin hb
  go_enter Try.func17, Try.ntmps17
  go_wp2_with fail
  refine HW.out.mono ?_
  rintro e w1 ⟨rfl, hb1⟩
  have HB := Lib.hid (hb1.alloc hb1.size (.cells #[.int .i64 t, .int .i64 h, .int .i64 n] 46))
  clear hb1 HW
  go_wp2_with fail
  refine (bottom_any t h n _ (by omega) (by omega) (by omega) (by omega)).mono ?_
  rintro e w2 ⟨rfl, hb2⟩
  rw [← HBo.out]
  replace HB := Lib.hid (vbt HB.out hb2)
  clear hb2
  go_wp2
  go_ret
  exact ⟨rfl, HB.out⟩
/-- the cells of a cluster -/
def sumW (f : Nat → Int) : Nat → Int
  | 0 => 0
  | k + 1 => sumW f k + widthF (f k)
def cellW (f : Nat → Int) (n : Nat) (cell : Int) : Int := if 1 < n then min (sumW f n) 2 else if f 0 = 9 then 8 - cell % 8 else widthF (f 0)
theorem width_bd (a : Int) : 0 ≤ widthF a ∧ widthF a ≤ 6 := by
  unfold widthF
  have := sot_bd wideT 5 (by omega) (by decide +kernel) a
  repeat' split
  all_goals omega
theorem sumW_bd (f : Nat → Int) (k : Nat) : 0 ≤ sumW f k ∧ sumW f k ≤ 6 * k := by
  induction k with
  | zero => exact ⟨Int.le_refl _, Int.le_refl _⟩
  | succ k ih => unfold sumW; have := width_bd (f k); omega
theorem cellW_bd (f : Nat → Int) (n : Nat) (cell : Int) : 0 ≤ cellW f n cell ∧ cellW f n cell ≤ 8 := by
  unfold cellW
  have := sumW_bd f n
  have := width_bd (f 0)
  repeat' split
  all_goals omega
set_option maxHeartbeats 2000000 in
theorem vwidth_any (s : Option Addr) (n cap : Nat) (f : Nat → Int) (cell : Int) (w : World) (h0 : 0 < n) (hn : n < 4294967296) (hc0 : 0 ≤ cell) (hr : IsInts w s n f) :
    Calls Try.prog 43 #[.slice s n cap, .int .i64 cell] w fun e w' => e = .returned (.int .i64 (cellW f n cell)) ∧ Below w.heap.size w w' := by
  have HR := Lib.hid hr
  clear hr
  by_cases h1 : 1 < n
  · have he : cellW f n cell = min (sumW f n) 2 := by unfold cellW; rw [if_pos h1]
    rw [he]
    clear he
    have h1i : (1 : Int) < (n : Int) := by omega
    have hsb := sumW_bd f n
    have HSB := Lib.hid hsb
    clear hsb
    go_enter Try.func43, Try.ntmps43
    go_wp2_with fail
    go_loopg [5, 13] n (fun g sv iv wr => ∃ k : Nat, k + g = n ∧ sv = .int .i64 (sumW f k) ∧ iv = .int .i64 k ∧ Below w.heap.size w wr)
    case atStart => exact ⟨0, by omega, rfl, rfl, Below.refl _ _⟩
    case round =>
      obtain ⟨k, hk, rfl, rfl, hb⟩ := hrel
      have HB := Lib.hid hb
      clear hb
      by_cases hlt : k < n
      · obtain ⟨b, off, rfl, hcell⟩ := HR.out.at HB.out hlt
        have hsk := sumW_bd f k
        have hwk := width_bd (f k)
        have hs1 : sumW f k + widthF (f k) = sumW f (k + 1) := rfl
        have HS1 := Lib.hid hs1
        clear hs1
        generalize f k = x at *
        generalize sumW f k = sk at *
        go_wp2_with fail
        refine (width_any x _).mono ?_
        rintro e w1 ⟨rfl, hb1⟩
        replace HB := Lib.hid (bt HB.out hb1)
        clear hb1 hcell
        go_wp2
        go_roundg (gk - 1)
        case measure => omega
        case rel => exact ⟨k + 1, by omega, by rw [HS1.out], by go_num, HB.out⟩
      · obtain rfl : k = n := by omega
        have hs := HSB.out
        obtain ⟨sk, hsk⟩ : ∃ sk, sumW f k = sk := ⟨_, rfl⟩
        rw [hsk] at hs ⊢
        have HSK := Lib.hid hsk
        clear hsk
        go_wp2
        all_goals
          go_ret
          exact ⟨ret_int (by have := HSK.out; omega), HB.out⟩
  · obtain rfl : n = 1 := by omega
    obtain ⟨b, off, rfl, hcell⟩ := HR.out.at (Below.refl _ _) (show 0 < 1 by omega)
    rw [Nat.add_zero] at hcell
    by_cases h9 : f 0 = 9
    · have he : cellW f 1 cell = 8 - cell % 8 := by unfold cellW; rw [if_neg h1, if_pos h9]
      rw [he]
      rw [h9] at hcell
      clear he h1
      go_enter Try.func43, Try.ntmps43
      go_wp2
      go_ret
      exact ⟨rfl, Below.refl _ _⟩
    · have he : cellW f 1 cell = widthF (f 0) := by unfold cellW; rw [if_neg h1, if_neg h9]
      rw [he]
      clear he h1
      have h9' : (f 0 == 9) = false := by simpa using h9
      generalize f 0 = x at *
      go_enter Try.func43, Try.ntmps43
      go_wp2_with fail
      refine (width_any x _).mono ?_
      rintro e w1 ⟨rfl, hb1⟩
      have HB := Lib.hid hb1
      clear hb1
      go_wp2
      go_ret
      exact ⟨rfl, HB.out⟩
end Go.Proofs.Ytplgpnmahblhbaa
