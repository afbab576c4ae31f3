/- Contracts: view.Follow, view.Scroll, and frame of the statements. No condition. -/
import Derived.Test.YtplgpnmahblhbaaVa
import Derived.Deep.RegionWith
import Derived.Deep.RegionHeld3
namespace Go.Proofs.Ytplgpnmahblhbaa
open Go.RowKit
def followF (top height lines line : Int) : Int :=
  if tF line lines < tF top lines then tF line lines else if hF height ≤ tF line lines - tF top lines then tF line lines - hF height + 1 else tF top lines
def scrollF (top by_ height lines : Int) : Int :=
  if by_ < 0 ∧ by_ < -(tF top lines) then 0 else if by_ < 0 then tF top lines + by_ else if bF height lines ≤ tF top lines then tF top lines
  else if bF height lines - tF top lines < by_ then bF height lines else tF top lines + by_
theorem tF_bd (top lines : Int) : 0 ≤ tF top lines ∧ tF top lines < nF lines := by unfold tF; have := nF_bd lines; omega
theorem bF_bd (h lines : Int) : 0 ≤ bF h lines ∧ bF h lines < nF lines := by unfold bF; have := nF_bd lines; have := hF_bd h; omega
set_option maxHeartbeats 4000000 in
theorem follow_any (top height lines line : Int) (w : World) :
    Calls Try.prog 15 #[.int .i64 top, .int .i64 height, .int .i64 lines, .int .i64 line] w fun e w' => e = .returned (.int .i64 (followF top height lines line)) ∧ Below w.heap.size w w' := by
  have H1 := nF_bd lines
  have H2 := hF_bd height
  have H3 := tF_bd top lines
  have H4 := tF_bd line lines
  have hl : tF line lines = min (max line 0) (nF lines - 1) := rfl
  have hr : followF top height lines line = if tF line lines < tF top lines then tF line lines else if hF height ≤ tF line lines - tF top lines then tF line lines - hF height + 1 else tF top lines := rfl
  generalize followF top height lines line = r at *
  obtain ⟨t, ht⟩ : ∃ t, tF top lines = t := ⟨_, rfl⟩
  obtain ⟨l, hll⟩ : ∃ l, tF line lines = l := ⟨_, rfl⟩
  obtain ⟨h, hh⟩ : ∃ h, hF height = h := ⟨_, rfl⟩
  obtain ⟨n, hn⟩ : ∃ n, nF lines = n := ⟨_, rfl⟩
  have hwin := window_any top height lines w
  rw [ht, hh, hn] at hwin
  rw [hll, hn] at hl
  rw [ht, hh, hll] at hr
  rw [hn] at H1
  rw [hh] at H2
  rw [ht, hn] at H3
  rw [hll, hn] at H4
  have HL := Lib.hid hl
  have HR := Lib.hid hr
  have HW := Lib.hid hwin
  clear hl hr hwin ht hll hh hn
  go_enter Try.func15, Try.ntmps15
  go_wp2_with fail
  refine HW.out.mono ?_
  rintro e w1 ⟨rfl, hb1⟩
  have HB := Lib.hid hb1
  clear hb1 HW
  go_wp2_with fail
  refine (line_any t h n line _ (by omega) (by omega)).mono ?_
  rintro e w2 ⟨rfl, hb2⟩
  rw [← HL.out]
  have k1 := (win_one w1 t h n).below hb2
  replace HB := Lib.hid ((HB.out.alloc HB.out.size _).trans (hb2.mono (by have := HB.out.size; simp; omega)))
  obtain ⟨⟨c0, c1, c2⟩, ⟨f0, f1, f2⟩⟩ := k1.facts
  clear k1 hb2 HL
  by_cases g1 : l < t
  · have hr := HR.out
    rw [if_pos g1] at hr
    replace HR := Lib.hid hr
    clear hr
    go_wp2
    go_ret
    exact ⟨ret_int HR.out.symm, HB.out⟩
  · by_cases g2 : h ≤ l - t
    · have hr := HR.out
      rw [if_neg g1, if_pos g2] at hr
      replace HR := Lib.hid hr
      clear hr
      go_wp2
      go_ret
      exact ⟨ret_int HR.out.symm, HB.out⟩
    · have hr := HR.out
      rw [if_neg g1, if_neg g2] at hr
      replace HR := Lib.hid hr
      clear hr
      go_wp2
      go_ret
      exact ⟨ret_int HR.out.symm, HB.out⟩
theorem tup2 {a b c d : Int} (h1 : a = c) (h2 : b = d) : Ending.returned (.tuple #[.int .i64 a, .int .i64 b]) = .returned (.tuple #[.int .i64 c, .int .i64 d]) := by rw [h1, h2]
theorem vcell_below {w1 w2 : World} {p : Addr} {v : Value} (h : w1.cell? p = some v) (hb : Below w1.heap.size w1 w2) : w2.cell? p = some v :=
  (hb.cell (World.block_lt_of_cell? w1 p h)).trans h
theorem vbt {w w1 w2 : World} (h : Below w.heap.size w w1) (k : Below w1.heap.size w1 w2) : Below w.heap.size w w2 := h.trans (k.mono h.size)
set_option maxHeartbeats 1000000 in
theorem frame_any (height lines : Int) (w : World) :
    Calls Try.prog 14 #[.int .i64 height, .int .i64 lines] w fun e w' => e = .returned (.tuple #[.int .i64 (hF height), .int .i64 (nF lines)]) ∧ Below w.heap.size w w' := by
  have e1 : hF height = max 1 (min height 200) := by unfold hF; omega
  have e2 : nF lines = max 1 (min lines 1099511627776) := by unfold nF; omega
  have E1 := Lib.hid e1
  have E2 := Lib.hid e2
  clear e1 e2
  go_enter Try.func14, Try.ntmps14
  go_wp2
  all_goals
    go_ret2
    exact ⟨tup2 (by have := E1.out; omega) (by have := E2.out; omega), Below.refl _ _⟩
set_option maxHeartbeats 4000000 in
theorem scroll_any (top by_ height lines : Int) (w : World) :
    Calls Try.prog 19 #[.int .i64 top, .int .i64 by_, .int .i64 height, .int .i64 lines] w fun e w' => e = .returned (.int .i64 (scrollF top by_ height lines)) ∧ Below w.heap.size w w' := by
  have H1 := nF_bd lines
  have H2 := hF_bd height
  have H3 := tF_bd top lines
  have H4 := bF_bd height lines
  have hb : bF height lines = max (nF lines - hF height) 0 := rfl
  have hr : scrollF top by_ height lines = if by_ < 0 ∧ by_ < -(tF top lines) then 0 else if by_ < 0 then tF top lines + by_ else if bF height lines ≤ tF top lines then tF top lines
    else if bF height lines - tF top lines < by_ then bF height lines else tF top lines + by_ := rfl
  generalize scrollF top by_ height lines = r at *
  have hwin := window_any top height lines w
  generalize tF top lines = t at *
  generalize bF height lines = b at *
  generalize hF height = h at *
  generalize nF lines = n at *
  have HBo := Lib.hid hb
  have HR := Lib.hid hr
  have HW := Lib.hid hwin
  clear hb hr hwin
  go_enter Try.func19, Try.ntmps19
  go_wp2_with fail
  refine HW.out.mono ?_
  rintro e w1 ⟨rfl, hb1⟩
  have HB := Lib.hid hb1
  clear hb1 HW
  by_cases g0 : by_ < 0
  · by_cases g1 : by_ < -t
    · have hr := HR.out
      rw [if_pos ⟨g0, g1⟩] at hr
      replace HR := Lib.hid hr
      clear hr
      go_wp2
      go_ret
      exact ⟨ret_int HR.out.symm, HB.out.alloc HB.out.size _⟩
    · have hr := HR.out
      rw [if_neg (by omega), if_pos g0] at hr
      replace HR := Lib.hid hr
      clear hr
      go_wp2
      go_ret
      exact ⟨ret_int HR.out.symm, HB.out.alloc HB.out.size _⟩
  · have hr := HR.out
    rw [if_neg (by omega), if_neg g0] at hr
    replace HR := Lib.hid hr
    clear hr
    have k1 := win_one w1 t h n
    replace HB := Lib.hid (HB.out.alloc HB.out.size (.cells #[.int .i64 t, .int .i64 h, .int .i64 n] 46))
    have hB0 := HB.out
    obtain ⟨⟨c0, c1, c2⟩, ⟨f0, f1, f2⟩⟩ := k1.facts
    go_wp2_with fail
    go_region_held3 (fun w' => w'.cell? ⟨w1.heap.size, 0, none⟩ = some (.int .i64 t) ∧ w'.cell? ⟨w1.heap.size, 1, none⟩ = some (.int .i64 h) ∧ w'.cell? ⟨w1.heap.size, 2, none⟩ = some (.int .i64 n) ∧ Below w.heap.size w w')
      (first | exact ⟨c0, c1, c2, hB0.drew⟩ | go_keep | (go_split_ands; exact ⟨vcell_below (by assumption) hb2, vcell_below (by assumption) hb2, vcell_below (by assumption) hb2, vbt (by assumption) hb2⟩))
      (first | (go_at_call 29; refine (bottom_any t h n _ (by omega) (by omega) (by omega) (by omega)).mono ?_; rintro e w2 ⟨rfl, hb2⟩; rw [← HBo.out]))
    have hh : w2.cell? ⟨w1.heap.size, 0, none⟩ = some (.int .i64 t) ∧ w2.cell? ⟨w1.heap.size, 1, none⟩ = some (.int .i64 h) ∧ w2.cell? ⟨w1.heap.size, 2, none⟩ = some (.int .i64 n) ∧ Below w.heap.size w w2 := by assumption
    obtain ⟨d0, d1, d2, hB1⟩ := hh
    have HB1 := Lib.hid hB1
    clear c0 c1 c2 f0 f1 f2 hB0 k1
    generalize w1.heap.size = gb at *
    by_cases g2 : b ≤ t
    · have hr := HR.out
      rw [if_pos g2] at hr
      replace HR := Lib.hid hr
      clear hr
      go_wp2
      go_ret
      exact ⟨ret_int HR.out.symm, HB1.out⟩
    · have hr := HR.out
      rw [if_neg g2] at hr
      replace HR := Lib.hid hr
      clear hr
      have q6 : IntKind.i64.wrap (b - t) = b - t := by rw [IntKind.wrap_i64]; omega
      go_wp2_with fail
      go_region_held3 (fun w' => w'.cell? ⟨gb, 0, none⟩ = some (.int .i64 t) ∧ w'.cell? ⟨gb, 1, none⟩ = some (.int .i64 h) ∧ w'.cell? ⟨gb, 2, none⟩ = some (.int .i64 n) ∧ Below w.heap.size w w')
        (first | exact ⟨d0, d1, d2, hB1.drew⟩ | go_keep | (go_split_ands; exact ⟨vcell_below (by assumption) hb3, vcell_below (by assumption) hb3, vcell_below (by assumption) hb3, vbt (by assumption) hb3⟩))
        (first | (go_at_call 29; refine (bottom_any t h n _ (by omega) (by omega) (by omega) (by omega)).mono ?_; rintro e w3 ⟨rfl, hb3⟩; rw [← HBo.out]))
      have hh : w3.cell? ⟨gb, 0, none⟩ = some (.int .i64 t) ∧ w3.cell? ⟨gb, 1, none⟩ = some (.int .i64 h) ∧ w3.cell? ⟨gb, 2, none⟩ = some (.int .i64 n) ∧ Below w.heap.size w w3 := by assumption
      obtain ⟨e0, e1, e2, hB2⟩ := hh
      have HB2 := Lib.hid hB2
      clear d0 d1 d2 hB1
      by_cases g3 : b - t < by_
      · have hr := HR.out
        rw [if_pos g3] at hr
        replace HR := Lib.hid hr
        clear hr
        go_wp2_with fail
        refine (bottom_any t h n _ (by omega) (by omega) (by omega) (by omega)).mono ?_
        rintro e w4 ⟨rfl, hb4⟩
        rw [← HBo.out]
        replace HB2 := Lib.hid (vbt HB2.out hb4)
        clear hb4
        go_wp2
        go_ret
        exact ⟨ret_int HR.out.symm, HB2.out⟩
      · have hr := HR.out
        rw [if_neg g3] at hr
        replace HR := Lib.hid hr
        clear hr
        go_wp2
        go_ret
        exact ⟨ret_int HR.out.symm, HB2.out⟩
end Go.Proofs.Ytplgpnmahblhbaa
