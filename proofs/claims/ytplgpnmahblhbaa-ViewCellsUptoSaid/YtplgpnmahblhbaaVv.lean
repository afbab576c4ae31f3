/- Contracts: copyistref14.Share, Drag, Percent, Part at every float. No condition. -/
import Derived.Test.YtplgpnmahblhbaaVu
namespace Go.Proofs.Ytplgpnmahblhbaa
open Go.RowKit
set_option maxHeartbeats 2000000 in
theorem rpart_c (x : Nat) (height : Int) (hx : x < 2 ^ 64) (w : World) :
    Calls Try.prog 50 #[.int .i64 height, .float .f64 x] w fun e w' => e = .returned (.int .i64 (partF x height)) ∧ Below w.heap.size w w' := by
  have H2 := hF_bd height
  have hwin := taken_any height 1 w
  rw [show nF 1 = 1 from by decide, show bF height 1 = 0 from by have := hF_bd height; show max (nF 1 - hF height) 0 = 0; rw [show nF 1 = 1 from by decide]; omega] at hwin
  rcases pos_cases x with ⟨h0, h1⟩ | ⟨h1, h2⟩ | hl
  · obtain ⟨o1, o2, o3⟩ := ord_mid h0 h1
    rw [part_mid height h0 h1]
    obtain ⟨h', hh'⟩ : ∃ h' : Nat, hF height = h' := ⟨(hF height).toNat, by omega⟩
    rw [show (hF height).toNat = h' from by omega]
    obtain ⟨e1, e2, e3⟩ := part_law (h := h') (Nat.le_of_lt h1) (by have : (2 : Nat) ^ 40 = 1099511627776 := rfl; omega)
    rw [hh'] at hwin
    generalize partN h' x = pn at *
    generalize mulN x h' = mn at *
    have p1 : ∀ t w, (binOp .mul t (.float .f64 (floatOfInt .f64 (h' : Int))) (.float .f64 x)).run Try.prog w = .ok (.float .f64 mn) w := fun t w => run_float_arith w .mul t .f64 _ _ _ e1
    have p3 : ∀ w, (convert 29 3 (.float .f64 mn)).run Try.prog w = .ok (.int .i64 (pn : Int)) w := fun w => run_convert_float_int w 29 3 .f64 .i64 mn _ (by rw [Try.underlying29]; rfl) Try.underlying3 e2
    clear e1 e2 hh'
    have HW := Lib.hid hwin
    clear hwin
    go_enter Try.func50, Try.ntmps50
    go_wp2_with fail
    refine HW.out.mono ?_
    rintro e w1 ⟨rfl, hb1⟩
    have HB := Lib.hid (hb1.alloc hb1.size (.cells #[.int .i64 1, .int .i64 (h' : Int), .int .i64 0] 62))
    have k1 := fr_one w1 1 (h' : Int) 0
    obtain ⟨⟨c0, c1, c2⟩, ⟨f0, f1, f2⟩⟩ := k1.facts
    clear hb1 HW k1
    go_wp2
    all_goals
      go_ret
      exact ⟨ret_int (by omega), HB.out⟩
  · rw [part_top height h1 h2]
    generalize hF height = h at *
    have HW := Lib.hid hwin
    clear hwin
    obtain ⟨o1, o2, o3 | o3⟩ := ord_top h1 h2
    all_goals
      go_enter Try.func50, Try.ntmps50
      go_wp2_with fail
      refine HW.out.mono ?_
      rintro e w1 ⟨rfl, hb1⟩
      have HB := Lib.hid (hb1.alloc hb1.size (.cells #[.int .i64 1, .int .i64 h, .int .i64 0] 62))
      have k1 := fr_one w1 1 h 0
      obtain ⟨⟨c0, c1, c2⟩, ⟨f0, f1, f2⟩⟩ := k1.facts
      clear hb1 HW k1
      go_wp2
      all_goals
        go_ret
        exact ⟨ret_int (by omega), HB.out⟩
  · rw [part_low height hl]
    generalize hF height = h at *
    have HW := Lib.hid hwin
    clear hwin
    rcases ord_low hx hl with ⟨o1, o2 | o2, o3⟩ | ⟨o1, o2, o3⟩
    all_goals
      go_enter Try.func50, Try.ntmps50
      go_wp2_with fail
      refine HW.out.mono ?_
      rintro e w1 ⟨rfl, hb1⟩
      have HB := Lib.hid (hb1.alloc hb1.size (.cells #[.int .i64 1, .int .i64 h, .int .i64 0] 62))
      have k1 := fr_one w1 1 h 0
      obtain ⟨⟨c0, c1, c2⟩, ⟨f0, f1, f2⟩⟩ := k1.facts
      clear hb1 HW k1
      go_wp2
      all_goals
        go_ret
        exact ⟨ret_int (by omega), HB.out⟩
set_option maxHeartbeats 2000000 in
theorem rpercent_c (line lines : Int) (w : World) :
    Calls Try.prog 49 #[.int .i64 line, .int .i64 lines] w fun e w' => e = .returned (.int .i64 (pctF line lines)) ∧ Below w.heap.size w w' := by
  have H1 := nF_bd lines
  have H2 := hF_bd 1
  have H3 := tF_bd line lines
  have ht : tF line lines = max 0 (min line (nF lines - 1)) := by unfold tF; omega
  have hta := taken_any 1 lines w
  obtain ⟨p, hp⟩ : ∃ p, pctF line lines = p := ⟨_, rfl⟩
  have hp2 : 100 * (tF line lines + 1) / nF lines = p := hp
  rw [hp]
  have hp3 := pctF_facts line lines
  rw [hp] at hp3
  have q5 : wrap64 p = p := IntWalk.wrap64_in p (by omega)
  clear hp3
  generalize bF 1 lines = b at *
  generalize tF line lines = t at *
  generalize hF 1 = h at *
  generalize nF lines = n at *
  have q0 : (n == 0) = false := by simp; omega
  have q1 : IntKind.i64.wrap (n - 1) = n - 1 := by rw [IntKind.wrap_i64]; omega
  have q2 : IntKind.i64.wrap (t + 1) = t + 1 := by rw [IntKind.wrap_i64]; omega
  have q3 : IntKind.i64.wrap (100 * (t + 1)) = 100 * (t + 1) := by rw [IntKind.wrap_i64]; omega
  have q4 : Int.tdiv (100 * (t + 1)) n = p := by rw [Int.tdiv_eq_ediv_of_nonneg (by omega)]; exact hp2
  have hz : ¬ n = 0 := by omega
  have q6 : IntKind.i64.wrap p = p := by rw [IntWalk.i64_left]; exact q5
  have HT := Lib.hid ht
  have HTA := Lib.hid hta
  clear ht hta hp hp2
  go_enter Try.func49, Try.ntmps49
  go_wp2_with fail
  refine HTA.out.mono ?_
  rintro e w1 ⟨rfl, hb1⟩
  have hB0 := hb1.alloc hb1.size (.cells #[.int .i64 n, .int .i64 h, .int .i64 b] 62)
  have k1 := fr_one w1 n h b
  obtain ⟨⟨c0, c1, c2⟩, ⟨f0, f1, f2⟩⟩ := k1.facts
  clear hb1 HTA k1
  go_wp2_with fail
  go_region_held3 (fun w' => w'.cell? ⟨w1.heap.size, 0, none⟩ = some (.int .i64 n) ∧ Below w.heap.size w w')
    (first | exact ⟨c0, hB0.drew⟩ | go_keep)
    (first | (go_at_call 57; refine (within_any _ _ _ _).mono ?_; rintro e w2 ⟨rfl, rfl⟩; rw [← HT.out]))
  all_goals
    have HD := Lib.hid hB0.drew
    go_wp2
    go_ret
    exact ⟨rfl, HD.out⟩
set_option maxHeartbeats 2000000 in
theorem rshare_c (top height lines : Int) (w : World) :
    Calls Try.prog 47 #[.int .i64 top, .int .i64 height, .int .i64 lines] w fun e w' => e = .returned (.float .f64 (shareF top height lines)) ∧ Below w.heap.size w w' := by
  have H1 := nF_bd lines
  have H2 := hF_bd height
  have H3 := tF_bd top lines
  have H4 := bF_bd height lines
  have ht : tF top lines = max 0 (min top (nF lines - 1)) := by unfold tF; omega
  have hta := taken_any height lines w
  have hq := @share_quo top height lines
  have hz : bF height lines = 0 → shareF top height lines = 0 := fun h => by unfold shareF; rw [if_pos h]
  obtain ⟨m, hm⟩ : ∃ m, min (tF top lines) (bF height lines) = m := ⟨_, rfl⟩
  rw [hm] at hq
  generalize shareF top height lines = q at *
  generalize bF height lines = b at *
  generalize tF top lines = t at *
  generalize hF height = h at *
  generalize nF lines = n at *
  have q1 : IntKind.i64.wrap (n - 1) = n - 1 := by rw [IntKind.wrap_i64]; omega
  have q2 : (if b < t then b else t) = m := by split <;> omega
  have HT := Lib.hid ht
  have HTA := Lib.hid hta
  clear ht hta hm
  by_cases h0 : b = 0
  · obtain rfl := hz h0
    clear hq q2
    obtain rfl : b = 0 := h0
    go_enter Try.func47, Try.ntmps47
    go_wp2_with fail
    refine HTA.out.mono ?_
    rintro e w1 ⟨rfl, hb1⟩
    have HB := Lib.hid (hb1.alloc hb1.size (.cells #[.int .i64 n, .int .i64 h, .int .i64 0] 62))
    have k1 := fr_one w1 n h 0
    obtain ⟨⟨c0, c1, c2⟩, ⟨f0, f1, f2⟩⟩ := k1.facts
    clear hb1 HTA k1
    go_wp2
    go_ret
    exact ⟨rfl, HB.out⟩
  · have z0 : (b == 0) = false := by simp; omega
    replace hq := hq (by omega)
    have hop : ∀ t w, (binOp .quo t (.float .f64 (floatOfInt .f64 m)) (.float .f64 (floatOfInt .f64 b))).run Try.prog w = .ok (.float .f64 q) w := fun t w => run_float_arith w .quo t .f64 _ _ q hq
    clear hq hz
    go_enter Try.func47, Try.ntmps47
    go_wp2_with fail
    refine HTA.out.mono ?_
    rintro e w1 ⟨rfl, hb1⟩
    have hB0 := hb1.alloc hb1.size (.cells #[.int .i64 n, .int .i64 h, .int .i64 b] 62)
    have k1 := fr_one w1 n h b
    obtain ⟨⟨c0, c1, c2⟩, ⟨f0, f1, f2⟩⟩ := k1.facts
    clear hb1 HTA k1
    go_wp2_with fail
    go_region_held3 (fun w' => w'.cell? ⟨w1.heap.size, 0, none⟩ = some (.int .i64 n) ∧ w'.cell? ⟨w1.heap.size, 2, none⟩ = some (.int .i64 b) ∧ Below w.heap.size w w')
      (first | exact ⟨c0, c2, hB0.drew⟩ | go_keep)
      (first | (go_at_call 57; refine (within_any _ _ _ _).mono ?_; rintro e w2 ⟨rfl, rfl⟩; rw [← HT.out]))
    all_goals
      have HD := Lib.hid hB0.drew
      go_wp2
      go_ret
      exact ⟨rfl, HD.out⟩
set_option maxHeartbeats 2000000 in
theorem rdrag_c (x : Nat) (height lines : Int) (hx : x < 2 ^ 64) (w : World) :
    Calls Try.prog 48 #[.float .f64 x, .int .i64 height, .int .i64 lines] w fun e w' => e = .returned (.int .i64 (dragF x height lines)) ∧ Below w.heap.size w w' := by
  have H1 := nF_bd lines
  have H2 := hF_bd height
  have H4 := bF_bd height lines
  have hta := taken_any height lines w
  rcases pos_cases x with ⟨h0, h1⟩ | ⟨h1, h2⟩ | hl
  · obtain ⟨o1, o2, o3⟩ := ord_mid h0 h1
    rw [drag_mid height lines h0 h1]
    obtain ⟨b', hb'⟩ : ∃ b' : Nat, bF height lines = b' := ⟨(bF height lines).toNat, by omega⟩
    rw [show (bF height lines).toNat = b' from by omega]
    obtain ⟨e1, e2, e3, e4⟩ := drag_law (b := b') (Nat.le_of_lt h1) (by have : (2 : Nat) ^ 40 = 1099511627776 := rfl; omega)
    rw [hb'] at hta
    generalize dragN x b' = dn at *
    generalize halfN (mulN x b') = hn at *
    generalize mulN x b' = mn at *
    have p1 : ∀ t w, (binOp .mul t (.float .f64 x) (.float .f64 (floatOfInt .f64 (b' : Int)))).run Try.prog w = .ok (.float .f64 mn) w := fun t w => run_float_arith w .mul t .f64 _ _ _ e1
    have p2 : ∀ t w, (binOp .add t (.float .f64 mn) (.float .f64 4602678819172646912)).run Try.prog w = .ok (.float .f64 hn) w := fun t w => run_float_arith w .add t .f64 _ _ _ e2
    have p3 : ∀ w, (convert 29 3 (.float .f64 hn)).run Try.prog w = .ok (.int .i64 (dn : Int)) w := fun w => run_convert_float_int w 29 3 .f64 .i64 hn _ (by rw [Try.underlying29]; rfl) Try.underlying3 e3
    have q2 : ¬ ((b' : Int) < dn) := by omega
    clear e1 e2 e3 hb'
    generalize nF lines = n at *
    generalize hF height = h at *
    have HTA := Lib.hid hta
    clear hta
    go_enter Try.func48, Try.ntmps48
    go_wp2_with fail
    refine HTA.out.mono ?_
    rintro e w1 ⟨rfl, hb1⟩
    have HB := Lib.hid (hb1.alloc hb1.size (.cells #[.int .i64 n, .int .i64 h, .int .i64 (b' : Int)] 62))
    have k1 := fr_one w1 n h (b' : Int)
    obtain ⟨⟨c0, c1, c2⟩, ⟨f0, f1, f2⟩⟩ := k1.facts
    clear hb1 HTA k1
    go_wp2
    all_goals
      go_ret
      exact ⟨ret_int (by omega), HB.out⟩
  · rw [drag_top height lines h1 h2]
    generalize bF height lines = b at *
    generalize nF lines = n at *
    generalize hF height = h at *
    have HTA := Lib.hid hta
    clear hta
    obtain ⟨o1, o2, o3 | o3⟩ := ord_top h1 h2
    all_goals
      go_enter Try.func48, Try.ntmps48
      go_wp2_with fail
      refine HTA.out.mono ?_
      rintro e w1 ⟨rfl, hb1⟩
      have HB := Lib.hid (hb1.alloc hb1.size (.cells #[.int .i64 n, .int .i64 h, .int .i64 b] 62))
      have k1 := fr_one w1 n h b
      obtain ⟨⟨c0, c1, c2⟩, ⟨f0, f1, f2⟩⟩ := k1.facts
      clear hb1 HTA k1
      go_wp2
      go_ret
      exact ⟨rfl, HB.out⟩
  · rw [drag_low height lines hl]
    generalize bF height lines = b at *
    generalize nF lines = n at *
    generalize hF height = h at *
    have HTA := Lib.hid hta
    clear hta
    rcases ord_low hx hl with ⟨o1, o2 | o2, o3⟩ | ⟨o1, o2, o3⟩
    all_goals
      go_enter Try.func48, Try.ntmps48
      go_wp2_with fail
      refine HTA.out.mono ?_
      rintro e w1 ⟨rfl, hb1⟩
      have HB := Lib.hid (hb1.alloc hb1.size (.cells #[.int .i64 n, .int .i64 h, .int .i64 b] 62))
      have k1 := fr_one w1 n h b
      obtain ⟨⟨c0, c1, c2⟩, ⟨f0, f1, f2⟩⟩ := k1.facts
      clear hb1 HTA k1
      go_wp2
      go_ret
      exact ⟨rfl, HB.out⟩
end Go.Proofs.Ytplgpnmahblhbaa
