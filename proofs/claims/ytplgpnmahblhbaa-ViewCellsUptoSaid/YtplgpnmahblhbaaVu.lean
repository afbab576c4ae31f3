/- Contracts: view.Share, Drag, Part and copyistref14.Share, Drag, Percent, Part at every float. No condition. -/
import Derived.Test.YtplgpnmahblhbaaVt
import Derived.Test.YtplgpnmahblhbaaVi
namespace Go.Proofs.Ytplgpnmahblhbaa
open Go.RowKit
/-- above zero, infinity too -/
def isPos (x : Nat) : Prop := 0 < x ∧ x ≤ infF
theorem low_cases {x : Nat} (hx : x < 2 ^ 64) (h : ¬ isPos x) : x = 0 ∨ (∃ r, x = 2 ^ 63 + r ∧ r ≤ infF) ∨ infF < x % 2 ^ 63 := by
  unfold isPos at h
  have hi : infF = 2047 * 2 ^ 52 := rfl
  by_cases h0 : x = 0
  · exact .inl h0
  · by_cases h1 : infF < x % 2 ^ 63
    · exact .inr (.inr h1)
    · refine .inr (.inl ⟨x - 2 ^ 63, ?_, ?_⟩) <;> omega
theorem fmt64 : FloatKind.f64.format = Ieee.double := rfl
theorem oneW_le : oneW ≤ infF := by decide
/-- the order of a float to 0, 1 and itself -/
theorem ord_mid {x : Nat} (h0 : 0 < x) (h1 : x < oneW) : FloatKind.f64.format.order x x = some .eq ∧ FloatKind.f64.format.order x 0 = some .gt ∧ FloatKind.f64.format.order x 4607182418800017408 = some .lt := by
  have hx : x ≤ infF := Nat.le_of_lt (Nat.lt_of_lt_of_le h1 oneW_le)
  rw [fmt64, order_u hx hx, order_u hx (Nat.zero_le _), order_u hx (show 4607182418800017408 ≤ infF from oneW_le), cmp_eq rfl, cmp_gt h0, @cmp_lt x 4607182418800017408 h1]
  exact ⟨rfl, rfl, rfl⟩
theorem ord_top {x : Nat} (h1 : oneW ≤ x) (hx : x ≤ infF) : FloatKind.f64.format.order x x = some .eq ∧ FloatKind.f64.format.order x 0 = some .gt ∧ (FloatKind.f64.format.order x 4607182418800017408 = some .eq ∨ FloatKind.f64.format.order x 4607182418800017408 = some .gt) := by
  have h0 : 0 < x := Nat.lt_of_lt_of_le (by decide) h1
  rw [fmt64, order_u hx hx, order_u hx (Nat.zero_le _), order_u hx (show 4607182418800017408 ≤ infF from oneW_le), cmp_eq rfl, cmp_gt h0]
  refine ⟨rfl, rfl, ?_⟩
  rcases Nat.lt_or_eq_of_le h1 with h | rfl
  · exact .inr (by rw [@cmp_gt x 4607182418800017408 h])
  · exact .inl (by rw [@cmp_eq oneW 4607182418800017408 rfl])
theorem ord_low {x : Nat} (hx : x < 2 ^ 64) (h : ¬ isPos x) :
    (FloatKind.f64.format.order x x = some .eq ∧ (FloatKind.f64.format.order x 0 = some .lt ∨ FloatKind.f64.format.order x 0 = some .eq) ∧ FloatKind.f64.format.order x 4607182418800017408 = some .lt) ∨
    (FloatKind.f64.format.order x x = none ∧ FloatKind.f64.format.order x 0 = none ∧ FloatKind.f64.format.order x 4607182418800017408 = none) := by
  rw [fmt64]
  rcases low_cases hx h with rfl | ⟨r, rfl, hr⟩ | h
  · rw [order_u (Nat.zero_le _) (Nat.zero_le _), order_u (Nat.zero_le _) (show 4607182418800017408 ≤ infF from oneW_le), cmp_eq rfl, cmp_lt (by decide)]
    exact .inl ⟨rfl, .inr rfl, rfl⟩
  · refine .inl ⟨order_self_neg hr, ?_, ?_⟩
    · rcases order_neg hr (Nat.zero_le infF) with h | h
      · exact .inl h.1
      · exact .inr h.2.2.1
    · rcases order_neg hr (show 4607182418800017408 ≤ infF from oneW_le) with h | h
      · exact h.1
      · exact absurd h.2.1 (by decide)
  · exact .inr ⟨(order_nan x h).1, (order_nan 0 h).1, (order_nan _ h).1⟩
/-- the share -/
def shareF (top height lines : Int) : Nat := if bF height lines = 0 then 0 else if tF top lines = 0 then 0 else quoN (min (tF top lines) (bF height lines)).toNat (bF height lines).toNat
theorem share_quo {top height lines : Int} (hb : 0 < bF height lines) :
    floatBits .quo .f64 (floatOfInt .f64 (min (tF top lines) (bF height lines))) (floatOfInt .f64 (bF height lines)) = some (shareF top height lines) := by
  have H1 := nF_bd lines
  have H2 := hF_bd height
  have H3 := tF_bd top lines
  have H4 : bF height lines = max (nF lines - hF height) 0 := rfl
  unfold shareF
  rw [if_neg (by omega)]
  generalize bF height lines = b at *
  generalize tF top lines = t at *
  have hp : (2 : Nat) ^ 40 = 1099511627776 := rfl
  obtain ⟨b', rfl⟩ : ∃ b' : Nat, b = b' := ⟨b.toNat, by omega⟩
  obtain ⟨t', rfl⟩ : ∃ t' : Nat, t = t' := ⟨t.toNat, by omega⟩
  obtain ⟨m, hm⟩ : ∃ m : Nat, min (t' : Int) (b' : Int) = (m : Int) := ⟨min t' b', by omega⟩
  rw [hm]
  split
  · obtain rfl : m = 0 := by omega
    exact quoN_zero (by omega) (by omega)
  · exact (quoN_pos (a := m) (by omega) (by omega) (by omega)).1
theorem share_c (top height lines : Int) (w : World) :
    Calls Try.prog 17 #[.int .i64 top, .int .i64 height, .int .i64 lines] w fun e w' => e = .returned (.float .f64 (shareF top height lines)) ∧ Below w.heap.size w w' := by
  have H4 := bF_bd height lines
  rcases Int.lt_or_eq_of_le (show 0 ≤ bF height lines by omega) with h | h
  · exact share_any top height lines _ w h (share_quo h)
  · have : shareF top height lines = 0 := by unfold shareF; rw [if_pos h.symm]
    rw [this]
    exact share_zero top height lines w h.symm
/-- the top at a share; the rows of a part -/
noncomputable def dragF (x : Nat) (height lines : Int) : Int := open Classical in if isPos x then (if x < oneW then (dragN x (bF height lines).toNat : Int) else bF height lines) else 0
noncomputable def partF (x : Nat) (height : Int) : Int := open Classical in if isPos x then (if x < oneW then max (partN (hF height).toNat x : Int) 1 else hF height) else 1
theorem drag_mid {x : Nat} (height lines : Int) (h0 : 0 < x) (h1 : x < oneW) : dragF x height lines = (dragN x (bF height lines).toNat : Int) := by
  unfold dragF; rw [if_pos ⟨h0, Nat.le_of_lt (Nat.lt_of_lt_of_le h1 oneW_le)⟩, if_pos h1]
theorem drag_top {x : Nat} (height lines : Int) (h1 : oneW ≤ x) (hx : x ≤ infF) : dragF x height lines = bF height lines := by
  unfold dragF; rw [if_pos ⟨Nat.lt_of_lt_of_le (by decide) h1, hx⟩, if_neg (by omega)]
theorem drag_low {x : Nat} (height lines : Int) (h : ¬ isPos x) : dragF x height lines = 0 := by
  unfold dragF; rw [if_neg h]
theorem part_mid {x : Nat} (height : Int) (h0 : 0 < x) (h1 : x < oneW) : partF x height = max (partN (hF height).toNat x : Int) 1 := by
  unfold partF; rw [if_pos ⟨h0, Nat.le_of_lt (Nat.lt_of_lt_of_le h1 oneW_le)⟩, if_pos h1]
theorem part_top {x : Nat} (height : Int) (h1 : oneW ≤ x) (hx : x ≤ infF) : partF x height = hF height := by
  unfold partF; rw [if_pos ⟨Nat.lt_of_lt_of_le (by decide) h1, hx⟩, if_neg (by omega)]
theorem part_low {x : Nat} (height : Int) (h : ¬ isPos x) : partF x height = 1 := by
  unfold partF; rw [if_neg h]
theorem pos_cases (x : Nat) : (0 < x ∧ x < oneW) ∨ (oneW ≤ x ∧ x ≤ infF) ∨ ¬ isPos x := by
  unfold isPos
  have := oneW_le
  omega
set_option maxHeartbeats 2000000 in
theorem drag_c (x : Nat) (height lines : Int) (hx : x < 2 ^ 64) (w : World) :
    Calls Try.prog 18 #[.float .f64 x, .int .i64 height, .int .i64 lines] w fun e w' => e = .returned (.int .i64 (dragF x height lines)) ∧ Below w.heap.size w w' := by
  have H1 := nF_bd lines
  have H2 := hF_bd height
  have hbo : bF height lines = max (nF lines - hF height) 0 := rfl
  have hwin := window_any 0 height lines w
  rw [show tF 0 lines = 0 from by unfold tF; omega] at hwin
  rcases pos_cases x with ⟨h0, h1⟩ | ⟨h1, h2⟩ | hl
  · obtain ⟨o1, o2, o3⟩ := ord_mid h0 h1
    rw [drag_mid height lines h0 h1]
    obtain ⟨b', hb'⟩ : ∃ b' : Nat, bF height lines = b' := ⟨(bF height lines).toNat, by omega⟩
    rw [show (bF height lines).toNat = b' from by omega]
    obtain ⟨e1, e2, e3, e4⟩ := drag_law (b := b') (Nat.le_of_lt h1) (by have : (2 : Nat) ^ 40 = 1099511627776 := rfl; omega)
    rw [hb'] at hbo
    generalize dragN x b' = dn at *
    generalize halfN (mulN x b') = hn at *
    generalize mulN x b' = mn at *
    have p1 : ∀ t w, (binOp .mul t (.float .f64 x) (.float .f64 (floatOfInt .f64 (b' : Int)))).run Try.prog w = .ok (.float .f64 mn) w := fun t w => run_float_arith w .mul t .f64 _ _ _ e1
    have p2 : ∀ t w, (binOp .add t (.float .f64 mn) (.float .f64 4602678819172646912)).run Try.prog w = .ok (.float .f64 hn) w := fun t w => run_float_arith w .add t .f64 _ _ _ e2
    have p3 : ∀ w, (convert 29 3 (.float .f64 hn)).run Try.prog w = .ok (.int .i64 (dn : Int)) w := fun w => run_convert_float_int w 29 3 .f64 .i64 hn _ (by rw [Try.underlying29]; rfl) Try.underlying3 e3
    clear e1 e2 e3
    generalize nF lines = n at *
    generalize hF height = h at *
    have HBo := Lib.hid hbo
    have HW := Lib.hid hwin
    clear hbo hwin hb'
    go_enter Try.func18, Try.ntmps18
    go_wp2_with fail
    refine HW.out.mono ?_
    rintro e w1 ⟨rfl, hb1⟩
    have HB := Lib.hid hb1
    clear hb1 HW
    go_wp2_with fail
    refine (bottom_any 0 h n _ (by omega) (by omega) (by omega) (by omega)).mono ?_
    rintro e w2 ⟨rfl, hb2⟩
    rw [← HBo.out]
    replace HB := Lib.hid (vbt HB.out hb2)
    clear hb2
    go_wp2
    all_goals
      go_ret
      exact ⟨ret_int (by omega), HB.out⟩
  · rw [drag_top height lines h1 h2]
    generalize bF height lines = b at *
    generalize nF lines = n at *
    generalize hF height = h at *
    have HBo := Lib.hid hbo
    have HW := Lib.hid hwin
    clear hbo hwin
    go_enter Try.func18, Try.ntmps18
    obtain ⟨o1, o2, o3 | o3⟩ := ord_top h1 h2
    all_goals
      go_wp2_with fail
      refine HW.out.mono ?_
      rintro e w1 ⟨rfl, hb1⟩
      have HB := Lib.hid hb1
      clear hb1 HW
      go_wp2_with fail
      refine (bottom_any 0 h n _ (by omega) (by omega) (by omega) (by omega)).mono ?_
      rintro e w2 ⟨rfl, hb2⟩
      rw [← HBo.out]
      replace HB := Lib.hid (vbt HB.out hb2)
      clear hb2
      go_wp2
      all_goals
        go_ret
        exact ⟨ret_int (by omega), HB.out⟩
  · rw [drag_low height lines hl]
    generalize bF height lines = b at *
    generalize nF lines = n at *
    generalize hF height = h at *
    have HBo := Lib.hid hbo
    have HW := Lib.hid hwin
    clear hbo hwin
    go_enter Try.func18, Try.ntmps18
    rcases ord_low hx hl with ⟨o1, o2 | o2, o3⟩ | ⟨o1, o2, o3⟩
    all_goals
      go_wp2_with fail
      refine HW.out.mono ?_
      rintro e w1 ⟨rfl, hb1⟩
      have HB := Lib.hid hb1
      clear hb1 HW
      go_wp2_with fail
      refine (bottom_any 0 h n _ (by omega) (by omega) (by omega) (by omega)).mono ?_
      rintro e w2 ⟨rfl, hb2⟩
      rw [← HBo.out]
      replace HB := Lib.hid (vbt HB.out hb2)
      clear hb2
      go_wp2
      all_goals
        go_ret
        exact ⟨ret_int (by omega), HB.out⟩
set_option maxHeartbeats 2000000 in
theorem part_c (x : Nat) (height : Int) (hx : x < 2 ^ 64) (w : World) :
    Calls Try.prog 24 #[.int .i64 height, .float .f64 x] w fun e w' => e = .returned (.int .i64 (partF x height)) ∧ Below w.heap.size w w' := by
  have H2 := hF_bd height
  have hwin := window_any 0 height 1 w
  rw [show nF 1 = 1 from by decide, show tF 0 1 = 0 from by decide] at hwin
  rcases pos_cases x with ⟨h0, h1⟩ | ⟨h1, h2⟩ | hl
  · obtain ⟨o1, o2, o3⟩ := ord_mid h0 h1
    rw [part_mid height h0 h1]
    obtain ⟨h', hh'⟩ : ∃ h' : Nat, hF height = h' := ⟨(hF height).toNat, by omega⟩
    rw [show (hF height).toNat = h' from by omega]
    obtain ⟨e1, e2, e3⟩ := part_law (h := h') (Nat.le_of_lt h1) (by have : (2 : Nat) ^ 40 = 1099511627776 := rfl; omega)
    rw [hh'] at hwin
    generalize partN h' x = pn at *
    generalize mulN x h' = mn at *
    have p1 : ∀ t w, (binOp .mul t (.float .f64 (floatOfInt .f64 (h' : Int))) (.float .f64 x)).run Try.prog w = .ok (.float .f64 mn) w := fun t w => run_float_arith w .mul t .f64 _ _ _ e1
    have p3 : ∀ w, (convert 29 3 (.float .f64 mn)).run Try.prog w = .ok (.int .i64 (pn : Int)) w := fun w => run_convert_float_int w 29 3 .f64 .i64 mn _ (by rw [Try.underlying29]; rfl) Try.underlying3 e2
    clear e1 e2 hh'
    have hfd : ∀ w : World, (Instr.field 46 (.agg #[.int .i64 0, .int .i64 (h' : Int), .int .i64 1]) 1).run Try.prog w = .ok (.int .i64 (h' : Int)) w := fun _ => by kernel_rfl
    have HW := Lib.hid hwin
    clear hwin
    go_enter Try.func24, Try.ntmps24
    go_wp2_with fail
    refine HW.out.mono ?_
    rintro e w1 ⟨rfl, hb1⟩
    have HB := Lib.hid hb1
    clear hb1 HW
    go_wp2
    all_goals
      go_ret
      exact ⟨ret_int (by omega), HB.out⟩
  · rw [part_top height h1 h2]
    generalize hF height = h at *
    have hfd : ∀ w : World, (Instr.field 46 (.agg #[.int .i64 0, .int .i64 h, .int .i64 1]) 1).run Try.prog w = .ok (.int .i64 h) w := fun _ => by kernel_rfl
    have HW := Lib.hid hwin
    clear hwin
    obtain ⟨o1, o2, o3 | o3⟩ := ord_top h1 h2
    all_goals
      go_enter Try.func24, Try.ntmps24
      go_wp2_with fail
      refine HW.out.mono ?_
      rintro e w1 ⟨rfl, hb1⟩
      have HB := Lib.hid hb1
      clear hb1 HW
      go_wp2
      all_goals
        go_ret
        exact ⟨ret_int (by omega), HB.out⟩
  · rw [part_low height hl]
    generalize hF height = h at *
    have hfd : ∀ w : World, (Instr.field 46 (.agg #[.int .i64 0, .int .i64 h, .int .i64 1]) 1).run Try.prog w = .ok (.int .i64 h) w := fun _ => by kernel_rfl
    have HW := Lib.hid hwin
    clear hwin
    rcases ord_low hx hl with ⟨o1, o2 | o2, o3⟩ | ⟨o1, o2, o3⟩
    all_goals
      go_enter Try.func24, Try.ntmps24
      go_wp2_with fail
      refine HW.out.mono ?_
      rintro e w1 ⟨rfl, hb1⟩
      have HB := Lib.hid hb1
      clear hb1 HW
      go_wp2
      all_goals
        go_ret
        exact ⟨ret_int (by omega), HB.out⟩
end Go.Proofs.Ytplgpnmahblhbaa
