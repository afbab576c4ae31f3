/- The walk of ViewWild; a drag and a part rise with the share. No condition. -/
import Derived.Test.YtplgpnmahblhbaaVw
namespace Go.Proofs.Ytplgpnmahblhbaa
open Go.RowKit
/-- what is not above zero is not above what is; and of two that are, the lesser has the lesser rung -/
theorem ord_pos {x y : Nat} (hy : y < 2 ^ 64) (hx : isPos x) (h : FloatKind.f64.format.order x y = some .lt ∨ FloatKind.f64.format.order x y = some .eq) : isPos y ∧ x ≤ y := by
  rw [fmt64] at h
  by_cases hp : isPos y
  · refine ⟨hp, ?_⟩
    rw [order_u hx.2 hp.2] at h
    rcases Nat.lt_or_ge y x with g | g
    · rw [cmp_gt g] at h; rcases h with h | h <;> cases h
    · exact g
  · exfalso
    rcases low_cases hy hp with rfl | ⟨r, rfl, hr⟩ | g
    · rw [order_u hx.2 (Nat.zero_le _), cmp_gt hx.1] at h; rcases h with h | h <;> cases h
    · rcases order_neg hr hx.2 with g | g
      · rw [g.2] at h; rcases h with h | h <;> cases h
      · have := g.2.1; have := hx.1; omega
    · rw [(order_nan x g).2] at h; rcases h with h | h <;> cases h
theorem drag_bd (x : Nat) (height lines : Int) : 0 ≤ dragF x height lines ∧ dragF x height lines ≤ bF height lines := by
  have H1 := nF_bd lines
  have H2 := hF_bd height
  have hb : bF height lines = max (nF lines - hF height) 0 := rfl
  rcases pos_cases x with ⟨h0, h1⟩ | ⟨h1, h2⟩ | hl
  · rw [drag_mid _ _ h0 h1]
    have := (drag_law (x := x) (b := (bF height lines).toNat) (Nat.le_of_lt h1) (by have : (2 : Nat) ^ 40 = 1099511627776 := rfl; omega)).2.2.2
    omega
  · rw [drag_top _ _ h1 h2]; omega
  · rw [drag_low _ _ hl]; omega
theorem part_bd (x : Nat) (height : Int) : 1 ≤ partF x height ∧ partF x height ≤ hF height := by
  have H2 := hF_bd height
  rcases pos_cases x with ⟨h0, h1⟩ | ⟨h1, h2⟩ | hl
  · rw [part_mid _ h0 h1]
    have := (part_law (x := x) (h := (hF height).toNat) (Nat.le_of_lt h1) (by have : (2 : Nat) ^ 40 = 1099511627776 := rfl; omega)).2.2
    omega
  · rw [part_top _ h1 h2]; omega
  · rw [part_low _ hl]; omega
theorem drag_up {x y : Nat} (height lines : Int) (hy : y < 2 ^ 64) (h : FloatKind.f64.format.order x y = some .lt ∨ FloatKind.f64.format.order x y = some .eq) : dragF x height lines ≤ dragF y height lines := by
  have H1 := nF_bd lines
  have H2 := hF_bd height
  have hb : bF height lines = max (nF lines - hF height) 0 := rfl
  by_cases hx : isPos x
  · obtain ⟨hp, hle⟩ := ord_pos hy hx h
    have by1 := drag_bd y height lines
    have bx1 := drag_bd x height lines
    by_cases g : oneW ≤ y
    · rw [drag_top height lines g hp.2]; exact bx1.2
    · have hd := dragN_mono (b := (bF height lines).toNat) hle (by omega) (by have : (2 : Nat) ^ 40 = 1099511627776 := rfl; omega)
      rw [drag_mid height lines hx.1 (by omega), drag_mid height lines hp.1 (by omega)]
      omega
  · rw [drag_low height lines hx]; exact (drag_bd y height lines).1
theorem part_up {x y : Nat} (height : Int) (hy : y < 2 ^ 64) (h : FloatKind.f64.format.order x y = some .lt ∨ FloatKind.f64.format.order x y = some .eq) : partF x height ≤ partF y height := by
  have H2 := hF_bd height
  by_cases hx : isPos x
  · obtain ⟨hp, hle⟩ := ord_pos hy hx h
    by_cases g : oneW ≤ y
    · rw [part_top height g hp.2]; exact (part_bd x height).2
    · have hd := partN_mono (h := (hF height).toNat) hle (by omega) (by have : (2 : Nat) ^ 40 = 1099511627776 := rfl; omega)
      rw [part_mid height hx.1 (by omega), part_mid height hp.1 (by omega)]
      omega
  · rw [part_low height hx]; exact (part_bd y height).1
theorem part_halfF (height : Int) : partF 4602678819172646912 height = max (hF height / 2) 1 := by
  have H2 := hF_bd height
  rw [part_mid height (by decide) (by decide)]
  have := part_half (h := (hF height).toNat) (by have : (2 : Nat) ^ 40 = 1099511627776 := rfl; omega)
  rw [show (4602678819172646912 : Nat) = halfW from rfl, this]
  omega
set_option maxHeartbeats 4000000 in
theorem lawwild_any (share more : Nat) (height lines : Int) (w : World) (hx : share < 2 ^ 64) (hy : more < 2 ^ 64) :
    Calls Try.prog 8 #[.float .f64 share, .float .f64 more, .int .i64 height, .int .i64 lines] w fun e w' => e = .returned (.bool true) ∧ Below w.heap.size w w' := by
  have H1 := nF_bd lines
  have H2 := hF_bd height
  have hb : bF height lines = max (nF lines - hF height) 0 := rfl
  have hfr := frame_any height lines
  have hd := drag_c share height lines hx
  have hp := part_c share height hx
  have hd2 := drag_c more height lines hy
  have hp2 := part_c more height hy
  have hp3 := part_c 4602678819172646912 height (by decide)
  rw [part_halfF] at hp3
  have b1 := drag_bd share height lines
  have b2 := part_bd share height
  have u1 := fun h => drag_up (x := share) (y := more) height lines hy h
  have u2 := fun h => part_up (x := share) (y := more) height hy h
  have hcl : (FloatKind.f64.format.order share share = some .eq ∧ FloatKind.f64.format.order share 0 = some .gt ∧ FloatKind.f64.format.order share 4607182418800017408 = some .lt) ∨
      (FloatKind.f64.format.order share share = some .eq ∧ FloatKind.f64.format.order share 0 = some .gt ∧ (FloatKind.f64.format.order share 4607182418800017408 = some .eq ∨ FloatKind.f64.format.order share 4607182418800017408 = some .gt) ∧ bF height lines ≤ dragF share height lines ∧ hF height ≤ partF share height) ∨
      (dragF share height lines ≤ 0 ∧ partF share height ≤ 1 ∧ ((FloatKind.f64.format.order share share = some .eq ∧ (FloatKind.f64.format.order share 0 = some .lt ∨ FloatKind.f64.format.order share 0 = some .eq) ∧ FloatKind.f64.format.order share 4607182418800017408 = some .lt) ∨
        (FloatKind.f64.format.order share share = none ∧ FloatKind.f64.format.order share 0 = none ∧ FloatKind.f64.format.order share 4607182418800017408 = none))) := by
    rcases pos_cases share with ⟨h0, h1⟩ | ⟨h1, h2⟩ | hl
    · exact .inl (ord_mid h0 h1)
    · obtain ⟨o1, o2, o3⟩ := ord_top h1 h2
      exact .inr (.inl ⟨o1, o2, o3, by rw [drag_top _ _ h1 h2]; exact Int.le_refl _, by rw [part_top _ h1 h2]; exact Int.le_refl _⟩)
    · exact .inr (.inr ⟨by rw [drag_low _ _ hl]; exact Int.le_refl _, by rw [part_low _ hl]; exact Int.le_refl _, ord_low hx hl⟩)
  have ho : (FloatKind.f64.format.order share more = some .lt ∧ dragF share height lines ≤ dragF more height lines ∧ partF share height ≤ partF more height) ∨
      (FloatKind.f64.format.order share more = some .eq ∧ dragF share height lines ≤ dragF more height lines ∧ partF share height ≤ partF more height) ∨
      FloatKind.f64.format.order share more = some .gt ∨ FloatKind.f64.format.order share more = none := by
    rcases h : FloatKind.f64.format.order share more with _ | o
    · exact .inr (.inr (.inr rfl))
    · cases o with
      | lt => exact .inl ⟨rfl, u1 (.inl h), u2 (.inl h)⟩
      | eq => exact .inr (.inl ⟨rfl, u1 (.inr h), u2 (.inr h)⟩)
      | gt => exact .inr (.inr (.inl rfl))
  clear u1 u2
  obtain ⟨m7, hm7⟩ : ∃ m, max (hF height / 2) 1 = m := ⟨_, rfl⟩
  rw [hm7] at hp3
  have hm8 : (if hF height / 2 < 1 then 1 else hF height / 2) = m7 := by split <;> omega
  generalize dragF share height lines = d at *
  generalize dragF more height lines = d2 at *
  generalize partF share height = p at *
  generalize partF more height = p2 at *
  generalize bF height lines = bo at *
  generalize hF height = h at *
  generalize nF lines = n at *
  have hm3 : (if n - h < 0 then 0 else n - h) = bo := by split <;> omega
  have HFR := Lib.hid hfr
  have HD := Lib.hid hd
  have HP := Lib.hid hp
  have HD2 := Lib.hid hd2
  have HP2 := Lib.hid hp2
  have HP3 := Lib.hid hp3
  have HC := Lib.hid hcl
  have HO := Lib.hid ho
  clear hb hfr hd hp hd2 hp2 hp3 hcl ho hm7
  go_enter Try.func8, Try.ntmps8
  go_wp2_with fail
  refine (able_any w).mono ?_
  rintro e w1 ⟨rfl, hb1⟩
  have HB := Lib.hid hb1
  clear hb1
  go_wp2_with fail
  refine (HFR.out w1).mono ?_
  rintro e w2 ⟨rfl, hb2⟩
  replace HB := Lib.hid (vbt HB.out hb2)
  clear hb2
  go_wp2_with fail
  refine (HD.out w2).mono ?_
  rintro e w3 ⟨rfl, hb3⟩
  replace HB := Lib.hid (vbt HB.out hb3)
  clear hb3
  go_wp2_with fail
  refine (HP.out w3).mono ?_
  rintro e w4 ⟨rfl, hb4⟩
  replace HB := Lib.hid (vbt HB.out hb4)
  clear hb4 hm3
  have g1 : ¬ d < 0 := by omega
  have g2 : ¬ bo < d := by omega
  have g3 : ¬ p < 1 := by omega
  have g4 : ¬ h < p := by omega
  have hcc : (FloatKind.f64.format.order share share = some .eq ∧ FloatKind.f64.format.order share 0 = some .gt ∧ FloatKind.f64.format.order share 4607182418800017408 = some .lt) ∨
      (FloatKind.f64.format.order share share = some .eq ∧ FloatKind.f64.format.order share 0 = some .gt ∧ (FloatKind.f64.format.order share 4607182418800017408 = some .eq ∨ FloatKind.f64.format.order share 4607182418800017408 = some .gt) ∧ d = bo ∧ p = h) ∨
      (d = 0 ∧ p = 1 ∧ ((FloatKind.f64.format.order share share = some .eq ∧ (FloatKind.f64.format.order share 0 = some .lt ∨ FloatKind.f64.format.order share 0 = some .eq) ∧ FloatKind.f64.format.order share 4607182418800017408 = some .lt) ∨
        (FloatKind.f64.format.order share share = none ∧ FloatKind.f64.format.order share 0 = none ∧ FloatKind.f64.format.order share 4607182418800017408 = none))) := by
    rcases HC.out with g | ⟨o1, o2, o3, o4, o5⟩ | ⟨o4, o5, g⟩
    · exact .inl g
    · exact .inr (.inl ⟨o1, o2, o3, by omega, by omega⟩)
    · exact .inr (.inr ⟨by omega, by omega, g⟩)
  have hoo : ((FloatKind.f64.format.order share more = some .lt ∨ FloatKind.f64.format.order share more = some .eq) ∧ ¬ d2 < d ∧ ¬ p2 < p) ∨ (FloatKind.f64.format.order share more = some .gt ∨ FloatKind.f64.format.order share more = none) := by
    rcases HO.out with ⟨g, g', g''⟩ | ⟨g, g', g''⟩ | g | g
    · exact .inl ⟨.inl g, by omega, by omega⟩
    · exact .inl ⟨.inr g, by omega, by omega⟩
    · exact .inr (.inl g)
    · exact .inr (.inr g)
  clear HC HO HFR HD HP
  rcases hcc with ⟨o1, o2, o3⟩ | ⟨o1, o2, o3 | o3, rfl, rfl⟩ | ⟨rfl, rfl, ⟨o1, o2 | o2, o3⟩ | ⟨o1, o2, o3⟩⟩
  all_goals
    rcases hoo with ⟨o6 | o6, o7, o8⟩ | o6
    iterate 2
      · skip
        go_wp2_with fail
        refine (HD2.out _).mono ?_
        rintro e w5 ⟨rfl, hb5⟩
        replace HB := Lib.hid (vbt HB.out hb5)
        clear hb5
        go_wp2_with fail
        refine (HP2.out _).mono ?_
        rintro e w6 ⟨rfl, hb6⟩
        replace HB := Lib.hid (vbt HB.out hb6)
        clear hb6
        go_wp2_with fail
        refine (HP3.out _).mono ?_
        rintro e w7 ⟨rfl, hb7⟩
        replace HB := Lib.hid (vbt HB.out hb7)
        clear hb7
        go_wp2
        all_goals
          first
            | (go_ret; exact ⟨ret_bool (by first | rfl | (simp; done) | (simp; omega)), HB.out⟩)
            | (exfalso; omega)
    · rcases o6 with o6 | o6
      all_goals
        go_wp2_with fail
        refine (HP3.out _).mono ?_
        rintro e w7 ⟨rfl, hb7⟩
        replace HB := Lib.hid (vbt HB.out hb7)
        clear hb7
        go_wp2
        all_goals
          first
            | (go_ret; exact ⟨ret_bool (by first | rfl | (simp; done) | (simp; omega)), HB.out⟩)
            | (exfalso; omega)
end Go.Proofs.Ytplgpnmahblhbaa
