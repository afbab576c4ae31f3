/- The walk of ViewRound. No condition. -/
import Derived.Test.YtplgpnmahblhbaaVw
namespace Go.Proofs.Ytplgpnmahblhbaa
open Go.RowKit
set_option maxHeartbeats 4000000 in
theorem lawround_any (top other height lines : Int) (w : World) :
    Calls Try.prog 5 #[.int .i64 top, .int .i64 other, .int .i64 height, .int .i64 lines] w fun e w' => e = .returned (.bool true) ∧ Below w.heap.size w w' := by
  have H1 := nF_bd lines
  have H2 := hF_bd height
  have H3 := tF_bd top lines
  have H4 := tF_bd other lines
  have hb : bF height lines = max (nF lines - hF height) 0 := rfl
  have ht : tF top lines = max 0 (min top (nF lines - 1)) := by unfold tF; omega
  have hl : tF other lines = max 0 (min other (nF lines - 1)) := by unfold tF; omega
  have hfr := frame_any height lines
  have hs := share_c top height lines
  have hu := share_c other height lines
  have hx : shareF top height lines < 2 ^ 64 := Nat.lt_of_le_of_lt (share_le top height lines) (by decide)
  have hd := drag_c (shareF top height lines) height lines hx
  rw [share_drag] at hd
  obtain ⟨mm, hmm⟩ : ∃ mm, min (tF top lines) (bF height lines) = mm := ⟨_, rfl⟩
  rw [hmm] at hd
  have hsu1 : tF top lines < tF other lines → shareF top height lines ≤ shareF other height lines := share_up
  have hsu2 : tF top lines < tF other lines → tF other lines ≤ bF height lines → shareF top height lines < shareF other height lines := share_two
  have hsf := share_facts top height lines
  have hu1 := share_le other height lines
  have hs1 := share_le top height lines
  generalize shareF top height lines = s at *
  generalize shareF other height lines = u at *
  generalize tF top lines = a at *
  generalize tF other lines = b at *
  generalize bF height lines = bo at *
  generalize hF height = h at *
  generalize nF lines = n at *
  have hsc : (bo = 0 ∧ s = 0) ∨ (0 < bo ∧ a = 0 ∧ s = 0) ∨ (0 < a ∧ a < bo ∧ 0 < s ∧ s < oneW) ∨ (0 < bo ∧ bo ≤ a ∧ s = oneW) := by
    rcases hsf with h | h | h | h
    · exact .inl h
    · exact .inr (.inl h)
    · exact .inr (.inr (.inl ⟨h.1, h.2.1, h.2.2.1, h.2.2.2.1⟩))
    · exact .inr (.inr (.inr h))
  have hm1 : ∃ m, (if n - 1 < top then n - 1 else top) = m ∧ (if 0 < m then m else 0) = a := ⟨_, rfl, by split <;> split <;> omega⟩
  have hm2 : ∃ m, (if n - 1 < other then n - 1 else other) = m ∧ (if 0 < m then m else 0) = b := ⟨_, rfl, by split <;> split <;> omega⟩
  have hm3 : (if n - h < 0 then 0 else n - h) = bo := by split <;> omega
  have hm7 : (if bo < a then bo else a) = mm := by split <;> omega
  obtain ⟨m1, m2, m3⟩ := hm1
  obtain ⟨m4, m5, m6⟩ := hm2
  have HFR := Lib.hid hfr
  have HS := Lib.hid hs
  have HU := Lib.hid hu
  have HD := Lib.hid hd
  have HSU1 := Lib.hid hsu1
  have HSU2 := Lib.hid hsu2
  have HSC := Lib.hid hsc
  clear hmm hb ht hl hfr hs hu hd hsu1 hsu2 hsf hsc hx
  go_enter Try.func5, Try.ntmps5
  go_wp2_with fail
  refine (able_any w).mono ?_
  rintro e w1 ⟨rfl, hb1⟩
  have HB := Lib.hid hb1
  clear hb1
  go_wp2_with fail
  refine (HFR.out w1).mono ?_
  rintro e w2 ⟨rfl, hb2⟩
  replace HB := Lib.hid (vbt HB.out hb2)
  clear hb2
  go_wp2_with fail
  refine (HS.out w2).mono ?_
  rintro e w3 ⟨rfl, hb3⟩
  replace HB := Lib.hid (vbt HB.out hb3)
  clear hb3
  go_wp2_with fail
  refine (HU.out w3).mono ?_
  rintro e w4 ⟨rfl, hb4⟩
  replace HB := Lib.hid (vbt HB.out hb4)
  clear hb4 m2 m3 m5 m6 hm3
  have hsi : s ≤ infF := Nat.le_trans hs1 oneW_le
  have hui : u ≤ infF := Nat.le_trans hu1 oneW_le
  have ho : (FloatKind.f64.format.order s u = some .lt) ∨ (FloatKind.f64.format.order s u = some .eq ∧ b ≤ a) ∨ (FloatKind.f64.format.order s u = some .eq ∧ a < b ∧ bo < b) ∨ (FloatKind.f64.format.order s u = some .gt ∧ b ≤ a) := by
    rw [fmt64, order_u hsi hui]
    have h1 := HSU1.out
    have h2 := HSU2.out
    rcases Nat.lt_trichotomy s u with g | g | g
    · exact .inl (by rw [cmp_lt g])
    · by_cases g2 : b ≤ a
      · exact .inr (.inl ⟨by rw [cmp_eq g], g2⟩)
      · refine .inr (.inr (.inl ⟨by rw [cmp_eq g], by omega, ?_⟩))
        by_cases g3 : bo < b
        · exact g3
        · have := h2 (by omega) (by omega); omega
    · refine .inr (.inr (.inr ⟨by rw [cmp_gt g], ?_⟩))
      by_cases g2 : b ≤ a
      · exact g2
      · have := h1 (by omega); omega
  have ho1 : (FloatKind.f64.format.order s 0 = some .eq ∧ FloatKind.f64.format.order s 4607182418800017408 = some .lt ∧ (bo = 0 ∨ (0 < bo ∧ a = 0))) ∨
      (FloatKind.f64.format.order s 0 = some .gt ∧ FloatKind.f64.format.order s 4607182418800017408 = some .lt ∧ 0 < a ∧ a < bo) ∨
      (FloatKind.f64.format.order s 0 = some .gt ∧ FloatKind.f64.format.order s 4607182418800017408 = some .eq ∧ 0 < bo ∧ bo ≤ a) := by
    rcases HSC.out with g | g | g | g
    · refine .inl ⟨?_, ?_, .inl g.1⟩ <;> rw [g.2] <;> decide +kernel
    · refine .inl ⟨?_, ?_, .inr ⟨g.1, g.2.1⟩⟩ <;> rw [g.2.2] <;> decide +kernel
    · exact .inr (.inl ⟨(ord_mid g.2.2.1 g.2.2.2).2.1, (ord_mid g.2.2.1 g.2.2.2).2.2, g.1, g.2.1⟩)
    · refine .inr (.inr ⟨?_, ?_, g.1, g.2.1⟩) <;> rw [g.2.2] <;> decide +kernel
  clear HFR HS HU HSU1 HSU2 HSC hsi hui hs1 hu1
  have HD' := HD
  clear HD
  rcases ho with ho | ⟨ho, ho'⟩ | ⟨ho, ho', ho''⟩ | ⟨ho, ho'⟩
  all_goals
    rcases ho1 with ⟨o1, o2, rfl | ⟨o3, rfl⟩⟩ | ⟨o1, o2, o3, o4⟩ | ⟨o1, o2, o3, o4⟩
    all_goals
      try have z1 : (a == 0) = false := by simp; omega
      try have z2 : (bo == 0) = false := by simp; omega
      go_wp2_with (first | (go_at_call 18; refine (HD'.out _).mono ?_; rintro e w5 ⟨rfl, hb5⟩; replace HB := Lib.hid (vbt HB.out hb5); clear hb5))
      all_goals
        first
          | (go_ret; exact ⟨ret_bool (by first | rfl | (simp; done) | (simp; omega)), HB.out⟩)
          | (exfalso; omega)
end Go.Proofs.Ytplgpnmahblhbaa
