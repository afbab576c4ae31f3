/- The walk of ViewPercents. No condition. -/
import Derived.Test.YtplgpnmahblhbaaVt
namespace Go.Proofs.Ytplgpnmahblhbaa
open Go.RowKit
set_option maxHeartbeats 8000000 in
theorem lawpercents_any (line lines : Int) (w : World) :
    Calls Try.prog 4 #[.int .i64 line, .int .i64 lines] w fun e w' => e = .returned (.bool true) ∧ Below w.heap.size w w' := by
  have H1 := nF_bd lines
  have ht : tF line lines = max 0 (min line (nF lines - 1)) := by unfold tF; have := nF_bd lines; omega
  have hfr := frame_any 1 lines
  rw [show hF 1 = 1 from by decide] at hfr
  have hpc := percent_c line lines
  obtain ⟨P1, P2, P3, P4, P5, P6⟩ := pctF_facts line lines
  generalize pctF line lines = p at *
  generalize tF line lines = t at *
  generalize nF lines = n at *
  have H3 : 0 ≤ t ∧ t < n := by omega
  have hmn : ∃ m, (if n - 1 < line then n - 1 else line) = m ∧ (if 0 < m then m else 0) = t := ⟨_, rfl, by split <;> split <;> omega⟩
  obtain ⟨m0, m1, m2⟩ := hmn
  have hm1 : IntKind.i64.wrap (p * n) = p * n := by rw [IntKind.wrap_i64]; have c2 : (p + 1) * n = p * n + n := (by rw [Int.add_mul, Int.one_mul]); omega
  have hm2 : IntKind.i64.wrap ((p + 1) * n) = (p + 1) * n := by rw [IntKind.wrap_i64]; have c2 : (p + 1) * n = p * n + n := (by rw [Int.add_mul, Int.one_mul]); omega
  obtain ⟨M1, hM1⟩ : ∃ M1, p * n = M1 := ⟨_, rfl⟩
  obtain ⟨M2, hM2⟩ : ∃ M2, (p + 1) * n = M2 := ⟨_, rfl⟩
  have hm3 : p = 100 → IntKind.i64.wrap (101 * n) = M2 := fun h => by rw [h] at hm2 hM2; rw [← hM2]; exact hm2
  have hm4 : p = 100 → IntKind.i64.wrap (100 * n) = M1 := fun h => by rw [h] at hm1 hM1; rw [← hM1]; exact hm1
  replace hm1 := hm1.trans hM1
  replace hm2 := hm2.trans hM2
  rw [hM1] at P3 P6
  rw [hM2] at P4
  have q1 : IntKind.i64.wrap (p + 1) = p + 1 := by rw [IntKind.wrap_i64]; omega
  clear hM1 hM2
  have hm5 : wrap64 (p * n) = M1 := by rw [← IntWalk.i64_left]; exact hm1
  have hm6 : wrap64 ((p + 1) * n) = M2 := by rw [← IntWalk.i64_left]; exact hm2
  have HFR := Lib.hid hfr
  have HPC := Lib.hid hpc
  clear ht hfr hpc
  have hpd : (p = 100 ∧ (t == n - 1) = true) ∨ ((p == 100) = false ∧ (t == n - 1) = false) := by
    by_cases h : p = 100
    · exact .inl ⟨h, by have := P5.1 h; simp; omega⟩
    · exact .inr ⟨by simpa using h, by have : t ≠ n - 1 := fun e => h (P5.2 e); simp; omega⟩
  clear P5
  rcases hpd with ⟨rfl, d2⟩ | ⟨d1, d2⟩
  · have h7 := hm3 rfl
    have h8 := hm4 rfl
    have h9 : wrap64 (101 * n) = M2 := by rw [← IntWalk.i64_left]; exact h7
    have h10 : wrap64 (100 * n) = M1 := by rw [← IntWalk.i64_left]; exact h8
    clear hm3 hm4 hm1 hm2 q1 hm5 hm6
    go_enter Try.func4, Try.ntmps4
    go_wp2_with fail
    refine (able_any w).mono ?_
    rintro e w1 ⟨rfl, hb1⟩
    have HB := Lib.hid hb1
    clear hb1
    go_wp2_with fail
    refine (HFR.out w1).mono ?_
    rintro e w2 ⟨rfl, hb2⟩
    replace HB := Lib.hid (vbt HB.out hb2)
    clear hb2
    go_wp2_with fail
    refine (HPC.out w2).mono ?_
    rintro e w3 ⟨rfl, hb3⟩
    replace HB := Lib.hid (vbt HB.out hb3)
    clear hb3
    go_wp2
    all_goals
      first
        | (go_ret; exact ⟨ret_bool (by first | rfl | (simp; done) | (simp; omega)), HB.out⟩)
        | (exfalso; omega)
  · clear hm3 hm4
    go_enter Try.func4, Try.ntmps4
    go_wp2_with fail
    refine (able_any w).mono ?_
    rintro e w1 ⟨rfl, hb1⟩
    have HB := Lib.hid hb1
    clear hb1
    go_wp2_with fail
    refine (HFR.out w1).mono ?_
    rintro e w2 ⟨rfl, hb2⟩
    replace HB := Lib.hid (vbt HB.out hb2)
    clear hb2
    go_wp2_with fail
    refine (HPC.out w2).mono ?_
    rintro e w3 ⟨rfl, hb3⟩
    replace HB := Lib.hid (vbt HB.out hb3)
    clear hb3
    go_wp2
    all_goals
      first
        | (go_ret; exact ⟨ret_bool (by first | rfl | (simp; done) | (simp; omega)), HB.out⟩)
        | (exfalso; omega)
end Go.Proofs.Ytplgpnmahblhbaa
