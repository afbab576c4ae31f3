/- Contracts: pattern.digit, isLetter. No condition. -/
import Derived.Test.YtdegdoilpamjjaaDoorFa
import Derived.Test.YtdegdoilpamjjaaDoorUb
import Derived.Deep.RegionHeld3
namespace Go.Proofs.YtdegdoilpamjjaaDoor
open Go.RowKit
set_option maxHeartbeats 1000000 in
theorem digit_any (c : Int) (w : World) : Calls Tryd.prog 58 #[.int .i64 c] w fun e w' => e = .returned (.int .i64 (hexV c)) ∧ w = w' := by
  by_cases h1 : 48 ≤ c ∧ c ≤ 57
  · have hv : hexV c = c - 48 := by unfold hexV; rw [if_pos h1]
    rw [hv]
    obtain ⟨a1, a2⟩ := h1
    go_enter Tryd.func58, Tryd.ntmps58
    go_wp2
    go_ret
    exact ⟨rfl, rfl⟩
  · by_cases h2 : 97 ≤ c ∧ c ≤ 102
    · have hv : hexV c = c - 97 + 10 := by unfold hexV; rw [if_neg h1, if_pos h2]; omega
      rw [hv]
      obtain ⟨a1, a2⟩ := h2
      have b1 : ¬ c ≤ 57 := by omega
      have b2 : 48 ≤ c := by omega
      clear h1 hv
      go_enter Tryd.func58, Tryd.ntmps58
      go_wp2
      go_ret
      exact ⟨rfl, rfl⟩
    · by_cases h3 : 65 ≤ c ∧ c ≤ 70
      · have hv : hexV c = c - 65 + 10 := by unfold hexV; rw [if_neg h1, if_neg h2, if_pos h3]; omega
        rw [hv]
        obtain ⟨a1, a2⟩ := h3
        have b1 : ¬ c ≤ 57 := by omega
        have b2 : 48 ≤ c := by omega
        have b3 : ¬ 97 ≤ c := by omega
        clear h1 h2 hv
        go_enter Tryd.func58, Tryd.ntmps58
        go_wp2
        go_ret
        exact ⟨rfl, rfl⟩
      · have hv : hexV c = -1 := by unfold hexV; rw [if_neg h1, if_neg h2, if_neg h3]
        rw [hv]
        have H1 := Lib.hid h1
        have H2 := Lib.hid h2
        have H3 := Lib.hid h3
        clear h1 h2 h3 hv
        go_enter Tryd.func58, Tryd.ntmps58
        go_wp2
        all_goals
          first
            | (go_ret; exact ⟨rfl, rfl⟩)
            | (exfalso; have := H1.out; have := H2.out; have := H3.out; omega)
set_option maxHeartbeats 1000000 in
theorem isletter_any (c : Int) (w : World) : Calls Tryd.prog 59 #[.int .i64 c] w fun e w' => e = .returned (.bool (letB c)) ∧ w = w' := by
  go_enter Tryd.func59, Tryd.ntmps59
  go_wp2
  all_goals
    go_ret
    exact ⟨ret_bool (by unfold letB; rw [Bool.eq_iff_iff]; simp; omega), rfl⟩
end Go.Proofs.YtdegdoilpamjjaaDoor
