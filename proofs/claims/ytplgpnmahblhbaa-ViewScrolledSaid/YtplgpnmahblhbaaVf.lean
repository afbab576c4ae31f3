/- The walk of ViewScrolled. No condition. -/
import Derived.Test.YtplgpnmahblhbaaVfa
import Derived.Test.YtplgpnmahblhbaaVfb
import Derived.Test.YtplgpnmahblhbaaVfc
import Derived.Test.YtplgpnmahblhbaaVfd
namespace Go.Proofs.Ytplgpnmahblhbaa
open Go.RowKit
theorem scroll_back (top by_ height lines : Int) (h1 : 0 ≤ by_) (h2 : scrollF top by_ height lines < bF height lines) : scrollF (scrollF top by_ height lines) (-by_) height lines = tF top lines := by
  have hb := bF_bd height lines
  have ht := tF_bd top lines
  have hr : scrollF top by_ height lines = tF top lines + by_ ∧ ¬ bF height lines ≤ tF top lines := by
    unfold scrollF at h2 ⊢
    rw [if_neg (by omega), if_neg (by omega)] at h2 ⊢
    split at h2
    · omega
    · rename_i g
      rw [if_neg g]
      split at h2
      · omega
      · rename_i g2
        rw [if_neg g2]
        exact ⟨rfl, g⟩
  rw [hr.1] at h2 ⊢
  have e : tF (tF top lines + by_) lines = tF top lines + by_ := by
    show min (max (tF top lines + by_) 0) (nF lines - 1) = _
    omega
  unfold scrollF
  rw [e]
  by_cases h0 : by_ = 0
  · subst h0
    rw [if_neg (by omega), if_neg (by omega), if_neg (by omega), if_neg (by omega)]
    omega
  · rw [if_neg (by omega), if_pos (by omega)]
    omega
set_option maxHeartbeats 8000000 in
theorem lawscrolled_any (top by_ height lines : Int) (w : World) (hby : -9223372036854775808 ≤ by_ ∧ by_ ≤ 9223372036854775807) :
    Calls Try.prog 6 #[.int .i64 top, .int .i64 by_, .int .i64 height, .int .i64 lines] w fun e w' => e = .returned (.bool true) ∧ Below w.heap.size w w' := by
  have H1 := nF_bd lines
  have H2 := hF_bd height
  have ht : tF top lines = max 0 (min top (nF lines - 1)) := by unfold tF; omega
  have hb : bF height lines = max (nF lines - hF height) 0 := rfl
  have hr : scrollF top by_ height lines = if by_ < 0 ∧ by_ < -(tF top lines) then 0 else if by_ < 0 then tF top lines + by_ else if bF height lines ≤ tF top lines then tF top lines
    else if bF height lines - tF top lines < by_ then bF height lines else tF top lines + by_ := rfl
  have hfr := frame_any height lines
  have hsc := scroll_any top by_ height lines
  have hs2 : ∀ w x, x = -by_ → 0 ≤ by_ → scrollF top by_ height lines < bF height lines → Calls Try.prog 19 #[.int .i64 (scrollF top by_ height lines), .int .i64 x, .int .i64 height, .int .i64 lines] w fun e w' => e = .returned (.int .i64 (tF top lines)) ∧ Below w.heap.size w w' := by
    intro w x hx h1 h2
    have := scroll_any (scrollF top by_ height lines) (-by_) height lines w
    rw [scroll_back top by_ height lines h1 h2] at this
    rw [hx]; exact this
  generalize scrollF top by_ height lines = r at *
  generalize tF top lines = t at *
  generalize bF height lines = b at *
  generalize hF height = h at *
  generalize nF lines = n at *
  have H3 : 0 ≤ t ∧ t < n := by omega
  have htc : (top ≤ 0 ∧ t = 0) ∨ (0 < top ∧ top ≤ n - 1 ∧ top = t) ∨ (0 < n - 1 ∧ n - 1 < top ∧ t = n - 1) ∨ (0 < top ∧ n - 1 = 0 ∧ t = 0) := by omega
  have hbc : (n - h < 0 ∧ b = 0) ∨ (0 ≤ n - h ∧ b = n - h) := by omega
  have hrc : (by_ < 0 ∧ 0 ≤ r ∧ r < t) ∨ (by_ < 0 ∧ t ≤ 0 ∧ r = 0) ∨ (0 < by_ ∧ b ≤ t ∧ t ≤ r ∧ r ≤ t) ∨ (0 < by_ ∧ t < b ∧ r < b ∧ t ≤ r ∧ by_ ≤ r - t ∧ r - t ≤ by_) ∨ (0 < by_ ∧ t < b ∧ b ≤ r ∧ r ≤ b) ∨ (by_ = 0 ∧ b ≤ t ∧ r = t) ∨ (by_ = 0 ∧ t < b ∧ r = t) := by
    by_cases g1 : by_ < 0
    · by_cases g2 : by_ < -t
      · rw [if_pos ⟨g1, g2⟩] at hr; omega
      · rw [if_neg (by omega), if_pos g1] at hr; omega
    · rw [if_neg (by omega), if_neg g1] at hr
      by_cases g3 : b ≤ t
      · rw [if_pos g3] at hr; omega
      · rw [if_neg g3] at hr
        by_cases g4 : b - t < by_
        · rw [if_pos g4] at hr; omega
        · rw [if_neg g4] at hr; omega
  obtain ⟨y1, y2⟩ := hby
  rcases hrc with hrc | hrc | hrc | hrc | hrc | hrc | hrc
  · exact scr0_any top by_ height lines r t b h n w H1 H2 H3 y1 y2 hfr hsc hs2 htc hbc hrc
  · exact scr1_any top by_ height lines r t b h n w H1 H2 H3 y1 y2 hfr hsc hs2 htc hbc hrc
  · exact scr2_any top by_ height lines r t b h n w H1 H2 H3 y1 y2 hfr hsc hs2 htc hbc hrc
  · exact scr3_any top by_ height lines r t b h n w H1 H2 H3 y1 y2 hfr hsc hs2 htc hbc hrc
  · exact scr4_any top by_ height lines r t b h n w H1 H2 H3 y1 y2 hfr hsc hs2 htc hbc hrc
  · exact scr5_any top by_ height lines r t b h n w H1 H2 H3 y1 y2 hfr hsc hs2 htc hbc hrc
  · exact scr6_any top by_ height lines r t b h n w H1 H2 H3 y1 y2 hfr hsc hs2 htc hbc hrc
end Go.Proofs.Ytplgpnmahblhbaa
