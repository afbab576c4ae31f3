/- Contracts: whole, asked and upTo of chapter 14 for the kinds 3 to 6; the walk of ViewShares. Condition of the contracts: the floats have 64 bits. -/
import Derived.Test.YtplgpnmahblhbaaVv
import Derived.Test.YtplgpnmahblhbaaVk
import Derived.Test.YtplgpnmahblhbaaVw
namespace Go.Proofs.Ytplgpnmahblhbaa
open Go.RowKit
set_option maxHeartbeats 2000000 in
theorem whole3_any (A B C D : Int) (x : Nat) (V : Value) (w : World) :
    Calls Try.prog 38 #[.agg #[.int .i64 3, .int .i64 A, .int .i64 B, .int .i64 C, .int .i64 D, .float .f64 x, V]] w fun e w' => e = .returned (.bool true) ∧ Below w.heap.size w w' := by
  have k1 := ask_new w 3 A B C D (.float .f64 x) V
  obtain ⟨c0, c1, c2, c3, c4, c5, c6⟩ := k1
  simp only [Nat.zero_add] at c1 c2 c3 c4 c5 c6
  have hB := below_new w (.cells #[.int .i64 3, .int .i64 A, .int .i64 B, .int .i64 C, .int .i64 D, .float .f64 x, V] 44)
  have hq : FloatKind.f64.format.order (shareF A B C) (shareF A B C) = some .eq := by
    have h := Nat.le_trans (share_le A B C) oneW_le
    rw [fmt64, order_u h h, cmp_eq rfl]
  go_enter Try.func38, Try.ntmps38
  go_wp2_with fail
  go_region_held3 (fun w' => w'.cell? ⟨w.heap.size, 1, none⟩ = some (.int .i64 A) ∧ w'.cell? ⟨w.heap.size, 2, none⟩ = some (.int .i64 B) ∧ w'.cell? ⟨w.heap.size, 3, none⟩ = some (.int .i64 C) ∧ Below w.heap.size w w')
    (first | exact ⟨c1, c2, c3, hB.drew⟩ | go_keep | (go_split_ands; exact ⟨vcell_below (by assumption) hb2, vcell_below (by assumption) hb2, vcell_below (by assumption) hb2, vbt (by assumption) hb2⟩))
    (first | (go_at_call 17; refine (share_c A B C _).mono ?_; rintro e w2 ⟨rfl, hb2⟩) | (go_at_call 47; refine (rshare_c A B C _).mono ?_; rintro e w2 ⟨rfl, hb2⟩))
  all_goals
    have hh : Below w.heap.size w w2 := by (first | (rename_i h; exact h.2.2.2) | assumption)
    have HH := Lib.hid hh
    clear hh c0 c1 c2 c3 c4 c5 c6 hB
    go_wp2
    go_ret
    exact ⟨ret_bool (by first | rfl | (simp; done) | (simp; omega)), HH.out⟩
set_option maxHeartbeats 2000000 in
theorem whole4_any (A B C D : Int) (x : Nat) (V : Value) (hx : x < 2 ^ 64) (w : World) :
    Calls Try.prog 38 #[.agg #[.int .i64 4, .int .i64 A, .int .i64 B, .int .i64 C, .int .i64 D, .float .f64 x, V]] w fun e w' => e = .returned (.bool true) ∧ Below w.heap.size w w' := by
  have k1 := ask_new w 4 A B C D (.float .f64 x) V
  obtain ⟨c0, c1, c2, c3, c4, c5, c6⟩ := k1
  simp only [Nat.zero_add] at c1 c2 c3 c4 c5 c6
  have hB := below_new w (.cells #[.int .i64 4, .int .i64 A, .int .i64 B, .int .i64 C, .int .i64 D, .float .f64 x, V] 44)
  go_enter Try.func38, Try.ntmps38
  go_wp2_with fail
  go_region_held3 (fun w' => w'.cell? ⟨w.heap.size, 2, none⟩ = some (.int .i64 B) ∧ w'.cell? ⟨w.heap.size, 3, none⟩ = some (.int .i64 C) ∧ w'.cell? ⟨w.heap.size, 5, none⟩ = some (.float .f64 x) ∧ Below w.heap.size w w')
    (first | exact ⟨c2, c3, c5, hB.drew⟩ | go_keep | (go_split_ands; exact ⟨vcell_below (by assumption) hb2, vcell_below (by assumption) hb2, vcell_below (by assumption) hb2, vbt (by assumption) hb2⟩))
    (first | (go_at_call 18; refine (drag_c x B C hx _).mono ?_; rintro e w2 ⟨rfl, hb2⟩) | (go_at_call 48; refine (rdrag_c x B C hx _).mono ?_; rintro e w2 ⟨rfl, hb2⟩))
  all_goals
    have hh : Below w.heap.size w w2 := by (first | (rename_i h; exact h.2.2.2) | assumption)
    have HH := Lib.hid hh
    clear hh c0 c1 c2 c3 c4 c5 c6 hB
    go_wp2
    go_ret
    exact ⟨ret_bool (by first | rfl | (simp; done) | (simp; omega)), HH.out⟩
set_option maxHeartbeats 2000000 in
theorem whole5_any (A B C D : Int) (x : Nat) (V : Value) (w : World) :
    Calls Try.prog 38 #[.agg #[.int .i64 5, .int .i64 A, .int .i64 B, .int .i64 C, .int .i64 D, .float .f64 x, V]] w fun e w' => e = .returned (.bool true) ∧ Below w.heap.size w w' := by
  have k1 := ask_new w 5 A B C D (.float .f64 x) V
  obtain ⟨c0, c1, c2, c3, c4, c5, c6⟩ := k1
  simp only [Nat.zero_add] at c1 c2 c3 c4 c5 c6
  have hB := below_new w (.cells #[.int .i64 5, .int .i64 A, .int .i64 B, .int .i64 C, .int .i64 D, .float .f64 x, V] 44)
  go_enter Try.func38, Try.ntmps38
  go_wp2_with fail
  go_region_held3 (fun w' => w'.cell? ⟨w.heap.size, 1, none⟩ = some (.int .i64 A) ∧ w'.cell? ⟨w.heap.size, 2, none⟩ = some (.int .i64 B) ∧ Below w.heap.size w w')
    (first | exact ⟨c1, c2, hB.drew⟩ | go_keep | (go_split_ands; exact ⟨vcell_below (by assumption) hb2, vcell_below (by assumption) hb2, vbt (by assumption) hb2⟩))
    (first | (go_at_call 16; refine (percent_c A B _).mono ?_; rintro e w2 ⟨rfl, hb2⟩) | (go_at_call 49; refine (rpercent_c A B _).mono ?_; rintro e w2 ⟨rfl, hb2⟩))
  all_goals
    have hh : Below w.heap.size w w2 := by (first | (rename_i h; exact h.2.2) | assumption)
    have HH := Lib.hid hh
    clear hh c0 c1 c2 c3 c4 c5 c6 hB
    go_wp2
    go_ret
    exact ⟨ret_bool (by first | rfl | (simp; done) | (simp; omega)), HH.out⟩
set_option maxHeartbeats 2000000 in
theorem whole6_any (A B C D : Int) (x : Nat) (V : Value) (hx : x < 2 ^ 64) (w : World) :
    Calls Try.prog 38 #[.agg #[.int .i64 6, .int .i64 A, .int .i64 B, .int .i64 C, .int .i64 D, .float .f64 x, V]] w fun e w' => e = .returned (.bool true) ∧ Below w.heap.size w w' := by
  have k1 := ask_new w 6 A B C D (.float .f64 x) V
  obtain ⟨c0, c1, c2, c3, c4, c5, c6⟩ := k1
  simp only [Nat.zero_add] at c1 c2 c3 c4 c5 c6
  have hB := below_new w (.cells #[.int .i64 6, .int .i64 A, .int .i64 B, .int .i64 C, .int .i64 D, .float .f64 x, V] 44)
  go_enter Try.func38, Try.ntmps38
  go_wp2_with fail
  go_region_held3 (fun w' => w'.cell? ⟨w.heap.size, 1, none⟩ = some (.int .i64 A) ∧ w'.cell? ⟨w.heap.size, 5, none⟩ = some (.float .f64 x) ∧ Below w.heap.size w w')
    (first | exact ⟨c1, c5, hB.drew⟩ | go_keep | (go_split_ands; exact ⟨vcell_below (by assumption) hb2, vcell_below (by assumption) hb2, vbt (by assumption) hb2⟩))
    (first | (go_at_call 24; refine (part_c x A hx _).mono ?_; rintro e w2 ⟨rfl, hb2⟩) | (go_at_call 50; refine (rpart_c x A hx _).mono ?_; rintro e w2 ⟨rfl, hb2⟩))
  all_goals
    have hh : Below w.heap.size w w2 := by (first | (rename_i h; exact h.2.2) | assumption)
    have HH := Lib.hid hh
    clear hh c0 c1 c2 c3 c4 c5 c6 hB
    go_wp2
    go_ret
    exact ⟨ret_bool (by first | rfl | (simp; done) | (simp; omega)), HH.out⟩
set_option maxHeartbeats 2000000 in
theorem asked36_any (k A B C D : Int) (x : Nat) (V : Value) (w : World) (hk : 3 ≤ k ∧ k ≤ 6) (hx : x < 2 ^ 64) (hv : ∃ s n c, V = .slice s n c) :
    Calls Try.prog 26 #[.agg #[.int .i64 k, .int .i64 A, .int .i64 B, .int .i64 C, .int .i64 D, .float .f64 x, V]] w fun e w' => e = .returned (.bool true) ∧ Below w.heap.size w w' := by
  obtain ⟨s, n, c, rfl⟩ := hv
  have k1 := ask_new w k A B C D (.float .f64 x) (.slice s n c)
  obtain ⟨c0, c1, c2, c3, c4, c5, c6⟩ := k1
  simp only [Nat.zero_add] at c1 c2 c3 c4 c5 c6
  have HB := Lib.hid (below_new w (.cells #[.int .i64 k, .int .i64 A, .int .i64 B, .int .i64 C, .int .i64 D, .float .f64 x, .slice s n c] 44))
  have hkk : k = 3 ∨ k = 4 ∨ k = 5 ∨ k = 6 := by omega
  clear hk
  rcases hkk with rfl | rfl | rfl | rfl
  · go_enter Try.func26, Try.ntmps26
    go_wp2_with fail
    refine (whole3_any A B C D x _ _).mono ?_
    rintro e w1 ⟨rfl, hb1⟩
    replace HB := Lib.hid (vbt HB.out hb1)
    clear hb1 c0 c1 c2 c3 c4 c5 c6
    go_wp2
    go_ret
    exact ⟨rfl, HB.out⟩
  · go_enter Try.func26, Try.ntmps26
    go_wp2_with fail
    refine (whole4_any A B C D x _ hx _).mono ?_
    rintro e w1 ⟨rfl, hb1⟩
    replace HB := Lib.hid (vbt HB.out hb1)
    clear hb1 c0 c1 c2 c3 c4 c5 c6
    go_wp2
    go_ret
    exact ⟨rfl, HB.out⟩
  · go_enter Try.func26, Try.ntmps26
    go_wp2_with fail
    refine (whole5_any A B C D x _ _).mono ?_
    rintro e w1 ⟨rfl, hb1⟩
    replace HB := Lib.hid (vbt HB.out hb1)
    clear hb1 c0 c1 c2 c3 c4 c5 c6
    go_wp2
    go_ret
    exact ⟨rfl, HB.out⟩
  · go_enter Try.func26, Try.ntmps26
    go_wp2_with fail
    refine (whole6_any A B C D x _ hx _).mono ?_
    rintro e w1 ⟨rfl, hb1⟩
    replace HB := Lib.hid (vbt HB.out hb1)
    clear hb1 c0 c1 c2 c3 c4 c5 c6
    go_wp2
    go_ret
    exact ⟨rfl, HB.out⟩
set_option maxHeartbeats 4000000 in
theorem upto36_any (s : Option Addr) (len cap : Nat) (K A B C D : Nat → Int) (X : Nat → Nat) (S : Nat → Option Addr) (N M : Nat → Nat) (w : World) (hl : len ≤ maxLen) (hr : IsAsks w s len K A B C D X S N M) (hX : ∀ i, i < len → X i < 2 ^ 64) :
    Calls Try.prog 25 #[.slice s len cap, .int .i64 3, .int .i64 6] w fun e w' => e = .returned (.bool true) ∧ Below w.heap.size w w' := by
  unfold maxLen at hl
  have HR := Lib.hid hr
  clear hr
  go_enter Try.func25, Try.ntmps25
  go_wp2_with fail
  refine (able_any w).mono ?_
  rintro e w1 ⟨rfl, hb1⟩
  have HB := Lib.hid hb1
  clear hb1
  go_wp2_with fail
  go_loopg [7] len (fun g i wr => ∃ k : Nat, k + g = len ∧ i = .int .i64 k ∧ Below w.heap.size w wr)
  case atStart => exact ⟨0, by omega, rfl, HB.out⟩
  case round =>
    obtain ⟨k, hk, rfl, hb⟩ := hrel
    replace HB := Lib.hid hb
    clear hb
    by_cases hlt : k < len
    · obtain ⟨b, off, rfl, hop⟩ := HR.out.at HB.out hlt
      obtain ⟨c0, c1, c2, c3, c4, c5, c6⟩ := hop
      have hxx := hX k hlt
      generalize K k = kk at *
      generalize A k = aa at *
      generalize B k = bb at *
      generalize C k = cc at *
      generalize D k = dd at *
      generalize X k = xx at *
      generalize S k = ss at *
      generalize N k = nn at *
      generalize M k = mm at *
      by_cases h1 : 3 ≤ kk
      · by_cases h2 : kk ≤ 6
        · go_wp2_with fail
          refine (asked36_any kk aa bb cc dd xx _ _ ⟨h1, h2⟩ hxx ⟨_, _, _, rfl⟩).mono ?_
          rintro e w2 ⟨rfl, hb⟩
          replace HB := Lib.hid (vbt HB.out hb)
          clear hb c0 c1 c2 c3 c4 c5 c6
          go_wp2
          go_roundg (gk - 1)
          case measure => omega
          case rel => exact ⟨k + 1, by omega, by go_num, HB.out⟩
        · go_wp2
          go_roundg (gk - 1)
          case measure => omega
          case rel => exact ⟨k + 1, by omega, by go_num, HB.out⟩
      · go_wp2
        go_roundg (gk - 1)
        case measure => omega
        case rel => exact ⟨k + 1, by omega, by go_num, HB.out⟩
    · go_wp2
      go_ret
      exact ⟨rfl, HB.out⟩
set_option maxHeartbeats 1000000 in
theorem lawshares_any (s : Option Addr) (len cap : Nat) (K A B C D : Nat → Int) (X : Nat → Nat) (S : Nat → Option Addr) (N M : Nat → Nat) (w : World) (hl : len ≤ maxLen) (hr : IsAsks w s len K A B C D X S N M) (hX : ∀ i, i < len → X i < 2 ^ 64) :
    Calls Try.prog 10 #[.slice s len cap] w fun e w' => e = .returned (.bool true) ∧ Below w.heap.size w w' := by
  have HR := Lib.hid hr
  clear hr
  go_enter Try.func10, Try.ntmps10
  go_wp2_with fail
  refine (upto36_any s len cap K A B C D X S N M w hl HR.out hX).mono ?_
  rintro e w1 ⟨rfl, hb1⟩
  have HB := Lib.hid hb1
  clear hb1
  go_wp2
  go_ret
  exact ⟨rfl, HB.out⟩
end Go.Proofs.Ytplgpnmahblhbaa
