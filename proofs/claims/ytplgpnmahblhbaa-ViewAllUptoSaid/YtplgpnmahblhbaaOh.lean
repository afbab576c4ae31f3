/- Contracts: whole, asked of chapter 14 for every kind; the walks of ViewCells and ViewAll. Conditions of the contracts: the floats have 64 bits, the lines fewer than 2^30 atoms. -/
import Derived.Test.YtplgpnmahblhbaaOg
import Derived.Test.YtplgpnmahblhbaaVy
namespace Go.Proofs.Ytplgpnmahblhbaa
open Go.RowKit
set_option maxHeartbeats 2000000 in
theorem whole0_any (k A B C D : Int) (X V : Value) (w : World) (hk : k < 1 ∨ 6 < k) :
    Calls Try.prog 38 #[.agg #[.int .i64 k, .int .i64 A, .int .i64 B, .int .i64 C, .int .i64 D, X, V]] w fun e w' => e = .returned (.bool true) ∧ Below w.heap.size w w' := by
  have k1 := ask_new w k A B C D X V
  obtain ⟨c0, c1, c2, c3, c4, c5, c6⟩ := k1
  simp only [Nat.zero_add] at c1 c2 c3 c4 c5 c6
  have HB := Lib.hid (below_new w (.cells #[.int .i64 k, .int .i64 A, .int .i64 B, .int .i64 C, .int .i64 D, X, V] 44))
  have z1 : (k == 1) = false := by simp; omega
  have z2 : (k == 2) = false := by simp; omega
  have z3 : (k == 3) = false := by simp; omega
  have z4 : (k == 4) = false := by simp; omega
  have z5 : (k == 5) = false := by simp; omega
  have z6 : (k == 6) = false := by simp; omega
  go_enter Try.func38, Try.ntmps38
  go_wp2
  go_ret
  exact ⟨rfl, HB.out⟩
set_option maxHeartbeats 2000000 in
theorem asked0_any (k A B C D : Int) (x : Nat) (s : Option Addr) (n c : Nat) (w : World) (hk : k < 1 ∨ 8 < k) :
    Calls Try.prog 26 #[.agg #[.int .i64 k, .int .i64 A, .int .i64 B, .int .i64 C, .int .i64 D, .float .f64 x, .slice s n c]] w fun e w' => e = .returned (.bool true) ∧ Below w.heap.size w w' := by
  have k1 := ask_new w k A B C D (.float .f64 x) (.slice s n c)
  obtain ⟨c0, c1, c2, c3, c4, c5, c6⟩ := k1
  simp only [Nat.zero_add] at c1 c2 c3 c4 c5 c6
  have HB := Lib.hid (below_new w (.cells #[.int .i64 k, .int .i64 A, .int .i64 B, .int .i64 C, .int .i64 D, .float .f64 x, .slice s n c] 44))
  have hkk : k < 1 ∨ 6 < k := by omega
  rcases hk with hk | hk
  all_goals
    have z1 : k < 7 ∨ 8 < k := by omega
    go_enter Try.func26, Try.ntmps26
    go_wp2_with fail
    refine (whole0_any k A B C D _ _ _ hkk).mono ?_
    rintro e w1 ⟨rfl, hb1⟩
    replace HB := Lib.hid (vbt HB.out hb1)
    clear hb1 c0 c1 c2 c3 c4 c5 c6
    go_wp2
    go_ret
    exact ⟨rfl, HB.out⟩
/-- what a list of asks is read as -/
def AsksOk (w : World) (len : Nat) (X : Nat → Nat) (S : Nat → Option Addr) (N M : Nat → Nat) (F : Nat → Nat → Int) : Prop :=
  ∀ i, i < len → X i < 2 ^ 64 ∧ N i < 1073741824 ∧ IsInts w (S i) (N i) (F i) ∧ (S i = none → N i = 0 ∧ M i = 0)
theorem asked_all (k A B C D : Int) (x : Nat) (s : Option Addr) (n c : Nat) (f : Nat → Int) (w : World) (hx : x < 2 ^ 64) (hn : n < 1073741824) (hr : IsInts w s n f) (hnil : s = none → n = 0 ∧ c = 0) :
    Calls Try.prog 26 #[.agg #[.int .i64 k, .int .i64 A, .int .i64 B, .int .i64 C, .int .i64 D, .float .f64 x, .slice s n c]] w fun e w' => e = .returned (.bool true) ∧ Below w.heap.size w w' := by
  by_cases h0 : k < 1 ∨ 8 < k
  · exact asked0_any k A B C D x s n c w h0
  · by_cases h1 : k ≤ 2
    · exact asked_any k A B C D _ _ w (by omega) ⟨_, rfl⟩ ⟨_, _, _, rfl⟩
    · by_cases h2 : k ≤ 6
      · exact asked36_any k A B C D x _ w ⟨by omega, h2⟩ hx ⟨_, _, _, rfl⟩
      · exact asked78_any k A B C D x s n c f w (by omega) hn hr hnil
set_option maxHeartbeats 4000000 in
theorem upto78_any (s : Option Addr) (len cap : Nat) (K A B C D : Nat → Int) (X : Nat → Nat) (S : Nat → Option Addr) (N M : Nat → Nat) (w : World) (hl : len ≤ maxLen) (F : Nat → Nat → Int) (hr : IsAsks w s len K A B C D X S N M) (hok : AsksOk w len X S N M F) :
    Calls Try.prog 25 #[.slice s len cap, .int .i64 7, .int .i64 8] w fun e w' => e = .returned (.bool true) ∧ Below w.heap.size w w' := by
  unfold maxLen at hl
  have HR := Lib.hid hr
  have HOK := Lib.hid hok
  clear hr hok
  go_enter Try.func25, Try.ntmps25
  go_wp2_with fail
  refine (able_any w).mono ?_
  rintro e w1 ⟨rfl, hb1⟩
  have HB := Lib.hid hb1
  clear hb1
  go_wp2_with fail
  go_loopg [7] len (fun g i wr => ∃ k : Nat, k + g = len ∧ i = .int .i64 k ∧ Below w.heap.size w wr)
  case atStart => exact ⟨0, by omega, rfl, HB.out⟩
  case round =>
    obtain ⟨k, hk, rfl, hb⟩ := hrel
    replace HB := Lib.hid hb
    clear hb
    by_cases hlt : k < len
    · obtain ⟨b, off, rfl, hop⟩ := HR.out.at HB.out hlt
      obtain ⟨c0, c1, c2, c3, c4, c5, c6⟩ := hop
      obtain ⟨hxx, hnn, hrr, hnil⟩ := HOK.out k hlt
      replace hrr := hrr.later HB.out
      generalize F k = ff at *
      generalize K k = kk at *
      generalize A k = aa at *
      generalize B k = bb at *
      generalize C k = cc at *
      generalize D k = dd at *
      generalize X k = xx at *
      generalize S k = ss at *
      generalize N k = nn at *
      generalize M k = mm at *
      by_cases h1 : 7 ≤ kk
      · by_cases h2 : kk ≤ 8
        · go_wp2_with fail
          refine (asked_all kk aa bb cc dd xx ss nn mm ff _ hxx hnn hrr hnil).mono ?_
          rintro e w2 ⟨rfl, hb⟩
          replace HB := Lib.hid (vbt HB.out hb)
          clear hb c0 c1 c2 c3 c4 c5 c6 hrr
          go_wp2
          go_roundg (gk - 1)
          case measure => omega
          case rel => exact ⟨k + 1, by omega, by go_num, HB.out⟩
        · go_wp2
          go_roundg (gk - 1)
          case measure => omega
          case rel => exact ⟨k + 1, by omega, by go_num, HB.out⟩
      · go_wp2
        go_roundg (gk - 1)
        case measure => omega
        case rel => exact ⟨k + 1, by omega, by go_num, HB.out⟩
    · go_wp2
      go_ret
      exact ⟨rfl, HB.out⟩
set_option maxHeartbeats 4000000 in
theorem upto18_any (s : Option Addr) (len cap : Nat) (K A B C D : Nat → Int) (X : Nat → Nat) (S : Nat → Option Addr) (N M : Nat → Nat) (w : World) (hl : len ≤ maxLen) (F : Nat → Nat → Int) (hr : IsAsks w s len K A B C D X S N M) (hok : AsksOk w len X S N M F) :
    Calls Try.prog 25 #[.slice s len cap, .int .i64 1, .int .i64 8] w fun e w' => e = .returned (.bool true) ∧ Below w.heap.size w w' := by
  unfold maxLen at hl
  have HR := Lib.hid hr
  have HOK := Lib.hid hok
  clear hr hok
  go_enter Try.func25, Try.ntmps25
  go_wp2_with fail
  refine (able_any w).mono ?_
  rintro e w1 ⟨rfl, hb1⟩
  have HB := Lib.hid hb1
  clear hb1
  go_wp2_with fail
  go_loopg [7] len (fun g i wr => ∃ k : Nat, k + g = len ∧ i = .int .i64 k ∧ Below w.heap.size w wr)
  case atStart => exact ⟨0, by omega, rfl, HB.out⟩
  case round =>
    obtain ⟨k, hk, rfl, hb⟩ := hrel
    replace HB := Lib.hid hb
    clear hb
    by_cases hlt : k < len
    · obtain ⟨b, off, rfl, hop⟩ := HR.out.at HB.out hlt
      obtain ⟨c0, c1, c2, c3, c4, c5, c6⟩ := hop
      obtain ⟨hxx, hnn, hrr, hnil⟩ := HOK.out k hlt
      replace hrr := hrr.later HB.out
      generalize F k = ff at *
      generalize K k = kk at *
      generalize A k = aa at *
      generalize B k = bb at *
      generalize C k = cc at *
      generalize D k = dd at *
      generalize X k = xx at *
      generalize S k = ss at *
      generalize N k = nn at *
      generalize M k = mm at *
      by_cases h1 : 1 ≤ kk
      · by_cases h2 : kk ≤ 8
        · go_wp2_with fail
          refine (asked_all kk aa bb cc dd xx ss nn mm ff _ hxx hnn hrr hnil).mono ?_
          rintro e w2 ⟨rfl, hb⟩
          replace HB := Lib.hid (vbt HB.out hb)
          clear hb c0 c1 c2 c3 c4 c5 c6 hrr
          go_wp2
          go_roundg (gk - 1)
          case measure => omega
          case rel => exact ⟨k + 1, by omega, by go_num, HB.out⟩
        · go_wp2
          go_roundg (gk - 1)
          case measure => omega
          case rel => exact ⟨k + 1, by omega, by go_num, HB.out⟩
      · go_wp2
        go_roundg (gk - 1)
        case measure => omega
        case rel => exact ⟨k + 1, by omega, by go_num, HB.out⟩
    · go_wp2
      go_ret
      exact ⟨rfl, HB.out⟩
set_option maxHeartbeats 1000000 in
theorem lawcells_any (s : Option Addr) (len cap : Nat) (K A B C D : Nat → Int) (X : Nat → Nat) (S : Nat → Option Addr) (N M : Nat → Nat) (w : World) (hl : len ≤ maxLen) (F : Nat → Nat → Int) (hr : IsAsks w s len K A B C D X S N M) (hok : AsksOk w len X S N M F) :
    Calls Try.prog 11 #[.slice s len cap] w fun e w' => e = .returned (.bool true) ∧ Below w.heap.size w w' := by
  have HR := Lib.hid hr
  clear hr
  go_enter Try.func11, Try.ntmps11
  go_wp2_with fail
  refine (upto78_any s len cap K A B C D X S N M w hl F HR.out hok).mono ?_
  rintro e w1 ⟨rfl, hb1⟩
  have HB := Lib.hid hb1
  clear hb1
  go_wp2
  go_ret
  exact ⟨rfl, HB.out⟩
set_option maxHeartbeats 4000000 in
theorem lawviews_any (s : Option Addr) (len cap : Nat) (K A B C D : Nat → Int) (X : Nat → Nat) (S : Nat → Option Addr) (N M : Nat → Nat) (w : World) (hl : len ≤ maxLen) (F : Nat → Nat → Int) (hr : IsAsks w s len K A B C D X S N M) (hok : AsksOk w len X S N M F) :
    Calls Try.prog 12 #[.slice s len cap] w fun e w' => e = .returned (.bool true) ∧ Below w.heap.size w w' := by
  have hup := upto18_any s len cap K A B C D X S N M w hl F hr hok
  unfold maxLen at hl
  have HR := Lib.hid hr
  have HOK := Lib.hid hok
  clear hr hok
  go_enter Try.func12, Try.ntmps12
  go_wp2_with fail
  refine hup.mono ?_
  rintro e w1 ⟨rfl, hb1⟩
  have HB := Lib.hid hb1
  clear hb1 hup
  go_wp2_with fail
  go_loopg [3] len (fun g i wr => ∃ k : Nat, ∃ z : Int, k = g ∧ k ≤ len ∧ z = (k : Int) - 1 ∧ i = .int .i64 z ∧ Below w.heap.size w wr)
  case atStart => exact ⟨len, (len : Int) - 1, rfl, Nat.le_refl _, rfl, by go_num, HB.out⟩
  case round =>
    obtain ⟨k, z, rfl, hk, hz, rfl, hb⟩ := hrel
    replace HB := Lib.hid hb
    clear hb
    cases k with
    | zero =>
      have hz' : z < 0 := by omega
      go_wp2
      go_ret
      exact ⟨rfl, HB.out⟩
    | succ k =>
      obtain rfl : z = (k : Int) := by omega
      clear hz
      obtain ⟨b, off, rfl, hop⟩ := HR.out.at HB.out (show k < len by omega)
      obtain ⟨c0, c1, c2, c3, c4, c5, c6⟩ := hop
      obtain ⟨hxx, hnn, hrr, hnil⟩ := HOK.out k (by omega)
      replace hrr := hrr.later HB.out
      have q1 : (0 : Int) ≤ (k : Int) := by omega
      have q2 : (k : Int) < (len : Int) := by omega
      generalize F k = ff at *
      generalize K k = kk at *
      generalize A k = aa at *
      generalize B k = bb at *
      generalize C k = cc at *
      generalize D k = dd at *
      generalize X k = xx at *
      generalize S k = ss at *
      generalize N k = nn at *
      generalize M k = mm at *
      go_wp2_with fail
      refine (asked_all kk aa bb cc dd xx ss nn mm ff _ hxx hnn hrr hnil).mono ?_
      rintro e w2 ⟨rfl, hb⟩
      replace HB := Lib.hid (vbt HB.out hb)
      clear hb c0 c1 c2 c3 c4 c5 c6 hrr
      go_wp2
      go_roundg k
      case measure => omega
      case rel => exact ⟨k, (k : Int) - 1, rfl, by omega, rfl, by go_num, HB.out⟩
end Go.Proofs.Ytplgpnmahblhbaa
