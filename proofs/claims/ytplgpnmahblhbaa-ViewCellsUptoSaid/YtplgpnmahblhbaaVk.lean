/- The walk of ViewLines. No condition. -/
import Derived.Test.YtplgpnmahblhbaaVj
namespace Go.Proofs.Ytplgpnmahblhbaa
open Go.RowKit
/-- a slice of asks that came in -/
def IsAsks (w : World) (s : Option Addr) (len : Nat) (K A B C D : Nat → Int) (X : Nat → Nat) (S : Nat → Option Addr) (N M : Nat → Nat) : Prop :=
  len = 0 ∨ ∃ b off, s = some ⟨b, off, none⟩ ∧ b < w.heap.size ∧ ∀ i, i < len → IsAsk w b (off + i * 7) (K i) (A i) (B i) (C i) (D i) (.float .f64 (X i)) (.slice (S i) (N i) (M i))
theorem IsAsks.at {w w1 : World} {s : Option Addr} {len : Nat} {K A B C D : Nat → Int} {X : Nat → Nat} {S : Nat → Option Addr} {N M : Nat → Nat} (h : IsAsks w s len K A B C D X S N M) (hb : Below w.heap.size w w1) {i : Nat} (hi : i < len) :
    ∃ b off, s = some ⟨b, off, none⟩ ∧ IsAsk w1 b (off + i * 7) (K i) (A i) (B i) (C i) (D i) (.float .f64 (X i)) (.slice (S i) (N i) (M i)) := by
  rcases h with h | ⟨b, off, hs, hlt, hc⟩
  · omega
  · exact ⟨b, off, hs, (hc i hi).below hb⟩
set_option maxHeartbeats 4000000 in
theorem upto_any (s : Option Addr) (len cap : Nat) (K A B C D : Nat → Int) (X : Nat → Nat) (S : Nat → Option Addr) (N M : Nat → Nat) (w : World) (hl : len ≤ maxLen) (hr : IsAsks w s len K A B C D X S N M) :
    Calls Try.prog 25 #[.slice s len cap, .int .i64 1, .int .i64 2] w fun e w' => e = .returned (.bool true) ∧ Below w.heap.size w w' := by
  unfold maxLen at hl
  have HR := Lib.hid hr
  clear hr
  go_enter Try.func25, Try.ntmps25
  go_wp2_with fail
  refine (able_any w).mono ?_
  rintro e w1 ⟨rfl, hb1⟩
  have HB := Lib.hid hb1
  clear hb1
  go_wp2_with fail
  go_loopg [7] len (fun g i wr => ∃ k : Nat, k + g = len ∧ i = .int .i64 k ∧ Below w.heap.size w wr)
  case atStart => exact ⟨0, by omega, rfl, HB.out⟩
  case round =>
    obtain ⟨k, hk, rfl, hb⟩ := hrel
    replace HB := Lib.hid hb
    clear hb
    by_cases hlt : k < len
    · obtain ⟨b, off, rfl, hop⟩ := HR.out.at HB.out hlt
      obtain ⟨c0, c1, c2, c3, c4, c5, c6⟩ := hop
      generalize K k = kk at *
      generalize A k = aa at *
      generalize B k = bb at *
      generalize C k = cc at *
      generalize D k = dd at *
      generalize X k = xx at *
      generalize S k = ss at *
      generalize N k = nn at *
      generalize M k = mm at *
      by_cases h1 : 1 ≤ kk
      · by_cases h2 : kk ≤ 2
        · go_wp2_with fail
          refine (asked_any kk aa bb cc dd _ _ _ (by omega) ⟨_, rfl⟩ ⟨_, _, _, rfl⟩).mono ?_
          rintro e w2 ⟨rfl, hb⟩
          replace HB := Lib.hid (vbt HB.out hb)
          clear hb c0 c1 c2 c3 c4 c5 c6
          go_wp2
          go_roundg (gk - 1)
          case measure => omega
          case rel => exact ⟨k + 1, by omega, by go_num, HB.out⟩
        · go_wp2
          go_roundg (gk - 1)
          case measure => omega
          case rel => exact ⟨k + 1, by omega, by go_num, HB.out⟩
      · go_wp2
        go_roundg (gk - 1)
        case measure => omega
        case rel => exact ⟨k + 1, by omega, by go_num, HB.out⟩
    · go_wp2
      go_ret
      exact ⟨rfl, HB.out⟩
set_option maxHeartbeats 1000000 in
theorem lawlines_any (s : Option Addr) (len cap : Nat) (K A B C D : Nat → Int) (X : Nat → Nat) (S : Nat → Option Addr) (N M : Nat → Nat) (w : World) (hl : len ≤ maxLen) (hr : IsAsks w s len K A B C D X S N M) :
    Calls Try.prog 9 #[.slice s len cap] w fun e w' => e = .returned (.bool true) ∧ Below w.heap.size w w' := by
  have HR := Lib.hid hr
  clear hr
  go_enter Try.func9, Try.ntmps9
  go_wp2_with fail
  refine (upto_any s len cap K A B C D X S N M w hl HR.out).mono ?_
  rintro e w1 ⟨rfl, hb1⟩
  have HB := Lib.hid hb1
  clear hb1
  go_wp2
  go_ret
  exact ⟨rfl, HB.out⟩
end Go.Proofs.Ytplgpnmahblhbaa
