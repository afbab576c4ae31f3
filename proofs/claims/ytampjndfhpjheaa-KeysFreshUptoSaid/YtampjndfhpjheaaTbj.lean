/- Contracts: joined of copyistref13, of one list; copied of copyistlaw13. Condition: fewer than 2^32 members. -/
import Derived.Test.YtampjndfhpjheaaTa
namespace Go.Proofs.Ytampjndfhpjheaa
open Go.RowKit
set_option maxRecDepth 100000 in
set_option maxHeartbeats 2000000 in
theorem joined13_c (sa : Option Addr) (n c : Nat) (f : Nat → Int) (w : World) (hn : n < 4294967296) (hr : IsInts w sa n f) :
    Calls Try.prog 59 #[.slice sa n c, .slice none 0 0, .slice none 0 0] w fun e w' => ∃ s c', e = .returned (.slice s n c') ∧ OwnInts w' w.heap.size (.slice s n c') (lst f n) ∧ Below w.heap.size w w' := by
  have HR := Lib.hid hr
  clear hr
  go_enter Try.func59, Try.ntmps59
  go_wp2_with fail
  go_loopg [7, 8] n (fun g v iv wr => ∃ k : Nat, ∃ sl : Option Addr, ∃ c' : Nat, k + g = n ∧ v = .slice sl k c' ∧ iv = .int .i64 k ∧ OwnInts wr w.heap.size (.slice sl k c') (lst f k) ∧ Below w.heap.size w wr)
  case atStart => exact ⟨0, none, 0, by omega, rfl, rfl, OwnInts.nil _ _, Below.refl _ _⟩
  case round =>
    obtain ⟨k, sl, c', hk, rfl, rfl, ho, hb⟩ := hrel
    have HO := Lib.hid ho
    have HB := Lib.hid hb
    clear ho hb
    by_cases hlt : k < n
    · obtain ⟨b, off, rfl, c0⟩ := HR.out.at HB.out hlt
      obtain ⟨x, hx⟩ : ∃ x, f k = x := ⟨_, rfl⟩
      rw [hx] at c0
      have HX := Lib.hid hx
      clear hx
      go_wp2_with (first | (at_builtin; refine wpList_push _ rfl _ _ rfl w.heap.size _ _ _ f rfl rfl HO.out HX.out (by omega) HB.out.size ?_; intro s2 c2 w2 ho2 hb2; have HO2 := Lib.hid ho2; have HB2 := Lib.hid (HB.out.trans hb2); clear ho2 hb2))
      go_roundg (gk - 1)
      case measure => omega
      case rel => exact ⟨k + 1, _, _, by omega, rfl, by go_num, HO2.out, HB2.out⟩
    · obtain rfl : n = k := by omega
      go_wp2_with fail
      go_loopg [7, 9] 0 (fun g v iv wz => g = 0 ∧ v = .slice sl n c' ∧ iv = .int .i64 0 ∧ wr = wz)
      case atStart => exact ⟨rfl, rfl, rfl, rfl⟩
      case round =>
        obtain ⟨_, rfl, rfl, rfl⟩ := hrel
        go_wp2_with fail
        go_loopg [7, 10] 0 (fun g v iv wz => g = 0 ∧ v = .slice sl n c' ∧ iv = .int .i64 0 ∧ wr = wz)
        case atStart => exact ⟨rfl, rfl, rfl, rfl⟩
        case round =>
          obtain ⟨_, rfl, rfl, rfl⟩ := hrel
          go_wp2
          go_ret
          exact ⟨_, _, rfl, HO.out, HB.out⟩
set_option maxRecDepth 100000 in
set_option maxHeartbeats 2000000 in
theorem copied13_c (sa : Option Addr) (n c : Nat) (f : Nat → Int) (w : World) (hn : n < 4294967296) (hr : IsInts w sa n f) (hnil : sa = none → n = 0 ∧ c = 0) :
    Calls Try.prog 39 #[.slice sa n c] w fun e w' => ∃ s c', e = .returned (.slice s n c') ∧ OwnInts w' w.heap.size (.slice s n c') (lst f n) ∧ Below w.heap.size w w' := by
  have HR := Lib.hid hr
  clear hr
  go_enter Try.func39, Try.ntmps39
  go_wp2_with (first | (at_builtin; refine wpList_append_all rfl _ _ rfl rfl sa n c f rfl HR.out hnil hn w.heap.size (Nat.le_refl _) ?_; intro so co w2 ho hb2 _ _ _; have HO := Lib.hid ho; have HB := Lib.hid hb2; clear ho hb2))
  go_ret
  exact ⟨_, _, rfl, HO.out, HB.out⟩
end Go.Proofs.Ytampjndfhpjheaa
