/- Contracts: copyistref14.Cell, At. Condition: fewer than 2^31 atoms. -/
import Derived.Test.YtplgpnmahblhbaaOd
namespace Go.Proofs.Ytplgpnmahblhbaa
open Go.RowKit
/-- the loop of Cell -/
def rcF (f : Nat → Int) (n : Nat) (a : Int) : Nat → Int
  | 0 => 0
  | j + 1 => if (bx f n j : Int) ≤ a then cellAt f n j else rcF f n a j
theorem rcF_low (f : Nat → Int) (n : Nat) (a : Int) (h : a < 0) : ∀ j, rcF f n a j = 0 := by
  intro j
  induction j with
  | zero => rfl
  | succ j ih => unfold rcF; rw [if_neg (by omega)]; exact ih
theorem rcF_high (f : Nat → Int) (n : Nat) (a : Int) (J : Nat) (h1 : (bx f n J : Int) ≤ a) (h2 : ∀ j, J < j → j < bnv f n → a < (bx f n j : Int)) : ∀ j, J < j → j ≤ bnv f n → rcF f n a j = cellAt f n J := by
  intro j
  induction j with
  | zero => intro h _; omega
  | succ j ih =>
    intro h hb
    unfold rcF
    by_cases hj : J < j
    · have := h2 j hj (by omega)
      rw [if_neg (by omega)]; exact ih hj (by omega)
    · obtain rfl : J = j := by omega
      rw [if_pos h1]
theorem rcF_cell (f : Nat → Int) (n : Nat) (a : Int) : rcF f n a (bnv f n) = cellF f n a := by
  have hb := bnv_bd f n
  by_cases h0 : a < 0
  · rw [rcF_low f n a h0, cellF_low f n a (by omega)]
  · -- the last boundary that is not beyond a
    have key : ∀ m, m < bnv f n → ∃ J, J ≤ m ∧ (bx f n J : Int) ≤ a ∧ ∀ j, J < j → j ≤ m → a < (bx f n j : Int) := by
      intro m
      induction m with
      | zero => intro _; exact ⟨0, Nat.le_refl _, by rw [bx_zero]; omega, fun j h1 h2 => by omega⟩
      | succ m ih =>
        intro hm
        obtain ⟨J, h1, h2, h3⟩ := ih (by omega)
        by_cases hx : (bx f n (m + 1) : Int) ≤ a
        · exact ⟨m + 1, Nat.le_refl _, hx, fun j h4 h5 => by omega⟩
        · refine ⟨J, by omega, h2, fun j h4 h5 => ?_⟩
          rcases Nat.lt_or_eq_of_le h5 with h6 | rfl
          · exact h3 j h4 (by omega)
          · omega
    obtain ⟨J, h1, h2, h3⟩ := key (bnv f n - 1) (by omega)
    rw [rcF_high f n a J h2 (fun j h4 h5 => h3 j h4 (by omega)) _ (by omega) (Nat.le_refl _)]
    exact (cellF_at f n J a (by omega) (.inr h2) (fun h4 => h3 (J + 1) (by omega) (by omega))).symm
theorem rcF_bd (f : Nat → Int) (n : Nat) (a : Int) (j : Nat) : 0 ≤ rcF f n a j ∧ rcF f n a j ≤ 8 * j := by
  induction j with
  | zero => exact ⟨Int.le_refl _, Int.le_refl _⟩
  | succ j ih => unfold rcF; have := cellAt_bd f n j; split <;> omega
set_option maxRecDepth 100000 in
set_option maxHeartbeats 4000000 in
theorem rcell_c (sa : Option Addr) (len cap : Nat) (f : Nat → Int) (a : Int) (w : World) (hl : len < 2147483648) (hr : IsInts w sa len f) :
    Calls Try.prog 39 #[.slice sa len cap, .int .i64 a] w fun e w' => e = .returned (.int .i64 (cellF f len a)) ∧ Below w.heap.size w w' := by
  have HR := Lib.hid hr
  clear hr
  have hbn := bnv_bd f len
  go_enter Try.func39, Try.ntmps39
  go_wp2_with fail
  refine (rcells_c sa len cap f _ hl HR.out).mono ?_
  rintro e w1 ⟨sb, cb, sc, cc, rfl, hi, hj, hb⟩
  have HI := Lib.hid hi
  have HJ := Lib.hid hj
  have HB := Lib.hid hb
  clear hi hj hb
  go_wp2_with fail
  go_loopg [7, 8] (bnv f len) (fun g cv jv wr => ∃ j : Nat, j + g = bnv f len ∧ cv = .int .i64 (rcF f len a j) ∧ jv = .int .i64 j ∧ wr = w1)
  case atStart => exact ⟨0, by omega, rfl, rfl, rfl⟩
  case round =>
    obtain ⟨j, hg, rfl, rfl, rfl⟩ := hrel
    by_cases hj : j < bnv f len
    · obtain ⟨b1, o1, rfl, c0⟩ := HI.out.at (Below.refl _ _) hj
      obtain ⟨b2, o2, rfl, c1⟩ := HJ.out.at (Below.refl _ _) hj
      have hs : rcF f len a (j + 1) = if (bx f len j : Int) ≤ a then cellAt f len j else rcF f len a j := rfl
      by_cases hx : (bx f len j : Int) ≤ a
      · rw [if_pos hx] at hs
        have HS := Lib.hid hs
        clear hs
        generalize bx f len j = x at *
        generalize cellAt f len j = y at *
        generalize rcF f len a j = z at *
        go_wp2
        go_roundg (gk - 1)
        case measure => omega
        case rel => exact ⟨j + 1, by omega, by rw [HS.out], by go_num, rfl⟩
      · rw [if_neg hx] at hs
        have HS := Lib.hid hs
        clear hs
        generalize bx f len j = x at *
        generalize rcF f len a j = z at *
        go_wp2
        go_roundg (gk - 1)
        case measure => omega
        case rel => exact ⟨j + 1, by omega, by rw [HS.out], by go_num, rfl⟩
    · obtain rfl : j = bnv f len := by omega
      rw [rcF_cell]
      go_wp2
      go_ret
      exact ⟨rfl, HB.out⟩
set_option maxRecDepth 100000 in
set_option maxHeartbeats 4000000 in
theorem rat_c (sa : Option Addr) (len cap : Nat) (f : Nat → Int) (c : Int) (w : World) (hl : len < 2147483648) (hr : IsInts w sa len f) :
    Calls Try.prog 40 #[.slice sa len cap, .int .i64 c] w fun e w' => e = .returned (.int .i64 (atF f len c)) ∧ Below w.heap.size w w' := by
  have HR := Lib.hid hr
  clear hr
  have hbn := bnv_bd f len
  by_cases h0 : c < 0
  · rw [atF_neg f len c h0]
    go_enter Try.func40, Try.ntmps40
    go_wp2
    go_ret
    exact ⟨rfl, Below.refl _ _⟩
  · go_enter Try.func40, Try.ntmps40
    go_wp2_with fail
    refine (rcells_c sa len cap f _ hl HR.out).mono ?_
    rintro e w1 ⟨sb, cb, sc, cc, rfl, hi, hj, hb⟩
    have HI := Lib.hid hi
    have HJ := Lib.hid hj
    have HB := Lib.hid hb
    clear hi hj hb
    go_wp2_with fail
    go_loopg [7] (bnv f len) (fun g jv wr => ∃ j : Nat, j + g = bnv f len ∧ j < bnv f len ∧ cellAt f len j ≤ c ∧ jv = .int .i64 j ∧ wr = w1)
    case atStart => exact ⟨0, by omega, by omega, by show (0 : Int) ≤ c; omega, rfl, rfl⟩
    case round =>
      obtain ⟨j, hg, hj, hlo, rfl, rfl⟩ := hrel
      by_cases hlast : j + 1 < bnv f len
      · obtain ⟨b2, o2, rfl, c1⟩ := HJ.out.at (Below.refl _ _) hj
        obtain ⟨b3, o3, hab, c2⟩ := HJ.out.at (Below.refl _ _) hlast
        cases hab
        have q1 : (j : Int) + 1 < (bnv f len : Int) := by omega
        have q2 : (0 : Int) ≤ (j : Int) + 1 := by omega
        by_cases hx : c < cellAt f len (j + 1)
        · have HE := Lib.hid (atF_at f len j c hlast hlo hx)
          obtain ⟨b1, o1, rfl, c0⟩ := HI.out.at (Below.refl _ _) hj
          generalize cellAt f len j = y at *
          generalize cellAt f len (j + 1) = z at *
          generalize bx f len j = x at *
          go_wp2
          go_ret
          exact ⟨ret_int (by rw [HE.out]), HB.out⟩
        · have HX := Lib.hid (show cellAt f len (j + 1) ≤ c by omega)
          generalize cellAt f len j = y at *
          obtain ⟨z, hz⟩ : ∃ z, cellAt f len (j + 1) = z := ⟨_, rfl⟩
          rw [hz] at c2 hx
          have HZ := Lib.hid hz
          clear hz
          go_wp2
          go_roundg (gk - 1)
          case measure => omega
          case rel => exact ⟨j + 1, by omega, hlast, HX.out, by go_num, rfl⟩
      · have q1 : ¬ ((j : Int) + 1 < (bnv f len : Int)) := by omega
        have HE := Lib.hid (atF_out f len c (by rw [show bnv f len - 1 = j from by omega]; exact hlo))
        go_wp2
        go_ret
        exact ⟨ret_int (by rw [HE.out]), HB.out⟩
end Go.Proofs.Ytplgpnmahblhbaa
