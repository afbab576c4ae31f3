/- Contracts: package copyistref3: hangul, conjunct, joined, flag, IsBreak, Breaks. Condition of Breaks: fewer than 2^32 atoms. -/
import Derived.Test.YtpipcmbfdcbboaaCi
import Derived.Test.YtpipcmbfdcbboaaRb
namespace Go.Proofs.Ytpipcmbfdcbboaa
open Go.RowKit
theorem sconj_bd (a : Int) : 0 ≤ sot conjT a ∧ sot conjT a ≤ 1 := sot_bd conjT 1 (by omega) (by decide +kernel) a
theorem parts_all (f : Nat → Int) : Parts f := by
  intro k
  generalize f k = a
  have hj := sconj_bd a
  by_cases hL : isLinker a = true
  · have hL' : a = 2381 ∨ a = 2509 ∨ a = 2765 ∨ a = 2893 ∨ a = 3149 ∨ a = 3405 := of_decide_eq_true hL
    have h3 : conjF a = 3 := by unfold conjF; rw [if_pos hL]
    have h4 : classF a = 4 := by rcases hL' with rfl | rfl | rfl | rfl | rfl | rfl <;> decide +kernel
    omega
  · unfold conjF
    rw [if_neg hL]
    generalize sot conjT a = t at *
    generalize classF a = c at *
    split
    · omega
    · split
      · omega
      · split
        · omega
        · omega
set_option maxHeartbeats 1000000 in
theorem rhangul_any (l r : Int) (w : World) :
    Calls Try.prog 48 #[.int .i64 l, .int .i64 r] w fun e w' => e = .returned (.bool (hangulB l r)) ∧ Below w.heap.size w w' := by
  go_enter Try.func48, Try.ntmps48
  go_wp2
  all_goals
    go_ret
    refine ⟨ret_bool ?_, Below.refl _ _⟩
    go_light
    unfold hangulB
    rw [Bool.eq_iff_iff]
    simp_all
    try omega
theorem linkR_succ (f : Nat → Int) (i : Nat) (b : Bool) : linkR f (i + 1) b = if conjF (f i) = 3 then linkR f i true else if conjF (f i) = 2 then linkR f i b else b && decide (conjF (f i) = 1) := rfl
set_option maxHeartbeats 1000000 in
theorem rconjunct_any (sa : Option Addr) (len cap : Nat) (f : Nat → Int) (k : Nat) (w : World) (hl : len ≤ maxLen) (hr : IsInts w sa len f) (hk : k < len) :
    Calls Try.prog 49 #[.slice sa len cap, .int .i64 k] w fun e w' => e = .returned (.bool (decide (conjF (f k) = 1) && linkR f k false)) ∧ Below w.heap.size w w' := by
  unfold maxLen at hl
  have HR := Lib.hid hr
  clear hr
  obtain ⟨b, off, rfl, hcell⟩ := HR.out.at (Below.refl _ _) hk
  generalize f k = x at hcell
  cases hc : (conjF x == 1)
  · rw [decide_eq_false (by simpa using hc), Bool.false_and]
    go_enter Try.func49, Try.ntmps49
    go_wp2_with fail
    refine (rconj_any _ _).mono ?_
    rintro e w' ⟨rfl, rfl⟩
    go_wp2
    go_ret
    exact ⟨rfl, Below.refl _ _⟩
  · rw [decide_eq_true (by simpa using hc), Bool.true_and]
    have hc' : (conjF x != 1) = false := by simpa using hc
    go_enter Try.func49, Try.ntmps49
    go_wp2_with fail
    refine (rconj_any _ _).mono ?_
    rintro e w' ⟨rfl, rfl⟩
    clear hcell
    go_wp2_with fail
    go_loopg [5, 6] k (fun g n i wr => ∃ j : Nat, ∃ z m : Int, j = g ∧ j ≤ k ∧ z = (j : Int) - 1 ∧ n = .int .i64 m ∧ i = .int .i64 z ∧ 0 ≤ m ∧ m ≤ k - j ∧ linkR f j (decide (0 < m)) = linkR f k false ∧ Below w.heap.size w wr)
    case atStart => exact ⟨k, (k : Int) - 1, 0, rfl, Nat.le_refl _, rfl, rfl, rfl, by omega, by omega, rfl, Below.refl _ _⟩
    case round =>
      obtain ⟨j, z, m, rfl, hj, hz, rfl, rfl, hm0, hm, hlk, hb⟩ := hrel
      have HB := Lib.hid hb
      have HL := Lib.hid hlk
      clear hb hlk
      cases j with
      | zero =>
        have hz' : z < 0 := by omega
        go_wp2
        go_ret
        exact ⟨ret_bool HL.out, HB.out⟩
      | succ j =>
        obtain rfl : z = (j : Int) := by omega
        clear hz
        have hL := HL.out
        rw [linkR_succ] at hL
        have HL2 := Lib.hid hL
        clear HL hL
        obtain ⟨b1, off1, hab, hcell⟩ := HR.out.at HB.out (show j < len by omega)
        cases hab
        obtain ⟨y, hy⟩ : ∃ y, f j = y := ⟨_, rfl⟩
        rw [hy] at hcell HL2
        have HY := Lib.hid hy
        clear hy
        go_wp2_with fail
        refine (rconj_any _ _).mono ?_
        rintro e w' ⟨rfl, rfl⟩
        generalize conjF y = c at *
        cases hc3 : (c == 3)
        · have hn3 : (c != 3) = true := by simpa using hc3
          cases hc2 : (c == 2)
          · have hn2 : (c != 2) = true := by simpa using hc2
            cases hc1 : (c == 1) <;> cases hmm : (decide (0 < m))
            all_goals
              have hF : linkR f k false = (decide (0 < m) && (c == 1)) := by
                rw [← HL2.out, if_neg (by simpa using hc3), if_neg (by simpa using hc2)]; rw [Bool.eq_iff_iff]; simp
              have HF := Lib.hid hF
              clear hF HL2
              go_wp2
              go_ret
              exact ⟨ret_bool (by rw [HF.out, hc1, hmm]; rfl), HB.out⟩
          · have hn2 : (c != 2) = false := by simpa using hc2
            have hF : linkR f j (decide (0 < m)) = linkR f k false := by
              rw [← HL2.out, if_neg (by simpa using hc3), if_pos (by simpa using hc2)]
            have HF := Lib.hid hF
            clear hF HL2
            go_wp2
            go_roundg j
            case measure => omega
            case rel => exact ⟨j, (j : Int) - 1, m, rfl, by omega, rfl, rfl, rfl, hm0, by omega, HF.out, HB.out⟩
        · have hn3 : (c != 3) = false := by simpa using hc3
          have hF : linkR f j (decide (0 < m + 1)) = linkR f k false := by
            rw [← HL2.out, if_pos (by simpa using hc3), decide_eq_true (by omega)]
          have HF := Lib.hid hF
          clear hF HL2
          go_wp2
          go_roundg j
          case measure => omega
          case rel => exact ⟨j, (j : Int) - 1, m + 1, rfl, by omega, rfl, rfl, rfl, by omega, by omega, HF.out, HB.out⟩
end Go.Proofs.Ytpipcmbfdcbboaa
