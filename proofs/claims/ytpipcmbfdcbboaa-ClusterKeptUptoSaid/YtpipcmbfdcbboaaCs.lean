/- Contracts: package copyistref3: joined, flag, IsBreak. No condition. -/
import Derived.Test.YtpipcmbfdcbboaaCr
namespace Go.Proofs.Ytpipcmbfdcbboaa
open Go.RowKit
theorem joinR_succ (f : Nat → Int) (i : Nat) : joinR f (i + 1) = if classF (f i) = 4 then joinR f i else decide (classF (f i) = 14) := rfl
theorem flagR_succ (f : Nat → Int) (i : Nat) : flagR f (i + 1) = if classF (f i) = 6 then flagR f i + 1 else 0 := rfl
set_option maxHeartbeats 1000000 in
theorem rjoined_any (sa : Option Addr) (len cap : Nat) (f : Nat → Int) (k : Nat) (w : World) (hl : len ≤ maxLen) (hr : IsInts w sa len f) (hk0 : 0 < k) (hk : k < len) :
    Calls Try.prog 50 #[.slice sa len cap, .int .i64 k] w fun e w' => e = .returned (.bool (decide (classF (f k) = 14 ∧ classF (f (k - 1)) = 5) && joinR f (k - 1))) ∧ Below w.heap.size w w' := by
  unfold maxLen at hl
  have HR := Lib.hid hr
  clear hr
  obtain ⟨b, off, rfl, hcell⟩ := HR.out.at (Below.refl _ _) hk
  obtain ⟨b1, off1, hab, hcell'⟩ := HR.out.at (Below.refl _ _) (show k - 1 < len by omega)
  cases hab
  obtain ⟨q, rfl⟩ : ∃ q, k = q + 1 := ⟨k - 1, by omega⟩
  rw [show q + 1 - 1 = q from rfl] at hcell' ⊢
  generalize f (q + 1) = x at hcell
  generalize f q = y at hcell'
  cases hc : (classF x == 14)
  · have hc' : (classF x != 14) = true := by simpa using hc
    rw [decide_eq_false (by intro h; rw [h.1] at hc; exact absurd hc (by decide)), Bool.false_and]
    go_enter Try.func50, Try.ntmps50
    go_wp2_with fail
    refine (rclass_any _ _).mono ?_
    rintro e w' ⟨rfl, rfl⟩
    go_wp2
    go_ret
    exact ⟨rfl, Below.refl _ _⟩
  · have hc' : (classF x != 14) = false := by simpa using hc
    cases hd : (classF y == 5)
    · have hd' : (classF y != 5) = true := by simpa using hd
      rw [decide_eq_false (by intro h; rw [h.2] at hd; exact absurd hd (by decide)), Bool.false_and]
      go_enter Try.func50, Try.ntmps50
      go_wp2_with fail
      refine (rclass_any _ _).mono ?_
      rintro e w' ⟨rfl, rfl⟩
      go_wp2_with fail
      refine (rclass_any _ _).mono ?_
      rintro e w' ⟨rfl, rfl⟩
      go_wp2
      go_ret
      exact ⟨rfl, Below.refl _ _⟩
    · have hd' : (classF y != 5) = false := by simpa using hd
      rw [decide_eq_true (show classF x = 14 ∧ classF y = 5 from ⟨by simpa using hc, by simpa using hd⟩), Bool.true_and]
      go_enter Try.func50, Try.ntmps50
      go_wp2_with fail
      refine (rclass_any _ _).mono ?_
      rintro e w' ⟨rfl, rfl⟩
      go_wp2_with fail
      refine (rclass_any _ _).mono ?_
      rintro e w' ⟨rfl, rfl⟩
      clear hcell hcell'
      go_wp2_with fail
      go_loopg [5] q (fun g i wr => ∃ j : Nat, ∃ z : Int, j = g ∧ j ≤ q ∧ z = (j : Int) - 1 ∧ i = .int .i64 z ∧ joinR f j = joinR f q ∧ Below w.heap.size w wr)
      case atStart => exact ⟨q, (q : Int) - 1, rfl, Nat.le_refl _, rfl, by congr 1; omega, rfl, Below.refl _ _⟩
      case round =>
        obtain ⟨j, z, rfl, hj, hz, rfl, hlk, hb⟩ := hrel
        have HB := Lib.hid hb
        have HL := Lib.hid hlk
        clear hb hlk
        cases j with
        | zero =>
          have hz' : z < 0 := by omega
          go_wp2
          go_ret
          exact ⟨ret_bool HL.out, HB.out⟩
        | succ j =>
          obtain rfl : z = (j : Int) := by omega
          clear hz
          have hL := HL.out
          rw [joinR_succ] at hL
          have HL2 := Lib.hid hL
          clear HL hL
          obtain ⟨b1, off1, hab, hcell⟩ := HR.out.at HB.out (show j < len by omega)
          cases hab
          obtain ⟨u, hu⟩ : ∃ u, f j = u := ⟨_, rfl⟩
          rw [hu] at hcell HL2
          clear hu
          go_wp2_with fail
          refine (rclass_any _ _).mono ?_
          rintro e w' ⟨rfl, rfl⟩
          generalize classF u = c at *
          cases hc4 : (c == 4)
          · have hn4 : (c != 4) = true := by simpa using hc4
            have hF : joinR f q = (c == 14) := by
              rw [← HL2.out, if_neg (by simpa using hc4)]; rw [Bool.eq_iff_iff]; simp
            have HF := Lib.hid hF
            clear hF HL2
            go_wp2
            go_ret
            exact ⟨ret_bool HF.out.symm, HB.out⟩
          · have hn4 : (c != 4) = false := by simpa using hc4
            have hF : joinR f j = joinR f q := by rw [← HL2.out, if_pos (by simpa using hc4)]
            have HF := Lib.hid hF
            clear hF HL2
            go_wp2
            go_roundg j
            case measure => omega
            case rel => exact ⟨j, (j : Int) - 1, rfl, by omega, rfl, rfl, HF.out, HB.out⟩
set_option maxHeartbeats 1000000 in
theorem rflag_any (sa : Option Addr) (len cap : Nat) (f : Nat → Int) (k : Nat) (w : World) (hl : len ≤ maxLen) (hr : IsInts w sa len f) (hk : k < len) :
    Calls Try.prog 51 #[.slice sa len cap, .int .i64 k] w fun e w' => e = .returned (.bool (decide (classF (f k) = 6 ∧ flagR f k % 2 = 1))) ∧ Below w.heap.size w w' := by
  unfold maxLen at hl
  have HR := Lib.hid hr
  clear hr
  obtain ⟨b, off, rfl, hcell⟩ := HR.out.at (Below.refl _ _) hk
  generalize f k = x at hcell
  cases hc : (classF x == 6)
  · have hc' : (classF x != 6) = true := by simpa using hc
    rw [decide_eq_false (by intro h; rw [h.1] at hc; exact absurd hc (by decide))]
    go_enter Try.func51, Try.ntmps51
    go_wp2_with fail
    refine (rclass_any _ _).mono ?_
    rintro e w' ⟨rfl, rfl⟩
    go_wp2
    go_ret
    exact ⟨rfl, Below.refl _ _⟩
  · have hc' : (classF x != 6) = false := by simpa using hc
    have hres : decide (classF x = 6 ∧ flagR f k % 2 = 1) = decide (flagR f k % 2 = 1) := by
      rw [Bool.eq_iff_iff]; simp; intro _; simpa using hc
    rw [hres]
    clear hres
    go_enter Try.func51, Try.ntmps51
    go_wp2_with fail
    refine (rclass_any _ _).mono ?_
    rintro e w' ⟨rfl, rfl⟩
    clear hcell
    go_wp2_with fail
    go_loopg [5, 6] k (fun g n i wr => ∃ j m : Nat, ∃ z : Int, j = g ∧ j ≤ k ∧ z = (j : Int) - 1 ∧ n = .int .i64 m ∧ i = .int .i64 z ∧ m ≤ k - j ∧ m + flagR f j = flagR f k ∧ Below w.heap.size w wr)
    case atStart => exact ⟨k, 0, (k : Int) - 1, rfl, Nat.le_refl _, rfl, rfl, rfl, by omega, by omega, Below.refl _ _⟩
    case round =>
      obtain ⟨j, m, z, rfl, hj, hz, rfl, rfl, hm, hlk, hb⟩ := hrel
      have HB := Lib.hid hb
      have HL := Lib.hid hlk
      clear hb hlk
      cases j with
      | zero =>
        have hz' : z < 0 := by omega
        have hF : flagR f k = m := HL.out.symm
        have HF := Lib.hid hF
        clear hF
        go_wp2
        go_ret
        exact ⟨ret_bool (by rw [HF.out, Bool.eq_iff_iff]; simp; omega), HB.out⟩
      | succ j =>
        obtain rfl : z = (j : Int) := by omega
        clear hz
        have hL := HL.out
        rw [flagR_succ] at hL
        have HL2 := Lib.hid hL
        clear HL hL
        obtain ⟨b1, off1, hab, hcell⟩ := HR.out.at HB.out (show j < len by omega)
        cases hab
        obtain ⟨u, hu⟩ : ∃ u, f j = u := ⟨_, rfl⟩
        rw [hu] at hcell HL2
        clear hu
        go_wp2_with fail
        refine (rclass_any _ _).mono ?_
        rintro e w' ⟨rfl, rfl⟩
        generalize classF u = c at *
        cases hc6 : (c == 6)
        · have hn6 : (c != 6) = true := by simpa using hc6
          have hF : flagR f k = m := by
            rw [← HL2.out, if_neg (by simpa using hc6)]; rfl
          have HF := Lib.hid hF
          clear hF HL2
          go_wp2
          go_ret
          exact ⟨ret_bool (by rw [HF.out, Bool.eq_iff_iff]; simp; omega), HB.out⟩
        · have hn6 : (c != 6) = false := by simpa using hc6
          have hF : m + 1 + flagR f j = flagR f k := by rw [← HL2.out, if_pos (by simpa using hc6)]; omega
          have HF := Lib.hid hF
          clear hF HL2
          go_wp2
          go_roundg j
          case measure => omega
          case rel => exact ⟨j, m + 1, (j : Int) - 1, rfl, by omega, rfl, by go_num, rfl, by omega, HF.out, HB.out⟩
theorem refIn_alt (f : Nat → Int) (k : Nat) : refIn f k =
    if classF (f (k - 1)) = 1 ∧ classF (f k) = 2 then false
    else if (classF (f (k - 1)) = 1 ∨ classF (f (k - 1)) = 2 ∨ classF (f (k - 1)) = 3) ∨ (classF (f k) = 1 ∨ classF (f k) = 2 ∨ classF (f k) = 3) then true
    else if hangulB (classF (f (k - 1))) (classF (f k)) = true ∨ classF (f k) = 4 ∨ classF (f k) = 5 ∨ classF (f k) = 8 ∨ classF (f (k - 1)) = 7 then false
    else !(decide (conjF (f k) = 1) && linkR f k false) && !(decide (classF (f k) = 14 ∧ classF (f (k - 1)) = 5) && joinR f (k - 1)) && !(decide (classF (f k) = 6 ∧ flagR f k % 2 = 1)) := by
  unfold refIn apartB; simp only [decide_eq_true_eq]
set_option maxHeartbeats 4000000 in
theorem risbreak_any (sa : Option Addr) (len cap : Nat) (f : Nat → Int) (a : Int) (w : World) (hl : len ≤ maxLen) (hr : IsInts w sa len f) :
    Calls Try.prog 36 #[.slice sa len cap, .int .i64 a] w fun e w' => e = .returned (.bool (isF f len a)) ∧ Below w.heap.size w w' := by
  have hlm := hl
  unfold maxLen at hl
  by_cases ho : 0 ≤ a ∧ a ≤ (len : Int)
  · obtain ⟨k, rfl⟩ : ∃ k : Nat, a = k := ⟨a.toNat, by omega⟩
    have he : isF f len (k : Int) = isB f len k := by
      unfold isF
      rw [decide_eq_true ho.1, decide_eq_true ho.2]; simp
    rw [he]
    clear he
    by_cases hend : k = 0 ∨ k = len
    · have he : isB f len k = true := by
        rcases hend with h | h
        · rw [h]; rfl
        · rw [h]; exact isB_end f len
      rw [he]
      clear he hr
      by_cases h0 : (k : Int) = 0
      · have h0' : ((k : Int) == 0) = true := by simpa using h0
        go_enter Try.func36, Try.ntmps36
        go_wp2
        go_ret
        exact ⟨rfl, Below.refl _ _⟩
      · have h0' : ((k : Int) == 0) = false := by simpa using h0
        obtain rfl : k = len := by omega
        go_enter Try.func36, Try.ntmps36
        go_wp2
        go_ret
        exact ⟨rfl, Below.refl _ _⟩
    · have he : isB f len k = refIn f k := by
        obtain ⟨q, rfl⟩ : ∃ q, k = q + 1 := ⟨k - 1, by omega⟩
        rw [isB_brk (by omega), ref_brk (parts_all f)]
      rw [he, refIn_alt]
      clear he
      have HR := Lib.hid hr
      clear hr
      obtain ⟨b, off, rfl, hcell⟩ := HR.out.at (Below.refl _ _) (show k < len by omega)
      obtain ⟨b1, off1, hab, hcell'⟩ := HR.out.at (Below.refl _ _) (show k - 1 < len by omega)
      cases hab
      have hz : ((k : Int) == 0) = false := by simp; omega
      have hz2 : ((k : Int) == (len : Int)) = false := by simp; omega
      have hcon := rconjunct_any (some ⟨b, off, none⟩) len cap f k w hlm HR.out (by omega)
      have hjoi := rjoined_any (some ⟨b, off, none⟩) len cap f k w hlm HR.out (by omega) (by omega)
      have hfla := rflag_any (some ⟨b, off, none⟩) len cap f k w hlm HR.out (by omega)
      obtain ⟨q, rfl⟩ : ∃ q, k = q + 1 := ⟨k - 1, by omega⟩
      rw [show q + 1 - 1 = q from rfl] at hcell' ⊢
      generalize hX : f (q + 1) = x at hcell ⊢
      generalize hY : f q = y at hcell' ⊢
      have HX := Lib.hid hX
      have HY := Lib.hid hY
      clear hX hY hcon hjoi hfla
      have hz3 : ((q : Int) + 1 == 0) = false := by simp; omega
      have hz4 : ((q : Int) + 1 == (len : Int)) = false := by simp; omega
      have hz5 : ¬ ((q : Int) + 1 < 0) := by omega
      have hz6 : (q : Int) + 1 ≤ (len : Int) := by omega
      generalize hCC : (decide (conjF x = 1) && linkR f (q + 1) false) = cc
      generalize hJJ : joinR f q = jj
      generalize hFF : decide (classF x = 6 ∧ flagR f (q + 1) % 2 = 1) = ff
      generalize hJ2 : decide (classF x = 14 ∧ classF y = 5) = j2
      generalize hRR : classF x = r
      generalize hLL : classF y = l
      have HRR := Lib.hid hRR
      have HLL := Lib.hid hLL
      have HJ2 := Lib.hid hJ2
      have HCC := Lib.hid hCC
      have HJJ := Lib.hid hJJ
      have HFF := Lib.hid hFF
      clear hCC hJJ hFF hRR hLL hJ2
      go_enter Try.func36, Try.ntmps36
      go_wp2_with fail
      refine (rclass_any _ _).mono ?_
      rintro e w' ⟨rfl, rfl⟩
      go_wp2_with fail
      refine (rclass_any _ _).mono ?_
      rintro e w' ⟨rfl, rfl⟩
      rw [HRR.out, HLL.out]
      clear hcell hcell'
      by_cases hA : l = 1 ∧ r = 2
      · have a1 : (l == 1) = true := by simpa using hA.1
        have a2 : (r == 2) = true := by simpa using hA.2
        have HA := Lib.hid hA
        clear hA
        go_wp2
        go_ret
        exact ⟨ret_bool (by first | rfl | rw [if_pos HA.out]), Below.refl _ _⟩
      · by_cases hB : (l = 1 ∨ l = 2 ∨ l = 3) ∨ (r = 1 ∨ r = 2 ∨ r = 3)
        · have HA := Lib.hid hA
          have HB := Lib.hid hB
          have hlr : l = 1 → (r == 2) = false := by intro h; simp; omega
          have hrl : r = 2 → (l == 1) = false := by intro h; simp; omega
          clear hA
          rcases hB with (rfl | rfl | rfl) | (rfl | rfl | rfl)
          all_goals
            first
              | (have hh := hlr rfl; clear hlr hrl)
              | (have hh := hrl rfl; clear hlr hrl)
              | clear hlr hrl
            go_wp2
            all_goals
              go_ret
              exact ⟨ret_bool (by first | rfl | rw [if_neg HA.out, if_pos HB.out] | (simp_all; done)), Below.refl _ _⟩
        · have a1 : (l == 1) = false := by simp; omega
          have a2 : (l == 2) = false := by simp; omega
          have a3 : (l == 3) = false := by simp; omega
          have a4 : (r == 1) = false := by simp; omega
          have a5 : (r == 2) = false := by simp; omega
          have a6 : (r == 3) = false := by simp; omega
          have HA := Lib.hid hA
          have HB := Lib.hid hB
          clear hA hB
          go_wp2_with fail
          refine (rhangul_any _ _ _).mono ?_
          rintro e w1 ⟨rfl, hb1⟩
          have HB1 := Lib.hid hb1
          clear hb1
          by_cases hC : hangulB l r = true ∨ r = 4 ∨ r = 5 ∨ r = 8 ∨ l = 7
          · have HC := Lib.hid hC
            rcases hC with hh | rfl | rfl | rfl | rfl
            · rw [hh]
              go_wp2
              all_goals
                go_ret
                exact ⟨ret_bool (by first | rfl | rw [if_neg HA.out, if_neg HB.out, if_pos HC.out] | (simp_all; done)), HB1.out⟩
            all_goals
              generalize hangulB _ _ = hb at *
              cases hb
              all_goals
                go_wp2
                all_goals
                  go_ret
                  exact ⟨ret_bool (by first | rfl | rw [if_neg HA.out, if_neg HB.out, if_pos HC.out] | (simp_all; done)), HB1.out⟩
          · have hh : hangulB l r = false := by
              cases h : hangulB l r
              · rfl
              · exact absurd (.inl h) hC
            have b1 : (r == 4) = false := by simp; intro h; exact hC (.inr (.inl h))
            have b2 : (r == 5) = false := by simp; intro h; exact hC (.inr (.inr (.inl h)))
            have b3 : (r == 8) = false := by simp; intro h; exact hC (.inr (.inr (.inr (.inl h))))
            have b4 : (l == 7) = false := by simp; intro h; exact hC (.inr (.inr (.inr (.inr h))))
            have HC := Lib.hid hC
            clear hC
            rw [hh]
            go_wp2_with fail
            have hcall := rconjunct_any (some ⟨b, off, none⟩) len cap f (q + 1) _ hlm (HR.out.later HB1.out) (by omega)
            rw [show ((q + 1 : Nat) : Int) = (q : Int) + 1 from by omega] at hcall
            refine hcall.mono ?_
            clear hcall
            rintro e w2 ⟨rfl, hb2⟩
            rw [HX.out, HCC.out]
            have HB2 := Lib.hid (bt HB1.out hb2)
            clear hb2
            go_wp2_with fail
            have hcall := rjoined_any (some ⟨b, off, none⟩) len cap f (q + 1) _ hlm (HR.out.later HB2.out) (by omega) (by omega)
            rw [show ((q + 1 : Nat) : Int) = (q : Int) + 1 from by omega] at hcall
            refine hcall.mono ?_
            clear hcall
            rintro e w3 ⟨rfl, hb3⟩
            rw [show q + 1 - 1 = q from rfl, HX.out, HY.out, HJ2.out, HJJ.out]
            have HB3 := Lib.hid (bt HB2.out hb3)
            clear hb3
            go_wp2_with fail
            have hcall := rflag_any (some ⟨b, off, none⟩) len cap f (q + 1) _ hlm (HR.out.later HB3.out) (by omega)
            rw [show ((q + 1 : Nat) : Int) = (q : Int) + 1 from by omega] at hcall
            refine hcall.mono ?_
            clear hcall
            rintro e w4 ⟨rfl, hb4⟩
            rw [HX.out, HFF.out]
            have HB4 := Lib.hid (bt HB3.out hb4)
            clear hb4
            cases hj : (j2 && jj) <;> cases cc <;> cases ff
            all_goals
              go_wp2
              all_goals
                go_ret
                exact ⟨ret_bool (by first | rfl | (rw [if_neg HA.out, if_neg HB.out, if_neg HC.out, hj]; rfl) | (simp_all; done)), HB4.out⟩
  · have he : isF f len a = false := by
      unfold isF
      rcases Classical.not_and_iff_not_or_not.1 ho with h | h
      · rw [decide_eq_false h]; rfl
      · rw [decide_eq_false h, Bool.and_false]; rfl
    rw [he]
    clear he hr
    by_cases ha0 : a < 0
    all_goals
      go_enter Try.func36, Try.ntmps36
      go_wp2
      go_ret
      exact ⟨rfl, Below.refl _ _⟩
end Go.Proofs.Ytpipcmbfdcbboaa
