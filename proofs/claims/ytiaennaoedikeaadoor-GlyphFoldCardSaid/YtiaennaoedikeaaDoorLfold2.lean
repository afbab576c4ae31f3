/- The walk of GlyphFold: it answers true, for every list, where the table variables hold what the text lays. -/
import Derived.Test.YtiaennaoedikeaaDoorLfold
namespace Go.Proofs.YtiaennaoedikeaaDoor
open Go.RowKit
theorem upper_eq (a v : Int) (w : World) (h : upperF a = v) (ht : Tabs w) :
    Calls Tryd.prog 10 #[.int .i64 a] w fun e w' => e = .returned (.int .i64 v) ∧ Below w.heap.size w w' := by
  subst h; exact upper_any a w ht
theorem lower_eq (a v : Int) (w : World) (h : lowerF a = v) (ht : Tabs w) :
    Calls Tryd.prog 11 #[.int .i64 a] w fun e w' => e = .returned (.int .i64 v) ∧ Below w.heap.size w w' := by
  subst h; exact lower_any a w ht
theorem turn_eq (a v : Int) (w : World) (h : turnF a = v) (ht : Tabs w) :
    Calls Tryd.prog 12 #[.int .i64 a] w fun e w' => e = .returned (.int .i64 v) ∧ Below w.heap.size w w' := by
  subst h; exact turn_any a w ht
set_option maxRecDepth 100000 in
set_option maxHeartbeats 4000000 in
theorem lettered_any (a : Int) (w : World) (ht : Tabs w) :
    Calls Tryd.prog 13 #[.int .i64 a] w fun e w' => e = .returned (.bool true) ∧ Below w.heap.size w w' := by
  have HT := Lib.hid ht
  clear ht
  cases hsc : scalarB a
  · have hn : ¬ (0 ≤ a ∧ a < 55296 ∨ 57343 < a ∧ a ≤ 1114111) := by unfold scalarB at hsc; exact of_decide_eq_false hsc
    have hn2 : a < 0 ∨ 1114111 < a ∨ 55296 ≤ a ∧ a ≤ 57343 := by omega
    have HU := Lib.hid (fold_out a hsc).1
    have HL := Lib.hid (fold_out a hsc).2.1
    have HT' := Lib.hid (fold_out a hsc).2.2
    clear hsc hn
    rcases hn2 with hn | hn | hn
    all_goals
      go_enter Tryd.func13, Tryd.ntmps13
      go_wp2_with fail
      refine (upper_eq _ _ _ HU.out HT.out).mono ?_
      rintro e w1 ⟨rfl, hb1⟩
      have HB1 := Lib.hid (hb1)
      clear hb1
      go_wp2_with fail
      refine (lower_eq _ _ _ HL.out (HT.out.later HB1.out)).mono ?_
      rintro e w2 ⟨rfl, hb2⟩
      have HB2 := Lib.hid (bt HB1.out hb2)
      clear hb2
      go_wp2_with fail
      refine (turn_eq _ _ _ HT'.out (HT.out.later HB2.out)).mono ?_
      rintro e w3 ⟨rfl, hb3⟩
      have HB3 := Lib.hid (bt HB2.out hb3)
      clear hb3
      go_wp2
      go_ret
      exact ⟨rfl, HB3.out⟩
  · have hn : 0 ≤ a ∧ a < 55296 ∨ 57343 < a ∧ a ≤ 1114111 := by unfold scalarB at hsc; exact of_decide_eq_true hsc
    have hlaw := fold_law a hsc
    clear hsc
    obtain ⟨u, hu⟩ : ∃ u, upperF a = u := ⟨_, rfl⟩
    obtain ⟨l, hl⟩ : ∃ l, lowerF a = l := ⟨_, rfl⟩
    rw [hu, hl] at hlaw
    have HU := Lib.hid hu
    have HL := Lib.hid hl
    clear hu hl
    obtain ⟨⟨b1, b2, b3, b4⟩, f1, f2, f3⟩ := hlaw
    by_cases hua : u = a
    · subst hua
      by_cases hla : l = u
      · subst hla
        have G4 := Lib.hid (f3 rfl rfl)
        clear f1 f2 f3
        rcases hn with hn | hn
        all_goals
          go_enter Tryd.func13, Tryd.ntmps13
          go_wp2_with fail
          refine (upper_eq _ _ _ HU.out HT.out).mono ?_
          rintro e w1 ⟨rfl, hb1⟩
          have HB1 := Lib.hid (hb1)
          clear hb1
          go_wp2_with fail
          refine (lower_eq _ _ _ HL.out (HT.out.later HB1.out)).mono ?_
          rintro e w2 ⟨rfl, hb2⟩
          have HB2 := Lib.hid (bt HB1.out hb2)
          clear hb2
          go_wp2_with fail
          refine (turn_eq _ _ _ G4.out (HT.out.later HB2.out)).mono ?_
          rintro e w3 ⟨rfl, hb3⟩
          have HB3 := Lib.hid (bt HB2.out hb3)
          clear hb3
          go_wp2
          go_ret
          exact ⟨rfl, HB3.out⟩
      · have g := f2 hla
        obtain ⟨_, g2, g3, g4⟩ := g
        have q1 : (l == u) = false := beq_eq_false_iff_ne.2 hla
        have q2 : (l != u) = true := by rw [bne_iff_ne]; exact hla
        obtain ⟨x, hx⟩ : ∃ x, upperF l = x := ⟨_, rfl⟩
        rw [hx] at g3
        have HX := Lib.hid hx
        have G2 := Lib.hid g2
        have G3 := Lib.hid g3
        have G4 := Lib.hid g4
        clear hx g2 g3 g4 f1 f2 f3 hla
        rcases hn with hn | hn
        all_goals
          go_enter Tryd.func13, Tryd.ntmps13
          go_wp2_with fail
          refine (upper_eq _ _ _ HU.out HT.out).mono ?_
          rintro e w1 ⟨rfl, hb1⟩
          have HB1 := Lib.hid (hb1)
          clear hb1
          go_wp2_with fail
          refine (lower_eq _ _ _ HL.out (HT.out.later HB1.out)).mono ?_
          rintro e w2 ⟨rfl, hb2⟩
          have HB2 := Lib.hid (bt HB1.out hb2)
          clear hb2
          go_wp2_with fail
          refine (lower_eq _ _ _ G2.out (HT.out.later HB2.out)).mono ?_
          rintro e w3 ⟨rfl, hb3⟩
          have HB3 := Lib.hid (bt HB2.out hb3)
          clear hb3
          go_wp2_with fail
          refine (upper_eq _ _ _ HX.out (HT.out.later HB3.out)).mono ?_
          rintro e w4 ⟨rfl, hb4⟩
          have HB4 := Lib.hid (bt HB3.out hb4)
          clear hb4
          go_wp2_with fail
          refine (lower_eq _ _ _ G3.out (HT.out.later HB4.out)).mono ?_
          rintro e w5 ⟨rfl, hb5⟩
          have HB5 := Lib.hid (bt HB4.out hb5)
          clear hb5
          go_wp2_with fail
          refine (turn_eq _ _ _ G4.out (HT.out.later HB5.out)).mono ?_
          rintro e w6 ⟨rfl, hb6⟩
          have HB6 := Lib.hid (bt HB5.out hb6)
          clear hb6
          go_wp2
          go_ret
          exact ⟨rfl, HB6.out⟩
    · have g := f1 hua
      obtain ⟨rfl, g2, g3, g4⟩ := g
      have q1 : (u == l) = false := beq_eq_false_iff_ne.2 hua
      have q2 : (u != l) = true := by rw [bne_iff_ne]; exact hua
      obtain ⟨x, hx⟩ : ∃ x, lowerF u = x := ⟨_, rfl⟩
      rw [hx] at g3
      have HX := Lib.hid hx
      have G2 := Lib.hid g2
      have G3 := Lib.hid g3
      have G4 := Lib.hid g4
      clear hx g2 g3 g4 f1 f2 f3 hua
      rcases hn with hn | hn
      all_goals
        go_enter Tryd.func13, Tryd.ntmps13
        go_wp2_with fail
        refine (upper_eq _ _ _ HU.out HT.out).mono ?_
        rintro e w1 ⟨rfl, hb1⟩
        have HB1 := Lib.hid (hb1)
        clear hb1
        go_wp2_with fail
        refine (lower_eq _ _ _ HL.out (HT.out.later HB1.out)).mono ?_
        rintro e w2 ⟨rfl, hb2⟩
        have HB2 := Lib.hid (bt HB1.out hb2)
        clear hb2
        go_wp2_with fail
        refine (upper_eq _ _ _ G2.out (HT.out.later HB2.out)).mono ?_
        rintro e w3 ⟨rfl, hb3⟩
        have HB3 := Lib.hid (bt HB2.out hb3)
        clear hb3
        go_wp2_with fail
        refine (lower_eq _ _ _ HX.out (HT.out.later HB3.out)).mono ?_
        rintro e w4 ⟨rfl, hb4⟩
        have HB4 := Lib.hid (bt HB3.out hb4)
        clear hb4
        go_wp2_with fail
        refine (upper_eq _ _ _ G3.out (HT.out.later HB4.out)).mono ?_
        rintro e w5 ⟨rfl, hb5⟩
        have HB5 := Lib.hid (bt HB4.out hb5)
        clear hb5
        go_wp2_with fail
        refine (turn_eq _ _ _ G4.out (HT.out.later HB5.out)).mono ?_
        rintro e w6 ⟨rfl, hb6⟩
        have HB6 := Lib.hid (bt HB5.out hb6)
        clear hb6
        go_wp2
        go_ret
        exact ⟨rfl, HB6.out⟩
set_option maxRecDepth 100000 in
set_option maxHeartbeats 4000000 in
theorem fold_any (s : Option Addr) (len cap : Nat) (f : Nat → Int) (w : World) (ht : Tabs w) (hl : len ≤ maxLen) (hr : IsInts w s len f) :
    Calls Tryd.prog 3 #[.slice s len cap] w fun e w' => e = .returned (.bool true) ∧ Below w.heap.size w w' := by
  unfold maxLen at hl
  have HR := Lib.hid hr
  have HT := Lib.hid ht
  clear hr ht
  go_enter Tryd.func3, Tryd.ntmps3
  go_wp2_with fail
  go_loopg [3] 26 (fun g i wr => ∃ k : Int, 0 ≤ k ∧ k ≤ 26 ∧ g = (26 - k).toNat ∧ i = .int .i64 k ∧ Below w.heap.size w wr)
  case atStart => exact ⟨0, by omega, by omega, rfl, rfl, Below.refl _ _⟩
  case round =>
    obtain ⟨k, hk0, hk, rfl, rfl, hb⟩ := hrel
    have HB := Lib.hid hb
    clear hb
    by_cases hlt : k < 26
    · have g := ascii_up k (by omega) (by omega)
      have G1 := Lib.hid g.1
      have G2 := Lib.hid g.2.1
      have G3 := Lib.hid g.2.2.1
      have G4 := Lib.hid g.2.2.2
      clear g
      go_wp2_with fail
      refine (upper_eq _ _ _ G1.out (HT.out.later HB.out)).mono ?_
      rintro e w11 ⟨rfl, hb11⟩
      have HB11 := Lib.hid (bt HB.out hb11)
      clear hb11
      go_wp2_with fail
      refine (lower_eq _ _ _ G2.out (HT.out.later HB11.out)).mono ?_
      rintro e w12 ⟨rfl, hb12⟩
      have HB12 := Lib.hid (bt HB11.out hb12)
      clear hb12
      go_wp2_with fail
      refine (turn_eq _ _ _ G3.out (HT.out.later HB12.out)).mono ?_
      rintro e w13 ⟨rfl, hb13⟩
      have HB13 := Lib.hid (bt HB12.out hb13)
      clear hb13
      go_wp2_with fail
      refine (turn_eq _ _ _ G4.out (HT.out.later HB13.out)).mono ?_
      rintro e w14 ⟨rfl, hb14⟩
      have HB14 := Lib.hid (bt HB13.out hb14)
      clear hb14
      go_wp2
      go_roundg (26 - (k + 1)).toNat
      case measure => omega
      case rel => exact ⟨k + 1, by omega, by omega, rfl, rfl, HB14.out⟩
    · go_wp2_with fail
      have HB0 := HB
      clear HB
      go_loopg [4] len (fun g i wr => ∃ k : Nat, k ≤ len ∧ g = len - k ∧ i = .int .i64 k ∧ Below w.heap.size w wr)
      case atStart => exact ⟨0, by omega, by omega, rfl, HB0.out⟩
      case round =>
        obtain ⟨k, hk, rfl, rfl, hb⟩ := hrel
        have HB := Lib.hid hb
        clear hb
        by_cases hlt : k < len
        · obtain ⟨b, off, rfl, hcell⟩ := HR.out.at HB.out hlt
          generalize f k = a at hcell
          go_wp2_with fail
          refine (lettered_any _ _ (HT.out.later HB.out)).mono ?_
          rintro e w1 ⟨rfl, hb1⟩
          have HB1 := Lib.hid (bt HB.out hb1)
          clear hb1
          go_wp2
          go_roundg (len - (k + 1))
          case measure => omega
          case rel => exact ⟨k + 1, by omega, rfl, by go_num, HB1.out⟩
        · go_wp2
          go_ret
          exact ⟨rfl, HB.out⟩
end Go.Proofs.YtiaennaoedikeaaDoor
