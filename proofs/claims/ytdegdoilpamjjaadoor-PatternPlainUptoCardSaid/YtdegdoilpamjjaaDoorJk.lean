/- Contracts: glyph.Word, and the five kinds of the pattern (letters a kind takes). Condition: the tables of glyph stand in memory (great and small letters). -/
import Derived.Test.YtdegdoilpamjjaaDoorJb
import Derived.Test.YtdegdoilpamjjaaDoorJe
import Derived.Test.YtdegdoilpamjjaaDoorUb
namespace Go.Proofs.YtdegdoilpamjjaaDoor
open Go.RowKit
set_option linter.unusedVariables false
set_option linter.unusedSimpArgs false
set_option maxHeartbeats 1000000 in
theorem word_any (a : Int) (w : World) :
    Calls Tryd.prog 89 #[.int .i64 a] w fun e w' => e = .returned (.int .i64 (wordF a)) ∧ Below w.heap.size w w' := by
  by_cases hs : scalarB a = true
  · have hfin := Lib.hid (show wordF a = if sot wordT a = 2 then 2 else if sot wordT a = 1 then 0 else 1 by unfold wordF; rw [if_neg (by rw [hs]; decide)])
    obtain ⟨c, hc⟩ : ∃ c, sot wordT a = c := ⟨_, rfl⟩
    have HC := Lib.hid hc
    clear hc
    go_enter Tryd.func89, Tryd.ntmps89
    generalize hS : ByteArray.mk _ = S
    have HS := Lib.hid hS
    clear hS
    go_wp2_with fail
    refine (scalar_any _ _).mono ?_
    rintro e w' ⟨rfl, rfl⟩
    go_wp2_with fail
    refine (sought_table S wordT 81 a _ (by rw [← HS.out]; kernel_rfl) (by omega) (by rw [← HS.out]; kernel_rfl) (by rw [← HS.out]; kernel_rfl) wordT_len).mono ?_
    rintro e w2 ⟨rfl, hb2⟩
    have HB2 := Lib.hid hb2
    clear hb2
    rw [HC.out]
    by_cases c2 : c = 2
    · subst c2
      go_wp2
      go_ret
      exact ⟨ret_int (by rw [hfin.out, HC.out]; rfl), HB2.out⟩
    · by_cases c1 : c = 1
      · subst c1
        clear c2
        go_wp2
        go_ret
        exact ⟨ret_int (by rw [hfin.out, HC.out]; rfl), HB2.out⟩
      · go_wp2
        go_ret
        exact ⟨ret_int (by rw [hfin.out, HC.out, if_neg c2, if_neg c1]), HB2.out⟩
  · have hs' : scalarB a = false := by simpa using hs
    clear hs
    have hfin := Lib.hid (show wordF a = 1 by unfold wordF; rw [if_pos hs'])
    go_enter Tryd.func89, Tryd.ntmps89
    generalize ByteArray.mk _ = S
    go_wp2_with fail
    refine (scalar_any _ _).mono ?_
    rintro e w' ⟨rfl, rfl⟩
    go_wp2
    go_ret
    exact ⟨ret_int (by rw [hfin.out]), Below.refl _ _⟩
theorem word_eq (a v : Int) (w : World) (h : wordF a = v) :
    Calls Tryd.prog 89 #[.int .i64 a] w fun e w' => e = .returned (.int .i64 v) ∧ Below w.heap.size w w' := by
  subst h; exact word_any a w
/-- the program's letters -/
def G0 : GlyD := ⟨wordF, upperF, lowerF⟩
theorem kind1_c (a : Int) (w : World) : Calls Tryd.prog 95 #[.int .i64 a] w fun e w' => e = .returned (.bool (kindP G0 100 a)) ∧ w' = w := by
  have hk : kindP G0 100 a = decide (48 ≤ a ∧ a ≤ 57) := by unfold kindP; rw [if_pos rfl]
  rw [hk]
  clear hk
  by_cases h1 : 48 ≤ a
  · by_cases h2 : a ≤ 57
    · have H1 := Lib.hid h1
      have H2 := Lib.hid h2
      have d1 : decide (48 ≤ a) = true := decide_eq_true h1
      have d2 : decide (a ≤ 57) = true := decide_eq_true h2
      rw [decide_eq_true ⟨h1, h2⟩]
      go_enter Tryd.func95, Tryd.ntmps95
      go_wp2
      go_ret
      exact ⟨rfl, rfl⟩
    · have d1 : decide (48 ≤ a) = true := decide_eq_true h1
      have d2 : decide (a ≤ 57) = false := decide_eq_false h2
      rw [decide_eq_false (fun h => h2 h.2)]
      go_enter Tryd.func95, Tryd.ntmps95
      go_wp2
      go_ret
      exact ⟨rfl, rfl⟩
  · have d1 : decide (48 ≤ a) = false := decide_eq_false h1
    rw [decide_eq_false (fun h => h1 h.1)]
    go_enter Tryd.func95, Tryd.ntmps95
    go_wp2
    go_ret
    exact ⟨rfl, rfl⟩
theorem kind2_c (a : Int) (w : World) : Calls Tryd.prog 96 #[.int .i64 a] w fun e w' => e = .returned (.bool (kindP G0 115 a)) ∧ w' = w := by
  have hk : kindP G0 115 a = decide (a = 32 ∨ a = 9) := by unfold kindP; rw [if_neg (by decide), if_pos rfl]
  rw [hk]
  clear hk
  by_cases h1 : a = 32
  · subst h1
    go_enter Tryd.func96, Tryd.ntmps96
    go_wp2
    go_ret
    exact ⟨rfl, rfl⟩
  · by_cases h2 : a = 9
    · subst h2
      go_enter Tryd.func96, Tryd.ntmps96
      go_wp2
      go_ret
      exact ⟨rfl, rfl⟩
    · have n1 : (a == 32) = false := by rw [beq_eq_false_iff_ne]; exact h1
      have n2 : (a == 9) = false := by rw [beq_eq_false_iff_ne]; exact h2
      rw [decide_eq_false (fun h => h.elim h1 h2)]
      go_enter Tryd.func96, Tryd.ntmps96
      go_wp2
      go_ret
      exact ⟨rfl, rfl⟩
theorem kind3_c (a : Int) (w : World) : Calls Tryd.prog 97 #[.int .i64 a] w fun e w' => e = .returned (.bool (kindP G0 119 a)) ∧ Below w.heap.size w w' := by
  obtain ⟨v, hv⟩ : ∃ v, wordF a = v := ⟨_, rfl⟩
  have hk : kindP G0 119 a = decide (v = 2) := by subst hv; unfold kindP; rw [if_neg (by decide), if_neg (by decide), if_pos rfl]; rfl
  rw [hk]
  clear hk
  have HV := Lib.hid hv
  clear hv
  by_cases h2 : v = 2
  · subst h2
    go_enter Tryd.func97, Tryd.ntmps97
    go_wp2_with fail
    refine (word_eq a 2 _ HV.out).mono ?_
    rintro e w1 ⟨rfl, hb1⟩
    have HB1 := Lib.hid hb1
    clear hb1
    go_wp2
    go_ret
    exact ⟨rfl, HB1.out⟩
  · have n2 : (v == 2) = false := by rw [beq_eq_false_iff_ne]; exact h2
    rw [decide_eq_false h2]
    go_enter Tryd.func97, Tryd.ntmps97
    go_wp2_with fail
    refine (word_eq a v _ HV.out).mono ?_
    rintro e w1 ⟨rfl, hb1⟩
    have HB1 := Lib.hid hb1
    clear hb1
    go_wp2
    go_ret
    exact ⟨rfl, HB1.out⟩
theorem kind4_c (a : Int) (w : World) (ht : Tabs w) : Calls Tryd.prog 98 #[.int .i64 a] w fun e w' => e = .returned (.bool (kindP G0 108 a)) ∧ Below w.heap.size w w' := by
  have hU := upper_any a w ht
  obtain ⟨v, hv⟩ : ∃ v, upperF a = v := ⟨_, rfl⟩
  rw [hv] at hU
  have hk : kindP G0 108 a = decide (v ≠ a) := by subst hv; unfold kindP; rw [if_neg (by decide)]; rw [if_neg (by decide)]; rw [if_neg (by decide)]; rw [if_pos rfl]; rfl
  rw [hk]
  clear hk hv ht
  have HU := Lib.hid hU
  clear hU
  by_cases h2 : v = a
  · subst h2
    rw [decide_eq_false (fun h => h rfl)]
    go_enter Tryd.func98, Tryd.ntmps98
    go_wp2_with fail
    refine HU.out.mono ?_
    rintro e w1 ⟨rfl, hb1⟩
    have HB1 := Lib.hid hb1
    clear hb1
    go_wp2
    go_ret
    exact ⟨rfl, HB1.out⟩
  · have n2 : (v != a) = true := bne_iff_ne.2 h2
    rw [decide_eq_true h2]
    go_enter Tryd.func98, Tryd.ntmps98
    go_wp2_with fail
    refine HU.out.mono ?_
    rintro e w1 ⟨rfl, hb1⟩
    have HB1 := Lib.hid hb1
    clear hb1
    go_wp2
    go_ret
    exact ⟨rfl, HB1.out⟩
theorem kind5_c (a : Int) (w : World) (ht : Tabs w) : Calls Tryd.prog 99 #[.int .i64 a] w fun e w' => e = .returned (.bool (kindP G0 117 a)) ∧ Below w.heap.size w w' := by
  have hU := lower_any a w ht
  obtain ⟨v, hv⟩ : ∃ v, lowerF a = v := ⟨_, rfl⟩
  rw [hv] at hU
  have hk : kindP G0 117 a = decide (v ≠ a) := by subst hv; unfold kindP; rw [if_neg (by decide)]; rw [if_neg (by decide)]; rw [if_neg (by decide)]; rw [if_neg (by decide)]; rfl
  rw [hk]
  clear hk hv ht
  have HU := Lib.hid hU
  clear hU
  by_cases h2 : v = a
  · subst h2
    rw [decide_eq_false (fun h => h rfl)]
    go_enter Tryd.func99, Tryd.ntmps99
    go_wp2_with fail
    refine HU.out.mono ?_
    rintro e w1 ⟨rfl, hb1⟩
    have HB1 := Lib.hid hb1
    clear hb1
    go_wp2
    go_ret
    exact ⟨rfl, HB1.out⟩
  · have n2 : (v != a) = true := bne_iff_ne.2 h2
    rw [decide_eq_true h2]
    go_enter Tryd.func99, Tryd.ntmps99
    go_wp2_with fail
    refine HU.out.mono ?_
    rintro e w1 ⟨rfl, hb1⟩
    have HB1 := Lib.hid hb1
    clear hb1
    go_wp2
    go_ret
    exact ⟨rfl, HB1.out⟩
end Go.Proofs.YtdegdoilpamjjaaDoor
