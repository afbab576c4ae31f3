/- Contracts: glyph.Conjunct, Word, Width. No condition. -/
import Derived.Test.YtpipcmbfdcbboaaGd
namespace Go.Proofs.Ytpipcmbfdcbboaa
open Go.RowKit
set_option maxHeartbeats 1000000 in
theorem conj_any (a : Int) (w : World) :
    Calls Try.prog 61 #[.int .i64 a] w fun e w' => e = .returned (.int .i64 (conjF a)) ∧ Below w.heap.size w w' := by
  by_cases hL : isLinker a = true
  · have hL' : a = 2381 ∨ a = 2509 ∨ a = 2765 ∨ a = 2893 ∨ a = 3149 ∨ a = 3405 := of_decide_eq_true hL
    clear hL
    rcases hL' with rfl | rfl | rfl | rfl | rfl | rfl
    all_goals
      go_enter Try.func61, Try.ntmps61
      generalize ByteArray.mk _ = S
      go_wp2
      go_ret
      exact ⟨ret_int (by decide +kernel), Below.refl _ _⟩
  · by_cases hz : a = 8204
    · subst hz
      clear hL
      go_enter Try.func61, Try.ntmps61
      generalize ByteArray.mk _ = S
      go_wp2
      go_ret
      exact ⟨ret_int (by decide +kernel), Below.refl _ _⟩
    · have hfin := Lib.hid (show conjF a = if classF a = 4 ∨ classF a = 5 then 2 else if classF a = 0 ∧ scalarB a = true then sot conjT a else 0 by unfold conjF; rw [if_neg hL, if_neg hz])
      have hn : ¬ (a = 2381 ∨ a = 2509 ∨ a = 2765 ∨ a = 2893 ∨ a = 3149 ∨ a = 3405) := fun h => hL (decide_eq_true h)
      have n1 : a ≠ 2381 := by omega
      have n2 : a ≠ 2509 := by omega
      have n3 : a ≠ 2765 := by omega
      have n4 : a ≠ 2893 := by omega
      have n5 : a ≠ 3149 := by omega
      have n6 : a ≠ 3405 := by omega
      clear hn hL
      obtain ⟨c, hc⟩ : ∃ c, classF a = c := ⟨_, rfl⟩
      have HC := Lib.hid hc
      clear hc
      by_cases c4 : c = 4
      · subst c4
        go_enter Try.func61, Try.ntmps61
        generalize ByteArray.mk _ = S
        go_wp2_with fail
        refine (class_eq a 4 _ HC.out).mono ?_
        rintro e w1 ⟨rfl, hb⟩
        have HB := Lib.hid hb
        clear hb
        go_wp2
        go_ret
        exact ⟨ret_int (by rw [hfin.out, HC.out]; rfl), HB.out⟩
      · by_cases c5 : c = 5
        · subst c5
          clear c4
          go_enter Try.func61, Try.ntmps61
          generalize ByteArray.mk _ = S
          go_wp2_with fail
          refine (class_eq a 5 _ HC.out).mono ?_
          rintro e w1 ⟨rfl, hb⟩
          have HB := Lib.hid hb
          clear hb
          go_wp2
          go_ret
          exact ⟨ret_int (by rw [hfin.out, HC.out]; rfl), HB.out⟩
        · by_cases c0 : c = 0
          · subst c0
            clear c4 c5
            by_cases hs : scalarB a = true
            · go_enter Try.func61, Try.ntmps61
              generalize hS : ByteArray.mk _ = S
              have HS := Lib.hid hS
              clear hS
              go_wp2_with fail
              refine (class_eq a 0 _ HC.out).mono ?_
              rintro e w1 ⟨rfl, hb⟩
              have HB := Lib.hid hb
              clear hb
              go_wp2_with fail
              refine (scalar_any _ _).mono ?_
              rintro e w' ⟨rfl, rfl⟩
              go_wp2_with fail
              refine (sought_table S conjT 26 a _ (by rw [← HS.out]; kernel_rfl) (by omega) (by rw [← HS.out]; kernel_rfl) (by rw [← HS.out]; kernel_rfl) conjT_len).mono ?_
              rintro e w2 ⟨rfl, hb2⟩
              have HB2 := Lib.hid (bt HB.out hb2)
              clear hb2
              go_wp2
              go_ret
              exact ⟨ret_int (by rw [hfin.out, HC.out, if_neg (by decide), if_pos ⟨rfl, by assumption⟩]), HB2.out⟩
            · have hs' : scalarB a = false := by simpa using hs
              clear hs
              go_enter Try.func61, Try.ntmps61
              generalize ByteArray.mk _ = S
              go_wp2_with fail
              refine (class_eq a 0 _ HC.out).mono ?_
              rintro e w1 ⟨rfl, hb⟩
              have HB := Lib.hid hb
              clear hb
              go_wp2_with fail
              refine (scalar_any _ _).mono ?_
              rintro e w' ⟨rfl, rfl⟩
              go_wp2
              go_ret
              exact ⟨ret_int (by rw [hfin.out, HC.out, if_neg (by decide), if_neg (by rintro ⟨_, h⟩; rw [hs'] at h; cases h)]), HB.out⟩
          · go_enter Try.func61, Try.ntmps61
            generalize ByteArray.mk _ = S
            go_wp2_with fail
            refine (class_eq a c _ HC.out).mono ?_
            rintro e w1 ⟨rfl, hb⟩
            have HB := Lib.hid hb
            clear hb
            go_wp2
            go_ret
            exact ⟨ret_int (by rw [hfin.out, HC.out, if_neg (by omega), if_neg (by omega)]), HB.out⟩
theorem conj_eq (a v : Int) (w : World) (h : conjF a = v) :
    Calls Try.prog 61 #[.int .i64 a] w fun e w' => e = .returned (.int .i64 v) ∧ Below w.heap.size w w' := by
  subst h; exact conj_any a w
end Go.Proofs.Ytpipcmbfdcbboaa
