/- Contracts: glyph.Class, Conjunct, Word, Width. No condition. -/
import Derived.Test.YtpipcmbfdcbboaaGc
import Derived.KernelRfl
namespace Go.Proofs.Ytpipcmbfdcbboaa
open Go.RowKit
theorem sought_table (s : ByteArray) (t : List Row) (n : Nat) (a : Int) (w : World) (hs : s.size = 11 * n) (hn : n ≤ 1000) (hk : hexOk s.data.toList = true) (ht : rowsC n s.data.toList = t) (hl : t.length = n) :
    Calls Try.prog 69 #[.string s, .int .i64 a] w fun e w' => e = .returned (.int .i64 (sot t a)) ∧ Below w.heap.size w w' :=
  (sought_any s a n w hs hn hk).mono fun e w' ⟨he, hb⟩ => ⟨by rw [he, soughtF_sot ht hl], hb⟩
set_option maxHeartbeats 1000000 in
theorem class_any (a : Int) (w : World) :
    Calls Try.prog 52 #[.int .i64 a] w fun e w' => e = .returned (.int .i64 (classF a)) ∧ Below w.heap.size w w' := by
  by_cases h : scalarB a = true
  · have hfin := Lib.hid (show classF a = if 44032 ≤ a ∧ a < 55204 then (if (a - 44032) % 28 = 0 then 12 else 13) else sot classT a by unfold classF; simp [h])
    have h0 := scalar_bd h
    have h1 := h0.1
    have h2 := h0.2
    clear h0
    by_cases h3 : 44032 ≤ a
    · by_cases h4 : a < 55204
      · by_cases h5 : (a - 44032) % 28 = 0
        · have h6 : ((a - 44032) % 28 == 0) = true := by simp [h5]
          have H5 := Lib.hid h5
          clear h5
          go_enter Try.func52, Try.ntmps52
          generalize ByteArray.mk _ = S
          go_wp2_with fail
          refine (scalar_any _ _).mono ?_
          rintro e w' ⟨rfl, rfl⟩
          go_wp2
          go_ret
          exact ⟨ret_int (by rw [hfin.out, if_pos ⟨h3, h4⟩, if_pos H5.out]), Below.refl _ _⟩
        · have h6 : ((a - 44032) % 28 == 0) = false := by simp [h5]
          have H5 := Lib.hid h5
          clear h5
          go_enter Try.func52, Try.ntmps52
          generalize ByteArray.mk _ = S
          go_wp2_with fail
          refine (scalar_any _ _).mono ?_
          rintro e w' ⟨rfl, rfl⟩
          go_wp2
          go_ret
          exact ⟨ret_int (by rw [hfin.out, if_pos ⟨h3, h4⟩, if_neg H5.out]), Below.refl _ _⟩
      · go_enter Try.func52, Try.ntmps52
        generalize hS : ByteArray.mk _ = S
        have HS := Lib.hid hS
        clear hS
        go_wp2_with fail
        refine (scalar_any _ _).mono ?_
        rintro e w' ⟨rfl, rfl⟩
        go_wp2_with fail
        refine (sought_table S classT 324 a _ (by rw [← HS.out]; kernel_rfl) (by omega) (by rw [← HS.out]; kernel_rfl) (by rw [← HS.out]; kernel_rfl) classT_len).mono ?_
        rintro e w1 ⟨rfl, hb1⟩
        have HB := Lib.hid hb1
        clear hb1
        go_wp2
        go_ret
        exact ⟨ret_int (by rw [hfin.out, if_neg (by omega)]), HB.out⟩
    · go_enter Try.func52, Try.ntmps52
      generalize hS : ByteArray.mk _ = S
      have HS := Lib.hid hS
      clear hS
      go_wp2_with fail
      refine (scalar_any _ _).mono ?_
      rintro e w' ⟨rfl, rfl⟩
      go_wp2_with fail
      refine (sought_table S classT 324 a _ (by rw [← HS.out]; kernel_rfl) (by omega) (by rw [← HS.out]; kernel_rfl) (by rw [← HS.out]; kernel_rfl) classT_len).mono ?_
      rintro e w1 ⟨rfl, hb1⟩
      have HB := Lib.hid hb1
      clear hb1
      go_wp2
      go_ret
      exact ⟨ret_int (by rw [hfin.out, if_neg (by omega)]), HB.out⟩
  · have h' : scalarB a = false := by simpa using h
    have hfin := Lib.hid (show classF a = 3 by unfold classF; simp [h'])
    clear h
    go_enter Try.func52, Try.ntmps52
    generalize ByteArray.mk _ = S
    go_wp2_with fail
    refine (scalar_any _ _).mono ?_
    rintro e w' ⟨rfl, rfl⟩
    go_wp2
    go_ret
    exact ⟨ret_int (by rw [hfin.out]), Below.refl _ _⟩
theorem class_eq (a v : Int) (w : World) (h : classF a = v) :
    Calls Try.prog 52 #[.int .i64 a] w fun e w' => e = .returned (.int .i64 v) ∧ Below w.heap.size w w' := by
  subst h; exact class_any a w
end Go.Proofs.Ytpipcmbfdcbboaa
