/- Contract: glyph.sought. Conditions: the text is rows of eleven hexadecimal letters, at most a thousand. -/
import Derived.Test.YtdegdoilpamjjaaDoorGb
namespace Go.Proofs.YtdegdoilpamjjaaDoor
open Go.RowKit
theorem num_row (s : ByteArray) (m a b : Nat) (w : World) (hb : b ≤ 11) (hab : a ≤ b) (h5 : b - a ≤ 5) (hm : 11 * (m + 1) ≤ s.size) (hk : hexOk s.data.toList = true) :
    Calls Tryd.prog 104 #[.string ((s.extract (m * 11) ((m + 1) * 11)).extract a b)] w fun e w' =>
      e = .returned (.int .i64 (hexN ((s.data.toList.drop (m * 11 + a)).take (b - a)))) ∧ Below w.heap.size w w' := by
  refine (number_any _ w (by rw [row_sub_size s m a b hb hab hm]; exact h5) (by rw [row_sub s m a b hb]; exact hexOk_take (hexOk_drop hk _) _)).mono ?_
  rintro e w' ⟨rfl, rfl⟩
  rw [row_sub s m a b hb]
  exact ⟨rfl, (Below.refl _ _).alloc (Nat.le_refl _) _⟩
theorem num_fst (s : ByteArray) (m : Nat) (w : World) (hm : 11 * (m + 1) ≤ s.size) (hk : hexOk s.data.toList = true) :
    Calls Tryd.prog 104 #[.string ((s.extract (m * 11) ((m + 1) * 11)).extract 0 5)] w fun e w' =>
      e = .returned (.int .i64 (rowFst s.data.toList m)) ∧ Below w.heap.size w w' :=
  num_row s m 0 5 w (by omega) (by omega) (by omega) hm hk
theorem num_lst (s : ByteArray) (m : Nat) (w : World) (hm : 11 * (m + 1) ≤ s.size) (hk : hexOk s.data.toList = true) :
    Calls Tryd.prog 104 #[.string ((s.extract (m * 11) ((m + 1) * 11)).extract 5 10)] w fun e w' =>
      e = .returned (.int .i64 (rowLst s.data.toList m)) ∧ Below w.heap.size w w' :=
  num_row s m 5 10 w (by omega) (by omega) (by omega) hm hk
theorem num_num (s : ByteArray) (m : Nat) (w : World) (hm : 11 * (m + 1) ≤ s.size) (hk : hexOk s.data.toList = true) :
    Calls Tryd.prog 104 #[.string ((s.extract (m * 11) ((m + 1) * 11)).extract 10 11)] w fun e w' =>
      e = .returned (.int .i64 (rowNum s.data.toList m)) ∧ Below w.heap.size w w' :=
  num_row s m 10 11 w (by omega) (by omega) (by omega) hm hk
set_option maxHeartbeats 400000 in
theorem sought_any (s : ByteArray) (a : Int) (n : Nat) (w : World) (hs : s.size = 11 * n) (hn : n ≤ 1000) (hk : hexOk s.data.toList = true) :
    Calls Tryd.prog 100 #[.string s, .int .i64 a] w fun e w' => e = .returned (.int .i64 (soughtF n s.data.toList a 0 n)) ∧ Below w.heap.size w w' := by
  have HK := Lib.hid hk
  clear hk
  have hs1 : s.size ≤ 11 * n := by omega
  have hs2 : 11 * n ≤ s.size := by omega
  clear hs
  go_enter Tryd.func100, Tryd.ntmps100
  go_wp2
  go_loopg [5, 6] n (fun g lo hi wr => ∃ l h f : Nat, l ≤ h ∧ h ≤ n ∧ g = h - l ∧ h - l ≤ f ∧ soughtF f s.data.toList a l h = soughtF n s.data.toList a 0 n ∧ Below w.heap.size w wr ∧ lo = .int .i64 l ∧ hi = .int .i64 h)
  case atStart => exact ⟨0, n, n, by omega, by omega, by omega, by omega, rfl, Below.refl _ _, rfl, by rw [show (s.size : Int) / 11 = n from by omega]⟩
  case round =>
    obtain ⟨l, h, f, h1, h2, rfl, h3, h4, hb, rfl, rfl⟩ := hrel
    have H4 := Lib.hid h4
    have HB := Lib.hid hb
    clear h4 hb
    by_cases hlt : l < h
    · have hm : 11 * ((l + h) / 2 + 1) ≤ s.size := by omega
      go_wp2_with fail
      refine (num_fst s ((l + h) / 2) _ hm HK.out).mono ?_
      rintro e w1 ⟨rfl, hb1⟩
      have HB1 := Lib.hid (HB.out.trans (hb1.mono HB.out.size))
      clear hb1
      obtain ⟨f, rfl⟩ : ∃ f', f = f' + 1 := ⟨f - 1, by omega⟩
      go_wp2_with fail
      · have h5 : a < rowFst s.data.toList ((l + h) / 2) := by assumption
        go_roundg ((l + h) / 2 - l)
        case measure => omega
        case rel =>
          refine ⟨l, (l + h) / 2, f, by omega, by omega, rfl, by omega, ?_, HB1.out, rfl, rfl⟩
          rw [← H4.out, soughtF, if_pos hlt, if_pos h5]
      · have h5 : rowFst s.data.toList ((l + h) / 2) ≤ a := by assumption
        refine (num_lst s ((l + h) / 2) _ hm HK.out).mono ?_
        rintro e w2 ⟨rfl, hb2⟩
        have HB2 := Lib.hid (HB1.out.trans (hb2.mono HB1.out.size))
        clear hb2
        go_wp2_with fail
        · have h6 : rowLst s.data.toList ((l + h) / 2) < a := by assumption
          go_roundg (h - ((l + h) / 2 + 1))
          case measure => omega
          case rel =>
            refine ⟨(l + h) / 2 + 1, h, f, by omega, by omega, rfl, by omega, ?_, HB2.out, by go_num, rfl⟩
            rw [← H4.out, soughtF, if_pos hlt, if_neg (Int.not_lt.2 h5), if_pos h6]
        · have h6 : a ≤ rowLst s.data.toList ((l + h) / 2) := by assumption
          rw [show min (((l + h) / 2 + 1) * 11) s.size - (l + h) / 2 * 11 = 11 from by omega]
          refine (num_num s ((l + h) / 2) _ hm HK.out).mono ?_
          rintro e w3 ⟨rfl, hb3⟩
          have HB3 := Lib.hid (HB2.out.trans (hb3.mono HB2.out.size))
          clear hb3
          go_wp2
          go_ret
          exact ⟨ret_int (by rw [← H4.out, soughtF, if_pos hlt, if_neg (Int.not_lt.2 h5), if_neg (Int.not_lt.2 h6)]), HB3.out⟩
    · go_wp2
      go_ret
      exact ⟨ret_int (by rw [← H4.out, soughtF_end _ _ _ _ _ hlt]), HB.out⟩
end Go.Proofs.YtdegdoilpamjjaaDoor
