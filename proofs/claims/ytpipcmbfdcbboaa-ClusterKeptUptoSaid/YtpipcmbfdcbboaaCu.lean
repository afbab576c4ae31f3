/- Contracts: joined and ends of the statements of chapter 3. Condition: fewer than 2^32 members. -/
import Derived.Test.YtpipcmbfdcbboaaCt
namespace Go.Proofs.Ytpipcmbfdcbboaa
open Go.RowKit
theorem app_lst (f g : Nat → Int) (n k : Nat) : lst f n ++ lst g (k + 1) = (lst f n ++ lst g k) ++ [g k] := by rw [lst_succ, List.append_assoc]
set_option maxHeartbeats 1000000 in
theorem joined_any (sa sb : Option Addr) (len cap m capb : Nat) (f g : Nat → Int) (w : World) (hl : len + m < 4294967296) (hr : IsInts w sa len f) (hs : IsInts w sb m g) :
    Calls Try.prog 16 #[.slice sa len cap, .slice sb m capb] w fun e w' => (∃ v, e = .returned v ∧ OwnInts w' w.heap.size v (lst f len ++ lst g m)) ∧ Below w.heap.size w w' := by
  obtain ⟨i0, hi, hz0, hz1, hz2⟩ := info_parts Try.infoInt
  have HR := Lib.hid hr
  have HS := Lib.hid hs
  clear hr hs
  go_enter Try.func16, Try.ntmps16
  go_wp2_with fail
  refine (copied_any sa len cap f _ (by omega) HR.out).mono ?_
  rintro e w1 ⟨⟨v, rfl, ho⟩, hb1⟩
  obtain ⟨sc, n, cc, rfl, hn, _⟩ := ho.shape
  rw [lst_len] at hn
  subst hn
  have HO0 := Lib.hid ho
  have HB0 := Lib.hid hb1
  clear ho hb1
  go_wp2_with fail
  go_loopg [5, 6] m (fun gg v i wr => ∃ k : Nat, ∃ sl : Option Addr, ∃ n' c : Nat, k + gg = m ∧ n' = (lst f n ++ lst g k).length ∧ v = .slice sl n' c ∧ i = .int .i64 k ∧ OwnInts wr w.heap.size (.slice sl n' c) (lst f n ++ lst g k) ∧ Below w.heap.size w wr)
  case atStart => exact ⟨0, sc, n, cc, by omega, by rw [List.length_append, lst_len, lst_len]; omega, rfl, rfl, OwnInts.as HO0.out (by show _ = _ ++ []; rw [List.append_nil]), HB0.out⟩
  case round =>
    obtain ⟨k, sl, n', c, hk, hn, rfl, rfl, ho, hb⟩ := hrel
    have HO := Lib.hid ho
    have HB := Lib.hid hb
    have hbw : w.heap.size ≤ wr.heap.size := hb.size
    have hnk : n' = n + k := by rw [hn, List.length_append, lst_len, lst_len]
    have HN := Lib.hid hn
    have HNK := Lib.hid hnk
    clear ho hb hn hnk
    by_cases hlt : k < m
    · obtain ⟨b, off, rfl, hcell⟩ := HS.out.at HB.out hlt
      obtain ⟨x, hx⟩ : ∃ x, g k = x := ⟨_, rfl⟩
      rw [hx] at hcell
      have hF : (lst f n ++ lst g k) ++ [x] = lst f n ++ lst g (k + 1) := by rw [app_lst, hx]
      have HF := Lib.hid hF
      clear hx hF
      go_wp2_with (first | (at_builtin; refine wpList_append_own _ rfl _ _ 22 rfl w.heap.size 3 i0 (.int .i64 0) 1 8 Try.underlying22 hi hz0 hz1 hz2 rfl (by decide) _ _ _ rfl (HO.out.alloc _) ⟨wr.heap.size, 0, none⟩ 1 1 [.int .i64 x] rfl rfl (cell_one_new _ _ _) (ints_oneCell _ [x]) (by rw [← HN.out, HNK.out]; unfold maxLen; omega) (by rw [← HN.out, HNK.out]; omega) (by simp; omega) ?_; intro v' w1 hown' hgrow _; obtain ⟨hp1, hp2, hp3, s', n2, c', rfl, hn2⟩ := own_push2 HO.out hown' hgrow hbw; have HM := Lib.hid hn2; have HP := Lib.hid (OwnInts.as hp1 HF.out); have HB2 := Lib.hid (HB.out.trans hp2); clear hp1 hp2 hp3 hn2 hown' hgrow))
      go_wp2
      go_roundg (gk - 1)
      case measure => omega
      case rel => exact ⟨k + 1, _, _, _, by omega, by rw [← HF.out, List.length_append]; exact HM.out, rfl, by go_num, HP.out, HB2.out⟩
    · have hkm : k = m := by omega
      subst hkm
      go_wp2
      go_ret
      exact ⟨⟨_, rfl, HO.out⟩, HB.out⟩
set_option maxHeartbeats 2000000 in
theorem ends_any (sa : Option Addr) (len cap : Nat) (f : Nat → Int) (n : Int) (w : World) (hl : len < 4294967296) (hr : IsInts w sa len f) (h0 : 0 < len) (hf0 : f 0 = 0) (hfn : f (len - 1) = n) (hup : ∀ i, i + 1 < len → f i < f (i + 1)) :
    Calls Try.prog 17 #[.slice sa len cap, .int .i64 n] w fun e w' => e = .returned (.bool true) ∧ Below w.heap.size w w' := by
  have HR := Lib.hid hr
  have HU := Lib.hid hup
  clear hr hup
  obtain ⟨b, off, rfl, hcell⟩ := HR.out.at (Below.refl _ _) h0
  obtain ⟨b1, off1, hab, hcell'⟩ := HR.out.at (Below.refl _ _) (show len - 1 < len by omega)
  cases hab
  rw [hf0] at hcell
  rw [hfn] at hcell'
  have hz : ((len : Int) == 0) = false := by simp; omega
  obtain ⟨q, rfl⟩ : ∃ q, len = q + 1 := ⟨len - 1, by omega⟩
  have hz2 : ((q : Int) + 1 == 0) = false := by simp; omega
  rw [Nat.add_zero] at hcell
  rw [show off + (q + 1 - 1) = off + q from by omega] at hcell'
  clear hf0 hfn
  go_enter Try.func17, Try.ntmps17
  go_wp2_with fail
  clear hcell hcell'
  go_loopg [5] q (fun gg i wr => ∃ k : Nat, k + gg = q + 1 ∧ 1 ≤ k ∧ i = .int .i64 k ∧ Below w.heap.size w wr)
  case atStart => exact ⟨1, by omega, by omega, rfl, Below.refl _ _⟩
  case round =>
    obtain ⟨k, hk, hk1, rfl, hb⟩ := hrel
    have HB := Lib.hid hb
    clear hb
    by_cases hlt : k < q + 1
    · obtain ⟨j, rfl⟩ : ∃ j, k = j + 1 := ⟨k - 1, by omega⟩
      obtain ⟨b1, off1, hab, hcell⟩ := HR.out.at HB.out hlt
      cases hab
      obtain ⟨b1, off1, hab, hcell'⟩ := HR.out.at HB.out (show j < q + 1 by omega)
      cases hab
      have hxy := HU.out j (by omega)
      generalize f (j + 1) = x at hcell hxy
      generalize f j = y at hcell' hxy
      have HB0 := HB.out
      have q0 : (0 : Int) ≤ (j : Int) := by omega
      have q1 : (0 : Int) ≤ (j : Int) + 1 := by omega
      have q2 : (j : Int) + 1 < ((q + 1 : Nat) : Int) := by omega
      have q3 : (j : Int) < ((q + 1 : Nat) : Int) := by omega
      have q4 : (j : Int) + 1 < (q : Int) + 1 := by omega
      have q5 : (j : Int) < (q : Int) + 1 := by omega
      have q6 : IntKind.i64.wrap (j : Int) = (j : Int) := by rw [IntKind.wrap_i64]; omega
      have q7 : j < q := by omega
      have q8 : (j : Int) < (q : Int) := by omega
      have q9 : ¬ x ≤ y := by omega
      go_wp2_with fail
      go_region_held3 (fun w' => w'.cell? ⟨b, off + (j + 1), none⟩ = some (.int .i64 x) ∧ w'.cell? ⟨b, off + j, none⟩ = some (.int .i64 y) ∧ Below w.heap.size w w')
        (first | exact ⟨hcell, hcell', HB0.drew⟩ | go_keep) (fail)
      rename_i hheld
      have HH := Lib.hid hheld.2.2
      clear hheld HB0 hcell hcell' q6
      go_wp2
      go_roundg (gk - 1)
      case measure => omega
      case rel => exact ⟨j + 1 + 1, by omega, by omega, by go_num, HH.out⟩
    · go_wp2
      go_ret
      exact ⟨rfl, HB.out⟩
end Go.Proofs.Ytpipcmbfdcbboaa
