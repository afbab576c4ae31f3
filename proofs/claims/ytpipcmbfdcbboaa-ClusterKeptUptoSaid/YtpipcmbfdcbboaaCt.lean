/- Contracts: copyistref3.Breaks, and the walk of ClusterBreaks. Condition: fewer than 2^32 atoms. -/
import Derived.Test.YtpipcmbfdcbboaaCs
namespace Go.Proofs.Ytpipcmbfdcbboaa
open Go.RowKit
def upB (f : Nat → Int) (n k : Nat) : List Int := ((List.range k).filter (isB f n)).map Int.ofNat
theorem upB_yes {f : Nat → Int} {n k : Nat} (h : isB f n k = true) : upB f n (k + 1) = upB f n k ++ [(k : Int)] := by
  unfold upB; rw [List.range_succ, List.filter_append, List.filter_cons, if_pos h, List.map_append]; rfl
theorem upB_no {f : Nat → Int} {n k : Nat} (h : isB f n k = false) : upB f n (k + 1) = upB f n k := by
  unfold upB; rw [List.range_succ, List.filter_append, List.filter_cons, if_neg (by rw [h]; decide), List.filter_nil, List.append_nil]
theorem upB_len (f : Nat → Int) (n k : Nat) : (upB f n k).length ≤ k := by
  unfold upB; rw [List.length_map]; exact Nat.le_trans (List.length_filter_le _ _) (by simp)
theorem isF_nat {f : Nat → Int} {n k : Nat} (h : k ≤ n) : isF f n (k : Int) = isB f n k := by
  unfold isF; rw [decide_eq_true (by omega), decide_eq_true (by omega)]; simp
theorem stG_congr {f g : Nat → Int} : ∀ k, (∀ i, i ≤ k → f i = g i) → stG f k = stG g k := by
  intro k
  induction k with
  | zero => intro h; unfold stG; rw [h 0 (Nat.le_refl _)]
  | succ k ih => intro h; rw [stG_succ, stG_succ, ih (fun i hi => h i (by omega)), h (k + 1) (Nat.le_refl _)]
theorem brkB_congr {f g : Nat → Int} (k : Nat) (h : ∀ i, i ≤ k → f i = g i) : brkB f k = brkB g k := by
  cases k with
  | zero => rfl
  | succ k => rw [brk_succ, brk_succ, stG_congr k (fun i hi => h i (by omega)), h (k + 1) (Nat.le_refl _)]
theorem isB_congr {f g : Nat → Int} (n k : Nat) (h : ∀ i, i < n → f i = g i) : isB f n k = isB g n k := by
  unfold isB
  by_cases hk : k < n
  · rw [brkB_congr k (fun i hi => h i (by omega))]
  · rw [decide_eq_false hk]; rfl
theorem allB_congr {f g : Nat → Int} (n : Nat) (h : ∀ i, i < n → f i = g i) : allB f n = allB g n := by
  unfold allB; exact List.filter_congr (fun k _ => isB_congr n k h)
set_option maxHeartbeats 1000000 in
theorem rbreaks_any (sa : Option Addr) (len cap : Nat) (f : Nat → Int) (w : World) (hl : len < 4294967295) (hr : IsInts w sa len f) :
    Calls Try.prog 14 #[.slice sa len cap] w fun e w' => (∃ v, e = .returned v ∧ OwnInts w' w.heap.size v ((allB f len).map Int.ofNat)) ∧ Below w.heap.size w w' := by
  obtain ⟨i0, hi, hz0, hz1, hz2⟩ := info_parts Try.infoInt
  have HR := Lib.hid hr
  clear hr
  go_enter Try.func14, Try.ntmps14
  go_wp2_with fail
  go_loopg [3, 4] (len + 1) (fun g v i wr => ∃ k : Nat, ∃ sl : Option Addr, ∃ n' c : Nat, k + g = len + 1 ∧ n' = (upB f len k).length ∧ v = .slice sl n' c ∧ i = .int .i64 k ∧ OwnInts wr w.heap.size (.slice sl n' c) (upB f len k) ∧ Below w.heap.size w wr)
  case atStart => exact ⟨0, none, 0, 0, by omega, rfl, rfl, rfl, OwnInts.nil _ _, Below.refl _ _⟩
  case round =>
    obtain ⟨k, sl, n', c, hk, hn, rfl, rfl, ho, hb⟩ := hrel
    have HO := Lib.hid ho
    have HB := Lib.hid hb
    have hnk : n' ≤ k := by have := upB_len f len k; omega
    have HN := Lib.hid hn
    clear ho hb hn
    by_cases hlt : k < len + 1
    · go_wp2_with fail
      refine (risbreak_any sa len cap f k _ (by unfold maxLen; omega) (HR.out.later HB.out)).mono ?_
      rintro e w1 ⟨rfl, hb1⟩
      rw [isF_nat (by omega)]
      have HO1 := Lib.hid (HO.out.later hb1)
      have HB1 := Lib.hid (bt HB.out hb1)
      have hbw : w.heap.size ≤ w1.heap.size := HB1.out.size
      clear hb1
      cases hx : isB f len k
      · have hL : upB f len (k + 1) = upB f len k := upB_no hx
        have HL := Lib.hid hL
        clear hL hx
        go_wp2
        go_roundg (gk - 1)
        case measure => omega
        case rel => exact ⟨k + 1, sl, n', c, by omega, by rw [HL.out]; exact HN.out, rfl, by go_num, by rw [HL.out]; exact HO1.out, HB1.out⟩
      · have hL : upB f len (k + 1) = upB f len k ++ [(k : Int)] := upB_yes hx
        have HL := Lib.hid hL
        clear hL hx
        go_wp2_with (first | (at_builtin; refine wpList_append_own _ rfl _ _ 22 rfl w.heap.size 3 i0 (.int .i64 0) 1 8 Try.underlying22 hi hz0 hz1 hz2 rfl (by decide) _ _ _ rfl (HO1.out.alloc _) ⟨w1.heap.size, 0, none⟩ 1 1 [.int .i64 k] rfl rfl (cell_one_new _ _ _) (ints_oneCell _ [k]) (by rw [← HN.out]; unfold maxLen; omega) (by rw [← HN.out]; omega) (by simp; omega) ?_; intro v' w1 hown' hgrow _; obtain ⟨hp1, hp2, hp3, s', n2, c', rfl, hn2⟩ := own_push2 HO1.out hown' hgrow hbw; have HM := Lib.hid hn2; have HP := Lib.hid (OwnInts.as hp1 HL.out.symm); have HB2 := Lib.hid (HB1.out.trans hp2); clear hp1 hp2 hp3 hn2 hown' hgrow))
        go_wp2
        go_roundg (gk - 1)
        case measure => omega
        case rel => exact ⟨k + 1, _, _, _, by omega, by rw [HL.out, List.length_append]; exact HM.out, rfl, by go_num, HP.out, HB2.out⟩
    · have hE : upB f len k = (allB f len).map Int.ofNat := by rw [show k = len + 1 from by omega]; rfl
      have HE := Lib.hid hE
      clear hE
      go_wp2
      go_ret
      exact ⟨⟨_, rfl, OwnInts.as HO.out HE.out⟩, HB.out⟩
set_option maxHeartbeats 1000000 in
theorem lawbreaks_any (sa : Option Addr) (len cap : Nat) (f : Nat → Int) (w : World) (hl : len < 4294967295) (hr : IsInts w sa len f) :
    Calls Try.prog 3 #[.slice sa len cap] w fun e w' => e = .returned (.bool true) ∧ Below w.heap.size w w' := by
  have HR := Lib.hid hr
  clear hr
  go_enter Try.func3, Try.ntmps3
  go_wp2_with fail
  refine (copied_any sa len cap f _ (by omega) HR.out).mono ?_
  rintro e w1 ⟨⟨v, rfl, ho⟩, hb1⟩
  obtain ⟨sb, n, cb, rfl, hn, hi⟩ := ho.shape
  rw [lst_len] at hn
  subst hn
  have HI := Lib.hid hi
  have HB1 := Lib.hid hb1
  clear ho hi hb1
  go_wp2_with fail
  refine (breaks_any sb n cb _ _ hl HI.out).mono ?_
  rintro e w2 ⟨⟨v, rfl, ho⟩, hb2⟩
  rw [show allB (fun i => (lst f n).getD i 0) n = allB f n from allB_congr n (fun i hi => lst_getD f n i hi)] at ho
  obtain ⟨sc, m, cc, rfl, hm, hi⟩ := ho.shape
  have HI2 := Lib.hid hi
  have HM := Lib.hid hm
  have HB2 := Lib.hid (bt HB1.out hb2)
  clear ho hi hb2 HI HB1 hm
  go_wp2_with fail
  refine (rbreaks_any sa n cap f _ hl (HR.out.later HB2.out)).mono ?_
  rintro e w3 ⟨⟨v, rfl, ho⟩, hb3⟩
  obtain ⟨sd, m', cd, rfl, hm', hi⟩ := ho.shape
  have HI3 := Lib.hid (HI2.out.later hb3)
  have HI4 := Lib.hid hi
  have HB3 := Lib.hid (bt HB2.out hb3)
  have hm := HM.out
  have hlm : m = m' := hm.trans hm'.symm
  subst hlm
  have hm32 : m < 4294967296 := by
    rw [hm, List.length_map, allB_bounds, List.length_cons]
    have := bounds_length f n 0 (by omega) rfl; omega
  clear ho hi hb3 HI2 HB2 hm hm' HM
  go_wp2_with fail
  refine (same_any sc sd m cc m cd _ _ _ (by unfold maxLen; omega) (by unfold maxLen; omega) HI3.out HI4.out).mono ?_
  rintro e w4 ⟨rfl, hb4⟩
  rw [sameB_refl]
  have HB4 := Lib.hid (bt HB3.out hb4)
  clear hb4
  go_wp2
  go_ret
  exact ⟨rfl, HB4.out⟩
end Go.Proofs.Ytpipcmbfdcbboaa
