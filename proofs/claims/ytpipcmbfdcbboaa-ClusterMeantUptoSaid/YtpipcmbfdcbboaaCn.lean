/- The walk of ClusterMeant. Condition: fewer than 2^20 members. -/
import Derived.Test.YtpipcmbfdcbboaaCm
namespace Go.Proofs.Ytpipcmbfdcbboaa
open Go.RowKit
def c10 (_ : Nat) : Int := 10
theorem edge {f : Nat → Int} {n k : Nat} (h0 : 0 < k) (hk : k ≤ n) (hc : classF (f (k - 1)) = 2 ∨ classF (f (k - 1)) = 3) : isB f n k = true := by
  by_cases e : k = n
  · rw [e]; exact isB_end f n
  · exact sure_brk h0 (by omega) (.inl (by unfold apartB; exact decide_eq_true (by omega))) (by omega)
theorem class_ten : classF 10 = 2 := by decide +kernel
theorem lst_ten (f : Nat → Int) (n : Nat) : lst f n ++ [10] = lst (cat f n c10) (n + 1) := by
  rw [lst_cat]; rfl
/-- the whole list: head, a line's end, a row, tail -/
def wh (fh : Nat → Int) (nh : Nat) (r : Nat → Int) (m : Nat) (ft : Nat → Int) : Nat → Int := cat (cat (cat fh nh c10) (nh + 1) r) (nh + 1 + m) ft
theorem wh_ten (fh : Nat → Int) (nh : Nat) (r : Nat → Int) (m : Nat) (ft : Nat → Int) : wh fh nh r m ft nh = 10 := by
  unfold wh cat; rw [if_pos (by omega), if_pos (by omega), if_neg (by omega)]; rfl
theorem wh_row (fh : Nat → Int) (nh : Nat) (r : Nat → Int) (m : Nat) (ft : Nat → Int) (i : Nat) (hi : i < m) : wh fh nh r m ft (i + (nh + 1)) = r i := by
  unfold wh cat; rw [if_pos (by omega), if_neg (by omega), show i + (nh + 1) - (nh + 1) = i from by omega]
theorem wh_lead (fh : Nat → Int) (nh : Nat) (r : Nat → Int) (m : Nat) (ft : Nat → Int) (nt : Nat) : isB (wh fh nh r m ft) (nh + 1 + m + nt) (nh + 1) = true :=
  edge (by omega) (by omega) (by rw [show nh + 1 - 1 = nh from rfl, wh_ten, class_ten]; exact .inl rfl)
theorem wh_in {fh : Nat → Int} {nh : Nat} {r : Nat → Int} {m : Nat} {ft : Nat → Int} {nt i : Nat} (h0 : 0 < i) (hi : i < m) : isB (wh fh nh r m ft) (nh + 1 + m + nt) (nh + 1 + i) = brkB (fun j => wh fh nh r m ft (j + (nh + 1))) i := by
  have hl := wh_lead fh nh r m ft nt
  rw [isB_brk (by omega)] at hl
  rw [isB_brk (by omega), brkB_cut hl, show i + (nh + 1) = nh + 1 + i from by omega]
theorem lone_class (n : Nat) (hn : n ≤ 64) : classF (-1 - (n : Int)) = 3 ∧ classF (55296 + 31 * (n : Int)) = 3 := by
  constructor
  · unfold classF; rw [if_pos (by unfold scalarB; simp; omega)]
  · unfold classF; rw [if_pos (by unfold scalarB; simp; omega)]
theorem box_ints {w : World} {b : Nat} {x : Int} (h : IsBox w b 3 (.int .i64 x)) : IsInts w (some ⟨b, 0, none⟩) 1 (fun _ => x) :=
  .inr ⟨b, 0, rfl, heap_lt h, fun i hi => by rw [show i = 0 from by omega]; exact h.cell.1⟩
set_option maxHeartbeats 8000000 in
theorem lawmeant_any (sh : Option Addr) (nh ch : Nat) (fh : Nat → Int) (kd n : Int) (st : Option Addr) (nt ct : Nat) (ft : Nat → Int) (w : World) (hlh : nh < 1048577) (hh : IsInts w sh nh fh) (hlt : nt < 1048577) (ht : IsInts w st nt ft) :
    Calls Try.prog 7 #[.slice sh nh ch, .int .i64 kd, .int .i64 n, .slice st nt ct] w fun e w' => e = .returned (.bool true) ∧ Below w.heap.size w w' := by
  have HIh := Lib.hid hh
  have HIt := Lib.hid ht
  have HB := Lib.hid (Below.refl w.heap.size w)
  clear hh ht
  obtain ⟨i0, hi, hz0, hz1, hz2⟩ := info_parts Try.infoInt
  by_cases g : n < 0
  · go_enter Try.func7, Try.ntmps7
    go_wp2
    go_ret
    exact ⟨rfl, HB.out⟩
  by_cases g2 : 64 < n
  · go_enter Try.func7, Try.ntmps7
    go_wp2
    go_ret
    exact ⟨rfl, HB.out⟩
  by_cases g3 : kd < 0
  · go_enter Try.func7, Try.ntmps7
    go_wp2
    go_ret
    exact ⟨rfl, HB.out⟩
  by_cases g4 : 8 < kd
  · go_enter Try.func7, Try.ntmps7
    go_wp2
    go_ret
    exact ⟨rfl, HB.out⟩
  obtain ⟨m, rfl⟩ : ∃ m : Nat, n = m := ⟨n.toNat, by omega⟩
  have hm64 : m ≤ 64 := by omega
  clear g g2
  by_cases h8 : kd = 8
  · subst h8
    clear g3 g4
    have HCL := Lib.hid (lone_class m hm64)
    cases hpar : ((m : Int) % 2 == 1)
    · go_enter Try.func7, Try.ntmps7
      go_wp2_with fail
      refine (copied_c sh nh ch fh _ (by omega) (HIh.out.later HB.out)).mono ?_
      rintro e w0 ⟨sC, cC, rfl, hi, hc, ho, hb⟩
      have HO0 := Lib.hid ho
      have hbw : w.heap.size ≤ w0.heap.size := hb.size
      replace HB := Lib.hid (bt HB.out hb)
      clear hi hc ho hb
      have hF : lst fh nh ++ [10] = lst (cat fh nh c10) (nh + 1) := lst_ten fh nh
      have HF := Lib.hid hF
      clear hF
      go_wp2_with (first | (at_builtin; refine wpList_append_own _ rfl _ _ 22 rfl w.heap.size 3 i0 (.int .i64 0) 1 8 Try.underlying22 hi hz0 hz1 hz2 rfl (by decide) _ _ _ rfl (HO0.out.alloc _) ⟨w0.heap.size, 0, none⟩ 1 1 [.int .i64 10] rfl rfl (cell_one_new _ _ _) (ints_oneCell _ [10]) (by rw [lst_len]; unfold maxLen; omega) (by rw [lst_len]; omega) (by simp; omega) ?_; intro v' w1 hown' hgrow _; obtain ⟨hp1, hp2, hp3, s', n2, c', rfl, hn2⟩ := own_push2 HO0.out hown' hgrow hbw; have HM := Lib.hid hn2; have HP := Lib.hid (OwnInts.as hp1 HF.out); have HB2 := Lib.hid (HB.out.trans hp2); clear hp1 hp2 hp3 hn2 hown' hgrow))
      obtain ⟨s2, c2, hv, _, hi2⟩ := HP.out.ints
      obtain ⟨rfl, rfl, rfl⟩ := Value.slice.inj hv
      have HIL := Lib.hid hi2
      replace HB := HB2
      clear hi2 HP HM HF HO0 hbw hv
      have HIo := Lib.hid (box_ints (IsBox.new w1 3 (.int .i64 (-1 - (m : Int)))))
      replace HIL := Lib.hid (HIL.out.later ((Below.refl _ _).alloc (Nat.le_refl _) (.cells #[.int .i64 (-1 - (m : Int))] 3)))
      replace HB := Lib.hid (bt HB.out ((Below.refl _ _).alloc (Nat.le_refl _) (.cells #[.int .i64 (-1 - (m : Int))] 3)))
      go_wp2_with fail
      refine (joined_c s' _ (nh + 1) c' 1 1 (cat fh nh c10) (fun _ => -1 - (m : Int)) _ (by omega) HIL.out HIo.out).mono ?_
      rintro e w31 ⟨sJ, cJ, rfl, hi, hc, ho, hb⟩
      have HIJ := Lib.hid hi
      replace HIL := Lib.hid (HIL.out.later hb)
      replace HIo := Lib.hid (HIo.out.later hb)
      replace HB := Lib.hid (bt HB.out hb)
      clear hb hi hc ho
      clear HIL
      clear HIo
      go_wp2_with fail
      refine (joined_c sJ st ((nh + 1) + 1) cJ nt ct (cat (cat fh nh c10) (nh + 1) (fun _ => -1 - (m : Int))) ft _ (by omega) HIJ.out (Lib.hid (HIt.out.later HB.out)).out).mono ?_
      rintro e w32 ⟨sa, ca, rfl, hi, hc, ho, hb⟩
      have HIa := Lib.hid hi
      replace HIJ := Lib.hid (HIJ.out.later hb)
      replace HB := Lib.hid (bt HB.out hb)
      clear hb hi hc ho
      clear HIJ
      go_wp2_with fail
      refine (copied_c sa (((nh + 1) + 1) + nt) ca (cat (cat (cat fh nh c10) (nh + 1) (fun _ => -1 - (m : Int))) ((nh + 1) + 1) ft) _ (by omega) HIa.out).mono ?_
      rintro e w33 ⟨sq, cq, rfl, hi, hc, ho, hb⟩
      have HIq := Lib.hid hi
      replace HIa := Lib.hid (HIa.out.later hb)
      replace HB := Lib.hid (bt HB.out hb)
      clear hb hi hc ho
      go_wp2_with fail
      refine (breaks_c sq (((nh + 1) + 1) + nt) cq (cat (cat (cat fh nh c10) (nh + 1) (fun _ => -1 - (m : Int))) ((nh + 1) + 1) ft) _ (by omega) HIq.out).mono ?_
      rintro e w34 ⟨sx, cx, rfl, hi, ho, hb⟩
      have HIx := Lib.hid hi
      replace HIa := Lib.hid (HIa.out.later hb)
      replace HIq := Lib.hid (HIq.out.later hb)
      replace HB := Lib.hid (bt HB.out hb)
      clear hb hi ho
      clear HIq
      go_wp2_with fail
      refine (ends_c sx cx (((nh + 1) + 1) + nt) (cat (cat (cat fh nh c10) (nh + 1) (fun _ => -1 - (m : Int))) ((nh + 1) + 1) ft) _ (by omega) HIx.out).mono ?_
      rintro e w35 ⟨rfl, hb⟩
      replace HIa := Lib.hid (HIa.out.later hb)
      replace HIx := Lib.hid (HIx.out.later hb)
      replace HB := Lib.hid (bt HB.out hb)
      clear hb
      clear HIx
      have hL1 : isF (wh fh nh (fun _ => -1 - (m : Int)) 1 ft) (nh + 1 + 1 + nt) ((nh + 1 : Nat) : Int) = true := by rw [isF_nat (by omega)]; exact wh_lead _ _ _ _ _ _
      have hL2 : isF (wh fh nh (fun _ => -1 - (m : Int)) 1 ft) (nh + 1 + 1 + nt) ((nh + 1 + 1 : Nat) : Int) = true := by rw [isF_nat (by omega)]; exact edge (by omega) (by omega) (.inr (by rw [show nh + 1 + 1 - 1 = 0 + (nh + 1) from by omega, wh_row _ _ _ _ _ 0 (by omega)]; exact HCL.out.1))
      rw [show ((nh + 1 : Nat) : Int) = (nh : Int) + 1 from by omega] at hL1
      rw [show ((nh + 1 + 1 : Nat) : Int) = (nh : Int) + 1 + 1 from by omega] at hL2
      have HL1 := Lib.hid hL1
      have HL2 := Lib.hid hL2
      clear hL1 hL2
      go_wp2_with fail
      refine (isbreak_any sa (nh + 1 + 1 + nt) ca (wh fh nh (fun _ => -1 - (m : Int)) 1 ft) ((nh : Int) + 1) _ (by unfold maxLen; omega) HIa.out).mono ?_
      rintro e w36 ⟨rfl, hb⟩
      rw [HL1.out]
      replace HIa := Lib.hid (HIa.out.later hb)
      replace HB := Lib.hid (bt HB.out hb)
      clear hb
      go_wp2_with fail
      refine (isbreak_any sa (nh + 1 + 1 + nt) ca (wh fh nh (fun _ => -1 - (m : Int)) 1 ft) ((nh : Int) + 1 + 1) _ (by unfold maxLen; omega) HIa.out).mono ?_
      rintro e w37 ⟨rfl, hb⟩
      rw [HL2.out]
      replace HIa := Lib.hid (HIa.out.later hb)
      replace HB := Lib.hid (bt HB.out hb)
      clear hb
      go_wp2
      go_ret
      exact ⟨rfl, HB.out⟩
    · go_enter Try.func7, Try.ntmps7
      go_wp2_with fail
      refine (copied_c sh nh ch fh _ (by omega) (HIh.out.later HB.out)).mono ?_
      rintro e w0 ⟨sC, cC, rfl, hi, hc, ho, hb⟩
      have HO0 := Lib.hid ho
      have hbw : w.heap.size ≤ w0.heap.size := hb.size
      replace HB := Lib.hid (bt HB.out hb)
      clear hi hc ho hb
      have hF : lst fh nh ++ [10] = lst (cat fh nh c10) (nh + 1) := lst_ten fh nh
      have HF := Lib.hid hF
      clear hF
      go_wp2_with (first | (at_builtin; refine wpList_append_own _ rfl _ _ 22 rfl w.heap.size 3 i0 (.int .i64 0) 1 8 Try.underlying22 hi hz0 hz1 hz2 rfl (by decide) _ _ _ rfl (HO0.out.alloc _) ⟨w0.heap.size, 0, none⟩ 1 1 [.int .i64 10] rfl rfl (cell_one_new _ _ _) (ints_oneCell _ [10]) (by rw [lst_len]; unfold maxLen; omega) (by rw [lst_len]; omega) (by simp; omega) ?_; intro v' w1 hown' hgrow _; obtain ⟨hp1, hp2, hp3, s', n2, c', rfl, hn2⟩ := own_push2 HO0.out hown' hgrow hbw; have HM := Lib.hid hn2; have HP := Lib.hid (OwnInts.as hp1 HF.out); have HB2 := Lib.hid (HB.out.trans hp2); clear hp1 hp2 hp3 hn2 hown' hgrow))
      obtain ⟨s2, c2, hv, _, hi2⟩ := HP.out.ints
      obtain ⟨rfl, rfl, rfl⟩ := Value.slice.inj hv
      have HIL := Lib.hid hi2
      replace HB := HB2
      clear hi2 HP HM HF HO0 hbw hv
      have HIo := Lib.hid (box_ints (IsBox.new w1 3 (.int .i64 (55296 + 31 * (m : Int)))))
      replace HIL := Lib.hid (HIL.out.later ((Below.refl _ _).alloc (Nat.le_refl _) (.cells #[.int .i64 (55296 + 31 * (m : Int))] 3)))
      replace HB := Lib.hid (bt HB.out ((Below.refl _ _).alloc (Nat.le_refl _) (.cells #[.int .i64 (55296 + 31 * (m : Int))] 3)))
      go_wp2_with fail
      refine (joined_c s' _ (nh + 1) c' 1 1 (cat fh nh c10) (fun _ => 55296 + 31 * (m : Int)) _ (by omega) HIL.out HIo.out).mono ?_
      rintro e w31 ⟨sJ, cJ, rfl, hi, hc, ho, hb⟩
      have HIJ := Lib.hid hi
      replace HIL := Lib.hid (HIL.out.later hb)
      replace HIo := Lib.hid (HIo.out.later hb)
      replace HB := Lib.hid (bt HB.out hb)
      clear hb hi hc ho
      clear HIL
      clear HIo
      go_wp2_with fail
      refine (joined_c sJ st ((nh + 1) + 1) cJ nt ct (cat (cat fh nh c10) (nh + 1) (fun _ => 55296 + 31 * (m : Int))) ft _ (by omega) HIJ.out (Lib.hid (HIt.out.later HB.out)).out).mono ?_
      rintro e w32 ⟨sa, ca, rfl, hi, hc, ho, hb⟩
      have HIa := Lib.hid hi
      replace HIJ := Lib.hid (HIJ.out.later hb)
      replace HB := Lib.hid (bt HB.out hb)
      clear hb hi hc ho
      clear HIJ
      go_wp2_with fail
      refine (copied_c sa (((nh + 1) + 1) + nt) ca (cat (cat (cat fh nh c10) (nh + 1) (fun _ => 55296 + 31 * (m : Int))) ((nh + 1) + 1) ft) _ (by omega) HIa.out).mono ?_
      rintro e w33 ⟨sq, cq, rfl, hi, hc, ho, hb⟩
      have HIq := Lib.hid hi
      replace HIa := Lib.hid (HIa.out.later hb)
      replace HB := Lib.hid (bt HB.out hb)
      clear hb hi hc ho
      go_wp2_with fail
      refine (breaks_c sq (((nh + 1) + 1) + nt) cq (cat (cat (cat fh nh c10) (nh + 1) (fun _ => 55296 + 31 * (m : Int))) ((nh + 1) + 1) ft) _ (by omega) HIq.out).mono ?_
      rintro e w34 ⟨sx, cx, rfl, hi, ho, hb⟩
      have HIx := Lib.hid hi
      replace HIa := Lib.hid (HIa.out.later hb)
      replace HIq := Lib.hid (HIq.out.later hb)
      replace HB := Lib.hid (bt HB.out hb)
      clear hb hi ho
      clear HIq
      go_wp2_with fail
      refine (ends_c sx cx (((nh + 1) + 1) + nt) (cat (cat (cat fh nh c10) (nh + 1) (fun _ => 55296 + 31 * (m : Int))) ((nh + 1) + 1) ft) _ (by omega) HIx.out).mono ?_
      rintro e w35 ⟨rfl, hb⟩
      replace HIa := Lib.hid (HIa.out.later hb)
      replace HIx := Lib.hid (HIx.out.later hb)
      replace HB := Lib.hid (bt HB.out hb)
      clear hb
      clear HIx
      have hL1 : isF (wh fh nh (fun _ => 55296 + 31 * (m : Int)) 1 ft) (nh + 1 + 1 + nt) ((nh + 1 : Nat) : Int) = true := by rw [isF_nat (by omega)]; exact wh_lead _ _ _ _ _ _
      have hL2 : isF (wh fh nh (fun _ => 55296 + 31 * (m : Int)) 1 ft) (nh + 1 + 1 + nt) ((nh + 1 + 1 : Nat) : Int) = true := by rw [isF_nat (by omega)]; exact edge (by omega) (by omega) (.inr (by rw [show nh + 1 + 1 - 1 = 0 + (nh + 1) from by omega, wh_row _ _ _ _ _ 0 (by omega)]; exact HCL.out.2))
      rw [show ((nh + 1 : Nat) : Int) = (nh : Int) + 1 from by omega] at hL1
      rw [show ((nh + 1 + 1 : Nat) : Int) = (nh : Int) + 1 + 1 from by omega] at hL2
      have HL1 := Lib.hid hL1
      have HL2 := Lib.hid hL2
      clear hL1 hL2
      go_wp2_with fail
      refine (isbreak_any sa (nh + 1 + 1 + nt) ca (wh fh nh (fun _ => 55296 + 31 * (m : Int)) 1 ft) ((nh : Int) + 1) _ (by unfold maxLen; omega) HIa.out).mono ?_
      rintro e w36 ⟨rfl, hb⟩
      rw [HL1.out]
      replace HIa := Lib.hid (HIa.out.later hb)
      replace HB := Lib.hid (bt HB.out hb)
      clear hb
      go_wp2_with fail
      refine (isbreak_any sa (nh + 1 + 1 + nt) ca (wh fh nh (fun _ => 55296 + 31 * (m : Int)) 1 ft) ((nh : Int) + 1 + 1) _ (by unfold maxLen; omega) HIa.out).mono ?_
      rintro e w37 ⟨rfl, hb⟩
      rw [HL2.out]
      replace HIa := Lib.hid (HIa.out.later hb)
      replace HB := Lib.hid (bt HB.out hb)
      clear hb
      go_wp2
      go_ret
      exact ⟨rfl, HB.out⟩
  · have b8 : (kd == 8) = false := by simpa using h8
    go_enter Try.func7, Try.ntmps7
    go_wp2_with fail
    refine (copied_c sh nh ch fh _ (by omega) (HIh.out.later HB.out)).mono ?_
    rintro e w0 ⟨sC, cC, rfl, hi, hc, ho, hb⟩
    have HO0 := Lib.hid ho
    have hbw : w.heap.size ≤ w0.heap.size := hb.size
    replace HB := Lib.hid (bt HB.out hb)
    clear hi hc ho hb
    have hF : lst fh nh ++ [10] = lst (cat fh nh c10) (nh + 1) := lst_ten fh nh
    have HF := Lib.hid hF
    clear hF
    go_wp2_with (first | (at_builtin; refine wpList_append_own _ rfl _ _ 22 rfl w.heap.size 3 i0 (.int .i64 0) 1 8 Try.underlying22 hi hz0 hz1 hz2 rfl (by decide) _ _ _ rfl (HO0.out.alloc _) ⟨w0.heap.size, 0, none⟩ 1 1 [.int .i64 10] rfl rfl (cell_one_new _ _ _) (ints_oneCell _ [10]) (by rw [lst_len]; unfold maxLen; omega) (by rw [lst_len]; omega) (by simp; omega) ?_; intro v' w1 hown' hgrow _; obtain ⟨hp1, hp2, hp3, s', n2, c', rfl, hn2⟩ := own_push2 HO0.out hown' hgrow hbw; have HM := Lib.hid hn2; have HP := Lib.hid (OwnInts.as hp1 HF.out); have HB2 := Lib.hid (HB.out.trans hp2); clear hp1 hp2 hp3 hn2 hown' hgrow))
    obtain ⟨s2, c2, hv, _, hi2⟩ := HP.out.ints
    obtain ⟨rfl, rfl, rfl⟩ := Value.slice.inj hv
    have HIL := Lib.hid hi2
    replace HB := HB2
    clear hi2 HP HM HF HO0 hbw hv
    refine (meant_any kd m _ (by omega) (by omega) (by omega)).mono ?_
    rintro e w2 ⟨sR, cR, mR, hm, rfl, hi, hb⟩
    have HIR := Lib.hid hi
    replace HIL := Lib.hid (HIL.out.later hb)
    replace HB := Lib.hid (bt HB.out hb)
    have hmR : mR ≤ 64 := by have := mrow_len kd m (by omega); omega
    have HM := Lib.hid hm
    clear hi hb hm
    go_wp2_with fail
    refine (joined_c s' sR (nh + 1) c' mR cR (cat fh nh c10) (gl (mrow kd m)) _ (by omega) HIL.out HIR.out).mono ?_
    rintro e w31 ⟨sJ, cJ, rfl, hi, hc, ho, hb⟩
    have HIJ := Lib.hid hi
    replace HIL := Lib.hid (HIL.out.later hb)
    replace HIR := Lib.hid (HIR.out.later hb)
    replace HB := Lib.hid (bt HB.out hb)
    clear hb hi hc ho
    clear HIL
    clear HIR
    go_wp2_with fail
    refine (joined_c sJ st ((nh + 1) + mR) cJ nt ct (cat (cat fh nh c10) (nh + 1) (gl (mrow kd m))) ft _ (by omega) HIJ.out (Lib.hid (HIt.out.later HB.out)).out).mono ?_
    rintro e w32 ⟨sa, ca, rfl, hi, hc, ho, hb⟩
    have HIa := Lib.hid hi
    replace HIJ := Lib.hid (HIJ.out.later hb)
    replace HB := Lib.hid (bt HB.out hb)
    clear hb hi hc ho
    clear HIJ
    go_wp2_with fail
    refine (copied_c sa (((nh + 1) + mR) + nt) ca (cat (cat (cat fh nh c10) (nh + 1) (gl (mrow kd m))) ((nh + 1) + mR) ft) _ (by omega) HIa.out).mono ?_
    rintro e w33 ⟨sq, cq, rfl, hi, hc, ho, hb⟩
    have HIq := Lib.hid hi
    replace HIa := Lib.hid (HIa.out.later hb)
    replace HB := Lib.hid (bt HB.out hb)
    clear hb hi hc ho
    go_wp2_with fail
    refine (breaks_c sq (((nh + 1) + mR) + nt) cq (cat (cat (cat fh nh c10) (nh + 1) (gl (mrow kd m))) ((nh + 1) + mR) ft) _ (by omega) HIq.out).mono ?_
    rintro e w34 ⟨sx, cx, rfl, hi, ho, hb⟩
    have HIx := Lib.hid hi
    replace HIa := Lib.hid (HIa.out.later hb)
    replace HIq := Lib.hid (HIq.out.later hb)
    replace HB := Lib.hid (bt HB.out hb)
    clear hb hi ho
    clear HIq
    go_wp2_with fail
    refine (ends_c sx cx (((nh + 1) + mR) + nt) (cat (cat (cat fh nh c10) (nh + 1) (gl (mrow kd m))) ((nh + 1) + mR) ft) _ (by omega) HIx.out).mono ?_
    rintro e w35 ⟨rfl, hb⟩
    replace HIa := Lib.hid (HIa.out.later hb)
    replace HIx := Lib.hid (HIx.out.later hb)
    replace HB := Lib.hid (bt HB.out hb)
    clear hb
    clear HIx
    have hL1 : isF (wh fh nh (gl (mrow kd m)) mR ft) (nh + 1 + mR + nt) ((nh + 1 : Nat) : Int) = true := by rw [isF_nat (by omega)]; exact wh_lead _ _ _ _ _ _
    rw [show ((nh + 1 : Nat) : Int) = (nh : Int) + 1 from by omega] at hL1
    have HL1 := Lib.hid hL1
    clear hL1
    go_wp2_with fail
    refine (isbreak_any sa (nh + 1 + mR + nt) ca (wh fh nh (gl (mrow kd m)) mR ft) ((nh : Int) + 1) _ (by unfold maxLen; omega) HIa.out).mono ?_
    rintro e w36 ⟨rfl, hb⟩
    rw [HL1.out]
    replace HIa := Lib.hid (HIa.out.later hb)
    replace HB := Lib.hid (bt HB.out hb)
    clear hb
    go_wp2_with fail
    go_loopg [16] (mR - 1) (fun g i wr => ∃ k : Nat, 1 ≤ k ∧ g = mR - k ∧ k ≤ mR + 1 ∧ i = .int .i64 k ∧ IsInts wr sa (nh + 1 + mR + nt) (wh fh nh (gl (mrow kd m)) mR ft) ∧ Below w.heap.size w wr)
    case atStart => exact ⟨1, by omega, rfl, by omega, rfl, HIa.out, HB.out⟩
    case round =>
      obtain ⟨k, hk1, rfl, hk2, rfl, hia, hbb⟩ := hrel
      replace HIa := Lib.hid hia
      replace HB := Lib.hid hbb
      clear hia hbb
      by_cases hlt : k < mR
      · have hF : isF (wh fh nh (gl (mrow kd m)) mR ft) (nh + 1 + mR + nt) ((nh + 1 + k : Nat) : Int) = ((kd == 5) && ((k : Int) % 2 == 0)) := by
          have hm := HM.out
          rw [isF_nat (by omega), wh_in (by omega) hlt, mrow_brk (k := kd) (n := (m : Int)) (fun i hi => wh_row fh nh (gl (mrow kd m)) mR ft i (by omega)) (by omega) k (by omega) (by omega)]
          rw [Bool.eq_iff_iff]; simp; omega
        rw [show ((nh + 1 + k : Nat) : Int) = (nh : Int) + 1 + (k : Int) from by omega] at hF
        cases b5 : (kd == 5) <;> cases b2 : ((k : Int) % 2 == 0)
        all_goals
          have hF2 := hF
          rw [b5, b2] at hF2
          have HF := Lib.hid hF2
          clear hF hF2
          go_wp2_with fail
          refine (isbreak_any sa (nh + 1 + mR + nt) ca (wh fh nh (gl (mrow kd m)) mR ft) ((nh : Int) + 1 + (k : Int)) _ (by unfold maxLen; omega) HIa.out).mono ?_
          rintro e w5 ⟨rfl, hb⟩
          rw [HF.out]
          replace HIa := Lib.hid (HIa.out.later hb)
          replace HB := Lib.hid (bt HB.out hb)
          clear hb
          go_wp2
          go_roundg (mR - (k + 1))
          case measure => omega
          case rel => exact ⟨k + 1, by omega, rfl, by omega, by go_num, HIa.out, HB.out⟩
      · cases b0 : (kd == 0)
        · have b0' : (kd != 0) = true := by simpa using b0
          go_wp2
          go_ret
          exact ⟨rfl, HB.out⟩
        · have b0' : (kd != 0) = false := by simpa using b0
          have hF : isF (wh fh nh (gl (mrow kd m)) mR ft) (nh + 1 + mR + nt) ((nh + 1 + 2 : Nat) : Int) = true := by
            have hm := HM.out
            have hk0 : kd = 0 := by simpa using b0
            rw [hk0] at hm ⊢
            have hrow : mrow 0 (m : Int) = [13, 10] := by unfold mrow; simp
            rw [hrow] at hm ⊢
            have hm2 : mR = 2 := hm
            rw [isF_nat (by omega)]
            exact edge (by omega) (by omega) (by rw [show nh + 1 + 2 - 1 = 1 + (nh + 1) from by omega, wh_row _ _ _ _ _ 1 (by omega)]; exact .inl class_ten)
          rw [show ((nh + 1 + 2 : Nat) : Int) = (nh : Int) + 1 + 2 from by omega] at hF
          have HF := Lib.hid hF
          clear hF
          go_wp2_with fail
          refine (isbreak_any sa (nh + 1 + mR + nt) ca (wh fh nh (gl (mrow kd m)) mR ft) ((nh : Int) + 1 + 2) _ (by unfold maxLen; omega) HIa.out).mono ?_
          rintro e w5 ⟨rfl, hb⟩
          rw [HF.out]
          replace HB := Lib.hid (bt HB.out hb)
          clear hb
          go_wp2
          go_ret
          exact ⟨rfl, HB.out⟩
end Go.Proofs.Ytpipcmbfdcbboaa
