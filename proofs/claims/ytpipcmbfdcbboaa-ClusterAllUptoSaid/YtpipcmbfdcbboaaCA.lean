/- Contracts: copyistref3: Next, Snap, Prev, Count, Column, Offset. Condition: fewer than 2^32 atoms. -/
import Derived.Test.YtpipcmbfdcbboaaCwk
namespace Go.Proofs.Ytpipcmbfdcbboaa
open Go.RowKit
theorem rbreaks_c (sa : Option Addr) (len cap : Nat) (f : Nat → Int) (w : World) (hl : len < 4294967295) (hr : IsInts w sa len f) :
    Calls Try.prog 14 #[.slice sa len cap] w fun e w' => ∃ s c, e = .returned (.slice s (bn f len) c) ∧ IsInts w' s (bn f len) (bf f len) ∧ Below w.heap.size w w' := by
  refine (rbreaks_any sa len cap f w hl hr).mono ?_
  rintro e w' ⟨⟨v, rfl, ho⟩, hb⟩
  rw [← lst_bf] at ho
  obtain ⟨s, c, rfl, _, hi⟩ := ho.ints
  exact ⟨s, c, rfl, hi, hb⟩
set_option maxHeartbeats 2000000 in
theorem rnext_any (sa : Option Addr) (len cap : Nat) (f : Nat → Int) (a : Int) (w : World) (hl : len < 4294967295) (hr : IsInts w sa len f) :
    Calls Try.prog 54 #[.slice sa len cap, .int .i64 a] w fun e w' => e = .returned (.int .i64 (nextF f len a)) ∧ Below w.heap.size w w' := by
  have HR := Lib.hid hr
  clear hr
  by_cases ha : a < 0
  · have he : nextF f len a = 0 := by unfold nextF; rw [if_pos ha]
    rw [he]
    clear he
    go_enter Try.func54, Try.ntmps54
    go_wp2
    go_ret
    exact ⟨rfl, Below.refl _ _⟩
  · obtain ⟨p, rfl⟩ : ∃ p : Nat, a = p := ⟨a.toNat, by omega⟩
    obtain ⟨r, hr⟩ : ∃ r, nextF f len (p : Int) = r := ⟨_, rfl⟩
    rw [hr]
    have hr2 : nextN f len (min p len) = r := by rw [← hr]; unfold nextF; rw [if_neg (by omega)]; congr 1
    have HRR := Lib.hid hr2
    clear hr hr2 ha
    go_enter Try.func54, Try.ntmps54
    go_wp2_with fail
    go_loopg [5] (len - p) (fun g i wr => ∃ k : Nat, g = len - k ∧ i = .int .i64 k ∧ p ≤ k ∧ (k ≤ len ∨ k = p) ∧ (∀ j, p < j → j < k → isB f len j = false) ∧ Below w.heap.size w wr)
    case atStart => exact ⟨p, rfl, rfl, Nat.le_refl _, .inr rfl, (fun j h1 h2 => by omega), Below.refl _ _⟩
    case round =>
      obtain ⟨k, rfl, rfl, hpk, hkl, hno, hb⟩ := hrel
      have HNO := Lib.hid hno
      have HB := Lib.hid hb
      clear hno hb
      by_cases hlt : k < len
      · go_wp2_with fail
        refine (risbreak_any sa len cap f k _ (by unfold maxLen; omega) (HR.out.later HB.out)).mono ?_
        rintro e w1 ⟨rfl, hb1⟩
        rw [isF_nat (by omega)]
        replace HB := Lib.hid (bt HB.out hb1)
        clear hb1
        cases hx : isB f len k
        · have HX := Lib.hid hx
          clear hx
          go_wp2
          go_roundg (len - (k + 1))
          case measure => omega
          case rel => exact ⟨k + 1, rfl, by go_num, by omega, by omega, (fun j h1 h2 => (Nat.lt_or_eq_of_le (Nat.lt_succ_iff.1 h2)).elim (fun h => HNO.out j h1 h) (fun h => h ▸ HX.out)), HB.out⟩
        · have HX := Lib.hid hx
          clear hx
          by_cases hkp : p < k
          · have hF : r = k := by
              rw [← HRR.out, show min p len = p from by omega]
              exact nextN_eq hkp (by omega) HX.out HNO.out
            have HF := Lib.hid hF
            clear hF
            go_wp2
            go_ret
            exact ⟨ret_int (by rw [HF.out]), HB.out⟩
          · go_wp2
            go_roundg (len - (k + 1))
            case measure => omega
            case rel => exact ⟨k + 1, rfl, by go_num, by omega, by omega, (fun j h1 h2 => by omega), HB.out⟩
      · have hF : r = len := by
          rw [← HRR.out]
          by_cases hpl : p < len
          · rw [show min p len = p from by omega]
            exact nextN_eq hpl (Nat.le_refl _) (isB_end f len) (fun j h1 h2 => HNO.out j h1 (by omega))
          · rw [show min p len = len from by omega]
            unfold nextN; rw [Nat.sub_self]; rfl
        have HF := Lib.hid hF
        clear hF
        go_wp2
        go_ret
        exact ⟨ret_int (by rw [HF.out]), HB.out⟩
set_option maxHeartbeats 2000000 in
theorem rsnap_any (sa : Option Addr) (len cap : Nat) (f : Nat → Int) (a : Int) (w : World) (hl : len < 4294967295) (hr : IsInts w sa len f) :
    Calls Try.prog 56 #[.slice sa len cap, .int .i64 a] w fun e w' => e = .returned (.int .i64 (snapF f len a)) ∧ Below w.heap.size w w' := by
  have HR := Lib.hid hr
  clear hr
  obtain ⟨r, hr⟩ : ∃ r, snapF f len a = r := ⟨_, rfl⟩
  rw [hr]
  have hr2 : snapN f len (min a.toNat len) = r := hr
  have HRR := Lib.hid hr2
  clear hr hr2
  by_cases ha : (len : Int) < a
  all_goals
    go_enter Try.func56, Try.ntmps56
    go_wp2_with fail
    go_loopg [5] (min a.toNat len) (fun g i wr => ∃ z : Int, g = z.toNat ∧ i = .int .i64 z ∧ z ≤ len ∧ snapN f len z.toNat = snapN f len (min a.toNat len) ∧ Below w.heap.size w wr)
    case atStart => first | exact ⟨len, by omega, rfl, by omega, congrArg _ (by omega), Below.refl _ _⟩ | exact ⟨a, by omega, rfl, by omega, congrArg _ (by omega), Below.refl _ _⟩
    case round =>
      obtain ⟨z, rfl, rfl, hzl, hsn, hb⟩ := hrel
      have HSN := Lib.hid hsn
      have HB := Lib.hid hb
      clear hsn hb
      by_cases hz : 0 < z
      · obtain ⟨k, rfl⟩ : ∃ k : Nat, z = (k : Int) := ⟨z.toNat, by omega⟩
        go_wp2_with fail
        refine (risbreak_any sa len cap f k _ (by unfold maxLen; omega) (HR.out.later HB.out)).mono ?_
        rintro e w1 ⟨rfl, hb1⟩
        rw [isF_nat (by omega)]
        replace HB := Lib.hid (bt HB.out hb1)
        clear hb1
        cases hx : isB f len k
        · have hs2 : snapN f len (k - 1) = snapN f len (min a.toNat len) := by
            rw [← HSN.out]
            obtain ⟨q, rfl⟩ : ∃ q, k = q + 1 := ⟨k - 1, by omega⟩
            show _ = (if isB f len (q + 1) then q + 1 else snapN f len q)
            rw [hx]; rfl
          have HS2 := Lib.hid hs2
          clear hs2 hx
          go_wp2
          go_roundg (k - 1)
          case measure => omega
          case rel => exact ⟨(k : Int) - 1, by omega, rfl, by omega, by rw [show ((k : Int) - 1).toNat = k - 1 from by omega]; exact HS2.out, HB.out⟩
        · have hF : r = k := by
            rw [← HRR.out, ← HSN.out, Int.toNat_natCast]; exact snapN_self.2 hx
          have HF := Lib.hid hF
          clear hF hx
          go_wp2
          go_ret
          exact ⟨ret_int (by rw [HF.out]), HB.out⟩
      · have hF : r = 0 := by
          rw [← HRR.out, ← HSN.out, show z.toNat = 0 from by omega]; rfl
        have HF := Lib.hid hF
        clear hF
        go_wp2
        go_ret
        exact ⟨ret_int (by rw [HF.out]; rfl), HB.out⟩
set_option maxHeartbeats 2000000 in
theorem rprev_any (sa : Option Addr) (len cap : Nat) (f : Nat → Int) (a : Int) (w : World) (hl : len < 4294967295) (hr : IsInts w sa len f) :
    Calls Try.prog 55 #[.slice sa len cap, .int .i64 a] w fun e w' => e = .returned (.int .i64 (prevF f len a)) ∧ Below w.heap.size w w' := by
  have HR := Lib.hid hr
  clear hr
  by_cases h1 : a ≤ 0
  · have he : prevF f len a = 0 := by unfold prevF; rw [if_pos h1]
    rw [he]
    clear he
    go_enter Try.func55, Try.ntmps55
    go_wp2
    go_ret
    exact ⟨rfl, Below.refl _ _⟩
  · by_cases h2 : (len : Int) < a
    · have he : prevF f len a = len := by unfold prevF; rw [if_neg h1, if_pos h2]
      rw [he]
      clear he
      go_enter Try.func55, Try.ntmps55
      go_wp2
      go_ret
      exact ⟨rfl, Below.refl _ _⟩
    · have he : prevF f len a = snapF f len (a - 1) := by unfold prevF; rw [if_neg h1, if_neg h2]
      rw [he]
      clear he
      go_enter Try.func55, Try.ntmps55
      go_wp2_with fail
      refine (rsnap_any sa len cap f _ w hl HR.out).mono ?_
      rintro e w1 ⟨rfl, hb1⟩
      have HB := Lib.hid hb1
      clear hb1
      go_wp2
      go_ret
      exact ⟨rfl, HB.out⟩
set_option maxHeartbeats 2000000 in
theorem rcount_any (sa : Option Addr) (len cap : Nat) (f : Nat → Int) (w : World) (hl : len < 4294967295) (hr : IsInts w sa len f) :
    Calls Try.prog 57 #[.slice sa len cap] w fun e w' => e = .returned (.int .i64 (bounds f len 0).length) ∧ Below w.heap.size w w' := by
  have HR := Lib.hid hr
  clear hr
  have hn : (bounds f len 0).length = bn f len - 1 := by have := cn_bn f len; unfold cn at this; omega
  rw [hn]
  have hbn := bn_bd f len
  have hcast : ((bn f len - 1 : Nat) : Int) = (bn f len : Int) - 1 := by omega
  rw [hcast]
  clear hn hcast
  go_enter Try.func57, Try.ntmps57
  go_wp2_with fail
  refine (rbreaks_c sa len cap f w hl HR.out).mono ?_
  rintro e w1 ⟨s, c, rfl, hi, hb1⟩
  have HB := Lib.hid hb1
  clear hb1 hi
  go_wp2
  go_ret
  exact ⟨rfl, HB.out⟩
def cutL (f : Nat → Int) (a : Int) (k : Nat) : Nat := ((lst f k).filter (fun x => decide (0 < x) && decide (x ≤ a))).length
theorem cutL_le (f : Nat → Int) (a : Int) (k : Nat) : cutL f a k ≤ k := Nat.le_trans (List.length_filter_le _ _) (by rw [lst_len]; exact Nat.le_refl _)
theorem cutL_yes {f : Nat → Int} {a : Int} {k : Nat} (h : 0 < f k) (h2 : f k ≤ a) : cutL f a (k + 1) = cutL f a k + 1 := by
  unfold cutL; rw [filter_yes _ f k (by simp; omega), List.length_append]; rfl
theorem cutL_no {f : Nat → Int} {a : Int} {k : Nat} (h : ¬ (0 < f k ∧ f k ≤ a)) : cutL f a (k + 1) = cutL f a k := by
  unfold cutL; rw [filter_no _ f k (by simp; intro h1; omega)]
theorem cutL_col (f : Nat → Int) (n : Nat) (a : Int) : cutL (bf f n) a (bn f n) = colF f n a := by
  unfold cutL
  rw [lst_bf, allB_bounds, List.map_cons, List.filter_cons, if_neg (by simp), List.filter_map, List.length_map]
  show _ = (List.filter _ _).length
  congr 1
  apply List.filter_congr
  intro k hk
  have := ((bounds_mem (by omega) rfl k).1 hk).1
  simp
  omega
set_option maxHeartbeats 2000000 in
theorem rcolumn_any (sa : Option Addr) (len cap : Nat) (f : Nat → Int) (a : Int) (w : World) (hl : len < 4294967295) (hr : IsInts w sa len f) :
    Calls Try.prog 58 #[.slice sa len cap, .int .i64 a] w fun e w' => e = .returned (.int .i64 (colF f len a)) ∧ Below w.heap.size w w' := by
  have HR := Lib.hid hr
  clear hr
  have hcol := cutL_col f len a
  have HCL := Lib.hid hcol
  have hbn := bn_bd f len
  clear hcol
  go_enter Try.func58, Try.ntmps58
  go_wp2_with fail
  refine (rbreaks_c sa len cap f w hl HR.out).mono ?_
  rintro e w1 ⟨s, c, rfl, hi, hb1⟩
  have HI := Lib.hid hi
  have HB1 := Lib.hid hb1
  clear hb1 hi
  go_wp2_with fail
  go_loopg [5, 7] (bn f len) (fun g nv iv wr => ∃ i m : Nat, i + g = bn f len ∧ m = cutL (bf f len) a i ∧ m ≤ i ∧ nv = .int .i64 m ∧ iv = .int .i64 i ∧ Below w1.heap.size w1 wr)
  case atStart => exact ⟨0, 0, by omega, rfl, Nat.le_refl _, rfl, rfl, Below.refl _ _⟩
  case round =>
    obtain ⟨i, m, hi, hm, hmi, rfl, rfl, hb⟩ := hrel
    have HB := Lib.hid hb
    have HM := Lib.hid hm
    clear hb hm
    by_cases hlt : i < bn f len
    · obtain ⟨b, off, rfl, hcell⟩ := HI.out.at HB.out hlt
      obtain ⟨x, hx⟩ : ∃ x, bf f len i = x := ⟨_, rfl⟩
      rw [hx] at hcell
      by_cases h0 : 0 < x
      · by_cases h1 : x ≤ a
        · have hF : cutL (bf f len) a (i + 1) = cutL (bf f len) a i + 1 := cutL_yes (by omega) (by omega)
          have HF := Lib.hid hF
          clear hF hx
          go_wp2
          go_roundg (gk - 1)
          case measure => omega
          case rel => exact ⟨i + 1, m + 1, by omega, by rw [HF.out, ← HM.out], by omega, by go_num, by go_num, HB.out⟩
        · have hF : cutL (bf f len) a (i + 1) = cutL (bf f len) a i := cutL_no (by omega)
          have HF := Lib.hid hF
          clear hF hx
          go_wp2
          go_roundg (gk - 1)
          case measure => omega
          case rel => exact ⟨i + 1, m, by omega, by rw [HF.out, ← HM.out], by omega, rfl, by go_num, HB.out⟩
      · have hF : cutL (bf f len) a (i + 1) = cutL (bf f len) a i := cutL_no (by omega)
        have HF := Lib.hid hF
        clear hF hx
        go_wp2
        go_roundg (gk - 1)
        case measure => omega
        case rel => exact ⟨i + 1, m, by omega, by rw [HF.out, ← HM.out], by omega, rfl, by go_num, HB.out⟩
    · have hF : colF f len a = m := by rw [← HCL.out, HM.out, show i = bn f len from by omega]
      have HF := Lib.hid hF
      clear hF
      go_wp2
      go_ret
      exact ⟨ret_int (by rw [HF.out]), bt HB1.out HB.out⟩
set_option maxHeartbeats 2000000 in
theorem roffset_any (sa : Option Addr) (len cap : Nat) (f : Nat → Int) (a : Int) (w : World) (hl : len < 4294967295) (hr : IsInts w sa len f) :
    Calls Try.prog 59 #[.slice sa len cap, .int .i64 a] w fun e w' => e = .returned (.int .i64 (offF f len a)) ∧ Below w.heap.size w w' := by
  have HR := Lib.hid hr
  clear hr
  have hbn := bn_bd f len
  have hcn := cn_bn f len
  by_cases h1 : a < 0
  · have he : offF f len a = 0 := by unfold offF; rw [allB_bounds, show min a.toNat (bounds f len 0).length = 0 from by omega]; rfl
    rw [he]
    clear he
    go_enter Try.func59, Try.ntmps59
    go_wp2
    go_ret
    exact ⟨rfl, Below.refl _ _⟩
  · obtain ⟨p, rfl⟩ : ∃ p : Nat, a = p := ⟨a.toNat, by omega⟩
    have hbf : (offF f len (p : Int) : Int) = bf f len (min p (cn f len)) := by
      obtain ⟨h, e⟩ := off_get f len p
      rw [e]
      unfold bf gl
      rw [List.getD_eq_getElem?_getD, List.getElem?_map, show min p (cn f len) = min ((p : Int).toNat) (cn f len) from by omega, List.getElem?_eq_getElem h]; rfl
    rw [hbf]
    by_cases h2 : p < bn f len
    · rw [show min p (cn f len) = p from by omega]
      clear hbf
      go_enter Try.func59, Try.ntmps59
      go_wp2_with fail
      refine (rbreaks_c sa len cap f w hl HR.out).mono ?_
      rintro e w1 ⟨s, c, rfl, hi, hb1⟩
      obtain ⟨b, off, rfl, hcell⟩ := hi.at (Below.refl _ _) h2
      have HB := Lib.hid hb1
      clear hb1 hi
      go_wp2
      go_ret
      exact ⟨rfl, HB.out⟩
    · rw [show min p (cn f len) = bn f len - 1 from by omega, bf_last]
      clear hbf
      go_enter Try.func59, Try.ntmps59
      go_wp2_with fail
      refine (rbreaks_c sa len cap f w hl HR.out).mono ?_
      rintro e w1 ⟨s, c, rfl, hi, hb1⟩
      have HB := Lib.hid hb1
      clear hb1 hi
      go_wp2
      go_ret
      exact ⟨rfl, HB.out⟩
end Go.Proofs.Ytpipcmbfdcbboaa
