/- Contracts: the lists that the statements of chapter 3 make. Condition: fewer than 2^32 members. -/
import Derived.Test.YtpipcmbfdcbboaaCh
namespace Go.Proofs.Ytpipcmbfdcbboaa
open Go.RowKit
/-- the members of a list that came in -/
def lst (f : Nat → Int) (n : Nat) : List Int := (List.range n).map f
theorem lst_succ (f : Nat → Int) (n : Nat) : lst f (n + 1) = lst f n ++ [f n] := by unfold lst; rw [List.range_succ, List.map_append]; rfl
theorem lst_len (f : Nat → Int) (n : Nat) : (lst f n).length = n := by simp [lst]
theorem lst_get (l : List Int) : lst (fun i => l.getD i 0) l.length = l := by
  apply List.ext_getElem
  · simp [lst]
  · intro i h1 h2
    simp [lst, List.getElem?_eq_getElem h2]
theorem lst_congr {f g : Nat → Int} {n : Nat} (h : ∀ i, i < n → f i = g i) : lst f n = lst g n := by
  unfold lst; apply List.map_congr_left; intro i hi; exact h i (List.mem_range.1 hi)
theorem lst_getD (f : Nat → Int) (n i : Nat) (h : i < n) : (lst f n).getD i 0 = f i := by
  rw [List.getD_eq_getElem?_getD, List.getElem?_eq_getElem (by rw [lst_len]; exact h)]; simp [lst]
theorem lst_ext {f g : Nat → Int} {n : Nat} (h : lst f n = lst g n) (i : Nat) (hi : i < n) : f i = g i := by
  rw [← lst_getD f n i hi, ← lst_getD g n i hi, h]
theorem own_push2 {w w1 : World} {base : Nat} {v v' : Value} {l : List Int} {k : Int} (ho : OwnInts w base v l)
    (hown : w1.ownsRow base 3 1 v' (l.length + 1) (l.map (Value.int .i64) ++ [.int .i64 k])) (hgrow : (w.alloc (.cells #[.int .i64 k] 3)).grownBy w1 v.ownBlock) (hbase : base ≤ w.heap.size) :
    OwnInts w1 base v' (l ++ [k]) ∧ Below base w w1 ∧ (∀ b t u, IsBox w b t u → t ≠ 3 → IsBox w1 b t u) ∧ ∃ s n c, v' = .slice s n c ∧ n = l.length + 1 := by
  obtain ⟨h1, h2, h3, s, c, h4⟩ := own_push ho hown hgrow hbase
  exact ⟨h1, h2, h3, s, _, c, h4, rfl⟩
set_option maxHeartbeats 1000000 in
theorem copied_any (sa : Option Addr) (len cap : Nat) (f : Nat → Int) (w : World) (hl : len < 4294967296) (hr : IsInts w sa len f) :
    Calls Try.prog 13 #[.slice sa len cap] w fun e w' => (∃ v, e = .returned v ∧ OwnInts w' w.heap.size v (lst f len)) ∧ Below w.heap.size w w' := by
  obtain ⟨i0, hi, hz0, hz1, hz2⟩ := info_parts Try.infoInt
  have HR := Lib.hid hr
  clear hr
  go_enter Try.func13, Try.ntmps13
  go_wp2_with fail
  go_loopg [3, 4] len (fun g v i wr => ∃ k : Nat, ∃ sl : Option Addr, ∃ n c : Nat, k + g = len ∧ n = k ∧ v = .slice sl n c ∧ i = .int .i64 k ∧ OwnInts wr w.heap.size (.slice sl n c) (lst f k) ∧ Below w.heap.size w wr)
  case atStart => exact ⟨0, none, 0, 0, by omega, rfl, rfl, rfl, OwnInts.nil _ _, Below.refl _ _⟩
  case round =>
    obtain ⟨k, sl, n, c, hk, hn, rfl, rfl, ho, hb⟩ := hrel
    have HO := Lib.hid ho
    have HB := Lib.hid hb
    have hbw : w.heap.size ≤ wr.heap.size := hb.size
    have HN := Lib.hid hn
    clear ho hb hn
    by_cases hlt : k < len
    · obtain ⟨b, off, rfl, hcell⟩ := HR.out.at HB.out hlt
      obtain ⟨x, hx⟩ : ∃ x, f k = x := ⟨_, rfl⟩
      rw [hx] at hcell
      have HX := Lib.hid hx
      clear hx
      go_wp2_with (first | (at_builtin; refine wpList_append_own _ rfl _ _ 22 rfl w.heap.size 3 i0 (.int .i64 0) 1 8 Try.underlying22 hi hz0 hz1 hz2 rfl (by decide) _ _ _ rfl (HO.out.alloc _) ⟨wr.heap.size, 0, none⟩ 1 1 [.int .i64 x] rfl rfl (cell_one_new _ _ _) (ints_oneCell _ [x]) (by rw [lst_len]; unfold maxLen; omega) (by rw [lst_len]; omega) (by simp; omega) ?_; intro v' w1 hown' hgrow _; obtain ⟨hp1, hp2, hp3, s', c', rfl⟩ := own_push HO.out hown' hgrow hbw; have HP := Lib.hid (OwnInts.as hp1 (show _ = lst f (k + 1) by rw [lst_succ, HX.out])); have HB2 := Lib.hid (HB.out.trans hp2); clear hp1 hp2 hp3 hown' hgrow))
      rw [lst_len]
      rw [lst_len] at HP
      go_wp2
      go_roundg (gk - 1)
      case measure => omega
      case rel => exact ⟨k + 1, _, _, _, by omega, rfl, rfl, by go_num, HP.out, HB2.out⟩
    · have hkl : k = len := by omega
      subst hkl
      go_wp2
      go_ret
      exact ⟨⟨_, rfl, HO.out⟩, HB.out⟩
theorem upto_any_len (n : Int) (f : Nat → Int) (k : Nat) : ((lst f k).filter (fun x => decide (x < n))).length ≤ k := by
  exact Nat.le_trans (List.length_filter_le _ _) (by rw [lst_len]; exact Nat.le_refl _)
theorem upto_any_end (n : Int) (f : Nat → Int) {len k : Nat} (h : len ≤ k) (h2 : k - 0 ≤ len - 0) : (lst f k).filter (fun x => decide (x < n)) = (lst f len).filter (fun x => decide (x < n)) := by
  rw [show k = len from by omega]
theorem filter_yes (p : Int → Bool) (f : Nat → Int) (k : Nat) (h : p (f k) = true) : (lst f (k + 1)).filter p = (lst f k).filter p ++ [f k] := by
  rw [lst_succ, List.filter_append, List.filter_cons, if_pos h]; rfl
theorem filter_no (p : Int → Bool) (f : Nat → Int) (k : Nat) (h : p (f k) = false) : (lst f (k + 1)).filter p = (lst f k).filter p := by
  rw [lst_succ, List.filter_append, List.filter_cons, if_neg (by rw [h]; decide), List.filter_nil, List.append_nil]
set_option maxHeartbeats 1000000 in
theorem upto_any (sa : Option Addr) (len cap : Nat) (f : Nat → Int) (n : Int) (w : World) (hl : len < 4294967296) (hr : IsInts w sa len f) :
    Calls Try.prog 18 #[.slice sa len cap, .int .i64 n] w fun e w' => (∃ v, e = .returned v ∧ OwnInts w' w.heap.size v ((lst f len).filter (fun x => decide (x < n)))) ∧ Below w.heap.size w w' := by
  obtain ⟨i0, hi, hz0, hz1, hz2⟩ := info_parts Try.infoInt
  have HR := Lib.hid hr
  clear hr
  go_enter Try.func18, Try.ntmps18
  go_wp2_with fail
  go_loopg [5, 6] (len - 0) (fun g v i wr => ∃ k : Nat, ∃ sl : Option Addr, ∃ n' c : Nat, k - 0 + g = len - 0 ∧ 0 ≤ k ∧ n' = ((lst f k).filter (fun x => decide (x < n))).length ∧ v = .slice sl n' c ∧ i = .int .i64 k ∧ OwnInts wr w.heap.size (.slice sl n' c) ((lst f k).filter (fun x => decide (x < n))) ∧ Below w.heap.size w wr)
  case atStart => exact ⟨0, none, 0, 0, by omega, by omega, rfl, rfl, rfl, OwnInts.nil _ _, Below.refl _ _⟩
  case round =>
    obtain ⟨k, sl, n', c, hk, hk0, hn, rfl, rfl, ho, hb⟩ := hrel
    have HO := Lib.hid ho
    have HB := Lib.hid hb
    have hbw : w.heap.size ≤ wr.heap.size := hb.size
    have hnk : n' ≤ k := by have := upto_any_len n f k; omega
    have HN := Lib.hid hn
    clear ho hb hn
    by_cases hlt : k < len
    · obtain ⟨b, off, rfl, hcell⟩ := HR.out.at HB.out hlt
      obtain ⟨x, hx⟩ : ∃ x, f k = x := ⟨_, rfl⟩
      rw [hx] at hcell
      have HX := Lib.hid hx
      clear hx
      by_cases hp : x < n
      · have hL : (((lst f (k + 1)).filter (fun x => decide (x < n))).length) = ((lst f k).filter (fun x => decide (x < n))).length + 1 := by rw [filter_yes _ f k (by rw [HX.out]; exact decide_eq_true hp), List.length_append]; rfl
        have HL := Lib.hid hL
        have hF : ((lst f k).filter (fun x => decide (x < n))) ++ [x] = (lst f (k + 1)).filter (fun x => decide (x < n)) := by rw [filter_yes _ f k (by rw [HX.out]; exact decide_eq_true hp), HX.out]
        have HF := Lib.hid hF
        clear hL hF
        go_wp2_with (first | (at_builtin; refine wpList_append_own _ rfl _ _ 22 rfl w.heap.size 3 i0 (.int .i64 0) 1 8 Try.underlying22 hi hz0 hz1 hz2 rfl (by decide) _ _ _ rfl (HO.out.alloc _) ⟨wr.heap.size, 0, none⟩ 1 1 [.int .i64 x] rfl rfl (cell_one_new _ _ _) (ints_oneCell _ [x]) (by rw [← HN.out]; unfold maxLen; omega) (by rw [← HN.out]; omega) (by simp; omega) ?_; intro v' w1 hown' hgrow _; obtain ⟨hp1, hp2, hp3, s', n2, c', rfl, hn2⟩ := own_push2 HO.out hown' hgrow hbw; have HM := Lib.hid hn2; have HP := Lib.hid (OwnInts.as hp1 HF.out); have HB2 := Lib.hid (HB.out.trans hp2); clear hp1 hp2 hp3 hn2 hown' hgrow))
        go_wp2
        go_roundg (gk - 1)
        case measure => omega
        case rel => exact ⟨k + 1, _, _, _, by omega, by omega, HM.out.trans HL.out.symm, rfl, by go_num, HP.out, HB2.out⟩
      · have hL : ((lst f (k + 1)).filter (fun x => decide (x < n))) = ((lst f k).filter (fun x => decide (x < n))) := by rw [filter_no _ f k (by rw [HX.out]; exact decide_eq_false hp)]
        have HL := Lib.hid hL
        clear hL
        go_wp2
        go_roundg (gk - 1)
        case measure => omega
        case rel => exact ⟨k + 1, sl, n', c, by omega, by omega, by rw [HL.out]; exact HN.out, rfl, by go_num, by rw [HL.out]; exact HO.out, HB.out⟩
    · have hE := upto_any_end n f (show len ≤ k by omega) (show k - 0 ≤ len - 0 by omega)
      have HE := Lib.hid hE
      clear hE
      go_wp2
      go_ret
      exact ⟨⟨_, rfl, OwnInts.as HO.out (HE.out.trans (by first | rfl | simp))⟩, HB.out⟩
theorem from_any_len (n : Int) (f : Nat → Int) (k : Nat) : (((lst f k).filter (fun x => decide (n ≤ x))).map (· - n)).length ≤ k := by
  rw [List.length_map]; exact Nat.le_trans (List.length_filter_le _ _) (by rw [lst_len]; exact Nat.le_refl _)
theorem from_any_end (n : Int) (f : Nat → Int) {len k : Nat} (h : len ≤ k) (h2 : k - 0 ≤ len - 0) : ((lst f k).filter (fun x => decide (n ≤ x))).map (· - n) = ((lst f len).filter (fun x => decide (n ≤ x))).map (· - n) := by
  rw [show k = len from by omega]
set_option maxHeartbeats 1000000 in
theorem from_any (sa : Option Addr) (len cap : Nat) (f : Nat → Int) (n : Int) (w : World) (hl : len < 4294967296) (hr : IsInts w sa len f) (hn0 : 0 ≤ n) (hw : ∀ i, i < len → f i < 9223372036854775808) :
    Calls Try.prog 22 #[.slice sa len cap, .int .i64 n] w fun e w' => (∃ v, e = .returned v ∧ OwnInts w' w.heap.size v (((lst f len).filter (fun x => decide (n ≤ x))).map (· - n))) ∧ Below w.heap.size w w' := by
  obtain ⟨i0, hi, hz0, hz1, hz2⟩ := info_parts Try.infoInt
  have HR := Lib.hid hr
  have HW := Lib.hid hw
  clear hr hw
  go_enter Try.func22, Try.ntmps22
  go_wp2_with fail
  go_loopg [5, 6] (len - 0) (fun g v i wr => ∃ k : Nat, ∃ sl : Option Addr, ∃ n' c : Nat, k - 0 + g = len - 0 ∧ 0 ≤ k ∧ n' = (((lst f k).filter (fun x => decide (n ≤ x))).map (· - n)).length ∧ v = .slice sl n' c ∧ i = .int .i64 k ∧ OwnInts wr w.heap.size (.slice sl n' c) (((lst f k).filter (fun x => decide (n ≤ x))).map (· - n)) ∧ Below w.heap.size w wr)
  case atStart => exact ⟨0, none, 0, 0, by omega, by omega, rfl, rfl, rfl, OwnInts.nil _ _, Below.refl _ _⟩
  case round =>
    obtain ⟨k, sl, n', c, hk, hk0, hn, rfl, rfl, ho, hb⟩ := hrel
    have HO := Lib.hid ho
    have HB := Lib.hid hb
    have hbw : w.heap.size ≤ wr.heap.size := hb.size
    have hnk : n' ≤ k := by have := from_any_len n f k; omega
    have HN := Lib.hid hn
    clear ho hb hn
    by_cases hlt : k < len
    · obtain ⟨b, off, rfl, hcell⟩ := HR.out.at HB.out hlt
      obtain ⟨x, hx⟩ : ∃ x, f k = x := ⟨_, rfl⟩
      rw [hx] at hcell
      have HX := Lib.hid hx
      clear hx
      by_cases hp : n ≤ x
      · have hx63 : x - n < 9223372036854775808 := by have := HW.out k hlt; rw [HX.out] at this; omega
        have hL : ((((lst f (k + 1)).filter (fun x => decide (n ≤ x))).map (· - n)).length) = (((lst f k).filter (fun x => decide (n ≤ x))).map (· - n)).length + 1 := by rw [filter_yes _ f k (by rw [HX.out]; exact decide_eq_true hp), List.map_append, List.length_append]; rfl
        have HL := Lib.hid hL
        have hF : (((lst f k).filter (fun x => decide (n ≤ x))).map (· - n)) ++ [x - n] = ((lst f (k + 1)).filter (fun x => decide (n ≤ x))).map (· - n) := by rw [filter_yes _ f k (by rw [HX.out]; exact decide_eq_true hp), List.map_append, HX.out]; rfl
        have HF := Lib.hid hF
        clear hL hF
        go_wp2_with (first | (at_builtin; refine wpList_append_own _ rfl _ _ 22 rfl w.heap.size 3 i0 (.int .i64 0) 1 8 Try.underlying22 hi hz0 hz1 hz2 rfl (by decide) _ _ _ rfl (HO.out.alloc _) ⟨wr.heap.size, 0, none⟩ 1 1 [.int .i64 (x - n)] rfl rfl (cell_one_new _ _ _) (ints_oneCell _ [(x - n)]) (by rw [← HN.out]; unfold maxLen; omega) (by rw [← HN.out]; omega) (by simp; omega) ?_; intro v' w1 hown' hgrow _; obtain ⟨hp1, hp2, hp3, s', n2, c', rfl, hn2⟩ := own_push2 HO.out hown' hgrow hbw; have HM := Lib.hid hn2; have HP := Lib.hid (OwnInts.as hp1 HF.out); have HB2 := Lib.hid (HB.out.trans hp2); clear hp1 hp2 hp3 hn2 hown' hgrow))
        go_wp2
        go_roundg (gk - 1)
        case measure => omega
        case rel => exact ⟨k + 1, _, _, _, by omega, by omega, HM.out.trans HL.out.symm, rfl, by go_num, HP.out, HB2.out⟩
      · have hL : (((lst f (k + 1)).filter (fun x => decide (n ≤ x))).map (· - n)) = (((lst f k).filter (fun x => decide (n ≤ x))).map (· - n)) := by rw [filter_no _ f k (by rw [HX.out]; exact decide_eq_false hp)]
        have HL := Lib.hid hL
        clear hL
        go_wp2
        go_roundg (gk - 1)
        case measure => omega
        case rel => exact ⟨k + 1, sl, n', c, by omega, by omega, by rw [HL.out]; exact HN.out, rfl, by go_num, by rw [HL.out]; exact HO.out, HB.out⟩
    · have hE := from_any_end n f (show len ≤ k by omega) (show k - 0 ≤ len - 0 by omega)
      have HE := Lib.hid hE
      clear hE
      go_wp2
      go_ret
      exact ⟨⟨_, rfl, OwnInts.as HO.out (HE.out.trans (by first | rfl | simp))⟩, HB.out⟩
theorem shifted_any_len (n : Int) (f : Nat → Int) (k : Nat) : (((lst f k).drop 1).map (· + n)).length ≤ k := by
  rw [List.length_map, List.length_drop, lst_len]; omega
theorem shifted_any_end (n : Int) (f : Nat → Int) {len k : Nat} (h : len ≤ k) (h2 : k - 1 ≤ len - 1) : ((lst f k).drop 1).map (· + n) = ((lst f len).drop 1).map (· + n) := by
  by_cases e : k = len
  · rw [e]
  · rw [List.drop_of_length_le (by rw [lst_len]; omega), List.drop_of_length_le (by rw [lst_len]; omega)]
theorem drop_next (f : Nat → Int) (k : Nat) (h : 1 ≤ k) : (lst f (k + 1)).drop 1 = (lst f k).drop 1 ++ [f k] := by
  rw [lst_succ, List.drop_append_of_le_length (by rw [lst_len]; exact h)]
set_option maxHeartbeats 1000000 in
theorem shifted_any (sa : Option Addr) (len cap : Nat) (f : Nat → Int) (n : Int) (w : World) (hl : len < 4294967296) (hr : IsInts w sa len f) (hn1 : 0 ≤ n) (hw : ∀ i, i < len → 0 ≤ f i ∧ f i + n < 9223372036854775808) :
    Calls Try.prog 19 #[.slice sa len cap, .int .i64 n] w fun e w' => (∃ v, e = .returned v ∧ OwnInts w' w.heap.size v (((lst f len).drop 1).map (· + n))) ∧ Below w.heap.size w w' := by
  obtain ⟨i0, hi, hz0, hz1, hz2⟩ := info_parts Try.infoInt
  have HR := Lib.hid hr
  have HW := Lib.hid hw
  clear hr hw
  go_enter Try.func19, Try.ntmps19
  go_wp2_with fail
  go_loopg [5, 6] (len - 1) (fun g v i wr => ∃ k : Nat, ∃ sl : Option Addr, ∃ n' c : Nat, k - 1 + g = len - 1 ∧ 1 ≤ k ∧ n' = (((lst f k).drop 1).map (· + n)).length ∧ v = .slice sl n' c ∧ i = .int .i64 k ∧ OwnInts wr w.heap.size (.slice sl n' c) (((lst f k).drop 1).map (· + n)) ∧ Below w.heap.size w wr)
  case atStart => exact ⟨1, none, 0, 0, by omega, by omega, rfl, rfl, rfl, OwnInts.nil _ _, Below.refl _ _⟩
  case round =>
    obtain ⟨k, sl, n', c, hk, hk0, hn, rfl, rfl, ho, hb⟩ := hrel
    have HO := Lib.hid ho
    have HB := Lib.hid hb
    have hbw : w.heap.size ≤ wr.heap.size := hb.size
    have hnk : n' ≤ k := by have := shifted_any_len n f k; omega
    have HN := Lib.hid hn
    clear ho hb hn
    by_cases hlt : k < len
    · obtain ⟨b, off, rfl, hcell⟩ := HR.out.at HB.out hlt
      obtain ⟨x, hx⟩ : ∃ x, f k = x := ⟨_, rfl⟩
      rw [hx] at hcell
      have HX := Lib.hid hx
      clear hx
      have hx63 : x + n < 9223372036854775808 := by have := (HW.out k hlt).2; rw [HX.out] at this; omega
      have hx62 : 0 ≤ x := by have := (HW.out k hlt).1; rw [HX.out] at this; omega
      have hL : ((((lst f (k + 1)).drop 1).map (· + n)).length) = (((lst f k).drop 1).map (· + n)).length + 1 := by rw [drop_next f k hk0, List.map_append, List.length_append]; rfl
      have HL := Lib.hid hL
      have hF : (((lst f k).drop 1).map (· + n)) ++ [x + n] = ((lst f (k + 1)).drop 1).map (· + n) := by rw [drop_next f k hk0, List.map_append, HX.out]; rfl
      have HF := Lib.hid hF
      clear hL hF
      go_wp2_with (first | (at_builtin; refine wpList_append_own _ rfl _ _ 22 rfl w.heap.size 3 i0 (.int .i64 0) 1 8 Try.underlying22 hi hz0 hz1 hz2 rfl (by decide) _ _ _ rfl (HO.out.alloc _) ⟨wr.heap.size, 0, none⟩ 1 1 [.int .i64 (x + n)] rfl rfl (cell_one_new _ _ _) (ints_oneCell _ [(x + n)]) (by rw [← HN.out]; unfold maxLen; omega) (by rw [← HN.out]; omega) (by simp; omega) ?_; intro v' w1 hown' hgrow _; obtain ⟨hp1, hp2, hp3, s', n2, c', rfl, hn2⟩ := own_push2 HO.out hown' hgrow hbw; have HM := Lib.hid hn2; have HP := Lib.hid (OwnInts.as hp1 HF.out); have HB2 := Lib.hid (HB.out.trans hp2); clear hp1 hp2 hp3 hn2 hown' hgrow))
      go_wp2
      go_roundg (gk - 1)
      case measure => omega
      case rel => exact ⟨k + 1, _, _, _, by omega, by omega, HM.out.trans HL.out.symm, rfl, by go_num, HP.out, HB2.out⟩
    · have hE := shifted_any_end n f (show len ≤ k by omega) (show k - 1 ≤ len - 1 by omega)
      have HE := Lib.hid hE
      clear hE
      go_wp2
      go_ret
      exact ⟨⟨_, rfl, OwnInts.as HO.out (HE.out.trans (by first | rfl | simp))⟩, HB.out⟩
/-- are two lists equal? -/
def sameB (f : Nat → Int) (n : Nat) (g : Nat → Int) (m : Nat) : Bool := decide (lst f n = lst g m)
theorem sameB_refl (f : Nat → Int) (n : Nat) : sameB f n f n = true := decide_eq_true rfl
theorem sameB_of {f g : Nat → Int} {n m : Nat} (h : lst f n = lst g m) : sameB f n g m = true := decide_eq_true h
theorem sameB_not {f g : Nat → Int} {n m : Nat} (h : ¬ lst f n = lst g m) : sameB f n g m = false := decide_eq_false h
set_option maxHeartbeats 1000000 in
theorem same_any (sa sb : Option Addr) (len cap m capb : Nat) (f g : Nat → Int) (w : World) (hl : len ≤ maxLen) (hm : m ≤ maxLen) (hr : IsInts w sa len f) (hs : IsInts w sb m g) :
    Calls Try.prog 15 #[.slice sa len cap, .slice sb m capb] w fun e w' => e = .returned (.bool (sameB f len g m)) ∧ Below w.heap.size w w' := by
  unfold maxLen at hl hm
  by_cases hlm : len = m
  · subst hlm
    have HR := Lib.hid hr
    have HS := Lib.hid hs
    clear hr hs
    go_enter Try.func15, Try.ntmps15
    go_wp2_with fail
    go_loopg [5] len (fun gg i wr => ∃ k : Nat, k + gg = len ∧ i = .int .i64 k ∧ (∀ j, j < k → f j = g j) ∧ Below w.heap.size w wr)
    case atStart => exact ⟨0, by omega, rfl, (fun j hj => absurd hj (Nat.not_lt_zero _)), Below.refl _ _⟩
    case round =>
      obtain ⟨k, hk, rfl, he, hb⟩ := hrel
      have HE := Lib.hid he
      have HB := Lib.hid hb
      clear he hb
      by_cases hlt : k < len
      · obtain ⟨b, off, rfl, hcell⟩ := HR.out.at HB.out hlt
        obtain ⟨b', off', rfl, hcell'⟩ := HS.out.at HB.out hlt
        obtain ⟨x, hx⟩ : ∃ x, f k = x := ⟨_, rfl⟩
        obtain ⟨y, hy⟩ : ∃ y, g k = y := ⟨_, rfl⟩
        rw [hx] at hcell
        rw [hy] at hcell'
        have HX := Lib.hid hx
        have HY := Lib.hid hy
        clear hx hy
        have HB0 := HB.out
        go_wp2_with fail
        go_region_held3 (fun w' => w'.cell? ⟨b, off + k, none⟩ = some (.int .i64 x) ∧ w'.cell? ⟨b', off' + k, none⟩ = some (.int .i64 y) ∧ Below w.heap.size w w')
          (first | exact ⟨hcell, hcell', HB0.drew⟩ | go_keep) (fail)
        rename_i hheld
        have HH := Lib.hid hheld.2.2
        clear hheld HB0 hcell hcell'
        cases hxy : (x != y)
        · go_wp2
          go_roundg (gk - 1)
          case measure => omega
          case rel =>
            refine ⟨k + 1, by omega, by go_num, fun j hj => ?_, HH.out⟩
            by_cases e : j = k
            · rw [e, HX.out, HY.out]; simpa using hxy
            · exact HE.out j (by omega)
        · go_wp2
          go_ret
          refine ⟨ret_bool (sameB_not ?_).symm, HH.out⟩
          intro h
          have := lst_ext h k hlt
          rw [HX.out, HY.out] at this
          simp [this] at hxy
      · go_wp2
        go_ret
        exact ⟨ret_bool (sameB_of (lst_congr (fun j hj => HE.out j (by omega)))).symm, HB.out⟩
  · have hne : ¬ lst f len = lst g m := by
      intro h; have := congrArg List.length h; rw [lst_len, lst_len] at this; exact hlm this
    rw [sameB_not hne]
    clear hr hs hne
    go_enter Try.func15, Try.ntmps15
    go_wp2
    go_ret
    exact ⟨rfl, Below.refl _ _⟩
end Go.Proofs.Ytpipcmbfdcbboaa
