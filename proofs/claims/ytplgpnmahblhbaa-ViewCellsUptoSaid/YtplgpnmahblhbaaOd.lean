/- Contracts: copyistref14.Cells, Cell, At. Condition: fewer than 2^31 atoms. -/
import Derived.Test.YtplgpnmahblhbaaOa
import Derived.Test.YtplgpnmahblhbaaOb
import Derived.Test.YtplgpnmahblhbaaCt
namespace Go.Proofs.Ytplgpnmahblhbaa
open Go.RowKit
theorem wpList_push {w : World} {ops : Array Oper} {rest : List Oper} {o : Oper} {a : Act} {Q : Exit → Act → World → Prop} (k : Int) (hgd : o.guard = none) (s x : Operand)
    (ho : o.op = .call { callee := .builtin .append, args := #[s, x], argTypes := #[32, 32] })
    (base : Nat) (sl : Option Addr) (j c : Nat) (f : Nat → Int) (hs : a.eval s = .slice sl j c) (hx : a.eval x = .slice (some ⟨w.heap.size, 0, none⟩) 1 1) (hown : OwnInts w base (.slice sl j c) (lst f j)) (hk : f j = k) (hj : j < 4294967296) (hbase : base ≤ w.heap.size)
    (h : ∀ s' c' w', OwnInts w' base (.slice s' (j + 1) c') (lst f (j + 1)) → Below base w w' → wpList Try.prog ops Q rest (a.put o.dst (.slice s' (j + 1) c')) w') : wpList Try.prog ops Q (o :: rest) a (w.alloc (.cells #[.int .i64 k] 3)) := by
  obtain ⟨i0, hi, hz0, hz1, hz2⟩ := info_parts Try.infoInt
  refine wpList_append_own _ hgd s x 32 ho base 3 i0 (.int .i64 0) 1 8 Try.underlying32 hi hz0 hz1 hz2 rfl (by decide) _ _ _ hs (hown.alloc _) ⟨w.heap.size, 0, none⟩ 1 1 [.int .i64 k] hx rfl (cell_one_new _ _ _) (ints_oneCell _ [k]) (by rw [lst_len]; unfold maxLen; omega) (by rw [lst_len]; omega) (by simp; omega) ?_
  intro v' w1 hown' hgrow _
  obtain ⟨hp1, hp2, hp3, s', n2, c', rfl, hn2⟩ := own_push2 hown hown' hgrow hbase
  rw [lst_len] at hn2
  subst hn2
  exact h s' c' w1 (OwnInts.as hp1 (by rw [lst_succ, hk])) hp2
theorem IsInts.cell {w : World} {b off n : Nat} {f : Nat → Int} (h : IsInts w (some ⟨b, off, none⟩) n f) {i : Nat} (hi : i < n) : w.cell? ⟨b, off + i, none⟩ = some (.int .i64 (f i)) := by
  rcases h with h | ⟨b', off', hs, hlt, hc⟩
  · omega
  · cases hs; exact hc i hi
theorem r_breaks (sa : Option Addr) (len cap : Nat) (f : Nat → Int) (w : World) (hl : len < 4294967295) (hr : IsInts w sa len f) :
    Calls Try.prog 58 #[.slice sa len cap] w fun e w' => ∃ s c, e = .returned (.slice s (bnv f len) c) ∧ IsInts w' s (bnv f len) (fun i => ((bx f len i : Nat) : Int)) ∧ Below w.heap.size w w' := by
  refine (rbreaks_any sa len cap f w hl hr).mono ?_
  rintro e w' ⟨⟨v, rfl, ho⟩, hb⟩
  obtain ⟨s, n, c, rfl, hn, hi⟩ := ho.shape
  rw [List.length_map] at hn
  subst hn
  exact ⟨s, c, rfl, own_bx ho, hb⟩
set_option maxRecDepth 100000 in
set_option maxHeartbeats 4000000 in
theorem rcells_c (sa : Option Addr) (len cap : Nat) (f : Nat → Int) (w : World) (hl : len < 2147483648) (hr : IsInts w sa len f) :
    Calls Try.prog 51 #[.slice sa len cap] w fun e w' => ∃ sb cb sc cc, e = .returned (.tuple #[.slice sb (bnv f len) cb, .slice sc (bnv f len) cc]) ∧
      IsInts w' sb (bnv f len) (fun i => ((bx f len i : Nat) : Int)) ∧ IsInts w' sc (bnv f len) (cellAt f len) ∧ Below w.heap.size w w' := by
  have HR := Lib.hid hr
  clear hr
  have hbn := bnv_bd f len
  go_enter Try.func51, Try.ntmps51
  go_wp2_with fail
  refine (r_breaks sa len cap f _ (by omega) HR.out).mono ?_
  rintro e w1 ⟨sb, cb, rfl, hi, hb⟩
  have HI := Lib.hid hi
  have HB := Lib.hid hb
  clear hi hb
  go_wp2_with fail
  go_loopg [5, 6, 7] (bnv f len) (fun g cv av jv wr => ∃ j : Nat, ∃ sc : Option Addr, ∃ cc : Nat, j + g = bnv f len ∧ j < bnv f len ∧ cv = .slice sc j cc ∧ av = .int .i64 (cellAt f len j) ∧ jv = .int .i64 j ∧
    OwnInts wr w1.heap.size (.slice sc j cc) (lst (cellAt f len) j) ∧ Below w1.heap.size w1 wr)
  case atStart => exact ⟨0, none, 0, by omega, by omega, rfl, rfl, rfl, OwnInts.nil _ _, Below.refl _ _⟩
  case round =>
    obtain ⟨j, sc, cc, hg, hj, rfl, rfl, rfl, ho, hb⟩ := hrel
    have HO := Lib.hid ho
    have HB1 := Lib.hid hb
    clear ho hb
    have hcb := cellAt_bd f len j
    obtain ⟨cl, hcl⟩ : ∃ cl, cellAt f len j = cl := ⟨_, rfl⟩
    rw [hcl] at hcb ⊢
    have HCL := Lib.hid hcl
    clear hcl
    have hjb : (j : Int) < (bnv f len : Int) := by omega
    have q5 : IntKind.i64.wrap ((j : Int) + 1) = (j : Int) + 1 := by rw [IntKind.wrap_i64]; omega
    by_cases hlast : j + 1 = bnv f len
    · have hjz : ((j : Int) + 1 == (bnv f len : Int)) = true := by simp; omega
      go_wp2_with (first | (at_builtin; refine wpList_push _ rfl _ _ rfl w1.heap.size sc j cc (cellAt f len) rfl rfl HO.out HCL.out (by omega) HB1.out.size ?_; intro s' c' w2 ho hb; replace HO := Lib.hid ho; replace HB1 := Lib.hid (HB1.out.trans hb); clear ho hb))
      obtain ⟨s2, c2, hv, _, _, hi2⟩ := HO.out.list
      obtain ⟨rfl, _, rfl⟩ := Value.slice.inj hv
      try rw [hlast] at hi2
      have HJ := Lib.hid hi2
      clear hi2 hv
      go_ret2
      exact ⟨_, _, _, _, rfl, HI.out.later HB1.out, HJ.out, vbt HB.out HB1.out⟩
    · have hjz : ((j : Int) + 1 == (bnv f len : Int)) = false := by simp; omega
      go_wp2_with (first | (at_builtin; refine wpList_push _ rfl _ _ rfl w1.heap.size sc j cc (cellAt f len) rfl rfl HO.out HCL.out (by omega) HB1.out.size ?_; intro s' c' w2 ho hb; replace HO := Lib.hid ho; replace HB1 := Lib.hid (HB1.out.trans hb); clear ho hb))
      have hlt : j + 1 < bnv f len := by omega
      obtain ⟨gb, off, rfl, c0⟩ := (HI.out.later HB1.out).at (Below.refl _ _) hj
      obtain ⟨gb1, off1, hab, c1⟩ := (HI.out.later HB1.out).at (Below.refl _ _) hlt
      cases hab
      have hup := bx_up f len j hlt
      have hto := bx_bd f len (j + 1) hlt
      have hob := cellW_bd (fun k => f (k + bx f len j)) (bx f len (j + 1) - bx f len j) (cellAt f len j)
      have hcs : cellAt f len (j + 1) = cellAt f len j + cellOf f len j := rfl
      have hco : cellOf f len j = cellW (fun k => f (k + bx f len j)) (bx f len (j + 1) - bx f len j) (cellAt f len j) := rfl
      rw [← hco] at hob
      rw [HCL.out] at hcs hco
      obtain ⟨fr, hfr⟩ : ∃ fr, bx f len j = fr := ⟨_, rfl⟩
      obtain ⟨tt, hto'⟩ : ∃ tt, bx f len (j + 1) = tt := ⟨_, rfl⟩
      obtain ⟨wd, hwd⟩ : ∃ wd, cellOf f len j = wd := ⟨_, rfl⟩
      simp only [hfr, hto', hwd] at c0 c1 hup hto hob hco hcs
      have HFR := Lib.hid hfr
      have HTT := Lib.hid hto'
      have HCO := Lib.hid hco
      have HCS := Lib.hid hcs
      clear hfr hto' hwd hcs hco
      have q1 : (0 : Int) ≤ (j : Int) + 1 := by omega
      have q2 : (j : Int) + 1 < (bnv f len : Int) := by omega
      have q4 : (0 : Int) ≤ (j : Int) := by omega
      have r1 : IntKind.i64.wrap ((tt : Int) - fr) = (tt : Int) - fr := by rw [IntKind.wrap_i64]; omega
      have r2 : IntKind.i64.wrap (cl + wd) = cl + wd := by rw [IntKind.wrap_i64]; omega
      have HB0 := Below.refl w2.heap.size w2
      by_cases hone : 1 < tt - fr
      · have r5 : (1 : Int) < (tt : Int) - fr := by omega
        go_region_held3 (fun w' => w'.cell? ⟨gb, off + j, none⟩ = some (.int .i64 fr) ∧ w'.cell? ⟨gb, off + (j + 1), none⟩ = some (.int .i64 tt) ∧ Below w2.heap.size w2 w')
          (first | exact ⟨c0, c1, HB0.drew⟩ | go_keep) (fail)
        have hd : Below w2.heap.size w2 w2.drew := (Below.refl _ _).drew
        replace HO := Lib.hid (HO.out.later hd)
        replace HB1 := Lib.hid (vbt HB1.out hd)
        generalize w2.drew = wq at *
        clear hd HB0
        have HI2 := Lib.hid (HI.out.later HB1.out)
        go_wp2_with fail
        go_loopg [8, 9] (tt - fr) (fun g sv kv wr => ∃ m km : Nat, m + g = tt - fr ∧ fr + m = km ∧ sv = .int .i64 (sumW (fun k => f (k + fr)) m) ∧ kv = .int .i64 km ∧ Below wq.heap.size wq wr)
        case atStart => exact ⟨0, fr, by omega, by omega, rfl, rfl, Below.refl _ _⟩
        case round =>
          obtain ⟨m, km, hm, hkm, rfl, rfl, hb⟩ := hrel
          have HB2 := Lib.hid hb
          clear hb
          have d0 := (HI2.out.later HB2.out).cell (show j < bnv f len by omega)
          have d1 := (HI2.out.later HB2.out).cell hlt
          rw [HFR.out] at d0
          rw [HTT.out] at d1
          by_cases hlt2 : m < tt - fr
          · subst hkm
            obtain ⟨b, lo, rfl, hcell⟩ := HR.out.at (vbt (vbt HB.out HB1.out) HB2.out) (show fr + m < len by omega)
            have hsk := sumW_bd (fun k => f (k + fr)) m
            have hwk := width_bd (f (fr + m))
            have hs1 : sumW (fun k => f (k + fr)) m + widthF (f (fr + m)) = sumW (fun k => f (k + fr)) (m + 1) := by rw [Nat.add_comm fr m]; rfl
            have HS1 := Lib.hid hs1
            clear hs1
            generalize f (fr + m) = x at *
            generalize sumW (fun k => f (k + fr)) m = sk at *
            obtain ⟨km, hkm⟩ : ∃ km, fr + m = km := ⟨_, rfl⟩
            rw [hkm] at hcell ⊢
            have HKM := Lib.hid hkm
            have hkl : km < tt := by omega
            have hkl' : (km : Int) < (tt : Int) := by omega
            clear hkm
            go_wp2_with fail
            refine (rwidth_any x _).mono ?_
            rintro e w7 ⟨rfl, rfl⟩
            clear hcell
            go_wp2
            go_roundg (gk - 1)
            case measure => omega
            case rel => exact ⟨m + 1, km + 1, by omega, by have := HKM.out; omega, by rw [HS1.out], by go_num, HB2.out⟩
          · have hkt : km = tt := by omega
            have hkl' : ¬ ((km : Int) < (tt : Int)) := by omega
            have hco := HCO.out
            unfold cellW at hco
            rw [if_pos hone] at hco
            obtain rfl : m = tt - fr := by omega
            have hsb := sumW_bd (fun k => f (k + fr)) (tt - fr)
            generalize sumW (fun k => f (k + fr)) (tt - fr) = sk at *
            have r4 : (if 2 < sk then 2 else sk) = wd := by rw [hco]; split <;> omega
            clear hco HCO
            go_wp2
            go_roundg (bnv f len - (j + 1))
            case measure => omega
            case rel => exact ⟨j + 1, _, _, by omega, hlt, rfl, by rw [HCS.out], by go_num, HO.out.later HB2.out, vbt HB1.out HB2.out⟩
      · have r5 : ¬ (1 : Int) < (tt : Int) - fr := by omega
        go_region_held3 (fun w' => w'.cell? ⟨gb, off + j, none⟩ = some (.int .i64 fr) ∧ w'.cell? ⟨gb, off + (j + 1), none⟩ = some (.int .i64 tt) ∧ Below w2.heap.size w2 w')
          (first | exact ⟨c0, c1, HB0.drew⟩ | go_keep) (fail)
        have hd : Below w2.heap.size w2 w2.drew := (Below.refl _ _).drew
        replace HO := Lib.hid (HO.out.later hd)
        replace HB1 := Lib.hid (vbt HB1.out hd)
        generalize w2.drew = wq at *
        clear hd HB0
        have hco := HCO.out
        unfold cellW at hco
        rw [if_neg hone] at hco
        simp only [Nat.zero_add] at hco
        have d0 := (HI.out.later HB1.out).cell (show j < bnv f len by omega)
        simp only [HFR.out] at d0
        obtain ⟨b, lo, rfl, hcell⟩ := HR.out.at (vbt HB.out HB1.out) (show fr < len by omega)
        by_cases h9 : f fr = 9
        · rw [h9] at hcell
          rw [if_pos h9] at hco
          have r7 : IntKind.i64.wrap (8 - cl % 8) = wd := by rw [IntKind.wrap_i64]; omega
          clear hco HCO
          go_wp2
          go_roundg (bnv f len - (j + 1))
          case measure => omega
          case rel => exact ⟨j + 1, _, _, by omega, hlt, rfl, by rw [HCS.out], by go_num, HO.out, HB1.out⟩
        · rw [if_neg h9] at hco
          have h9' : (f fr == 9) = false := by simpa using h9
          generalize f fr = x at *
          have HW := Lib.hid hco
          clear hco HCO
          go_wp2_with fail
          refine (rwidth_any x _).mono ?_
          rintro e w7 ⟨rfl, rfl⟩
          rw [← HW.out]
          go_wp2
          go_roundg (bnv f len - (j + 1))
          case measure => omega
          case rel => exact ⟨j + 1, _, _, by omega, hlt, rfl, by rw [HCS.out], by go_num, HO.out, HB1.out⟩
end Go.Proofs.Ytplgpnmahblhbaa
