/- The walk of ViewCover. Condition: fewer than 2^31 atoms. -/
import Derived.Test.YtplgpnmahblhbaaOa
import Derived.Test.YtplgpnmahblhbaaOb
import Derived.Test.YtplgpnmahblhbaaVe
namespace Go.Proofs.Ytplgpnmahblhbaa
open Go.RowKit
set_option maxRecDepth 100000 in
set_option maxHeartbeats 4000000 in
theorem lawcover_any (sa : Option Addr) (len cap : Nat) (f : Nat → Int) (w : World) (hl : len < 2147483648) (hr : IsInts w sa len f) (hnil : sa = none → len = 0 ∧ cap = 0) :
    Calls Try.prog 7 #[.slice sa len cap] w fun e w' => e = .returned (.bool true) ∧ Below w.heap.size w w' := by
  have HR := Lib.hid hr
  clear hr
  have hbn := bnv_bd f len
  have hbz : ((bnv f len : Int) == 0) = false := by simp; omega
  go_enter Try.func7, Try.ntmps7
  go_wp2_with fail
  refine (able_any w).mono ?_
  rintro e w1 ⟨rfl, hb1⟩
  have HB := Lib.hid hb1
  clear hb1
  go_wp2_with (first | (at_builtin; refine wpList_append_all rfl _ _ rfl rfl sa len cap f rfl (HR.out.later HB.out) hnil (by omega) w1.heap.size (Nat.le_refl _) ?_; intro so co w2 ho hb2 hc hn hi; replace HB := Lib.hid (vbt HB.out hb2); have HO := Lib.hid hi; have HN := Lib.hid hn; clear ho hb2 hi hn))
  refine (v_breaks so len co f _ (by omega) HO.out).mono ?_
  rintro e w3 ⟨sb, cb, rfl, hi, hb⟩
  replace HB := Lib.hid (vbt HB.out hb)
  replace HO := Lib.hid (HO.out.later hb)
  have HI := Lib.hid (own_bx hi)
  clear hi hb
  go_wp2_with fail
  refine (cell_any so len co f 0 _ (by omega) hc HO.out).mono ?_
  rintro e w4 ⟨rfl, hb⟩
  rw [cellF_low f len 0 (by omega)]
  replace HB := Lib.hid (vbt HB.out hb)
  replace HO := Lib.hid (HO.out.later hb)
  replace HI := Lib.hid (HI.out.later hb)
  clear hb
  go_wp2_with fail
  refine (cell_any so len co f (-3) _ (by omega) hc HO.out).mono ?_
  rintro e w5 ⟨rfl, hb⟩
  rw [cellF_low f len (-3) (by omega)]
  replace HB := Lib.hid (vbt HB.out hb)
  replace HO := Lib.hid (HO.out.later hb)
  replace HI := Lib.hid (HI.out.later hb)
  clear hb
  go_wp2_with fail
  refine (at_any so len co f (-1) _ (by omega) hc HO.out).mono ?_
  rintro e w6 ⟨rfl, hb⟩
  rw [atF_neg f len (-1) (by omega)]
  replace HB := Lib.hid (vbt HB.out hb)
  replace HO := Lib.hid (HO.out.later hb)
  replace HI := Lib.hid (HI.out.later hb)
  clear hb
  go_wp2_with fail
  go_loopg [5] (bnv f len - 1) (fun g iv wr => ∃ i : Nat, i + g = bnv f len - 1 ∧ iv = .int .i64 i ∧ IsInts wr so len f ∧ IsInts wr sb (bnv f len) (fun i => ((bx f len i : Nat) : Int)) ∧ Below w.heap.size w wr)
  case atStart => exact ⟨0, by omega, rfl, HO.out, HI.out, HB.out⟩
  case round =>
    obtain ⟨i, hg, rfl, ho, hi, hb⟩ := hrel
    replace HO := Lib.hid ho
    replace HI := Lib.hid hi
    replace HB := Lib.hid hb
    clear ho hi hb
    by_cases hlt : i + 1 < bnv f len
    · obtain ⟨gb, off, rfl, c0⟩ := HI.out.at (Below.refl _ _) (show i < bnv f len by omega)
      obtain ⟨gb1, off1, hab, c1⟩ := HI.out.at (Below.refl _ _) hlt
      cases hab
      have hup := bx_up f len i hlt
      have hto := bx_bd f len (i + 1) hlt
      have hcb := cellAt_bd f len i
      have hob := cellW_bd (fun k => f (k + bx f len i)) (bx f len (i + 1) - bx f len i) (cellAt f len i)
      have hcs : cellAt f len (i + 1) = cellAt f len i + cellOf f len i := rfl
      have hco : cellOf f len i = cellW (fun k => f (k + bx f len i)) (bx f len (i + 1) - bx f len i) (cellAt f len i) := rfl
      rw [← hco] at hob
      have e1 := cellF_bx f len i (by omega)
      have e2 := cellF_bx f len (i + 1) hlt
      have e3 := cellF_pre f len i hlt
      have e4 : ∀ k : Nat, (k : Int) < cellOf f len i → atF f len (cellAt f len i + k) = bx f len i := fun k hk => atF_at f len i _ hlt (by omega) (by omega)
      obtain ⟨fr, hfr⟩ : ∃ fr, bx f len i = fr := ⟨_, rfl⟩
      obtain ⟨tt, hto'⟩ : ∃ tt, bx f len (i + 1) = tt := ⟨_, rfl⟩
      obtain ⟨cl, hcl⟩ : ∃ cl, cellAt f len i = cl := ⟨_, rfl⟩
      obtain ⟨wd, hwd⟩ : ∃ wd, cellOf f len i = wd := ⟨_, rfl⟩
      rw [hcs] at e2
      simp only [hfr, hto', hcl, hwd] at c0 c1 hup hto hcb hob hco e1 e2 e3 e4
      have HCO := Lib.hid hco
      have E1 := Lib.hid e1
      have E2 := Lib.hid e2
      have E3 := Lib.hid e3
      have E4 := Lib.hid e4
      clear hfr hto' hcl hwd hcs hco e1 e2 e3 e4
      have s1 : ¬ ((fr : Int) < 0) := by omega
      have s2 : ¬ ((tt : Int) ≤ (fr : Int)) := by omega
      have s3 : ¬ tt ≤ fr := by omega
      have s4 : ¬ ((len : Int) < (tt : Int)) := by omega
      have s5 : ¬ len < tt := by omega
      have HB0 := Below.refl wr.heap.size wr
      have q1 : (0 : Int) ≤ (i : Int) + 1 := by omega
      have q2 : (i : Int) + 1 < (bnv f len : Int) := by omega
      have q3 : (i : Int) < (bnv f len : Int) := by omega
      have q4 : (0 : Int) ≤ (i : Int) := by omega
      have q5 : IntKind.i64.wrap ((i : Int) + 1) = (i : Int) + 1 := by rw [IntKind.wrap_i64]; omega
      go_wp2_with fail
      go_region_held3 (fun w' => w'.cell? ⟨gb, off + i, none⟩ = some (.int .i64 fr) ∧ w'.cell? ⟨gb, off + (i + 1), none⟩ = some (.int .i64 tt) ∧ Below wr.heap.size wr w')
        (first | exact ⟨c0, c1, HB0.drew⟩ | go_keep) (fail)
      have hd : Below wr.heap.size wr wr.drew := (Below.refl _ _).drew
      replace HO := Lib.hid (HO.out.later hd)
      replace HI := Lib.hid (HI.out.later hd)
      replace HB := Lib.hid (vbt HB.out hd)
      generalize wr.drew = wq at *
      clear hd HB0 c0 c1 q1 q2 q4 q5
      go_wp2_with fail
      go_loopg [8, 9] (tt - fr) (fun g sv kv wr => ∃ m km : Nat, m + g = tt - fr ∧ fr + m = km ∧ sv = .int .i64 (sumW (fun k => f (k + fr)) m) ∧ kv = .int .i64 km ∧ IsInts wr so len f ∧ IsInts wr (some ⟨gb, off, none⟩) (bnv f len) (fun i => ((bx f len i : Nat) : Int)) ∧ Below w.heap.size w wr)
      case atStart => exact ⟨0, fr, by omega, by omega, rfl, rfl, HO.out, HI.out, HB.out⟩
      case round =>
        obtain ⟨m, km, hm, hkm, rfl, rfl, ho, hi, hb⟩ := hrel
        replace HO := Lib.hid ho
        replace HI := Lib.hid hi
        replace HB := Lib.hid hb
        clear ho hi hb
        by_cases hlt2 : m < tt - fr
        · subst hkm
          obtain ⟨b, lo, rfl, hcell⟩ := HR.out.at HB.out (show fr + m < len by omega)
          have hsk := sumW_bd (fun k => f (k + fr)) m
          have hwk := width_bd (f (fr + m))
          have hs1 : sumW (fun k => f (k + fr)) m + widthF (f (fr + m)) = sumW (fun k => f (k + fr)) (m + 1) := by rw [Nat.add_comm fr m]; rfl
          have HS1 := Lib.hid hs1
          clear hs1
          generalize f (fr + m) = x at *
          generalize sumW (fun k => f (k + fr)) m = sk at *
          obtain ⟨km, hkm⟩ : ∃ km, fr + m = km := ⟨_, rfl⟩
          rw [hkm] at hcell ⊢
          have HKM := Lib.hid hkm
          have hkl : km < tt := by omega
          clear hkm
          go_wp2_with fail
          refine (width_any x _).mono ?_
          rintro e w7 ⟨rfl, hb⟩
          replace HO := Lib.hid (HO.out.later hb)
          replace HI := Lib.hid (HI.out.later hb)
          replace HB := Lib.hid (vbt HB.out hb)
          clear hb hcell
          go_wp2
          go_roundg (gk - 1)
          case measure => omega
          case rel => exact ⟨m + 1, km + 1, by omega, by have := HKM.out; omega, by rw [HS1.out], by go_num, HO.out, HI.out, HB.out⟩
        · obtain rfl : m = tt - fr := by omega
          have hsb := sumW_bd (fun k => f (k + fr)) (tt - fr)
          have hco := HCO.out
          unfold cellW at hco
          obtain ⟨sk, hsk⟩ : ∃ sk, sumW (fun k => f (k + fr)) (tt - fr) = sk := ⟨_, rfl⟩
          rw [hsk] at hsb hco ⊢
          obtain rfl : tt = km := by omega
          have HSK := Lib.hid hsk
          have HCO2 := Lib.hid hco
          clear hsk hco
          go_wp2_with fail
          refine (cell_any so len co f _ _ (by omega) hc HO.out).mono ?_
          rintro e w8 ⟨rfl, hb⟩
          rw [E1.out]
          replace HB := Lib.hid (vbt HB.out hb)
          replace HO := Lib.hid (HO.out.later hb)
          replace HI := Lib.hid (HI.out.later hb)
          clear hb
          have r1 : IntKind.i64.wrap ((tt : Int) - fr) = (tt : Int) - fr := by rw [IntKind.wrap_i64]; omega
          have r2 : IntKind.i64.wrap (cl + wd) = cl + wd := by rw [IntKind.wrap_i64]; omega
          have r3 : IntKind.i64.wrap ((tt : Int) - 1) = (tt : Int) - 1 := by rw [IntKind.wrap_i64]; omega
          by_cases hone : 1 < tt - fr
          · have hco := HCO2.out
            rw [if_pos hone] at hco
            have r4 : (if 2 < sk then 2 else sk) = wd := by rw [hco]; split <;> omega
            have r5 : (1 : Int) < (tt : Int) - fr := by omega
            clear hco HSK HCO2 HCO
            go_wp2_with fail
            refine (cell_any so len co f _ _ (by omega) hc HO.out).mono ?_
            rintro e w9 ⟨rfl, hb⟩
            rw [E2.out]
            replace HB := Lib.hid (vbt HB.out hb)
            replace HO := Lib.hid (HO.out.later hb)
            replace HI := Lib.hid (HI.out.later hb)
            clear hb
            go_wp2_with fail
            refine (cell_any so len co f _ _ (by omega) hc HO.out).mono ?_
            rintro e w10 ⟨rfl, hb⟩
            rw [E3.out]
            replace HB := Lib.hid (vbt HB.out hb)
            replace HO := Lib.hid (HO.out.later hb)
            replace HI := Lib.hid (HI.out.later hb)
            clear hb
            go_wp2_with fail
            go_loopg [11] wd.toNat (fun g kv wr => ∃ m : Nat, m + g = wd.toNat ∧ kv = .int .i64 (cl + m) ∧ IsInts wr so len f ∧ IsInts wr (some ⟨gb, off, none⟩) (bnv f len) (fun i => ((bx f len i : Nat) : Int)) ∧ Below w.heap.size w wr)
            case atStart => exact ⟨0, by omega, by go_num, HO.out, HI.out, HB.out⟩
            case round =>
              obtain ⟨m, hm, rfl, ho, hi, hb⟩ := hrel
              replace HO := Lib.hid ho
              replace HI := Lib.hid hi
              replace HB := Lib.hid hb
              clear ho hi hb
              by_cases hlt3 : m < wd.toNat
              · have hm3 : cl + (m : Int) < cl + wd := by omega
                go_wp2_with fail
                refine (at_any so len co f _ _ (by omega) hc HO.out).mono ?_
                rintro e w11 ⟨rfl, hb⟩
                rw [E4.out m (by omega)]
                replace HB := Lib.hid (vbt HB.out hb)
                replace HO := Lib.hid (HO.out.later hb)
                replace HI := Lib.hid (HI.out.later hb)
                clear hb
                go_wp2
                go_roundg (gk - 1)
                case measure => omega
                case rel => exact ⟨m + 1, by omega, by go_num, HO.out, HI.out, HB.out⟩
              · have hm3 : ¬ (cl + (m : Int) < cl + wd) := by omega
                go_wp2
                go_roundg (bnv f len - 1 - (i + 1))
                case measure => omega
                case rel => exact ⟨i + 1, by omega, by go_num, HO.out, HI.out, HB.out⟩
          · have hco := HCO2.out
            rw [if_neg hone, Nat.zero_add] at hco
            have hsk2 : sk = widthF (f fr) := by
              rw [← HSK.out, show tt - fr = 0 + 1 from by omega]
              show 0 + widthF (f (0 + fr)) = _
              rw [Nat.zero_add]; omega
            have r5 : ¬ ((1 : Int) < (tt : Int) - fr) := by omega
            obtain ⟨b, lo, rfl, hcell⟩ := HR.out.at HB.out (show fr < len by omega)
            by_cases h9 : f fr = 9
            · rw [h9] at hcell
              rw [if_pos h9] at hco
              have r6 : Int.tmod cl 8 = cl % 8 := Int.tmod_eq_emod_of_nonneg (by omega)
              have r7 : IntKind.i64.wrap (8 - cl % 8) = wd := by rw [IntKind.wrap_i64]; omega
              clear hco hsk2 HSK HCO2 HCO
              go_wp2_with fail
              refine (cell_any so len co f _ _ (by omega) hc HO.out).mono ?_
              rintro e w9 ⟨rfl, hb⟩
              rw [E2.out]
              replace HB := Lib.hid (vbt HB.out hb)
              replace HO := Lib.hid (HO.out.later hb)
              replace HI := Lib.hid (HI.out.later hb)
              clear hb
              go_wp2_with fail
              refine (cell_any so len co f _ _ (by omega) hc HO.out).mono ?_
              rintro e w10 ⟨rfl, hb⟩
              rw [E3.out]
              replace HB := Lib.hid (vbt HB.out hb)
              replace HO := Lib.hid (HO.out.later hb)
              replace HI := Lib.hid (HI.out.later hb)
              clear hb
              go_wp2_with fail
              go_loopg [11] wd.toNat (fun g kv wr => ∃ m : Nat, m + g = wd.toNat ∧ kv = .int .i64 (cl + m) ∧ IsInts wr so len f ∧ IsInts wr (some ⟨gb, off, none⟩) (bnv f len) (fun i => ((bx f len i : Nat) : Int)) ∧ Below w.heap.size w wr)
              case atStart => exact ⟨0, by omega, by go_num, HO.out, HI.out, HB.out⟩
              case round =>
                obtain ⟨m, hm, rfl, ho, hi, hb⟩ := hrel
                replace HO := Lib.hid ho
                replace HI := Lib.hid hi
                replace HB := Lib.hid hb
                clear ho hi hb
                by_cases hlt3 : m < wd.toNat
                · have hm3 : cl + (m : Int) < cl + wd := by omega
                  go_wp2_with fail
                  refine (at_any so len co f _ _ (by omega) hc HO.out).mono ?_
                  rintro e w11 ⟨rfl, hb⟩
                  rw [E4.out m (by omega)]
                  replace HB := Lib.hid (vbt HB.out hb)
                  replace HO := Lib.hid (HO.out.later hb)
                  replace HI := Lib.hid (HI.out.later hb)
                  clear hb
                  go_wp2
                  go_roundg (gk - 1)
                  case measure => omega
                  case rel => exact ⟨m + 1, by omega, by go_num, HO.out, HI.out, HB.out⟩
                · have hm3 : ¬ (cl + (m : Int) < cl + wd) := by omega
                  go_wp2
                  go_roundg (bnv f len - 1 - (i + 1))
                  case measure => omega
                  case rel => exact ⟨i + 1, by omega, by go_num, HO.out, HI.out, HB.out⟩
            · rw [if_neg h9, ← hsk2] at hco
              subst hco
              have h9' : (f fr == 9) = false := by simpa using h9
              generalize f fr = x at *
              clear hsk2 HSK HCO2 HCO
              go_wp2_with fail
              refine (cell_any so len co f _ _ (by omega) hc HO.out).mono ?_
              rintro e w9 ⟨rfl, hb⟩
              rw [E2.out]
              replace HB := Lib.hid (vbt HB.out hb)
              replace HO := Lib.hid (HO.out.later hb)
              replace HI := Lib.hid (HI.out.later hb)
              clear hb
              go_wp2_with fail
              refine (cell_any so len co f _ _ (by omega) hc HO.out).mono ?_
              rintro e w10 ⟨rfl, hb⟩
              rw [E3.out]
              replace HB := Lib.hid (vbt HB.out hb)
              replace HO := Lib.hid (HO.out.later hb)
              replace HI := Lib.hid (HI.out.later hb)
              clear hb
              go_wp2_with fail
              go_loopg [11] wd.toNat (fun g kv wr => ∃ m : Nat, m + g = wd.toNat ∧ kv = .int .i64 (cl + m) ∧ IsInts wr so len f ∧ IsInts wr (some ⟨gb, off, none⟩) (bnv f len) (fun i => ((bx f len i : Nat) : Int)) ∧ Below w.heap.size w wr)
              case atStart => exact ⟨0, by omega, by go_num, HO.out, HI.out, HB.out⟩
              case round =>
                obtain ⟨m, hm, rfl, ho, hi, hb⟩ := hrel
                replace HO := Lib.hid ho
                replace HI := Lib.hid hi
                replace HB := Lib.hid hb
                clear ho hi hb
                by_cases hlt3 : m < wd.toNat
                · have hm3 : cl + (m : Int) < cl + wd := by omega
                  go_wp2_with fail
                  refine (at_any so len co f _ _ (by omega) hc HO.out).mono ?_
                  rintro e w11 ⟨rfl, hb⟩
                  rw [E4.out m (by omega)]
                  replace HB := Lib.hid (vbt HB.out hb)
                  replace HO := Lib.hid (HO.out.later hb)
                  replace HI := Lib.hid (HI.out.later hb)
                  clear hb
                  go_wp2
                  go_roundg (gk - 1)
                  case measure => omega
                  case rel => exact ⟨m + 1, by omega, by go_num, HO.out, HI.out, HB.out⟩
                · have hm3 : ¬ (cl + (m : Int) < cl + wd) := by omega
                  go_wp2
                  go_roundg (bnv f len - 1 - (i + 1))
                  case measure => omega
                  case rel => exact ⟨i + 1, by omega, by go_num, HO.out, HI.out, HB.out⟩
    · obtain rfl : i = bnv f len - 1 := by omega
      have hcb := cellAt_bd f len (bnv f len - 1)
      have q2 : ¬ (((bnv f len - 1 : Nat) : Int) + 1 < (bnv f len : Int)) := by omega
      have e1 := cellF_end f len len (by omega)
      have e2 := cellF_end f len (len + 9) (by omega)
      have e3 := atF_out f len (cellAt f len (bnv f len - 1)) (by omega)
      have e4 := atF_out f len (cellAt f len (bnv f len - 1) + 9) (by omega)
      obtain ⟨al, hal⟩ : ∃ al, cellAt f len (bnv f len - 1) = al := ⟨_, rfl⟩
      rw [hal] at hcb e1 e2 e3 e4
      have E1 := Lib.hid e1
      have E2 := Lib.hid e2
      have E3 := Lib.hid e3
      have E4 := Lib.hid e4
      clear hal e1 e2 e3 e4
      have r1 : IntKind.i64.wrap (al + 9) = al + 9 := by rw [IntKind.wrap_i64]; omega
      have r2 : IntKind.i64.wrap ((len : Int) + 9) = (len : Int) + 9 := by rw [IntKind.wrap_i64]; omega
      go_wp2_with fail
      refine (cell_any so len co f _ _ (by omega) hc HO.out).mono ?_
      rintro e w7 ⟨rfl, hb⟩
      rw [E1.out]
      replace HB := Lib.hid (vbt HB.out hb)
      replace HO := Lib.hid (HO.out.later hb)
      clear hb HI
      go_wp2_with fail
      refine (at_any so len co f _ _ (by omega) hc HO.out).mono ?_
      rintro e w8 ⟨rfl, hb⟩
      rw [E3.out]
      replace HB := Lib.hid (vbt HB.out hb)
      replace HO := Lib.hid (HO.out.later hb)
      clear hb
      go_wp2_with fail
      refine (at_any so len co f _ _ (by omega) hc HO.out).mono ?_
      rintro e w9 ⟨rfl, hb⟩
      rw [E4.out]
      replace HB := Lib.hid (vbt HB.out hb)
      replace HO := Lib.hid (HO.out.later hb)
      clear hb
      go_wp2_with fail
      refine (cell_any so len co f _ _ (by omega) hc HO.out).mono ?_
      rintro e w10 ⟨rfl, hb⟩
      rw [E2.out]
      replace HB := Lib.hid (vbt HB.out hb)
      clear hb
      go_wp2
      go_ret
      exact ⟨ret_bool (by first | rfl | simp), HB.out⟩
end Go.Proofs.Ytplgpnmahblhbaa
