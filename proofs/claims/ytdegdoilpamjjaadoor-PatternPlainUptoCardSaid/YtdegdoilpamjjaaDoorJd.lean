/- Contracts of the pattern's reader: number, hex. Condition: no more than 2^30 ints. -/
import Derived.Test.YtdegdoilpamjjaaDoorJc
namespace Go.Proofs.YtdegdoilpamjjaaDoor
open Go.RowKit
set_option linter.unusedVariables false
set_option linter.unusedSimpArgs false
theorem RdM.touch {w w' : World} {rb : Nat} {sl : Option Addr} {n c : Nat} {src : List Int} {s s' : RS} {fold : Bool} (h : RdM w rb sl n c src s fold) (ht : Touch (fun b => b = rb) w w') (hb : RdB w' rb sl n c s' fold) (hat : s'.at' ≤ n) : RdM w' rb sl n c src s' fold := by
  refine ⟨hb, h.len, ?_, h.ne, hat, h.n30⟩
  rcases h.src with h0 | ⟨b', o', e, hb', hc'⟩
  · exact .inl h0
  · exact .inr ⟨b', o', e, Nat.lt_of_lt_of_le hb' ht.size, fun i hi => (World.cell?_of_block (w := w) (ht.block b' hb' (h.ne _ e))).trans (hc' i hi)⟩
/-- the place one further -/
theorem RdM.step {w : World} {rb : Nat} {sl : Option Addr} {n c : Nat} {src : List Int} {s : RS} {fold : Bool} (h : RdM w rb sl n c src s fold) (k : Nat) (hk : s.at' + k ≤ n) : RdM (w.setCell ⟨rb, 1, none⟩ (.int .i64 ((s.at' + k : Nat) : Int))) rb sl n c src { s with at' := s.at' + k } fold :=
  h.touch (Touch.setCell (fun b => b = rb) w (p := ⟨rb, 1, none⟩) rfl _) (by unfold RdB; rw [block_set _ h.blk]; rfl) hk
theorem pk_digit {src : List Int} {a : Nat} (h : 48 ≤ pk src a 0) : a < src.length := by
  unfold pk at h
  split at h
  · omega
  · omega
set_option maxRecDepth 100000 in
set_option maxHeartbeats 4000000 in
theorem number_c (rb : Nat) (sl : Option Addr) (n c : Nat) (src : List Int) (s : RS) (fold : Bool) (w : World) (h : RdM w rb sl n c src s fold) :
    Calls Tryd.prog 79 #[.pointer (some ⟨rb, 0, none⟩)] w (RdP w rb sl n c src fold (numP' src s) (fun x w' v => v = .int .i64 x ∧ -1 ≤ x ∧ x ≤ 255)) := by
  obtain ⟨R, hR⟩ : ∃ R, numP' src s = R := ⟨_, rfl⟩
  rw [hR]
  have HR := Lib.hid hR
  have H := Lib.hid h
  have HP := Lib.hid (fun (W : World) (s1 : RS) (hW : RdM W rb sl n c src s1 fold) => (show Calls Tryd.prog 68 #[.pointer (some ⟨rb, 0, none⟩), .int .i64 0] W fun e w' => e = .returned (.int .i64 (pk src s1.at' 0)) ∧ ∃ m, w' = W.drewN m from peek_c rb sl n c src s1 fold 0 W hW (by decide)))
  have hn30 := h.n30
  have HLEN := Lib.hid h.len
  clear hR h
  go_enter Tryd.func79, Tryd.ntmps79
  go_wp2_with fail
  refine (HP.out w s H.out).mono ?_
  rintro e w1 ⟨rfl, m1, rfl⟩
  have H1 := Lib.hid (H.out.drewN m1)
  go_wp2_with fail
  go_loopg [3, 4] (n - s.at') (fun gg mv cv wr => ∃ (s1 : RS) (m : Int) (f : Nat), n - s1.at' = gg ∧ mv = .int .i64 m ∧ cv = .int .i64 (pk src s1.at' 0) ∧ -1 ≤ m ∧ m ≤ 255 ∧ n - s1.at' < f ∧ numR src f m s1 = R ∧ RdM wr rb sl n c src s1 fold ∧ Touch (fun b => b = rb) w wr)
  case atStart => exact ⟨s, -1, src.length + 1, rfl, rfl, rfl, by omega, by omega, by have := HLEN.out; omega, HR.out, H1.out, touch_drewN (Touch.refl _ _)⟩
  case round =>
    clear H H1
    obtain ⟨s1, m, f, hg, rfl, rfl, hm0, hm1, hf, hnr, hrm, htw⟩ := hrel
    obtain ⟨f', rfl⟩ : ∃ f', f = f' + 1 := ⟨f - 1, by omega⟩
    have HM := Lib.hid hrm
    have HT := Lib.hid htw
    obtain ⟨x, hx⟩ : ∃ x, pk src s1.at' 0 = x := ⟨_, rfl⟩
    have hnr2 : (if 48 ≤ x ∧ x ≤ 57 then (if 255 < max m 0 * 10 + x - 48 then .error s1.at' else numR src f' (max m 0 * 10 + x - 48) { s1 with at' := s1.at' + 1 }) else .ok (m, s1)) = R := by
      rw [← hx]; exact hnr
    have HNR := Lib.hid hnr2
    rw [hx]
    have b1 : wr.cell? ⟨rb, 1, none⟩ = some (.int .i64 s1.at') := block_cell hrm.blk
    have f1 : wr.frozen? ⟨rb, 1, none⟩ = false := block_free hrm.blk
    clear hrm htw hnr hnr2
    by_cases hd : 48 ≤ x ∧ x ≤ 57
    · have hlt : s1.at' < n := by rw [← HLEN.out]; exact pk_digit (by rw [hx]; exact hd.1)
      obtain ⟨q1, q2⟩ := hd
      obtain ⟨mm, hmm⟩ : ∃ mm, max m 0 = mm := ⟨_, rfl⟩
      have hmm0 : 0 ≤ mm ∧ mm ≤ 255 := by omega
      have hmm1 : (if m < 0 then 0 else m) = mm := by rw [← hmm]; split <;> omega
      obtain ⟨a, ha⟩ : ∃ a, s1.at' = a := ⟨_, rfl⟩
      have HA := Lib.hid ha
      rw [ha] at b1 hlt
      clear ha
      by_cases hv : 255 < mm * 10 + x - 48
      · have hr : R = .error a := by
          rw [← HNR.out, if_pos ⟨q1, q2⟩, hmm, if_pos hv, HA.out]
        subst hr
        clear hmm HNR HR
        go_wp2
        exact ⟨rfl, HT.out, rfl⟩
      · have hr : numR src f' (mm * 10 + x - 48) { s1 with at' := s1.at' + 1 } = R := by
          rw [← HNR.out, if_pos ⟨q1, q2⟩, hmm, if_neg hv]
        have HR2 := Lib.hid hr
        have HS := Lib.hid (HM.out.step 1 (by rw [HA.out]; omega))
        have hv2 : ¬ 255 < mm * 10 + x - 48 := hv
        have ht1 := Touch.setCell (fun b => b = rb) wr (p := ⟨rb, 1, none⟩) rfl (.int .i64 ((a + 1 : Nat) : Int))
        have HTS := Lib.hid (HT.out.trans ht1 (fun y hy => .inl hy))
        rw [HA.out] at HS
        have ec : ((a + 1 : Nat) : Int) = (a : Int) + 1 := by omega
        rw [ec] at HS HTS
        clear hmm hr ht1 HNR HR ec
        have hgk : n - (a + 1) < gk := by rw [HA.out] at hg; omega
        have hfk : n - (a + 1) < f' := by rw [HA.out] at hf; omega
        rw [HA.out] at HR2
        go_wp2_with fail
        refine (HP.out (wr.setCell ⟨rb, 1, none⟩ (.int .i64 ((a : Int) + 1))) { s1 with at' := a + 1 } HS.out).mono ?_
        rintro e w2 ⟨rfl, m2, rfl⟩
        go_wp2
        go_roundg (n - (a + 1))
        case measure => exact hgk
        case rel => exact ⟨{ s1 with at' := a + 1 }, mm * 10 + x - 48, f', rfl, rfl, rfl, by omega, by omega, hfk, HR2.out, HS.out.drewN m2, touch_drewN HTS.out⟩
    · have hr : R = .ok (m, s1) := by rw [← HNR.out, if_neg hd]
      subst hr
      have HM2 := HM.out
      have hdd : x < 48 ∨ 57 < x := by omega
      clear HNR HR
      rcases hdd with hdd | hdd
      · go_wp2
        go_ret
        exact ⟨HT.out, ⟨_, rfl, rfl, hm0, hm1⟩, HM2⟩
      · by_cases h48 : 48 ≤ x
        · go_wp2
          go_ret
          exact ⟨HT.out, ⟨_, rfl, rfl, hm0, hm1⟩, HM2⟩
        · omega
theorem digP_hex (c : Int) : digP c = hexV c := rfl
theorem pow_pos16 (i : Nat) : (0 : Int) < 16 ^ i := by
  induction i with
  | zero => decide
  | succ i ih => rw [Int.pow_succ]; omega
set_option maxRecDepth 100000 in
set_option maxHeartbeats 8000000 in
theorem hex_c (count : Nat) (hc : count ≤ 6) (top : Int) (ht0 : 0 ≤ top) (ht1 : top < 2000000) (rb : Nat) (sl : Option Addr) (n c : Nat) (src : List Int) (s : RS) (fold : Bool) (w : World) (h : RdM w rb sl n c src s fold) :
    Calls Tryd.prog 85 #[.pointer (some ⟨rb, 0, none⟩), .int .i64 count, .int .i64 top] w (RdP w rb sl n c src fold (hexP src top count 0 s) (fun x w' v => v = .int .i64 x ∧ 0 ≤ x ∧ x ≤ top)) := by
  obtain ⟨R, hR⟩ : ∃ R, hexP src top count 0 s = R := ⟨_, rfl⟩
  rw [hR]
  have HR := Lib.hid hR
  have H := Lib.hid h
  have hn30 := h.n30
  have HLEN := Lib.hid h.len
  clear hR h
  go_enter Tryd.func85, Tryd.ntmps85
  go_wp2_with fail
  go_loopg [7, 8] count (fun gg mv lv wr => ∃ (s1 : RS) (m : Int) (i : Nat), i = gg ∧ i ≤ count ∧ mv = .int .i64 m ∧ lv = .int .i64 (4 * (i : Int) - 4) ∧ 0 ≤ m ∧ m ≤ top ∧ hexP src top i m s1 = R ∧ RdM wr rb sl n c src s1 fold ∧ Touch (fun b => b = rb) w wr)
  case atStart => exact ⟨s, 0, count, rfl, Nat.le_refl _, rfl, by go_num, by omega, ht0, HR.out, H.out, Touch.refl _ _⟩
  case round =>
    clear H HR
    obtain ⟨s1, m, i, hi, hic, rfl, rfl, hm0, hm1, hx, hrm, htw⟩ := hrel
    have HM := Lib.hid hrm
    have HT := Lib.hid htw
    have HX := Lib.hid hx
    clear hrm htw hx
    cases i with
    | zero =>
      have hr : R = .ok (m, s1) := HX.out.symm
      subst hr
      have HM2 := HM.out
      have q1 : ¬ (0 : Int) ≤ 4 * ((0 : Nat) : Int) - 4 := by omega
      go_wp2
      go_ret
      exact ⟨HT.out, ⟨_, rfl, rfl, hm0, hm1⟩, HM2⟩
    | succ j =>
      have q1 : (0 : Int) ≤ 4 * ((j + 1 : Nat) : Int) - 4 := by omega
      go_wp2_with fail
      refine (next_c rb sl n c src s1 fold wr HM.out).mono ?_
      rintro e w2 ⟨ht2, h2⟩
      have hx2 : (match nx src s1 with | .error e => .error e | .ok (c, s1) => if digP c < 0 ∨ top < (m * 16 + digP c) * 16 ^ j then .error (s1.at' - 1) else hexP src top j (m * 16 + digP c) s1) = R := HX.out
      cases hnx : nx src s1 with
      | error k =>
        rw [hnx] at h2 hx2
        have h2 : e = .panicked [wrongP k] := h2
        subst h2
        subst hx2
        go_wp2
        exact ⟨rfl, HT.out.trans ht2 (fun y hy => .inl hy), rfl⟩
      | ok r =>
        obtain ⟨y, s2⟩ := r
        rw [hnx] at h2 hx2
        obtain ⟨⟨v, rfl, rfl⟩, hrm2⟩ := h2
        have HM2 := Lib.hid hrm2
        have HT2 := Lib.hid (HT.out.trans ht2 (fun y hy => .inl hy))
        have hs2 : s2.at' = s1.at' + 1 := by
          unfold nx at hnx
          split at hnx
          · cases hnx
          · injection hnx with hnx
            injection hnx with _ hnx
            rw [← hnx]
        have HS2 := Lib.hid hs2
        simp only [digP_hex] at hx2
        have hd := hexV_le y
        have HDG := Lib.hid (digit_any y w2)
        obtain ⟨d, hdd⟩ : ∃ d, hexV y = d := ⟨_, rfl⟩
        simp only [hdd] at hx2
        rw [hdd] at hd HDG
        have HX2 := Lib.hid hx2
        clear hrm2 ht2 hx2 hnx hs2 hdd HM HT HX
        go_wp2_with fail
        refine HDG.out.mono ?_
        rintro e w3 ⟨rfl, rfl⟩
        have hj6 : j = 0 ∨ j = 1 ∨ j = 2 ∨ j = 3 ∨ j = 4 ∨ j = 5 := by omega
        obtain ⟨a, ha⟩ : ∃ a, s1.at' = a := ⟨_, rfl⟩
        have b1 : w2.cell? ⟨rb, 1, none⟩ = some (.int .i64 ((a : Int) + 1)) := by
          have h := block_cell (i := 1) HM2.out.blk
          rw [HS2.out, ha] at h
          exact h
        have han : a < 1073741824 := by have := HM2.out.at'; rw [HS2.out, ha] at this; omega
        rw [ha] at HS2
        clear ha
        by_cases hd0 : d < 0
        · have hr : R = .error a := by rw [← HX2.out, if_pos (.inl hd0), HS2.out]; rfl
          subst hr
          go_wp2
          exact ⟨rfl, HT2.out, rfl⟩
        rcases hj6 with rfl | rfl | rfl | rfl | rfl | rfl
        · subst hi
          have hb1 : ((16 : Int) ^ 0) = 1 := by decide
          by_cases hv : top < (m * 16 + d) * 1
          · have hr : R = .error a := by rw [← HX2.out, if_pos (.inr (by rw [hb1]; exact hv)), HS2.out]; rfl
            subst hr
            clear hb1
            go_wp2
            exact ⟨rfl, HT2.out, rfl⟩
          · have hr : hexP src top 0 (m * 16 + d) s2 = R := by rw [← HX2.out, if_neg (by rw [hb1]; intro h; rcases h with h | h; exact hd0 h; exact hv h)]
            have HR3 := Lib.hid hr
            have HM3 := Lib.hid HM2.out
            clear hr hb1
            go_wp2
            go_roundg 0
            case measure => omega
            case rel => exact ⟨s2, m * 16 + d, 0, rfl, by omega, rfl, by go_num, by omega, by omega, HR3.out, HM3.out, HT2.out⟩
        · subst hi
          have hb1 : ((16 : Int) ^ 1) = 16 := by decide
          by_cases hv : top < (m * 16 + d) * 16
          · have hr : R = .error a := by rw [← HX2.out, if_pos (.inr (by rw [hb1]; exact hv)), HS2.out]; rfl
            subst hr
            clear hb1
            go_wp2
            exact ⟨rfl, HT2.out, rfl⟩
          · have hr : hexP src top 1 (m * 16 + d) s2 = R := by rw [← HX2.out, if_neg (by rw [hb1]; intro h; rcases h with h | h; exact hd0 h; exact hv h)]
            have HR3 := Lib.hid hr
            have HM3 := Lib.hid HM2.out
            clear hr hb1
            go_wp2
            go_roundg 1
            case measure => omega
            case rel => exact ⟨s2, m * 16 + d, 1, rfl, by omega, rfl, by go_num, by omega, by omega, HR3.out, HM3.out, HT2.out⟩
        · subst hi
          have hb1 : ((16 : Int) ^ 2) = 256 := by decide
          by_cases hv : top < (m * 16 + d) * 256
          · have hr : R = .error a := by rw [← HX2.out, if_pos (.inr (by rw [hb1]; exact hv)), HS2.out]; rfl
            subst hr
            clear hb1
            go_wp2
            exact ⟨rfl, HT2.out, rfl⟩
          · have hr : hexP src top 2 (m * 16 + d) s2 = R := by rw [← HX2.out, if_neg (by rw [hb1]; intro h; rcases h with h | h; exact hd0 h; exact hv h)]
            have HR3 := Lib.hid hr
            have HM3 := Lib.hid HM2.out
            clear hr hb1
            go_wp2
            go_roundg 2
            case measure => omega
            case rel => exact ⟨s2, m * 16 + d, 2, rfl, by omega, rfl, by go_num, by omega, by omega, HR3.out, HM3.out, HT2.out⟩
        · subst hi
          have hb1 : ((16 : Int) ^ 3) = 4096 := by decide
          by_cases hv : top < (m * 16 + d) * 4096
          · have hr : R = .error a := by rw [← HX2.out, if_pos (.inr (by rw [hb1]; exact hv)), HS2.out]; rfl
            subst hr
            clear hb1
            go_wp2
            exact ⟨rfl, HT2.out, rfl⟩
          · have hr : hexP src top 3 (m * 16 + d) s2 = R := by rw [← HX2.out, if_neg (by rw [hb1]; intro h; rcases h with h | h; exact hd0 h; exact hv h)]
            have HR3 := Lib.hid hr
            have HM3 := Lib.hid HM2.out
            clear hr hb1
            go_wp2
            go_roundg 3
            case measure => omega
            case rel => exact ⟨s2, m * 16 + d, 3, rfl, by omega, rfl, by go_num, by omega, by omega, HR3.out, HM3.out, HT2.out⟩
        · subst hi
          have hb1 : ((16 : Int) ^ 4) = 65536 := by decide
          by_cases hv : top < (m * 16 + d) * 65536
          · have hr : R = .error a := by rw [← HX2.out, if_pos (.inr (by rw [hb1]; exact hv)), HS2.out]; rfl
            subst hr
            clear hb1
            go_wp2
            exact ⟨rfl, HT2.out, rfl⟩
          · have hr : hexP src top 4 (m * 16 + d) s2 = R := by rw [← HX2.out, if_neg (by rw [hb1]; intro h; rcases h with h | h; exact hd0 h; exact hv h)]
            have HR3 := Lib.hid hr
            have HM3 := Lib.hid HM2.out
            clear hr hb1
            go_wp2
            go_roundg 4
            case measure => omega
            case rel => exact ⟨s2, m * 16 + d, 4, rfl, by omega, rfl, by go_num, by omega, by omega, HR3.out, HM3.out, HT2.out⟩
        · subst hi
          have hb1 : ((16 : Int) ^ 5) = 1048576 := by decide
          by_cases hv : top < (m * 16 + d) * 1048576
          · have hr : R = .error a := by rw [← HX2.out, if_pos (.inr (by rw [hb1]; exact hv)), HS2.out]; rfl
            subst hr
            clear hb1
            go_wp2
            exact ⟨rfl, HT2.out, rfl⟩
          · have hr : hexP src top 5 (m * 16 + d) s2 = R := by rw [← HX2.out, if_neg (by rw [hb1]; intro h; rcases h with h | h; exact hd0 h; exact hv h)]
            have HR3 := Lib.hid hr
            have HM3 := Lib.hid HM2.out
            clear hr hb1
            go_wp2
            go_roundg 5
            case measure => omega
            case rel => exact ⟨s2, m * 16 + d, 5, rfl, by omega, rfl, by go_num, by omega, by omega, HR3.out, HM3.out, HT2.out⟩
end Go.Proofs.YtdegdoilpamjjaaDoor
