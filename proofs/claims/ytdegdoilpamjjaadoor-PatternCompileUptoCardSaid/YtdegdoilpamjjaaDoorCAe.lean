/- Contracts of the document's reader of patterns: hex. Condition: no more than 2^30 ints. -/
import Derived.Test.YtdegdoilpamjjaaDoorCAd
namespace Go.Proofs.YtdegdoilpamjjaaDoor
open Go.RowKit
set_option linter.unusedVariables false
set_option linter.unusedSimpArgs false
theorem digP_cases (x : Int) : (48 ≤ x ∧ x ≤ 57 ∧ digP x = x - 48) ∨ (97 ≤ x ∧ x ≤ 102 ∧ digP x = x - 97 + 10) ∨ (65 ≤ x ∧ x ≤ 70 ∧ digP x = x - 65 + 10) ∨ (x < 48 ∧ digP x = -1) ∨ (57 < x ∧ x < 65 ∧ digP x = -1) ∨ (70 < x ∧ x < 97 ∧ digP x = -1) ∨ (102 < x ∧ digP x = -1) := by
 unfold digP
 split
 · rename_i h; exact .inl ⟨h.1, h.2, rfl⟩
 ·
  split
  · rename_i h; exact .inr (.inl ⟨h.1, h.2, by omega⟩)
  ·
   split
   · rename_i h; exact .inr (.inr (.inl ⟨h.1, h.2, by omega⟩))
   ·
    rename_i h1 h2 h3
    rcases (show x < 48 ∨ (57 < x ∧ x < 65) ∨ (70 < x ∧ x < 97) ∨ 102 < x by omega) with e | ⟨e, e'⟩ | ⟨e, e'⟩ | e
    · exact .inr (.inr (.inr (.inl ⟨e, rfl⟩)))
    · exact .inr (.inr (.inr (.inr (.inl ⟨e, e', rfl⟩))))
    · exact .inr (.inr (.inr (.inr (.inr (.inl ⟨e, e', rfl⟩)))))
    · exact .inr (.inr (.inr (.inr (.inr (.inr ⟨e, rfl⟩)))))
theorem pow16_b (t : Nat) (h : t ≤ 5) : (1 : Int) ≤ 16 ^ t ∧ (16 : Int) ^ t ≤ 1048576 := by
 rcases (show t = 0 ∨ t = 1 ∨ t = 2 ∨ t = 3 ∨ t = 4 ∨ t = 5 by omega) with rfl | rfl | rfl | rfl | rfl | rfl <;> decide
theorem mul_b {L P : Int} (h1 : -1 ≤ L) (h2 : L ≤ 33000000) (h3 : 1 ≤ P) (h4 : P ≤ 1048576) : -1048576 ≤ L * P ∧ L * P ≤ 34603008000000 := by
 rcases (show L = -1 ∨ 0 ≤ L by omega) with rfl | h
 · omega
 ·
  have a1 : L * P ≤ L * 1048576 := Int.mul_le_mul_of_nonneg_left h4 h
  have a2 : 0 ≤ L * P := Int.mul_nonneg h (by omega)
  omega
set_option maxRecDepth 100000 in
set_option maxHeartbeats 8000000 in
theorem hex_f (count : Nat) (hc : count ≤ 6) (top : Int) (ht0 : 0 ≤ top) (ht1 : top < 2000000) (rb pb : Nat) (sl : Option Addr) (n c : Nat) (src : List Int) (s : RS) (w : World) (h : FrM w rb pb sl n c src s.at' false) :
  Calls Tryd.prog 61 #[.pointer (some ⟨rb, 0, none⟩), .int .i64 count, .int .i64 top] w (FrP w rb pb sl n c src (hexP src top count 0 s) (fun x v => v = .int .i64 x ∧ 0 ≤ x ∧ x ≤ top) (fun v => v = .int .i64 (-1))) := by
 obtain ⟨R, hR⟩ : ∃ R, hexP src top count 0 s = R := ⟨_, rfl⟩
 rw [hR]
 have HR := Lib.hid hR
 have H := Lib.hid h
 have hn30 := h.n30
 have HLEN := Lib.hid h.len
 clear hR h
 go_enter Tryd.func61, Tryd.ntmps61
 go_wp2_with fail
 go_loopg [7, 8, 9, 10, 11, 12] count (fun gg mv iv _ _ _ _ wr => ∃ (s1 : RS) (m : Int) (i : Nat), i + gg = count ∧ mv = .int .i64 m ∧ iv = .int .i64 i ∧ 0 ≤ m ∧ m ≤ top ∧ hexP src top gg m s1 = R ∧ FrM wr rb pb sl n c src s1.at' false ∧ Touch (fun b => b = rb) w wr)
 case atStart => exact ⟨s, 0, 0, by omega, rfl, rfl, by omega, ht0, HR.out, H.out, Touch.refl _ _⟩
 case round =>
  clear H HR
  obtain ⟨s1, m, i, hi, rfl, rfl, hm0, hm1, hx, hrm, htw⟩ := hrel
  have HM := Lib.hid hrm
  have HT := Lib.hid htw
  have HX := Lib.hid hx
  have hat := hrm.at'
  have b1 : wr.cell? ⟨rb, 1, none⟩ = some (.slice sl n c) := block_cell hrm.blk
  have b2 : wr.cell? ⟨rb, 2, none⟩ = some (.int .i64 s1.at') := block_cell hrm.blk
  have f2 : wr.frozen? ⟨rb, 2, none⟩ = false := block_free hrm.blk
  clear htw hx
  by_cases hlast : gk = 0
  ·
   subst hlast
   have hr : R = .ok (m, s1) := HX.out.symm
   subst hr
   have HM2 := HM.out
   have q1 : ¬ (i : Int) < (count : Int) := by omega
   go_wp2
   go_ret
   exact ⟨HT.out, ⟨_, rfl, rfl, hm0, hm1⟩, HM2⟩
  obtain ⟨j, rfl⟩ : ∃ j, gk = j + 1 := ⟨gk - 1, by omega⟩
  have q1 : (i : Int) < (count : Int) := by omega
  have q0 : IntKind.i64.wrap ((i : Int) + 1) = ((i + 1 : Nat) : Int) := by rw [IntKind.wrap_i64]; omega
  have hx2 : (match nx src s1 with | .error e => .error e | .ok (c, s1) => if digP c < 0 ∨ top < (m * 16 + digP c) * 16 ^ j then .error (s1.at' - 1) else hexP src top j (m * 16 + digP c) s1) = R := HX.out
  clear hlast
  by_cases hlt : s1.at' < n
  ·
   obtain ⟨g, off, hgs, c0⟩ := hrm.src.at (Below.refl _ _) hlt
   have hnx : nx src s1 = .ok (gl src s1.at', { s1 with at' := s1.at' + 1 }) := if_neg (by rw [hrm.len]; omega)
   rw [hnx] at hx2
   obtain ⟨x, hxx⟩ : ∃ x, gl src s1.at' = x := ⟨_, rfl⟩
   obtain ⟨a, ha⟩ : ∃ a, s1.at' = a := ⟨_, rfl⟩
   have hxr : (if digP x < 0 ∨ top < (m * 16 + digP x) * 16 ^ j then .error a else hexP src top j (m * 16 + digP x) { s1 with at' := a + 1 }) = R := by
    rw [← hxx, ← ha]; exact hx2
   rw [hxx] at c0
   rw [ha] at b2 hlt c0 hat
   subst hgs
   have hm2 := HM.out
   rw [ha] at hm2
   have HM3 := Lib.hid hm2
   have HXR := Lib.hid hxr
   have p1 : ¬ (n : Int) ≤ (a : Int) := by omega
   have p2 : (0 : Int) ≤ (a : Int) := by omega
   have p3 : IntKind.i64.wrap ((a : Int) + 1) = (a : Int) + 1 := by rw [IntKind.wrap_i64]; omega
   have p4 : (a : Int) < (n : Int) := by omega
   have HFL := Lib.hid (fun w' (h' : FrM w' rb pb (some ⟨g, off, none⟩) n c src a false) => fail_f rb pb (some ⟨g, off, none⟩) n c src a a (by omega) w' h')
   clear hrm hnx hx2 hxx ha HX hxr hm2 HM
   rcases digP_cases x with ⟨d1, d2, hd⟩ | ⟨d1, d2, hd⟩ | ⟨d1, d2, hd⟩ | ⟨d1, hd⟩ | ⟨d1, d2, hd⟩ | ⟨d1, d2, hd⟩ | ⟨d1, hd⟩
   ·
    have HD := Lib.hid (show digP x = (x - 48) from by omega)
    have hE : -1 ≤ (x - 48) ∧ (x - 48) ≤ 15 := by omega
    obtain ⟨L0, hL0⟩ : ∃ L0, m * 16 + (x - 48) = L0 := ⟨_, rfl⟩
    have HL0 := Lib.hid hL0
    have hL1 : 16 * m + (x - 48) = L0 := by omega
    have hLb : -1 ≤ L0 ∧ L0 ≤ 33000000 := by omega
    clear hd hL0
    go_wp2_with fail
    go_quiet (fail)
    go_wp2_with fail
    go_quiet (fail)
    go_wp2_with fail
    go_loopg [11, 12] j (fun gg lv kv wx => ∃ t : Nat, t + gg = j ∧ lv = .int .i64 (L0 * 16 ^ t) ∧ kv = .int .i64 ((i + 1 + t : Nat) : Int) ∧ ∃ k, wx = wr.drewN k)
    case atStart => exact ⟨0, by omega, by rw [Int.pow_zero, Int.mul_one], by go_num, _, rfl⟩
    case round =>
     obtain ⟨t, ht, rfl, rfl, k, rfl⟩ := hrel
     obtain ⟨P, hP⟩ : ∃ P : Int, (16 : Int) ^ t = P := ⟨_, rfl⟩
     have hPb : 1 ≤ P ∧ P ≤ 1048576 := by rw [← hP]; exact pow16_b t (by omega)
     have hLP : -1048576 ≤ L0 * P ∧ L0 * P ≤ 34603008000000 := mul_b hLb.1 hLb.2 hPb.1 hPb.2
     by_cases hlast : gk = 0
     ·
      subst hlast
      obtain rfl : t = j := by omega
      have q5 : ¬ ((i + 1 + t : Nat) : Int) < (count : Int) := by omega
      rw [hP]
      have hXR := HXR.out
      rw [HD.out, HL0.out, hP] at hXR
      obtain ⟨L, hL⟩ : ∃ L, L0 * P = L := ⟨_, rfl⟩
      rw [hL] at hXR hLP ⊢
      generalize i + 1 + t = ii at q5 ⊢
      by_cases hv : top < L
      ·
       rw [if_pos (.inr hv)] at hXR
       subst hXR
       have hd0 : ¬ (x - 48) < 0 := by omega
       clear hP hPb hL HXR
       go_wp2_with fail
       refine (HFL.out _ (HM3.out.drewN _)).mono ?_
       rintro e w2 ⟨rfl, ht2, h2⟩
       go_wp2
       go_ret
       exact ⟨(touch_drewN HT.out).trans ht2 (fun y hy => .inl hy), ⟨_, rfl, rfl⟩, h2⟩
      ·
       rw [if_neg (by intro h; rcases h with h | h; omega; exact hv h)] at hXR
       have hL0t : 0 ≤ L0 ∧ L0 ≤ top := by
        have : L0 * 1 ≤ L0 * P := Int.mul_le_mul_of_nonneg_left hPb.1 (by omega)
        omega
       have hd0 : ¬ (x - 48) < 0 := by omega
       have HXX := Lib.hid hXR
       have HS := Lib.hid ((HM3.out.drewN k).step 1 (by omega))
       have ht1 := Touch.setCell (fun b => b = rb) (wr.drewN k) (p := ⟨rb, 2, none⟩) rfl (.int .i64 ((a + 1 : Nat) : Int))
       have HTS := Lib.hid ((touch_drewN HT.out).trans ht1 (fun y hy => .inl hy))
       have ec : ((a + 1 : Nat) : Int) = (a : Int) + 1 := by omega
       rw [ec] at HS HTS
       clear hXR hP hPb hL HXR ht1 ec
       go_wp2
       go_roundg t
       case measure => omega
       case rel => exact ⟨{ s1 with at' := a + 1 }, L0, i + 1, by omega, rfl, by go_num, hL0t.1, hL0t.2, HXX.out, HS.out, HTS.out⟩
     ·
      obtain ⟨g2, rfl⟩ : ∃ g2, gk = g2 + 1 := ⟨gk - 1, by omega⟩
      have q5 : ((i + 1 + t : Nat) : Int) < (count : Int) := by omega
      have q6 : IntKind.i64.wrap (((i + 1 + t : Nat) : Int) + 1) = ((i + 1 + t + 1 : Nat) : Int) := by rw [IntKind.wrap_i64]; omega
      rw [hP]
      obtain ⟨L, hL⟩ : ∃ L, L0 * P = L := ⟨_, rfl⟩
      obtain ⟨L2, hL2⟩ : ∃ L2, L * 16 = L2 := ⟨_, rfl⟩
      have HL2 := Lib.hid (show L0 * 16 ^ (t + 1) = L2 from by rw [Int.pow_succ, hP, ← Int.mul_assoc, hL, hL2])
      rw [hL] at hLP ⊢
      have q7 : IntKind.i64.wrap (L * 16) = L2 := by rw [IntKind.wrap_i64]; omega
      obtain ⟨ii, hii⟩ : ∃ ii, i + 1 + t = ii := ⟨_, rfl⟩
      have HII := Lib.hid hii
      rw [hii] at q5 q6 ⊢
      clear hP hPb hL hL2 hii
      go_wp2
      go_roundg g2
      case measure => omega
      case rel => exact ⟨t + 1, by omega, by rw [HL2.out], by rw [← HII.out]; go_num, _, rfl⟩
   ·
    have HD := Lib.hid (show digP x = (x - 97 + 10) from by omega)
    have hE : -1 ≤ (x - 97 + 10) ∧ (x - 97 + 10) ≤ 15 := by omega
    obtain ⟨L0, hL0⟩ : ∃ L0, m * 16 + (x - 97 + 10) = L0 := ⟨_, rfl⟩
    have HL0 := Lib.hid hL0
    have hL1 : 16 * m + (x - 97 + 10) = L0 := by omega
    have hLb : -1 ≤ L0 ∧ L0 ≤ 33000000 := by omega
    clear hd hL0
    go_wp2_with fail
    go_quiet (fail)
    go_wp2_with fail
    go_quiet (fail)
    go_wp2_with fail
    go_loopg [11, 12] j (fun gg lv kv wx => ∃ t : Nat, t + gg = j ∧ lv = .int .i64 (L0 * 16 ^ t) ∧ kv = .int .i64 ((i + 1 + t : Nat) : Int) ∧ ∃ k, wx = wr.drewN k)
    case atStart => exact ⟨0, by omega, by rw [Int.pow_zero, Int.mul_one], by go_num, _, rfl⟩
    case round =>
     obtain ⟨t, ht, rfl, rfl, k, rfl⟩ := hrel
     obtain ⟨P, hP⟩ : ∃ P : Int, (16 : Int) ^ t = P := ⟨_, rfl⟩
     have hPb : 1 ≤ P ∧ P ≤ 1048576 := by rw [← hP]; exact pow16_b t (by omega)
     have hLP : -1048576 ≤ L0 * P ∧ L0 * P ≤ 34603008000000 := mul_b hLb.1 hLb.2 hPb.1 hPb.2
     by_cases hlast : gk = 0
     ·
      subst hlast
      obtain rfl : t = j := by omega
      have q5 : ¬ ((i + 1 + t : Nat) : Int) < (count : Int) := by omega
      rw [hP]
      have hXR := HXR.out
      rw [HD.out, HL0.out, hP] at hXR
      obtain ⟨L, hL⟩ : ∃ L, L0 * P = L := ⟨_, rfl⟩
      rw [hL] at hXR hLP ⊢
      generalize i + 1 + t = ii at q5 ⊢
      by_cases hv : top < L
      ·
       rw [if_pos (.inr hv)] at hXR
       subst hXR
       have hd0 : ¬ (x - 97 + 10) < 0 := by omega
       clear hP hPb hL HXR
       go_wp2_with fail
       refine (HFL.out _ (HM3.out.drewN _)).mono ?_
       rintro e w2 ⟨rfl, ht2, h2⟩
       go_wp2
       go_ret
       exact ⟨(touch_drewN HT.out).trans ht2 (fun y hy => .inl hy), ⟨_, rfl, rfl⟩, h2⟩
      ·
       rw [if_neg (by intro h; rcases h with h | h; omega; exact hv h)] at hXR
       have hL0t : 0 ≤ L0 ∧ L0 ≤ top := by
        have : L0 * 1 ≤ L0 * P := Int.mul_le_mul_of_nonneg_left hPb.1 (by omega)
        omega
       have hd0 : ¬ (x - 97 + 10) < 0 := by omega
       have HXX := Lib.hid hXR
       have HS := Lib.hid ((HM3.out.drewN k).step 1 (by omega))
       have ht1 := Touch.setCell (fun b => b = rb) (wr.drewN k) (p := ⟨rb, 2, none⟩) rfl (.int .i64 ((a + 1 : Nat) : Int))
       have HTS := Lib.hid ((touch_drewN HT.out).trans ht1 (fun y hy => .inl hy))
       have ec : ((a + 1 : Nat) : Int) = (a : Int) + 1 := by omega
       rw [ec] at HS HTS
       clear hXR hP hPb hL HXR ht1 ec
       go_wp2
       go_roundg t
       case measure => omega
       case rel => exact ⟨{ s1 with at' := a + 1 }, L0, i + 1, by omega, rfl, by go_num, hL0t.1, hL0t.2, HXX.out, HS.out, HTS.out⟩
     ·
      obtain ⟨g2, rfl⟩ : ∃ g2, gk = g2 + 1 := ⟨gk - 1, by omega⟩
      have q5 : ((i + 1 + t : Nat) : Int) < (count : Int) := by omega
      have q6 : IntKind.i64.wrap (((i + 1 + t : Nat) : Int) + 1) = ((i + 1 + t + 1 : Nat) : Int) := by rw [IntKind.wrap_i64]; omega
      rw [hP]
      obtain ⟨L, hL⟩ : ∃ L, L0 * P = L := ⟨_, rfl⟩
      obtain ⟨L2, hL2⟩ : ∃ L2, L * 16 = L2 := ⟨_, rfl⟩
      have HL2 := Lib.hid (show L0 * 16 ^ (t + 1) = L2 from by rw [Int.pow_succ, hP, ← Int.mul_assoc, hL, hL2])
      rw [hL] at hLP ⊢
      have q7 : IntKind.i64.wrap (L * 16) = L2 := by rw [IntKind.wrap_i64]; omega
      obtain ⟨ii, hii⟩ : ∃ ii, i + 1 + t = ii := ⟨_, rfl⟩
      have HII := Lib.hid hii
      rw [hii] at q5 q6 ⊢
      clear hP hPb hL hL2 hii
      go_wp2
      go_roundg g2
      case measure => omega
      case rel => exact ⟨t + 1, by omega, by rw [HL2.out], by rw [← HII.out]; go_num, _, rfl⟩
   ·
    have HD := Lib.hid (show digP x = (x - 65 + 10) from by omega)
    have hE : -1 ≤ (x - 65 + 10) ∧ (x - 65 + 10) ≤ 15 := by omega
    obtain ⟨L0, hL0⟩ : ∃ L0, m * 16 + (x - 65 + 10) = L0 := ⟨_, rfl⟩
    have HL0 := Lib.hid hL0
    have hL1 : 16 * m + (x - 65 + 10) = L0 := by omega
    have hLb : -1 ≤ L0 ∧ L0 ≤ 33000000 := by omega
    clear hd hL0
    go_wp2_with fail
    go_quiet (fail)
    go_wp2_with fail
    go_quiet (fail)
    go_wp2_with fail
    go_loopg [11, 12] j (fun gg lv kv wx => ∃ t : Nat, t + gg = j ∧ lv = .int .i64 (L0 * 16 ^ t) ∧ kv = .int .i64 ((i + 1 + t : Nat) : Int) ∧ ∃ k, wx = wr.drewN k)
    case atStart => exact ⟨0, by omega, by rw [Int.pow_zero, Int.mul_one], by go_num, _, rfl⟩
    case round =>
     obtain ⟨t, ht, rfl, rfl, k, rfl⟩ := hrel
     obtain ⟨P, hP⟩ : ∃ P : Int, (16 : Int) ^ t = P := ⟨_, rfl⟩
     have hPb : 1 ≤ P ∧ P ≤ 1048576 := by rw [← hP]; exact pow16_b t (by omega)
     have hLP : -1048576 ≤ L0 * P ∧ L0 * P ≤ 34603008000000 := mul_b hLb.1 hLb.2 hPb.1 hPb.2
     by_cases hlast : gk = 0
     ·
      subst hlast
      obtain rfl : t = j := by omega
      have q5 : ¬ ((i + 1 + t : Nat) : Int) < (count : Int) := by omega
      rw [hP]
      have hXR := HXR.out
      rw [HD.out, HL0.out, hP] at hXR
      obtain ⟨L, hL⟩ : ∃ L, L0 * P = L := ⟨_, rfl⟩
      rw [hL] at hXR hLP ⊢
      generalize i + 1 + t = ii at q5 ⊢
      by_cases hv : top < L
      ·
       rw [if_pos (.inr hv)] at hXR
       subst hXR
       have hd0 : ¬ (x - 65 + 10) < 0 := by omega
       clear hP hPb hL HXR
       go_wp2_with fail
       refine (HFL.out _ (HM3.out.drewN _)).mono ?_
       rintro e w2 ⟨rfl, ht2, h2⟩
       go_wp2
       go_ret
       exact ⟨(touch_drewN HT.out).trans ht2 (fun y hy => .inl hy), ⟨_, rfl, rfl⟩, h2⟩
      ·
       rw [if_neg (by intro h; rcases h with h | h; omega; exact hv h)] at hXR
       have hL0t : 0 ≤ L0 ∧ L0 ≤ top := by
        have : L0 * 1 ≤ L0 * P := Int.mul_le_mul_of_nonneg_left hPb.1 (by omega)
        omega
       have hd0 : ¬ (x - 65 + 10) < 0 := by omega
       have HXX := Lib.hid hXR
       have HS := Lib.hid ((HM3.out.drewN k).step 1 (by omega))
       have ht1 := Touch.setCell (fun b => b = rb) (wr.drewN k) (p := ⟨rb, 2, none⟩) rfl (.int .i64 ((a + 1 : Nat) : Int))
       have HTS := Lib.hid ((touch_drewN HT.out).trans ht1 (fun y hy => .inl hy))
       have ec : ((a + 1 : Nat) : Int) = (a : Int) + 1 := by omega
       rw [ec] at HS HTS
       clear hXR hP hPb hL HXR ht1 ec
       go_wp2
       go_roundg t
       case measure => omega
       case rel => exact ⟨{ s1 with at' := a + 1 }, L0, i + 1, by omega, rfl, by go_num, hL0t.1, hL0t.2, HXX.out, HS.out, HTS.out⟩
     ·
      obtain ⟨g2, rfl⟩ : ∃ g2, gk = g2 + 1 := ⟨gk - 1, by omega⟩
      have q5 : ((i + 1 + t : Nat) : Int) < (count : Int) := by omega
      have q6 : IntKind.i64.wrap (((i + 1 + t : Nat) : Int) + 1) = ((i + 1 + t + 1 : Nat) : Int) := by rw [IntKind.wrap_i64]; omega
      rw [hP]
      obtain ⟨L, hL⟩ : ∃ L, L0 * P = L := ⟨_, rfl⟩
      obtain ⟨L2, hL2⟩ : ∃ L2, L * 16 = L2 := ⟨_, rfl⟩
      have HL2 := Lib.hid (show L0 * 16 ^ (t + 1) = L2 from by rw [Int.pow_succ, hP, ← Int.mul_assoc, hL, hL2])
      rw [hL] at hLP ⊢
      have q7 : IntKind.i64.wrap (L * 16) = L2 := by rw [IntKind.wrap_i64]; omega
      obtain ⟨ii, hii⟩ : ∃ ii, i + 1 + t = ii := ⟨_, rfl⟩
      have HII := Lib.hid hii
      rw [hii] at q5 q6 ⊢
      clear hP hPb hL hL2 hii
      go_wp2
      go_roundg g2
      case measure => omega
      case rel => exact ⟨t + 1, by omega, by rw [HL2.out], by rw [← HII.out]; go_num, _, rfl⟩
   ·
    have HD := Lib.hid (show digP x = (-1) from by omega)
    have hE : -1 ≤ (-1) ∧ (-1) ≤ 15 := by omega
    obtain ⟨L0, hL0⟩ : ∃ L0, m * 16 + (-1) = L0 := ⟨_, rfl⟩
    have HL0 := Lib.hid hL0
    have hL1 : 16 * m + (-1) = L0 := by omega
    have hLb : -1 ≤ L0 ∧ L0 ≤ 33000000 := by omega
    clear hd hL0
    go_wp2_with fail
    go_quiet (fail)
    go_wp2_with fail
    go_quiet (fail)
    go_wp2_with fail
    go_loopg [11, 12] j (fun gg lv kv wx => ∃ t : Nat, t + gg = j ∧ lv = .int .i64 (L0 * 16 ^ t) ∧ kv = .int .i64 ((i + 1 + t : Nat) : Int) ∧ ∃ k, wx = wr.drewN k)
    case atStart => exact ⟨0, by omega, by rw [Int.pow_zero, Int.mul_one], by go_num, _, rfl⟩
    case round =>
     obtain ⟨t, ht, rfl, rfl, k, rfl⟩ := hrel
     obtain ⟨P, hP⟩ : ∃ P : Int, (16 : Int) ^ t = P := ⟨_, rfl⟩
     have hPb : 1 ≤ P ∧ P ≤ 1048576 := by rw [← hP]; exact pow16_b t (by omega)
     have hLP : -1048576 ≤ L0 * P ∧ L0 * P ≤ 34603008000000 := mul_b hLb.1 hLb.2 hPb.1 hPb.2
     by_cases hlast : gk = 0
     ·
      subst hlast
      obtain rfl : t = j := by omega
      have q5 : ¬ ((i + 1 + t : Nat) : Int) < (count : Int) := by omega
      rw [hP]
      have hXR := HXR.out
      rw [HD.out, HL0.out, hP] at hXR
      obtain ⟨L, hL⟩ : ∃ L, L0 * P = L := ⟨_, rfl⟩
      rw [hL] at hXR hLP ⊢
      generalize i + 1 + t = ii at q5 ⊢
      rw [if_pos (.inl (by omega))] at hXR
      subst hXR
      clear hP hPb hL HXR
      go_wp2_with fail
      refine (HFL.out _ (HM3.out.drewN _)).mono ?_
      rintro e w2 ⟨rfl, ht2, h2⟩
      go_wp2
      go_ret
      exact ⟨(touch_drewN HT.out).trans ht2 (fun y hy => .inl hy), ⟨_, rfl, rfl⟩, h2⟩
     ·
      obtain ⟨g2, rfl⟩ : ∃ g2, gk = g2 + 1 := ⟨gk - 1, by omega⟩
      have q5 : ((i + 1 + t : Nat) : Int) < (count : Int) := by omega
      have q6 : IntKind.i64.wrap (((i + 1 + t : Nat) : Int) + 1) = ((i + 1 + t + 1 : Nat) : Int) := by rw [IntKind.wrap_i64]; omega
      rw [hP]
      obtain ⟨L, hL⟩ : ∃ L, L0 * P = L := ⟨_, rfl⟩
      obtain ⟨L2, hL2⟩ : ∃ L2, L * 16 = L2 := ⟨_, rfl⟩
      have HL2 := Lib.hid (show L0 * 16 ^ (t + 1) = L2 from by rw [Int.pow_succ, hP, ← Int.mul_assoc, hL, hL2])
      rw [hL] at hLP ⊢
      have q7 : IntKind.i64.wrap (L * 16) = L2 := by rw [IntKind.wrap_i64]; omega
      obtain ⟨ii, hii⟩ : ∃ ii, i + 1 + t = ii := ⟨_, rfl⟩
      have HII := Lib.hid hii
      rw [hii] at q5 q6 ⊢
      clear hP hPb hL hL2 hii
      go_wp2
      go_roundg g2
      case measure => omega
      case rel => exact ⟨t + 1, by omega, by rw [HL2.out], by rw [← HII.out]; go_num, _, rfl⟩
   ·
    have HD := Lib.hid (show digP x = (-1) from by omega)
    have hE : -1 ≤ (-1) ∧ (-1) ≤ 15 := by omega
    obtain ⟨L0, hL0⟩ : ∃ L0, m * 16 + (-1) = L0 := ⟨_, rfl⟩
    have HL0 := Lib.hid hL0
    have hL1 : 16 * m + (-1) = L0 := by omega
    have hLb : -1 ≤ L0 ∧ L0 ≤ 33000000 := by omega
    clear hd hL0
    go_wp2_with fail
    go_quiet (fail)
    go_wp2_with fail
    go_quiet (fail)
    go_wp2_with fail
    go_loopg [11, 12] j (fun gg lv kv wx => ∃ t : Nat, t + gg = j ∧ lv = .int .i64 (L0 * 16 ^ t) ∧ kv = .int .i64 ((i + 1 + t : Nat) : Int) ∧ ∃ k, wx = wr.drewN k)
    case atStart => exact ⟨0, by omega, by rw [Int.pow_zero, Int.mul_one], by go_num, _, rfl⟩
    case round =>
     obtain ⟨t, ht, rfl, rfl, k, rfl⟩ := hrel
     obtain ⟨P, hP⟩ : ∃ P : Int, (16 : Int) ^ t = P := ⟨_, rfl⟩
     have hPb : 1 ≤ P ∧ P ≤ 1048576 := by rw [← hP]; exact pow16_b t (by omega)
     have hLP : -1048576 ≤ L0 * P ∧ L0 * P ≤ 34603008000000 := mul_b hLb.1 hLb.2 hPb.1 hPb.2
     by_cases hlast : gk = 0
     ·
      subst hlast
      obtain rfl : t = j := by omega
      have q5 : ¬ ((i + 1 + t : Nat) : Int) < (count : Int) := by omega
      rw [hP]
      have hXR := HXR.out
      rw [HD.out, HL0.out, hP] at hXR
      obtain ⟨L, hL⟩ : ∃ L, L0 * P = L := ⟨_, rfl⟩
      rw [hL] at hXR hLP ⊢
      generalize i + 1 + t = ii at q5 ⊢
      rw [if_pos (.inl (by omega))] at hXR
      subst hXR
      clear hP hPb hL HXR
      go_wp2_with fail
      refine (HFL.out _ (HM3.out.drewN _)).mono ?_
      rintro e w2 ⟨rfl, ht2, h2⟩
      go_wp2
      go_ret
      exact ⟨(touch_drewN HT.out).trans ht2 (fun y hy => .inl hy), ⟨_, rfl, rfl⟩, h2⟩
     ·
      obtain ⟨g2, rfl⟩ : ∃ g2, gk = g2 + 1 := ⟨gk - 1, by omega⟩
      have q5 : ((i + 1 + t : Nat) : Int) < (count : Int) := by omega
      have q6 : IntKind.i64.wrap (((i + 1 + t : Nat) : Int) + 1) = ((i + 1 + t + 1 : Nat) : Int) := by rw [IntKind.wrap_i64]; omega
      rw [hP]
      obtain ⟨L, hL⟩ : ∃ L, L0 * P = L := ⟨_, rfl⟩
      obtain ⟨L2, hL2⟩ : ∃ L2, L * 16 = L2 := ⟨_, rfl⟩
      have HL2 := Lib.hid (show L0 * 16 ^ (t + 1) = L2 from by rw [Int.pow_succ, hP, ← Int.mul_assoc, hL, hL2])
      rw [hL] at hLP ⊢
      have q7 : IntKind.i64.wrap (L * 16) = L2 := by rw [IntKind.wrap_i64]; omega
      obtain ⟨ii, hii⟩ : ∃ ii, i + 1 + t = ii := ⟨_, rfl⟩
      have HII := Lib.hid hii
      rw [hii] at q5 q6 ⊢
      clear hP hPb hL hL2 hii
      go_wp2
      go_roundg g2
      case measure => omega
      case rel => exact ⟨t + 1, by omega, by rw [HL2.out], by rw [← HII.out]; go_num, _, rfl⟩
   ·
    have HD := Lib.hid (show digP x = (-1) from by omega)
    have hE : -1 ≤ (-1) ∧ (-1) ≤ 15 := by omega
    obtain ⟨L0, hL0⟩ : ∃ L0, m * 16 + (-1) = L0 := ⟨_, rfl⟩
    have HL0 := Lib.hid hL0
    have hL1 : 16 * m + (-1) = L0 := by omega
    have hLb : -1 ≤ L0 ∧ L0 ≤ 33000000 := by omega
    clear hd hL0
    go_wp2_with fail
    go_quiet (fail)
    go_wp2_with fail
    go_quiet (fail)
    go_wp2_with fail
    go_loopg [11, 12] j (fun gg lv kv wx => ∃ t : Nat, t + gg = j ∧ lv = .int .i64 (L0 * 16 ^ t) ∧ kv = .int .i64 ((i + 1 + t : Nat) : Int) ∧ ∃ k, wx = wr.drewN k)
    case atStart => exact ⟨0, by omega, by rw [Int.pow_zero, Int.mul_one], by go_num, _, rfl⟩
    case round =>
     obtain ⟨t, ht, rfl, rfl, k, rfl⟩ := hrel
     obtain ⟨P, hP⟩ : ∃ P : Int, (16 : Int) ^ t = P := ⟨_, rfl⟩
     have hPb : 1 ≤ P ∧ P ≤ 1048576 := by rw [← hP]; exact pow16_b t (by omega)
     have hLP : -1048576 ≤ L0 * P ∧ L0 * P ≤ 34603008000000 := mul_b hLb.1 hLb.2 hPb.1 hPb.2
     by_cases hlast : gk = 0
     ·
      subst hlast
      obtain rfl : t = j := by omega
      have q5 : ¬ ((i + 1 + t : Nat) : Int) < (count : Int) := by omega
      rw [hP]
      have hXR := HXR.out
      rw [HD.out, HL0.out, hP] at hXR
      obtain ⟨L, hL⟩ : ∃ L, L0 * P = L := ⟨_, rfl⟩
      rw [hL] at hXR hLP ⊢
      generalize i + 1 + t = ii at q5 ⊢
      rw [if_pos (.inl (by omega))] at hXR
      subst hXR
      clear hP hPb hL HXR
      go_wp2_with fail
      refine (HFL.out _ (HM3.out.drewN _)).mono ?_
      rintro e w2 ⟨rfl, ht2, h2⟩
      go_wp2
      go_ret
      exact ⟨(touch_drewN HT.out).trans ht2 (fun y hy => .inl hy), ⟨_, rfl, rfl⟩, h2⟩
     ·
      obtain ⟨g2, rfl⟩ : ∃ g2, gk = g2 + 1 := ⟨gk - 1, by omega⟩
      have q5 : ((i + 1 + t : Nat) : Int) < (count : Int) := by omega
      have q6 : IntKind.i64.wrap (((i + 1 + t : Nat) : Int) + 1) = ((i + 1 + t + 1 : Nat) : Int) := by rw [IntKind.wrap_i64]; omega
      rw [hP]
      obtain ⟨L, hL⟩ : ∃ L, L0 * P = L := ⟨_, rfl⟩
      obtain ⟨L2, hL2⟩ : ∃ L2, L * 16 = L2 := ⟨_, rfl⟩
      have HL2 := Lib.hid (show L0 * 16 ^ (t + 1) = L2 from by rw [Int.pow_succ, hP, ← Int.mul_assoc, hL, hL2])
      rw [hL] at hLP ⊢
      have q7 : IntKind.i64.wrap (L * 16) = L2 := by rw [IntKind.wrap_i64]; omega
      obtain ⟨ii, hii⟩ : ∃ ii, i + 1 + t = ii := ⟨_, rfl⟩
      have HII := Lib.hid hii
      rw [hii] at q5 q6 ⊢
      clear hP hPb hL hL2 hii
      go_wp2
      go_roundg g2
      case measure => omega
      case rel => exact ⟨t + 1, by omega, by rw [HL2.out], by rw [← HII.out]; go_num, _, rfl⟩
   ·
    have HD := Lib.hid (show digP x = (-1) from by omega)
    have hE : -1 ≤ (-1) ∧ (-1) ≤ 15 := by omega
    obtain ⟨L0, hL0⟩ : ∃ L0, m * 16 + (-1) = L0 := ⟨_, rfl⟩
    have HL0 := Lib.hid hL0
    have hL1 : 16 * m + (-1) = L0 := by omega
    have hLb : -1 ≤ L0 ∧ L0 ≤ 33000000 := by omega
    clear hd hL0
    go_wp2_with fail
    go_quiet (fail)
    go_wp2_with fail
    go_quiet (fail)
    go_wp2_with fail
    go_loopg [11, 12] j (fun gg lv kv wx => ∃ t : Nat, t + gg = j ∧ lv = .int .i64 (L0 * 16 ^ t) ∧ kv = .int .i64 ((i + 1 + t : Nat) : Int) ∧ ∃ k, wx = wr.drewN k)
    case atStart => exact ⟨0, by omega, by rw [Int.pow_zero, Int.mul_one], by go_num, _, rfl⟩
    case round =>
     obtain ⟨t, ht, rfl, rfl, k, rfl⟩ := hrel
     obtain ⟨P, hP⟩ : ∃ P : Int, (16 : Int) ^ t = P := ⟨_, rfl⟩
     have hPb : 1 ≤ P ∧ P ≤ 1048576 := by rw [← hP]; exact pow16_b t (by omega)
     have hLP : -1048576 ≤ L0 * P ∧ L0 * P ≤ 34603008000000 := mul_b hLb.1 hLb.2 hPb.1 hPb.2
     by_cases hlast : gk = 0
     ·
      subst hlast
      obtain rfl : t = j := by omega
      have q5 : ¬ ((i + 1 + t : Nat) : Int) < (count : Int) := by omega
      rw [hP]
      have hXR := HXR.out
      rw [HD.out, HL0.out, hP] at hXR
      obtain ⟨L, hL⟩ : ∃ L, L0 * P = L := ⟨_, rfl⟩
      rw [hL] at hXR hLP ⊢
      generalize i + 1 + t = ii at q5 ⊢
      rw [if_pos (.inl (by omega))] at hXR
      subst hXR
      clear hP hPb hL HXR
      go_wp2_with fail
      refine (HFL.out _ (HM3.out.drewN _)).mono ?_
      rintro e w2 ⟨rfl, ht2, h2⟩
      go_wp2
      go_ret
      exact ⟨(touch_drewN HT.out).trans ht2 (fun y hy => .inl hy), ⟨_, rfl, rfl⟩, h2⟩
     ·
      obtain ⟨g2, rfl⟩ : ∃ g2, gk = g2 + 1 := ⟨gk - 1, by omega⟩
      have q5 : ((i + 1 + t : Nat) : Int) < (count : Int) := by omega
      have q6 : IntKind.i64.wrap (((i + 1 + t : Nat) : Int) + 1) = ((i + 1 + t + 1 : Nat) : Int) := by rw [IntKind.wrap_i64]; omega
      rw [hP]
      obtain ⟨L, hL⟩ : ∃ L, L0 * P = L := ⟨_, rfl⟩
      obtain ⟨L2, hL2⟩ : ∃ L2, L * 16 = L2 := ⟨_, rfl⟩
      have HL2 := Lib.hid (show L0 * 16 ^ (t + 1) = L2 from by rw [Int.pow_succ, hP, ← Int.mul_assoc, hL, hL2])
      rw [hL] at hLP ⊢
      have q7 : IntKind.i64.wrap (L * 16) = L2 := by rw [IntKind.wrap_i64]; omega
      obtain ⟨ii, hii⟩ : ∃ ii, i + 1 + t = ii := ⟨_, rfl⟩
      have HII := Lib.hid hii
      rw [hii] at q5 q6 ⊢
      clear hP hPb hL hL2 hii
      go_wp2
      go_roundg g2
      case measure => omega
      case rel => exact ⟨t + 1, by omega, by rw [HL2.out], by rw [← HII.out]; go_num, _, rfl⟩
  ·
   have hnx : nx src s1 = .error src.length := if_pos (by rw [hrm.len]; omega)
   rw [hnx] at hx2
   have hr : R = .error n := by rw [← hx2, HLEN.out]
   subst hr
   have hmm := HM.out
   obtain ⟨a, ha⟩ : ∃ a, s1.at' = a := ⟨_, rfl⟩
   rw [ha] at b2 hlt hat hmm
   obtain rfl : a = n := by omega
   have HM3 := Lib.hid hmm
   have p1 : (a : Int) ≤ (a : Int) := by omega
   have HFL := Lib.hid (fun w' (h' : FrM w' rb pb sl a c src a false) => fail_f rb pb sl a c src a a (by omega) w' h')
   clear hrm hnx hx2 ha HX HM hmm
   go_wp2_with fail
   go_quiet (fail)
   go_wp2_with fail
   refine (HFL.out _ (HM3.out.drewN _)).mono ?_
   rintro e w2 ⟨rfl, ht2, h2⟩
   go_wp2
   go_ret
   exact ⟨(touch_drewN HT.out).trans ht2 (fun y hy => .inl hy), ⟨_, rfl, rfl⟩, h2⟩
end Go.Proofs.YtdegdoilpamjjaaDoor
