/- Contract: what the document's Fill answers. Condition: fewer than 2^30 ints of a line. -/
import Derived.Test.YtdegdoilpamjjaaDoorFo
import Derived.StillTailTactics
namespace Go.Proofs.YtdegdoilpamjjaaDoor
open Go.RowKit
set_option linter.unusedVariables false
theorem fill_ans (l line : List Int) (M : Nat → Int) (h : l.length ≤ 256) : fillF l line M = ansF (fillGo (execD line M) l.length l FS0) := by
  rw [fill_doc, if_neg (by omega)]
theorem FillP.mk {l line : List Int} {M : Nat → Int} {w w' : World} {s : Option Addr} {m c : Nat} {k : Int} {o : List Int} (hb : Below w.heap.size w w') (h : fillF l line M = (o, k)) (ho : OwnInts w' w.heap.size (.slice s m c) o) : FillP l line M w (.returned (.tuple #[.slice s m c, .int .i64 k])) w' :=
  ⟨hb, s, m, c, by rw [h], by rw [h]; exact ho⟩
theorem ansF_long {s : FS} (h : 140000 < s.out.length) : ansF (some s) = ([], 3) := by unfold ansF; simp only; rw [if_pos h]
theorem ansF_short {s : FS} (h : ¬ 140000 < s.out.length) : ansF (some s) = (s.out, 0) := by unfold ansF; simp only; rw [if_neg h]
theorem drop_at (l : List Int) (i : Nat) (h : i < l.length) : l.drop i = gl l i :: l.drop (i + 1) := by
  rw [List.drop_eq_getElem_cons h]
  simp [gl, List.getElem?_eq_getElem h]
theorem tok_38 (l : List Int) (i : Nat) (h : i < l.length) (hc : gl l i = 38) : tok (l.drop i) = some (.group 0, 1) := by
  rw [drop_at l i h, hc]; rfl
theorem tok_one (l : List Int) (i : Nat) (h : i < l.length) (h1 : gl l i ≠ 38) (h2 : gl l i ≠ 92) : tok (l.drop i) = some (.give (gl l i), 1) := by
  rw [drop_at l i h]; simp [tok, h1, h2]
theorem tok_end (l : List Int) (i : Nat) (h : i < l.length) (hc : gl l i = 92) (h2 : l.length ≤ i + 1) : tok (l.drop i) = none := by
  rw [drop_at l i h, hc, List.drop_eq_nil_of_le h2]; rfl
theorem tok_esc (l : List Int) (i : Nat) (h : i + 1 < l.length) (hc : gl l i = 92) (h2 : gl l (i + 1) ≠ 120) : tok (l.drop i) = (escT (gl l (i + 1))).map fun t => (t, 2) := by
  rw [drop_at l i (by omega), drop_at l (i + 1) h, hc]; simp [tok, h2]
theorem hexR_no {l : List Int} {k : Nat} (h : ¬ (k + 1 < l.length ∧ 0 ≤ hexV (gl l k) ∧ 0 ≤ hexV (gl l (k + 1)))) : hexR l k = -1 := by unfold hexR; rw [if_neg h]
theorem hexR_yes {l : List Int} {k : Nat} (h : k + 1 < l.length ∧ 0 ≤ hexV (gl l k) ∧ 0 ≤ hexV (gl l (k + 1))) : hexR l k = 16 * hexV (gl l k) + hexV (gl l (k + 1)) := by unfold hexR; rw [if_pos h]
theorem hexR_le (l : List Int) (k : Nat) : -1 ≤ hexR l k ∧ hexR l k ≤ 255 := by
  have h1 := hexV_le (gl l k)
  have h2 := hexV_le (gl l (k + 1))
  by_cases h : k + 1 < l.length ∧ 0 ≤ hexV (gl l k) ∧ 0 ≤ hexV (gl l (k + 1))
  · rw [hexR_yes h]; omega
  · rw [hexR_no h]; omega
theorem tok_x (l : List Int) (i : Nat) (h : i + 1 < l.length) (hc : gl l i = 92) (h2 : gl l (i + 1) = 120) : tok (l.drop i) = if hexR l (i + 2) < 0 then none else some (.give (-1 - hexR l (i + 2)), 4) := by
  rw [drop_at l i (by omega), drop_at l (i + 1) h, hc, h2]
  by_cases h3 : i + 3 < l.length
  · rw [drop_at l (i + 1 + 1) (by omega), drop_at l (i + 1 + 1 + 1) (by omega)]
    show (if hexV (gl l (i + 2)) < 0 ∨ hexV (gl l (i + 3)) < 0 then none else some (Tok.give (-1 - 16 * hexV (gl l (i + 2)) - hexV (gl l (i + 3))), 4)) = _
    by_cases h4 : 0 ≤ hexV (gl l (i + 2)) ∧ 0 ≤ hexV (gl l (i + 3))
    · have e := hexR_yes (l := l) (k := i + 2) ⟨by omega, h4⟩
      have e2 : ¬ hexR l (i + 2) < 0 := by rw [e]; rw [show i + 2 + 1 = i + 3 from rfl]; omega
      rw [if_neg (by omega), if_neg e2, e]
      rw [show i + 2 + 1 = i + 3 from rfl]
      rw [show (-1 - 16 * hexV (gl l (i + 2)) - hexV (gl l (i + 3))) = -1 - (16 * hexV (gl l (i + 2)) + hexV (gl l (i + 3))) by omega]
    · have e := hexR_no (l := l) (k := i + 2) (fun hh => h4 hh.2)
      rw [if_pos (by omega), if_pos (by rw [e]; omega)]
  · have e := hexR_no (l := l) (k := i + 2) (fun hh => by omega)
    rw [if_pos (by rw [e]; omega)]
    rcases hl : l.drop (i + 1 + 1) with _ | ⟨x, _ | ⟨y, r⟩⟩
    · rfl
    · rfl
    · have := congrArg List.length hl
      rw [List.length_drop] at this
      simp only [List.length_cons] at this
      omega
def RInv (w1 : World) (b : Nat) (l line : List Int) (M : Nat → Int) (n g : Nat) (iv : Value) (wr : World) : Prop :=
  ∃ i S so no co, iv = .int .i64 ((i : Nat) : Int) ∧ i ≤ n ∧ n - i ≤ g ∧ g ≤ n ∧ FillR wr w1.heap.size b S so no co ∧ Below w1.heap.size w1 wr ∧ S.out.length + g ≤ 150000 ∧ fillGo (execD line M) g (l.drop i) S = fillGo (execD line M) l.length l FS0
theorem RInv.start {w1 : World} {b : Nat} {l line : List Int} {M : Nat → Int} {n : Nat} (hf : (w1.alloc (.cells #[.slice none 0 0, .int .i64 0, .int .i64 0] 94)).heap[w1.heap.size]? = some (.cells #[.slice none 0 0, .int .i64 0, .int .i64 0] 94 (0, 0))) (hn : l.length = n) (h : n ≤ 256) (hb : w1.heap.size = b) :
    RInv w1 b l line M n n (.int .i64 0) (w1.alloc (.cells #[.slice none 0 0, .int .i64 0, .int .i64 0] 94)) := by
  subst hn hb
  refine ⟨0, FS0, none, 0, 0, rfl, Nat.zero_le _, by omega, Nat.le_refl _, ?_, below_new2 _ _, by show 0 + _ ≤ _; omega, rfl⟩
  exact { ge := Nat.le_refl _, blk := hf, own := OwnInts.nil _ _, once := Nat.zero_le _, stay := Nat.zero_le _ }
/-- one sign more -/
theorem RInv.next {w1 wr : World} {b : Nat} {l line : List Int} {M : Nat → Int} {n g i k : Nat} {S : FS} {t : Tok} (hgo : fillGo (execD line M) (g + 1) (l.drop i) S = fillGo (execD line M) l.length l FS0) (hn : l.length = n) (hi : i < n) (hk : i + k ≤ n) (hk1 : 1 ≤ k) (hg1 : n - i ≤ g + 1) (hg2 : g + 1 ≤ n) (ht : tok (l.drop i) = some (t, k)) (hl : S.out.length + (g + 1) ≤ 150000) (h256 : n ≤ 256)
    (hm : ∃ so no co, FillR wr w1.heap.size b (execD line M S t) so no co) (hb : Below w1.heap.size w1 wr) : RInv w1 b l line M n g (.int .i64 ((i + k : Nat) : Int)) wr := by
  obtain ⟨so, no, co, hm⟩ := hm
  refine ⟨i + k, _, so, no, co, rfl, hk, by omega, by omega, hm, hb, ?_, ?_⟩
  · cases t with
    | give c => show (S.out ++ [_]).length + g ≤ 150000; simp; omega
    | group q =>
      have := manyD_len S (partL line (M (2 * q)) (M (2 * q + 1))) (149999 - g) (by omega) (by omega)
      show (manyD S _).out.length + g ≤ 150000
      omega
    | once k => show S.out.length + g ≤ 150000; omega
    | stay k => show S.out.length + g ≤ 150000; omega
  · rw [← hgo]
    rw [drop_at l i (by omega)] at ht ⊢
    simp only [fillGo, ht]
    rw [← drop_at l i (by omega), List.drop_drop]
theorem fillGo_none {ex : FS → Tok → FS} {g i : Nat} {l : List Int} {S : FS} (hi : i < l.length) (ht : tok (l.drop i) = none) : fillGo ex (g + 1) (l.drop i) S = none := by
  rw [drop_at l i hi] at ht ⊢
  simp only [fillGo, ht]
set_option maxRecDepth 100000 in
set_option maxHeartbeats 4000000 in
theorem rfill_long (sl : Option Addr) (n cap : Nat) (l : List Int) (sb : Option Addr) (ln lc : Nat) (lf M : Nat → Int) (w : World) (hn : l.length = n) (hbig : 256 < n) :
    Calls Tryd.prog 29 #[.slice sl n cap, .slice sb ln lc, .agg (mC M)] w (FillP l (lst lf ln) M w) := by
  have q1 : (256 : Int) < (n : Int) := by omega
  have HA := Lib.hid (show fillF l (lst lf ln) M = ([], 3) by unfold fillF; rw [if_pos (by omega)])
  go_enter Tryd.func29, Tryd.ntmps29
  go_wp2
  go_ret2
  exact FillP.mk (below_new2 _ _) HA.out (OwnInts.nil _ _)
theorem IsInts.base_lt {w : World} {rb ro n : Nat} {f : Nat → Int} (h : IsInts w (some ⟨rb, ro, none⟩) n f) (hn : 0 < n) : rb < w.heap.size := by
  rcases h with h | ⟨b, o, h1, h2, _⟩
  · omega
  · cases h1; exact h2
set_option maxRecDepth 100000 in
set_option maxHeartbeats 8000000 in
theorem rfill_short (sl : Option Addr) (n cap : Nat) (l : List Int) (sb : Option Addr) (ln lc : Nat) (lf M : Nat → Int) (w : World) (hn : l.length = n) (hsm : n ≤ 256) (hr : IsInts w sl n (gl l)) (hli : IsInts w sb ln lf) (hln : ln < 1073741824) :
    Calls Tryd.prog 29 #[.slice sl n cap, .slice sb ln lc, .agg (mC M)] w (FillP l (lst lf ln) M w) := by
  have q1 : ¬ (256 : Int) < (n : Int) := by omega
  have hsz : (w.alloc (.cells (mC M) 23)).heap.size = w.heap.size + 1 := by simp
  have hmt : (w.alloc (.cells (mC M) 23)).heap[w.heap.size]? = some (.cells (mC M) 23 (0, 0)) := one_new w _
  have hb1 := below_new2 w (.cells (mC M) 23)
  generalize hw : w.alloc (.cells (mC M) 23) = w1 at *
  have HR := Lib.hid (hr.later hb1)
  have HLI := Lib.hid (hli.later hb1)
  have HB1 := Lib.hid hb1
  have HMT := Lib.hid hmt
  have HN := Lib.hid hn
  have HSZ := Lib.hid hsz
  have HRW := Lib.hid hr
  have HFA := Lib.hid (fill_ans l (lst lf ln) M (by omega))
  clear hr hli hb1 hmt hn
  have HFM := Lib.hid (one_new w1 (.cells #[.slice none 0 0, .int .i64 0, .int .i64 0] 94))
  go_enter Tryd.func29, Tryd.ntmps29
  go_wp2_with fail
  go_loopg [9] n (fun g iv wr => RInv w1 (w.heap.size + 1) l (lst lf ln) M n g iv wr)
  case atStart => exact RInv.start HFM.out HN.out hsm HSZ.out
  case round =>
    clear HFM
    obtain ⟨i, S, so, no, co, rfl, hin, hg, hgn, hm, hb, hl, hgo⟩ := hrel
    have HM := Lib.hid hm
    have HB := Lib.hid hb
    have HGO := Lib.hid hgo
    have HG := Lib.hid hg
    have HGN := Lib.hid hgn
    have HL := Lib.hid hl
    clear hm hb hgo hg hgn hl
    have HMW := Lib.hid ((HB.out.block w.heap.size (by have := HSZ.out; omega)).trans HMT.out)
    have HL1 := Lib.hid (show S.out.length < 1000000 by have := HL.out; omega)
    have HL9 := Lib.hid (show S.out.length < 900000 by have := HL.out; omega)
    by_cases hlt : i < n
    · obtain ⟨g', rfl⟩ : ∃ g', gk = g' + 1 := ⟨gk - 1, by have := HG.out; omega⟩
      obtain ⟨rb, ro, rfl, c0⟩ := HR.out.at HB.out hlt
      obtain ⟨c, hc⟩ : ∃ c, gl l i = c := ⟨_, rfl⟩
      rw [hc] at c0
      have HC := Lib.hid hc
      have HRB := Lib.hid (show rb < wr.heap.size from Nat.lt_of_lt_of_le (HR.out.base_lt (by omega)) HB.out.size)
      have z1 : (i : Int) < (n : Int) := by omega
      clear hc
      have HNX := Lib.hid (fun (t : Tok) (k : Nat) (ht : tok (l.drop i) = some (t, k)) (h1 : 1 ≤ k) (h2 : i + k ≤ n) (w4 : World) (h3 : ∃ so no co, FillR w4 w1.heap.size (w.heap.size + 1) (execD (lst lf ln) M S t) so no co) (h4 : Below w1.heap.size w1 w4) => RInv.next HGO.out HN.out hlt h2 h1 HG.out HGN.out ht HL.out hsm h3 h4)
      have HNO := Lib.hid (fun (ht : tok (l.drop i) = none) => (show fillF l (lst lf ln) M = ([], 102) by rw [HFA.out, ← HGO.out, fillGo_none (by rw [HN.out]; exact hlt) ht]; rfl))
      by_cases h38 : c = 38
      · subst h38
        have HT := Lib.hid (tok_38 l i (by rw [HN.out]; exact hlt) HC.out)
        have k0 : wr.cell? ⟨w.heap.size, 0, none⟩ = some (.int .i64 (M 0)) := (block_cell HMW.out).trans (mC_at M _ (by omega))
        have k1 : wr.cell? ⟨w.heap.size, 1, none⟩ = some (.int .i64 (M 1)) := (block_cell HMW.out).trans (mC_at M _ (by omega))
        have v0 : IntKind.i64.wrap (0 : Int) = 0 := IntWalk.i64_in _ (by omega)
        have v1 : IntKind.i64.wrap (1 : Int) = 1 := IntWalk.i64_in _ (by omega)
        go_wp2_with fail
        have hd1 : Below wr.heap.size wr wr.drew := (Below.refl _ _).drew
        have HMD := Lib.hid (HM.out.later hd1)
        have HBD := Lib.hid (HB.out.trans (hd1.mono HB.out.size))
        clear hd1
        go_still_tail 11, (by kernel_rfl)
        change wpList _ _ _ _ _ wr.drew
        clear k0 k1
        generalize wr.drew = wd at *
        go_wp2_with (first | (go_at_call 46; refine (taken_c w1 (w.heap.size + 1) S so no co sb ln lc lf (M 0) (M 1) wd hln HBD.out HMD.out HL9.out HLI.out).mono ?_; rintro e w4 ⟨rfl, hb4, hm4⟩; have HM4 := Lib.hid hm4; have HB4 := Lib.hid hb4; clear hm4 hb4))
        go_roundg g'
        case measure => omega
        case rel => exact HNX.out _ _ HT.out (by omega) (by omega) _ HM4.out HB4.out
      · by_cases h92 : c = 92
        · subst h92
          by_cases hend : n ≤ i + 1
          · have q3 : (n : Int) ≤ (i : Int) + 1 := by omega
            have q4 : ¬ (i : Int) + 1 < (n : Int) := by omega
            have HF := Lib.hid (HNO.out (tok_end l i (by rw [HN.out]; exact hlt) HC.out (by rw [HN.out]; exact hend)))
            go_wp2
            go_ret2
            exact FillP.mk (HB1.out.trans (HB.out.mono HB1.out.size)) HF.out (OwnInts.nil _ _)
          · have q3 : ¬ (n : Int) ≤ (i : Int) + 1 := by omega
            have q4 : (i : Int) + 1 < (n : Int) := by omega
            obtain ⟨rb', ro', hee, c1⟩ := HR.out.at HB.out (show i + 1 < n by omega)
            cases hee
            obtain ⟨d, hd⟩ : ∃ d, gl l (i + 1) = d := ⟨_, rfl⟩
            rw [hd] at c1
            have HD := Lib.hid hd
            clear hd
            by_cases hdig : 48 ≤ d ∧ d ≤ 57
            · obtain ⟨q, rfl⟩ : ∃ q : Nat, d = 48 + (q : Int) := ⟨(d - 48).toNat, by omega⟩
              have hq10 : q < 10 := by omega
              have HT := Lib.hid (show tok (l.drop i) = some (.group q, 2) by
                rw [tok_esc l i (by rw [HN.out]; omega) HC.out (by rw [HD.out]; omega), HD.out]
                unfold escT
                rw [if_pos (by omega), show (48 + (q : Int) - 48).toNat = q by omega]
                rfl)
              have k0 : wr.cell? ⟨w.heap.size, 2 * q, none⟩ = some (.int .i64 (M (2 * q))) := (block_cell HMW.out).trans (mC_at M _ (by omega))
              have k1 : wr.cell? ⟨w.heap.size, 2 * q + 1, none⟩ = some (.int .i64 (M (2 * q + 1))) := (block_cell HMW.out).trans (mC_at M _ (by omega))
              have v1 : IntKind.i64.wrap (48 + (q : Int) - 48) = (q : Int) := by rw [IntWalk.i64_in _ (by omega)]; omega
              have v1' : wrap64 (48 + (q : Int) - 48) = (q : Int) := by rw [wrap64_in (by omega) (by omega)]; omega
              have v2 : IntKind.i64.wrap (2 * (q : Int)) = 2 * (q : Int) := IntWalk.i64_in _ (by omega)
              have v3 : IntKind.i64.wrap (2 * (q : Int) + 1) = 2 * (q : Int) + 1 := IntWalk.i64_in _ (by omega)
              have v4 : (2 * (q : Int)).toNat = 2 * q := by omega
              have v5 : (2 * (q : Int) + 1).toNat = 2 * q + 1 := by omega
              have v6 : 2 * (q : Int) < 20 := by omega
              have v7 : 2 * (q : Int) + 1 < 20 := by omega
              have v8 : (0 : Int) ≤ 2 * (q : Int) := by omega
              have v9 : (0 : Int) ≤ 2 * (q : Int) + 1 := by omega
              have u0 : (48 : Int) ≤ 48 + (q : Int) := by omega
              have u1 : (48 : Int) + (q : Int) ≤ 57 := by omega
              have u2 : (0 : Int) ≤ (q : Int) := by omega
              clear hdig
              go_wp2_with fail
              have hd1 : Below wr.heap.size wr wr.drew := (Below.refl _ _).drew
              have HMD := Lib.hid (HM.out.later hd1)
              have HBD := Lib.hid (HB.out.trans (hd1.mono HB.out.size))
              clear hd1
              go_still_tail 11, (by kernel_rfl)
              change wpList _ _ _ _ _ wr.drew
              clear k0 k1
              generalize wr.drew = wd at *
              go_wp2_with (first | (go_at_call 46; refine (taken_c w1 (w.heap.size + 1) S so no co sb ln lc lf (M (2 * q)) (M (2 * q + 1)) wd hln HBD.out HMD.out HL9.out HLI.out).mono ?_; rintro e w4 ⟨rfl, hb4, hm4⟩; have HM4 := Lib.hid hm4; have HB4 := Lib.hid hb4; clear hm4 hb4))
              go_roundg g'
              case measure => omega
              case rel => exact HNX.out _ _ HT.out (by omega) (by omega) _ HM4.out HB4.out
            · by_cases hx : d = 120
              · subst hx
                have HT := Lib.hid (tok_x l i (by rw [HN.out]; omega) HC.out HD.out)
                obtain ⟨v, hv⟩ : ∃ v, hexR l (i + 2) = v := ⟨_, rfl⟩
                have hvle := hexR_le l (i + 2)
                rw [hv] at hvle
                have HV := Lib.hid hv
                clear hv
                obtain ⟨hv1, hv2⟩ := hvle
                have i2 : IntKind.i64.wrap (((i : Int) + 1) + 1) = ((i + 2 : Nat) : Int) := by rw [IntWalk.i64_in _ (by omega)]; omega
                clear hdig
                go_wp2_with fail
                rw [show ((i : Int) + 2) = ((i + 2 : Nat) : Int) from rfl]
                refine (hexed_c rb ro n cap l (i + 2) wr HN.out (by omega) (by omega) (HR.out.later HB.out) HRB.out).mono ?_
                rintro e w2 ⟨rfl, hb2⟩
                rw [HV.out]
                have HB2 := Lib.hid (HB.out.trans (hb2.mono HB.out.size))
                have HM2 := Lib.hid (HM.out.later hb2)
                clear hb2
                by_cases hneg : v < 0
                · have HF := Lib.hid (HNO.out (by rw [HT.out, HV.out, if_pos hneg]))
                  go_wp2
                  go_ret2
                  exact FillP.mk (HB1.out.trans (HB2.out.mono HB1.out.size)) HF.out (OwnInts.nil _ _)
                · have HT2 := Lib.hid (show tok (l.drop i) = some (.give (-1 - v), 4) by rw [HT.out, HV.out, if_neg hneg])
                  have hi4 : i + 4 ≤ n := by
                    have h1 := HT2.out
                    rw [drop_at l i (by rw [HN.out]; exact hlt)] at h1
                    have h2 := tok_pos h1
                    rw [← drop_at l i (by rw [HN.out]; exact hlt), List.length_drop, HN.out] at h2
                    omega
                  have v3 : IntKind.i64.wrap (-1 - v) = -1 - v := IntWalk.i64_in _ (by omega)
                  have v4 : wrap64 (-1 - v) = -1 - v := wrap64_in (by omega) (by omega)
                  go_wp2_with (first | (go_at_call 43; refine (rgive_c w1 (w.heap.size + 1) S so no co (-1 - v) w2 HB2.out HM2.out HL1.out).mono ?_; rintro e w4 ⟨rfl, hb4, hm4⟩; have HM4 := Lib.hid hm4; have HB4 := Lib.hid hb4; clear hm4 hb4))
                  go_roundg g'
                  case measure => omega
                  case rel => exact HNX.out _ _ HT2.out (by omega) (by omega) _ HM4.out HB4.out
              · have HTE := Lib.hid (show tok (l.drop i) = (escT d).map fun t => (t, 2) by rw [tok_esc l i (by rw [HN.out]; omega) HC.out (by rw [HD.out]; exact hx), HD.out])
                have n120 : (d == 120) = false := by rw [beq_eq_false_iff_ne]; exact hx
                have HDI := Lib.hid hdig
                by_cases hlo : 48 ≤ d
                · have u1 : ¬ d ≤ 57 := by omega
                  have u2 : (57 : Int) < d := by omega
                  clear hdig hx
                  go_wp2_with fail
                  refine (resc_c w1 (w.heap.size + 1) S so no co d (lst lf ln) M wr HB.out HM.out HL1.out HDI.out).mono ?_
                  rintro e w4 ⟨hb4, hpost⟩
                  have HB4 := Lib.hid hb4
                  clear hb4
                  cases hesc : escT d with
                  | none =>
                    rw [hesc] at hpost
                    simp only at hpost
                    subst hpost
                    have HF := Lib.hid (HNO.out (by rw [HTE.out, hesc]; rfl))
                    clear hesc
                    go_wp2
                    go_ret2
                    exact FillP.mk (HB1.out.trans (HB4.out.mono HB1.out.size)) HF.out (OwnInts.nil _ _)
                  | some t =>
                    rw [hesc] at hpost
                    obtain ⟨rfl, hm4⟩ := hpost
                    have HT2 := Lib.hid (show tok (l.drop i) = some (t, 2) by rw [HTE.out, hesc]; rfl)
                    have HM4 := Lib.hid hm4
                    clear hesc hm4
                    go_wp2
                    go_roundg g'
                    case measure => omega
                    case rel => exact HNX.out _ _ HT2.out (by omega) (by omega) _ HM4.out HB4.out
                · have u1 : d < 48 := by omega
                  clear hdig hx
                  go_wp2_with fail
                  refine (resc_c w1 (w.heap.size + 1) S so no co d (lst lf ln) M wr HB.out HM.out HL1.out HDI.out).mono ?_
                  rintro e w4 ⟨hb4, hpost⟩
                  have HB4 := Lib.hid hb4
                  clear hb4
                  cases hesc : escT d with
                  | none =>
                    rw [hesc] at hpost
                    simp only at hpost
                    subst hpost
                    have HF := Lib.hid (HNO.out (by rw [HTE.out, hesc]; rfl))
                    clear hesc
                    go_wp2
                    go_ret2
                    exact FillP.mk (HB1.out.trans (HB4.out.mono HB1.out.size)) HF.out (OwnInts.nil _ _)
                  | some t =>
                    rw [hesc] at hpost
                    obtain ⟨rfl, hm4⟩ := hpost
                    have HT2 := Lib.hid (show tok (l.drop i) = some (t, 2) by rw [HTE.out, hesc]; rfl)
                    have HM4 := Lib.hid hm4
                    clear hesc hm4
                    go_wp2
                    go_roundg g'
                    case measure => omega
                    case rel => exact HNX.out _ _ HT2.out (by omega) (by omega) _ HM4.out HB4.out
        · have n38 : (c == 38) = false := by rw [beq_eq_false_iff_ne]; exact h38
          have n92 : (c == 92) = false := by rw [beq_eq_false_iff_ne]; exact h92
          have n92' : (c != 92) = true := by rw [bne_iff_ne]; exact h92
          have HT := Lib.hid (show tok (l.drop i) = some (.give c, 1) by rw [tok_one l i (by rw [HN.out]; exact hlt) (by rw [HC.out]; exact h38) (by rw [HC.out]; exact h92), HC.out])
          clear h38 h92
          go_wp2_with (first | (go_at_call 43; refine (rgive_c w1 (w.heap.size + 1) S so no co c wr HB.out HM.out HL1.out).mono ?_; rintro e w4 ⟨rfl, hb4, hm4⟩; have HM4 := Lib.hid hm4; have HB4 := Lib.hid hb4; clear hm4 hb4))
          go_roundg g'
          case measure => omega
          case rel => exact HNX.out _ _ HT.out (by omega) (by omega) _ HM4.out HB4.out
    · obtain rfl : i = n := by omega
      have z1 : ¬ (i : Int) < (i : Int) := by omega
      have d0 : wr.cell? ⟨w.heap.size + 1, 0, none⟩ = some (.slice so no co) := block_cell HM.out.blk
      have HAN := Lib.hid (show fillF l (lst lf ln) M = ansF (some S) by
        rw [HFA.out, ← HGO.out, List.drop_eq_nil_of_le (by rw [HN.out]; exact Nat.le_refl _)]
        cases gk <;> rfl)
      have hno := HM.out.n_eq
      by_cases hlong : 140000 < no
      · have q2 : (140000 : Int) < (no : Int) := by omega
        have HAN2 := Lib.hid (HAN.out.trans (ansF_long (by omega)))
        clear hno
        go_wp2
        go_ret2
        exact FillP.mk (HB1.out.trans (HB.out.mono HB1.out.size)) HAN2.out (OwnInts.nil _ _)
      · have q2 : ¬ (140000 : Int) < (no : Int) := by omega
        have HAN2 := Lib.hid (HAN.out.trans (ansF_short (by omega)))
        clear hno
        go_wp2
        go_ret2
        exact FillP.mk (HB1.out.trans (HB.out.mono HB1.out.size)) HAN2.out (HM.out.own.mono (by have := HSZ.out; omega))
theorem rfill_c (sl : Option Addr) (n cap : Nat) (l : List Int) (sb : Option Addr) (ln lc : Nat) (lf M : Nat → Int) (w : World) (hn : l.length = n) (hr : IsInts w sl n (gl l)) (hli : IsInts w sb ln lf) (hln : ln < 1073741824) :
    Calls Tryd.prog 29 #[.slice sl n cap, .slice sb ln lc, .agg (mC M)] w (FillP l (lst lf ln) M w) := by
  by_cases h : 256 < n
  · exact rfill_long sl n cap l sb ln lc lf M w hn h
  · exact rfill_short sl n cap l sb ln lc lf M w hn (by omega) hr hli hln
end Go.Proofs.YtdegdoilpamjjaaDoor
