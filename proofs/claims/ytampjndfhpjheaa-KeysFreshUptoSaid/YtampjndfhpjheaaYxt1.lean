/- Contract: tables.read, one of its ways. Condition: fewer than 2^62 keys. -/
import Derived.Test.YtampjndfhpjheaaYx
namespace Go.Proofs.Ytampjndfhpjheaa
open Go.RowKit
set_option maxRecDepth 100000 in
set_option maxHeartbeats 8000000 in
theorem read_true1 (ow0 : Nat → Nat) (tb : Nat) (sl : Option Addr) (cl : Nat) (l : List Int) (w : World) (ht : Tabs w ow0 tb tabT) (hr : IsInts w sl l.length (gl l)) (hs : ∀ a, sl = some a → a.block < w.heap.size) (hcl : l.length ≤ cl) (hl : l.length < 4611686018427387904) (hkeys : ∀ x ∈ l, inKey x) (hcls : clsP true l = 1) :
    Calls Try.prog 43 #[.pointer (some ⟨tb, 0, none⟩), .bool true, .slice sl l.length cl] w fun e w' => e = .returned (.tuple #[.agg (readP true l).2.cells, .int .i64 ((readP true l).1 : Nat)]) ∧ Below w.heap.size w w' := by
  have hst := read_start w ow0 tb sl cl l ht hr hs hcl
  obtain ⟨ow, w1, hw1, ht1, hrb, hrd, h9, h6, hb⟩ := hst
  have HW1 := Lib.hid hw1
  have HT := Lib.hid ht1
  have HRB := Lib.hid hrb
  have HRD := Lib.hid hrd
  have H9 := Lib.hid h9
  have H6 := Lib.hid h6
  have HB := Lib.hid hb
  have HKY := Lib.hid hkeys
  have HCLS := Lib.hid hcls
  clear ht hr hs hcl hw1 ht1 hrb hrd h9 h6 hb hkeys hcls
  go_enter Try.func43, Try.ntmps43
  go_wp2
  go_step3
  go_wp2
  go_step3
  go_wp2_with fail
  rw [← HW1.out]
  go_loopg [] l.length (fun gg wr => ∃ q reg cnt, q.length ≤ gg ∧ prefP (q.length + 1) reg cnt q = prefP (l.length + 1) 0 0 l ∧ RdOk wr (w.heap.size + 1) q cnt w.heap.size ∧ 0 ≤ cnt ∧ cnt ≤ 9999 ∧ wr.heap[(w.heap.size + 2)]? = some (.cells #[.int .i64 reg, .int .i64 0, .int .i64 0, .int .i64 0, .int .i64 0] 44 (0, 0)) ∧ wr.heap[w.heap.size]? = some (.cells #[.int .i64 0, .int .i64 0, .int .i64 0, .int .i64 0, .int .i64 0] 44 (0, 0)) ∧ Below w.heap.size w wr ∧ Tabs wr ow tb tabT ∧ (∀ x ∈ q, x ∈ l) ∧ q.length ≤ l.length)
  case atStart => exact ⟨l, 0, 0, Nat.le_refl _, rfl, HRD.out, by omega, by omega, H9.out, H6.out, HB.out, HT.out, fun x hx => hx, Nat.le_refl _⟩
  case round =>
    obtain ⟨q, reg, cnt, hq, hpf, hrd, hc0, hc1, h9, h6, hb, ht, hsub, hql⟩ := hrel
    clear HRD H9 H6 HB HT HW1
    have HPF := Lib.hid hpf
    have HRD := Lib.hid hrd
    have H9 := Lib.hid h9
    have H6 := Lib.hid h6
    have HB := Lib.hid hb
    have HT := Lib.hid ht
    have HSUB := Lib.hid hsub
    have hwl := heap_lt h6
    have hwl9 := heap_lt h9
    clear hpf hrd h9 h6 hb ht hsub
    go_wp2_with fail
    refine (number_c (w.heap.size + 1) q cnt w.heap.size wr HRD.out (by omega) hc0 hc1).mono ?_
    rintro e w2 ⟨rfl, hrd2, ht2⟩
    have hps := pref_step q.length reg cnt q
    have hnb := numP_bd hc0 hc1 q
    have hns := numP_sub cnt q
    have hnl := numP_len cnt q
    generalize hnp : numP cnt q = np at hps hrd2 hnb hns hnl
    obtain ⟨cnt2, q2⟩ := np
    simp only at hps hrd2 hnb hns hnl
    obtain ⟨hd0, hd1⟩ := hnb
    have h92 := (ht2.block (w.heap.size + 2) hwl9 (by omega)).trans H9.out
    have h62 := (ht2.block w.heap.size hwl (by omega)).trans H6.out
    have hb2 : Below w.heap.size w w2 := HB.out.trans (ht2.below (fun b hb => by subst hb; omega) HB.out.size)
    have HT2 := Lib.hid (HT.out.touch ht2 (HRB.out _ (by omega)))
    have HPS := Lib.hid (HPF.out.symm.trans hps)
    have HNS := Lib.hid (fun x hx => HSUB.out x (hns x hx))
    have HRD2 := Lib.hid hrd2
    have H92 := Lib.hid h92
    have H62 := Lib.hid h62
    have HB2 := Lib.hid hb2
    clear ht2 hps hns hnp hrd2 h92 h62 hb2 HT HRD H9 H6 HB HPF HSUB
    cases q2 with
    | nil =>
      exact absurd (HCLS.out.symm.trans (cls_stop HPS.out (by decide))) (by decide)
    | cons x t =>
      obtain ⟨s2, c2, d1, d2, d3, d4⟩ := HRD2.out
      have m0 : w2.cell? ⟨(w.heap.size + 1), 0, none⟩ = some (.slice s2 (x :: t).length c2) := block_cell d1
      obtain ⟨bq, oq, rfl, hx⟩ := d3.at (Below.refl _ _) (show 0 < (x :: t).length by simp)
      rw [Nat.add_zero] at hx
      have hx' : w2.cell? ⟨bq, oq, none⟩ = some (.int .i64 x) := hx
      have z0 : (((x :: t).length : Int) == 0) = false := by rw [beq_eq_false_iff_ne]; simp only [List.length_cons]; omega
      have q0 : (0 : Int) < ((x :: t).length : Int) := by simp only [List.length_cons]; omega
      by_cases hx34 : x = 34
      · subst hx34
        cases t with
        | nil =>
          exact absurd (HCLS.out.symm.trans (cls_stop HPS.out (by decide))) (by decide)
        | cons y u =>
          obtain ⟨_, _, he, hy⟩ := d3.at (Below.refl _ _) (show 1 < (34 :: y :: u).length by simp)
          cases he
          have hy' : w2.cell? ⟨bq, oq + 1, none⟩ = some (.int .i64 y) := hy
          clear hy
          have z1 : (((34 :: y :: u).length : Int) == 1) = false := by rw [beq_eq_false_iff_ne]; simp only [List.length_cons]; omega
          have q1 : (1 : Int) < ((34 :: y :: u).length : Int) := by simp only [List.length_cons]; omega
          by_cases hy0 : y = 0
          · subst hy0
            exact absurd (HCLS.out.symm.trans (cls_stop HPS.out (by decide))) (by decide)
          · have zy : (y == 0) = false := by rw [beq_eq_false_iff_ne]; exact hy0
            have k9 := H92.out
            have g0 : w2.cell? ⟨(w.heap.size + 2), 0, none⟩ = some (.int .i64 reg) := block_cell k9
            have gf : w2.frozen? ⟨(w.heap.size + 2), 0, none⟩ = false := block_free k9
            have hne9 : (w.heap.size + 2) ≠ (w.heap.size + 1) := by omega
            have hne9b : (w.heap.size + 1) ≠ (w.heap.size + 2) := by omega
            have m0s : ∀ V, (w2.setCell ⟨(w.heap.size + 2), 0, none⟩ V).cell? ⟨(w.heap.size + 1), 0, none⟩ = some (.slice (some ⟨bq, oq, none⟩) (34 :: y :: u).length c2) := fun V => (World.cell?_of_block (w := w2) (Below.heap_setCell _ _ _ _ hne9b)).trans m0
            have mfs : ∀ V, (w2.setCell ⟨(w.heap.size + 2), 0, none⟩ V).frozen? ⟨(w.heap.size + 1), 0, none⟩ = false := fun V => block_free ((Below.heap_setCell _ _ _ _ hne9b).trans d1)
            have q2 : (2 : Int) ≤ ((34 :: y :: u).length : Int) := by simp only [List.length_cons]; omega
            have q3 : ((34 :: y :: u).length : Int) ≤ (c2 : Int) := by omega
            have HPG := Lib.hid (show prefP (u.length + 1) y cnt2 u = prefP (l.length + 1) 0 0 l by
              rw [HPS.out]
              simp only [hy0, if_true, if_false]
              exact pref_fuel _ _ _ _ _ (by omega) (by simp at hnl; omega))
            have D4 := Lib.hid d4
            have hcut := read_cut (w := w) (cnt := cnt2) (reg := reg) (x := 34) d1 d2 d3 d4 H92.out H62.out HB2.out HT2.out HRB.out
            have hrel2 : ∀ (s3 : Option Addr) (c3 : Nat) (w5 : World), w5 = (w2.setCell ⟨w.heap.size + 2, 0, none⟩ (.int .i64 y)).setCell ⟨w.heap.size + 1, 0, none⟩ (.slice s3 u.length c3) → (u.length = 0 ∨ s3 = some ⟨bq, oq + 2, none⟩) → (s3 = some ⟨bq, oq, none⟩ ∨ s3 = some ⟨bq, oq + 2, none⟩) → u.length ≤ c3 → ∃ q reg cnt, q.length ≤ u.length ∧ prefP (q.length + 1) reg cnt q = prefP (l.length + 1) 0 0 l ∧ RdOk w5 (w.heap.size + 1) q cnt w.heap.size ∧ 0 ≤ cnt ∧ cnt ≤ 9999 ∧ w5.heap[(w.heap.size + 2)]? = some (.cells #[.int .i64 reg, .int .i64 0, .int .i64 0, .int .i64 0, .int .i64 0] 44 (0, 0)) ∧ w5.heap[w.heap.size]? = some (.cells #[.int .i64 0, .int .i64 0, .int .i64 0, .int .i64 0, .int .i64 0] 44 (0, 0)) ∧ Below w.heap.size w w5 ∧ Tabs w5 ow tb tabT ∧ (∀ x ∈ q, x ∈ l) ∧ q.length ≤ l.length := fun s3 c3 w5 k4 k1 k2 k3 => by
              obtain ⟨r1, r2, r3, r4, r5⟩ := hcut s3 c3 w5 k1 k2 k3 k4
              exact ⟨u, y, cnt2, Nat.le_refl _, HPG.out, r1, hd0, hd1, r2, r3, r4, r5, fun z hz => HNS.out z (List.mem_cons_of_mem _ (List.mem_cons_of_mem _ hz)), by simp at hnl; omega⟩
            have HCUT := Lib.hid hrel2
            clear hrel2
            have hgk : u.length + 2 ≤ gk + 1 := by simp at hnl; omega
            have hul : u.length ≤ l.length := by simp at hnl; omega
            have hlen2 : (34 :: y :: u).length = u.length + 2 := rfl
            have HUS := Lib.hid (fun z hz => HNS.out z (List.mem_cons_of_mem _ (List.mem_cons_of_mem _ hz)) : ∀ z ∈ u, z ∈ l)
            clear d1 d2 d3 d4 hx hcut k9 hnl
            generalize (34 :: y :: u).length = n2 at *
            go_wp2
            all_goals
              go_roundg u.length
              case measure => omega
              case rel =>
                exact HCUT.out _ _ _ rfl (by first | exact .inl (by omega) | exact .inr rfl) (by first | exact .inl rfl | exact .inr rfl) (by omega)
      · have zx : (x == 34) = false := by rw [beq_eq_false_iff_ne]; exact hx34
        have HSP := Lib.hid (read_row (sel := true) (reg := reg) (cnt := cnt2) (rest := x :: t) (HPS.out.trans (if_neg hx34)))
        have HCR := Lib.hid ((cls_row (sel := true) (HPS.out.trans (if_neg hx34))).symm.trans HCLS.out)
        have hlq : (x :: t).length < 4611686018427387904 := by omega
        clear d1 d2 d3 d4 hx
        generalize hq2 : x :: t = q at HSP HNS HRD2 hlq HCR
        clear hq2
        go_wp2_with fail
        refine (look_t ow tb 1 (topT true) (w.heap.size + 1) q cnt2 w.heap.size w2 HB2.out.size good_selected.ok (show LOf w2 ow tb 1 (topT true) from HT2.out.list 1 (by omega)) HRD2.out hlq (fun z hz => HKY.out z (HNS.out z hz))).mono ?_
        clear m0 hx' z0 q0 zx
        rintro e w3 ⟨bv, rfl, ht3, hcase⟩
        obtain ⟨v1, v2, v3, v4, v5, v6, v7, v8⟩ := bv
        rw [show (BV.cells ⟨v1, v2, v3, v4, v5, v6, v7, v8⟩) = #[.int .i64 v1, .int .i64 v2, .int .i64 v3, .bool v4, .slice v5 v6 v7, .pointer v8] from rfl]
        have hbn := below_new2 w3 (.cells #[.int .i64 v1, .int .i64 v2, .int .i64 v3, .bool v4, .slice v5 v6 v7, .pointer v8] 133)
        have h93 := (ht3.block (w.heap.size + 2) (heap_lt H92.out) (by omega)).trans H92.out
        have h63 := (ht3.block w.heap.size (heap_lt H62.out) (by omega)).trans H62.out
        have h94 := (hbn.block _ (heap_lt h93)).trans h93
        have h64 := (hbn.block _ (heap_lt h63)).trans h63
        have hb3 := HB2.out.trans (ht3.below (fun b hb => by subst hb; omega) HB2.out.size)
        have hb4 := hb3.trans (hbn.mono hb3.size)
        have htt3 := HT2.out.touch ht3 (HRB.out _ (by omega))
        have htt4 := htt3.later hbn
        have h114 := one_new w3 (.cells #[.int .i64 v1, .int .i64 v2, .int .i64 v3, .bool v4, .slice v5 v6 v7, .pointer v8] 133)
        have hl93 := heap_lt h93
        have K9 := Lib.hid h94
        have K6 := Lib.hid h64
        have KB := Lib.hid h114
        have HB4 := Lib.hid hb4
        have HT4 := Lib.hid htt4
        have HC3 := Lib.hid hcase
        have HBN := Lib.hid hbn
        have HT34 := Lib.hid (ht3.trans (Touch.of (O := fun b => b = (w.heap.size + 1)) hbn) (fun x hx => .inl hx))
        clear ht3 hcase hbn h93 h63 h94 h64 hb3 hb4 htt3 htt4 h114 HRD2 H92 H62 HB2 HT2
        rcases lookG_3 (topT true) q with h0 | h1 | h2
        · rw [h0]
          exact absurd (HCR.out.symm.trans (cls_not h0 (by decide))) (by decide)
        · rw [h1]
          rcases HC3.out with ⟨_, k, b, h7, h8, h9, h10⟩ | ⟨h7, _⟩
          · have HC7 := Lib.hid h7
            have hbd := h9.kept (fun b hb he => ⟨HT34.out.block b hb (fun e => by have e' : b = (w.heap.size + 1) := e; have := HRB.out b (by omega); omega), rfl⟩) HT34.out.size
            have HRD4 := Lib.hid (h10.later HBN.out)
            obtain ⟨i1, i2, i3, i4, i5⟩ := hbd
            have HIS : Hid (BvIs b ⟨v1, v2, v3, v4, v5, v6, v7, v8⟩) := Lib.hid ⟨i1, i2, i3, i4⟩
            have H8 := Lib.hid h8
            have hlq4 : (q.drop k.length).length < 4611686018427387904 := by rw [List.length_drop]; omega
            have HN4 : Hid (∀ z ∈ q.drop k.length, z ∈ l) := Lib.hid (fun z hz => HNS.out z (List.mem_of_mem_drop hz))
            clear h1 HC3 h7 h8 h9 h10 i1 i2 i3 i4 HT34 HCLS
            rcases i5 with ⟨o1, o2, o3, o4, o5⟩ | ⟨o1, o2, o3, r, o4, o5, o6, o7⟩
            · have HSP2 : Hid (readP true l = finV reg cnt2 v1 v2 v3 v4 (q.drop k.length)) := Lib.hid (HSP.out.trans ((row_plain HC7.out o1).trans (by
                have e1 : b.verb = v1 := HIS.out.1.symm
                rw [e1]; exact finV_eq HIS.out _)))
              have HV4 : Hid (v4 = false) := Lib.hid (by
                have e1 := HCR.out
                rw [cls_plain HC7.out o1] at e1
                have e2 : v4 = b.more := HIS.out.2.2.2
                rw [e2]
                cases e3 : b.more <;> rw [e3] at e1 <;> first | rfl | exact absurd e1 (by decide))
              have o2' : v5 = none := o2
              have o3' : v6 = 0 := o3
              have o4' : v7 = 0 := o4
              subst o2'; subst o3'; subst o4'
              clear o1 o2 o3 o4 o5 HSP HC7 HIS H8
              generalize q.drop k.length = q4 at HSP2 HRD4 hlq4 HN4
              have HSP := HSP2
              have HRDF := HRD4
              clear HSP2 HRD4
              go_upto_region 19 with (fail)
              generalize w3.alloc (.cells #[.int .i64 v1, .int .i64 v2, .int .i64 v3, .bool v4, .slice none 0 0, .pointer v8] 133) = w4 at K6 K9 KB HB4 HT4 HRDF HBN ⊢
              clear HBN
              generalize hn11 : w3.heap.size = n11 at KB hl93 ⊢
              clear hn11
              have k6 := K6.out
              have k9 := K9.out
              have kb := KB.out
              have hm4 : w4.cell? ⟨n11, 4, none⟩ = some (.slice none 0 0) := block_cell kb
              clear K6 K9 KB
              go_upto_region 26 with (fail)
              clear hm4
              have hm3 : w4.cell? ⟨n11, 3, none⟩ = some (.bool v4) := block_cell kb
              obtain ⟨sq, cq, krd, hcq, diq, dnq⟩ := HRDF.out
              cases v4 with
              | true =>
                have hbad := HV4.out
                cases hbad
              | false =>
                have HF : Hid (readP true l = (1, ⟨reg, cnt2, v1, if v2 = 33 ∧ 0 < cnt2 then 18 else v2, v3⟩)) := HSP
                clear hm3
                have hm3 : w4.cell? ⟨n11, 3, none⟩ = some (.bool false) := block_cell kb
                have b0 : w4.cell? ⟨n11, 0, none⟩ = some (.int .i64 v1) := block_cell kb
                have b1 : w4.cell? ⟨n11, 1, none⟩ = some (.int .i64 v2) := block_cell kb
                have b2 : w4.cell? ⟨n11, 2, none⟩ = some (.int .i64 v3) := block_cell kb
                have b3 : w4.cell? ⟨(w.heap.size + 1), 1, none⟩ = some (.int .i64 cnt2) := block_cell krd
                have g1 : w4.frozen? ⟨(w.heap.size + 2), 1, none⟩ = false := block_free k9
                have g2 : w4.frozen? ⟨(w.heap.size + 2), 2, none⟩ = false := block_free k9
                have g3 : w4.frozen? ⟨(w.heap.size + 2), 3, none⟩ = false := block_free k9
                have g4 : w4.frozen? ⟨(w.heap.size + 2), 4, none⟩ = false := block_free k9
                have q1 : w4.cell? ⟨(w.heap.size + 2), 1, none⟩ = some (.int .i64 0) := block_cell k9
                have q2 : w4.cell? ⟨(w.heap.size + 2), 2, none⟩ = some (.int .i64 0) := block_cell k9
                have q3 : w4.cell? ⟨(w.heap.size + 2), 3, none⟩ = some (.int .i64 0) := block_cell k9
                have q4 : w4.cell? ⟨(w.heap.size + 2), 4, none⟩ = some (.int .i64 0) := block_cell k9
                have k9d : w4.heap[(w.heap.size + 2)]? = some (.cells #[.int .i64 reg, .int .i64 0, .int .i64 0, .int .i64 0, .int .i64 0] 44 (0, 0)) := k9
                have k9b : ((((w4.setCell ⟨(w.heap.size + 2), 1, none⟩ (.int .i64 cnt2)).setCell ⟨(w.heap.size + 2), 2, none⟩ (.int .i64 v1)).setCell ⟨(w.heap.size + 2), 3, none⟩ (.int .i64 v2)).setCell ⟨(w.heap.size + 2), 4, none⟩ (.int .i64 v3)).drew.heap[(w.heap.size + 2)]? = some (.cells #[.int .i64 reg, .int .i64 cnt2, .int .i64 v1, .int .i64 v2, .int .i64 v3] 44 (0, 0)) := by
                  show ((((w4.setCell ⟨(w.heap.size + 2), 1, none⟩ (.int .i64 cnt2)).setCell ⟨(w.heap.size + 2), 2, none⟩ (.int .i64 v1)).setCell ⟨(w.heap.size + 2), 3, none⟩ (.int .i64 v2)).setCell ⟨(w.heap.size + 2), 4, none⟩ (.int .i64 v3)).heap[(w.heap.size + 2)]? = _
                  rw [block_set _ (block_set _ (block_set _ (block_set _ k9d)))]; rfl
                have k6b : ((((w4.setCell ⟨(w.heap.size + 2), 1, none⟩ (.int .i64 cnt2)).setCell ⟨(w.heap.size + 2), 2, none⟩ (.int .i64 v1)).setCell ⟨(w.heap.size + 2), 3, none⟩ (.int .i64 v2)).setCell ⟨(w.heap.size + 2), 4, none⟩ (.int .i64 v3)).drew.heap[w.heap.size]? = some (.cells #[.int .i64 0, .int .i64 0, .int .i64 0, .int .i64 0, .int .i64 0] 44 (0, 0)) := (set4_block w4 (w.heap.size + 2) w.heap.size cnt2 v1 v2 v3 (by omega)).trans k6
                have hbb := HB4.out.trans ((set4_touch w4 (w.heap.size + 2) cnt2 v1 v2 v3).below (B := w.heap.size) (fun b hb => by subst hb; omega) HB4.out.size)
                have HBB : Hid (Below w.heap.size w ((((w4.setCell ⟨(w.heap.size + 2), 1, none⟩ (.int .i64 cnt2)).setCell ⟨(w.heap.size + 2), 2, none⟩ (.int .i64 v1)).setCell ⟨(w.heap.size + 2), 3, none⟩ (.int .i64 v2)).setCell ⟨(w.heap.size + 2), 4, none⟩ (.int .i64 v3)).drew) := Lib.hid hbb.drew
                clear k6 k9 k9d kb krd hbb
                go_upto_region 30 with (fail)
                go_region
                go_upto_region 31 with (fail)
                generalize ((((w4.setCell ⟨(w.heap.size + 2), 1, none⟩ (.int .i64 cnt2)).setCell ⟨(w.heap.size + 2), 2, none⟩ (.int .i64 v1)).setCell ⟨(w.heap.size + 2), 3, none⟩ (.int .i64 v2)).setCell ⟨(w.heap.size + 2), 4, none⟩ (.int .i64 v3)).drew = w7 at k9b k6b HBB ⊢
                clear b0 b1 b2 b3 g1 g2 g3 g4 q1 q2 q3 q4
                have c3 : w7.cell? ⟨(w.heap.size + 2), 3, none⟩ = some (.int .i64 v2) := block_cell k9b
                by_cases hm : v2 = 33
                · subst hm
                  have c1 : w7.cell? ⟨(w.heap.size + 2), 1, none⟩ = some (.int .i64 cnt2) := block_cell k9b
                  by_cases hp : 0 < cnt2
                  · have hp' : decide (cnt2 > 0) = true := decide_eq_true hp
                    have HF2 := Lib.hid (HF.out.trans (by rw [if_pos ⟨rfl, hp⟩]) : readP true l = (1, ⟨reg, cnt2, v1, 18, v3⟩))
                    have f3 : w7.frozen? ⟨(w.heap.size + 2), 3, none⟩ = false := block_free k9b
                    have k9c : (w7.setCell ⟨(w.heap.size + 2), 3, none⟩ (.int .i64 18)).heap[(w.heap.size + 2)]? = some (.cells #[.int .i64 reg, .int .i64 cnt2, .int .i64 v1, .int .i64 18, .int .i64 v3] 44 (0, 0)) := by rw [block_set _ k9b]; rfl
                    have k6c : (w7.setCell ⟨(w.heap.size + 2), 3, none⟩ (.int .i64 18)).heap[w.heap.size]? = some (.cells #[.int .i64 0, .int .i64 0, .int .i64 0, .int .i64 0, .int .i64 0] 44 (0, 0)) := (Below.heap_setCell _ _ _ _ (by show w.heap.size ≠ (w.heap.size + 2); omega)).trans k6b
                    have hbc := HBB.out.trans ((Touch.setCell (fun b => b = (w.heap.size + 2)) w7 (p := ⟨(w.heap.size + 2), 3, none⟩) rfl (.int .i64 18)).below (B := w.heap.size) (fun b hb => by subst hb; omega) HBB.out.size)
                    have HBC := Lib.hid hbc
                    clear k6b k9b hbc HBB HF
                    go_upto_region 33 with (fail)
                    generalize w7.setCell ⟨(w.heap.size + 2), 3, none⟩ (.int .i64 18) = w8 at k9c k6c HBC ⊢
                    clear c1 c3 f3
                    have e0 : w8.cell? ⟨w.heap.size, 0, none⟩ = some (.int .i64 0) := block_cell k6c
                    have ef0 : w8.frozen? ⟨w.heap.size, 0, none⟩ = false := block_free k6c
                    have e1 : w8.cell? ⟨w.heap.size, 1, none⟩ = some (.int .i64 0) := block_cell k6c
                    have ef1 : w8.frozen? ⟨w.heap.size, 1, none⟩ = false := block_free k6c
                    have e2 : w8.cell? ⟨w.heap.size, 2, none⟩ = some (.int .i64 0) := block_cell k6c
                    have ef2 : w8.frozen? ⟨w.heap.size, 2, none⟩ = false := block_free k6c
                    have e3 : w8.cell? ⟨w.heap.size, 3, none⟩ = some (.int .i64 0) := block_cell k6c
                    have ef3 : w8.frozen? ⟨w.heap.size, 3, none⟩ = false := block_free k6c
                    have e4 : w8.cell? ⟨w.heap.size, 4, none⟩ = some (.int .i64 0) := block_cell k6c
                    have ef4 : w8.frozen? ⟨w.heap.size, 4, none⟩ = false := block_free k6c
                    have n0 : w8.cell? ⟨(w.heap.size + 2), 0, none⟩ = some (.int .i64 reg) := block_cell k9c
                    have n1 : w8.cell? ⟨(w.heap.size + 2), 1, none⟩ = some (.int .i64 cnt2) := block_cell k9c
                    have n2 : w8.cell? ⟨(w.heap.size + 2), 2, none⟩ = some (.int .i64 v1) := block_cell k9c
                    have n3 : w8.cell? ⟨(w.heap.size + 2), 3, none⟩ = some (.int .i64 18) := block_cell k9c
                    have n4 : w8.cell? ⟨(w.heap.size + 2), 4, none⟩ = some (.int .i64 v3) := block_cell k9c
                    clear k6c k9c
                    go_wp2
                    try rw [Exit.noGoto_ret]
                    exact bodyPost_ret (v := .tuple #[.agg #[.int .i64 reg, .int .i64 cnt2, .int .i64 v1, .int .i64 18, .int .i64 v3], .int .i64 1]) (by simp [results, Try.results43, go_sem, e0, e1, e2, e3, e4]) rfl ⟨by rw [HF2.out]; rfl, set5_below (W := w8) HBC.out ⟨reg, cnt2, v1, 18, v3⟩⟩
                  · have hp' : decide (cnt2 > 0) = false := decide_eq_false hp
                    have HF2 := Lib.hid (HF.out.trans (by rw [if_neg (fun h => hp h.2)]) : readP true l = (1, ⟨reg, cnt2, v1, 33, v3⟩))
                    clear HF
                    go_upto_region 33 with (fail)
                    clear c1 c3
                    have e0 : w7.cell? ⟨w.heap.size, 0, none⟩ = some (.int .i64 0) := block_cell k6b
                    have ef0 : w7.frozen? ⟨w.heap.size, 0, none⟩ = false := block_free k6b
                    have e1 : w7.cell? ⟨w.heap.size, 1, none⟩ = some (.int .i64 0) := block_cell k6b
                    have ef1 : w7.frozen? ⟨w.heap.size, 1, none⟩ = false := block_free k6b
                    have e2 : w7.cell? ⟨w.heap.size, 2, none⟩ = some (.int .i64 0) := block_cell k6b
                    have ef2 : w7.frozen? ⟨w.heap.size, 2, none⟩ = false := block_free k6b
                    have e3 : w7.cell? ⟨w.heap.size, 3, none⟩ = some (.int .i64 0) := block_cell k6b
                    have ef3 : w7.frozen? ⟨w.heap.size, 3, none⟩ = false := block_free k6b
                    have e4 : w7.cell? ⟨w.heap.size, 4, none⟩ = some (.int .i64 0) := block_cell k6b
                    have ef4 : w7.frozen? ⟨w.heap.size, 4, none⟩ = false := block_free k6b
                    have n0 : w7.cell? ⟨(w.heap.size + 2), 0, none⟩ = some (.int .i64 reg) := block_cell k9b
                    have n1 : w7.cell? ⟨(w.heap.size + 2), 1, none⟩ = some (.int .i64 cnt2) := block_cell k9b
                    have n2 : w7.cell? ⟨(w.heap.size + 2), 2, none⟩ = some (.int .i64 v1) := block_cell k9b
                    have n3 : w7.cell? ⟨(w.heap.size + 2), 3, none⟩ = some (.int .i64 33) := block_cell k9b
                    have n4 : w7.cell? ⟨(w.heap.size + 2), 4, none⟩ = some (.int .i64 v3) := block_cell k9b
                    clear k6b k9b
                    go_wp2
                    try rw [Exit.noGoto_ret]
                    exact bodyPost_ret (v := .tuple #[.agg #[.int .i64 reg, .int .i64 cnt2, .int .i64 v1, .int .i64 33, .int .i64 v3], .int .i64 1]) (by simp [results, Try.results43, go_sem, e0, e1, e2, e3, e4]) rfl ⟨by rw [HF2.out]; rfl, set5_below (W := w7) HBB.out ⟨reg, cnt2, v1, 33, v3⟩⟩
                · have hm' : (v2 == 33) = false := by rw [beq_eq_false_iff_ne]; exact hm
                  have HF2 := Lib.hid (HF.out.trans (by rw [if_neg (fun h => hm h.1)]) : readP true l = (1, ⟨reg, cnt2, v1, v2, v3⟩))
                  clear HF
                  go_upto_region 33 with (fail)
                  clear c3
                  have e0 : w7.cell? ⟨w.heap.size, 0, none⟩ = some (.int .i64 0) := block_cell k6b
                  have ef0 : w7.frozen? ⟨w.heap.size, 0, none⟩ = false := block_free k6b
                  have e1 : w7.cell? ⟨w.heap.size, 1, none⟩ = some (.int .i64 0) := block_cell k6b
                  have ef1 : w7.frozen? ⟨w.heap.size, 1, none⟩ = false := block_free k6b
                  have e2 : w7.cell? ⟨w.heap.size, 2, none⟩ = some (.int .i64 0) := block_cell k6b
                  have ef2 : w7.frozen? ⟨w.heap.size, 2, none⟩ = false := block_free k6b
                  have e3 : w7.cell? ⟨w.heap.size, 3, none⟩ = some (.int .i64 0) := block_cell k6b
                  have ef3 : w7.frozen? ⟨w.heap.size, 3, none⟩ = false := block_free k6b
                  have e4 : w7.cell? ⟨w.heap.size, 4, none⟩ = some (.int .i64 0) := block_cell k6b
                  have ef4 : w7.frozen? ⟨w.heap.size, 4, none⟩ = false := block_free k6b
                  have n0 : w7.cell? ⟨(w.heap.size + 2), 0, none⟩ = some (.int .i64 reg) := block_cell k9b
                  have n1 : w7.cell? ⟨(w.heap.size + 2), 1, none⟩ = some (.int .i64 cnt2) := block_cell k9b
                  have n2 : w7.cell? ⟨(w.heap.size + 2), 2, none⟩ = some (.int .i64 v1) := block_cell k9b
                  have n3 : w7.cell? ⟨(w.heap.size + 2), 3, none⟩ = some (.int .i64 v2) := block_cell k9b
                  have n4 : w7.cell? ⟨(w.heap.size + 2), 4, none⟩ = some (.int .i64 v3) := block_cell k9b
                  clear k6b k9b
                  go_wp2
                  try rw [Exit.noGoto_ret]
                  exact bodyPost_ret (v := .tuple #[.agg #[.int .i64 reg, .int .i64 cnt2, .int .i64 v1, .int .i64 v2, .int .i64 v3], .int .i64 1]) (by simp [results, Try.results43, go_sem, e0, e1, e2, e3, e4]) rfl ⟨by rw [HF2.out]; rfl, set5_below (W := w7) HBB.out ⟨reg, cnt2, v1, v2, v3⟩⟩
            · rcases cls_own HC7.out o1 (HCR.out) with h | h | h <;> exact absurd h (by decide)
          · exact absurd h1 h7
        · rw [h2]
          exact absurd (HCR.out.symm.trans (cls_not h2 (by decide))) (by decide)

end Go.Proofs.Ytampjndfhpjheaa
