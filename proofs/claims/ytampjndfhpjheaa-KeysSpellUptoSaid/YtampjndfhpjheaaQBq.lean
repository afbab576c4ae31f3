/- Contract of the document's side: Spell. Condition: none. -/
import Derived.Test.YtampjndfhpjheaaQBp
namespace Go.Proofs.Ytampjndfhpjheaa
open Go.RowKit
set_option linter.unusedVariables false
set_option linter.unusedSimpArgs false
theorem fold_row (sel : Bool) (c : Cmd) (T : Rows) {k : Nat} (hk : k < T.length) (b : Option (List Int)) : ((T.take (k + 1)).flatMap (rowC c)).foldl (tryD sel c) b = (rowC c T[k]).foldl (tryD sel c) (((T.take k).flatMap (rowC c)).foldl (tryD sel c) b) := by
 rw [List.take_add_one, List.getElem?_eq_getElem hk, List.flatMap_append, List.foldl_append]
 show (((T[k] :: []).flatMap (rowC c)).foldl (tryD sel c) _) = _
 rw [List.flatMap_cons, List.flatMap_nil, List.append_nil]
theorem fold_ops (sel : Bool) (c : Cmd) (T : Rows) {k : Nat} (hk : k < T.length) (b : Option (List Int)) : ((T.take (k + 1)).flatMap (opsC c)).foldl (tryD sel c) b = (opsC c T[k]).foldl (tryD sel c) (((T.take k).flatMap (opsC c)).foldl (tryD sel c) b) := by
 rw [List.take_add_one, List.getElem?_eq_getElem hk, List.flatMap_append, List.foldl_append]
 show (((T[k] :: []).flatMap (opsC c)).foldl (tryD sel c) _) = _
 rw [List.flatMap_cons, List.flatMap_nil, List.append_nil]
theorem fold_tail (sel : Bool) (c : Cmd) (q : List Int) (T : Rows) {k : Nat} (hk : k < T.length) (b : Option (List Int)) : ((T.take (k + 1)).flatMap (tailC c q)).foldl (tryD sel c) b = (tailC c q T[k]).foldl (tryD sel c) (((T.take k).flatMap (tailC c q)).foldl (tryD sel c) b) := by
 rw [List.take_add_one, List.getElem?_eq_getElem hk, List.flatMap_append, List.foldl_append]
 show (((T[k] :: []).flatMap (tailC c q)).foldl (tryD sel c) _) = _
 rw [List.flatMap_cons, List.flatMap_nil, List.append_nil]
theorem wholeD_len (k : List Int) (b : Bd) (arg : Int) (h : 0 < k.length) : 0 < (wholeD k b arg).length := by
 unfold wholeD; split
 · simp
 · exact h
theorem docR_pos (sel : Bool) {x : List Int × Bd} (h : x ∈ docR sel) : 0 < x.1.length := by
 have h1 : ((docR sel).all fun x => decide (0 < x.1.length)) = true := by cases sel <;> decide +kernel
 have := List.all_eq_true.1 h1 x h
 simpa using this
theorem own_some {w : World} {B n c : Nat} {s : Option Addr} {l : List Int} (h : OwnInts w B (.slice s n c) l) (h0 : 0 < n) : (∃ a, s = some a) ∧ n ≤ c := by
 rcases h.2 with ⟨h1, _⟩ | ⟨g, cap, cur, h1, _, _, h2, _⟩
 · obtain ⟨_, h2, _⟩ := Value.slice.inj h1; omega
 · obtain ⟨rfl, h3, rfl⟩ := Value.slice.inj h1; exact ⟨⟨_, rfl⟩, by omega⟩
structure Hd (w : World) (c : Cmd) (sr : Option Addr) (nr cr : Nat) (sd : Option Addr) (nd cd : Nat) : Prop where
 reg : IsInts w sr nr (gl (regK c.reg))
 rl : nr = (regK c.reg).length
 cnt : IsInts w sd nd (gl (digitsP 5 c.count []))
 dl : nd = (digitsP 5 c.count []).length
 r2 : nr ≤ 2
 d5 : nd ≤ 5
theorem Hd.later {w w' : World} {c : Cmd} {sr sd : Option Addr} {nr cr nd cd : Nat} (h : Hd w c sr nr cr sd nd cd) (hb : Below w.heap.size w w') : Hd w' c sr nr cr sd nd cd :=
 { h with reg := h.reg.later hb, cnt := h.cnt.later hb }
theorem joinedK_c (sa sb sc : Option Addr) (n ca m cb o co : Nat) (la lb lc : List Int) (w : World) (hla : n = la.length) (hlb : m = lb.length) (hlc : o = lc.length) (hn : n < 3000) (hm : m < 3000) (ho : o < 3000) (h0 : 0 < lc.length)
  (hra : IsInts w sa n (gl la)) (hrb : IsInts w sb m (gl lb)) (hrc : IsInts w sc o (gl lc)) :
  Calls Try.prog 59 #[.slice sa n ca, .slice sb m cb, .slice sc o co] w fun e w' => ∃ a k c, e = .returned (.slice (some a) k c) ∧ (la ++ (lb ++ lc)).length = k ∧ 0 < k ∧ k < 9000 ∧ k ≤ c ∧ IsInts w' (some a) k (gl (la ++ (lb ++ lc))) ∧ Below w.heap.size w w' := by
 refine (joined3_c sa sb sc n ca m cb o co la lb lc w hla.symm hlb.symm hlc.symm (by omega) (by omega) (by omega) hra hrb hrc).mono ?_
 rintro e w' ⟨s, k, c, rfl, hk, hown, hb⟩
 have hk0 : 0 < k := by omega
 obtain ⟨⟨a, rfl⟩, hkc⟩ := own_some hown hk0
 have h := hown.is
 rw [List.append_assoc] at h
 exact ⟨a, k, c, rfl, by simp; omega, hk0, by omega, hkc, h, hb⟩
theorem joinedT_c (sa sb : Option Addr) (n ca m cb : Nat) (la lb : List Int) (w : World) (hla : n = la.length) (hlb : m = lb.length) (hn : n < 3000) (hm : m < 3000) (h0 : 0 < lb.length)
  (hra : IsInts w sa n (gl la)) (hrb : IsInts w sb m (gl lb)) :
  Calls Try.prog 59 #[.slice sa n ca, .slice sb m cb, .slice none 0 0] w fun e w' => ∃ a k c, e = .returned (.slice (some a) k c) ∧ k = (la ++ lb).length ∧ k = n + m ∧ 0 < (la ++ lb).length ∧ IsInts w' (some a) k (gl (la ++ lb)) ∧ Below w.heap.size w w' := by
 refine (joined3_c sa sb none n ca m cb 0 0 la lb [] w hla.symm hlb.symm rfl (by omega) (by omega) (by decide) hra hrb (.inl rfl)).mono ?_
 rintro e w' ⟨s, k, c, rfl, hk, hown, hb⟩
 have hk0 : 0 < k := by omega
 obtain ⟨⟨a, rfl⟩, hkc⟩ := own_some hown hk0
 have h := hown.is
 rw [List.append_nil] at h
 exact ⟨a, k, c, rfl, by simp; omega, by omega, by simp; omega, h, hb⟩
theorem docD_len (x : List Int × Bd) : (docD x).length < 1000 := by
 unfold docD
 rw [List.length_append, List.length_append, tl_len]
 split <;> simp
theorem docD_sizes (x : List Int × Bd) (h : x.1.length = 1 ∨ x.1.length = 2) : ∀ y ∈ docD x, y.1.length < 1000 ∧ 0 < y.1.length := by
 have h1 : ((docD x).all fun y => decide (y.1.length < 1000) && decide (0 < y.1.length)) = true := by
  unfold docD
  simp only [List.all_append, Bool.and_eq_true]
  refine ⟨⟨⟨by decide +kernel, by decide +kernel⟩, ?_⟩, ?_⟩
  · simp; omega
  ·
   split
   · simp; omega
   · rfl
 intro y hy
 have h2 := List.all_eq_true.1 h1 y hy
 simpa using h2
set_option maxRecDepth 100000 in
set_option maxHeartbeats 20000000 in
theorem dspell_c (tb : Nat) (sel : Bool) (x1 x2 x3 x4 x5 : Int) (w : World) (ht : TabD w tb sel) :
  Calls Try.prog 19 #[.pointer (some ⟨tb, 0, none⟩), .agg #[.int .i64 x1, .int .i64 x2, .int .i64 x3, .int .i64 x4, .int .i64 x5]] w
   fun e w' => ∃ v, e = .returned v ∧ BestV w' v (spellD sel ⟨x1, x2, x3, x4, x5⟩) ∧ Below w.heap.size w w' := by
 have hbn := below_new2 w (.cells #[.int .i64 x1, .int .i64 x2, .int .i64 x3, .int .i64 x4, .int .i64 x5] 44)
 have hon := one_new w (.cells #[.int .i64 x1, .int .i64 x2, .int .i64 x3, .int .i64 x4, .int .i64 x5] 44)
 obtain ⟨w1, hw1⟩ : ∃ w1, w1 = w.alloc (.cells #[.int .i64 x1, .int .i64 x2, .int .i64 x3, .int .i64 x4, .int .i64 x5] 44) := ⟨_, rfl⟩
 rw [← hw1] at hbn hon
 have HT := Lib.hid ht
 have HW1 := Lib.hid hw1
 have HBN := Lib.hid hbn
 have HON := Lib.hid hon
 obtain ⟨z0, z1, z2, z3, z4⟩ := cells5 hon
 have hsp : spellD sel ⟨x1, x2, x3, x4, x5⟩ = if x2 < 0 ∨ 9999 < x2 then none else (candsD sel ⟨x1, x2, x3, x4, x5⟩).foldl (tryD sel ⟨x1, x2, x3, x4, x5⟩) none := rfl
 clear ht hw1 hbn hon
 by_cases hlow : x2 < 0
 ·
  rw [if_pos (.inl hlow)] at hsp
  rw [hsp]
  clear hsp
  go_enter Try.func19, Try.ntmps19
  go_upto_region 1 with (fail)
  rw [← HW1.out]
  go_wp2
  go_ret
  exact ⟨_, rfl, .inl ⟨rfl, rfl⟩, HBN.out⟩
 by_cases hhigh : 9999 < x2
 ·
  rw [if_pos (.inr hhigh)] at hsp
  rw [hsp]
  clear hsp
  go_enter Try.func19, Try.ntmps19
  go_upto_region 1 with (fail)
  rw [← HW1.out]
  go_wp2
  go_ret
  exact ⟨_, rfl, .inl ⟨rfl, rfl⟩, HBN.out⟩
 rw [if_neg (by omega)] at hsp
 rw [hsp]
 obtain ⟨V, hV⟩ : ∃ V, (candsD sel ⟨x1, x2, x3, x4, x5⟩).foldl (tryD sel ⟨x1, x2, x3, x4, x5⟩) none = V := ⟨_, rfl⟩
 rw [hV]
 have HV := Lib.hid hV
 clear hV hsp
 go_enter Try.func19, Try.ntmps19
 go_upto_region 1 with (fail)
 rw [← HW1.out]
 go_wp2_with fail
 refine (digits_c x2 w1 (by omega) (by omega)).mono ?_
 rintro e w2 ⟨sd, nd, cd, rfl, hnd, hnd5, hod, hb2⟩
 have HOD := Lib.hid hod.is
 have HND := Lib.hid hnd
 have HB2 := Lib.hid (HBN.out.trans (hb2.mono HBN.out.size))
 have HON2 := Lib.hid ((hb2.block _ (heap_lt HON.out)).trans HON.out)
 clear hnd hod hb2 z0 z1 z2 z3 z4
 obtain ⟨z0, z1, z2, z3, z4⟩ := cells5 HON2.out
 go_upto_if 27 with (fail)
 go_cut [6] from 27 to 30 (fun v wc => ∃ sr nr cr, v = .slice sr nr cr ∧ Hd wc ⟨x1, x2, x3, x4, x5⟩ sr nr cr sd nd cd ∧ Below w2.heap.size w2 wc)
 case first =>
  by_cases h0 : x1 = 0
  ·
   subst h0
   go_wp2
   go_meet
   exact ⟨none, 0, 0, rfl, ⟨.inl rfl, by unfold regK; simp, HOD.out, HND.out, by omega, hnd5⟩, Below.refl _ _⟩
  ·
   have q1 : (x1 != 0) = true := by rw [bne_iff_ne]; exact h0
   have hrk : regK x1 = [34, x1] := by unfold regK; rw [if_neg h0]
   have HRK := Lib.hid hrk
   clear hrk
   go_wp2
   go_meet
   refine ⟨some ⟨w2.heap.size, 0, none⟩, 2, 2, rfl, ⟨?_, by rw [HRK.out]; rfl, HOD.out.later (below_new2 w2 _), HND.out, by omega, hnd5⟩, below_new2 w2 _⟩
   show IsInts _ _ 2 (gl (regK x1))
   rw [HRK.out]
   refine .inr ⟨w2.heap.size, 0, rfl, by simp, fun i hi => ?_⟩
   rw [Nat.zero_add, block_cell (one_new w2 _)]
   have hi2 : i = 0 ∨ i = 1 := by omega
   rcases hi2 with rfl | rfl <;> rfl
 case rest =>
  obtain ⟨sr, nr, cr, rfl, hhd, hb3⟩ := hcut
  have HHD := Lib.hid hhd
  have HB3 := Lib.hid (HB2.out.trans (hb3.mono HB2.out.size))
  have HON3 := Lib.hid ((hb3.block _ (heap_lt HON2.out)).trans HON2.out)
  clear hhd hb3 HOD HND HB2 HON2 z0 z1 z2 z3 z4
  have hst := HT.out.later HB3.out
  obtain ⟨sR, nR, cR, LR, sO, nO, cO, LO, sT, cT, vs, hst, hLR, hLO⟩ := hst
  have hnR := hst.rows.len
  have hnRb : nR < 1000 := by rw [hnR, ← List.length_map (f := DR.row), hLR]; cases sel <;> decide +kernel
  have HLR := Lib.hid hLR
  have HLO := Lib.hid hLO
  have HST := Lib.hid hst
  have HNR := Lib.hid hnR
  have HSR := Lib.hid (short_R sel hLR)
  have hcb3 := heap_lt HON3.out
  have htb3 := heap_lt hst.blk
  clear hst hLR hLO hnR
  obtain ⟨b0, b1, b2⟩ := HST.out.zero
  obtain ⟨z0, z1, z2, z3, z4⟩ := cells5 HON3.out
  obtain ⟨w3, hw3⟩ : ∃ w3, w3 = wc := ⟨_, rfl⟩
  subst hw3
  clear b0 b1 b2 z0 z1 z2 z3 z4
  go_upto_block 0 with (fail)
  go_cut [7, 8] from 31 to 76 (fun bv iv wc => BestV wc bv (((docR sel).flatMap (rowC ⟨x1, x2, x3, x4, x5⟩)).foldl (tryD sel ⟨x1, x2, x3, x4, x5⟩) none) ∧ Below w3.heap.size w3 wc)
  case first =>
   go_wp2_with fail
   go_loopg [7, 8] nR (fun gg bv iv wr => ∃ (k : Nat) (vb : Value), k + gg = nR ∧ vb = bv ∧ iv = .int .i64 k ∧ BestV wr vb ((((docR sel).take k).flatMap (rowC ⟨x1, x2, x3, x4, x5⟩)).foldl (tryD sel ⟨x1, x2, x3, x4, x5⟩) none) ∧ Below w3.heap.size w3 wr)
   case atStart => exact ⟨0, _, by omega, rfl, rfl, .inl ⟨rfl, rfl⟩, Below.refl _ _⟩
   case round =>
    obtain ⟨k, vb, hkk, hvv, rfl, hbv, hbl⟩ := hrel
    subst hvv
    have hstr := HST.out.later hbl
    obtain ⟨b0, b1, b2⟩ := hstr.zero
    have honr := (hbl.block _ hcb3).trans HON3.out
    obtain ⟨z0, z1, z2, z3, z4⟩ := cells5 honr
    by_cases hlt : k < nR
    ·
     have hkl : k < LR.length := by rw [← HNR.out]; exact hlt
     have hkd : k < (docR sel).length := by rw [← HLR.out, List.length_map]; exact hkl
     obtain ⟨gR, hgR, hgRl, hcell⟩ := hstr.rows.cell hkl
     have hkx := hstr.rows.2 _ (List.getElem_mem hkl)
     have hks := HSR.out _ (List.getElem_mem hkl)
     have hrow : (docR sel)[k] = (LR[k]'hkl).row := by simp [← HLR.out]
     have hpos := docR_pos sel (List.getElem_mem hkd)
     have hfold := fold_row sel ⟨x1, x2, x3, x4, x5⟩ (docR sel) hkd none
     rw [hrow] at hfold hpos
     generalize hx : (LR[k]'hkl) = x at hcell hkx hks hfold hpos
     obtain ⟨⟨qg, qo, qn, qc, qk⟩, ⟨bv2, bm, ba, bmo, bo⟩⟩ := x
     have y0 := hcell 0 (by decide)
     have y1 := hcell 1 (by decide)
     have y2 := hcell 2 (by decide)
     have y3 := hcell 3 (by decide)
     have y4 := hcell 4 (by decide)
     simp only [DR.cells, KS.val, List.getElem?_cons_zero, List.getElem?_cons_succ, Nat.add_zero] at y0 y1 y2 y3 y4
     have HF := Lib.hid hfold
     have HBV := Lib.hid hbv
     have HBL := Lib.hid hbl
     have HKX := Lib.hid hkx
     have HSTR := Lib.hid hstr
     have HONR := Lib.hid honr
     simp only at hks hpos
     have HPOS := Lib.hid hpos
     subst hgR
     clear hcell hfold hbv hbl hkx hstr honr hx hrow hkd hkl hpos
     have q1 : (k : Int) < (nR : Int) := by omega
     have q2 : (0 : Int) ≤ (k : Int) := by omega
     go_wp2_with fail
     go_region_held3 (fun w' => w'.cell? ⟨tb, 0, none⟩ = some (.slice (some ⟨gR, 0, none⟩) nR cR) ∧ w'.cell? ⟨gR, k * 5 + 1, none⟩ = some (.int .i64 bv2) ∧ w'.cell? ⟨w.heap.size, 2, none⟩ = some (.int .i64 x3) ∧ Below wr.heap.size wr w')
      (first | exact ⟨b0, y1, z2, (Below.refl _ _).drew⟩ | go_keep) (fail)
     rename_i hheld
     have HBD := Lib.hid hheld.2.2.2
     clear hheld
     by_cases hvb : bv2 = x3
     ·
      subst hvb
      have hrc : rowC ⟨x1, x2, bv2, x4, x5⟩ (DR.row ⟨⟨qg, qo, qn, qc, qk⟩, ⟨bv2, bm, ba, bmo, bo⟩⟩) = [regK x1 ++ (digitsP 5 x2 [] ++ wholeD qk ⟨bv2, bm, ba, bmo, bo⟩ x5), digitsP 5 x2 [] ++ (regK x1 ++ wholeD qk ⟨bv2, bm, ba, bmo, bo⟩ x5)] := by
       unfold rowC; rw [if_neg (fun h => h rfl)]; rfl
      have hf := HF.out
      rw [hrc] at hf
      simp only [List.foldl_cons, List.foldl_nil] at hf
      have HF2 := Lib.hid hf
      have hwp := wholeD_len qk ⟨bv2, bm, ba, bmo, bo⟩ x5 HPOS.out
      obtain ⟨W, hW⟩ : ∃ W, wholeD qk ⟨bv2, bm, ba, bmo, bo⟩ x5 = W := ⟨_, rfl⟩
      have hwc := fun (X : World) (hX : Below wr.heap.size wr X) => whole_c ⟨⟨qg, qo, qn, qc, qk⟩, ⟨bv2, bm, ba, bmo, bo⟩⟩ x5 X (HKX.out.kept (hX.block _ HKX.out.lt)) hks
      simp only [hW] at hwc
      rw [hW] at HF2 hwp
      have HWC := Lib.hid hwc
      clear hf hrc hwc hW HF
      go_upto_region 12 with (fail)
      generalize wr.drew = v1 at HBD ⊢
      have hst1 := HSTR.out.later HBD.out
      obtain ⟨b0, b1, b2⟩ := hst1.zero
      have y0 := (HBD.out.cell (p := ⟨gR, k * 5, none⟩) hgRl).trans y0
      have y1 := (HBD.out.cell (p := ⟨gR, k * 5 + 1, none⟩) hgRl).trans y1
      have y2 := (HBD.out.cell (p := ⟨gR, k * 5 + 2, none⟩) hgRl).trans y2
      have y3 := (HBD.out.cell (p := ⟨gR, k * 5 + 3, none⟩) hgRl).trans y3
      have y4 := (HBD.out.cell (p := ⟨gR, k * 5 + 4, none⟩) hgRl).trans y4
      have hz3 := HBL.out.size
      have hon1 := (HBD.out.block _ (heap_lt HONR.out)).trans HONR.out
      obtain ⟨z0, z1, z2, z3, z4⟩ := cells5 hon1
      have htb1 := heap_lt hst1.blk
      have hcb1 := heap_lt hon1
      have hgR1 : gR < v1.heap.size := Nat.lt_of_lt_of_le hgRl HBD.out.size
      have hwc1 := HWC.out v1.drew HBD.out.drew
      have HWC1 := Lib.hid hwc1
      clear hst1 hon1 hwc1 HWC
      go_region_held3 (fun w' => w'.cell? ⟨tb, 0, none⟩ = some (.slice (some ⟨gR, 0, none⟩) nR cR) ∧ w'.cell? ⟨gR, k * 5, none⟩ = some (.slice (some ⟨qg, qo, none⟩) qn qc) ∧ w'.cell? ⟨gR, k * 5 + 1, none⟩ = some (.int .i64 bv2) ∧ w'.cell? ⟨gR, k * 5 + 2, none⟩ = some (.int .i64 bm) ∧ w'.cell? ⟨gR, k * 5 + 3, none⟩ = some (.int .i64 ba) ∧ w'.cell? ⟨gR, k * 5 + 4, none⟩ = some (.bool bmo) ∧ w'.cell? ⟨w.heap.size, 4, none⟩ = some (.int .i64 x5))
       (first | with_reducible exact hS2.out | exact ⟨b0, y0, y1, y2, y3, y4, z4⟩ | go_keep)
       (first
        | (refine HWC1.out.mono ?_; rintro e v2 ⟨sw, nw, cw, rfl, hnw, hnw2, hiw, hbw⟩; have HBW := Lib.hid ((Below.refl v1.heap.size v1).drew.trans hbw); have HNW := Lib.hid hnw; have HIW := Lib.hid hiw; have hS2 := Lib.hid (show v2.cell? ⟨tb, 0, none⟩ = some (.slice (some ⟨gR, 0, none⟩) nR cR) ∧ v2.cell? ⟨gR, k * 5, none⟩ = some (.slice (some ⟨qg, qo, none⟩) qn qc) ∧ v2.cell? ⟨gR, k * 5 + 1, none⟩ = some (.int .i64 bv2) ∧ v2.cell? ⟨gR, k * 5 + 2, none⟩ = some (.int .i64 bm) ∧ v2.cell? ⟨gR, k * 5 + 3, none⟩ = some (.int .i64 ba) ∧ v2.cell? ⟨gR, k * 5 + 4, none⟩ = some (.bool bmo) ∧ v2.cell? ⟨w.heap.size, 4, none⟩ = some (.int .i64 x5) from ⟨(HBW.out.cell (p := ⟨tb, 0, none⟩) htb1).trans b0, (HBW.out.cell (p := ⟨gR, k * 5, none⟩) hgR1).trans y0, (HBW.out.cell (p := ⟨gR, k * 5 + 1, none⟩) hgR1).trans y1, (HBW.out.cell (p := ⟨gR, k * 5 + 2, none⟩) hgR1).trans y2, (HBW.out.cell (p := ⟨gR, k * 5 + 3, none⟩) hgR1).trans y3, (HBW.out.cell (p := ⟨gR, k * 5 + 4, none⟩) hgR1).trans y4, (HBW.out.cell (p := ⟨w.heap.size, 4, none⟩) hcb1).trans z4⟩); clear hnw hiw hbw))
      rename_i hheld
      clear hheld hS2
      have HBX := Lib.hid (HBD.out.trans (HBW.out.mono HBD.out.size))
      clear b0 b1 b2 y0 y1 y2 y3 y4 z0 z1 z2 z3 z4
      go_upto_region 13 with (fail)
      have HHD2 := Lib.hid ((HHD.out.later HBL.out).later HBX.out)
      have HT2 := Lib.hid ((HT.out.later (HB3.out.trans (HBL.out.mono HB3.out.size))).later HBX.out)
      have HBV2 := Lib.hid (HBV.out.later HBX.out)
      have hon2 := (HBX.out.block _ (heap_lt HONR.out)).trans HONR.out
      have HON4 := Lib.hid hon2
      have HBY := Lib.hid (HBL.out.trans (HBX.out.mono HBL.out.size))
      clear hon2 HBD HBW
      have HJA := Lib.hid (joinedK_c sr sd sw nr cr nd cd nw cw (regK x1) (digitsP 5 x2 []) W v2.drew HHD2.out.rl HHD2.out.dl HNW.out (by have := HHD2.out.r2; have := HHD2.out.d5; omega) (by have := HHD2.out.r2; have := HHD2.out.d5; omega) (by omega) hwp (HHD2.out.reg.later ((Below.refl v2.heap.size v2).drew)) (HHD2.out.cnt.later ((Below.refl v2.heap.size v2).drew)) (HIW.out.later ((Below.refl v2.heap.size v2).drew)))
      obtain ⟨z0, z1, z2, z3, z4⟩ := cells5 HON4.out
      have hcbA := heap_lt HON4.out
      go_region_held3 (fun w' => w'.cell? ⟨w.heap.size, 0, none⟩ = some (.int .i64 x1) ∧ w'.cell? ⟨w.heap.size, 1, none⟩ = some (.int .i64 x2) ∧ w'.cell? ⟨w.heap.size, 2, none⟩ = some (.int .i64 bv2) ∧ w'.cell? ⟨w.heap.size, 3, none⟩ = some (.int .i64 x4) ∧ w'.cell? ⟨w.heap.size, 4, none⟩ = some (.int .i64 x5))
       (first | with_reducible exact hSA.out | with_reducible exact hRA.out | exact ⟨z0, z1, z2, z3, z4⟩ | go_keep)
       (first
        | (go_at_call 59; refine HJA.out.mono ?_; rintro e vAa ⟨kaA, knA, kcA, rfl, hklA, hk0A, hk9A, hkcA, hkiA, hbkA⟩; have HBAa := Lib.hid ((Below.refl v2.heap.size v2).drew.trans hbkA); have hRA := Lib.hid (cells5 ((HBAa.out.block _ hcbA).trans HON4.out)); have HBEA := Lib.hid (better_c tb sel vb _ kaA knA kcA ((regK x1) ++ ((digitsP 5 x2 []) ++ W)) x1 x2 bv2 x4 x5 vAa (HT2.out.later HBAa.out) (HBV2.out.later HBAa.out) hklA hk0A (by omega) hkcA hkiA); clear hklA hkiA hbkA)
        | (go_at_call 58; refine HBEA.out.mono ?_; rintro e vAb ⟨bvA, rfl, hbvA, hbbA⟩; have HBAb := Lib.hid (HBAa.out.trans (hbbA.mono HBAa.out.size)); have hSA := Lib.hid (cells5 ((HBAb.out.block _ hcbA).trans HON4.out)); have HBVA := Lib.hid hbvA; clear hbvA hbbA))
      rename_i hheld
      clear hheld hSA hRA HBEA HJA HBAa z0 z1 z2 z3 z4
      go_upto_region 14 with (fail)
      have HHD5 := Lib.hid (HHD2.out.later HBAb.out)
      have HT5 := Lib.hid (HT2.out.later HBAb.out)
      have HON5 := Lib.hid ((HBAb.out.block _ (heap_lt HON4.out)).trans HON4.out)
      have HIW5 := Lib.hid (HIW.out.later HBAb.out)
      have HBZ := Lib.hid (HBY.out.trans (HBAb.out.mono HBY.out.size))
      clear hcbA
      have HJB := Lib.hid (joinedK_c sd sr sw nd cd nr cr nw cw (digitsP 5 x2 []) (regK x1) W vAb.drew HHD5.out.dl HHD5.out.rl HNW.out (by have := HHD5.out.r2; have := HHD5.out.d5; omega) (by have := HHD5.out.r2; have := HHD5.out.d5; omega) (by omega) hwp (HHD5.out.cnt.later ((Below.refl vAb.heap.size vAb).drew)) (HHD5.out.reg.later ((Below.refl vAb.heap.size vAb).drew)) (HIW5.out.later ((Below.refl vAb.heap.size vAb).drew)))
      obtain ⟨z0, z1, z2, z3, z4⟩ := cells5 HON5.out
      have hcbB := heap_lt HON5.out
      go_region_held3 (fun w' => w'.cell? ⟨w.heap.size, 0, none⟩ = some (.int .i64 x1) ∧ w'.cell? ⟨w.heap.size, 1, none⟩ = some (.int .i64 x2) ∧ w'.cell? ⟨w.heap.size, 2, none⟩ = some (.int .i64 bv2) ∧ w'.cell? ⟨w.heap.size, 3, none⟩ = some (.int .i64 x4) ∧ w'.cell? ⟨w.heap.size, 4, none⟩ = some (.int .i64 x5))
       (first | with_reducible exact hSB.out | with_reducible exact hRB.out | exact ⟨z0, z1, z2, z3, z4⟩ | go_keep)
       (first
        | (go_at_call 59; refine HJB.out.mono ?_; rintro e vBa ⟨kaB, knB, kcB, rfl, hklB, hk0B, hk9B, hkcB, hkiB, hbkB⟩; have HBBa := Lib.hid ((Below.refl vAb.heap.size vAb).drew.trans hbkB); have hRB := Lib.hid (cells5 ((HBBa.out.block _ hcbB).trans HON5.out)); have HBEB := Lib.hid (better_c tb sel bvA _ kaB knB kcB ((digitsP 5 x2 []) ++ ((regK x1) ++ W)) x1 x2 bv2 x4 x5 vBa (HT5.out.later HBBa.out) (HBVA.out.later HBBa.out) hklB hk0B (by omega) hkcB hkiB); clear hklB hkiB hbkB)
        | (go_at_call 58; refine HBEB.out.mono ?_; rintro e vBb ⟨bvB, rfl, hbvB, hbbB⟩; have HBBb := Lib.hid (HBBa.out.trans (hbbB.mono HBBa.out.size)); have hSB := Lib.hid (cells5 ((HBBb.out.block _ hcbB).trans HON5.out)); have HBVB := Lib.hid hbvB; clear hbvB hbbB))
      rename_i hheld
      clear hheld hSB hRB HBEB HJB HBBa z0 z1 z2 z3 z4
      have HFIN := Lib.hid (HBZ.out.trans (HBBb.out.mono HBZ.out.size))
      have HBW2 := Lib.hid (show BestV vBb bvB ((((docR sel).take (k + 1)).flatMap (rowC ⟨x1, x2, bv2, x4, x5⟩)).foldl (tryD sel ⟨x1, x2, bv2, x4, x5⟩) none) by rw [HF2.out]; exact HBVB.out)
      clear hcbB HBVB HBVA HHD5 HT5 HON5 HIW5 HHD2 HT2 HON4 HIW HF2 HBV2 HBV
      go_wp2
      go_roundg (gk - 1)
      case measure => omega
      case rel => exact ⟨k + 1, _, by omega, rfl, by go_num, HBW2.out, HFIN.out⟩
     ·
      have hrc : rowC ⟨x1, x2, x3, x4, x5⟩ (DR.row ⟨⟨qg, qo, qn, qc, qk⟩, ⟨bv2, bm, ba, bmo, bo⟩⟩) = [] := by
       unfold rowC; rw [if_pos (by exact hvb)]
      have hf := HF.out
      rw [hrc] at hf
      have HF2 := Lib.hid hf
      have q3 : (bv2 != x3) = true := by rw [bne_iff_ne]; exact hvb
      clear hf hrc HF
      go_wp2
      go_roundg (gk - 1)
      case measure => omega
      case rel => exact ⟨k + 1, _, by omega, rfl, by go_num, by rw [HF2.out]; exact HBV.out.later HBD.out, HBL.out.trans (HBD.out.mono HBL.out.size)⟩
    ·
     have hall : (docR sel).take k = docR sel := List.take_of_length_le (by rw [← HLR.out, List.length_map, ← HNR.out]; omega)
     rw [hall] at hbv
     have HBV := Lib.hid hbv
     have HBL := Lib.hid hbl
     have hkn : ¬ (k : Int) < (nR : Int) := by omega
     clear hall hbv hbl hstr honr
     go_wp2
     go_meet
     exact ⟨HBV.out, HBL.out⟩
  case rest =>
   obtain ⟨hbv1, hb4⟩ := hcut
   have HV1 := Lib.hid (show ((docO sel).flatMap (opsC ⟨x1, x2, x3, x4, x5⟩)).foldl (tryD sel ⟨x1, x2, x3, x4, x5⟩) (((docR sel).flatMap (rowC ⟨x1, x2, x3, x4, x5⟩)).foldl (tryD sel ⟨x1, x2, x3, x4, x5⟩) none) = V by rw [← HV.out]; unfold candsD; rw [List.foldl_append])
   generalize ((docR sel).flatMap (rowC ⟨x1, x2, x3, x4, x5⟩)).foldl (tryD sel ⟨x1, x2, x3, x4, x5⟩) none = best1 at hbv1 HV1
   have HBV1 := Lib.hid hbv1
   have HB4 := Lib.hid hb4
   have hnO := HST.out.ops.len
   have HNO := Lib.hid hnO
   have hnOb : nO < 1000 := by rw [hnO, ← List.length_map (f := DR.row), HLO.out]; cases sel <;> decide +kernel
   obtain ⟨b0, b1, b2⟩ := (HST.out.later hb4).zero
   obtain ⟨w4, hw4⟩ : ∃ w4, w4 = wc := ⟨_, rfl⟩
   subst hw4
   clear hbv1 hb4 hnO HV
   go_wp2_with fail
   clear b0 b1 b2
   go_loopg [7, 10] nO (fun gg bv iv wr => ∃ (k : Nat) (vb : Value), k + gg = nO ∧ vb = bv ∧ iv = .int .i64 k ∧ BestV wr vb ((((docO sel).take k).flatMap (opsC ⟨x1, x2, x3, x4, x5⟩)).foldl (tryD sel ⟨x1, x2, x3, x4, x5⟩) best1) ∧ Below w3.heap.size w3 wr)
   case atStart => exact ⟨0, _, by omega, rfl, rfl, HBV1.out, HB4.out⟩
   case round =>
    obtain ⟨k, vb, hkk, hvv, rfl, hbv, hbl⟩ := hrel
    subst hvv
    have hstr := HST.out.later hbl
    obtain ⟨b0, b1, b2⟩ := hstr.zero
    have honr := (hbl.block _ hcb3).trans HON3.out
    obtain ⟨z0, z1, z2, z3, z4⟩ := cells5 honr
    by_cases hlt : k < nO
    ·
     have hkl : k < LO.length := by rw [← HNO.out]; exact hlt
     have hkd : k < (docO sel).length := by rw [← HLO.out, List.length_map]; exact hkl
     obtain ⟨gO, hgO, hgOl, hcell⟩ := hstr.ops.cell hkl
     have hkx := hstr.ops.2 _ (List.getElem_mem hkl)
     obtain ⟨gT, sL, nL, cL, LL, hsT, hgTl, hct, hLL, hrL⟩ := hstr.tail hkl
     have hrow : (docO sel)[k] = (LO[k]'hkl).row := by simp [← HLO.out]
     have h12 := short_O sel (List.getElem_mem hkd)
     have hfold := fold_ops sel ⟨x1, x2, x3, x4, x5⟩ (docO sel) hkd best1
     rw [hrow] at hfold h12
     generalize hx : (LO[k]'hkl) = x at hcell hkx hfold h12 hLL
     obtain ⟨⟨qg, qo, qn, qc, qk⟩, ⟨bv2, bm, ba, bmo, bo⟩⟩ := x
     have y0 := hcell 0 (by decide)
     have y1 := hcell 1 (by decide)
     simp only [DR.cells, KS.val, List.getElem?_cons_zero, List.getElem?_cons_succ, Nat.add_zero] at y0 y1
     have HF := Lib.hid hfold
     have HBV := Lib.hid hbv
     have HBL := Lib.hid hbl
     have HKX := Lib.hid hkx
     have HSTR := Lib.hid hstr
     have HONR := Lib.hid honr
     have HLL := Lib.hid hLL
     have HY0 := Lib.hid y0
     have HRLL := Lib.hid hrL
     have HCT := Lib.hid hct
     have HSTT := Lib.hid hsT
     have H12 := Lib.hid h12
     subst hgO
     clear hcell hfold hbv hbl hkx hstr honr hx hrow hkd hkl hLL hrL hct hsT h12
     have q1 : (k : Int) < (nO : Int) := by omega
     have q2 : (0 : Int) ≤ (k : Int) := by omega
     go_wp2_with fail
     go_region_held3 (fun w' => w'.cell? ⟨tb, 1, none⟩ = some (.slice (some ⟨gO, 0, none⟩) nO cO) ∧ w'.cell? ⟨gO, k * 5 + 1, none⟩ = some (.int .i64 bv2) ∧ w'.cell? ⟨w.heap.size, 2, none⟩ = some (.int .i64 x3) ∧ Below wr.heap.size wr w')
      (first | exact ⟨b1, y1, z2, (Below.refl _ _).drew⟩ | go_keep) (fail)
     rename_i hheld
     have HBD := Lib.hid hheld.2.2.2
     clear hheld
     by_cases hvb : bv2 = x3
     ·
      subst hvb
      have hself : (bv2 != bv2) = false := by simp
      rw [hself]
      clear hself
      have hoc : opsC ⟨x1, x2, bv2, x4, x5⟩ (DR.row ⟨⟨qg, qo, qn, qc, qk⟩, ⟨bv2, bm, ba, bmo, bo⟩⟩) = (docD (qk, ⟨bv2, bm, ba, bmo, bo⟩)).flatMap (tailC ⟨x1, x2, bv2, x4, x5⟩ qk) := by
       unfold opsC; rw [if_neg (fun h => h rfl)]; rfl
      have hf := HF.out
      rw [hoc] at hf
      have HF2 := Lib.hid hf
      generalize (((docO sel).take k).flatMap (opsC ⟨x1, x2, bv2, x4, x5⟩)).foldl (tryD sel ⟨x1, x2, bv2, x4, x5⟩) best1 = bestK at HBV HF2
      obtain ⟨TD, hTD⟩ : ∃ TD, docD (qk, ⟨bv2, bm, ba, bmo, bo⟩) = TD := ⟨_, rfl⟩
      have hLL2 : LL.map DR.row = TD.map (setV bv2) := by rw [← hTD]; exact HLL.out
      have HTS := Lib.hid (show ∀ y ∈ TD, y.1.length < 1000 ∧ 0 < y.1.length from by rw [← hTD]; exact docD_sizes (qk, ⟨bv2, bm, ba, bmo, bo⟩) H12.out)
      rw [hTD] at HF2
      have HLT := Lib.hid hLL2
      have hnL := HRLL.out.len
      have HNL := Lib.hid hnL
      have hTL : TD.length = nL := by rw [hnL, ← List.length_map (f := DR.row), hLL2, List.length_map]
      have HTL := Lib.hid hTL
      have hnLb : nL < 1000 := by rw [← hTL, ← hTD]; exact docD_len _
      generalize wr.drew = v1 at HBD ⊢
      have hst1 := HSTR.out.later HBD.out
      have hl2 := hst1.zero.2.2
      rw [HSTT.out] at hl2
      have hct1 := (HBD.out.cell (p := ⟨gT, k, none⟩) hgTl).trans HCT.out
      have HB5 := Lib.hid (HBL.out.trans (HBD.out.mono HBL.out.size))
      clear hf hoc HF hTD hLL2 hnL hTL hst1 b0 b1 b2 y0 y1 z0 z1 z2 z3 z4
      have hkT : (k : Int) < (LO.length : Int) := by have := HNO.out; omega
      go_wp2_with fail
      go_loopg [7, 11] nL (fun gg bv iv wq => ∃ (j : Nat) (vb2 : Value), j + gg = nL ∧ vb2 = bv ∧ iv = .int .i64 j ∧ BestV wq vb2 (((TD.take j).flatMap (tailC ⟨x1, x2, bv2, x4, x5⟩ qk)).foldl (tryD sel ⟨x1, x2, bv2, x4, x5⟩) bestK) ∧ Below wr.heap.size wr wq)
      case atStart => exact ⟨0, _, by omega, rfl, rfl, HBV.out.later HBD.out, HBD.out⟩
      case round =>
       obtain ⟨j, vb2, hjj, hvv2, rfl, hbv2, hbl2⟩ := hrel
       subst hvv2
       have hstr2 := (HSTR.out.later hbl2)
       obtain ⟨b0, b1, b2⟩ := hstr2.zero
       rw [HSTT.out] at b2
       have hct2 := (hbl2.cell (p := ⟨gT, k, none⟩) hgTl).trans HCT.out
       have honr2 := (hbl2.block _ (heap_lt HONR.out)).trans HONR.out
       obtain ⟨z0, z1, z2, z3, z4⟩ := cells5 honr2
       clear hl2 hct1
       by_cases hltj : j < nL
       ·
        have hjl : j < LL.length := by rw [← HNL.out]; exact hltj
        have hjt : j < TD.length := by rw [HTL.out]; exact hltj
        obtain ⟨gL, hgL, hgLl, hcell⟩ := (HRLL.out.later hbl2).cell hjl
        have hkx := (HRLL.out.later hbl2).2 _ (List.getElem_mem hjl)
        have hrow : (LL[j]'hjl).row = setV bv2 (TD[j]'hjt) := by
         have e : (LL.map DR.row)[j]? = (TD.map (setV bv2))[j]? := by rw [HLT.out]
         rw [List.getElem?_map, List.getElem?_map, List.getElem?_eq_getElem hjl, List.getElem?_eq_getElem hjt] at e
         simpa using e
        have htl : tailC ⟨x1, x2, bv2, x4, x5⟩ qk (TD[j]'hjt) = tailC ⟨x1, x2, bv2, x4, x5⟩ qk (LL[j]'hjl).row := by rw [hrow]; rfl
        have hfold := fold_tail sel ⟨x1, x2, bv2, x4, x5⟩ qk TD hjt bestK
        rw [htl] at hfold
        generalize hx : (LL[j]'hjl) = x at hcell hkx hfold
        obtain ⟨⟨tg, to', tn, tc, tk⟩, ⟨tv, tm, ta, tmo, town⟩⟩ := x
        have y0 := hcell 0 (by decide)
        have y1 := hcell 1 (by decide)
        have y2 := hcell 2 (by decide)
        have y3 := hcell 3 (by decide)
        have y4 := hcell 4 (by decide)
        simp only [DR.cells, KS.val, List.getElem?_cons_zero, List.getElem?_cons_succ, Nat.add_zero] at y0 y1 y2 y3 y4
        have htk : tk.length < 1000 ∧ 0 < tk.length := by
         have h := HTS.out _ (List.getElem_mem hjt)
         have e : (TD[j]'hjt).1 = tk := by have := congrArg Prod.fst hrow; rw [hx] at this; exact this.symm
         rw [e] at h; exact h
        have HTK := Lib.hid htk
        have HFT := Lib.hid hfold
        have HBV3 := Lib.hid hbv2
        have HBL3 := Lib.hid hbl2
        have HKT := Lib.hid hkx
        have HON5 := Lib.hid honr2
        have HST5 := Lib.hid hstr2
        subst hgL
        clear hcell hkx hfold hx hrow htl hjl hjt hbv2 hbl2 honr2 hstr2 htk
        have q3 : (j : Int) < (nL : Int) := by omega
        have q4 : (0 : Int) ≤ (j : Int) := by omega
        go_upto_region 23 with (fail)
        have hbb : Below wr.heap.size wr (wr.alloc (.cells #[.slice (some ⟨tg, to', none⟩) tn tc, .int .i64 tv, .int .i64 tm, .int .i64 ta, .bool tmo] 103)) := below_new2 wr _
        have hbk := one_new wr (.cells #[.slice (some ⟨tg, to', none⟩) tn tc, .int .i64 tv, .int .i64 tm, .int .i64 ta, .bool tmo] 103)
        obtain ⟨uA, huA⟩ : ∃ uA, uA = wr.alloc (.cells #[.slice (some ⟨tg, to', none⟩) tn tc, .int .i64 tv, .int .i64 tm, .int .i64 ta, .bool tmo] 103) := ⟨_, rfl⟩
        rw [← huA] at hbb hbk ⊢
        have HSTA := Lib.hid (HST5.out.later hbb)
        have HONA := Lib.hid ((hbb.block _ (heap_lt HON5.out)).trans HON5.out)
        have HBLA := Lib.hid (HBL3.out.trans (hbb.mono HBL3.out.size))
        have HKTA := Lib.hid (HKT.out.kept (hbb.block _ HKT.out.lt))
        have HBVA := Lib.hid (HBV3.out.later hbb)
        have HYA := Lib.hid ((HBLA.out.cell (p := ⟨gO, k * 5, none⟩) hgOl).trans HY0.out)
        have hgOA : gO < uA.heap.size := Nat.lt_of_lt_of_le hgOl HBLA.out.size
        clear huA b0 b1 b2 y0 y1 y2 y3 y4 z0 z1 z2 z3 z4 HST5 HON5 HBL3 HKT HBV3 hct2
        obtain ⟨p0, p1, p2, p3, p4⟩ := cells5 hbk
        obtain ⟨z0, z1, z2, z3, z4⟩ := cells5 HONA.out
        clear hbk hbb
        generalize wr.heap.size = cc at p0 p1 p2 p3 p4 ⊢
        obtain ⟨skip, hskip⟩ : ∃ skip, decide (tm ≠ x4 ∧ (tm ≠ 33 ∨ x4 ≠ 18)) = skip := ⟨_, rfl⟩
        have HSK := Lib.hid hskip
        clear hskip
        go_cut [133] from 119 to 133 (fun v wc => v = .bool skip ∧ uA = wc)
        case first =>
         by_cases e1 : tm = x4
         ·
          have e : skip = false := by rw [← HSK.out]; exact decide_eq_false (fun h => h.1 e1)
          subst e
          subst e1
          go_wp2_with fail
          go_meet
          exact ⟨rfl, rfl⟩
         ·
          have f1 : (tm != x4) = true := by rw [bne_iff_ne]; exact e1
          by_cases e2 : tm = 33
          ·
           subst e2
           by_cases e3 : x4 = 18
           ·
            have e : skip = false := by rw [← HSK.out]; exact decide_eq_false (fun h => h.2.elim (fun h => h rfl) (fun h => h e3))
            subst e
            subst e3
            go_wp2_with fail
            go_meet
            exact ⟨rfl, rfl⟩
           ·
            have f3 : (x4 != 18) = true := by rw [bne_iff_ne]; exact e3
            have e : skip = true := by rw [← HSK.out]; exact decide_eq_true ⟨e1, .inr e3⟩
            subst e
            go_wp2_with fail
            go_meet
            exact ⟨rfl, rfl⟩
          ·
           have f2 : (tm != 33) = true := by rw [bne_iff_ne]; exact e2
           have e : skip = true := by rw [← HSK.out]; exact decide_eq_true ⟨e1, .inl e2⟩
           subst e
           go_wp2_with fail
           go_meet
           exact ⟨rfl, rfl⟩
        case rest =>
         obtain ⟨rfl, rfl⟩ := hcut
         cases skip
         case true =>
          have htc : tailC (⟨x1, x2, bv2, x4, x5⟩ : Cmd) qk (DR.row ⟨⟨tg, to', tn, tc, tk⟩, ⟨tv, tm, ta, tmo, town⟩⟩) = [] := by
           unfold tailC; rw [if_pos (by exact of_decide_eq_true HSK.out)]
          have hf := HFT.out
          rw [htc] at hf
          have HF3 := Lib.hid hf
          clear hf htc HFT p0 p1 p2 p3 p4 z0 z1 z2 z3 z4
          go_wp2
          go_roundg (gk - 1)
          case measure => omega
          case rel => exact ⟨j + 1, _, by omega, rfl, by go_num, by rw [HF3.out]; exact HBVA.out, HBLA.out⟩
         case false =>
          obtain ⟨W, hW⟩ : ∃ W, wholeD tk ⟨tv, tm, ta, tmo, town⟩ x5 = W := ⟨_, rfl⟩
          have htc : tailC (⟨x1, x2, bv2, x4, x5⟩ : Cmd) qk (DR.row ⟨⟨tg, to', tn, tc, tk⟩, ⟨tv, tm, ta, tmo, town⟩⟩) = [regK x1 ++ (digitsP 5 x2 [] ++ (qk ++ W)), digitsP 5 x2 [] ++ (regK x1 ++ (qk ++ W)), regK x1 ++ (qk ++ (digitsP 5 x2 [] ++ W))] := by
           unfold tailC; rw [if_neg (by exact of_decide_eq_false HSK.out), ← hW]; rfl
          have hf := HFT.out
          rw [htc] at hf
          simp only [List.foldl_cons, List.foldl_nil] at hf
          have HF3 := Lib.hid hf
          have hwp := wholeD_len tk ⟨tv, tm, ta, tmo, town⟩ x5 HTK.out.2
          have hwc := whole_c ⟨⟨tg, to', tn, tc, tk⟩, ⟨tv, tm, ta, tmo, town⟩⟩ x5 uA HKTA.out HTK.out.1
          simp only [hW] at hwc
          rw [hW] at hwp
          have HWC := Lib.hid hwc
          clear hf htc hwc hW HFT
          go_upto_region 24 with (fail)
          go_wp2_with fail
          refine HWC.out.mono ?_
          rintro e uB ⟨sw, nw, cw, rfl, hnw, hnw2, hiw, hbw⟩
          have HNW := Lib.hid hnw
          have HIW := Lib.hid hiw
          have HBB := Lib.hid hbw
          clear hnw hiw hbw p0 p1 p2 p3 p4 z0 z1 z2 z3 z4
          have hqn12 : qn ≤ 2 := by have h : qn = qk.length := HKX.out.1; have h2 : qk.length = 1 ∨ qk.length = 2 := H12.out; omega
          have HQN := Lib.hid (show qn = qk.length from HKX.out.1)
          have hr2 := HHD.out.r2
          have hd5 := HHD.out.d5
          have HRL := Lib.hid HHD.out.rl
          have HDL := Lib.hid HHD.out.dl
          have HHDB := Lib.hid (((HHD.out.later HBL.out).later HBLA.out).later HBB.out)
          have HTB := Lib.hid ((((HT.out.later HB3.out).later HBL.out).later HBLA.out).later HBB.out)
          have HKXB := Lib.hid ((HKX.out.kept (HBLA.out.block _ HKX.out.lt)))
          replace HKXB := Lib.hid (HKXB.out.kept (HBB.out.block _ HKXB.out.lt))
          have HSTB := Lib.hid (HSTA.out.later HBB.out)
          have HONB := Lib.hid ((HBB.out.block _ (heap_lt HONA.out)).trans HONA.out)
          have HYB := Lib.hid ((HBB.out.cell (p := ⟨gO, k * 5, none⟩) hgOA).trans HYA.out)
          have hgOB : gO < uB.heap.size := Nat.lt_of_lt_of_le hgOA HBB.out.size
          have HBVB := Lib.hid (HBVA.out.later HBB.out)
          have HBLB := Lib.hid (HBLA.out.trans (HBB.out.mono HBLA.out.size))
          have HIWB := Lib.hid HIW.out
          obtain ⟨bvB, hbvB⟩ : ∃ b, b = vb2 := ⟨_, rfl⟩
          have HVB := Lib.hid hbvB
          clear hbvB HSTA HONA HYA HBVA HBLA HIW HWC HKTA
          go_upto_region 25 with (fail)
          have HJC := Lib.hid (joinedT_c (some ⟨qg, qo, none⟩) sw qn qc nw cw (qk) (W) uB.drew HQN.out HNW.out (by omega) (by omega) hwp (HKXB.out.is.later ((Below.refl uB.heap.size uB).drew)) (HIWB.out.later ((Below.refl uB.heap.size uB).drew)))
          obtain ⟨b0, b1, b2⟩ := HSTB.out.zero
          obtain ⟨z0, z1, z2, z3, z4⟩ := cells5 HONB.out
          have y0 := HYB.out
          have hcbB := heap_lt HONB.out
          have htbB := heap_lt HSTB.out.blk
          clear b0 b2
          go_region_held3 (fun w' => w'.cell? ⟨tb, 1, none⟩ = some (.slice (some ⟨gO, 0, none⟩) nO cO) ∧ w'.cell? ⟨gO, k * 5, none⟩ = some (.slice (some ⟨qg, qo, none⟩) qn qc) ∧ w'.cell? ⟨w.heap.size, 0, none⟩ = some (.int .i64 x1) ∧ w'.cell? ⟨w.heap.size, 1, none⟩ = some (.int .i64 x2) ∧ w'.cell? ⟨w.heap.size, 2, none⟩ = some (.int .i64 bv2) ∧ w'.cell? ⟨w.heap.size, 3, none⟩ = some (.int .i64 x4) ∧ w'.cell? ⟨w.heap.size, 4, none⟩ = some (.int .i64 x5))
           (first | with_reducible exact hSC.out | with_reducible exact hSC2.out | with_reducible exact hSC1.out | exact ⟨b1, y0, z0, z1, z2, z3, z4⟩ | go_keep)
           (first
            | (go_at_call 58; refine HBEC.out.mono ?_; rintro e uC ⟨bvC, rfl, hbvC, hbbC⟩; have HBC := Lib.hid (HBCb.out.trans (hbbC.mono HBCb.out.size)); have hSC := Lib.hid (show uC.cell? ⟨tb, 1, none⟩ = some (.slice (some ⟨gO, 0, none⟩) nO cO) ∧ uC.cell? ⟨gO, k * 5, none⟩ = some (.slice (some ⟨qg, qo, none⟩) qn qc) ∧ uC.cell? ⟨w.heap.size, 0, none⟩ = some (.int .i64 x1) ∧ uC.cell? ⟨w.heap.size, 1, none⟩ = some (.int .i64 x2) ∧ uC.cell? ⟨w.heap.size, 2, none⟩ = some (.int .i64 bv2) ∧ uC.cell? ⟨w.heap.size, 3, none⟩ = some (.int .i64 x4) ∧ uC.cell? ⟨w.heap.size, 4, none⟩ = some (.int .i64 x5) from ⟨(HBC.out.cell (p := ⟨tb, 1, none⟩) htbB).trans b1, (HBC.out.cell (p := ⟨gO, k * 5, none⟩) hgOB).trans y0, (HBC.out.cell (p := ⟨w.heap.size, 0, none⟩) hcbB).trans z0, (HBC.out.cell (p := ⟨w.heap.size, 1, none⟩) hcbB).trans z1, (HBC.out.cell (p := ⟨w.heap.size, 2, none⟩) hcbB).trans z2, (HBC.out.cell (p := ⟨w.heap.size, 3, none⟩) hcbB).trans z3, (HBC.out.cell (p := ⟨w.heap.size, 4, none⟩) hcbB).trans z4⟩); have HBVC := Lib.hid hbvC; clear hbvC hbbC)
            | (go_at_call 59; refine HJC2.out.mono ?_; rintro e uCb ⟨kaC, knC, kcC, rfl, hklC, hk0C, hk9C, hkcC, hkiC, hbkC⟩; have HBCb := Lib.hid (HBCa.out.trans (hbkC.mono HBCa.out.size)); have hSC2 := Lib.hid (show uCb.cell? ⟨tb, 1, none⟩ = some (.slice (some ⟨gO, 0, none⟩) nO cO) ∧ uCb.cell? ⟨gO, k * 5, none⟩ = some (.slice (some ⟨qg, qo, none⟩) qn qc) ∧ uCb.cell? ⟨w.heap.size, 0, none⟩ = some (.int .i64 x1) ∧ uCb.cell? ⟨w.heap.size, 1, none⟩ = some (.int .i64 x2) ∧ uCb.cell? ⟨w.heap.size, 2, none⟩ = some (.int .i64 bv2) ∧ uCb.cell? ⟨w.heap.size, 3, none⟩ = some (.int .i64 x4) ∧ uCb.cell? ⟨w.heap.size, 4, none⟩ = some (.int .i64 x5) from ⟨(HBCb.out.cell (p := ⟨tb, 1, none⟩) htbB).trans b1, (HBCb.out.cell (p := ⟨gO, k * 5, none⟩) hgOB).trans y0, (HBCb.out.cell (p := ⟨w.heap.size, 0, none⟩) hcbB).trans z0, (HBCb.out.cell (p := ⟨w.heap.size, 1, none⟩) hcbB).trans z1, (HBCb.out.cell (p := ⟨w.heap.size, 2, none⟩) hcbB).trans z2, (HBCb.out.cell (p := ⟨w.heap.size, 3, none⟩) hcbB).trans z3, (HBCb.out.cell (p := ⟨w.heap.size, 4, none⟩) hcbB).trans z4⟩); have HBEC := Lib.hid (better_c tb sel vb2 _ kaC knC kcC ((regK x1) ++ ((digitsP 5 x2 []) ++ (qk ++ W))) x1 x2 bv2 x4 x5 uCb (HTB.out.later HBCb.out) (HBVB.out.later HBCb.out) hklC hk0C (by omega) hkcC hkiC); clear hklC hkiC hbkC)
            | (go_at_call 59; refine HJC.out.mono ?_; rintro e uCa ⟨jaC, jnC, jcC, rfl, hjlC, hjnC, hj0C, hjiC, hjkC⟩; have HBCa := Lib.hid (((Below.refl uB.heap.size uB).drew).trans hjkC); have hSC1 := Lib.hid (show uCa.cell? ⟨tb, 1, none⟩ = some (.slice (some ⟨gO, 0, none⟩) nO cO) ∧ uCa.cell? ⟨gO, k * 5, none⟩ = some (.slice (some ⟨qg, qo, none⟩) qn qc) ∧ uCa.cell? ⟨w.heap.size, 0, none⟩ = some (.int .i64 x1) ∧ uCa.cell? ⟨w.heap.size, 1, none⟩ = some (.int .i64 x2) ∧ uCa.cell? ⟨w.heap.size, 2, none⟩ = some (.int .i64 bv2) ∧ uCa.cell? ⟨w.heap.size, 3, none⟩ = some (.int .i64 x4) ∧ uCa.cell? ⟨w.heap.size, 4, none⟩ = some (.int .i64 x5) from ⟨(HBCa.out.cell (p := ⟨tb, 1, none⟩) htbB).trans b1, (HBCa.out.cell (p := ⟨gO, k * 5, none⟩) hgOB).trans y0, (HBCa.out.cell (p := ⟨w.heap.size, 0, none⟩) hcbB).trans z0, (HBCa.out.cell (p := ⟨w.heap.size, 1, none⟩) hcbB).trans z1, (HBCa.out.cell (p := ⟨w.heap.size, 2, none⟩) hcbB).trans z2, (HBCa.out.cell (p := ⟨w.heap.size, 3, none⟩) hcbB).trans z3, (HBCa.out.cell (p := ⟨w.heap.size, 4, none⟩) hcbB).trans z4⟩); have HJC2 := Lib.hid (joinedK_c sr sd (some jaC) nr cr nd cd jnC jcC (regK x1) (digitsP 5 x2 []) (qk ++ W) uCa HRL.out HDL.out hjlC (by omega) (by omega) (by omega) hj0C (HHDB.out.reg.later HBCa.out) (HHDB.out.cnt.later HBCa.out) hjiC); clear hjlC hjiC hjkC hjnC hj0C))
          rename_i hheld
          clear hheld hSC hSC1 hSC2 HBEC HJC HJC2 HBCa HBCb b1 y0 z0 z1 z2 z3 z4
          have HHDC := Lib.hid (HHDB.out.later HBC.out)
          have HTC := Lib.hid (HTB.out.later HBC.out)
          have HKXC := Lib.hid (HKXB.out.kept (HBC.out.block _ HKXB.out.lt))
          have HSTC := Lib.hid (HSTB.out.later HBC.out)
          have HONC := Lib.hid ((HBC.out.block _ (heap_lt HONB.out)).trans HONB.out)
          have HYC := Lib.hid ((HBC.out.cell (p := ⟨gO, k * 5, none⟩) hgOB).trans HYB.out)
          have hgOC : gO < uC.heap.size := Nat.lt_of_lt_of_le hgOB HBC.out.size
          have HIWC := Lib.hid (HIWB.out.later HBC.out)
          have HBLC := Lib.hid (HBLB.out.trans (HBC.out.mono HBLB.out.size))
          clear HHDB HTB HKXB HSTB HONB HYB HIWB HBLB HBC hcbB htbB hgOB
          go_upto_region 26 with (fail)
          have HJD := Lib.hid (joinedT_c (some ⟨qg, qo, none⟩) sw qn qc nw cw (qk) (W) uC.drew HQN.out HNW.out (by omega) (by omega) hwp (HKXC.out.is.later ((Below.refl uC.heap.size uC).drew)) (HIWC.out.later ((Below.refl uC.heap.size uC).drew)))
          obtain ⟨b0, b1, b2⟩ := HSTC.out.zero
          obtain ⟨z0, z1, z2, z3, z4⟩ := cells5 HONC.out
          have y0 := HYC.out
          have hcbC := heap_lt HONC.out
          have htbC := heap_lt HSTC.out.blk
          clear b0 b2
          go_region_held3 (fun w' => w'.cell? ⟨tb, 1, none⟩ = some (.slice (some ⟨gO, 0, none⟩) nO cO) ∧ w'.cell? ⟨gO, k * 5, none⟩ = some (.slice (some ⟨qg, qo, none⟩) qn qc) ∧ w'.cell? ⟨w.heap.size, 0, none⟩ = some (.int .i64 x1) ∧ w'.cell? ⟨w.heap.size, 1, none⟩ = some (.int .i64 x2) ∧ w'.cell? ⟨w.heap.size, 2, none⟩ = some (.int .i64 bv2) ∧ w'.cell? ⟨w.heap.size, 3, none⟩ = some (.int .i64 x4) ∧ w'.cell? ⟨w.heap.size, 4, none⟩ = some (.int .i64 x5))
           (first | with_reducible exact hSD.out | with_reducible exact hSD2.out | with_reducible exact hSD1.out | exact ⟨b1, y0, z0, z1, z2, z3, z4⟩ | go_keep)
           (first
            | (go_at_call 58; refine HBED.out.mono ?_; rintro e uD ⟨bvD, rfl, hbvD, hbbD⟩; have HBD := Lib.hid (HBDb.out.trans (hbbD.mono HBDb.out.size)); have hSD := Lib.hid (show uD.cell? ⟨tb, 1, none⟩ = some (.slice (some ⟨gO, 0, none⟩) nO cO) ∧ uD.cell? ⟨gO, k * 5, none⟩ = some (.slice (some ⟨qg, qo, none⟩) qn qc) ∧ uD.cell? ⟨w.heap.size, 0, none⟩ = some (.int .i64 x1) ∧ uD.cell? ⟨w.heap.size, 1, none⟩ = some (.int .i64 x2) ∧ uD.cell? ⟨w.heap.size, 2, none⟩ = some (.int .i64 bv2) ∧ uD.cell? ⟨w.heap.size, 3, none⟩ = some (.int .i64 x4) ∧ uD.cell? ⟨w.heap.size, 4, none⟩ = some (.int .i64 x5) from ⟨(HBD.out.cell (p := ⟨tb, 1, none⟩) htbC).trans b1, (HBD.out.cell (p := ⟨gO, k * 5, none⟩) hgOC).trans y0, (HBD.out.cell (p := ⟨w.heap.size, 0, none⟩) hcbC).trans z0, (HBD.out.cell (p := ⟨w.heap.size, 1, none⟩) hcbC).trans z1, (HBD.out.cell (p := ⟨w.heap.size, 2, none⟩) hcbC).trans z2, (HBD.out.cell (p := ⟨w.heap.size, 3, none⟩) hcbC).trans z3, (HBD.out.cell (p := ⟨w.heap.size, 4, none⟩) hcbC).trans z4⟩); have HBVD := Lib.hid hbvD; clear hbvD hbbD)
            | (go_at_call 59; refine HJD2.out.mono ?_; rintro e uDb ⟨kaD, knD, kcD, rfl, hklD, hk0D, hk9D, hkcD, hkiD, hbkD⟩; have HBDb := Lib.hid (HBDa.out.trans (hbkD.mono HBDa.out.size)); have hSD2 := Lib.hid (show uDb.cell? ⟨tb, 1, none⟩ = some (.slice (some ⟨gO, 0, none⟩) nO cO) ∧ uDb.cell? ⟨gO, k * 5, none⟩ = some (.slice (some ⟨qg, qo, none⟩) qn qc) ∧ uDb.cell? ⟨w.heap.size, 0, none⟩ = some (.int .i64 x1) ∧ uDb.cell? ⟨w.heap.size, 1, none⟩ = some (.int .i64 x2) ∧ uDb.cell? ⟨w.heap.size, 2, none⟩ = some (.int .i64 bv2) ∧ uDb.cell? ⟨w.heap.size, 3, none⟩ = some (.int .i64 x4) ∧ uDb.cell? ⟨w.heap.size, 4, none⟩ = some (.int .i64 x5) from ⟨(HBDb.out.cell (p := ⟨tb, 1, none⟩) htbC).trans b1, (HBDb.out.cell (p := ⟨gO, k * 5, none⟩) hgOC).trans y0, (HBDb.out.cell (p := ⟨w.heap.size, 0, none⟩) hcbC).trans z0, (HBDb.out.cell (p := ⟨w.heap.size, 1, none⟩) hcbC).trans z1, (HBDb.out.cell (p := ⟨w.heap.size, 2, none⟩) hcbC).trans z2, (HBDb.out.cell (p := ⟨w.heap.size, 3, none⟩) hcbC).trans z3, (HBDb.out.cell (p := ⟨w.heap.size, 4, none⟩) hcbC).trans z4⟩); have HBED := Lib.hid (better_c tb sel bvC _ kaD knD kcD ((digitsP 5 x2 []) ++ ((regK x1) ++ (qk ++ W))) x1 x2 bv2 x4 x5 uDb (HTC.out.later HBDb.out) (HBVC.out.later HBDb.out) hklD hk0D (by omega) hkcD hkiD); clear hklD hkiD hbkD)
            | (go_at_call 59; refine HJD.out.mono ?_; rintro e uDa ⟨jaD, jnD, jcD, rfl, hjlD, hjnD, hj0D, hjiD, hjkD⟩; have HBDa := Lib.hid (((Below.refl uC.heap.size uC).drew).trans hjkD); have hSD1 := Lib.hid (show uDa.cell? ⟨tb, 1, none⟩ = some (.slice (some ⟨gO, 0, none⟩) nO cO) ∧ uDa.cell? ⟨gO, k * 5, none⟩ = some (.slice (some ⟨qg, qo, none⟩) qn qc) ∧ uDa.cell? ⟨w.heap.size, 0, none⟩ = some (.int .i64 x1) ∧ uDa.cell? ⟨w.heap.size, 1, none⟩ = some (.int .i64 x2) ∧ uDa.cell? ⟨w.heap.size, 2, none⟩ = some (.int .i64 bv2) ∧ uDa.cell? ⟨w.heap.size, 3, none⟩ = some (.int .i64 x4) ∧ uDa.cell? ⟨w.heap.size, 4, none⟩ = some (.int .i64 x5) from ⟨(HBDa.out.cell (p := ⟨tb, 1, none⟩) htbC).trans b1, (HBDa.out.cell (p := ⟨gO, k * 5, none⟩) hgOC).trans y0, (HBDa.out.cell (p := ⟨w.heap.size, 0, none⟩) hcbC).trans z0, (HBDa.out.cell (p := ⟨w.heap.size, 1, none⟩) hcbC).trans z1, (HBDa.out.cell (p := ⟨w.heap.size, 2, none⟩) hcbC).trans z2, (HBDa.out.cell (p := ⟨w.heap.size, 3, none⟩) hcbC).trans z3, (HBDa.out.cell (p := ⟨w.heap.size, 4, none⟩) hcbC).trans z4⟩); have HJD2 := Lib.hid (joinedK_c sd sr (some jaD) nd cd nr cr jnD jcD (digitsP 5 x2 []) (regK x1) (qk ++ W) uDa HDL.out HRL.out hjlD (by omega) (by omega) (by omega) hj0D (HHDC.out.cnt.later HBDa.out) (HHDC.out.reg.later HBDa.out) hjiD); clear hjlD hjiD hjkD hjnD hj0D))
          rename_i hheld
          clear hheld hSD hSD1 hSD2 HBED HJD HJD2 HBDa HBDb b1 y0 z0 z1 z2 z3 z4
          have HHDD := Lib.hid (HHDC.out.later HBD.out)
          have HTD := Lib.hid (HTC.out.later HBD.out)
          have HKXD := Lib.hid (HKXC.out.kept (HBD.out.block _ HKXC.out.lt))
          have HSTD := Lib.hid (HSTC.out.later HBD.out)
          have HOND := Lib.hid ((HBD.out.block _ (heap_lt HONC.out)).trans HONC.out)
          have HYD := Lib.hid ((HBD.out.cell (p := ⟨gO, k * 5, none⟩) hgOC).trans HYC.out)
          have hgOD : gO < uD.heap.size := Nat.lt_of_lt_of_le hgOC HBD.out.size
          have HIWD := Lib.hid (HIWC.out.later HBD.out)
          have HBLD := Lib.hid (HBLC.out.trans (HBD.out.mono HBLC.out.size))
          clear HHDC HTC HKXC HSTC HONC HYC HIWC HBLC HBD hcbC htbC hgOC
          go_upto_region 27 with (fail)
          have HJE := Lib.hid (joinedT_c sd sw nd cd nw cw (digitsP 5 x2 []) (W) uD.drew HDL.out HNW.out (by omega) (by omega) hwp (HHDD.out.cnt.later ((Below.refl uD.heap.size uD).drew)) (HIWD.out.later ((Below.refl uD.heap.size uD).drew)))
          obtain ⟨b0, b1, b2⟩ := HSTD.out.zero
          obtain ⟨z0, z1, z2, z3, z4⟩ := cells5 HOND.out
          have y0 := HYD.out
          have hcbD := heap_lt HOND.out
          have htbD := heap_lt HSTD.out.blk
          clear b0 b2
          go_region_held3 (fun w' => w'.cell? ⟨tb, 1, none⟩ = some (.slice (some ⟨gO, 0, none⟩) nO cO) ∧ w'.cell? ⟨gO, k * 5, none⟩ = some (.slice (some ⟨qg, qo, none⟩) qn qc) ∧ w'.cell? ⟨w.heap.size, 0, none⟩ = some (.int .i64 x1) ∧ w'.cell? ⟨w.heap.size, 1, none⟩ = some (.int .i64 x2) ∧ w'.cell? ⟨w.heap.size, 2, none⟩ = some (.int .i64 bv2) ∧ w'.cell? ⟨w.heap.size, 3, none⟩ = some (.int .i64 x4) ∧ w'.cell? ⟨w.heap.size, 4, none⟩ = some (.int .i64 x5))
           (first | with_reducible exact hSE.out | with_reducible exact hSE2.out | with_reducible exact hSE1.out | exact ⟨b1, y0, z0, z1, z2, z3, z4⟩ | go_keep)
           (first
            | (go_at_call 58; refine HBEE.out.mono ?_; rintro e uE ⟨bvE, rfl, hbvE, hbbE⟩; have HBE := Lib.hid (HBEb.out.trans (hbbE.mono HBEb.out.size)); have hSE := Lib.hid (show uE.cell? ⟨tb, 1, none⟩ = some (.slice (some ⟨gO, 0, none⟩) nO cO) ∧ uE.cell? ⟨gO, k * 5, none⟩ = some (.slice (some ⟨qg, qo, none⟩) qn qc) ∧ uE.cell? ⟨w.heap.size, 0, none⟩ = some (.int .i64 x1) ∧ uE.cell? ⟨w.heap.size, 1, none⟩ = some (.int .i64 x2) ∧ uE.cell? ⟨w.heap.size, 2, none⟩ = some (.int .i64 bv2) ∧ uE.cell? ⟨w.heap.size, 3, none⟩ = some (.int .i64 x4) ∧ uE.cell? ⟨w.heap.size, 4, none⟩ = some (.int .i64 x5) from ⟨(HBE.out.cell (p := ⟨tb, 1, none⟩) htbD).trans b1, (HBE.out.cell (p := ⟨gO, k * 5, none⟩) hgOD).trans y0, (HBE.out.cell (p := ⟨w.heap.size, 0, none⟩) hcbD).trans z0, (HBE.out.cell (p := ⟨w.heap.size, 1, none⟩) hcbD).trans z1, (HBE.out.cell (p := ⟨w.heap.size, 2, none⟩) hcbD).trans z2, (HBE.out.cell (p := ⟨w.heap.size, 3, none⟩) hcbD).trans z3, (HBE.out.cell (p := ⟨w.heap.size, 4, none⟩) hcbD).trans z4⟩); have HBVE := Lib.hid hbvE; clear hbvE hbbE)
            | (go_at_call 59; refine HJE2.out.mono ?_; rintro e uEb ⟨kaE, knE, kcE, rfl, hklE, hk0E, hk9E, hkcE, hkiE, hbkE⟩; have HBEb := Lib.hid (HBEa.out.trans (hbkE.mono HBEa.out.size)); have hSE2 := Lib.hid (show uEb.cell? ⟨tb, 1, none⟩ = some (.slice (some ⟨gO, 0, none⟩) nO cO) ∧ uEb.cell? ⟨gO, k * 5, none⟩ = some (.slice (some ⟨qg, qo, none⟩) qn qc) ∧ uEb.cell? ⟨w.heap.size, 0, none⟩ = some (.int .i64 x1) ∧ uEb.cell? ⟨w.heap.size, 1, none⟩ = some (.int .i64 x2) ∧ uEb.cell? ⟨w.heap.size, 2, none⟩ = some (.int .i64 bv2) ∧ uEb.cell? ⟨w.heap.size, 3, none⟩ = some (.int .i64 x4) ∧ uEb.cell? ⟨w.heap.size, 4, none⟩ = some (.int .i64 x5) from ⟨(HBEb.out.cell (p := ⟨tb, 1, none⟩) htbD).trans b1, (HBEb.out.cell (p := ⟨gO, k * 5, none⟩) hgOD).trans y0, (HBEb.out.cell (p := ⟨w.heap.size, 0, none⟩) hcbD).trans z0, (HBEb.out.cell (p := ⟨w.heap.size, 1, none⟩) hcbD).trans z1, (HBEb.out.cell (p := ⟨w.heap.size, 2, none⟩) hcbD).trans z2, (HBEb.out.cell (p := ⟨w.heap.size, 3, none⟩) hcbD).trans z3, (HBEb.out.cell (p := ⟨w.heap.size, 4, none⟩) hcbD).trans z4⟩); have HBEE := Lib.hid (better_c tb sel bvD _ kaE knE kcE ((regK x1) ++ ((qk) ++ (digitsP 5 x2 [] ++ W))) x1 x2 bv2 x4 x5 uEb (HTD.out.later HBEb.out) (HBVD.out.later HBEb.out) hklE hk0E (by omega) hkcE hkiE); clear hklE hkiE hbkE)
            | (go_at_call 59; refine HJE.out.mono ?_; rintro e uEa ⟨jaE, jnE, jcE, rfl, hjlE, hjnE, hj0E, hjiE, hjkE⟩; have HBEa := Lib.hid (((Below.refl uD.heap.size uD).drew).trans hjkE); have hSE1 := Lib.hid (show uEa.cell? ⟨tb, 1, none⟩ = some (.slice (some ⟨gO, 0, none⟩) nO cO) ∧ uEa.cell? ⟨gO, k * 5, none⟩ = some (.slice (some ⟨qg, qo, none⟩) qn qc) ∧ uEa.cell? ⟨w.heap.size, 0, none⟩ = some (.int .i64 x1) ∧ uEa.cell? ⟨w.heap.size, 1, none⟩ = some (.int .i64 x2) ∧ uEa.cell? ⟨w.heap.size, 2, none⟩ = some (.int .i64 bv2) ∧ uEa.cell? ⟨w.heap.size, 3, none⟩ = some (.int .i64 x4) ∧ uEa.cell? ⟨w.heap.size, 4, none⟩ = some (.int .i64 x5) from ⟨(HBEa.out.cell (p := ⟨tb, 1, none⟩) htbD).trans b1, (HBEa.out.cell (p := ⟨gO, k * 5, none⟩) hgOD).trans y0, (HBEa.out.cell (p := ⟨w.heap.size, 0, none⟩) hcbD).trans z0, (HBEa.out.cell (p := ⟨w.heap.size, 1, none⟩) hcbD).trans z1, (HBEa.out.cell (p := ⟨w.heap.size, 2, none⟩) hcbD).trans z2, (HBEa.out.cell (p := ⟨w.heap.size, 3, none⟩) hcbD).trans z3, (HBEa.out.cell (p := ⟨w.heap.size, 4, none⟩) hcbD).trans z4⟩); have HJE2 := Lib.hid (joinedK_c sr (some ⟨qg, qo, none⟩) (some jaE) nr cr qn qc jnE jcE (regK x1) (qk) (digitsP 5 x2 [] ++ W) uEa HRL.out HQN.out hjlE (by omega) (by omega) (by omega) hj0E (HHDD.out.reg.later HBEa.out) (HKXD.out.is.later HBEa.out) hjiE); clear hjlE hjiE hjkE hjnE hj0E))
          rename_i hheld
          clear hheld hSE hSE1 hSE2 HBEE HJE HJE2 HBEa HBEb b1 y0 z0 z1 z2 z3 z4
          have HHDE := Lib.hid (HHDD.out.later HBE.out)
          have HTE := Lib.hid (HTD.out.later HBE.out)
          have HKXE := Lib.hid (HKXD.out.kept (HBE.out.block _ HKXD.out.lt))
          have HSTE := Lib.hid (HSTD.out.later HBE.out)
          have HONE := Lib.hid ((HBE.out.block _ (heap_lt HOND.out)).trans HOND.out)
          have HYE := Lib.hid ((HBE.out.cell (p := ⟨gO, k * 5, none⟩) hgOD).trans HYD.out)
          have hgOE : gO < uE.heap.size := Nat.lt_of_lt_of_le hgOD HBE.out.size
          have HIWE := Lib.hid (HIWD.out.later HBE.out)
          have HBLE := Lib.hid (HBLD.out.trans (HBE.out.mono HBLD.out.size))
          clear HHDD HTD HKXD HSTD HOND HYD HIWD HBLD HBE hcbD htbD hgOD
          have HBW2 := Lib.hid (show BestV uE bvE (((TD.take (j + 1)).flatMap (tailC ⟨x1, x2, bv2, x4, x5⟩ qk)).foldl (tryD sel ⟨x1, x2, bv2, x4, x5⟩) bestK) by rw [HF3.out]; exact HBVE.out)
          clear HBVB HBVC HBVD HBVE HF3 HHDE HTE HKXE HSTE HONE HYE HIWE
          go_wp2
          go_roundg (gk - 1)
          case measure => omega
          case rel => exact ⟨j + 1, _, by omega, rfl, by go_num, HBW2.out, HBLE.out⟩
       ·
        have hall : TD.take j = TD := List.take_of_length_le (by rw [HTL.out]; omega)
        rw [hall] at hbv2
        have HBQ := Lib.hid hbv2
        have HBL2 := Lib.hid hbl2
        have hjn : ¬ (j : Int) < (nL : Int) := by omega
        clear hall hbv2 hbl2 hstr2 honr2
        go_wp2
        go_roundg (nO - (k + 1))
        case measure => omega
        case rel => exact ⟨k + 1, _, by omega, rfl, by go_num, by rw [HF2.out]; exact HBQ.out, HBL.out.trans (HBL2.out.mono HBL.out.size)⟩
     ·
      have hrc : opsC ⟨x1, x2, x3, x4, x5⟩ (DR.row ⟨⟨qg, qo, qn, qc, qk⟩, ⟨bv2, bm, ba, bmo, bo⟩⟩) = [] := by
       unfold opsC; rw [if_pos (by exact hvb)]
      have hf := HF.out
      rw [hrc] at hf
      have HF2 := Lib.hid hf
      have q3 : (bv2 != x3) = true := by rw [bne_iff_ne]; exact hvb
      clear hf hrc HF
      go_wp2
      go_roundg (gk - 1)
      case measure => omega
      case rel => exact ⟨k + 1, _, by omega, rfl, by go_num, by rw [HF2.out]; exact HBV.out.later HBD.out, HBL.out.trans (HBD.out.mono HBL.out.size)⟩
    ·
     have hall : (docO sel).take k = docO sel := List.take_of_length_le (by rw [← HLO.out, List.length_map, ← HNO.out]; omega)
     rw [hall, HV1.out] at hbv
     have HBV := Lib.hid hbv
     have HBL := Lib.hid hbl
     have hkn : ¬ (k : Int) < (nO : Int) := by omega
     clear hall hbv hbl hstr honr
     go_wp2
     go_ret
     exact ⟨_, rfl, HBV.out, HB3.out.trans (HBL.out.mono HB3.out.size)⟩
end Go.Proofs.Ytampjndfhpjheaa
