/- Contracts: the document's lists of rows: motions (printed by gen_eb.py). No condition. -/
import Derived.Test.YtampjndfhpjheaaQBa
namespace Go.Proofs.Ytampjndfhpjheaa
open Go.RowKit
set_option linter.unusedVariables false
set_option linter.unusedSimpArgs false
set_option maxRecDepth 100000 in
set_option maxHeartbeats 8000000 in
theorem dmot_c (w : World) : Calls Try.prog 50 #[] w (ListIs motD w) := by
 go_enter Try.func50, Try.ntmps50
 have HL := Lib.hid (Below.refl w.heap.size w)
 go_upto_region 1 with (fail)
 go_upto_region 2 with (first
  | (refine wpList_buildTo rfl 144 _ rfl _ rfl (strC mot1S) (by kernel_rfl) ?_)
  | (refine wpList_store_rowTo rfl 144 _ _ rfl rfl w.heap.size (strC mot1S) rfl rfl _ _ (one_new _ _) (by kernel_rfl) (by kernel_rfl) (by kernel_rfl) ?_)
  | fail)
 generalize hw : (w.alloc _).setRow w.heap.size (strC mot1S) = y1
 have hA1 : y1.heap[w.heap.size]? = some (.cells (strC mot1S) 144 (0, 0)) := by rw [← hw]; exact (arr_new _ _ _ _).1
 have hbA1 : Below w.heap.size w y1 := by rw [← hw]; exact (arr_new _ _ _ _).2
 clear hw
 have hlA1 := heap_lt hA1
 replace HL := Lib.hid (HL.out.trans (hbA1.mono HL.out.size))
 have HA1 := Lib.hid hA1
 clear hA1 hbA1
 go_upto_region 3 with (first
  | (refine wpList_buildTo rfl 145 _ rfl _ rfl (intC mot1M) (by kernel_rfl) ?_)
  | (refine wpList_store_rowTo rfl 145 _ _ rfl rfl y1.heap.size (intC mot1M) rfl rfl _ _ (one_new _ _) (by kernel_rfl) (by kernel_rfl) (by kernel_rfl) ?_)
  | fail)
 generalize hw : (y1.alloc _).setRow y1.heap.size (intC mot1M) = y2
 have hA2 : y2.heap[y1.heap.size]? = some (.cells (intC mot1M) 145 (0, 0)) := by rw [← hw]; exact (arr_new _ _ _ _).1
 have hbA2 : Below y1.heap.size y1 y2 := by rw [← hw]; exact (arr_new _ _ _ _).2
 clear hw
 have hlA2 := heap_lt hA2
 replace HA1 := Lib.hid ((hbA2.block _ (heap_lt HA1.out)).trans HA1.out)
 replace HL := Lib.hid (HL.out.trans (hbA2.mono HL.out.size))
 have HA2 := Lib.hid hA2
 clear hA2 hbA2
 go_wp2_with fail
 go_loopg [3, 4] 37 (fun gg lv iv wr => ∃ (k n : Nat) (s : Option Addr) (c : Nat), k + gg = 37 ∧ lv = .slice s n c ∧ iv = .int .i64 k ∧ Grows (rowsA false (fun _ => 1) (mot1M.getD · 0) mot1S k) w.heap.size (.slice s n c) wr ∧ wr.heap[w.heap.size]? = some (.cells (strC mot1S) 144 (0, 0)) ∧ wr.heap[y1.heap.size]? = some (.cells (intC mot1M) 145 (0, 0)) ∧ Below w.heap.size w wr)
 case atStart => exact ⟨0, _, _, _, rfl, rfl, rfl, by first | exact Grows.nil _ _ | (simpa [rowsA] using HG.out), HA1.out, HA2.out, HL.out⟩
 case round =>
  try clear HG
  clear HL HA1 HA2
  obtain ⟨k, n, s, c, hk, rfl, rfl, hgr, hA1, hA2, hbl⟩ := hrel
  by_cases hlt : k < 37
  ·
   skip
   have e0 : k < mot1S.length := hlt
   have c0 := str_at hA1 e0
   have k0 : (strC mot1S)[k]? = some (.string mot1S[k]) := by rw [← block_cell hA1]; exact c0
   have hz : 0 < mot1S[k].size ∧ mot1S[k].size < 1000 := all_size (by decide +kernel) e0
   have e1 : k < mot1M.length := hlt
   have c1 := int_at hA2 e1
   have k1 : (intC mot1M)[k]? = some (.int .i64 mot1M[k]) := by rw [← block_cell hA2]; exact c1
   have hrow : rowsA false (fun _ => 1) (mot1M.getD · 0) mot1S (k + 1) = (rowsA false (fun _ => 1) (mot1M.getD · 0) mot1S k) ++ ([(bs (mot1S[k]'e0), ⟨1, (mot1M[k]'e1), 0, false, []⟩)] : Rows) := by rw [rowsA_next false (fun _ => 1) (mot1M.getD · 0) mot1S k e0 (a := 1) (b := (mot1M[k]'e1)) (rfl) (getD_at e1 0)]
   generalize mot1S[k] = st at *
   generalize mot1M[k] = mv1 at *
   have hd := (Below.refl wr.heap.size wr).drew
   have HG := Lib.hid (hgr.later hd)
   have HA1 := Lib.hid (show wr.drew.heap[w.heap.size]? = _ from hA1)
   have HA2 := Lib.hid (show wr.drew.heap[y1.heap.size]? = _ from hA2)
   have HL := Lib.hid hbl.drew
   have HR := Lib.hid hrow
   have hlen : (rowsA false (fun _ => 1) (mot1M.getD · 0) mot1S k).length < 1000 := by simp only [List.length_append, rowsA_len, List.length_cons, List.length_nil]; first | omega | (have : eveD.length < 500 := by decide +kernel); omega
   have HLEN := Lib.hid hlen
   clear hd hgr hbl hrow hlen hA1 hA2
   have q1 : (k : Int) < 37 := by omega
   have q2 : (0 : Int) ≤ (k : Int) := by omega
   go_wp2_with fail
   go_region_held3 (fun w' => w'.cell? ⟨w.heap.size, k, none⟩ = some (.string st) ∧ w'.cell? ⟨y1.heap.size, k, none⟩ = some (.int .i64 mv1))
    (first | exact ⟨c0, c1⟩ | exact ⟨(block_cell hA17).trans k0, (block_cell hA27).trans k1⟩ | exact ⟨(block_cell hA15).trans k0, (block_cell hA25).trans k1⟩ | go_keep)
    (first
     | (refine (one_c st 1 mv1 _ hz.1 hz.2).mono ?_; rintro e w5 ⟨g5, c5, rfl, hk5, hb5⟩; have hA15 := (hb5.block _ (heap_lt HA1.out)).trans HA1.out; have hA25 := (hb5.block _ (heap_lt HA2.out)).trans HA2.out)
     | (refine grows_push ⟨⟨g5, 0, st.size, c5, bs st⟩, ⟨1, mv1, 0, false, []⟩⟩ _ rfl _ _ rfl w.heap.size _ rfl rfl (HG.out.later hb5) hk5 (by have := HLEN.out; omega) (HL.out.trans (hb5.mono HL.out.size)).size ?_; intro s7 n7 c7 w7 hg7 hb7 ho7; have hA17 := ho7 _ _ _ hA15 (by decide); have hA27 := ho7 _ _ _ hA25 (by decide)))
   rename_i hheld
   have HG7 := Lib.hid hg7
   have HA17 := Lib.hid hA17
   have HA27 := Lib.hid hA27
   have HL7 := Lib.hid ((HL.out.trans (hb5.mono HL.out.size)).trans hb7)
   clear hheld hg7 hb7 ho7 hb5 hk5 HG HL hA17 hA15 HA1 c0 k0 hA27 hA25 HA2 c1 k1
   go_wp2
   go_roundg (gk - 1)
   case measure => omega
   case rel => exact ⟨k + 1, _, s7, c7, by omega, rfl, by go_num, by rw [HR.out]; exact HG7.out, HA17.out, HA27.out, HL7.out⟩
  ·
   skip
   obtain rfl : k = 37 := by omega
   clear hA1 hA2
   obtain ⟨wz, hwo⟩ : ∃ wz, wz = wr := ⟨_, rfl⟩
   subst hwo
   have HG := Lib.hid hgr
   have HL := Lib.hid hbl
   clear hgr hbl
   go_wp2_with fail
   refine (one_c ⟨#[37]⟩ 1 33 _ (by decide) (by decide)).mono ?_
   rintro e w5 ⟨g5, c5, rfl, hk5, hb5⟩
   replace HG := Lib.hid (HG.out.later hb5)
   replace HL := Lib.hid (HL.out.trans (hb5.mono HL.out.size))
   have HK5 := Lib.hid hk5
   clear hk5 hb5
   have hlen : (rowsA false (fun _ => 1) (mot1M.getD · 0) mot1S 37).length < 1000 := by rw [rowsA_len]; decide
   have HLEN := Lib.hid hlen
   clear hlen
   go_upto_region 9 with (first
    | (at_builtin; refine grows_pushL ⟨⟨g5, 0, (⟨#[37]⟩ : ByteArray).size, c5, bs ⟨#[37]⟩⟩, ⟨1, 33, 0, false, []⟩⟩ _ rfl _ _ rfl w.heap.size _ rfl rfl HG.out HK5.out (by have := HLEN.out; omega) HL.out.size ?_; intro s7 n7 c7 w7 hg7 hb7 ho7; have HG7 := Lib.hid hg7; have HL7 := Lib.hid (HL.out.trans hb7); clear hg7 hb7 ho7)
    | fail)
   clear HG HL HK5 HLEN
   have HG := HG7
   have HL := HL7
   clear HG7 HL7
   replace HG : Hid (Grows (rowsA false (fun _ => 1) (mot1M.getD · 0) mot1S 37 ++ ([([37], ⟨1, 33, 0, false, []⟩)] : Rows)) w.heap.size (.slice s7 n7 c7) w7) := HG
   go_upto_region 10 with (first
    | (refine wpList_buildTo rfl 147 _ rfl _ rfl (strC mot2S) (by kernel_rfl) ?_)
    | (refine wpList_store_rowTo rfl 147 _ _ rfl rfl w7.heap.size (strC mot2S) rfl rfl _ _ (one_new _ _) (by kernel_rfl) (by kernel_rfl) (by kernel_rfl) ?_)
    | fail)
   generalize hw : (w7.alloc _).setRow w7.heap.size (strC mot2S) = y3
   have hA3 : y3.heap[w7.heap.size]? = some (.cells (strC mot2S) 147 (0, 0)) := by rw [← hw]; exact (arr_new _ _ _ _).1
   have hbA3 : Below w7.heap.size w7 y3 := by rw [← hw]; exact (arr_new _ _ _ _).2
   clear hw
   have hlA3 := heap_lt hA3
   replace HG := Lib.hid (HG.out.later hbA3)
   replace HL := Lib.hid (HL.out.trans (hbA3.mono HL.out.size))
   have HA3 := Lib.hid hA3
   clear hA3 hbA3
   go_upto_region 11 with (first
    | (refine wpList_buildTo rfl 148 _ rfl _ rfl (intC mot2M) (by kernel_rfl) ?_)
    | (refine wpList_store_rowTo rfl 148 _ _ rfl rfl y3.heap.size (intC mot2M) rfl rfl _ _ (one_new _ _) (by kernel_rfl) (by kernel_rfl) (by kernel_rfl) ?_)
    | fail)
   generalize hw : (y3.alloc _).setRow y3.heap.size (intC mot2M) = y4
   have hA4 : y4.heap[y3.heap.size]? = some (.cells (intC mot2M) 148 (0, 0)) := by rw [← hw]; exact (arr_new _ _ _ _).1
   have hbA4 : Below y3.heap.size y3 y4 := by rw [← hw]; exact (arr_new _ _ _ _).2
   clear hw
   have hlA4 := heap_lt hA4
   replace HA3 := Lib.hid ((hbA4.block _ (heap_lt HA3.out)).trans HA3.out)
   replace HG := Lib.hid (HG.out.later hbA4)
   replace HL := Lib.hid (HL.out.trans (hbA4.mono HL.out.size))
   have HA4 := Lib.hid hA4
   clear hA4 hbA4
   go_wp2_with fail
   go_loopg [3, 7] 6 (fun gg lv iv wr => ∃ (k n : Nat) (s : Option Addr) (c : Nat), k + gg = 6 ∧ lv = .slice s n c ∧ iv = .int .i64 k ∧ Grows (rowsA false (fun _ => 1) (mot1M.getD · 0) mot1S 37 ++ ([([37], ⟨1, 33, 0, false, []⟩)] : Rows) ++ rowsA true (fun _ => 1) (mot2M.getD · 0) mot2S k) w.heap.size (.slice s n c) wr ∧ wr.heap[w7.heap.size]? = some (.cells (strC mot2S) 147 (0, 0)) ∧ wr.heap[y3.heap.size]? = some (.cells (intC mot2M) 148 (0, 0)) ∧ Below w.heap.size w wr)
   case atStart => exact ⟨0, _, _, _, rfl, rfl, rfl, by first | exact Grows.nil _ _ | (simpa [rowsA] using HG.out), HA3.out, HA4.out, HL.out⟩
   case round =>
    try clear HG
    clear HL HA3 HA4
    obtain ⟨k, n, s, c, hk, rfl, rfl, hgr, hA3, hA4, hbl⟩ := hrel
    by_cases hlt : k < 6
    ·
     skip
     have e0 : k < mot2S.length := hlt
     have c0 := str_at hA3 e0
     have k0 : (strC mot2S)[k]? = some (.string mot2S[k]) := by rw [← block_cell hA3]; exact c0
     have hz : 0 < mot2S[k].size ∧ mot2S[k].size < 1000 := all_size (by decide +kernel) e0
     have e1 : k < mot2M.length := hlt
     have c1 := int_at hA4 e1
     have k1 : (intC mot2M)[k]? = some (.int .i64 mot2M[k]) := by rw [← block_cell hA4]; exact c1
     have hrow : rowsA false (fun _ => 1) (mot1M.getD · 0) mot1S 37 ++ ([([37], ⟨1, 33, 0, false, []⟩)] : Rows) ++ rowsA true (fun _ => 1) (mot2M.getD · 0) mot2S (k + 1) = (rowsA false (fun _ => 1) (mot1M.getD · 0) mot1S 37 ++ ([([37], ⟨1, 33, 0, false, []⟩)] : Rows) ++ rowsA true (fun _ => 1) (mot2M.getD · 0) mot2S k) ++ ([(bs (mot2S[k]'e0), ⟨1, (mot2M[k]'e1), 0, true, []⟩)] : Rows) := by rw [rowsA_next true (fun _ => 1) (mot2M.getD · 0) mot2S k e0 (a := 1) (b := (mot2M[k]'e1)) (rfl) (getD_at e1 0)]; simp only [List.append_assoc]
     generalize mot2S[k] = st at *
     generalize mot2M[k] = mv1 at *
     obtain ⟨wA, hwA⟩ : ∃ wA, wA = wr.alloc (.cells #[.slice none 0 0, .int .i64 0, .int .i64 0, .int .i64 0, .bool false] 103) := ⟨_, rfl⟩
     have hbA : Below wr.heap.size wr wA := by rw [hwA]; exact below_new2 wr _
     have hkA : wA.heap[wr.heap.size]? = some (.cells #[.slice none 0 0, .int .i64 0, .int .i64 0, .int .i64 0, .bool false] 103 (0, 0)) := by rw [hwA]; exact one_new wr _
     have hlA := heap_lt hkA
     have d0 : (wr.alloc (.cells #[.slice none 0 0, .int .i64 0, .int .i64 0, .int .i64 0, .bool false] 103)).cell? ⟨w7.heap.size, k, none⟩ = some (.string st) := ((below_new2 wr _).cell (p := ⟨w7.heap.size, k, none⟩) (heap_lt hA3)).trans c0
     have d1 : (wr.alloc (.cells #[.slice none 0 0, .int .i64 0, .int .i64 0, .int .i64 0, .bool false] 103)).cell? ⟨y3.heap.size, k, none⟩ = some (.int .i64 mv1) := ((below_new2 wr _).cell (p := ⟨y3.heap.size, k, none⟩) (heap_lt hA4)).trans c1
     have HWA := Lib.hid hwA
     have HBA := Lib.hid hbA
     have HKA := Lib.hid hkA
     have HG := Lib.hid hgr
     have HL := Lib.hid hbl
     have HR := Lib.hid hrow
     have HA3 := Lib.hid hA3
     have HA4 := Lib.hid hA4
     have hlen : (rowsA false (fun _ => 1) (mot1M.getD · 0) mot1S 37 ++ ([([37], ⟨1, 33, 0, false, []⟩)] : Rows) ++ rowsA true (fun _ => 1) (mot2M.getD · 0) mot2S k).length < 1000 := by simp only [List.length_append, rowsA_len, List.length_cons, List.length_nil]; first | omega | (have : eveD.length < 500 := by decide +kernel); omega
     have HLEN := Lib.hid hlen
     clear hwA hbA hkA hgr hbl hrow hlen hA3 hA4
     have q1 : (k : Int) < 6 := by omega
     have q2 : (0 : Int) ≤ (k : Int) := by omega
     go_upto_region 14 with (fail)
     go_cut [8] (fun v8 wc => ∃ cb g5 c5, v8 = .pointer (some ⟨cb, 0, none⟩) ∧ wc.heap[cb]? = some (.cells #[.slice (some ⟨g5, 0, none⟩) st.size c5, .int .i64 1, .int .i64 mv1, .int .i64 0, .bool false] 103 (0, 0)) ∧ wr.heap.size ≤ cb ∧ KOk wc ⟨g5, 0, st.size, c5, bs st⟩ ∧ Below wr.heap.size wr wc)
     case first =>
      rename_i i1 i2 i3 i4 i5 i6 i7 i8 i9 i10 i11 i12 i13 i14 i15 i16 i17 i18 i19 i20 i21 i22 i23 i24 i25 i26 i27
      clear i5 i6 i13 i15 i18 i19 i21 i23 HG HL HR HLEN e0 e1 k0 k1 HA3 HA4
      go_region_law (first
       | (go_simp; rw [← HWA.out]; refine (one_c st 1 mv1 wA.drew hz.1 hz.2).mono ?_; rintro e w5 ⟨g5, c5, rfl, hk5, hb5⟩; have hk6 := (hb5.block wr.heap.size hlA).trans HKA.out; have HB5 := Lib.hid (HBA.out.drew.trans (hb5.mono HBA.out.size)); have HK5 := Lib.hid hk5; have HK6 := Lib.hid hk6; have r0 := block_cell (i := 0) hk6; have r1 := block_cell (i := 1) hk6; have r2 := block_cell (i := 2) hk6; have r3 := block_cell (i := 3) hk6; have r4 := block_cell (i := 4) hk6; have f0 := block_free (i := 0) hk6; have f1 := block_free (i := 1) hk6; have f2 := block_free (i := 2) hk6; have f3 := block_free (i := 3) hk6; have f4 := block_free (i := 4) hk6; clear hk6 hk5 hb5)
       | (go_simp; refine (one_c st 1 mv1 _ hz.1 hz.2).mono ?_; rintro e w5 ⟨g5, c5, rfl, hk5, hb5⟩; have HB5 := Lib.hid ((Below.refl wr.heap.size wr).drew.trans hb5); have HK5 := Lib.hid hk5; clear hk5 hb5))
      all_goals
       go_wp2_with fail
       go_meet
       first
        | (obtain ⟨h1, h2, h3⟩ := row_fin1 (.slice (some ⟨g5, 0, none⟩) st.size c5) (.int .i64 1) (.int .i64 mv1) (.int .i64 0) (.bool false) HB5.out HK6.out HK5.out; exact ⟨_, _, _, rfl, h1, Nat.le_refl _, h2, h3⟩)
        | (obtain ⟨h1, h2, h3⟩ := row_fin2 (.slice (some ⟨g5, 0, none⟩) st.size c5) (.int .i64 1) (.int .i64 mv1) (.int .i64 0) (.bool false) HB5.out HK5.out; exact ⟨_, _, _, rfl, h1, HB5.out.size, h2, h3⟩)
     case rest =>
      obtain ⟨cb, g5, c5, rfl, hcb, hge, hk5, hb5⟩ := hcut
      have hne : ∀ (b : Nat) (cs : Array Value) (t : TypeId), wc.heap[b]? = some (.cells cs t (0, 0)) → t ≠ 103 → b ≠ cb := fun b cs t h1 h2 => type_ne h1 hcb h2
      have hcb' : (wc.setCell ⟨cb, 4, none⟩ (.bool true)).heap[cb]? = some (.cells #[.slice (some ⟨g5, 0, none⟩) st.size c5, .int .i64 1, .int .i64 mv1, .int .i64 0, .bool true] 103 (0, 0)) := block_set _ hcb
      have hb5' : Below wr.heap.size wr (wc.setCell ⟨cb, 4, none⟩ (.bool true)) := hb5.setCell hge _
      have hk5' : KOk (wc.setCell ⟨cb, 4, none⟩ (.bool true)) ⟨g5, 0, st.size, c5, bs st⟩ := hk5.kept (Below.heap_setCell _ _ _ _ (by obtain ⟨cs, h1⟩ := hk5.type; exact hne _ _ _ h1 (by decide)))
      have c4 : wc.cell? ⟨cb, 4, none⟩ = some (.bool false) := block_cell hcb
      have f4 : wc.frozen? ⟨cb, 4, none⟩ = false := block_free hcb
      have HCB := Lib.hid hcb'
      have HK5 := Lib.hid hk5'
      have HB5 := Lib.hid hb5'
      clear hcb hge hk5 hb5 hne hcb' hk5' hb5' HWA HBA HKA
      go_upto_region 16 with (fail)
      clear c4 f4
      generalize (wc.setCell ⟨cb, 4, none⟩ (.bool true)) = wd at HCB HK5 HB5 ⊢
      replace HG := Lib.hid (HG.out.later HB5.out)
      replace HL := Lib.hid (HL.out.trans (HB5.out.mono HL.out.size))
      replace HA3 := Lib.hid ((HB5.out.block _ (heap_lt HA3.out)).trans HA3.out)
      replace HA4 := Lib.hid ((HB5.out.block _ (heap_lt HA4.out)).trans HA4.out)
      have c0 := block_cell (i := 0) HCB.out
      have c1 := block_cell (i := 1) HCB.out
      have c2 := block_cell (i := 2) HCB.out
      have c3 := block_cell (i := 3) HCB.out
      have c4 := block_cell (i := 4) HCB.out
      go_wp2_with (first
       | (at_builtin; refine grows_pushL ⟨⟨g5, 0, st.size, c5, bs st⟩, ⟨1, mv1, 0, true, []⟩⟩ _ rfl _ _ rfl w.heap.size _ rfl rfl HG.out HK5.out (by have := HLEN.out; omega) HL.out.size ?_; intro s7 n7 c7 w7 hg7 hb7 ho7; have HG7 := Lib.hid hg7; have HL7 := Lib.hid (HL.out.trans hb7); have HA37 := Lib.hid (ho7 _ _ _ HA3.out (by decide)); have HA47 := Lib.hid (ho7 _ _ _ HA4.out (by decide)); clear hg7 hb7 ho7))
      go_roundg (gk - 1)
      case measure => omega
      case rel => exact ⟨k + 1, _, s7, c7, by omega, rfl, by go_num, by rw [HR.out]; exact HG7.out, HA37.out, HA47.out, HL7.out⟩
    ·
     skip
     obtain rfl : k = 6 := by omega
     clear hA3 hA4
     obtain ⟨wx, hwo⟩ : ∃ wx, wx = wr := ⟨_, rfl⟩
     subst hwo
     have HG := Lib.hid hgr
     have HL := Lib.hid hbl
     clear hgr hbl
     go_wp2
     go_ret
     rw [mot_all] at HG
     exact Grows.is HG.out HL.out
end Go.Proofs.Ytampjndfhpjheaa
