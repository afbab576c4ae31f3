/- Contracts: the document's lists of rows: objects (printed by gen_eb.py). No condition. -/
import Derived.Test.YtampjndfhpjheaaQBa
namespace Go.Proofs.Ytampjndfhpjheaa
open Go.RowKit
set_option linter.unusedVariables false
set_option linter.unusedSimpArgs false
def objS : List ByteArray := [⟨#[119]⟩, ⟨#[87]⟩, ⟨#[112]⟩, ⟨#[34]⟩, ⟨#[39]⟩, ⟨#[96]⟩, ⟨#[40]⟩, ⟨#[41]⟩, ⟨#[98]⟩, ⟨#[91]⟩, ⟨#[93]⟩, ⟨#[123]⟩, ⟨#[125]⟩, ⟨#[66]⟩, ⟨#[60]⟩]
def objM : List Int := [61, 63, 69, 65, 65, 65, 67, 67, 67, 67, 67, 67, 67, 67, 67]
def objA : List Int := [0, 0, 0, 34, 39, 96, 40, 40, 40, 91, 91, 123, 123, 123, 60]
def objAt (k : Nat) : Rows := [(105 :: bs (objS.getD k ⟨#[]⟩), ⟨1, objM.getD k 0, objA.getD k 0, false, []⟩), (97 :: bs (objS.getD k ⟨#[]⟩), ⟨1, objM.getD k 0 + 1, objA.getD k 0, false, []⟩)]
def objsA (k : Nat) : Rows := (List.range k).flatMap objAt
theorem objs_succ (k : Nat) : objsA (k + 1) = objsA k ++ objAt k := by
 unfold objsA; rw [List.range_succ, List.flatMap_append]; simp
theorem objs_len (k : Nat) : (objsA k).length = 2 * k := by
 induction k with
 | zero => rfl
 | succ k ih => rw [objs_succ, List.length_append, ih]; show _ + 2 = _; omega
theorem obj_all : objsA 15 ++ ([([105, 62], ⟨1, 67, 60, false, []⟩)] : Rows) ++ ([([97, 62], ⟨1, 68, 60, false, []⟩)] : Rows) = objD := by decide +kernel
theorem objS_1 {k : Nat} (h : k < objS.length) : objS[k].size = 1 := by
 have h1 : (objS.all fun x => decide (x.size = 1)) = true := by decide +kernel
 have := List.all_eq_true.1 h1 _ (List.getElem_mem h)
 simpa using this
theorem objM_b {k : Nat} (h : k < objM.length) : 0 ≤ objM[k] ∧ objM[k] < 1000 := by
 have h1 : (objM.all fun x => decide (0 ≤ x ∧ x < 1000)) = true := by decide +kernel
 have := List.all_eq_true.1 h1 _ (List.getElem_mem h)
 simpa using this
theorem bs_app (a b : ByteArray) : bs (a ++ b) = bs a ++ bs b := by
 unfold bs
 rw [ByteArray.data_append, Array.toList_append, List.map_append]
theorem ints_n (s : ByteArray) (n : Nat) (l : List Int) (hn : s.size = n) (hl : bs s = l) (w : World) (h0 : 0 < n) (h1 : n < 1000) :
  Calls Try.prog 91 #[.string s] w fun e w' => ∃ g c, e = .returned (.slice (some ⟨g, 0, none⟩) n c) ∧ KOk w' ⟨g, 0, n, c, l⟩ ∧ w.heap.size ≤ g ∧ Below w.heap.size w w' := by
 subst hn; subst hl
 exact ints_c s w h0 h1
theorem size_app (a b : ByteArray) : (a ++ b).size = a.size + b.size := ByteArray.size_append
set_option maxRecDepth 100000 in
set_option maxHeartbeats 8000000 in
theorem dobj_c (w : World) : Calls Try.prog 51 #[] w (ListIs objD w) := by
 go_enter Try.func51, Try.ntmps51
 have HL := Lib.hid (Below.refl w.heap.size w)
 go_upto_region 1 with (fail)
 go_upto_region 3 with (first
  | (refine wpList_buildTo rfl 149 _ rfl _ rfl (strC objS) (by kernel_rfl) ?_)
  | (refine wpList_store_rowTo rfl 149 _ _ rfl rfl w.heap.size (strC objS) rfl rfl _ _ (one_new _ _) (by kernel_rfl) (by kernel_rfl) (by kernel_rfl) ?_)
  | fail)
 generalize hw : (w.alloc _).setRow w.heap.size (strC objS) = y1
 have hA1 : y1.heap[w.heap.size]? = some (.cells (strC objS) 149 (0, 0)) := by rw [← hw]; exact (arr_new _ _ _ _).1
 have hbA1 : Below w.heap.size w y1 := by rw [← hw]; exact (arr_new _ _ _ _).2
 clear hw
 have hlA1 := heap_lt hA1
 replace HL := Lib.hid (HL.out.trans (hbA1.mono HL.out.size))
 have HA1 := Lib.hid hA1
 clear hA1 hbA1
 go_upto_region 4 with (first
  | (refine wpList_buildTo rfl 150 _ rfl _ rfl (intC objM) (by kernel_rfl) ?_)
  | (refine wpList_store_rowTo rfl 150 _ _ rfl rfl y1.heap.size (intC objM) rfl rfl _ _ (one_new _ _) (by kernel_rfl) (by kernel_rfl) (by kernel_rfl) ?_)
  | fail)
 generalize hw : (y1.alloc _).setRow y1.heap.size (intC objM) = y2
 have hA2 : y2.heap[y1.heap.size]? = some (.cells (intC objM) 150 (0, 0)) := by rw [← hw]; exact (arr_new _ _ _ _).1
 have hbA2 : Below y1.heap.size y1 y2 := by rw [← hw]; exact (arr_new _ _ _ _).2
 clear hw
 have hlA2 := heap_lt hA2
 replace HA1 := Lib.hid ((hbA2.block _ (heap_lt HA1.out)).trans HA1.out)
 replace HL := Lib.hid (HL.out.trans (hbA2.mono HL.out.size))
 have HA2 := Lib.hid hA2
 clear hA2 hbA2
 go_upto_region 5 with (first
  | (refine wpList_buildTo rfl 150 _ rfl _ rfl (intC objA) (by kernel_rfl) ?_)
  | (refine wpList_store_rowTo rfl 150 _ _ rfl rfl y2.heap.size (intC objA) rfl rfl _ _ (one_new _ _) (by kernel_rfl) (by kernel_rfl) (by kernel_rfl) ?_)
  | fail)
 generalize hw : (y2.alloc _).setRow y2.heap.size (intC objA) = y3
 have hA3 : y3.heap[y2.heap.size]? = some (.cells (intC objA) 150 (0, 0)) := by rw [← hw]; exact (arr_new _ _ _ _).1
 have hbA3 : Below y2.heap.size y2 y3 := by rw [← hw]; exact (arr_new _ _ _ _).2
 clear hw
 have hlA3 := heap_lt hA3
 replace HA1 := Lib.hid ((hbA3.block _ (heap_lt HA1.out)).trans HA1.out)
 replace HA2 := Lib.hid ((hbA3.block _ (heap_lt HA2.out)).trans HA2.out)
 replace HL := Lib.hid (HL.out.trans (hbA3.mono HL.out.size))
 have HA3 := Lib.hid hA3
 clear hA3 hbA3
 go_wp2_with fail
 go_loopg [1, 5] 15 (fun gg lv iv wr => ∃ (k n : Nat) (s : Option Addr) (c : Nat), k + gg = 15 ∧ lv = .slice s n c ∧ iv = .int .i64 k ∧ Grows (objsA k) w.heap.size (.slice s n c) wr ∧ wr.heap[w.heap.size]? = some (.cells (strC objS) 149 (0, 0)) ∧ wr.heap[y1.heap.size]? = some (.cells (intC objM) 150 (0, 0)) ∧ wr.heap[y2.heap.size]? = some (.cells (intC objA) 150 (0, 0)) ∧ Below w.heap.size w wr)
 case atStart => exact ⟨0, _, _, _, rfl, rfl, rfl, by first | exact Grows.nil _ _ | (simpa [rowsA] using HG.out), HA1.out, HA2.out, HA3.out, HL.out⟩
 case round =>
  try clear HG
  clear HL HA1 HA2 HA3
  obtain ⟨k, n, s, c, hk, rfl, rfl, hgr, hA1, hA2, hA3, hbl⟩ := hrel
  by_cases hlt : k < 15
  ·
   skip
   have e0 : k < objS.length := hlt
   have c0 := str_at hA1 e0
   have k0 : (strC objS)[k]? = some (.string objS[k]) := by rw [← block_cell hA1]; exact c0
   have hz : 0 < objS[k].size ∧ objS[k].size < 1000 := all_size (by decide +kernel) e0
   have e1 : k < objM.length := hlt
   have c1 := int_at hA2 e1
   have k1 : (intC objM)[k]? = some (.int .i64 objM[k]) := by rw [← block_cell hA2]; exact c1
   have e2 : k < objA.length := hlt
   have c2 := int_at hA3 e2
   have k2 : (intC objA)[k]? = some (.int .i64 objA[k]) := by rw [← block_cell hA3]; exact c2
   have hrow : objsA (k + 1) = objsA k ++ [(105 :: bs (objS[k]'e0), ⟨1, objM[k]'e1, objA[k]'e2, false, []⟩)] ++ [(97 :: bs (objS[k]'e0), ⟨1, objM[k]'e1 + 1, objA[k]'e2, false, []⟩)] := by rw [objs_succ]; unfold objAt; rw [getD_at e0, getD_at e1, getD_at e2, List.append_assoc]; rfl
   have hm := objM_b e1
   have hz1 := objS_1 e0
   generalize objS[k] = st at *
   generalize objM[k] = mv1 at *
   generalize objA[k] = mv2 at *
   obtain ⟨n1, hn1⟩ : ∃ n1, ((⟨#[105]⟩ : ByteArray) ++ st).size = n1 := ⟨_, rfl⟩
   have hp1 : 0 < n1 ∧ n1 < 1000 := by rw [← hn1, size_app]; show 0 < 1 + st.size ∧ 1 + st.size < 1000; omega
   have hl1 : bs ((⟨#[105]⟩ : ByteArray) ++ st) = 105 :: bs st := by rw [bs_app]; rfl
   have HN1 := Lib.hid hn1
   have HLL1 := Lib.hid hl1
   clear hn1 hl1
   obtain ⟨n2, hn2⟩ : ∃ n2, ((⟨#[97]⟩ : ByteArray) ++ st).size = n2 := ⟨_, rfl⟩
   have hp2 : 0 < n2 ∧ n2 < 1000 := by rw [← hn2, size_app]; show 0 < 1 + st.size ∧ 1 + st.size < 1000; omega
   have hl2 : bs ((⟨#[97]⟩ : ByteArray) ++ st) = 97 :: bs st := by rw [bs_app]; rfl
   have HN2 := Lib.hid hn2
   have HLL2 := Lib.hid hl2
   clear hn2 hl2
   obtain ⟨lb, hlb⟩ : ∃ lb, bs st = lb := ⟨_, rfl⟩
   rw [hlb] at HLL1 HLL2 hrow
   have q3 : ¬ (9223372036854775807 < 1 + st.size) := by omega
   have q4 : ∀ c : UInt8, ¬ (9223372036854775807 < (⟨#[c]⟩ : ByteArray).size + st.size) := fun c => by show ¬ (9223372036854775807 < 1 + st.size); omega
   clear hlb hz hz1
   have hm0 := hm.1
   have hm1 := hm.2
   clear hm
   have hd := (Below.refl wr.heap.size wr).drew
   have HG := Lib.hid (hgr.later hd)
   have HA1 := Lib.hid (show wr.drew.heap[w.heap.size]? = _ from hA1)
   have HA2 := Lib.hid (show wr.drew.heap[y1.heap.size]? = _ from hA2)
   have HA3 := Lib.hid (show wr.drew.heap[y2.heap.size]? = _ from hA3)
   obtain ⟨R1, hR1⟩ : ∃ R1, R1 = objsA k ++ ([(105 :: lb, ⟨1, mv1, mv2, false, []⟩)] : Rows) := ⟨_, rfl⟩
   rw [← hR1] at hrow
   have HL := Lib.hid hbl.drew
   have HR := Lib.hid hrow
   have HR1 := Lib.hid hR1
   have HLEN2 := Lib.hid (show R1.length < 1000 by rw [hR1, List.length_append, objs_len]; show _ + 1 < _; omega)
   clear hR1
   have HLEN := Lib.hid (objs_len k)
   have K0 := Lib.hid k0
   have K1 := Lib.hid k1
   have K2 := Lib.hid k2
   clear hd hgr hbl hrow k0 k1 k2 hA1 hA2 hA3
   have q5 : IntKind.i64.wrap (mv1 + 1) = mv1 + 1 := by rw [IntKind.wrap_i64]; omega
   have q1 : (k : Int) < 15 := by omega
   have q2 : (0 : Int) ≤ (k : Int) := by omega
   go_wp2_with fail
   go_region_held3 (fun w' => w'.cell? ⟨w.heap.size, k, none⟩ = some (.string st) ∧ w'.cell? ⟨y1.heap.size, k, none⟩ = some (.int .i64 mv1) ∧ w'.cell? ⟨y2.heap.size, k, none⟩ = some (.int .i64 mv2))
    (first | exact ⟨c0, c1, c2⟩ | exact ⟨(block_cell hA17).trans K0.out, (block_cell hA27).trans K1.out, (block_cell hA37).trans K2.out⟩ | exact ⟨(block_cell hA15).trans K0.out, (block_cell hA25).trans K1.out, (block_cell hA35).trans K2.out⟩ | go_keep)
    (first
     | (refine (ints_n _ n1 (105 :: lb) HN1.out HLL1.out _ hp1.1 hp1.2).mono ?_; rintro e w5 ⟨g5, c5, rfl, hk5, hgg5, hb5⟩; have hA15 := (hb5.block _ (heap_lt HA1.out)).trans HA1.out; have hA25 := (hb5.block _ (heap_lt HA2.out)).trans HA2.out; have hA35 := (hb5.block _ (heap_lt HA3.out)).trans HA3.out)
     | (refine grows_push ⟨⟨g5, 0, n1, c5, 105 :: lb⟩, ⟨1, mv1, mv2, false, []⟩⟩ (objsA k) rfl _ _ rfl w.heap.size _ rfl rfl (HG.out.later hb5) hk5 (by have := HLEN.out; omega) (HL.out.trans (hb5.mono HL.out.size)).size ?_; intro s7 n7 c7 w7 hg7 hb7 ho7; have hA17 := ho7 _ _ _ hA15 (by decide); have hA27 := ho7 _ _ _ hA25 (by decide); have hA37 := ho7 _ _ _ hA35 (by decide)))
   rename_i hheld
   have HG7 : Hid (Grows R1 w.heap.size (.slice s7 n7 c7) w7) := Lib.hid (by rw [HR1.out]; exact hg7)
   have HA17 := Lib.hid hA17
   have HA27 := Lib.hid hA27
   have HA37 := Lib.hid hA37
   have HL7 := Lib.hid ((HL.out.trans (hb5.mono HL.out.size)).trans hb7)
   clear hheld hg7 hb7 ho7 hb5 hk5 hgg5 HG HL c0 c1 c2 hA17 hA15 HA1 hA27 hA25 HA2 hA37 hA35 HA3
   go_upto_region 9 with (fail)
   have hd := (Below.refl w7.heap.size w7).drew
   have HG := Lib.hid (HG7.out.later hd)
   have HA1 := Lib.hid (show w7.drew.heap[w.heap.size]? = _ from HA17.out)
   have c0 := (block_cell (i := k) HA17.out).trans K0.out
   have HA2 := Lib.hid (show w7.drew.heap[y1.heap.size]? = _ from HA27.out)
   have c1 := (block_cell (i := k) HA27.out).trans K1.out
   have HA3 := Lib.hid (show w7.drew.heap[y2.heap.size]? = _ from HA37.out)
   have c2 := (block_cell (i := k) HA37.out).trans K2.out
   have HL := Lib.hid HL7.out.drew
   obtain ⟨wq, hwq⟩ : ∃ wq, wq = w7 := ⟨_, rfl⟩
   subst hwq
   clear hd HG7 HL7 HA17 HA27 HA37
   go_wp2_with fail
   go_region_held3 (fun w' => w'.cell? ⟨w.heap.size, k, none⟩ = some (.string st) ∧ w'.cell? ⟨y1.heap.size, k, none⟩ = some (.int .i64 mv1) ∧ w'.cell? ⟨y2.heap.size, k, none⟩ = some (.int .i64 mv2))
    (first | exact ⟨c0, c1, c2⟩ | exact ⟨(block_cell hA17).trans K0.out, (block_cell hA27).trans K1.out, (block_cell hA37).trans K2.out⟩ | exact ⟨(block_cell hA15).trans K0.out, (block_cell hA25).trans K1.out, (block_cell hA35).trans K2.out⟩ | go_keep)
    (first
     | (refine (ints_n _ n2 (97 :: lb) HN2.out HLL2.out _ hp2.1 hp2.2).mono ?_; rintro e w5 ⟨g5, c5, rfl, hk5, hgg5, hb5⟩; have hA15 := (hb5.block _ (heap_lt HA1.out)).trans HA1.out; have hA25 := (hb5.block _ (heap_lt HA2.out)).trans HA2.out; have hA35 := (hb5.block _ (heap_lt HA3.out)).trans HA3.out)
     | (refine grows_push ⟨⟨g5, 0, n2, c5, 97 :: lb⟩, ⟨1, (mv1 + 1), mv2, false, []⟩⟩ R1 rfl _ _ rfl w.heap.size _ rfl rfl (HG.out.later hb5) hk5 (by have := HLEN2.out; omega) (HL.out.trans (hb5.mono HL.out.size)).size ?_; intro s7 n7 c7 w7 hg7 hb7 ho7; have hA17 := ho7 _ _ _ hA15 (by decide); have hA27 := ho7 _ _ _ hA25 (by decide); have hA37 := ho7 _ _ _ hA35 (by decide)))
   rename_i hheld
   have HG7 := Lib.hid hg7
   have HA17 := Lib.hid hA17
   have HA27 := Lib.hid hA27
   have HA37 := Lib.hid hA37
   have HL7 := Lib.hid ((HL.out.trans (hb5.mono HL.out.size)).trans hb7)
   clear hheld hg7 hb7 ho7 hb5 hk5 hgg5 HG HL c0 c1 c2 hA17 hA15 HA1 hA27 hA25 HA2 hA37 hA35 HA3
   go_wp2
   go_roundg (gk - 1)
   case measure => omega
   case rel => exact ⟨k + 1, n7, s7, c7, by omega, rfl, by go_num, by rw [HR.out]; exact HG7.out, HA17.out, HA27.out, HA37.out, HL7.out⟩
  ·
   skip
   obtain rfl : k = 15 := by omega
   clear hA1 hA2 hA3
   have HG := Lib.hid hgr
   have HL := Lib.hid hbl
   have HLEN := Lib.hid (objs_len 15)
   clear hgr hbl
   go_wp2_with fail
   refine (ints_c ⟨#[105, 62]⟩ _ (by decide) (by decide)).mono ?_
   rintro e w5 ⟨g5, c5, rfl, hk5, hgg5, hb5⟩
   replace HG := Lib.hid (HG.out.later hb5)
   replace HL := Lib.hid (HL.out.trans (hb5.mono HL.out.size))
   have HK5 := Lib.hid hk5
   clear hk5 hgg5 hb5
   go_upto_region 11 with (first
    | (at_builtin; refine grows_pushL ⟨⟨g5, 0, (⟨#[105, 62]⟩ : ByteArray).size, c5, bs ⟨#[105, 62]⟩⟩, ⟨1, 67, 60, false, []⟩⟩ (objsA 15) rfl _ _ rfl w.heap.size _ rfl rfl HG.out HK5.out (by have := HLEN.out; omega) HL.out.size ?_; intro s7 n7 c7 w7 hg7 hb7 ho7; have HG7 := Lib.hid hg7; have HL7 := Lib.hid (HL.out.trans hb7); clear hg7 hb7 ho7)
    | fail)
   clear HG HL HK5
   have HG := HG7
   have HL := HL7
   clear HG7 HL7
   go_wp2_with fail
   refine (ints_c ⟨#[97, 62]⟩ _ (by decide) (by decide)).mono ?_
   rintro e w5 ⟨g5, c5, rfl, hk5, hgg5, hb5⟩
   replace HG := Lib.hid (HG.out.later hb5)
   replace HL := Lib.hid (HL.out.trans (hb5.mono HL.out.size))
   have HK5 := Lib.hid hk5
   clear hk5 hgg5 hb5
   go_wp2_with (first
    | (at_builtin; refine grows_pushL ⟨⟨g5, 0, (⟨#[97, 62]⟩ : ByteArray).size, c5, bs ⟨#[97, 62]⟩⟩, ⟨1, 68, 60, false, []⟩⟩ (objsA 15 ++ [_]) rfl _ _ rfl w.heap.size _ rfl rfl HG.out HK5.out (by rw [List.length_append]; show _ + 1 < _; have := HLEN.out; omega) HL.out.size ?_; intro s7 n7 c7 w7 hg7 hb7 ho7; have HG7 := Lib.hid hg7; have HL7 := Lib.hid (HL.out.trans hb7); clear hg7 hb7 ho7))
   clear HG HL HK5
   have HG := HG7
   have HL := HL7
   clear HG7 HL7
   go_ret
   rw [← obj_all]
   exact Grows.is HG.out HL.out
end Go.Proofs.Ytampjndfhpjheaa
