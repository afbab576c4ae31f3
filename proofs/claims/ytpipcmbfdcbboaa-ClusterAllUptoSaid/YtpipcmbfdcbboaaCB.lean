/- Contracts: asked and played of ClusterAll. Condition: fewer than 2^20 atoms. -/
import Derived.Test.YtpipcmbfdcbboaaCA
import Derived.Deep.RegionWith
import Derived.Deep.RegionHeld3
namespace Go.Proofs.Ytpipcmbfdcbboaa
open Go.RowKit
def IsOp (w : World) (b : Nat) (k a : Int) (v : Value) : Prop := w.heap[b]? = some (.cells #[.int .i64 k, .int .i64 a, v] 40 (0, 0))
theorem IsOp.facts {w : World} {b : Nat} {k a : Int} {v : Value} (h : IsOp w b k a v) :
    (w.cell? ⟨b, 0, none⟩ = some (.int .i64 k) ∧ w.cell? ⟨b, 1, none⟩ = some (.int .i64 a) ∧ w.cell? ⟨b, 2, none⟩ = some v) ∧
    (w.frozen? ⟨b, 0, none⟩ = false ∧ w.frozen? ⟨b, 1, none⟩ = false ∧ w.frozen? ⟨b, 2, none⟩ = false) :=
  ⟨⟨block_cell h, block_cell h, block_cell h⟩, ⟨block_free h, block_free h, block_free h⟩⟩
theorem IsOp.below {w w1 : World} {b : Nat} {k a : Int} {v : Value} (h : IsOp w b k a v) (hb : Below w.heap.size w w1) : IsOp w1 b k a v := (hb.block b (heap_lt h)).trans h
theorem op_new (w : World) (k a : Int) (v : Value) : IsOp (w.alloc (.cells #[.int .i64 k, .int .i64 a, v] 40)) w.heap.size k a v := one_new w _
theorem below_one (w : World) (o : Obj) : Below w.heap.size w (w.alloc o) := (Below.refl _ _).alloc (Nat.le_refl _) _
set_option maxHeartbeats 2000000 in
theorem asked2_any (a : Int) (s sa : Option Addr) (n c ca : Nat) (f : Nat → Int) (w : World) (hn : n < 1048577) (hs : IsInts w s n f) (ha : IsInts w sa n f) :
    Calls Try.prog 43 #[.agg #[.int .i64 2, .int .i64 a, .slice s n c], .slice sa n ca] w fun e w' => e = .returned (.bool true) ∧ Below w.heap.size w w' := by
  have HS := Lib.hid hs
  have HA := Lib.hid ha
  clear hs ha
  have k1 := op_new w 2 a (.slice s n c)
  obtain ⟨⟨c0, c1, c2⟩, ⟨f0, f1, f2⟩⟩ := k1.facts
  have hB := below_one w (.cells #[.int .i64 2, .int .i64 a, .slice s n c] 40)
  clear k1
  go_enter Try.func43, Try.ntmps43
  go_wp2_with fail
  go_region_held3 (fun w' => w'.cell? ⟨w.heap.size, 1, none⟩ = some (.int .i64 a) ∧ w'.cell? ⟨w.heap.size, 2, none⟩ = some (.slice s n c) ∧ Below w.heap.size w w')
    (first | exact ⟨c1, c2, hB.drew⟩ | go_keep | (go_split_ands; exact ⟨cell_below (by assumption) hb2, cell_below (by assumption) hb2, bt (by assumption) hb2⟩))
    (first | (go_at_call 21; go_split_ands; refine (isbreak_any sa n ca f a _ (by unfold maxLen; omega) (HA.out.later (by assumption))).mono ?_; rintro e w2 ⟨rfl, hb2⟩) | (go_at_call 36; go_split_ands; refine (risbreak_any s n c f a _ (by unfold maxLen; omega) (HS.out.later (by assumption))).mono ?_; rintro e w2 ⟨rfl, hb2⟩))
  all_goals
    have hh : Below w.heap.size w w2 := by (first | (rename_i h; exact h.2.2) | assumption)
    have HH := Lib.hid hh
    clear c0 c1 c2 f0 f1 f2 hB hh
    go_wp2
    go_ret
    exact ⟨ret_bool (by simp), HH.out⟩
set_option maxHeartbeats 2000000 in
theorem asked3_any (a : Int) (s sa : Option Addr) (n c ca : Nat) (f : Nat → Int) (w : World) (hn : n < 1048577) (hs : IsInts w s n f) (ha : IsInts w sa n f) :
    Calls Try.prog 43 #[.agg #[.int .i64 3, .int .i64 a, .slice s n c], .slice sa n ca] w fun e w' => e = .returned (.bool true) ∧ Below w.heap.size w w' := by
  have HS := Lib.hid hs
  have HA := Lib.hid ha
  clear hs ha
  have k1 := op_new w 3 a (.slice s n c)
  obtain ⟨⟨c0, c1, c2⟩, ⟨f0, f1, f2⟩⟩ := k1.facts
  have hB := below_one w (.cells #[.int .i64 3, .int .i64 a, .slice s n c] 40)
  clear k1
  go_enter Try.func43, Try.ntmps43
  go_wp2_with fail
  go_region_held3 (fun w' => w'.cell? ⟨w.heap.size, 1, none⟩ = some (.int .i64 a) ∧ w'.cell? ⟨w.heap.size, 2, none⟩ = some (.slice s n c) ∧ Below w.heap.size w w')
    (first | exact ⟨c1, c2, hB.drew⟩ | go_keep | (go_split_ands; exact ⟨cell_below (by assumption) hb2, cell_below (by assumption) hb2, bt (by assumption) hb2⟩))
    (first | (go_at_call 27; go_split_ands; refine (next_any sa n ca f a _ (by unfold maxLen; omega) (HA.out.later (by assumption))).mono ?_; rintro e w2 ⟨rfl, hb2⟩) | (go_at_call 54; go_split_ands; refine (rnext_any s n c f a _ (by omega) (HS.out.later (by assumption))).mono ?_; rintro e w2 ⟨rfl, hb2⟩))
  all_goals
    have hh : Below w.heap.size w w2 := by (first | (rename_i h; exact h.2.2) | assumption)
    have HH := Lib.hid hh
    clear c0 c1 c2 f0 f1 f2 hB hh
    go_wp2
    go_ret
    exact ⟨ret_bool (by simp), HH.out⟩
set_option maxHeartbeats 2000000 in
theorem asked4_any (a : Int) (s sa : Option Addr) (n c ca : Nat) (f : Nat → Int) (w : World) (hn : n < 1048577) (hs : IsInts w s n f) (ha : IsInts w sa n f) :
    Calls Try.prog 43 #[.agg #[.int .i64 4, .int .i64 a, .slice s n c], .slice sa n ca] w fun e w' => e = .returned (.bool true) ∧ Below w.heap.size w w' := by
  have HS := Lib.hid hs
  have HA := Lib.hid ha
  clear hs ha
  have k1 := op_new w 4 a (.slice s n c)
  obtain ⟨⟨c0, c1, c2⟩, ⟨f0, f1, f2⟩⟩ := k1.facts
  have hB := below_one w (.cells #[.int .i64 4, .int .i64 a, .slice s n c] 40)
  clear k1
  go_enter Try.func43, Try.ntmps43
  go_wp2_with fail
  go_region_held3 (fun w' => w'.cell? ⟨w.heap.size, 1, none⟩ = some (.int .i64 a) ∧ w'.cell? ⟨w.heap.size, 2, none⟩ = some (.slice s n c) ∧ Below w.heap.size w w')
    (first | exact ⟨c1, c2, hB.drew⟩ | go_keep | (go_split_ands; exact ⟨cell_below (by assumption) hb2, cell_below (by assumption) hb2, bt (by assumption) hb2⟩))
    (first | (go_at_call 28; go_split_ands; refine (prev_any sa n ca f a _ (by unfold maxLen; omega) (HA.out.later (by assumption))).mono ?_; rintro e w2 ⟨rfl, hb2⟩) | (go_at_call 55; go_split_ands; refine (rprev_any s n c f a _ (by omega) (HS.out.later (by assumption))).mono ?_; rintro e w2 ⟨rfl, hb2⟩))
  all_goals
    have hh : Below w.heap.size w w2 := by (first | (rename_i h; exact h.2.2) | assumption)
    have HH := Lib.hid hh
    clear c0 c1 c2 f0 f1 f2 hB hh
    go_wp2
    go_ret
    exact ⟨ret_bool (by simp), HH.out⟩
set_option maxHeartbeats 2000000 in
theorem asked5_any (a : Int) (s sa : Option Addr) (n c ca : Nat) (f : Nat → Int) (w : World) (hn : n < 1048577) (hs : IsInts w s n f) (ha : IsInts w sa n f) :
    Calls Try.prog 43 #[.agg #[.int .i64 5, .int .i64 a, .slice s n c], .slice sa n ca] w fun e w' => e = .returned (.bool true) ∧ Below w.heap.size w w' := by
  have HS := Lib.hid hs
  have HA := Lib.hid ha
  clear hs ha
  have k1 := op_new w 5 a (.slice s n c)
  obtain ⟨⟨c0, c1, c2⟩, ⟨f0, f1, f2⟩⟩ := k1.facts
  have hB := below_one w (.cells #[.int .i64 5, .int .i64 a, .slice s n c] 40)
  clear k1
  go_enter Try.func43, Try.ntmps43
  go_wp2_with fail
  go_region_held3 (fun w' => w'.cell? ⟨w.heap.size, 1, none⟩ = some (.int .i64 a) ∧ w'.cell? ⟨w.heap.size, 2, none⟩ = some (.slice s n c) ∧ Below w.heap.size w w')
    (first | exact ⟨c1, c2, hB.drew⟩ | go_keep | (go_split_ands; exact ⟨cell_below (by assumption) hb2, cell_below (by assumption) hb2, bt (by assumption) hb2⟩))
    (first | (go_at_call 20; go_split_ands; refine (snap_any sa n ca f a _ (by unfold maxLen; omega) (HA.out.later (by assumption))).mono ?_; rintro e w2 ⟨rfl, hb2⟩) | (go_at_call 56; go_split_ands; refine (rsnap_any s n c f a _ (by omega) (HS.out.later (by assumption))).mono ?_; rintro e w2 ⟨rfl, hb2⟩))
  all_goals
    have hh : Below w.heap.size w w2 := by (first | (rename_i h; exact h.2.2) | assumption)
    have HH := Lib.hid hh
    clear c0 c1 c2 f0 f1 f2 hB hh
    go_wp2
    go_ret
    exact ⟨ret_bool (by simp), HH.out⟩
set_option maxHeartbeats 2000000 in
theorem asked6_any (a : Int) (s sa : Option Addr) (n c ca : Nat) (f : Nat → Int) (w : World) (hn : n < 1048577) (hs : IsInts w s n f) (ha : IsInts w sa n f) :
    Calls Try.prog 43 #[.agg #[.int .i64 6, .int .i64 a, .slice s n c], .slice sa n ca] w fun e w' => e = .returned (.bool true) ∧ Below w.heap.size w w' := by
  have HS := Lib.hid hs
  have HA := Lib.hid ha
  clear hs ha
  have k1 := op_new w 6 a (.slice s n c)
  obtain ⟨⟨c0, c1, c2⟩, ⟨f0, f1, f2⟩⟩ := k1.facts
  have hB := below_one w (.cells #[.int .i64 6, .int .i64 a, .slice s n c] 40)
  clear k1
  go_enter Try.func43, Try.ntmps43
  go_wp2_with fail
  go_region_held3 (fun w' => w'.cell? ⟨w.heap.size, 1, none⟩ = some (.int .i64 a) ∧ w'.cell? ⟨w.heap.size, 2, none⟩ = some (.slice s n c) ∧ Below w.heap.size w w')
    (first | exact ⟨c1, c2, hB.drew⟩ | go_keep | (go_split_ands; exact ⟨cell_below (by assumption) hb2, cell_below (by assumption) hb2, bt (by assumption) hb2⟩))
    (first | (go_at_call 24; go_split_ands; refine (count_any sa n ca f _ (by unfold maxLen; omega) (HA.out.later (by assumption))).mono ?_; rintro e w2 ⟨rfl, hb2⟩) | (go_at_call 57; go_split_ands; refine (rcount_any s n c f _ (by omega) (HS.out.later (by assumption))).mono ?_; rintro e w2 ⟨rfl, hb2⟩))
  all_goals
    have hh : Below w.heap.size w w2 := by (first | (rename_i h; exact h.2.2) | assumption)
    have HH := Lib.hid hh
    clear c0 c1 c2 f0 f1 f2 hB hh
    go_wp2
    go_ret
    exact ⟨ret_bool (by simp), HH.out⟩
set_option maxHeartbeats 2000000 in
theorem asked7_any (a : Int) (s sa : Option Addr) (n c ca : Nat) (f : Nat → Int) (w : World) (hn : n < 1048577) (hs : IsInts w s n f) (ha : IsInts w sa n f) :
    Calls Try.prog 43 #[.agg #[.int .i64 7, .int .i64 a, .slice s n c], .slice sa n ca] w fun e w' => e = .returned (.bool true) ∧ Below w.heap.size w w' := by
  have HS := Lib.hid hs
  have HA := Lib.hid ha
  clear hs ha
  have k1 := op_new w 7 a (.slice s n c)
  obtain ⟨⟨c0, c1, c2⟩, ⟨f0, f1, f2⟩⟩ := k1.facts
  have hB := below_one w (.cells #[.int .i64 7, .int .i64 a, .slice s n c] 40)
  clear k1
  go_enter Try.func43, Try.ntmps43
  go_wp2_with fail
  go_region_held3 (fun w' => w'.cell? ⟨w.heap.size, 1, none⟩ = some (.int .i64 a) ∧ w'.cell? ⟨w.heap.size, 2, none⟩ = some (.slice s n c) ∧ Below w.heap.size w w')
    (first | exact ⟨c1, c2, hB.drew⟩ | go_keep | (go_split_ands; exact ⟨cell_below (by assumption) hb2, cell_below (by assumption) hb2, bt (by assumption) hb2⟩))
    (first | (go_at_call 25; go_split_ands; refine (column_any sa n ca f a _ (by unfold maxLen; omega) (HA.out.later (by assumption))).mono ?_; rintro e w2 ⟨rfl, hb2⟩) | (go_at_call 58; go_split_ands; refine (rcolumn_any s n c f a _ (by omega) (HS.out.later (by assumption))).mono ?_; rintro e w2 ⟨rfl, hb2⟩))
  all_goals
    have hh : Below w.heap.size w w2 := by (first | (rename_i h; exact h.2.2) | assumption)
    have HH := Lib.hid hh
    clear c0 c1 c2 f0 f1 f2 hB hh
    go_wp2
    go_ret
    exact ⟨ret_bool (by simp), HH.out⟩
set_option maxHeartbeats 2000000 in
theorem asked8_any (a : Int) (s sa : Option Addr) (n c ca : Nat) (f : Nat → Int) (w : World) (hn : n < 1048577) (hs : IsInts w s n f) (ha : IsInts w sa n f) :
    Calls Try.prog 43 #[.agg #[.int .i64 8, .int .i64 a, .slice s n c], .slice sa n ca] w fun e w' => e = .returned (.bool true) ∧ Below w.heap.size w w' := by
  have HS := Lib.hid hs
  have HA := Lib.hid ha
  clear hs ha
  have k1 := op_new w 8 a (.slice s n c)
  obtain ⟨⟨c0, c1, c2⟩, ⟨f0, f1, f2⟩⟩ := k1.facts
  have hB := below_one w (.cells #[.int .i64 8, .int .i64 a, .slice s n c] 40)
  clear k1
  go_enter Try.func43, Try.ntmps43
  go_wp2_with fail
  go_region_held3 (fun w' => w'.cell? ⟨w.heap.size, 1, none⟩ = some (.int .i64 a) ∧ w'.cell? ⟨w.heap.size, 2, none⟩ = some (.slice s n c) ∧ Below w.heap.size w w')
    (first | exact ⟨c1, c2, hB.drew⟩ | go_keep | (go_split_ands; exact ⟨cell_below (by assumption) hb2, cell_below (by assumption) hb2, bt (by assumption) hb2⟩))
    (first | (go_at_call 26; go_split_ands; refine (offset_any sa n ca f a _ (by unfold maxLen; omega) (HA.out.later (by assumption))).mono ?_; rintro e w2 ⟨rfl, hb2⟩) | (go_at_call 59; go_split_ands; refine (roffset_any s n c f a _ (by omega) (HS.out.later (by assumption))).mono ?_; rintro e w2 ⟨rfl, hb2⟩))
  all_goals
    have hh : Below w.heap.size w w2 := by (first | (rename_i h; exact h.2.2) | assumption)
    have HH := Lib.hid hh
    clear c0 c1 c2 f0 f1 f2 hB hh
    go_wp2
    go_ret
    exact ⟨ret_bool (by simp), HH.out⟩
set_option maxHeartbeats 2000000 in
theorem asked1_any (a : Int) (s sa : Option Addr) (n c ca : Nat) (f : Nat → Int) (w : World) (hn : n < 1048577) (hs : IsInts w s n f) (ha : IsInts w sa n f) :
    Calls Try.prog 43 #[.agg #[.int .i64 1, .int .i64 a, .slice s n c], .slice sa n ca] w fun e w' => e = .returned (.bool true) ∧ Below w.heap.size w w' := by
  have HS := Lib.hid hs
  have HA := Lib.hid ha
  clear hs ha
  have k1 := op_new w 1 a (.slice s n c)
  obtain ⟨⟨c0, c1, c2⟩, ⟨f0, f1, f2⟩⟩ := k1.facts
  have hB := below_one w (.cells #[.int .i64 1, .int .i64 a, .slice s n c] 40)
  have K1 := Lib.hid k1
  clear k1
  go_enter Try.func43, Try.ntmps43
  go_wp2_with fail
  have HB := Lib.hid hB
  clear hB
  refine (breaks_c sa n ca f _ (by omega) (HA.out.later HB.out)).mono ?_
  rintro e w1 ⟨sg, cg, rfl, hi, ho, hb⟩
  have HG := Lib.hid hi
  clear c0 c1 c2 f0 f1 f2
  have k1 := K1.out.below hb
  obtain ⟨⟨c0, c1, c2⟩, ⟨f0, f1, f2⟩⟩ := k1.facts
  replace HB := Lib.hid (bt HB.out hb)
  clear hi ho hb k1
  go_wp2_with fail
  refine (rbreaks_c s n c f _ (by omega) (HS.out.later HB.out)).mono ?_
  rintro e w2 ⟨sr, cr, rfl, hi, hb⟩
  have HI := Lib.hid hi
  replace HG := Lib.hid (HG.out.later hb)
  replace HB := Lib.hid (bt HB.out hb)
  have hbn := bn_bd f n
  clear hi hb c0 c1 c2 f0 f1 f2
  go_wp2_with fail
  refine (same_any sg sr (bn f n) cg (bn f n) cr (bf f n) (bf f n) _ (by unfold maxLen; omega) (by unfold maxLen; omega) HG.out HI.out).mono ?_
  rintro e w3 ⟨rfl, hb⟩
  rw [sameB_refl]
  replace HB := Lib.hid (bt HB.out hb)
  clear hb
  go_wp2
  go_ret
  exact ⟨rfl, HB.out⟩
set_option maxHeartbeats 2000000 in
theorem asked_other (k a : Int) (s sa : Option Addr) (n c ca : Nat) (w : World) (hk : k < 1 ∨ 8 < k) :
    Calls Try.prog 43 #[.agg #[.int .i64 k, .int .i64 a, .slice s n c], .slice sa n ca] w fun e w' => e = .returned (.bool true) ∧ Below w.heap.size w w' := by
  have b1 : (k == 1) = false := by simp; omega
  have b2 : (k == 2) = false := by simp; omega
  have b3 : (k == 3) = false := by simp; omega
  have b4 : (k == 4) = false := by simp; omega
  have b5 : (k == 5) = false := by simp; omega
  have b6 : (k == 6) = false := by simp; omega
  have b7 : (k == 7) = false := by simp; omega
  have b8 : (k == 8) = false := by simp; omega
  clear hk
  go_enter Try.func43, Try.ntmps43
  go_wp2
  go_ret
  exact ⟨rfl, below_one _ _⟩
theorem asked_any (k a : Int) (s sa : Option Addr) (n c ca : Nat) (f : Nat → Int) (w : World) (hn : n < 1048577) (hs : IsInts w s n f) (ha : IsInts w sa n f) :
    Calls Try.prog 43 #[.agg #[.int .i64 k, .int .i64 a, .slice s n c], .slice sa n ca] w fun e w' => e = .returned (.bool true) ∧ Below w.heap.size w w' := by
  by_cases ho : k < 1 ∨ 8 < k
  · exact asked_other k a s sa n c ca w ho
  · have hc : k = 1 ∨ k = 2 ∨ k = 3 ∨ k = 4 ∨ k = 5 ∨ k = 6 ∨ k = 7 ∨ k = 8 := by omega
    rcases hc with rfl | rfl | rfl | rfl | rfl | rfl | rfl | rfl
    · exact asked1_any a s sa n c ca f w hn hs ha
    · exact asked2_any a s sa n c ca f w hn hs ha
    · exact asked3_any a s sa n c ca f w hn hs ha
    · exact asked4_any a s sa n c ca f w hn hs ha
    · exact asked5_any a s sa n c ca f w hn hs ha
    · exact asked6_any a s sa n c ca f w hn hs ha
    · exact asked7_any a s sa n c ca f w hn hs ha
    · exact asked8_any a s sa n c ca f w hn hs ha
set_option maxHeartbeats 2000000 in
theorem played_any (k a : Int) (s : Option Addr) (n c : Nat) (f : Nat → Int) (w : World) (hn : n < 1048577) (hs : IsInts w s n f) :
    Calls Try.prog 29 #[.agg #[.int .i64 k, .int .i64 a, .slice s n c]] w fun e w' => e = .returned (.bool true) ∧ Below w.heap.size w w' := by
  have HS := Lib.hid hs
  clear hs
  have k1 := op_new w k a (.slice s n c)
  have K1 := Lib.hid k1
  obtain ⟨⟨c0, c1, c2⟩, ⟨f0, f1, f2⟩⟩ := k1.facts
  have HB := Lib.hid (below_one w (.cells #[.int .i64 k, .int .i64 a, .slice s n c] 40))
  clear k1
  go_enter Try.func29, Try.ntmps29
  go_wp2_with fail
  refine (copied_c s n c f _ (by omega) (HS.out.later HB.out)).mono ?_
  rintro e w1 ⟨sa, ca, rfl, hi, hc, ho, hb⟩
  have HA := Lib.hid hi
  clear c0 c1 c2 f0 f1 f2
  have k1 := K1.out.below hb
  obtain ⟨⟨c0, c1, c2⟩, ⟨f0, f1, f2⟩⟩ := k1.facts
  replace K1 := Lib.hid k1
  replace HB := Lib.hid (bt HB.out hb)
  clear hi ho hb k1 hc
  go_wp2_with fail
  refine (asked_any k a s sa n c ca f _ hn (HS.out.later HB.out) HA.out).mono ?_
  rintro e w2 ⟨rfl, hb⟩
  clear c0 c1 c2 f0 f1 f2
  have k1 := K1.out.below hb
  obtain ⟨⟨c0, c1, c2⟩, ⟨f0, f1, f2⟩⟩ := k1.facts
  replace HA := Lib.hid (HA.out.later hb)
  replace HB := Lib.hid (bt HB.out hb)
  clear hb k1 K1
  go_wp2_with fail
  refine (same_any sa s n ca n c f f _ (by unfold maxLen; omega) (by unfold maxLen; omega) HA.out (HS.out.later HB.out)).mono ?_
  rintro e w3 ⟨rfl, hb⟩
  rw [sameB_refl]
  replace HB := Lib.hid (bt HB.out hb)
  clear hb c0 c1 c2 f0 f1 f2
  go_wp2
  go_ret
  exact ⟨rfl, HB.out⟩
end Go.Proofs.Ytpipcmbfdcbboaa
