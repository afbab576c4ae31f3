/- Contracts: glyph.Upper, Lower, Turn, in a world in which the three table variables hold what the text lays. -/
import Derived.Test.YtdegdoilpamjjaaDoorUa
import Derived.Test.YtdegdoilpamjjaaDoorGd
import Derived.Test.YtdegdoilpamjjaaDoorBa
import Derived.Laws.Rows
namespace Go.Proofs.YtdegdoilpamjjaaDoor
open Go.RowKit
/-- the three variables hold their tables -/
def Tabs (w : World) : Prop :=
  (∃ t f, w.heap[0]? = some (.cells (i64s oneWayL) t f)) ∧ (∃ t f, w.heap[1]? = some (.cells (i64s distancesL) t f)) ∧ (∃ t f, w.heap[2]? = some (.cells (i64s pairsL) t f))
theorem Tabs.later {w w1 : World} (h : Tabs w) (hb : Below w.heap.size w w1) : Tabs w1 := by
  obtain ⟨⟨t0, f0, h0⟩, ⟨t1, f1, h1⟩, ⟨t2, f2, h2⟩⟩ := h
  exact ⟨⟨t0, f0, (hb.block _ (heap_lt h0)).trans h0⟩, ⟨t1, f1, (hb.block _ (heap_lt h1)).trans h1⟩, ⟨t2, f2, (hb.block _ (heap_lt h2)).trans h2⟩⟩
theorem ext3 (l : List Int) (k : Nat) (h : k * 3 + 2 < l.length) : (i64s l).extract (k * 3) (k * 3 + 3) = #[.int .i64 (l.getD (k * 3) 0), .int .i64 (l.getD (k * 3 + 1) 0), .int .i64 (l.getD (k * 3 + 2) 0)] := by
  apply Array.ext
  · simp [i64s]; omega
  · intro i h1 h2
    have h3 : i = 0 ∨ i = 1 ∨ i = 2 := by simp at h2; omega
    rcases h3 with rfl | rfl | rfl <;> simp [i64s, List.getD_eq_getElem?_getD, List.getElem?_eq_getElem (show k * 3 < l.length by omega), List.getElem?_eq_getElem (show k * 3 + 1 < l.length by omega), List.getElem?_eq_getElem h]
theorem ext2 (l : List Int) (k : Nat) (h : k * 2 + 1 < l.length) : (i64s l).extract (k * 2) (k * 2 + 2) = #[.int .i64 (l.getD (k * 2) 0), .int .i64 (l.getD (k * 2 + 1) 0)] := by
  apply Array.ext
  · simp [i64s]; omega
  · intro i h1 h2
    have h3 : i = 0 ∨ i = 1 := by simp at h2; omega
    rcases h3 with rfl | rfl <;> simp [i64s, List.getD_eq_getElem?_getD, List.getElem?_eq_getElem (show k * 2 < l.length by omega), List.getElem?_eq_getElem h]
theorem run_index_row {t e : TypeId} {n m : Nat} (ht : Tryd.prog.underlying t = some (.array n e)) (he : ∃ q c, Tryd.prog.underlying e = some (.array q c)) (hs : (Tryd.prog.info? e).map (·.size) = some m)
    (cs : Array Value) (k : Nat) (hk : k < n) (w : World) : (Instr.index t (.agg cs) (.int .i64 k)).run Tryd.prog w = .ok (.agg (cs.extract (k * m) (k * m + m))) w := by
  obtain ⟨q, c, he⟩ := he
  cases hq : Tryd.prog.info? e with
  | none => simp [hq] at hs
  | some i =>
    have hi : i.size = m := by simpa [hq] using hs
    have hagg : (isAgg e).run Tryd.prog w = .ok true w := by
      unfold isAgg
      rw [Sem.run_bind, run_underlying he w]
      simp
    have hsz : (sizeOf e).run Tryd.prog w = .ok m w := by simp [sizeOf, typeInfo, hq, hi]
    simp [Instr.index, asIntOf, run_underlying ht, hk, part, hagg, hsz]
theorem ix_one (k : Nat) (hk : k < 9) (w : World) : (Instr.index 148 (.agg (i64s oneWayL)) (.int .i64 k)).run Tryd.prog w = .ok (.agg #[.int .i64 (L0 (k * 3)), .int .i64 (L0 (k * 3 + 1)), .int .i64 (L0 (k * 3 + 2))]) w := by
  rw [run_index_row Tryd.underlying148 ⟨_, _, Tryd.underlying147⟩ (m := 3) (by kernel_rfl) _ k hk w, ext3 _ k (by have : oneWayL.length = 27 := rfl; omega)]; rfl
theorem ix_dist (k : Nat) (hk : k < 19) (w : World) : (Instr.index 149 (.agg (i64s distancesL)) (.int .i64 k)).run Tryd.prog w = .ok (.agg #[.int .i64 (L1 (k * 3)), .int .i64 (L1 (k * 3 + 1)), .int .i64 (L1 (k * 3 + 2))]) w := by
  rw [run_index_row Tryd.underlying149 ⟨_, _, Tryd.underlying147⟩ (m := 3) (by kernel_rfl) _ k hk w, ext3 _ k (by have : distancesL.length = 57 := rfl; omega)]; rfl
theorem ix_pair (k : Nat) (hk : k < 19) (w : World) : (Instr.index 151 (.agg (i64s pairsL)) (.int .i64 k)).run Tryd.prog w = .ok (.agg #[.int .i64 (L2 (k * 2)), .int .i64 (L2 (k * 2 + 1))]) w := by
  rw [run_index_row Tryd.underlying151 ⟨_, _, Tryd.underlying150⟩ (m := 2) (by kernel_rfl) _ k hk w, ext2 _ k (by have : pairsL.length = 38 := rfl; omega)]; rfl
set_option maxRecDepth 100000 in
set_option maxHeartbeats 8000000 in
theorem great_any (a : Int) (h0 : 0 ≤ a) (h1 : a ≤ 1114111) (w : World) (ht : Tabs w) :
    Calls Tryd.prog 73 #[.int .i64 a] w fun e w' => e = .returned (.int .i64 (greatF a)) ∧ Below w.heap.size w w' := by
  have HT := Lib.hid ht
  obtain ⟨t0, f0, e0⟩ := ht.1
  clear ht
  have E0 := Lib.hid e0
  clear e0
  go_enter Tryd.func73, Tryd.ntmps73
  go_wp2_with (refine wpList_load_row rfl 148 _ rfl 0 rfl _ _ _ _ E0.out Tryd.underlying148 rfl (by kernel_rfl) ?_)
  go_loopg [11] 9 (fun g i wr => ∃ k : Nat, k ≤ 9 ∧ g = 9 - k ∧ i = .int .i64 k ∧ Below w.heap.size w wr ∧ seek (one0 a) (9 - k) k = seek (one0 a) 9 0)
  case atStart => exact ⟨0, by omega, by omega, rfl, Below.refl _ _, rfl⟩
  case round =>
    obtain ⟨k, hk, rfl, rfl, hb, hs⟩ := hrel
    have HB := Lib.hid hb
    have HS := Lib.hid hs
    clear hb hs
    by_cases hlt : k < 9
    · have hix := ix_one k hlt
      obtain ⟨x, hx⟩ : ∃ x, L0 (k * 3) = x := ⟨_, rfl⟩
      obtain ⟨y, hy⟩ : ∃ y, L0 (k * 3 + 1) = y := ⟨_, rfl⟩
      obtain ⟨z, hz⟩ : ∃ z, L0 (k * 3 + 2) = z := ⟨_, rfl⟩
      rw [hx, hy, hz] at hix
      have HX := Lib.hid hx
      have HY := Lib.hid hy
      have HZ := Lib.hid hz
      clear hx hy hz
      cases hq : (x == a)
      · have HQ := Lib.hid hq
        go_wp2
        go_roundg (9 - (k + 1))
        case measure => omega
        case rel =>
          refine ⟨k + 1, by omega, rfl, by go_num, HB.out.alloc HB.out.size _, ?_⟩
          rw [← HS.out, seek_miss hlt (by unfold one0; rw [HX.out]; exact HQ.out)]
      · have HQ := Lib.hid hq
        go_wp2
        go_ret
        exact ⟨ret_int (by rw [greatF_one (k := k) (by rw [← HS.out]; exact seek_hit hlt (by unfold one0; rw [HX.out]; exact HQ.out)), HY.out]), HB.out.alloc HB.out.size _⟩
    · obtain rfl : k = 9 := by omega
      have HN0 := Lib.hid (show seek (one0 a) 9 0 = none from HS.out.symm.trans seek_end)
      have HB0 := HB
      clear HS hlt hk HB
      obtain ⟨t1, f1, e1⟩ := (HT.out.later HB0.out).2.1
      have E1 := Lib.hid e1
      clear e1
      go_wp2_with (refine wpList_load_row rfl 149 _ rfl 1 rfl _ _ _ _ E1.out Tryd.underlying149 rfl (by kernel_rfl) ?_)
      go_loopg [22] 19 (fun g i wr => ∃ k : Nat, k ≤ 19 ∧ g = 19 - k ∧ i = .int .i64 k ∧ Below w.heap.size w wr ∧ seek (dist1 a) (19 - k) k = seek (dist1 a) 19 0)
      case atStart => exact ⟨0, by omega, by omega, rfl, HB0.out, rfl⟩
      case round =>
        obtain ⟨k, hk, rfl, rfl, hb, hs⟩ := hrel
        have HB := Lib.hid hb
        have HS := Lib.hid hs
        clear hb hs
        by_cases hlt : k < 19
        · have hix := ix_dist k hlt
          have hzb := L1_bd (k * 3 + 2)
          obtain ⟨x, hx⟩ : ∃ x, L1 (k * 3) = x := ⟨_, rfl⟩
          obtain ⟨y, hy⟩ : ∃ y, L1 (k * 3 + 1) = y := ⟨_, rfl⟩
          obtain ⟨z, hz⟩ : ∃ z, L1 (k * 3 + 2) = z := ⟨_, rfl⟩
          rw [hx, hy, hz] at hix
          rw [hz] at hzb
          have HX := Lib.hid hx
          have HY := Lib.hid hy
          have HZ := Lib.hid hz
          clear hx hy hz
          by_cases h3 : x ≤ a - z
          · by_cases h4 : a - z ≤ y
            · have H3 := Lib.hid h3
              have H4 := Lib.hid h4
              go_wp2
              go_ret
              exact ⟨ret_int (by rw [greatF_dist (k := k) HN0.out (by rw [← HS.out]; exact seek_hit hlt (by unfold dist1; rw [HX.out, HY.out, HZ.out]; simp [H3.out, H4.out])), HZ.out]), HB.out.alloc HB.out.size _⟩
            · have H4 := Lib.hid h4
              go_wp2
              go_roundg (19 - (k + 1))
              case measure => omega
              case rel =>
                refine ⟨k + 1, by omega, rfl, by go_num, HB.out.alloc HB.out.size _, ?_⟩
                rw [← HS.out, seek_miss hlt (by unfold dist1; rw [HX.out, HY.out, HZ.out]; simp only [decide_eq_false (Int.not_le.2 H4.out), Bool.and_false])]
          · have H3 := Lib.hid h3
            go_wp2
            go_roundg (19 - (k + 1))
            case measure => omega
            case rel =>
              refine ⟨k + 1, by omega, rfl, by go_num, HB.out.alloc HB.out.size _, ?_⟩
              rw [← HS.out, seek_miss hlt (by unfold dist1; rw [HX.out, HY.out, HZ.out]; simp only [decide_eq_false (Int.not_le.2 H3.out), Bool.false_and])]
        · obtain rfl : k = 19 := by omega
          have HN1 := Lib.hid (show seek (dist1 a) 19 0 = none from HS.out.symm.trans seek_end)
          have HB1 := HB
          clear HS hlt hk HB
          obtain ⟨t2, f2, e2⟩ := (HT.out.later HB1.out).2.2
          have E2 := Lib.hid e2
          clear e2
          go_wp2_with (refine wpList_load_row rfl 151 _ rfl 2 rfl _ _ _ _ E2.out Tryd.underlying151 rfl (by kernel_rfl) ?_)
          go_loopg [42] 19 (fun g i wr => ∃ k : Nat, k ≤ 19 ∧ g = 19 - k ∧ i = .int .i64 k ∧ Below w.heap.size w wr ∧ seek (pair1 a) (19 - k) k = seek (pair1 a) 19 0)
          case atStart => exact ⟨0, by omega, by omega, rfl, HB1.out, rfl⟩
          case round =>
            obtain ⟨k, hk, rfl, rfl, hb, hs⟩ := hrel
            have HB := Lib.hid hb
            have HS := Lib.hid hs
            clear hb hs
            by_cases hlt : k < 19
            · have hix := ix_pair k hlt
              have hxb := L2_bd (k * 2)
              obtain ⟨x, hx⟩ : ∃ x, L2 (k * 2) = x := ⟨_, rfl⟩
              obtain ⟨y, hy⟩ : ∃ y, L2 (k * 2 + 1) = y := ⟨_, rfl⟩
              rw [hx, hy] at hix
              rw [hx] at hxb
              have HX := Lib.hid hx
              have HY := Lib.hid hy
              clear hx hy
              by_cases h3 : x ≤ a
              · by_cases h4 : a ≤ y
                · cases h5 : ((a - x) % 2 == 1)
                  · have H5 := Lib.hid h5
                    go_wp2
                    go_roundg (19 - (k + 1))
                    case measure => omega
                    case rel =>
                      refine ⟨k + 1, by omega, rfl, by go_num, HB.out.alloc HB.out.size _, ?_⟩
                      rw [← HS.out, seek_miss hlt (by unfold pair1; rw [HX.out, HY.out, H5.out, Bool.and_false])]
                  · have H5 := Lib.hid h5
                    have H3 := Lib.hid h3
                    have H4 := Lib.hid h4
                    go_wp2
                    go_ret
                    exact ⟨ret_int (by rw [greatF_pair (k := k) HN0.out HN1.out (by rw [← HS.out]; exact seek_hit hlt (by unfold pair1; rw [HX.out, HY.out, H5.out]; simp [H3.out, H4.out]))]), HB.out.alloc HB.out.size _⟩
                · have H4 := Lib.hid h4
                  go_wp2
                  go_roundg (19 - (k + 1))
                  case measure => omega
                  case rel =>
                    refine ⟨k + 1, by omega, rfl, by go_num, HB.out.alloc HB.out.size _, ?_⟩
                    rw [← HS.out, seek_miss hlt (by unfold pair1; rw [HX.out, HY.out]; simp only [decide_eq_false (Int.not_le.2 H4.out), Bool.and_false, Bool.false_and])]
              · have H3 := Lib.hid h3
                go_wp2
                go_roundg (19 - (k + 1))
                case measure => omega
                case rel =>
                  refine ⟨k + 1, by omega, rfl, by go_num, HB.out.alloc HB.out.size _, ?_⟩
                  rw [← HS.out, seek_miss hlt (by unfold pair1; rw [HX.out, HY.out]; simp only [decide_eq_false (Int.not_le.2 H3.out), Bool.false_and])]
            · obtain rfl : k = 19 := by omega
              have HN2 := Lib.hid (show seek (pair1 a) 19 0 = none from HS.out.symm.trans seek_end)
              go_wp2
              go_ret
              exact ⟨ret_int (by rw [greatF_none HN0.out HN1.out HN2.out]), HB.out⟩
set_option maxRecDepth 100000 in
set_option maxHeartbeats 8000000 in
theorem small_any (a : Int) (h0 : 0 ≤ a) (h1 : a ≤ 1114111) (w : World) (ht : Tabs w) :
    Calls Tryd.prog 74 #[.int .i64 a] w fun e w' => e = .returned (.int .i64 (smallF a)) ∧ Below w.heap.size w w' := by
  have HT := Lib.hid ht
  obtain ⟨t0, f0, e0⟩ := ht.1
  clear ht
  have E0 := Lib.hid e0
  clear e0
  go_enter Tryd.func74, Tryd.ntmps74
  go_wp2_with (refine wpList_load_row rfl 148 _ rfl 0 rfl _ _ _ _ E0.out Tryd.underlying148 rfl (by kernel_rfl) ?_)
  go_loopg [10] 9 (fun g i wr => ∃ k : Nat, k ≤ 9 ∧ g = 9 - k ∧ i = .int .i64 k ∧ Below w.heap.size w wr ∧ seek (one0 a) (9 - k) k = seek (one0 a) 9 0)
  case atStart => exact ⟨0, by omega, by omega, rfl, Below.refl _ _, rfl⟩
  case round =>
    obtain ⟨k, hk, rfl, rfl, hb, hs⟩ := hrel
    have HB := Lib.hid hb
    have HS := Lib.hid hs
    clear hb hs
    by_cases hlt : k < 9
    · have hix := ix_one k hlt
      obtain ⟨x, hx⟩ : ∃ x, L0 (k * 3) = x := ⟨_, rfl⟩
      obtain ⟨y, hy⟩ : ∃ y, L0 (k * 3 + 1) = y := ⟨_, rfl⟩
      obtain ⟨z, hz⟩ : ∃ z, L0 (k * 3 + 2) = z := ⟨_, rfl⟩
      rw [hx, hy, hz] at hix
      have HX := Lib.hid hx
      have HY := Lib.hid hy
      have HZ := Lib.hid hz
      clear hx hy hz
      cases hq : (x == a)
      · have HQ := Lib.hid hq
        go_wp2
        go_roundg (9 - (k + 1))
        case measure => omega
        case rel =>
          refine ⟨k + 1, by omega, rfl, by go_num, HB.out.alloc HB.out.size _, ?_⟩
          rw [← HS.out, seek_miss hlt (by unfold one0; rw [HX.out]; exact HQ.out)]
      · have HQ := Lib.hid hq
        go_wp2
        go_ret
        exact ⟨ret_int (by rw [smallF_one (k := k) (by rw [← HS.out]; exact seek_hit hlt (by unfold one0; rw [HX.out]; exact HQ.out)), HZ.out]), HB.out.alloc HB.out.size _⟩
    · obtain rfl : k = 9 := by omega
      have HN0 := Lib.hid (show seek (one0 a) 9 0 = none from HS.out.symm.trans seek_end)
      have HB0 := HB
      clear HS hlt hk HB
      obtain ⟨t1, f1, e1⟩ := (HT.out.later HB0.out).2.1
      have E1 := Lib.hid e1
      clear e1
      go_wp2_with (refine wpList_load_row rfl 149 _ rfl 1 rfl _ _ _ _ E1.out Tryd.underlying149 rfl (by kernel_rfl) ?_)
      go_loopg [21] 19 (fun g i wr => ∃ k : Nat, k ≤ 19 ∧ g = 19 - k ∧ i = .int .i64 k ∧ Below w.heap.size w wr ∧ seek (dist2 a) (19 - k) k = seek (dist2 a) 19 0)
      case atStart => exact ⟨0, by omega, by omega, rfl, HB0.out, rfl⟩
      case round =>
        obtain ⟨k, hk, rfl, rfl, hb, hs⟩ := hrel
        have HB := Lib.hid hb
        have HS := Lib.hid hs
        clear hb hs
        by_cases hlt : k < 19
        · have hix := ix_dist k hlt
          have hzb := L1_bd (k * 3 + 2)
          obtain ⟨x, hx⟩ : ∃ x, L1 (k * 3) = x := ⟨_, rfl⟩
          obtain ⟨y, hy⟩ : ∃ y, L1 (k * 3 + 1) = y := ⟨_, rfl⟩
          obtain ⟨z, hz⟩ : ∃ z, L1 (k * 3 + 2) = z := ⟨_, rfl⟩
          rw [hx, hy, hz] at hix
          rw [hz] at hzb
          have HX := Lib.hid hx
          have HY := Lib.hid hy
          have HZ := Lib.hid hz
          clear hx hy hz
          by_cases h3 : x ≤ a
          · by_cases h4 : a ≤ y
            · have H3 := Lib.hid h3
              have H4 := Lib.hid h4
              go_wp2
              go_ret
              exact ⟨ret_int (by rw [smallF_dist (k := k) HN0.out (by rw [← HS.out]; exact seek_hit hlt (by unfold dist2; rw [HX.out, HY.out]; simp [H3.out, H4.out])), HZ.out]), HB.out.alloc HB.out.size _⟩
            · have H4 := Lib.hid h4
              go_wp2
              go_roundg (19 - (k + 1))
              case measure => omega
              case rel =>
                refine ⟨k + 1, by omega, rfl, by go_num, HB.out.alloc HB.out.size _, ?_⟩
                rw [← HS.out, seek_miss hlt (by unfold dist2; rw [HX.out, HY.out]; simp only [decide_eq_false (Int.not_le.2 H4.out), Bool.and_false])]
          · have H3 := Lib.hid h3
            go_wp2
            go_roundg (19 - (k + 1))
            case measure => omega
            case rel =>
              refine ⟨k + 1, by omega, rfl, by go_num, HB.out.alloc HB.out.size _, ?_⟩
              rw [← HS.out, seek_miss hlt (by unfold dist2; rw [HX.out, HY.out]; simp only [decide_eq_false (Int.not_le.2 H3.out), Bool.false_and])]
        · obtain rfl : k = 19 := by omega
          have HN1 := Lib.hid (show seek (dist2 a) 19 0 = none from HS.out.symm.trans seek_end)
          have HB1 := HB
          clear HS hlt hk HB
          obtain ⟨t2, f2, e2⟩ := (HT.out.later HB1.out).2.2
          have E2 := Lib.hid e2
          clear e2
          go_wp2_with (refine wpList_load_row rfl 151 _ rfl 2 rfl _ _ _ _ E2.out Tryd.underlying151 rfl (by kernel_rfl) ?_)
          go_loopg [40] 19 (fun g i wr => ∃ k : Nat, k ≤ 19 ∧ g = 19 - k ∧ i = .int .i64 k ∧ Below w.heap.size w wr ∧ seek (pair2 a) (19 - k) k = seek (pair2 a) 19 0)
          case atStart => exact ⟨0, by omega, by omega, rfl, HB1.out, rfl⟩
          case round =>
            obtain ⟨k, hk, rfl, rfl, hb, hs⟩ := hrel
            have HB := Lib.hid hb
            have HS := Lib.hid hs
            clear hb hs
            by_cases hlt : k < 19
            · have hix := ix_pair k hlt
              have hxb := L2_bd (k * 2)
              obtain ⟨x, hx⟩ : ∃ x, L2 (k * 2) = x := ⟨_, rfl⟩
              obtain ⟨y, hy⟩ : ∃ y, L2 (k * 2 + 1) = y := ⟨_, rfl⟩
              rw [hx, hy] at hix
              rw [hx] at hxb
              have HX := Lib.hid hx
              have HY := Lib.hid hy
              clear hx hy
              by_cases h3 : x ≤ a
              · by_cases h4 : a ≤ y
                · cases h5 : ((a - x) % 2 == 0)
                  · have H5 := Lib.hid h5
                    go_wp2
                    go_roundg (19 - (k + 1))
                    case measure => omega
                    case rel =>
                      refine ⟨k + 1, by omega, rfl, by go_num, HB.out.alloc HB.out.size _, ?_⟩
                      rw [← HS.out, seek_miss hlt (by unfold pair2; rw [HX.out, HY.out, H5.out, Bool.and_false])]
                  · have H5 := Lib.hid h5
                    have H3 := Lib.hid h3
                    have H4 := Lib.hid h4
                    go_wp2
                    go_ret
                    exact ⟨ret_int (by rw [smallF_pair (k := k) HN0.out HN1.out (by rw [← HS.out]; exact seek_hit hlt (by unfold pair2; rw [HX.out, HY.out, H5.out]; simp [H3.out, H4.out]))]), HB.out.alloc HB.out.size _⟩
                · have H4 := Lib.hid h4
                  go_wp2
                  go_roundg (19 - (k + 1))
                  case measure => omega
                  case rel =>
                    refine ⟨k + 1, by omega, rfl, by go_num, HB.out.alloc HB.out.size _, ?_⟩
                    rw [← HS.out, seek_miss hlt (by unfold pair2; rw [HX.out, HY.out]; simp only [decide_eq_false (Int.not_le.2 H4.out), Bool.and_false, Bool.false_and])]
              · have H3 := Lib.hid h3
                go_wp2
                go_roundg (19 - (k + 1))
                case measure => omega
                case rel =>
                  refine ⟨k + 1, by omega, rfl, by go_num, HB.out.alloc HB.out.size _, ?_⟩
                  rw [← HS.out, seek_miss hlt (by unfold pair2; rw [HX.out, HY.out]; simp only [decide_eq_false (Int.not_le.2 H3.out), Bool.false_and])]
            · obtain rfl : k = 19 := by omega
              have HN2 := Lib.hid (show seek (pair2 a) 19 0 = none from HS.out.symm.trans seek_end)
              go_wp2
              go_ret
              exact ⟨ret_int (by rw [smallF_none HN0.out HN1.out HN2.out]), HB.out⟩
set_option maxHeartbeats 1000000 in
theorem upper_any (a : Int) (w : World) (ht : Tabs w) :
    Calls Tryd.prog 56 #[.int .i64 a] w fun e w' => e = .returned (.int .i64 (upperF a)) ∧ Below w.heap.size w w' := by
  have HT := Lib.hid ht
  clear ht
  cases h : scalarB a
  · have H := Lib.hid h
    go_enter Tryd.func56, Tryd.ntmps56
    go_wp2_with fail
    refine (scalar_any _ _).mono ?_
    rintro e w' ⟨rfl, rfl⟩
    go_wp2
    go_ret
    exact ⟨ret_int (by unfold upperF; rw [H.out]; rfl), Below.refl _ _⟩
  · have H := Lib.hid h
    have hb0 := scalar_bd h
    go_enter Tryd.func56, Tryd.ntmps56
    go_wp2_with fail
    refine (scalar_any _ _).mono ?_
    rintro e w' ⟨rfl, rfl⟩
    go_wp2_with fail
    refine (great_any _ hb0.1 hb0.2 _ HT.out).mono ?_
    rintro e w1 ⟨rfl, hb1⟩
    have HB1 := Lib.hid (hb1)
    clear hb1
    go_wp2
    go_ret
    exact ⟨ret_int (by unfold upperF; rw [H.out]; rfl), HB1.out⟩
set_option maxHeartbeats 1000000 in
theorem lower_any (a : Int) (w : World) (ht : Tabs w) :
    Calls Tryd.prog 57 #[.int .i64 a] w fun e w' => e = .returned (.int .i64 (lowerF a)) ∧ Below w.heap.size w w' := by
  have HT := Lib.hid ht
  clear ht
  cases h : scalarB a
  · have H := Lib.hid h
    go_enter Tryd.func57, Tryd.ntmps57
    go_wp2_with fail
    refine (scalar_any _ _).mono ?_
    rintro e w' ⟨rfl, rfl⟩
    go_wp2
    go_ret
    exact ⟨ret_int (by unfold lowerF; rw [H.out]; rfl), Below.refl _ _⟩
  · have H := Lib.hid h
    have hb0 := scalar_bd h
    go_enter Tryd.func57, Tryd.ntmps57
    go_wp2_with fail
    refine (scalar_any _ _).mono ?_
    rintro e w' ⟨rfl, rfl⟩
    go_wp2_with fail
    refine (small_any _ hb0.1 hb0.2 _ HT.out).mono ?_
    rintro e w1 ⟨rfl, hb1⟩
    have HB1 := Lib.hid (hb1)
    clear hb1
    go_wp2
    go_ret
    exact ⟨ret_int (by unfold lowerF; rw [H.out]; rfl), HB1.out⟩
end Go.Proofs.YtdegdoilpamjjaaDoor
