/- What the row tells of the tables: the table variables hold what the text lays. -/
import Derived.Test.YtdegdoilpamjjaaDoorUb
import Derived.Test.YtdegdoilpamjjaaDoorWit
import Derived.Lib.LaidTab
namespace Go.Proofs.YtdegdoilpamjjaaDoor
open Go.RowKit Go.ChangeShapes
def distR : List (List Int) := [[65, 90, 32], [192, 214, 32], [216, 222, 32], [904, 906, 37], [913, 929, 32], [931, 939, 32], [1024, 1039, 80], [1040, 1071, 32], [1329, 1366, 48], [8544, 8559, 16], [9398, 9423, 26], [65313, 65338, 32], [66560, 66599, 40], [376, 376, -121], [902, 902, 38], [908, 908, 64], [910, 911, 63], [975, 975, 8], [1216, 1216, 15]]
def pairR : List (List Int) := [[256, 303], [306, 311], [313, 328], [330, 375], [377, 382], [461, 476], [478, 495], [504, 543], [546, 563], [582, 591], [880, 883], [886, 887], [984, 1007], [1120, 1153], [1162, 1215], [1217, 1230], [1232, 1327], [7680, 7829], [7840, 7935]]
def oneR : List (List Int) := [[181, 924, 181], [305, 73, 305], [383, 83, 383], [962, 931, 962], [304, 304, 105], [7838, 7838, 223], [8486, 8486, 969], [8490, 8490, 107], [8491, 8491, 229]]
theorem rows_cells (c : Nat) : ∀ (rows : List (List Int)) (cs : List Value), cs.length = rows.length * c → (∀ i (h : i < rows.length), (cs.drop (i * c)).take c = (rows[i]).map fun z => Value.int .i64 z) → cs = rows.flatten.map fun z => Value.int .i64 z := by
  intro rows
  induction rows with
  | nil => intro cs h _; simp at h; simp [h]
  | cons r rows ih =>
    intro cs h hi
    have h0 := hi 0 (by simp)
    have hr := ih (cs.drop c) (by simp only [List.length_drop, h, List.length_cons, Nat.add_mul]; omega) (fun i hlt => by
      have := hi (i + 1) (by simpa using hlt)
      rw [List.drop_drop]
      simpa [Nat.add_mul, Nat.add_comm] using this)
    have e := (List.take_append_drop c cs).symm
    rw [e, hr]
    simp only [Nat.zero_mul, List.drop_zero] at h0
    rw [h0]
    simp
/-- an array of arrays of ints that reads as rows holds the rows, cell for cell -/
theorem cells_of_rows {H : Type} {enc : TypeId × Value → H} {w : World} {base : Nat} {sp : Nat → Bool} {held : Bool} {fuel : Nat} {t e : TypeId} {n m : Nat} {cs : List Value} {rows : List (List Int)} {p : List MemPlace}
    (ht : Tryd.prog.underlying t = some (.array n e)) (he : Tryd.prog.underlying e = some (.array m 3)) (hce : Tryd.prog.cellsOf e = m) (hct : Tryd.prog.cellsOf t = n * m)
    (h : DataW.trod enc Tryd.prog w base sp held fuel t cs = some (.agg (rows.map (Lib.tabData .i64)), p)) : cs = rows.flatten.map fun z => Value.int .i64 z := by
  obtain ⟨xs, k, _, hx, hl, hxl, hi⟩ := DataW.trod_array ht h
  have hx1 : xs.map (·.1) = rows.map (Lib.tabData .i64) := by
    have := congrArg Prod.fst hx
    simpa using this.symm
  have hrl : rows.length = n := by have := congrArg List.length hx1; simp at this; omega
  refine rows_cells m rows cs (by rw [hl, hct, hrl]) fun i hlt => ?_
  have h1 := hi i (by omega)
  rw [hce] at h1
  have h2 : xs[i]? = some (Lib.tabData .i64 rows[i], (xs[i]'(by omega)).2) := by
    have h3 : (xs.map (·.1))[i]? = (rows.map (Lib.tabData .i64))[i]? := by rw [hx1]
    rw [List.getElem?_map, List.getElem?_map, List.getElem?_eq_getElem hlt, List.getElem?_eq_getElem (show i < xs.length by omega)] at h3
    rw [List.getElem?_eq_getElem (show i < xs.length by omega)]
    simp at h3
    rw [← h3]
  rw [h2] at h1
  exact Lib.cells_of_tab he Tryd.underlying3 (by kernel_rfl) hce h1
theorem var_heap {W : World} {n : String} {g : Nat} {cs : Array Value} (hg : Tryd.prog.globalNamed n = some g) (h : W.var? Tryd.prog n = some cs) : ∃ t f, W.heap[g]? = some (.cells cs t f) := by
  simp only [World.var?, hg, Option.bind_some] at h
  split at h
  · rename_i c t f he; simp at h; subst h; exact ⟨_, _, he⟩
  · cases h
theorem tabs_of_laid {W : World} (h : laidMetH Tryd.prog Rows.patternFillUptoRow.laid W) : Tabs W := by
  obtain ⟨ps, ⟨g1, t1, c1, u1, p1, q1, hg1, ht1, hv1, hd1, ⟨g2, t2, c2, u2, p2, q2, hg2, ht2, hv2, hd2, ⟨g3, t3, c3, u3, p3, q3, hg3, ht3, hv3, hd3, _, _⟩, _⟩, _⟩, _⟩ := h
  obtain rfl : 1 = g1 := Option.some.inj ((show Tryd.prog.globalNamed _ = some 1 by kernel_rfl).symm.trans hg1)
  obtain rfl : 2 = g2 := Option.some.inj ((show Tryd.prog.globalNamed _ = some 2 by kernel_rfl).symm.trans hg2)
  obtain rfl : 0 = g3 := Option.some.inj ((show Tryd.prog.globalNamed _ = some 0 by kernel_rfl).symm.trans hg3)
  obtain rfl : 149 = t1 := Option.some.inj ((show (Tryd.prog.globals[1]?).map (·.type) = some 149 by kernel_rfl).symm.trans ht1)
  obtain rfl : 151 = t2 := Option.some.inj ((show (Tryd.prog.globals[2]?).map (·.type) = some 151 by kernel_rfl).symm.trans ht2)
  obtain rfl : 148 = t3 := Option.some.inj ((show (Tryd.prog.globals[0]?).map (·.type) = some 148 by kernel_rfl).symm.trans ht3)
  have e1 := cells_of_rows (rows := distR) Tryd.underlying149 Tryd.underlying147 (by kernel_rfl) (by kernel_rfl) hd1
  have e2 := cells_of_rows (rows := pairR) Tryd.underlying151 Tryd.underlying150 (by kernel_rfl) (by kernel_rfl) hd2
  have e3 := cells_of_rows (rows := oneR) Tryd.underlying148 Tryd.underlying147 (by kernel_rfl) (by kernel_rfl) hd3
  have f1 : c1 = i64s distancesL := by rw [← Array.toList_inj, e1]; rfl
  have f2 : c2 = i64s pairsL := by rw [← Array.toList_inj, e2]; rfl
  have f3 : c3 = i64s oneWayL := by rw [← Array.toList_inj, e3]; rfl
  subst f1 f2 f3
  exact ⟨var_heap hg3 hv3, var_heap hg1 hv1, var_heap hg2 hv2⟩
end Go.Proofs.YtdegdoilpamjjaaDoor
