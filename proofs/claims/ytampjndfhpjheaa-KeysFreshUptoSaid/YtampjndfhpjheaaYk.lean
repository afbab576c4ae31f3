/- Contracts: add and what it calls. Condition: tables that are good (no row begins another; few and short rows). -/
import Derived.Test.YtampjndfhpjheaaYj
namespace Go.Proofs.Ytampjndfhpjheaa
open Go.RowKit
/-- rows that may be put -/
structure Good (rows : Rows) : Prop where
  ok : TrieOk (trieOf rows)
  few : rows.length < 1000
  size : sizeS (trieOf rows) < 100000
  short : ∀ r ∈ rows, r.1.length < 1000
  keys : ∀ r ∈ rows, ∀ x ∈ r.1, inKey x
theorem trieOf_pre {a b : Rows} : trieOf a <+: trieOf (a ++ b) := by
  unfold trieOf
  rw [List.zipIdx_append, List.map_append]
  exact List.prefix_append _ _
theorem Good.pre {a b : Rows} (h : Good b) (hp : a <+: b) : Good a := by
  obtain ⟨c, rfl⟩ := hp
  obtain ⟨t, ht⟩ := trieOf_pre (a := a) (b := c)
  refine ⟨?_, ?_, ?_, fun r hr => h.short r (List.mem_append_left _ hr), fun r hr => h.keys r (List.mem_append_left _ hr)⟩
  · have := h.ok
    rw [← ht] at this
    exact ⟨fun r hr => this.1 r (List.mem_append_left _ hr), (List.pairwise_append.1 this.2).1⟩
  · have := h.few; simp at this; omega
  · have := h.size
    rw [← ht] at this
    unfold sizeS at *
    rw [List.map_append, List.sum_append] at this
    omega
/-- what change does to a bound -/
structure ChOk (cf : FuncId) (fb : BV → BV) : Prop where
  run : ∀ (w : World) (bx : Nat) (bv : BV), w.heap[bx]? = some (.cells bv.cells 133 (0, 0)) → Calls Try.prog cf #[.pointer (some ⟨bx, 0, none⟩)] w fun e w' => e = .returned (.tuple #[]) ∧ w'.heap[bx]? = some (.cells (fb bv).cells 133 (0, 0)) ∧ Touch (fun b => b = bx) w w'
  enter : ∀ (args : Array Value) (w : World), (callFunc cf args).run Try.prog w = .ok (.enter cf args) w
theorem ch_plain : ChOk 72 id := by
  refine ⟨fun w bx bv h => ?_, enters_of Try.func72 (by kernel_rfl) rfl⟩
  have H := Lib.hid h
  clear h
  go_enter Try.func72, Try.ntmps72
  go_wp2
  go_end0
  exact ⟨rfl, H.out, Touch.refl _ _⟩
set_option maxHeartbeats 1000000 in
theorem ch_moves : ChOk 67 (fun b => { b with v := 1 }) := by
  refine ⟨fun w bx bv h => ?_, enters_of Try.func67 (by kernel_rfl) rfl⟩
  obtain ⟨v1, v2, v3, v4, v5, v6, v7, v8⟩ := bv
  have c0 : w.cell? ⟨bx, 0, none⟩ = some (.int .i64 v1) := block_cell h
  have f0 : w.frozen? ⟨bx, 0, none⟩ = false := block_free h
  have H := Lib.hid h
  clear h
  go_enter Try.func67, Try.ntmps67
  go_wp2
  go_end0
  exact ⟨rfl, block_set _ H.out, Touch.setCell (fun b => b = bx) w (p := ⟨bx, 0, none⟩) rfl _⟩
set_option maxHeartbeats 1000000 in
theorem ch_asks : ChOk 73 (fun b => { b with more := true }) := by
  refine ⟨fun w bx bv h => ?_, enters_of Try.func73 (by kernel_rfl) rfl⟩
  obtain ⟨v1, v2, v3, v4, v5, v6, v7, v8⟩ := bv
  have c0 : w.cell? ⟨bx, 3, none⟩ = some (.bool v4) := block_cell h
  have f0 : w.frozen? ⟨bx, 3, none⟩ = false := block_free h
  have H := Lib.hid h
  clear h
  go_enter Try.func73, Try.ntmps73
  go_wp2
  go_end0
  exact ⟨rfl, block_set _ H.out, Touch.setCell (fun b => b = bx) w (p := ⟨bx, 3, none⟩) rfl _⟩
set_option maxHeartbeats 1000000 in
theorem ch_seeks : ChOk 68 (fun b => { b with v := 1, more := true }) := by
  refine ⟨fun w bx bv h => ?_, enters_of Try.func68 (by kernel_rfl) rfl⟩
  obtain ⟨v1, v2, v3, v4, v5, v6, v7, v8⟩ := bv
  have c0 : w.cell? ⟨bx, 0, none⟩ = some (.int .i64 v1) := block_cell h
  have f0 : w.frozen? ⟨bx, 0, none⟩ = false := block_free h
  have c3 : w.cell? ⟨bx, 3, none⟩ = some (.bool v4) := block_cell h
  have f3 : w.frozen? ⟨bx, 3, none⟩ = false := block_free h
  have H := Lib.hid h
  clear h
  go_enter Try.func68, Try.ntmps68
  go_wp2
  go_end0
  exact ⟨rfl, block_set _ (block_set _ H.out), (Touch.setCell (fun b => b = bx) w (p := ⟨bx, 0, none⟩) rfl _).trans (Touch.setCell (fun b => b = bx) _ (p := ⟨bx, 3, none⟩) rfl _) (fun x hx => .inl hx)⟩
def bvOf (b : Bd) : BV := ⟨b.verb, b.move, b.arg, b.more, none, 0, 0, none⟩
theorem bd_plain (w : World) (ow : Nat → Nat) (b : Bd) (h : b.own = []) : BdOk w ow b (bvOf b) := ⟨rfl, rfl, rfl, rfl, .inl ⟨h, rfl, rfl, rfl, rfl⟩⟩
/-- the state while add hands on the rows of a line -/
def AddI (tb i : Nat) (T : Nat → Rows) (b : Bd) (cx px : Nat) (cf : FuncId) (w : World) (ow : Nat → Nat) (L : List (List Int)) : Prop :=
  Tabs w ow tb (updT T i (T i ++ L.map fun k => (k, b))) ∧ IsBox w cx 126 (.func (.func cf) #[] #[]) ∧ IsBox w px 123 (.pointer (some ⟨tb, 4 * i, none⟩)) ∧ ow cx = 5 ∧ ow px = 5
theorem AddI.kept {tb i : Nat} {T : Nat → Rows} {b : Bd} {cx px : Nat} {cf : FuncId} {w w' : World} {ow ow' : Nat → Nat} {L : List (List Int)} (h : AddI tb i T b cx px cf w ow L) (e : Same (fun k => k ≠ 0) ow ow' w w') (hs : w.heap.size ≤ w'.heap.size) : AddI tb i T b cx px cf w' ow' L := by
  obtain ⟨h1, h2, h3, h4, h5⟩ := h
  have e2 := e cx (heap_lt h2) (by rw [h4]; decide)
  have e3 := e px (heap_lt h3) (by rw [h5]; decide)
  exact ⟨h1.kept e hs, e2.1.trans h2, e3.1.trans h3, e2.2.trans h4, e3.2.trans h5⟩
theorem updT_same (T : Nat → Rows) (i : Nat) (a b : Rows) : updT (updT T i a) i b = updT T i b := by
  funext k; unfold updT; by_cases h : k = i <;> simp [h]
theorem updT_self (T : Nat → Rows) (i : Nat) : updT T i (T i) = T := by
  funext k; unfold updT; by_cases h : k = i <;> simp [h]
theorem updT_at (T : Nat → Rows) (i : Nat) (a : Rows) : updT T i a i = a := if_pos rfl
set_option maxRecDepth 100000 in
set_option maxHeartbeats 4000000 in
theorem add1_ok (tb i : Nat) (T : Nat → Rows) (f : Bd → Bd) (fb : BV → BV) (cf : FuncId) (hc : ChOk cf fb) (v m a : Int) (hf : fb (bvOf ⟨v, m, a, false, []⟩) = bvOf (f ⟨v, m, a, false, []⟩)) (hfo : (f ⟨v, m, a, false, []⟩).own = []) (cx px : Nat) (F : List (List Int)) (hi : i < 3) (hg : Good (T i ++ F.map fun k => (k, f ⟨v, m, a, false, []⟩))) :
    DoOk (AddI tb i T (f ⟨v, m, a, false, []⟩) cx px cf) F 98 #[.pointer (some ⟨cx, 0, none⟩), .pointer (some ⟨px, 0, none⟩)] v m a := by
  refine ⟨fun w w' ow ow' L h e hs => h.kept e hs, fun w ow L p qg qc hI hpre hq hqc hpc hp0 => ?_, enters_of Try.func98 (by kernel_rfl) rfl⟩
  have hgood : Good ((T i ++ L.map fun k => (k, f ⟨v, m, a, false, []⟩)) ++ [(p, f ⟨v, m, a, false, []⟩)]) := by
    refine hg.pre ?_
    rw [List.append_assoc]
    refine (List.prefix_append_right_inj _).2 ?_
    obtain ⟨t, rfl⟩ := hpre
    rw [List.map_append, List.map_append]
    simp
  have hlow := hgood.pre (List.prefix_append _ _)
  generalize hbd : f ⟨v, m, a, false, []⟩ = bd at *
  have HG := Lib.hid hgood
  have HLOW := Lib.hid hlow
  have HC := Lib.hid hc
  have HF := Lib.hid hf
  have HFO := Lib.hid hfo
  have HI := Lib.hid hI
  have HQ := Lib.hid hq
  have HQC := Lib.hid hqc
  have hcx := hI.2.1.cell.1
  have hpx := hI.2.2.1.cell.1
  have eg := hc.enter
  have hW : ∃ w1, w1 = w.alloc (.cells #[.int .i64 v, .int .i64 m, .int .i64 a, .bool false, .slice none 0 0, .pointer none] 133) := ⟨_, rfl⟩
  obtain ⟨w1, hW⟩ := hW
  have hb1 : Below w.heap.size w w1 := by rw [hW]; exact below_new2 _ _
  have hnew : w1.heap[w.heap.size]? = some (.cells (bvOf ⟨v, m, a, false, []⟩).cells 133 (0, 0)) := by rw [hW]; exact one_new _ _
  have c1 := (hb1.cell (p := ⟨cx, 0, none⟩) (heap_lt hI.2.1)).trans hcx
  have HP := Lib.hid ((hb1.block px (heap_lt hI.2.2.1)).trans hI.2.2.1)
  have HB1 := Lib.hid hb1
  have HN := Lib.hid hnew
  have HW := Lib.hid hW
  have hpl := heap_lt hI.2.2.1
  clear hgood hlow hg hc hf hfo hI hpre hq hqc hb1 hnew hW hcx hpx hbd
  show Calls Try.prog _ #[.slice (some ⟨qg, 0, none⟩) p.length qc, .agg #[.int .i64 v, .int .i64 m, .int .i64 a, .bool false, .slice none 0 0, .pointer none], .pointer (some ⟨cx, 0, none⟩), .pointer (some ⟨px, 0, none⟩)] w _
  go_enter Try.func98, Try.ntmps98
  go_upto_region 1 with (fail)
  rw [← HW.out]
  go_wp2_with fail
  refine (HC.out.run w1 w.heap.size _ HN.out).mono ?_
  rintro e w2 ⟨rfl, hn2, ht2⟩
  rw [HF.out] at hn2
  obtain ⟨v1, v2, v3, v4, v5⟩ := bd
  have hn2' : w2.heap[w.heap.size]? = some (.cells #[.int .i64 v1, .int .i64 v2, .int .i64 v3, .bool v4, .slice none 0 0, .pointer none] 133 (0, 0)) := hn2
  have d0 : w2.cell? ⟨w.heap.size, 0, none⟩ = some (.int .i64 v1) := block_cell hn2'
  have d1 : w2.cell? ⟨w.heap.size, 1, none⟩ = some (.int .i64 v2) := block_cell hn2'
  have d2 : w2.cell? ⟨w.heap.size, 2, none⟩ = some (.int .i64 v3) := block_cell hn2'
  have d3 : w2.cell? ⟨w.heap.size, 3, none⟩ = some (.bool v4) := block_cell hn2'
  have d4 : w2.cell? ⟨w.heap.size, 4, none⟩ = some (.slice none 0 0) := block_cell hn2'
  have d5 : w2.cell? ⟨w.heap.size, 5, none⟩ = some (.pointer none) := block_cell hn2'
  have hpne : ¬ px = w.heap.size := by omega
  have hpx2 : IsBox w2 px 123 (.pointer (some ⟨tb, 4 * i, none⟩)) := (ht2.block px (heap_lt HP.out) hpne).trans HP.out
  have cp := hpx2.cell.1
  have hbw : Below w.heap.size w w2 := HB1.out.trans (ht2.below (fun b hb => by omega) HB1.out.size)
  have hI2 : AddI tb i T ⟨v1, v2, v3, v4, v5⟩ cx px cf w2 ow L := HI.out.kept (Same.of hbw) hbw.size
  have hq2 := HQ.out.kept (hbw.block _ HQ.out.lt)
  have HI2 := Lib.hid hI2
  have HQ2 := Lib.hid hq2
  have HBW := Lib.hid hbw
  clear hn2 hn2' ht2 hpx2 hbw hI2 hq2 hpne
  go_wp2_with fail
  refine (lput_c ow tb (updT T i (T i ++ L.map fun k => (k, ⟨v1, v2, v3, v4, v5⟩))) i qg qc p ⟨v1, v2, v3, v4, v5⟩ (bvOf ⟨v1, v2, v3, v4, v5⟩) w2 hi HI2.out.1 HQ2.out HQC.out (bd_plain _ _ _ HFO.out) (by rw [updT_at]; exact HG.out.ok) (by rw [updT_at]; have := HLOW.out.few; omega) (by have := HG.out.short (p, _) (List.mem_append_right _ (List.mem_singleton.2 rfl)); simp only at this; omega) (by rw [updT_at]; have := HLOW.out.size; omega) (HG.out.keys (p, _) (List.mem_append_right _ (List.mem_singleton.2 rfl))) hpc).mono ?_
  rintro e w3 ⟨rfl, ow3, h3, hc3, ht3⟩
  have hfin : ∃ ow', AddI tb i T ⟨v1, v2, v3, v4, v5⟩ cx px cf w3 ow' (L ++ [p]) ∧ (∀ b, b < w.heap.size → ow' b = ow b) ∧ Touch (fun b => live (ow b)) w w3 := by
    have hbs := HBW.out.size
    refine ⟨ow3, ⟨?_, ?_, ?_, ?_, ?_⟩, fun b hb => hc3 b (by omega), (Touch.of (O := fun b => live (ow b)) HBW.out).trans ht3 (fun x hx => .inl hx)⟩
    · rw [updT_same, updT_at, List.append_assoc] at h3
      rw [List.map_append]
      exact h3
    · exact box_touch HI2.out.2.1 ht3 (fun e => e.2 HI2.out.2.2.2.1)
    · exact box_touch HI2.out.2.2.1 ht3 (fun e => e.2 HI2.out.2.2.2.2)
    · exact (hc3 cx (heap_lt HI2.out.2.1)).trans HI2.out.2.2.2.1
    · exact (hc3 px (heap_lt HI2.out.2.2.1)).trans HI2.out.2.2.2.2
  have HFIN := Lib.hid hfin
  clear hfin h3 hc3 ht3
  go_wp2
  go_end0
  exact ⟨rfl, HFIN.out⟩
end Go.Proofs.Ytampjndfhpjheaa
