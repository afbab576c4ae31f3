/- Rows of ints of the call's own that are written cell by cell; make and copy as laws for the walk. Condition: fewer than 2^32 members. -/
import Derived.Test.YtpipcmbfdcbboaaOa
import Derived.Deep.OwnRows
import Derived.Laws.CopyOwn
namespace Go.Proofs.Ytpipcmbfdcbboaa
open Go.RowKit
/-- block b holds, from its beginning, n ints -/
def IRow (w : World) (b n : Nat) (f : Nat → Int) : Prop := ∃ cs : Array Value, w.heap[b]? = some (.cells cs 3 (0, 0)) ∧ n ≤ cs.size ∧ ∀ i, i < n → cs[i]? = some (.int .i64 (f i))
theorem IRow.lt {w : World} {b n : Nat} {f : Nat → Int} (h : IRow w b n f) : b < w.heap.size := by
  obtain ⟨cs, h1, _⟩ := h
  exact heap_lt h1
theorem IRow.cell {w : World} {b n : Nat} {f : Nat → Int} (h : IRow w b n f) {i : Nat} (hi : i < n) : w.cell? ⟨b, i, none⟩ = some (.int .i64 (f i)) := by
  obtain ⟨cs, h1, h2, h3⟩ := h
  rw [← h3 i hi]
  simp [World.cell?, h1]
theorem IRow.free {w : World} {b n : Nat} {f : Nat → Int} (h : IRow w b n f) (i : Nat) : w.frozen? ⟨b, i, none⟩ = false := by
  obtain ⟨cs, h1, h2, h3⟩ := h
  simp [World.frozen?, h1]
theorem IRow.same {w : World} {b n : Nat} {f g : Nat → Int} (h : IRow w b n f) (e : ∀ i, i < n → f i = g i) : IRow w b n g := by
  obtain ⟨cs, h1, h2, h3⟩ := h
  exact ⟨cs, h1, h2, fun i hi => by rw [← e i hi]; exact h3 i hi⟩
theorem IRow.block {w w' : World} {b n : Nat} {f : Nat → Int} (h : IRow w b n f) (e : w'.heap[b]? = w.heap[b]?) : IRow w' b n f := by
  obtain ⟨cs, h1, h2, h3⟩ := h
  exact ⟨cs, e.trans h1, h2, h3⟩
theorem IRow.below {w w' : World} {b n B : Nat} {f : Nat → Int} (h : IRow w b n f) (hb : Below B w w') (hB : b < B) : IRow w' b n f := h.block (hb.block b hB)
theorem IRow.later {w w' : World} {b n : Nat} {f : Nat → Int} (h : IRow w b n f) (hb : Below w.heap.size w w') : IRow w' b n f := h.below hb h.lt
theorem IRow.other {w : World} {b n c i : Nat} {f : Nat → Int} (h : IRow w b n f) (hne : b ≠ c) (v : Value) : IRow (w.setCell ⟨c, i, none⟩ v) b n f := h.block (Below.heap_setCell w ⟨c, i, none⟩ v b hne)
theorem IRow.set {w : World} {b n : Nat} {f g : Nat → Int} (h : IRow w b n f) (i : Nat) (x : Int) (hg : ∀ j, j < n → g j = if j = i then x else f j) : IRow (w.setCell ⟨b, i, none⟩ (.int .i64 x)) b n g := by
  obtain ⟨cs, h1, h2, h3⟩ := h
  refine ⟨cs.setIfInBounds i (.int .i64 x), ?_, by simpa using h2, fun j hj => ?_⟩
  · show (w.heap.modify b _)[b]? = _
    rw [Array.getElem?_modify, if_pos rfl, h1]; rfl
  · rw [hg j hj, Array.getElem?_setIfInBounds]
    by_cases hji : j = i
    · subst hji
      rw [if_pos rfl, if_pos (by omega), if_pos rfl]
    · rw [if_neg (by omega), if_neg hji]; exact h3 j hj
theorem IRow.ints {w : World} {b n m : Nat} {f : Nat → Int} (h : IRow w b n f) (hm : m ≤ n) : IsInts w (some ⟨b, 0, none⟩) m f := by
  by_cases h0 : m = 0
  · exact .inl h0
  · refine .inr ⟨b, 0, rfl, h.lt, fun i hi => ?_⟩
    rw [Nat.zero_add]
    exact h.cell (by omega)
theorem OwnInts.row {w : World} {base n c : Nat} {s : Option Addr} {f : Nat → Int} (h : OwnInts w base (.slice s n c) (lst f n)) : n = 0 ∨ ∃ g, s = some ⟨g, 0, none⟩ ∧ base ≤ g ∧ IRow w g n f := by
  rcases h.2 with ⟨h1, h2⟩ | ⟨g, cap, cur, h1, hg, hgg, hnc, hcm, hcs, htake⟩
  · rw [lst_len] at h2; exact .inl h2
  · by_cases h0 : n = 0
    · exact .inl h0
    · have h' := h
      rw [lst_len] at h1 hnc
      obtain ⟨rfl, _, rfl⟩ := Value.slice.inj h1
      refine .inr ⟨g, rfl, hg, cur, hgg, by omega, fun i hi => ?_⟩
      unfold OwnInts at h'
      rw [lst_len] at h'
      have hc := World.ownsRow.cellAt h' i (by omega)
      have hc2 : w.cell? ⟨g, i, none⟩ = cur[i]? := by simp [World.cell?, hgg]
      rw [← hc2, hc, List.getElem?_map, List.getElem?_eq_getElem (by rw [lst_len]; exact hi)]
      simp [lst]
theorem row_made (w : World) (n : Nat) : IRow (w.alloc (.cells (madeCells #[.int .i64 0] n) 3)) w.heap.size n (fun _ => 0) := by
  have h := World.rowIs_made w (.int .i64 0) n 3
  have hh : (w.alloc (.cells (madeCells #[.int .i64 0] n) 3)).heap[w.heap.size]? = some (.cells (madeCells #[.int .i64 0] n) 3 (0, 0)) := by
    show (w.heap.push _)[w.heap.size]? = _
    simp
  have hc : ∀ i, i < n → (madeCells #[.int .i64 0] n)[i]? = some (.int .i64 0) := by
    intro i hi
    have := h.cell hi
    rw [World.cell?, hh] at this
    simpa using this
  refine ⟨_, hh, ?_, hc⟩
  by_cases h0 : n = 0
  · omega
  · have := hc (n - 1) (by omega)
    have h2 : n - 1 < (madeCells #[.int .i64 0] n).size := by
      rcases Nat.lt_or_ge (n - 1) (madeCells #[.int .i64 0] n).size with h3 | h3
      · exact h3
      · rw [Array.getElem?_eq_none h3] at this; cases this
    omega
theorem wpList_copy_list {w : World} {ops : Array Oper} {rest : List Oper} {o : Oper} {a : Act} {Q : Exit → Act → World → Prop} (hgd : o.guard = none) (d s : Operand)
    (ho : o.op = .call { callee := .builtin .copy, args := #[d, s], argTypes := #[22, 22] })
    (g n m cap : Nat) (F : Nat → Int) (sa : Option Addr) (scap : Nat) (f : Nat → Int) (hd : a.eval d = .slice (some ⟨g, 0, none⟩) m cap) (hs : a.eval s = .slice sa n scap) (hrow : IRow w g m F) (hr : IsInts w sa n f) (hn : n ≤ m)
    (h : ∀ w', IRow w' g m (fun i => if i < n then f i else F i) → Below g w w' → wpList Try.prog ops Q rest (a.put o.dst (goInt n)) w') : wpList Try.prog ops Q (o :: rest) a w := by
  have hinfo := Try.infoInt
  have hsz : (Try.prog.info? 3).map (·.size) = some 1 := by
    obtain ⟨i0, hi, hz0, hz1, hz2⟩ := info_parts hinfo
    rw [hi]; simp [hz1]
  obtain ⟨cs, h1, h2, h3⟩ := hrow
  have hlen : ((lst f n).map (Value.int .i64)).length = n := by rw [List.length_map, lst_len]
  refine wpList_copy_splice hgd d s 22 22 ho 3 Try.underlying22 hsz _ _ m cap n scap hd hs g 0 cs.toList 3 (by simpa using h1) ((lst f n).map (Value.int .i64)) ?_ ?_ ?_ (ints_one _) g w (Below.refl _ _) (Nat.le_refl _) ?_
  · rw [hlen]; show n = min n m; omega
  · intro hpos
    rw [hlen] at hpos
    refine ⟨rfl, ?_⟩
    rcases hr with h0 | ⟨b, off, rfl, hb, hc⟩
    · omega
    · refine ⟨_, rfl, fun j v hv => ?_⟩
      by_cases hj : j < n
      · rw [List.getElem?_map, List.getElem?_eq_getElem (by rw [lst_len]; exact hj)] at hv
        simp [lst] at hv
        rw [Go.WideShapes.add_plain, ← hv]
        exact hc j hj
      · rw [List.getElem?_eq_none (by rw [hlen]; omega)] at hv; cases hv
  · rw [hlen]; simp; omega
  · intro w' hw' hb
    rw [hlen]
    refine h w' ⟨_, hw'.out, ?_, fun i hi => ?_⟩ hb
    · have := length_splice cs.toList 0 ((lst f n).map (Value.int .i64)) (by rw [hlen]; simp; omega)
      simp only [List.size_toArray, this, Array.length_toList]; exact h2
    · simp only [splice, List.take_zero, List.nil_append, Nat.zero_add, hlen, List.getElem?_toArray]
      by_cases hin : i < n
      · rw [if_pos hin, List.getElem?_append_left (by rw [hlen]; exact hin), List.getElem?_map, List.getElem?_eq_getElem (by rw [lst_len]; exact hin)]
        simp [lst]
      · rw [if_neg hin, List.getElem?_append_right (by rw [hlen]; omega), hlen, List.getElem?_drop, show n + (i - n) = i from by omega]
        rw [← h3 i hi]; simp
end Go.Proofs.Ytpipcmbfdcbboaa
