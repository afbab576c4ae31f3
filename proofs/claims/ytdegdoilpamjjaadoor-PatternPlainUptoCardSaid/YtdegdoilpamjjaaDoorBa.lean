/- The base of lists of ints: those that came in, those of the call's own. Condition: fewer than 2^32 members. -/
import Derived.Test.YtdegdoilpamjjaaDoorProg
import Derived.Test.YtdegdoilpamjjaaDoorGb
import Derived.WalkKit
import Derived.WalkSpells
import Derived.WalkLawsBesides
import Derived.Deep.LoopGhost
import Derived.Lib.Hide
import Derived.Laws.AppendOwn
import Derived.Laws.OwnMore
import Derived.OwnWalk
import Derived.OneCell
import Derived.Laws.AppendOwnNone
import Derived.Deep.OwnRows
import Derived.Laws.CopyOwn
import Derived.Maps.AppendAt
namespace Go.Proofs.YtdegdoilpamjjaaDoor
open Go.RowKit
theorem heap_lt {w : World} {g : Nat} {o : Obj} (h : w.heap[g]? = some o) : g < w.heap.size := by
  refine Classical.byContradiction fun hn => ?_
  rw [Array.getElem?_eq_none (by omega)] at h; cases h
theorem block_cell {w : World} {b i : Nat} {c : Array Value} {t : TypeId} (h : w.heap[b]? = some (.cells c t (0, 0))) : w.cell? ⟨b, i, none⟩ = c[i]? := by simp [World.cell?, h]
theorem block_free {w : World} {b i : Nat} {c : Array Value} {t : TypeId} (h : w.heap[b]? = some (.cells c t (0, 0))) : w.frozen? ⟨b, i, none⟩ = false := by simp [World.frozen?, h]
theorem block_set {w : World} {b i : Nat} {c : Array Value} {t : TypeId} {f : Nat × Nat} (v : Value) (h : w.heap[b]? = some (.cells c t f)) : (w.setCell ⟨b, i, none⟩ v).heap[b]? = some (.cells (c.setIfInBounds i v) t f) := by
  show (w.heap.modify b _)[b]? = _
  rw [Array.getElem?_modify, if_pos rfl, h]; rfl
theorem one_new (w : World) (o : Obj) : (w.alloc o).heap[w.heap.size]? = some o := by
  show (w.heap.push o)[w.heap.size]? = _
  simp
def IsBox (w : World) (b : Nat) (t : TypeId) (v : Value) : Prop := w.heap[b]? = some (.cells #[v] t (0, 0))
theorem IsBox.below {w w1 : World} {b : Nat} {t : TypeId} {v : Value} (h : IsBox w b t v) (hb : Below w.heap.size w w1) : IsBox w1 b t v := (hb.block b (heap_lt h)).trans h
theorem IsBox.cell {w : World} {b : Nat} {t : TypeId} {v : Value} (h : IsBox w b t v) : w.cell? ⟨b, 0, none⟩ = some v ∧ w.frozen? ⟨b, 0, none⟩ = false := ⟨block_cell h, block_free h⟩
theorem IsBox.set {w : World} {b : Nat} {t : TypeId} {v : Value} (h : IsBox w b t v) (u : Value) : IsBox (w.setCell ⟨b, 0, none⟩ u) b t u := block_set _ h
theorem IsBox.other {w : World} {b c : Nat} {t : TypeId} {v : Value} (h : IsBox w b t v) (hne : c ≠ b) (u : Value) : IsBox (w.setCell ⟨c, 0, none⟩ u) b t v := by
  show (w.heap.modify c _)[b]? = _
  rw [Array.getElem?_modify, if_neg hne]; exact h
theorem IsBox.new (w : World) (t : TypeId) (v : Value) : IsBox (w.alloc (.cells #[v] t)) w.heap.size t v := one_new w _
theorem IsBox.alloc {w : World} {b : Nat} {t : TypeId} {v : Value} (h : IsBox w b t v) (o : Obj) : IsBox (w.alloc o) b t v := by
  have := heap_lt h
  show (w.heap.push o)[b]? = _
  rw [Array.getElem?_push, if_neg (by omega)]; exact h
theorem below_boxset {b c : Nat} {w w1 : World} (h : Below b w w1) (hc : b ≤ c) (v : Value) : Below b w (w1.setCell ⟨c, 0, none⟩ v) := h.setCell hc _
/-- v is a slice of ints, made by the call, with the members l -/
def OwnInts (w : World) (base : Nat) (v : Value) (l : List Int) : Prop := w.ownsRow base 3 1 v l.length (l.map (Value.int .i64))
theorem Tryd.infoInt : (Tryd.prog.info? 3).map (fun i => (i.zero, i.size, i.bytes)) = some (some (.int .i64 0), 1, 8) := by kernel_rfl
theorem OwnInts.later {w w1 : World} {base : Nat} {v : Value} {l : List Int} (h : OwnInts w base v l) (hb : Below w.heap.size w w1) : OwnInts w1 base v l := by
  refine ⟨h.1, ?_⟩
  rcases h.2 with hn | ⟨g, cap, cur, rfl, hg, hgg, rest⟩
  · exact .inl hn
  · exact .inr ⟨g, cap, cur, rfl, hg, (hb.block g (heap_lt hgg)).trans hgg, rest⟩
theorem OwnInts.mono {w : World} {base base' : Nat} {v : Value} {l : List Int} (h : OwnInts w base v l) (hb : base' ≤ base) : OwnInts w base' v l := by
  refine ⟨h.1, ?_⟩
  rcases h.2 with hn | ⟨g, cap, cur, rfl, hg, rest⟩
  · exact .inl hn
  · exact .inr ⟨g, cap, cur, rfl, Nat.le_trans hb hg, rest⟩
theorem OwnInts.isInts {w : World} {base : Nat} {v : Value} {l : List Int} (h : OwnInts w base v l) : ∃ sa cap, v = .slice sa l.length cap ∧ IsInts w sa l.length (fun i => l.getD i 0) ∧ l.length ≤ maxLen := by
  have h' := h
  rcases h.2 with ⟨rfl, hn⟩ | ⟨g, cap, cur, rfl, hg, hgg, hnc, hcm, hcs, htake⟩
  · exact ⟨none, 0, by rw [hn], .inl hn, by rw [hn]; exact Nat.zero_le _⟩
  · refine ⟨some ⟨g, 0, none⟩, cap, rfl, .inr ⟨g, 0, rfl, heap_lt hgg, fun i hi => ?_⟩, Nat.le_trans hnc hcm⟩
    have := World.ownsRow.cellAt h' i (by omega)
    rw [Nat.zero_add, this]
    show _ = some (Value.int .i64 (l.getD i 0))
    rw [List.getElem?_map, List.getD_eq_getElem?_getD, List.getElem?_eq_getElem hi]; rfl
theorem OwnInts.shape {w : World} {base : Nat} {v : Value} {l : List Int} (h : OwnInts w base v l) : ∃ sa n cap, v = .slice sa n cap ∧ n = l.length ∧ IsInts w sa n (fun i => l.getD i 0) := by
  obtain ⟨sa, cap, hv, h1, _⟩ := h.isInts
  exact ⟨sa, _, cap, hv, rfl, h1⟩
theorem OwnInts.nil (w : World) (base : Nat) : OwnInts w base (.slice none 0 0) [] := World.ownsRow_nil w base _ 1
theorem OwnInts.as {w : World} {base : Nat} {v : Value} {l l' : List Int} (h : OwnInts w base v l) (e : l = l') : OwnInts w base v l' := e ▸ h
/-- what an owned row leaves alone: a box of another type -/
theorem own_box_ne {w : World} {base : Nat} {v : Value} {l : List Int} {b : Nat} {t : TypeId} {u : Value} (h : OwnInts w base v l) (hx : IsBox w b t u) (ht : t ≠ 3) : v.ownBlock ≠ some b := by
  intro hv
  rcases h.2 with ⟨rfl, _⟩ | ⟨g, cap, cur, rfl, _, hgg, _⟩
  · simp [Value.ownBlock] at hv
  · simp [Value.ownBlock] at hv
    subst hv
    unfold IsBox at hx
    rw [hx] at hgg
    simp at hgg
    exact ht hgg.2
theorem IsBox.grown {w w1 : World} {b : Nat} {t : TypeId} {u : Value} {row : Option Nat} (h : IsBox w b t u) (hg : w.grownBy w1 row) (hne : row ≠ some b) : IsBox w1 b t u :=
  (hg.block b (heap_lt h) (fun e => hne e.symm)).trans h
/-- behind an append of one int -/
theorem own_push {w w1 : World} {base : Nat} {v v' : Value} {l : List Int} {k : Int} (ho : OwnInts w base v l)
    (hown : w1.ownsRow base 3 1 v' (l.length + 1) (l.map (Value.int .i64) ++ [.int .i64 k])) (hgrow : (w.alloc (.cells #[.int .i64 k] 3)).grownBy w1 v.ownBlock) (hbase : base ≤ w.heap.size) :
    OwnInts w1 base v' (l ++ [k]) ∧ Below base w w1 ∧ (∀ b t u, IsBox w b t u → t ≠ 3 → IsBox w1 b t u) ∧ ∃ s c, v' = .slice s (l.length + 1) c := by
  have h1 : OwnInts w1 base v' (l ++ [k]) := by
    unfold OwnInts
    rw [List.length_append, List.map_append]; exact hown
  refine ⟨h1, ?_, ?_, ?_⟩
  · refine Below.grown ((Below.refl _ _).alloc hbase _) hgrow (by simp; omega) ?_
    intro k' hk'
    exact (ho.lt k' hk').1
  · intro b t u hx ht
    exact (hx.alloc _).grown hgrow (own_box_ne ho hx ht)
  · rcases hown.2 with ⟨rfl, hn⟩ | ⟨g, cap, cur, rfl, _⟩
    · exact absurd hn (by omega)
    · exact ⟨_, _, rfl⟩
/-- the members of a list that came in -/
def lst (f : Nat → Int) (n : Nat) : List Int := (List.range n).map f
theorem lst_succ (f : Nat → Int) (n : Nat) : lst f (n + 1) = lst f n ++ [f n] := by unfold lst; rw [List.range_succ, List.map_append]; rfl
theorem lst_len (f : Nat → Int) (n : Nat) : (lst f n).length = n := by simp [lst]
theorem lst_get (l : List Int) : lst (fun i => l.getD i 0) l.length = l := by
  apply List.ext_getElem
  · simp [lst]
  · intro i h1 h2
    simp [lst, List.getElem?_eq_getElem h2]
theorem lst_congr {f g : Nat → Int} {n : Nat} (h : ∀ i, i < n → f i = g i) : lst f n = lst g n := by
  unfold lst; apply List.map_congr_left; intro i hi; exact h i (List.mem_range.1 hi)
theorem lst_getD (f : Nat → Int) (n i : Nat) (h : i < n) : (lst f n).getD i 0 = f i := by
  rw [List.getD_eq_getElem?_getD, List.getElem?_eq_getElem (by rw [lst_len]; exact h)]; simp [lst]
theorem lst_ext {f g : Nat → Int} {n : Nat} (h : lst f n = lst g n) (i : Nat) (hi : i < n) : f i = g i := by
  rw [← lst_getD f n i hi, ← lst_getD g n i hi, h]
theorem own_push2 {w w1 : World} {base : Nat} {v v' : Value} {l : List Int} {k : Int} (ho : OwnInts w base v l)
    (hown : w1.ownsRow base 3 1 v' (l.length + 1) (l.map (Value.int .i64) ++ [.int .i64 k])) (hgrow : (w.alloc (.cells #[.int .i64 k] 3)).grownBy w1 v.ownBlock) (hbase : base ≤ w.heap.size) :
    OwnInts w1 base v' (l ++ [k]) ∧ Below base w w1 ∧ (∀ b t u, IsBox w b t u → t ≠ 3 → IsBox w1 b t u) ∧ ∃ s n c, v' = .slice s n c ∧ n = l.length + 1 := by
  obtain ⟨h1, h2, h3, s, c, h4⟩ := own_push ho hown hgrow hbase
  exact ⟨h1, h2, h3, s, _, c, h4, rfl⟩
theorem IsInts.same {w : World} {s : Option Addr} {n : Nat} {f g : Nat → Int} (h : IsInts w s n f) (he : ∀ i, i < n → f i = g i) : IsInts w s n g := by
  rcases h with h | ⟨b, off, hs, hb, hc⟩
  · exact .inl h
  · exact .inr ⟨b, off, hs, hb, fun i hi => by rw [← he i hi]; exact hc i hi⟩
theorem OwnInts.list {w : World} {base : Nat} {v : Value} {f : Nat → Int} {n : Nat} (h : OwnInts w base v (lst f n)) : ∃ s c, v = .slice s n c ∧ n ≤ c ∧ (s = none → n = 0 ∧ c = 0) ∧ IsInts w s n f := by
  have hc : ∃ s c, v = .slice s n c ∧ n ≤ c ∧ (s = none → n = 0 ∧ c = 0) := by
    rcases h.2 with ⟨h1, h2⟩ | ⟨g, cap, cur, h1, _, _, h2, _⟩
    · rw [lst_len] at h2; exact ⟨none, 0, by rw [h1, h2], by omega, fun _ => ⟨h2, rfl⟩⟩
    · rw [lst_len] at h1 h2; exact ⟨_, cap, h1, h2, fun h => by cases h⟩
  obtain ⟨s, c, rfl, h1, h2⟩ := hc
  obtain ⟨s', c', hv, hi, _⟩ := h.isInts
  obtain ⟨rfl, _, rfl⟩ := Value.slice.inj hv
  rw [lst_len] at hi
  exact ⟨s, c, rfl, h1, h2, hi.same fun i hi => lst_getD f n i hi⟩
theorem ints_one (l : List Int) : ∀ u ∈ l.map (Value.int .i64), u.oneCell' = true := by
  intro u hu
  obtain ⟨x, _, rfl⟩ := List.mem_map.1 hu
  rfl
theorem wpList_append_all {w : World} {ops : Array Oper} {rest : List Oper} {o : Oper} {a : Act} {Q : Exit → Act → World → Prop} (hgd : o.guard = none) (s x : Operand)
    (ho : o.op = .call { callee := .builtin .append, args := #[s, x], argTypes := #[22, 22] })
    (hs : a.eval s = .slice none 0 0) (sa : Option Addr) (len cap : Nat) (f : Nat → Int) (hx : a.eval x = .slice sa len cap) (hr : IsInts w sa len f) (hnil : sa = none → len = 0 ∧ cap = 0) (hl : len < 4294967296) (base : Nat) (hbase : base ≤ w.heap.size)
    (h : ∀ s' c' w', OwnInts w' base (.slice s' len c') (lst f len) → Below base w w' → len ≤ c' → (s' = none → len = 0 ∧ c' = 0) → IsInts w' s' len f → wpList Tryd.prog ops Q rest (a.put o.dst (.slice s' len c')) w') : wpList Tryd.prog ops Q (o :: rest) a w := by
  obtain ⟨i0, hi, hz0, hz1, hz2⟩ := info_parts Tryd.infoInt
  have hown : w.ownsRow base 3 1 (.slice none 0 0) 0 [] := World.ownsRow_nil w base _ 1
  cases sa with
  | none =>
    obtain ⟨rfl, rfl⟩ := hnil rfl
    refine wpList_append_own_none hgd s x 22 ho base 3 i0 1 Tryd.underlying22 hi _ 0 [] hs hown hx ?_
    exact h none 0 w (OwnInts.nil w base) (Below.refl _ _) (Nat.le_refl _) (fun _ => ⟨rfl, rfl⟩) hr
  | some ad =>
    refine wpList_append_own w hgd s x 22 ho base 3 i0 (.int .i64 0) 1 8 Tryd.underlying22 hi hz0 hz1 hz2 rfl (by decide) _ 0 [] hs hown ad len cap ((lst f len).map (Value.int .i64)) hx (by rw [List.length_map, lst_len, Nat.mul_one]) ?_ (ints_one _) (by unfold maxLen; omega) (by omega) hbase ?_
    · intro j u hu
      rw [List.getElem?_map] at hu
      rcases hr with h0 | ⟨b, off, he, hb, hc⟩
      · subst h0; simp [lst] at hu
      · cases he
        by_cases hj : j < len
        · rw [List.getElem?_eq_getElem (by rw [lst_len]; exact hj)] at hu
          simp [lst] at hu
          rw [Go.WideShapes.add_plain, ← hu]
          exact hc j hj
        · rw [List.getElem?_eq_none (by rw [lst_len]; omega)] at hu; cases hu
    · intro v' w' hown' hgrow _
      have hO : OwnInts w' base v' (lst f len) := by
        unfold OwnInts
        rw [lst_len]
        rw [Nat.zero_add, List.nil_append] at hown'
        exact hown'
      obtain ⟨s', c', rfl, h1, h2, h3⟩ := hO.list
      exact h s' c' w' hO (Below.grown (Below.refl _ _) hgrow hbase (fun k hk => by simp [Value.ownBlock] at hk)) h1 h2 h3
/-- block b holds, from its beginning, n ints -/
def IRow (w : World) (b n : Nat) (f : Nat → Int) : Prop := ∃ cs : Array Value, w.heap[b]? = some (.cells cs 3 (0, 0)) ∧ n ≤ cs.size ∧ ∀ i, i < n → cs[i]? = some (.int .i64 (f i))
theorem IRow.lt {w : World} {b n : Nat} {f : Nat → Int} (h : IRow w b n f) : b < w.heap.size := by
  obtain ⟨cs, h1, _⟩ := h
  exact heap_lt h1
theorem IRow.cell {w : World} {b n : Nat} {f : Nat → Int} (h : IRow w b n f) {i : Nat} (hi : i < n) : w.cell? ⟨b, i, none⟩ = some (.int .i64 (f i)) := by
  obtain ⟨cs, h1, h2, h3⟩ := h
  rw [← h3 i hi]
  simp [World.cell?, h1]
theorem IRow.free {w : World} {b n : Nat} {f : Nat → Int} (h : IRow w b n f) (i : Nat) : w.frozen? ⟨b, i, none⟩ = false := by
  obtain ⟨cs, h1, h2, h3⟩ := h
  simp [World.frozen?, h1]
theorem IRow.same {w : World} {b n : Nat} {f g : Nat → Int} (h : IRow w b n f) (e : ∀ i, i < n → f i = g i) : IRow w b n g := by
  obtain ⟨cs, h1, h2, h3⟩ := h
  exact ⟨cs, h1, h2, fun i hi => by rw [← e i hi]; exact h3 i hi⟩
theorem IRow.block {w w' : World} {b n : Nat} {f : Nat → Int} (h : IRow w b n f) (e : w'.heap[b]? = w.heap[b]?) : IRow w' b n f := by
  obtain ⟨cs, h1, h2, h3⟩ := h
  exact ⟨cs, e.trans h1, h2, h3⟩
theorem IRow.below {w w' : World} {b n B : Nat} {f : Nat → Int} (h : IRow w b n f) (hb : Below B w w') (hB : b < B) : IRow w' b n f := h.block (hb.block b hB)
theorem IRow.later {w w' : World} {b n : Nat} {f : Nat → Int} (h : IRow w b n f) (hb : Below w.heap.size w w') : IRow w' b n f := h.below hb h.lt
theorem IRow.other {w : World} {b n c i : Nat} {f : Nat → Int} (h : IRow w b n f) (hne : b ≠ c) (v : Value) : IRow (w.setCell ⟨c, i, none⟩ v) b n f := h.block (Below.heap_setCell w ⟨c, i, none⟩ v b hne)
theorem IRow.set {w : World} {b n : Nat} {f g : Nat → Int} (h : IRow w b n f) (i : Nat) (x : Int) (hg : ∀ j, j < n → g j = if j = i then x else f j) : IRow (w.setCell ⟨b, i, none⟩ (.int .i64 x)) b n g := by
  obtain ⟨cs, h1, h2, h3⟩ := h
  refine ⟨cs.setIfInBounds i (.int .i64 x), ?_, by simpa using h2, fun j hj => ?_⟩
  · show (w.heap.modify b _)[b]? = _
    rw [Array.getElem?_modify, if_pos rfl, h1]; rfl
  · rw [hg j hj, Array.getElem?_setIfInBounds]
    by_cases hji : j = i
    · subst hji
      rw [if_pos rfl, if_pos (by omega), if_pos rfl]
    · rw [if_neg (by omega), if_neg hji]; exact h3 j hj
theorem IRow.ints {w : World} {b n m : Nat} {f : Nat → Int} (h : IRow w b n f) (hm : m ≤ n) : IsInts w (some ⟨b, 0, none⟩) m f := by
  by_cases h0 : m = 0
  · exact .inl h0
  · refine .inr ⟨b, 0, rfl, h.lt, fun i hi => ?_⟩
    rw [Nat.zero_add]
    exact h.cell (by omega)
theorem OwnInts.row {w : World} {base n c : Nat} {s : Option Addr} {f : Nat → Int} (h : OwnInts w base (.slice s n c) (lst f n)) : n = 0 ∨ ∃ g, s = some ⟨g, 0, none⟩ ∧ base ≤ g ∧ IRow w g n f := by
  rcases h.2 with ⟨h1, h2⟩ | ⟨g, cap, cur, h1, hg, hgg, hnc, hcm, hcs, htake⟩
  · rw [lst_len] at h2; exact .inl h2
  · by_cases h0 : n = 0
    · exact .inl h0
    · have h' := h
      rw [lst_len] at h1 hnc
      obtain ⟨rfl, _, rfl⟩ := Value.slice.inj h1
      refine .inr ⟨g, rfl, hg, cur, hgg, by omega, fun i hi => ?_⟩
      unfold OwnInts at h'
      rw [lst_len] at h'
      have hc := World.ownsRow.cellAt h' i (by omega)
      have hc2 : w.cell? ⟨g, i, none⟩ = cur[i]? := by simp [World.cell?, hgg]
      rw [← hc2, hc, List.getElem?_map, List.getElem?_eq_getElem (by rw [lst_len]; exact hi)]
      simp [lst]
theorem row_made (w : World) (n : Nat) : IRow (w.alloc (.cells (madeCells #[.int .i64 0] n) 3)) w.heap.size n (fun _ => 0) := by
  have h := World.rowIs_made w (.int .i64 0) n 3
  have hh : (w.alloc (.cells (madeCells #[.int .i64 0] n) 3)).heap[w.heap.size]? = some (.cells (madeCells #[.int .i64 0] n) 3 (0, 0)) := by
    show (w.heap.push _)[w.heap.size]? = _
    simp
  have hc : ∀ i, i < n → (madeCells #[.int .i64 0] n)[i]? = some (.int .i64 0) := by
    intro i hi
    have := h.cell hi
    rw [World.cell?, hh] at this
    simpa using this
  refine ⟨_, hh, ?_, hc⟩
  by_cases h0 : n = 0
  · omega
  · have := hc (n - 1) (by omega)
    have h2 : n - 1 < (madeCells #[.int .i64 0] n).size := by
      rcases Nat.lt_or_ge (n - 1) (madeCells #[.int .i64 0] n).size with h3 | h3
      · exact h3
      · rw [Array.getElem?_eq_none h3] at this; cases this
    omega
theorem wpList_copy_list {w : World} {ops : Array Oper} {rest : List Oper} {o : Oper} {a : Act} {Q : Exit → Act → World → Prop} (hgd : o.guard = none) (d s : Operand)
    (ho : o.op = .call { callee := .builtin .copy, args := #[d, s], argTypes := #[22, 22] })
    (g n m cap : Nat) (F : Nat → Int) (sa : Option Addr) (scap : Nat) (f : Nat → Int) (hd : a.eval d = .slice (some ⟨g, 0, none⟩) m cap) (hs : a.eval s = .slice sa n scap) (hrow : IRow w g m F) (hr : IsInts w sa n f) (hn : n ≤ m)
    (h : ∀ w', IRow w' g m (fun i => if i < n then f i else F i) → Below g w w' → wpList Tryd.prog ops Q rest (a.put o.dst (goInt n)) w') : wpList Tryd.prog ops Q (o :: rest) a w := by
  have hinfo := Tryd.infoInt
  have hsz : (Tryd.prog.info? 3).map (·.size) = some 1 := by
    obtain ⟨i0, hi, hz0, hz1, hz2⟩ := info_parts hinfo
    rw [hi]; simp [hz1]
  obtain ⟨cs, h1, h2, h3⟩ := hrow
  have hlen : ((lst f n).map (Value.int .i64)).length = n := by rw [List.length_map, lst_len]
  refine wpList_copy_splice hgd d s 22 22 ho 3 Tryd.underlying22 hsz _ _ m cap n scap hd hs g 0 cs.toList 3 (by simpa using h1) ((lst f n).map (Value.int .i64)) ?_ ?_ ?_ (ints_one _) g w (Below.refl _ _) (Nat.le_refl _) ?_
  · rw [hlen]; show n = min n m; omega
  · intro hpos
    rw [hlen] at hpos
    refine ⟨rfl, ?_⟩
    rcases hr with h0 | ⟨b, off, rfl, hb, hc⟩
    · omega
    · refine ⟨_, rfl, fun j v hv => ?_⟩
      by_cases hj : j < n
      · rw [List.getElem?_map, List.getElem?_eq_getElem (by rw [lst_len]; exact hj)] at hv
        simp [lst] at hv
        rw [Go.WideShapes.add_plain, ← hv]
        exact hc j hj
      · rw [List.getElem?_eq_none (by rw [hlen]; omega)] at hv; cases hv
  · rw [hlen]; simp; omega
  · intro w' hw' hb
    rw [hlen]
    refine h w' ⟨_, hw'.out, ?_, fun i hi => ?_⟩ hb
    · have := length_splice cs.toList 0 ((lst f n).map (Value.int .i64)) (by rw [hlen]; simp; omega)
      simp only [List.size_toArray, this, Array.length_toList]; exact h2
    · simp only [splice, List.take_zero, List.nil_append, Nat.zero_add, hlen, List.getElem?_toArray]
      by_cases hin : i < n
      · rw [if_pos hin, List.getElem?_append_left (by rw [hlen]; exact hin), List.getElem?_map, List.getElem?_eq_getElem (by rw [lst_len]; exact hin)]
        simp [lst]
      · rw [if_neg hin, List.getElem?_append_right (by rw [hlen]; omega), hlen, List.getElem?_drop, show n + (i - n) = i from by omega]
        rw [← h3 i hi]; simp
theorem OwnInts.len {w : World} {base : Nat} {sl : Option Addr} {j c : Nat} {l : List Int} (h : OwnInts w base (.slice sl j c) l) : j = l.length := by
  rcases h.2 with ⟨h1, h2⟩ | ⟨g, cap, cur, h1, _⟩
  · rw [(Value.slice.inj h1).2.1, h2]
  · exact (Value.slice.inj h1).2.1
theorem OwnInts.kept {w w' : World} {base : Nat} {v : Value} {l : List Int} (h : OwnInts w base v l) (e : ∀ b, b < w.heap.size → v.ownBlock = some b → w'.heap[b]? = w.heap[b]?) : OwnInts w' base v l := by
  refine ⟨h.1, ?_⟩
  rcases h.2 with hn | ⟨g, cap, cur, rfl, hg, hgg, rest⟩
  · exact .inl hn
  · exact .inr ⟨g, cap, cur, rfl, hg, (e g (heap_lt hgg) rfl).trans hgg, rest⟩
def gl (l : List Int) (i : Nat) : Int := l.getD i 0
theorem OwnInts.is {w : World} {base : Nat} {sl : Option Addr} {j c : Nat} {l : List Int} (h : OwnInts w base (.slice sl j c) l) : IsInts w sl j (gl l) := by
  obtain ⟨s, n, c', hv, hn, hi⟩ := h.shape
  obtain ⟨rfl, rfl, rfl⟩ := Value.slice.inj hv
  exact hi
/-- two slices that do not lie in one block -/
def Apart (v u : Value) : Prop := ∀ b, v.ownBlock = some b → u.ownBlock ≠ some b
theorem Apart.symm {v u : Value} (h : Apart v u) : Apart u v := fun b h1 h2 => h b h2 h1
theorem wpList_push2 {w : World} {ops : Array Oper} {rest : List Oper} {o : Oper} {a : Act} {Q : Exit → Act → World → Prop} (k : Int) (hgd : o.guard = none) (s x : Operand)
    (ho : o.op = .call { callee := .builtin .append, args := #[s, x], argTypes := #[22, 22] })
    (base : Nat) (sl : Option Addr) (j c : Nat) (l : List Int) (hs : a.eval s = .slice sl j c) (hx : a.eval x = .slice (some ⟨w.heap.size, 0, none⟩) 1 1) (hown : OwnInts w base (.slice sl j c) l) (hj : j < 4294967296) (hbase : base ≤ w.heap.size)
    (baseB : Nat) (vB : Value) (lB : List Int) (hB : OwnInts w baseB vB lB) (hap : Apart (.slice sl j c) vB)
    (h : ∀ s' c' w', OwnInts w' base (.slice s' (j + 1) c') (l ++ [k]) → OwnInts w' baseB vB lB → Apart (.slice s' (j + 1) c') vB → Below base w w' → wpList Tryd.prog ops Q rest (a.put o.dst (.slice s' (j + 1) c')) w') :
    wpList Tryd.prog ops Q (o :: rest) a (w.alloc (.cells #[.int .i64 k] 3)) := by
  obtain rfl := hown.len
  obtain ⟨i0, hi, hz0, hz1, hz2⟩ := info_parts Tryd.infoInt
  refine wpList_append_own_at _ hgd s x 22 ho base 3 i0 (.int .i64 0) 1 8 Tryd.underlying22 hi hz0 hz1 hz2 rfl (by decide) _ _ _ hs (hown.alloc _) ⟨w.heap.size, 0, none⟩ 1 1 [.int .i64 k] hx rfl (cell_one_new _ _ _) (ints_oneCell _ [k]) (by unfold maxLen; omega) (by omega) (by simp; omega) ?_
  intro v' w1 hown' hgrow _ hat
  obtain ⟨hp1, hp2, hp3, s', n2, c', rfl, hn2⟩ := own_push2 hown hown' hgrow hbase
  subst hn2
  refine h s' c' w1 hp1 (hB.kept fun b hb he => ?_) (fun b h1 h2 => ?_) hp2
  · rw [hgrow.block b (by simp; omega) (fun e => hap b e.symm he)]
    exact Below.heap_alloc w _ b hb
  · rcases hat with e | e
    · rw [e] at h1; exact hap b h1 h2
    · rw [e] at h1
      have h3 := (hB.lt b h2).2
      simp at h1
      omega
/-- one member more behind a list of the call's own: what it leaves alone -/
theorem wpList_push3 {w : World} {ops : Array Oper} {rest : List Oper} {o : Oper} {a : Act} {Q : Exit → Act → World → Prop} (k : Int) (hgd : o.guard = none) (s x : Operand)
    (ho : o.op = .call { callee := .builtin .append, args := #[s, x], argTypes := #[22, 22] })
    (base : Nat) (sl : Option Addr) (j c : Nat) (l : List Int) (hs : a.eval s = .slice sl j c) (hx : a.eval x = .slice (some ⟨w.heap.size, 0, none⟩) 1 1) (hown : OwnInts w base (.slice sl j c) l) (hj : j < 4294967296) (hbase : base ≤ w.heap.size)
    (h : ∀ s' c' w', OwnInts w' base (.slice s' (j + 1) c') (l ++ [k]) → w.grownBy w' (Value.slice sl j c).ownBlock → ((Value.slice s' (j + 1) c').ownBlock = (Value.slice sl j c).ownBlock ∨ ∃ b, (Value.slice s' (j + 1) c').ownBlock = some b ∧ w.heap.size ≤ b) → wpList Tryd.prog ops Q rest (a.put o.dst (.slice s' (j + 1) c')) w') :
    wpList Tryd.prog ops Q (o :: rest) a (w.alloc (.cells #[.int .i64 k] 3)) := by
  obtain rfl := hown.len
  obtain ⟨i0, hi, hz0, hz1, hz2⟩ := info_parts Tryd.infoInt
  refine wpList_append_own_at _ hgd s x 22 ho base 3 i0 (.int .i64 0) 1 8 Tryd.underlying22 hi hz0 hz1 hz2 rfl (by decide) _ _ _ hs (hown.alloc _) ⟨w.heap.size, 0, none⟩ 1 1 [.int .i64 k] hx rfl (cell_one_new _ _ _) (ints_oneCell _ [k]) (by unfold maxLen; omega) (by omega) (by simp; omega) ?_
  intro v' w1 hown' hgrow _ hat
  obtain ⟨hp1, hp2, hp3, s', n2, c', rfl, hn2⟩ := own_push2 hown hown' hgrow hbase
  subst hn2
  refine h s' c' w1 hp1 (World.grownBy.trans (World.grownBy_alloc w _ _) hgrow) ?_
  rcases hat with e | e
  · exact .inl e
  · exact .inr ⟨_, e, by simp⟩
theorem wpList_push {w : World} {ops : Array Oper} {rest : List Oper} {o : Oper} {a : Act} {Q : Exit → Act → World → Prop} (k : Int) (hgd : o.guard = none) (s x : Operand)
    (ho : o.op = .call { callee := .builtin .append, args := #[s, x], argTypes := #[22, 22] })
    (base : Nat) (sl : Option Addr) (j c : Nat) (f : Nat → Int) (hs : a.eval s = .slice sl j c) (hx : a.eval x = .slice (some ⟨w.heap.size, 0, none⟩) 1 1) (hown : OwnInts w base (.slice sl j c) (lst f j)) (hk : f j = k) (hj : j < 4294967296) (hbase : base ≤ w.heap.size)
    (h : ∀ s' c' w', OwnInts w' base (.slice s' (j + 1) c') (lst f (j + 1)) → Below base w w' → wpList Tryd.prog ops Q rest (a.put o.dst (.slice s' (j + 1) c')) w') : wpList Tryd.prog ops Q (o :: rest) a (w.alloc (.cells #[.int .i64 k] 3)) := by
  obtain ⟨i0, hi, hz0, hz1, hz2⟩ := info_parts Tryd.infoInt
  refine wpList_append_own _ hgd s x 22 ho base 3 i0 (.int .i64 0) 1 8 Tryd.underlying22 hi hz0 hz1 hz2 rfl (by decide) _ _ _ hs (hown.alloc _) ⟨w.heap.size, 0, none⟩ 1 1 [.int .i64 k] hx rfl (cell_one_new _ _ _) (ints_oneCell _ [k]) (by rw [lst_len]; unfold maxLen; omega) (by rw [lst_len]; omega) (by simp; omega) ?_
  intro v' w1 hown' hgrow _
  obtain ⟨hp1, hp2, hp3, s', n2, c', rfl, hn2⟩ := own_push2 hown hown' hgrow hbase
  rw [lst_len] at hn2
  subst hn2
  exact h s' c' w1 (OwnInts.as hp1 (by rw [lst_succ, hk])) hp2
theorem IsInts.cell {w : World} {b off n : Nat} {f : Nat → Int} (h : IsInts w (some ⟨b, off, none⟩) n f) {i : Nat} (hi : i < n) : w.cell? ⟨b, off + i, none⟩ = some (.int .i64 (f i)) := by
  rcases h with h | ⟨b', off', hs, hlt, hc⟩
  · omega
  · cases hs; exact hc i hi
end Go.Proofs.YtdegdoilpamjjaaDoor
