/- The base of lists of ints: those that came in, those of the call's own. Condition: fewer than 2^32 members. Plain: what keys spell, as package keys reads them; its tables. No program. What the bound of the second form gives: how many values a reading holds. No condition. Contracts for the tries of chapter 13: sameInts, begins. Condition: lists of at most maxLen members. -/
import Derived.Test.YtampjndfhpjheaaProg
import Derived.WalkKit
import Derived.WalkSpells
import Derived.WalkLawsBesides
import Derived.Deep.LoopGhost
import Derived.Lib.Hide
import Derived.Laws.AppendOwn
import Derived.Laws.OwnMore
import Derived.OwnWalk
import Derived.OneCell
import Derived.Laws.AppendOwnNone
import Derived.Deep.OwnRows
import Derived.Laws.CopyOwn
import Derived.Maps.AppendAt
import Derived.Test.YtampjndfhpjheaaRows
import Derived.Deep.RegionHeld3
namespace Go.Proofs.Ytampjndfhpjheaa
open Go.RowKit
theorem ret_bool {a b : Bool} (h : a = b) : Ending.returned (.bool a) = .returned (.bool b) := by rw [h]
theorem bt {w w1 w2 : World} (h : Below w.heap.size w w1) (k : Below w1.heap.size w1 w2) : Below w.heap.size w w2 := h.trans (k.mono h.size)
def IsInts (w : World) (s : Option Addr) (len : Nat) (f : Nat → Int) : Prop :=
 len = 0 ∨ ∃ b off, s = some ⟨b, off, none⟩ ∧ b < w.heap.size ∧ ∀ i, i < len → w.cell? ⟨b, off + i, none⟩ = some (.int .i64 (f i))
theorem IsInts.at {w w1 : World} {s : Option Addr} {len : Nat} {f : Nat → Int} (h : IsInts w s len f) (hb : Below w.heap.size w w1) {k : Nat} (hk : k < len) :
  ∃ b off, s = some ⟨b, off, none⟩ ∧ w1.cell? ⟨b, off + k, none⟩ = some (.int .i64 (f k)) := by
 rcases h with h | ⟨b, off, hs, hlt, hc⟩
 · omega
 · exact ⟨b, off, hs, (hb.cell (p := ⟨b, off + k, none⟩) hlt).trans (hc k hk)⟩
theorem IsInts.later {w w1 : World} {s : Option Addr} {len : Nat} {f : Nat → Int} (h : IsInts w s len f) (hb : Below w.heap.size w w1) : IsInts w1 s len f := by
 rcases h with h | ⟨b, off, hs, hlt, hc⟩
 · exact .inl h
 · exact .inr ⟨b, off, hs, Nat.lt_of_lt_of_le hlt hb.size, fun k hk => (hb.cell (p := ⟨b, off + k, none⟩) hlt).trans (hc k hk)⟩
theorem heap_lt {w : World} {g : Nat} {o : Obj} (h : w.heap[g]? = some o) : g < w.heap.size := by
 refine Classical.byContradiction fun hn => ?_
 rw [Array.getElem?_eq_none (by omega)] at h; cases h
theorem block_cell {w : World} {b i : Nat} {c : Array Value} {t : TypeId} (h : w.heap[b]? = some (.cells c t (0, 0))) : w.cell? ⟨b, i, none⟩ = c[i]? := by simp [World.cell?, h]
theorem block_free {w : World} {b i : Nat} {c : Array Value} {t : TypeId} (h : w.heap[b]? = some (.cells c t (0, 0))) : w.frozen? ⟨b, i, none⟩ = false := by simp [World.frozen?, h]
theorem block_set {w : World} {b i : Nat} {c : Array Value} {t : TypeId} {f : Nat × Nat} (v : Value) (h : w.heap[b]? = some (.cells c t f)) : (w.setCell ⟨b, i, none⟩ v).heap[b]? = some (.cells (c.setIfInBounds i v) t f) := by
 show (w.heap.modify b _)[b]? = _
 rw [Array.getElem?_modify, if_pos rfl, h]; rfl
theorem one_new (w : World) (o : Obj) : (w.alloc o).heap[w.heap.size]? = some o := by
 show (w.heap.push o)[w.heap.size]? = _
 simp
def IsBox (w : World) (b : Nat) (t : TypeId) (v : Value) : Prop := w.heap[b]? = some (.cells #[v] t (0, 0))
theorem IsBox.below {w w1 : World} {b : Nat} {t : TypeId} {v : Value} (h : IsBox w b t v) (hb : Below w.heap.size w w1) : IsBox w1 b t v := (hb.block b (heap_lt h)).trans h
theorem IsBox.cell {w : World} {b : Nat} {t : TypeId} {v : Value} (h : IsBox w b t v) : w.cell? ⟨b, 0, none⟩ = some v ∧ w.frozen? ⟨b, 0, none⟩ = false := ⟨block_cell h, block_free h⟩
theorem IsBox.set {w : World} {b : Nat} {t : TypeId} {v : Value} (h : IsBox w b t v) (u : Value) : IsBox (w.setCell ⟨b, 0, none⟩ u) b t u := block_set _ h
theorem IsBox.other {w : World} {b c : Nat} {t : TypeId} {v : Value} (h : IsBox w b t v) (hne : c ≠ b) (u : Value) : IsBox (w.setCell ⟨c, 0, none⟩ u) b t v := by
 show (w.heap.modify c _)[b]? = _
 rw [Array.getElem?_modify, if_neg hne]; exact h
theorem IsBox.new (w : World) (t : TypeId) (v : Value) : IsBox (w.alloc (.cells #[v] t)) w.heap.size t v := one_new w _
theorem IsBox.alloc {w : World} {b : Nat} {t : TypeId} {v : Value} (h : IsBox w b t v) (o : Obj) : IsBox (w.alloc o) b t v := by
 have := heap_lt h
 show (w.heap.push o)[b]? = _
 rw [Array.getElem?_push, if_neg (by omega)]; exact h
def OwnInts (w : World) (base : Nat) (v : Value) (l : List Int) : Prop := w.ownsRow base 3 1 v l.length (l.map (Value.int .i64))
theorem Try.infoInt : (Try.prog.info? 3).map (fun i => (i.zero, i.size, i.bytes)) = some (some (.int .i64 0), 1, 8) := by kernel_rfl
theorem OwnInts.later {w w1 : World} {base : Nat} {v : Value} {l : List Int} (h : OwnInts w base v l) (hb : Below w.heap.size w w1) : OwnInts w1 base v l := by
 refine ⟨h.1, ?_⟩
 rcases h.2 with hn | ⟨g, cap, cur, rfl, hg, hgg, rest⟩
 · exact .inl hn
 · exact .inr ⟨g, cap, cur, rfl, hg, (hb.block g (heap_lt hgg)).trans hgg, rest⟩
theorem OwnInts.mono {w : World} {base base' : Nat} {v : Value} {l : List Int} (h : OwnInts w base v l) (hb : base' ≤ base) : OwnInts w base' v l := by
 refine ⟨h.1, ?_⟩
 rcases h.2 with hn | ⟨g, cap, cur, rfl, hg, rest⟩
 · exact .inl hn
 · exact .inr ⟨g, cap, cur, rfl, Nat.le_trans hb hg, rest⟩
theorem OwnInts.isInts {w : World} {base : Nat} {v : Value} {l : List Int} (h : OwnInts w base v l) : ∃ sa cap, v = .slice sa l.length cap ∧ IsInts w sa l.length (fun i => l.getD i 0) ∧ l.length ≤ maxLen := by
 have h' := h
 rcases h.2 with ⟨rfl, hn⟩ | ⟨g, cap, cur, rfl, hg, hgg, hnc, hcm, hcs, htake⟩
 · exact ⟨none, 0, by rw [hn], .inl hn, by rw [hn]; exact Nat.zero_le _⟩
 ·
  refine ⟨some ⟨g, 0, none⟩, cap, rfl, .inr ⟨g, 0, rfl, heap_lt hgg, fun i hi => ?_⟩, Nat.le_trans hnc hcm⟩
  have := World.ownsRow.cellAt h' i (by omega)
  rw [Nat.zero_add, this]
  show _ = some (Value.int .i64 (l.getD i 0))
  rw [List.getElem?_map, List.getD_eq_getElem?_getD, List.getElem?_eq_getElem hi]; rfl
theorem OwnInts.shape {w : World} {base : Nat} {v : Value} {l : List Int} (h : OwnInts w base v l) : ∃ sa n cap, v = .slice sa n cap ∧ n = l.length ∧ IsInts w sa n (fun i => l.getD i 0) := by
 obtain ⟨sa, cap, hv, h1, _⟩ := h.isInts
 exact ⟨sa, _, cap, hv, rfl, h1⟩
theorem OwnInts.nil (w : World) (base : Nat) : OwnInts w base (.slice none 0 0) [] := World.ownsRow_nil w base _ 1
theorem OwnInts.as {w : World} {base : Nat} {v : Value} {l l' : List Int} (h : OwnInts w base v l) (e : l = l') : OwnInts w base v l' := e ▸ h
theorem own_box_ne {w : World} {base : Nat} {v : Value} {l : List Int} {b : Nat} {t : TypeId} {u : Value} (h : OwnInts w base v l) (hx : IsBox w b t u) (ht : t ≠ 3) : v.ownBlock ≠ some b := by
 intro hv
 rcases h.2 with ⟨rfl, _⟩ | ⟨g, cap, cur, rfl, _, hgg, _⟩
 · simp [Value.ownBlock] at hv
 ·
  simp [Value.ownBlock] at hv
  subst hv
  unfold IsBox at hx
  rw [hx] at hgg
  simp at hgg
  exact ht hgg.2
theorem IsBox.grown {w w1 : World} {b : Nat} {t : TypeId} {u : Value} {row : Option Nat} (h : IsBox w b t u) (hg : w.grownBy w1 row) (hne : row ≠ some b) : IsBox w1 b t u :=
 (hg.block b (heap_lt h) (fun e => hne e.symm)).trans h
theorem own_push {w w1 : World} {base : Nat} {v v' : Value} {l : List Int} {k : Int} (ho : OwnInts w base v l)
  (hown : w1.ownsRow base 3 1 v' (l.length + 1) (l.map (Value.int .i64) ++ [.int .i64 k])) (hgrow : (w.alloc (.cells #[.int .i64 k] 3)).grownBy w1 v.ownBlock) (hbase : base ≤ w.heap.size) :
  OwnInts w1 base v' (l ++ [k]) ∧ Below base w w1 ∧ (∀ b t u, IsBox w b t u → t ≠ 3 → IsBox w1 b t u) ∧ ∃ s c, v' = .slice s (l.length + 1) c := by
 have h1 : OwnInts w1 base v' (l ++ [k]) := by
  unfold OwnInts
  rw [List.length_append, List.map_append]; exact hown
 refine ⟨h1, ?_, ?_, ?_⟩
 ·
  refine Below.grown ((Below.refl _ _).alloc hbase _) hgrow (by simp; omega) ?_
  intro k' hk'
  exact (ho.lt k' hk').1
 ·
  intro b t u hx ht
  exact (hx.alloc _).grown hgrow (own_box_ne ho hx ht)
 ·
  rcases hown.2 with ⟨rfl, hn⟩ | ⟨g, cap, cur, rfl, _⟩
  · exact absurd hn (by omega)
  · exact ⟨_, _, rfl⟩
def lst (f : Nat → Int) (n : Nat) : List Int := (List.range n).map f
theorem lst_succ (f : Nat → Int) (n : Nat) : lst f (n + 1) = lst f n ++ [f n] := by unfold lst; rw [List.range_succ, List.map_append]; rfl
theorem lst_len (f : Nat → Int) (n : Nat) : (lst f n).length = n := by simp [lst]
theorem lst_get (l : List Int) : lst (fun i => l.getD i 0) l.length = l := by
 apply List.ext_getElem
 · simp [lst]
 ·
  intro i h1 h2
  simp [lst, List.getElem?_eq_getElem h2]
theorem lst_congr {f g : Nat → Int} {n : Nat} (h : ∀ i, i < n → f i = g i) : lst f n = lst g n := by
 unfold lst; apply List.map_congr_left; intro i hi; exact h i (List.mem_range.1 hi)
theorem lst_getD (f : Nat → Int) (n i : Nat) (h : i < n) : (lst f n).getD i 0 = f i := by
 rw [List.getD_eq_getElem?_getD, List.getElem?_eq_getElem (by rw [lst_len]; exact h)]; simp [lst]
theorem lst_ext {f g : Nat → Int} {n : Nat} (h : lst f n = lst g n) (i : Nat) (hi : i < n) : f i = g i := by
 rw [← lst_getD f n i hi, ← lst_getD g n i hi, h]
theorem own_push2 {w w1 : World} {base : Nat} {v v' : Value} {l : List Int} {k : Int} (ho : OwnInts w base v l)
  (hown : w1.ownsRow base 3 1 v' (l.length + 1) (l.map (Value.int .i64) ++ [.int .i64 k])) (hgrow : (w.alloc (.cells #[.int .i64 k] 3)).grownBy w1 v.ownBlock) (hbase : base ≤ w.heap.size) :
  OwnInts w1 base v' (l ++ [k]) ∧ Below base w w1 ∧ (∀ b t u, IsBox w b t u → t ≠ 3 → IsBox w1 b t u) ∧ ∃ s n c, v' = .slice s n c ∧ n = l.length + 1 := by
 obtain ⟨h1, h2, h3, s, c, h4⟩ := own_push ho hown hgrow hbase
 exact ⟨h1, h2, h3, s, _, c, h4, rfl⟩
theorem IsInts.same {w : World} {s : Option Addr} {n : Nat} {f g : Nat → Int} (h : IsInts w s n f) (he : ∀ i, i < n → f i = g i) : IsInts w s n g := by
 rcases h with h | ⟨b, off, hs, hb, hc⟩
 · exact .inl h
 · exact .inr ⟨b, off, hs, hb, fun i hi => by rw [← he i hi]; exact hc i hi⟩
theorem OwnInts.list {w : World} {base : Nat} {v : Value} {f : Nat → Int} {n : Nat} (h : OwnInts w base v (lst f n)) : ∃ s c, v = .slice s n c ∧ n ≤ c ∧ (s = none → n = 0 ∧ c = 0) ∧ IsInts w s n f := by
 have hc : ∃ s c, v = .slice s n c ∧ n ≤ c ∧ (s = none → n = 0 ∧ c = 0) := by
  rcases h.2 with ⟨h1, h2⟩ | ⟨g, cap, cur, h1, _, _, h2, _⟩
  · rw [lst_len] at h2; exact ⟨none, 0, by rw [h1, h2], by omega, fun _ => ⟨h2, rfl⟩⟩
  · rw [lst_len] at h1 h2; exact ⟨_, cap, h1, h2, fun h => by cases h⟩
 obtain ⟨s, c, rfl, h1, h2⟩ := hc
 obtain ⟨s', c', hv, hi, _⟩ := h.isInts
 obtain ⟨rfl, _, rfl⟩ := Value.slice.inj hv
 rw [lst_len] at hi
 exact ⟨s, c, rfl, h1, h2, hi.same fun i hi => lst_getD f n i hi⟩
theorem ints_one (l : List Int) : ∀ u ∈ l.map (Value.int .i64), u.oneCell' = true := by
 intro u hu
 obtain ⟨x, _, rfl⟩ := List.mem_map.1 hu
 rfl
def IRow (w : World) (b n : Nat) (f : Nat → Int) : Prop := ∃ cs : Array Value, w.heap[b]? = some (.cells cs 3 (0, 0)) ∧ n ≤ cs.size ∧ ∀ i, i < n → cs[i]? = some (.int .i64 (f i))
theorem IRow.lt {w : World} {b n : Nat} {f : Nat → Int} (h : IRow w b n f) : b < w.heap.size := by
 obtain ⟨cs, h1, _⟩ := h
 exact heap_lt h1
theorem IRow.cell {w : World} {b n : Nat} {f : Nat → Int} (h : IRow w b n f) {i : Nat} (hi : i < n) : w.cell? ⟨b, i, none⟩ = some (.int .i64 (f i)) := by
 obtain ⟨cs, h1, h2, h3⟩ := h
 rw [← h3 i hi]
 simp [World.cell?, h1]
theorem IRow.free {w : World} {b n : Nat} {f : Nat → Int} (h : IRow w b n f) (i : Nat) : w.frozen? ⟨b, i, none⟩ = false := by
 obtain ⟨cs, h1, h2, h3⟩ := h
 simp [World.frozen?, h1]
theorem IRow.same {w : World} {b n : Nat} {f g : Nat → Int} (h : IRow w b n f) (e : ∀ i, i < n → f i = g i) : IRow w b n g := by
 obtain ⟨cs, h1, h2, h3⟩ := h
 exact ⟨cs, h1, h2, fun i hi => by rw [← e i hi]; exact h3 i hi⟩
theorem IRow.block {w w' : World} {b n : Nat} {f : Nat → Int} (h : IRow w b n f) (e : w'.heap[b]? = w.heap[b]?) : IRow w' b n f := by
 obtain ⟨cs, h1, h2, h3⟩ := h
 exact ⟨cs, e.trans h1, h2, h3⟩
theorem IRow.below {w w' : World} {b n B : Nat} {f : Nat → Int} (h : IRow w b n f) (hb : Below B w w') (hB : b < B) : IRow w' b n f := h.block (hb.block b hB)
theorem IRow.later {w w' : World} {b n : Nat} {f : Nat → Int} (h : IRow w b n f) (hb : Below w.heap.size w w') : IRow w' b n f := h.below hb h.lt
theorem IRow.other {w : World} {b n c i : Nat} {f : Nat → Int} (h : IRow w b n f) (hne : b ≠ c) (v : Value) : IRow (w.setCell ⟨c, i, none⟩ v) b n f := h.block (Below.heap_setCell w ⟨c, i, none⟩ v b hne)
theorem IRow.set {w : World} {b n : Nat} {f g : Nat → Int} (h : IRow w b n f) (i : Nat) (x : Int) (hg : ∀ j, j < n → g j = if j = i then x else f j) : IRow (w.setCell ⟨b, i, none⟩ (.int .i64 x)) b n g := by
 obtain ⟨cs, h1, h2, h3⟩ := h
 refine ⟨cs.setIfInBounds i (.int .i64 x), ?_, by simpa using h2, fun j hj => ?_⟩
 ·
  show (w.heap.modify b _)[b]? = _
  rw [Array.getElem?_modify, if_pos rfl, h1]; rfl
 ·
  rw [hg j hj, Array.getElem?_setIfInBounds]
  by_cases hji : j = i
  ·
   subst hji
   rw [if_pos rfl, if_pos (by omega), if_pos rfl]
  · rw [if_neg (by omega), if_neg hji]; exact h3 j hj
theorem OwnInts.row {w : World} {base n c : Nat} {s : Option Addr} {f : Nat → Int} (h : OwnInts w base (.slice s n c) (lst f n)) : n = 0 ∨ ∃ g, s = some ⟨g, 0, none⟩ ∧ base ≤ g ∧ IRow w g n f := by
 rcases h.2 with ⟨h1, h2⟩ | ⟨g, cap, cur, h1, hg, hgg, hnc, hcm, hcs, htake⟩
 · rw [lst_len] at h2; exact .inl h2
 ·
  by_cases h0 : n = 0
  · exact .inl h0
  ·
   have h' := h
   rw [lst_len] at h1 hnc
   obtain ⟨rfl, _, rfl⟩ := Value.slice.inj h1
   refine .inr ⟨g, rfl, hg, cur, hgg, by omega, fun i hi => ?_⟩
   unfold OwnInts at h'
   rw [lst_len] at h'
   have hc := World.ownsRow.cellAt h' i (by omega)
   have hc2 : w.cell? ⟨g, i, none⟩ = cur[i]? := by simp [World.cell?, hgg]
   rw [← hc2, hc, List.getElem?_map, List.getElem?_eq_getElem (by rw [lst_len]; exact hi)]
   simp [lst]
theorem OwnInts.len {w : World} {base : Nat} {sl : Option Addr} {j c : Nat} {l : List Int} (h : OwnInts w base (.slice sl j c) l) : j = l.length := by
 rcases h.2 with ⟨h1, h2⟩ | ⟨g, cap, cur, h1, _⟩
 · rw [(Value.slice.inj h1).2.1, h2]
 · exact (Value.slice.inj h1).2.1
theorem OwnInts.kept {w w' : World} {base : Nat} {v : Value} {l : List Int} (h : OwnInts w base v l) (e : ∀ b, b < w.heap.size → v.ownBlock = some b → w'.heap[b]? = w.heap[b]?) : OwnInts w' base v l := by
 refine ⟨h.1, ?_⟩
 rcases h.2 with hn | ⟨g, cap, cur, rfl, hg, hgg, rest⟩
 · exact .inl hn
 · exact .inr ⟨g, cap, cur, rfl, hg, (e g (heap_lt hgg) rfl).trans hgg, rest⟩
def gl (l : List Int) (i : Nat) : Int := l.getD i 0
theorem OwnInts.is {w : World} {base : Nat} {sl : Option Addr} {j c : Nat} {l : List Int} (h : OwnInts w base (.slice sl j c) l) : IsInts w sl j (gl l) := by
 obtain ⟨s, n, c', hv, hn, hi⟩ := h.shape
 obtain ⟨rfl, rfl, rfl⟩ := Value.slice.inj hv
 exact hi
def Apart (v u : Value) : Prop := ∀ b, v.ownBlock = some b → u.ownBlock ≠ some b
theorem Apart.symm {v u : Value} (h : Apart v u) : Apart u v := fun b h1 h2 => h b h2 h1
theorem wpList_push3 {w : World} {ops : Array Oper} {rest : List Oper} {o : Oper} {a : Act} {Q : Exit → Act → World → Prop} (k : Int) (hgd : o.guard = none) (s x : Operand)
  (ho : o.op = .call { callee := .builtin .append, args := #[s, x], argTypes := #[33, 33] })
  (base : Nat) (sl : Option Addr) (j c : Nat) (l : List Int) (hs : a.eval s = .slice sl j c) (hx : a.eval x = .slice (some ⟨w.heap.size, 0, none⟩) 1 1) (hown : OwnInts w base (.slice sl j c) l) (hj : j < 4294967296) (hbase : base ≤ w.heap.size)
  (h : ∀ s' c' w', OwnInts w' base (.slice s' (j + 1) c') (l ++ [k]) → w.grownBy w' (Value.slice sl j c).ownBlock → ((Value.slice s' (j + 1) c').ownBlock = (Value.slice sl j c).ownBlock ∨ ∃ b, (Value.slice s' (j + 1) c').ownBlock = some b ∧ w.heap.size ≤ b) → wpList Try.prog ops Q rest (a.put o.dst (.slice s' (j + 1) c')) w') :
  wpList Try.prog ops Q (o :: rest) a (w.alloc (.cells #[.int .i64 k] 3)) := by
 obtain rfl := hown.len
 obtain ⟨i0, hi, hz0, hz1, hz2⟩ := info_parts Try.infoInt
 refine wpList_append_own_at _ hgd s x 33 ho base 3 i0 (.int .i64 0) 1 8 Try.underlying33 hi hz0 hz1 hz2 rfl (by decide) _ _ _ hs (hown.alloc _) ⟨w.heap.size, 0, none⟩ 1 1 [.int .i64 k] hx rfl (cell_one_new _ _ _) (ints_oneCell _ [k]) (by unfold maxLen; omega) (by omega) (by simp; omega) ?_
 intro v' w1 hown' hgrow _ hat
 obtain ⟨hp1, hp2, hp3, s', n2, c', rfl, hn2⟩ := own_push2 hown hown' hgrow hbase
 subst hn2
 refine h s' c' w1 hp1 (World.grownBy.trans (World.grownBy_alloc w _ _) hgrow) ?_
 rcases hat with e | e
 · exact .inl e
 · exact .inr ⟨_, e, by simp⟩
theorem wpList_push {w : World} {ops : Array Oper} {rest : List Oper} {o : Oper} {a : Act} {Q : Exit → Act → World → Prop} (k : Int) (hgd : o.guard = none) (s x : Operand)
  (ho : o.op = .call { callee := .builtin .append, args := #[s, x], argTypes := #[33, 33] })
  (base : Nat) (sl : Option Addr) (j c : Nat) (f : Nat → Int) (hs : a.eval s = .slice sl j c) (hx : a.eval x = .slice (some ⟨w.heap.size, 0, none⟩) 1 1) (hown : OwnInts w base (.slice sl j c) (lst f j)) (hk : f j = k) (hj : j < 4294967296) (hbase : base ≤ w.heap.size)
  (h : ∀ s' c' w', OwnInts w' base (.slice s' (j + 1) c') (lst f (j + 1)) → Below base w w' → wpList Try.prog ops Q rest (a.put o.dst (.slice s' (j + 1) c')) w') : wpList Try.prog ops Q (o :: rest) a (w.alloc (.cells #[.int .i64 k] 3)) := by
 obtain ⟨i0, hi, hz0, hz1, hz2⟩ := info_parts Try.infoInt
 refine wpList_append_own _ hgd s x 33 ho base 3 i0 (.int .i64 0) 1 8 Try.underlying33 hi hz0 hz1 hz2 rfl (by decide) _ _ _ hs (hown.alloc _) ⟨w.heap.size, 0, none⟩ 1 1 [.int .i64 k] hx rfl (cell_one_new _ _ _) (ints_oneCell _ [k]) (by rw [lst_len]; unfold maxLen; omega) (by rw [lst_len]; omega) (by simp; omega) ?_
 intro v' w1 hown' hgrow _
 obtain ⟨hp1, hp2, hp3, s', n2, c', rfl, hn2⟩ := own_push2 hown hown' hgrow hbase
 rw [lst_len] at hn2
 subst hn2
 exact h s' c' w1 (OwnInts.as hp1 (by rw [lst_succ, hk])) hp2
theorem IsInts.cell {w : World} {b off n : Nat} {f : Nat → Int} (h : IsInts w (some ⟨b, off, none⟩) n f) {i : Nat} (hi : i < n) : w.cell? ⟨b, off + i, none⟩ = some (.int .i64 (f i)) := by
 rcases h with h | ⟨b', off', hs, hlt, hc⟩
 · omega
 · cases hs; exact hc i hi
end Go.Proofs.Ytampjndfhpjheaa
namespace Go.Proofs.Ytampjndfhpjheaa
structure Bd where
 verb : Int
 move : Int
 arg : Int
 more : Bool
 own : List (List Int)
structure Cmd where
 reg : Int
 count : Int
 verb : Int
 move : Int
 arg : Int
theorem Cmd.eq_iff (a b : Cmd) : a = b ↔ a.reg = b.reg ∧ a.count = b.count ∧ a.verb = b.verb ∧ a.move = b.move ∧ a.arg = b.arg := by
 cases a; cases b; simp
instance : DecidableEq Cmd := fun a b => decidable_of_iff _ (Cmd.eq_iff a b).symm
def cmd0 : Cmd := ⟨0, 0, 0, 0, 0⟩
abbrev Rows := List (List Int × Bd)
def motionsL : List (List Int × Int × Int × Int) := [
 ([104, 32, 8], 0, 1, 0),
 ([108, 32, 115, 112, 97, 99, 101], 0, 2, 0),
 ([48], 0, 3, 0),
 ([94], 0, 4, 0),
 ([36], 0, 5, 0),
 ([124], 0, 6, 0),
 ([106], 0, 11, 0),
 ([107], 0, 12, 0),
 ([43, 32, 13], 0, 13, 0),
 ([45], 0, 14, 0),
 ([95], 0, 15, 0),
 ([71], 0, 16, 0),
 ([103, 103], 0, 17, 0),
 ([119], 0, 21, 0),
 ([98], 0, 22, 0),
 ([101], 0, 23, 0),
 ([103, 101], 0, 24, 0),
 ([87], 0, 25, 0),
 ([66], 0, 26, 0),
 ([69], 0, 27, 0),
 ([103, 69], 0, 28, 0),
 ([125], 0, 31, 0),
 ([123], 0, 32, 0),
 ([59], 0, 41, 0),
 ([44], 0, 42, 0),
 ([47], 0, 43, 0),
 ([63], 0, 44, 0),
 ([110], 0, 45, 0),
 ([78], 0, 46, 0),
 ([42], 0, 47, 0),
 ([35], 0, 48, 0),
 ([72], 0, 51, 0),
 ([77], 0, 52, 0),
 ([76], 0, 53, 0),
 ([37], 0, 33, 0)]
def seeksL : List (List Int × Int × Int × Int) := [
 ([102], 0, 7, 0),
 ([70], 0, 8, 0),
 ([116], 0, 9, 0),
 ([84], 0, 10, 0),
 ([96], 0, 49, 0),
 ([39], 0, 50, 0)]
def objectsL : List (List Int × Int × Int × Int) := [
 ([119], 0, 61, 0),
 ([87], 0, 63, 0),
 ([112], 0, 69, 0),
 ([34], 0, 65, 34),
 ([39], 0, 65, 39),
 ([96], 0, 65, 96),
 ([40, 32, 41, 32, 98], 0, 67, 40),
 ([91, 32, 93], 0, 67, 91),
 ([123, 32, 125, 32, 66], 0, 67, 123),
 ([60, 32, 62], 0, 67, 60)]
def operatorsL : List (List Int × Int × Int × Int) := [
 ([100], 2, 0, 0),
 ([99], 3, 0, 0),
 ([121], 4, 0, 0),
 ([62], 8, 0, 0),
 ([60], 9, 0, 0),
 ([103, 85], 5, 0, 0),
 ([103, 117], 6, 0, 0),
 ([103, 126], 7, 0, 0)]
def scrollsL : List (List Int × Int × Int × Int) := [
 ([122, 116], 38, 0, 0),
 ([122, 122], 39, 0, 0),
 ([122, 98], 40, 0, 0),
 ([6], 32, 0, 0),
 ([2], 33, 0, 0),
 ([4], 34, 0, 0),
 ([21], 35, 0, 0),
 ([5], 36, 0, 0),
 ([25], 37, 0, 0)]
def namedL : List (List Int × Int × Int × Int) := [
 ([114], 16, 0, 0),
 ([113], 28, 0, 0),
 ([64], 29, 0, 0),
 ([109], 30, 0, 0)]
def bothL : List (List Int × Int × Int × Int) := [
 ([112], 18, 0, 0),
 ([80], 19, 0, 0),
 ([74], 20, 0, 0),
 ([103, 74], 21, 0, 0),
 ([118], 26, 0, 0),
 ([86], 27, 0, 0),
 ([58], 31, 0, 0)]
def ofNormalL : List (List Int × Int × Int × Int) := [
 ([120], 2, 2, 0),
 ([88], 2, 1, 0),
 ([68], 2, 5, 0),
 ([115], 3, 2, 0),
 ([83], 3, 60, 0),
 ([67], 3, 5, 0),
 ([89], 4, 60, 0),
 ([105], 10, 0, 0),
 ([97], 11, 0, 0),
 ([73], 12, 0, 0),
 ([65], 13, 0, 0),
 ([111], 14, 0, 0),
 ([79], 15, 0, 0),
 ([82], 17, 0, 0),
 ([126], 22, 0, 0),
 ([117], 23, 0, 0),
 ([18], 24, 0, 0),
 ([46], 25, 0, 0),
 ([38], 43, 0, 0),
 ([103, 118], 44, 0, 0),
 ([90, 90], 41, 0, 0),
 ([90, 81], 42, 0, 0)]
def ofSelectionL : List (List Int × Int × Int × Int) := [
 ([100, 32, 120], 2, 0, 0),
 ([99, 32, 115], 3, 0, 0),
 ([121], 4, 0, 0),
 ([62], 8, 0, 0),
 ([60], 9, 0, 0),
 ([85, 32, 103, 85], 5, 0, 0),
 ([117, 32, 103, 117], 6, 0, 0),
 ([126, 32, 103, 126], 7, 0, 0),
 ([111], 45, 0, 0)]
def normalT : List (List Int × Bd) := [
 ([104], ⟨1, 1, 0, false, []⟩), ([8], ⟨1, 1, 0, false, []⟩), ([108], ⟨1, 2, 0, false, []⟩),
 ([32], ⟨1, 2, 0, false, []⟩), ([48], ⟨1, 3, 0, false, []⟩), ([94], ⟨1, 4, 0, false, []⟩),
 ([36], ⟨1, 5, 0, false, []⟩), ([124], ⟨1, 6, 0, false, []⟩), ([106], ⟨1, 11, 0, false, []⟩),
 ([107], ⟨1, 12, 0, false, []⟩), ([43], ⟨1, 13, 0, false, []⟩), ([13], ⟨1, 13, 0, false, []⟩),
 ([45], ⟨1, 14, 0, false, []⟩), ([95], ⟨1, 15, 0, false, []⟩), ([71], ⟨1, 16, 0, false, []⟩),
 ([103, 103], ⟨1, 17, 0, false, []⟩), ([119], ⟨1, 21, 0, false, []⟩), ([98], ⟨1, 22, 0, false, []⟩),
 ([101], ⟨1, 23, 0, false, []⟩), ([103, 101], ⟨1, 24, 0, false, []⟩), ([87], ⟨1, 25, 0, false, []⟩),
 ([66], ⟨1, 26, 0, false, []⟩), ([69], ⟨1, 27, 0, false, []⟩), ([103, 69], ⟨1, 28, 0, false, []⟩),
 ([125], ⟨1, 31, 0, false, []⟩), ([123], ⟨1, 32, 0, false, []⟩), ([59], ⟨1, 41, 0, false, []⟩),
 ([44], ⟨1, 42, 0, false, []⟩), ([47], ⟨1, 43, 0, false, []⟩), ([63], ⟨1, 44, 0, false, []⟩),
 ([110], ⟨1, 45, 0, false, []⟩), ([78], ⟨1, 46, 0, false, []⟩), ([42], ⟨1, 47, 0, false, []⟩),
 ([35], ⟨1, 48, 0, false, []⟩), ([72], ⟨1, 51, 0, false, []⟩), ([77], ⟨1, 52, 0, false, []⟩),
 ([76], ⟨1, 53, 0, false, []⟩), ([37], ⟨1, 33, 0, false, []⟩), ([102], ⟨1, 7, 0, true, []⟩),
 ([70], ⟨1, 8, 0, true, []⟩), ([116], ⟨1, 9, 0, true, []⟩), ([84], ⟨1, 10, 0, true, []⟩),
 ([96], ⟨1, 49, 0, true, []⟩), ([39], ⟨1, 50, 0, true, []⟩), ([122, 116], ⟨38, 0, 0, false, []⟩),
 ([122, 122], ⟨39, 0, 0, false, []⟩), ([122, 98], ⟨40, 0, 0, false, []⟩), ([6], ⟨32, 0, 0, false, []⟩),
 ([2], ⟨33, 0, 0, false, []⟩), ([4], ⟨34, 0, 0, false, []⟩), ([21], ⟨35, 0, 0, false, []⟩),
 ([5], ⟨36, 0, 0, false, []⟩), ([25], ⟨37, 0, 0, false, []⟩), ([112], ⟨18, 0, 0, false, []⟩),
 ([80], ⟨19, 0, 0, false, []⟩), ([74], ⟨20, 0, 0, false, []⟩), ([103, 74], ⟨21, 0, 0, false, []⟩),
 ([118], ⟨26, 0, 0, false, []⟩), ([86], ⟨27, 0, 0, false, []⟩), ([58], ⟨31, 0, 0, false, []⟩),
 ([114], ⟨16, 0, 0, true, []⟩), ([113], ⟨28, 0, 0, true, []⟩), ([64], ⟨29, 0, 0, true, []⟩),
 ([109], ⟨30, 0, 0, true, []⟩), ([120], ⟨2, 2, 0, false, []⟩), ([88], ⟨2, 1, 0, false, []⟩),
 ([68], ⟨2, 5, 0, false, []⟩), ([115], ⟨3, 2, 0, false, []⟩), ([83], ⟨3, 60, 0, false, []⟩),
 ([67], ⟨3, 5, 0, false, []⟩), ([89], ⟨4, 60, 0, false, []⟩), ([105], ⟨10, 0, 0, false, []⟩),
 ([97], ⟨11, 0, 0, false, []⟩), ([73], ⟨12, 0, 0, false, []⟩), ([65], ⟨13, 0, 0, false, []⟩),
 ([111], ⟨14, 0, 0, false, []⟩), ([79], ⟨15, 0, 0, false, []⟩), ([82], ⟨17, 0, 0, false, []⟩),
 ([126], ⟨22, 0, 0, false, []⟩), ([117], ⟨23, 0, 0, false, []⟩), ([18], ⟨24, 0, 0, false, []⟩),
 ([46], ⟨25, 0, 0, false, []⟩), ([38], ⟨43, 0, 0, false, []⟩), ([103, 118], ⟨44, 0, 0, false, []⟩),
 ([90, 90], ⟨41, 0, 0, false, []⟩), ([90, 81], ⟨42, 0, 0, false, []⟩), ([100], ⟨2, 0, 0, false, [[100]]⟩),
 ([99], ⟨3, 0, 0, false, [[99]]⟩), ([121], ⟨4, 0, 0, false, [[121]]⟩), ([62], ⟨8, 0, 0, false, [[62]]⟩),
 ([60], ⟨9, 0, 0, false, [[60]]⟩), ([103, 85], ⟨5, 0, 0, false, [[85], [103, 85]]⟩), ([103, 117], ⟨6, 0, 0, false, [[117], [103, 117]]⟩),
 ([103, 126], ⟨7, 0, 0, false, [[126], [103, 126]]⟩)]
def selectedT : List (List Int × Bd) := [
 ([104], ⟨1, 1, 0, false, []⟩), ([8], ⟨1, 1, 0, false, []⟩), ([108], ⟨1, 2, 0, false, []⟩),
 ([32], ⟨1, 2, 0, false, []⟩), ([48], ⟨1, 3, 0, false, []⟩), ([94], ⟨1, 4, 0, false, []⟩),
 ([36], ⟨1, 5, 0, false, []⟩), ([124], ⟨1, 6, 0, false, []⟩), ([106], ⟨1, 11, 0, false, []⟩),
 ([107], ⟨1, 12, 0, false, []⟩), ([43], ⟨1, 13, 0, false, []⟩), ([13], ⟨1, 13, 0, false, []⟩),
 ([45], ⟨1, 14, 0, false, []⟩), ([95], ⟨1, 15, 0, false, []⟩), ([71], ⟨1, 16, 0, false, []⟩),
 ([103, 103], ⟨1, 17, 0, false, []⟩), ([119], ⟨1, 21, 0, false, []⟩), ([98], ⟨1, 22, 0, false, []⟩),
 ([101], ⟨1, 23, 0, false, []⟩), ([103, 101], ⟨1, 24, 0, false, []⟩), ([87], ⟨1, 25, 0, false, []⟩),
 ([66], ⟨1, 26, 0, false, []⟩), ([69], ⟨1, 27, 0, false, []⟩), ([103, 69], ⟨1, 28, 0, false, []⟩),
 ([125], ⟨1, 31, 0, false, []⟩), ([123], ⟨1, 32, 0, false, []⟩), ([59], ⟨1, 41, 0, false, []⟩),
 ([44], ⟨1, 42, 0, false, []⟩), ([47], ⟨1, 43, 0, false, []⟩), ([63], ⟨1, 44, 0, false, []⟩),
 ([110], ⟨1, 45, 0, false, []⟩), ([78], ⟨1, 46, 0, false, []⟩), ([42], ⟨1, 47, 0, false, []⟩),
 ([35], ⟨1, 48, 0, false, []⟩), ([72], ⟨1, 51, 0, false, []⟩), ([77], ⟨1, 52, 0, false, []⟩),
 ([76], ⟨1, 53, 0, false, []⟩), ([37], ⟨1, 33, 0, false, []⟩), ([102], ⟨1, 7, 0, true, []⟩),
 ([70], ⟨1, 8, 0, true, []⟩), ([116], ⟨1, 9, 0, true, []⟩), ([84], ⟨1, 10, 0, true, []⟩),
 ([96], ⟨1, 49, 0, true, []⟩), ([39], ⟨1, 50, 0, true, []⟩), ([122, 116], ⟨38, 0, 0, false, []⟩),
 ([122, 122], ⟨39, 0, 0, false, []⟩), ([122, 98], ⟨40, 0, 0, false, []⟩), ([6], ⟨32, 0, 0, false, []⟩),
 ([2], ⟨33, 0, 0, false, []⟩), ([4], ⟨34, 0, 0, false, []⟩), ([21], ⟨35, 0, 0, false, []⟩),
 ([5], ⟨36, 0, 0, false, []⟩), ([25], ⟨37, 0, 0, false, []⟩), ([112], ⟨18, 0, 0, false, []⟩),
 ([80], ⟨19, 0, 0, false, []⟩), ([74], ⟨20, 0, 0, false, []⟩), ([103, 74], ⟨21, 0, 0, false, []⟩),
 ([118], ⟨26, 0, 0, false, []⟩), ([86], ⟨27, 0, 0, false, []⟩), ([58], ⟨31, 0, 0, false, []⟩),
 ([114], ⟨16, 0, 0, true, []⟩), ([113], ⟨28, 0, 0, true, []⟩), ([64], ⟨29, 0, 0, true, []⟩),
 ([109], ⟨30, 0, 0, true, []⟩), ([100], ⟨2, 0, 0, false, []⟩), ([120], ⟨2, 0, 0, false, []⟩),
 ([99], ⟨3, 0, 0, false, []⟩), ([115], ⟨3, 0, 0, false, []⟩), ([121], ⟨4, 0, 0, false, []⟩),
 ([62], ⟨8, 0, 0, false, []⟩), ([60], ⟨9, 0, 0, false, []⟩), ([85], ⟨5, 0, 0, false, []⟩),
 ([103, 85], ⟨5, 0, 0, false, []⟩), ([117], ⟨6, 0, 0, false, []⟩), ([103, 117], ⟨6, 0, 0, false, []⟩),
 ([126], ⟨7, 0, 0, false, []⟩), ([103, 126], ⟨7, 0, 0, false, []⟩), ([111], ⟨45, 0, 0, false, []⟩),
 ([105, 119], ⟨1, 61, 0, false, []⟩), ([97, 119], ⟨1, 62, 0, false, []⟩), ([105, 87], ⟨1, 63, 0, false, []⟩),
 ([97, 87], ⟨1, 64, 0, false, []⟩), ([105, 112], ⟨1, 69, 0, false, []⟩), ([97, 112], ⟨1, 70, 0, false, []⟩),
 ([105, 34], ⟨1, 65, 34, false, []⟩), ([97, 34], ⟨1, 66, 34, false, []⟩), ([105, 39], ⟨1, 65, 39, false, []⟩),
 ([97, 39], ⟨1, 66, 39, false, []⟩), ([105, 96], ⟨1, 65, 96, false, []⟩), ([97, 96], ⟨1, 66, 96, false, []⟩),
 ([105, 40], ⟨1, 67, 40, false, []⟩), ([97, 40], ⟨1, 68, 40, false, []⟩), ([105, 41], ⟨1, 67, 40, false, []⟩),
 ([97, 41], ⟨1, 68, 40, false, []⟩), ([105, 98], ⟨1, 67, 40, false, []⟩), ([97, 98], ⟨1, 68, 40, false, []⟩),
 ([105, 91], ⟨1, 67, 91, false, []⟩), ([97, 91], ⟨1, 68, 91, false, []⟩), ([105, 93], ⟨1, 67, 91, false, []⟩),
 ([97, 93], ⟨1, 68, 91, false, []⟩), ([105, 123], ⟨1, 67, 123, false, []⟩), ([97, 123], ⟨1, 68, 123, false, []⟩),
 ([105, 125], ⟨1, 67, 123, false, []⟩), ([97, 125], ⟨1, 68, 123, false, []⟩), ([105, 66], ⟨1, 67, 123, false, []⟩),
 ([97, 66], ⟨1, 68, 123, false, []⟩), ([105, 60], ⟨1, 67, 60, false, []⟩), ([97, 60], ⟨1, 68, 60, false, []⟩),
 ([105, 62], ⟨1, 67, 60, false, []⟩), ([97, 62], ⟨1, 68, 60, false, []⟩)]
def behindT : List (List Int × Bd) := [
 ([104], ⟨1, 1, 0, false, []⟩), ([8], ⟨1, 1, 0, false, []⟩), ([108], ⟨1, 2, 0, false, []⟩),
 ([32], ⟨1, 2, 0, false, []⟩), ([48], ⟨1, 3, 0, false, []⟩), ([94], ⟨1, 4, 0, false, []⟩),
 ([36], ⟨1, 5, 0, false, []⟩), ([124], ⟨1, 6, 0, false, []⟩), ([106], ⟨1, 11, 0, false, []⟩),
 ([107], ⟨1, 12, 0, false, []⟩), ([43], ⟨1, 13, 0, false, []⟩), ([13], ⟨1, 13, 0, false, []⟩),
 ([45], ⟨1, 14, 0, false, []⟩), ([95], ⟨1, 15, 0, false, []⟩), ([71], ⟨1, 16, 0, false, []⟩),
 ([103, 103], ⟨1, 17, 0, false, []⟩), ([119], ⟨1, 21, 0, false, []⟩), ([98], ⟨1, 22, 0, false, []⟩),
 ([101], ⟨1, 23, 0, false, []⟩), ([103, 101], ⟨1, 24, 0, false, []⟩), ([87], ⟨1, 25, 0, false, []⟩),
 ([66], ⟨1, 26, 0, false, []⟩), ([69], ⟨1, 27, 0, false, []⟩), ([103, 69], ⟨1, 28, 0, false, []⟩),
 ([125], ⟨1, 31, 0, false, []⟩), ([123], ⟨1, 32, 0, false, []⟩), ([59], ⟨1, 41, 0, false, []⟩),
 ([44], ⟨1, 42, 0, false, []⟩), ([47], ⟨1, 43, 0, false, []⟩), ([63], ⟨1, 44, 0, false, []⟩),
 ([110], ⟨1, 45, 0, false, []⟩), ([78], ⟨1, 46, 0, false, []⟩), ([42], ⟨1, 47, 0, false, []⟩),
 ([35], ⟨1, 48, 0, false, []⟩), ([72], ⟨1, 51, 0, false, []⟩), ([77], ⟨1, 52, 0, false, []⟩),
 ([76], ⟨1, 53, 0, false, []⟩), ([37], ⟨1, 33, 0, false, []⟩), ([102], ⟨1, 7, 0, true, []⟩),
 ([70], ⟨1, 8, 0, true, []⟩), ([116], ⟨1, 9, 0, true, []⟩), ([84], ⟨1, 10, 0, true, []⟩),
 ([96], ⟨1, 49, 0, true, []⟩), ([39], ⟨1, 50, 0, true, []⟩), ([105, 119], ⟨1, 61, 0, false, []⟩),
 ([97, 119], ⟨1, 62, 0, false, []⟩), ([105, 87], ⟨1, 63, 0, false, []⟩), ([97, 87], ⟨1, 64, 0, false, []⟩),
 ([105, 112], ⟨1, 69, 0, false, []⟩), ([97, 112], ⟨1, 70, 0, false, []⟩), ([105, 34], ⟨1, 65, 34, false, []⟩),
 ([97, 34], ⟨1, 66, 34, false, []⟩), ([105, 39], ⟨1, 65, 39, false, []⟩), ([97, 39], ⟨1, 66, 39, false, []⟩),
 ([105, 96], ⟨1, 65, 96, false, []⟩), ([97, 96], ⟨1, 66, 96, false, []⟩), ([105, 40], ⟨1, 67, 40, false, []⟩),
 ([97, 40], ⟨1, 68, 40, false, []⟩), ([105, 41], ⟨1, 67, 40, false, []⟩), ([97, 41], ⟨1, 68, 40, false, []⟩),
 ([105, 98], ⟨1, 67, 40, false, []⟩), ([97, 98], ⟨1, 68, 40, false, []⟩), ([105, 91], ⟨1, 67, 91, false, []⟩),
 ([97, 91], ⟨1, 68, 91, false, []⟩), ([105, 93], ⟨1, 67, 91, false, []⟩), ([97, 93], ⟨1, 68, 91, false, []⟩),
 ([105, 123], ⟨1, 67, 123, false, []⟩), ([97, 123], ⟨1, 68, 123, false, []⟩), ([105, 125], ⟨1, 67, 123, false, []⟩),
 ([97, 125], ⟨1, 68, 123, false, []⟩), ([105, 66], ⟨1, 67, 123, false, []⟩), ([97, 66], ⟨1, 68, 123, false, []⟩),
 ([105, 60], ⟨1, 67, 60, false, []⟩), ([97, 60], ⟨1, 68, 60, false, []⟩), ([105, 62], ⟨1, 67, 60, false, []⟩),
 ([97, 62], ⟨1, 68, 60, false, []⟩)]
def flushP (k : List Int) : List (List Int) :=
 if k.length = 5 ∧ k[0]? = some 115 ∧ k[1]? = some 112 then [[32]] else if k = [] then [] else [k]
def eachP : List Int → List Int → List (List Int)
 | k, [] => flushP k
 | k, x :: t => if x = 32 then flushP k ++ eachP [] t else eachP (k ++ [x]) t
def lineB (x : List Int × Int × Int × Int) : Bd := ⟨x.2.1, x.2.2.1, x.2.2.2, false, []⟩
def addP (f : Bd → Bd) (l : List (List Int × Int × Int × Int)) : Rows := l.flatMap fun x => (eachP [] x.1).map fun k => (k, f (lineB x))
def movesB (b : Bd) : Bd := { b with verb := 1 }
def asksB (b : Bd) : Bd := { b with more := true }
def seeksB (b : Bd) : Bd := { b with verb := 1, more := true }
def objP (l : List (List Int × Int × Int × Int)) : Rows := l.flatMap fun x => (eachP [] x.1).flatMap fun k =>
 [(105 :: k, { lineB x with verb := 1 }), (97 :: k, { lineB x with verb := 1, move := x.2.2.1 + 1 })]
def ownP (k : List Int) : List (List Int) := if 1 < k.length then [k.drop (k.length - 1), k] else [k.drop (k.length - 1)]
def opsP (l : List (List Int × Int × Int × Int)) : Rows := l.flatMap fun x => (eachP [] x.1).map fun k => (k, { lineB x with own := ownP k })
set_option maxRecDepth 100000 in
theorem normal_is : addP movesB motionsL ++ addP seeksB seeksL ++ addP id scrollsL ++ addP id bothL ++ addP asksB namedL ++ addP id ofNormalL ++ opsP operatorsL = normalT := rfl
set_option maxRecDepth 100000 in
theorem selected_is : addP movesB motionsL ++ addP seeksB seeksL ++ addP id scrollsL ++ addP id bothL ++ addP asksB namedL ++ addP id ofSelectionL ++ objP objectsL = selectedT := rfl
set_option maxRecDepth 100000 in
theorem behind_is : addP movesB motionsL ++ addP seeksB seeksL ++ objP objectsL = behindT := rfl
def digB (x : Int) : Bool := decide (48 ≤ x) && decide (x ≤ 57)
def dig1B (x : Int) : Bool := decide (49 ≤ x) && decide (x ≤ 57)
def runN (n : Int) : List Int → Int × List Int
 | [] => (n, [])
 | x :: t => if digB x then runN (min (10 * n + x - 48) 9999) t else (n, x :: t)
def numP (c : Int) : List Int → Int × List Int
 | [] => (c, [])
 | x :: t => if dig1B x then (min (max c 1 * (runN 0 (x :: t)).1) 9999, (runN 0 (x :: t)).2) else (c, x :: t)
def prefP : Nat → Int → Int → List Int → Nat × Int × Int × List Int
 | 0, _, _, _ => (0, 0, 0, [])
 | f + 1, r, c, l =>
  match (numP c l).2 with
  | [] => (0, 0, 0, [])
  | x :: t =>
   if x = 34 then
    match t with
    | [] => (0, 0, 0, [])
    | y :: u => if y = 0 then (2, 0, 0, []) else prefP f y (numP c l).1 u
   else (1, r, (numP c l).1, x :: t)
def lookG {α : Type} (S : List (List Int × α)) (l : List Int) : Nat × Option (List Int × α) :=
 match S.find? (fun r => r.1.isPrefixOf l) with
 | some r => (1, some r)
 | none => if l.isEmpty || S.any (fun r => l.isPrefixOf r.1) then (0, none) else (2, none)
def mlB : Bd := ⟨0, 60, 0, false, []⟩
def behP (own : List (List Int)) (l : List Int) : Nat × Option (List Int × Bd) :=
 if l = [] then (0, none) else
 match lookG (own.map fun k => (k, mlB)) l with
 | (1, r) => (1, r)
 | (s, _) => match lookG behindT l with
  | (2, _) => (s, none)
  | r => r
def finP (reg cnt verb : Int) (b : Bd) (l : List Int) : Nat × Cmd :=
 let mv := if b.move = 33 ∧ 0 < cnt then 18 else b.move
 if b.more then
  match l with
  | [] => (0, cmd0)
  | a :: _ => (1, ⟨reg, cnt, verb, mv, a⟩)
 else (1, ⟨reg, cnt, verb, mv, b.arg⟩)
def rowP (T : Rows) (reg cnt : Int) (l : List Int) : Nat × Cmd :=
 match lookG T l with
 | (1, some (k, b)) =>
  if b.own = [] then finP reg cnt b.verb b (l.drop k.length)
  else
   match behP b.own (numP cnt (l.drop k.length)).2 with
   | (1, some (k', b')) => finP reg (numP cnt (l.drop k.length)).1 b.verb b' ((numP cnt (l.drop k.length)).2.drop k'.length)
   | (s, _) => (s, cmd0)
 | (s, _) => (s, cmd0)
def topT (sel : Bool) : Rows := if sel then selectedT else normalT
def readP (sel : Bool) (l : List Int) : Nat × Cmd :=
 match prefP (l.length + 1) 0 0 l with
 | (1, reg, cnt, rest) => rowP (topT sel) reg cnt rest
 | (s, _) => (s, cmd0)
def digitsP : Nat → Int → List Int → List Int
 | 0, _, out => out
 | f + 1, n, out => if 0 < n ∧ n ≤ 9999 then digitsP f (n / 10) ((48 + n % 10) :: out) else out
def headsP (c : Cmd) : List (List Int) :=
 let reg := if c.reg = 0 then [] else [34, c.reg]
 let cnt := digitsP 5 c.count []
 [reg ++ cnt, cnt ++ reg]
def putP (head : List Int) (T : Rows) (arg : Int) : List (List Int) := T.map fun r => if r.2.more then head ++ r.1 ++ [arg] else head ++ r.1
def rowsP (sel : Bool) (c : Cmd) : List (List Int) :=
 if sel then putP [] selectedT c.arg
 else putP [] normalT c.arg ++ normalT.flatMap fun r => if r.2.own = [] ∨ r.2.verb ≠ c.verb then [] else putP r.1 behindT c.arg ++ r.2.own.map fun o => r.1 ++ o
def lessP : List Int → List Int → Bool
 | [], [] => false
 | [], _ => true
 | _, [] => false
 | x :: s, y :: t => decide (x < y) || decide (x = y) && lessP s t
def betterB (keys best : List Int) : Bool := decide (keys.length < best.length) || decide (keys.length = best.length) && lessP keys best
def tryP (sel : Bool) (c : Cmd) (best : Option (List Int)) (keys : List Int) : Option (List Int) :=
 if keys.contains 27 then best
 else if readP sel keys ≠ (1, c) then best
 else match best with
  | none => some keys
  | some b => if betterB keys b then some keys else some b
def candsP (sel : Bool) (c : Cmd) : List (List Int) := (rowsP sel c).flatMap fun r => (headsP c).map fun h => h ++ r
def spellP (sel : Bool) (c : Cmd) : Option (List Int) := (candsP sel c).foldl (tryP sel c) none
def selP (mode : Int) : Bool := decide (mode = 3) || decide (mode = 4)
structure Par where
 pend : List Int
 sel : Bool
def par0 : Par := ⟨[], false⟩
def feedP (p : Par) (mode key : Int) : Par × Cmd × Nat :=
 let pend := if selP mode = p.sel then p.pend else []
 if key = 27 then (⟨[], selP mode⟩, cmd0, 3)
 else
  let r := readP (selP mode) (pend ++ [key])
  (⟨if r.1 = 0 then pend ++ [key] else [], selP mode⟩, r.2, r.1)
end Go.Proofs.Ytampjndfhpjheaa
namespace Go.Proofs.Ytampjndfhpjheaa.bulks
theorem one_le {H : Type} (d : DataW H) : 1 ≤ Rows.uptoBulk d := by
 cases d with
 | lit l => cases l <;> simp [Rows.uptoBulk]
 | nil => simp [Rows.uptoBulk]
 | ptr d => simp [Rows.uptoBulk]
 | slice elems spare => simp [Rows.uptoBulk]
 | agg parts => simp [Rows.uptoBulk]
 | iface t d => simp [Rows.uptoBulk]
 | map entries => simp [Rows.uptoBulk]
 | held h => simp [Rows.uptoBulk]
theorem append {H : Type} (l r : List (DataW H)) : Rows.uptoBulkAll (l ++ r) = Rows.uptoBulkAll l + Rows.uptoBulkAll r := by
 induction l with
 | nil => simp [Rows.uptoBulkAll]
 | cons x l ih => simp only [List.cons_append, Rows.uptoBulkAll, ih]; omega
theorem length_le {H : Type} (l : List (DataW H)) : l.length ≤ Rows.uptoBulkAll l := by
 induction l with
 | nil => simp [Rows.uptoBulkAll]
 | cons x r ih => have := one_le x; simp only [Rows.uptoBulkAll, List.length_cons]; omega
theorem slice_elems {H : Type} (elems spare : List (DataW H)) : Rows.uptoBulkAll elems + 1 ≤ Rows.uptoBulk (.slice elems spare) := by
 simp only [Rows.uptoBulk]
 omega
theorem bound {H : Type} {l : List (DataW H)} (hk : Rows.uptoSmall H l = true) : Rows.uptoBulkAll l ≤ 1048576 := of_decide_eq_true hk
end Go.Proofs.Ytampjndfhpjheaa.bulks
namespace Go.Proofs.Ytampjndfhpjheaa
open Go.RowKit
def sameB (f : Nat → Int) (n : Nat) (g : Nat → Int) (m : Nat) : Bool := decide (lst f n = lst g m)
theorem sameB_refl (f : Nat → Int) (n : Nat) : sameB f n f n = true := decide_eq_true rfl
theorem sameB_of {f g : Nat → Int} {n m : Nat} (h : lst f n = lst g m) : sameB f n g m = true := decide_eq_true h
theorem sameB_not {f g : Nat → Int} {n m : Nat} (h : ¬ lst f n = lst g m) : sameB f n g m = false := decide_eq_false h
set_option maxHeartbeats 1000000 in
theorem same_any (sa sb : Option Addr) (len cap m capb : Nat) (f g : Nat → Int) (w : World) (hl : len ≤ maxLen) (hm : m ≤ maxLen) (hr : IsInts w sa len f) (hs : IsInts w sb m g) :
  Calls Try.prog 20 #[.slice sa len cap, .slice sb m capb] w fun e w' => e = .returned (.bool (sameB f len g m)) ∧ Below w.heap.size w w' := by
 unfold maxLen at hl hm
 by_cases hlm : len = m
 ·
  subst hlm
  have HR := Lib.hid hr
  have HS := Lib.hid hs
  clear hr hs
  go_enter Try.func20, Try.ntmps20
  go_wp2_with fail
  go_loopg [5] len (fun gg i wr => ∃ k : Nat, k + gg = len ∧ i = .int .i64 k ∧ (∀ j, j < k → f j = g j) ∧ Below w.heap.size w wr)
  case atStart => exact ⟨0, by omega, rfl, (fun j hj => absurd hj (Nat.not_lt_zero _)), Below.refl _ _⟩
  case round =>
   obtain ⟨k, hk, rfl, he, hb⟩ := hrel
   have HE := Lib.hid he
   have HB := Lib.hid hb
   clear he hb
   by_cases hlt : k < len
   ·
    obtain ⟨b, off, rfl, hcell⟩ := HR.out.at HB.out hlt
    obtain ⟨b', off', rfl, hcell'⟩ := HS.out.at HB.out hlt
    obtain ⟨x, hx⟩ : ∃ x, f k = x := ⟨_, rfl⟩
    obtain ⟨y, hy⟩ : ∃ y, g k = y := ⟨_, rfl⟩
    rw [hx] at hcell
    rw [hy] at hcell'
    have HX := Lib.hid hx
    have HY := Lib.hid hy
    clear hx hy
    have HB0 := HB.out
    go_wp2_with fail
    go_region_held3 (fun w' => w'.cell? ⟨b, off + k, none⟩ = some (.int .i64 x) ∧ w'.cell? ⟨b', off' + k, none⟩ = some (.int .i64 y) ∧ Below w.heap.size w w')
     (first | exact ⟨hcell, hcell', HB0.drew⟩ | go_keep) (fail)
    rename_i hheld
    have HH := Lib.hid hheld.2.2
    clear hheld HB0 hcell hcell'
    cases hxy : (x != y)
    ·
     go_wp2
     go_roundg (gk - 1)
     case measure => omega
     case rel =>
      refine ⟨k + 1, by omega, by go_num, fun j hj => ?_, HH.out⟩
      by_cases e : j = k
      · rw [e, HX.out, HY.out]; simpa using hxy
      · exact HE.out j (by omega)
    ·
     go_wp2
     go_ret
     refine ⟨ret_bool (sameB_not ?_).symm, HH.out⟩
     intro h
     have := lst_ext h k hlt
     rw [HX.out, HY.out] at this
     simp [this] at hxy
   ·
    go_wp2
    go_ret
    exact ⟨ret_bool (sameB_of (lst_congr (fun j hj => HE.out j (by omega)))).symm, HB.out⟩
 ·
  have hne : ¬ lst f len = lst g m := by
   intro h; have := congrArg List.length h; rw [lst_len, lst_len] at this; exact hlm this
  rw [sameB_not hne]
  clear hr hs hne
  go_enter Try.func20, Try.ntmps20
  go_wp2
  go_ret
  exact ⟨rfl, Below.refl _ _⟩
def begB (f : Nat → Int) (n : Nat) (g : Nat → Int) (m : Nat) : Bool := decide (m ≤ n ∧ lst f m = lst g m)
theorem begB_of {f g : Nat → Int} {n m : Nat} (hm : m ≤ n) (h : lst f m = lst g m) : begB f n g m = true := decide_eq_true ⟨hm, h⟩
theorem begB_not {f g : Nat → Int} {n m : Nat} (h : ¬ lst f m = lst g m) : begB f n g m = false := decide_eq_false (fun e => h e.2)
theorem begB_out {f g : Nat → Int} {n m : Nat} (h : n < m) : begB f n g m = false := decide_eq_false (fun e => by omega)
set_option maxHeartbeats 1000000 in
theorem begins_any (sa sb : Option Addr) (len cap m capb : Nat) (f g : Nat → Int) (w : World) (hl : len ≤ maxLen) (hr : IsInts w sa len f) (hs : IsInts w sb m g) :
  Calls Try.prog 63 #[.slice sa len cap, .slice sb m capb] w fun e w' => e = .returned (.bool (begB f len g m)) ∧ Below w.heap.size w w' := by
 unfold maxLen at hl
 by_cases hlm : m ≤ len
 ·
  have hlm' : ¬ ((len : Int) < (m : Int)) := by omega
  have HR := Lib.hid hr
  have HS := Lib.hid hs
  clear hr hs
  go_enter Try.func63, Try.ntmps63
  go_wp2_with fail
  go_loopg [5] m (fun gg i wr => ∃ k : Nat, k + gg = m ∧ i = .int .i64 k ∧ (∀ j, j < k → f j = g j) ∧ Below w.heap.size w wr)
  case atStart => exact ⟨0, by omega, rfl, (fun j hj => absurd hj (Nat.not_lt_zero _)), Below.refl _ _⟩
  case round =>
   obtain ⟨k, hk, rfl, he, hb⟩ := hrel
   have HE := Lib.hid he
   have HB := Lib.hid hb
   clear he hb
   by_cases hlt : k < m
   ·
    obtain ⟨b, off, rfl, hcell⟩ := HR.out.at HB.out (show k < len by omega)
    obtain ⟨b', off', rfl, hcell'⟩ := HS.out.at HB.out hlt
    obtain ⟨x, hx⟩ : ∃ x, f k = x := ⟨_, rfl⟩
    obtain ⟨y, hy⟩ : ∃ y, g k = y := ⟨_, rfl⟩
    rw [hx] at hcell
    rw [hy] at hcell'
    have HX := Lib.hid hx
    have HY := Lib.hid hy
    clear hx hy
    have q1 : (k : Int) < (len : Int) := by omega
    have q2 : (k : Int) < (m : Int) := by omega
    have q3 : (0 : Int) ≤ (k : Int) := by omega
    have HB0 := HB.out
    go_wp2_with fail
    go_region_held3 (fun w' => w'.cell? ⟨b, off + k, none⟩ = some (.int .i64 x) ∧ w'.cell? ⟨b', off' + k, none⟩ = some (.int .i64 y) ∧ Below w.heap.size w w')
     (first | exact ⟨hcell, hcell', HB0.drew⟩ | go_keep) (fail)
    rename_i hheld
    have HH := Lib.hid hheld.2.2
    clear hheld HB0 hcell hcell'
    cases hxy : (x != y)
    ·
     go_wp2
     go_roundg (gk - 1)
     case measure => omega
     case rel =>
      refine ⟨k + 1, by omega, by go_num, fun j hj => ?_, HH.out⟩
      by_cases e : j = k
      · rw [e, HX.out, HY.out]; simpa using hxy
      · exact HE.out j (by omega)
    ·
     go_wp2
     go_ret
     refine ⟨ret_bool (begB_not ?_).symm, HH.out⟩
     intro h
     have := lst_ext h k hlt
     rw [HX.out, HY.out] at this
     simp [this] at hxy
   ·
    go_wp2
    go_ret
    exact ⟨ret_bool (begB_of hlm (lst_congr (fun j hj => HE.out j (by omega)))).symm, HB.out⟩
 ·
  have hlm' : (len : Int) < (m : Int) := by omega
  rw [begB_out (by omega)]
  clear hr hs
  go_enter Try.func63, Try.ntmps63
  go_wp2
  go_ret
  exact ⟨rfl, Below.refl _ _⟩
end Go.Proofs.Ytampjndfhpjheaa
