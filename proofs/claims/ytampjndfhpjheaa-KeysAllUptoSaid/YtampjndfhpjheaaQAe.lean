/- The document's rows in memory, and how a list of them grows. Contracts: ints, one. Condition: texts of fewer than 1000 bytes. The program's Look of a trie of bounds. Condition: lists of at most maxLen keys. The program's Put into a trie of bounds, of a row that is taken. Condition: fewer than maxLen keys in all. -/
import Derived.Deep.DeepCutAuto
import Derived.Deep.CutBlock
import Derived.Deep.RegionHeld3
import Derived.Laws.BytesArg
import Derived.Carry
import Derived.Test.YtampjndfhpjheaaQAd
import Derived.Test.YtampjndfhpjheaaQAa
namespace Go.Proofs.Ytampjndfhpjheaa
open Go.RowKit
set_option linter.unusedVariables false
set_option linter.unusedSimpArgs false
structure KS where
 g : Nat
 off : Nat
 n : Nat
 c : Nat
 k : List Int
def KS.val (q : KS) : Value := .slice (some ⟨q.g, q.off, none⟩) q.n q.c
def KOk (w : World) (q : KS) : Prop := q.n = q.k.length ∧ q.n ≤ q.c ∧ ∃ cs, w.heap[q.g]? = some (.cells cs 3 (0, 0)) ∧ ∀ i, i < q.n → cs[q.off + i]? = some (.int .i64 (gl q.k i))
theorem KOk.lt {w : World} {q : KS} (h : KOk w q) : q.g < w.heap.size := by
 obtain ⟨_, _, cs, h1, _⟩ := h
 exact heap_lt h1
theorem KOk.kept {w w' : World} {q : KS} (h : KOk w q) (e : w'.heap[q.g]? = w.heap[q.g]?) : KOk w' q := by
 obtain ⟨h1, h2, cs, h3, h4⟩ := h
 exact ⟨h1, h2, cs, e.trans h3, h4⟩
theorem KOk.is {w : World} {q : KS} (h : KOk w q) : IsInts w (some ⟨q.g, q.off, none⟩) q.n (gl q.k) := by
 obtain ⟨h1, h2, cs, h3, h4⟩ := h
 exact .inr ⟨q.g, q.off, rfl, heap_lt h3, fun i hi => (block_cell h3).trans (h4 i hi)⟩
theorem KOk.type {w : World} {q : KS} (h : KOk w q) : ∃ cs, w.heap[q.g]? = some (.cells cs 3 (0, 0)) := by
 obtain ⟨h1, h2, cs, h3, h4⟩ := h
 exact ⟨cs, h3⟩
structure DR where
 q : KS
 b : Bd
def DR.cells (x : DR) : List Value := [x.q.val, .int .i64 x.b.verb, .int .i64 x.b.move, .int .i64 x.b.arg, .bool x.b.more]
def DR.row (x : DR) : List Int × Bd := (x.q.k, x.b)
theorem dr_cells_get : ∀ (L : List DR) (i j : Nat) (hi : i < L.length), j < 5 → (L.flatMap DR.cells)[i * 5 + j]? = (L[i].cells)[j]?
 | x :: L, 0, j, hi, hj => by
  rw [List.flatMap_cons, List.getElem?_append_left (by show _ < 5; omega)]
  simp
 | x :: L, i + 1, j, hi, hj => by
  rw [List.flatMap_cons, List.getElem?_append_right (by show 5 ≤ _; omega)]
  have e : (i + 1) * 5 + j - x.cells.length = i * 5 + j := by show _ - 5 = _; omega
  rw [e, dr_cells_get L i j (by simpa using hi) hj]
  rfl
def RL (w : World) (base : Nat) (v : Value) (L : List DR) : Prop := w.ownsRow base 103 5 v L.length (L.flatMap DR.cells) ∧ ∀ x ∈ L, KOk w x.q
theorem Try.infoRow : (Try.prog.info? 103).map (fun i => (i.zero, i.size, i.bytes)) = some (some (.agg #[.slice none 0 0, .int .i64 0, .int .i64 0, .int .i64 0, .bool false]), 5, 56) := by kernel_rfl
theorem RL.nil (w : World) (base : Nat) : RL w base (.slice none 0 0) [] := ⟨World.ownsRow_nil w base _ 5, fun x hx => by cases hx⟩
theorem RL.type {w : World} {base : Nat} {v : Value} {L : List DR} (h : RL w base v L) {b : Nat} (hb : v.ownBlock = some b) : ∃ cs, w.heap[b]? = some (.cells cs 103 (0, 0)) := by
 rcases h.1.2 with ⟨h1, _⟩ | ⟨g, cap, cur, h1, _, hgg, _⟩
 · rw [h1] at hb; cases hb
 · rw [h1] at hb; cases hb; exact ⟨_, hgg⟩
theorem RL.later {w w' : World} {base : Nat} {v : Value} {L : List DR} (h : RL w base v L) (hb : Below w.heap.size w w') : RL w' base v L :=
 ⟨own_kept h.1 (fun b hb' => hb.block b (World.ownsRow.lt h.1 b hb').2), fun x hx => (h.2 x hx).kept (hb.block _ (h.2 x hx).lt)⟩
theorem RL.mono {w : World} {base base' : Nat} {v : Value} {L : List DR} (h : RL w base v L) (hb : base' ≤ base) : RL w base' v L := by
 refine ⟨⟨h.1.1, ?_⟩, h.2⟩
 rcases h.1.2 with h1 | ⟨g, cap, cur, h1, h2, h3⟩
 · exact .inl h1
 · exact .inr ⟨g, cap, cur, h1, Nat.le_trans hb h2, h3⟩
theorem RL.low {w : World} {base : Nat} {v : Value} {L : List DR} (h : RL w base v L) {b : Nat} (hb : v.ownBlock = some b) : base ≤ b := (World.ownsRow.lt h.1 b hb).1
theorem RL.shape {w : World} {base : Nat} {v : Value} {L : List DR} (h : RL w base v L) : ∃ s c, v = .slice s L.length c ∧ L.length ≤ c := by
 rcases h.1.2 with ⟨h1, h2⟩ | ⟨g, cap, cur, h1, _, _, h2, _⟩
 · exact ⟨none, 0, by rw [h1, h2], by omega⟩
 · exact ⟨_, _, h1, h2⟩
theorem RL.push {w w' : World} {base : Nat} {v v' : Value} {L : List DR} {x : DR} (h : RL w base v L) (hx : KOk w x.q) (hbase : base ≤ w.heap.size)
  (ho : w'.ownsRow base 103 5 v' (L.length + 1) (L.flatMap DR.cells ++ x.cells)) (hg : w.grownBy w' v.ownBlock) :
  RL w' base v' (L ++ [x]) ∧ Below base w w' ∧ ∀ (b : Nat) (cs : Array Value) (t : TypeId), w.heap[b]? = some (.cells cs t (0, 0)) → t ≠ 103 → w'.heap[b]? = some (.cells cs t (0, 0)) := by
 have hoth : ∀ (b : Nat) (cs : Array Value) (t : TypeId), w.heap[b]? = some (.cells cs t (0, 0)) → t ≠ 103 → w'.heap[b]? = w.heap[b]? := fun b cs t hb ht =>
  hg.block b (heap_lt hb) (fun e => by
   obtain ⟨c2, h2⟩ := h.type e.symm
   exact type_ne hb h2 ht rfl)
 have hk : ∀ q, KOk w q → KOk w' q := fun q hq => by
  obtain ⟨cs, h1⟩ := hq.type
  exact hq.kept (hoth _ _ _ h1 (by decide))
 refine ⟨⟨?_, fun y hy => ?_⟩, Below.grown (Below.refl _ _) hg hbase (fun b hb => h.low hb), fun b cs t hb ht => (hoth b cs t hb ht).trans hb⟩
 ·
  rw [List.length_append, List.flatMap_append]
  simpa using ho
 ·
  rcases List.mem_append.1 hy with hy | hy
  · exact hk _ (h.2 y hy)
  ·
   rw [List.mem_singleton] at hy
   subst hy
   exact hk _ hx
theorem cells_new5 (w : World) (x : DR) (t : TypeId) : ∀ j u, x.cells[j]? = some u → (w.alloc (.cells x.cells.toArray t)).cell? ((⟨w.heap.size, 0, none⟩ : Addr).add j) = some u := by
 intro j u hj
 have hadd : (⟨w.heap.size, 0, none⟩ : Addr).add j = ⟨w.heap.size, j, none⟩ := by unfold Addr.add; split <;> simp_all
 rw [hadd, block_cell (one_new w _)]
 simpa using hj
theorem one5 (x : DR) : ∀ u ∈ x.cells, u.oneCell' = true := by
 intro u hu
 simp only [DR.cells, List.mem_cons, List.not_mem_nil, or_false] at hu
 rcases hu with rfl | rfl | rfl | rfl | rfl <;> rfl
theorem step_push_r {w : World} {ops : Array Oper} {o : Oper} {a : Act} {K : Act → World → Prop} {Q : Exit → Act → World → Prop} {E : Prop} (x : DR) (hg : o.guard = none) (s y : Operand)
  (hop : o.op = .call { callee := .builtin .append, args := #[s, y], argTypes := #[95, 95] })
  (base : Nat) (v : Value) (L : List DR) (hs : a.eval s = v) (hy : a.eval y = .slice (some ⟨w.heap.size, 0, none⟩) 1 1) (hown : RL w base v L) (hx : KOk w x.q) (hj : L.length < 1000000) (hbase : base ≤ w.heap.size)
  (h : ∀ s' c' w', RL w' base (.slice s' (L.length + 1) c') (L ++ [x]) → Below base w w' → (∀ (b : Nat) (cs : Array Value) (t : TypeId), w.heap[b]? = some (.cells cs t (0, 0)) → t ≠ 103 → w'.heap[b]? = some (.cells cs t (0, 0))) → K (a.put o.dst (.slice s' (L.length + 1) c')) w') :
  if Region.wanted o (yielded ops a.tmps) = true then Oper.wp Try.prog o a (w.alloc (.cells x.cells.toArray 103)) K Q else E := by
 have hw : Region.wanted o (yielded ops a.tmps) = true := by simp [Region.wanted, hg]
 rw [if_pos hw]
 obtain ⟨i0, hi, hz0, hz1, hz2⟩ := info_parts Try.infoRow
 have hb1 := below_new2 w (.cells x.cells.toArray 103)
 obtain ⟨v', w', hr, h2, h3, h4, h5⟩ := run_append_own_at (P := Try.prog) (w.alloc (.cells x.cells.toArray 103)) base 95 o.type 103 i0 _ 5 56 Try.underlying95 hi hz0 hz1 hz2 rfl (by decide) v L.length _ (hown.later hb1).1 ⟨w.heap.size, 0, none⟩ 1 1 x.cells rfl (cells_new5 _ _ _) (one5 x) (by unfold maxLen; omega) (by omega) (by simp; omega)
 obtain ⟨s', c', rfl⟩ := slice_shape h2
 obtain ⟨p1, p2, p3⟩ := hown.push hx hbase h2 (World.grownBy.trans (World.grownBy_alloc w _ _) h3)
 have hK := h s' c' w' p1 p2 p3
 unfold Oper.wp
 simp only [execOp, hop, resolve, invoke, builtin, hs, hy, hr, Result.andThen, Sem.run_bind, Sem.run_pure, List.map_toArray, List.map_cons, List.map_nil]
 exact hK
theorem wpList_push_r {w : World} {ops : Array Oper} {rest : List Oper} {o : Oper} {a : Act} {Q : Exit → Act → World → Prop} (x : DR) (hgd : o.guard = none) (s y : Operand)
  (ho : o.op = .call { callee := .builtin .append, args := #[s, y], argTypes := #[95, 95] })
  (base : Nat) (v : Value) (L : List DR) (hs : a.eval s = v) (hy : a.eval y = .slice (some ⟨w.heap.size, 0, none⟩) 1 1) (hown : RL w base v L) (hx : KOk w x.q) (hj : L.length < 1000000) (hbase : base ≤ w.heap.size)
  (h : ∀ s' c' w', RL w' base (.slice s' (L.length + 1) c') (L ++ [x]) → Below base w w' → (∀ (b : Nat) (cs : Array Value) (t : TypeId), w.heap[b]? = some (.cells cs t (0, 0)) → t ≠ 103 → w'.heap[b]? = some (.cells cs t (0, 0))) → wpList Try.prog ops Q rest (a.put o.dst (.slice s' (L.length + 1) c')) w') :
  wpList Try.prog ops Q (o :: rest) a (w.alloc (.cells x.cells.toArray 103)) := by
 obtain ⟨i0, hi, hz0, hz1, hz2⟩ := info_parts Try.infoRow
 have hb1 := below_new2 w (.cells x.cells.toArray 103)
 refine wpList_append_own_at _ hgd s y 95 ho base 103 i0 _ 5 56 Try.underlying95 hi hz0 hz1 hz2 rfl (by decide) v _ _ hs (hown.later hb1).1 ⟨w.heap.size, 0, none⟩ 1 1 x.cells hy rfl (cells_new5 _ _ _) (one5 x) (by unfold maxLen; omega) (by omega) (by simp; omega) ?_
 intro v' w' h2 h3 _ _
 obtain ⟨s', c', rfl⟩ := slice_shape h2
 obtain ⟨p1, p2, p3⟩ := hown.push hx hbase h2 (World.grownBy.trans (World.grownBy_alloc w _ _) h3)
 exact h s' c' w' p1 p2 p3
def bs (s : ByteArray) : List Int := s.data.toList.map fun x => (x.toNat : Int)
theorem bs_len (s : ByteArray) : (bs s).length = s.size := by unfold bs; rw [List.length_map, Array.length_toList]; rfl
theorem bs_get (s : ByteArray) {i : Nat} (h : i < s.size) : gl (bs s) i = (s[i].toNat : Int) := by
 unfold gl bs
 rw [List.getD_eq_getElem?_getD, List.getElem?_map]
 have : s.data.toList[i]? = some s[i] := by
  rw [Array.getElem?_toList]
  exact Array.getElem?_eq_getElem h
 rw [this]; rfl
theorem index_bs (w : World) (s : ByteArray) {i : Nat} (h : i < s.size) : (Instr.index 9 (.string s) (.int .i64 (i : Int))).run Try.prog w = .ok (.int .u8 (gl (bs s) i)) w := by
 rw [run_index_string w 9 s .i64 i Try.underlying9, dif_pos ⟨by omega, by omega⟩, bs_get s h]
 simp
theorem bs_b (s : ByteArray) (i : Nat) : 0 ≤ gl (bs s) i ∧ gl (bs s) i ≤ 255 := by
 by_cases h : i < s.size
 ·
  rw [bs_get s h]
  have := s[i].toNat_lt
  omega
 ·
  unfold gl
  rw [List.getD_eq_getElem?_getD, List.getElem?_eq_none (by rw [bs_len]; omega)]
  decide
set_option maxHeartbeats 4000000 in
theorem ints_c (s : ByteArray) (w : World) (h0 : 0 < s.size) (h1 : s.size < 1000) :
  Calls Try.prog 91 #[.string s] w fun e w' => ∃ g c, e = .returned (.slice (some ⟨g, 0, none⟩) s.size c) ∧ KOk w' ⟨g, 0, s.size, c, bs s⟩ ∧ w.heap.size ≤ g ∧ Below w.heap.size w w' := by
 obtain ⟨n, hn⟩ : ∃ n, n = s.size := ⟨_, rfl⟩
 rw [← hn] at h0 h1 ⊢
 go_enter Try.func91, Try.ntmps91
 go_wp2_with fail
 go_loopg [3, 4] n (fun gg lv iv wr => ∃ k : Nat, k + gg = n ∧ iv = .int .i64 k ∧ (∃ s' c', lv = .slice s' k c' ∧ OwnInts wr w.heap.size (.slice s' k c') (lst (gl (bs s)) k)) ∧ Below w.heap.size w wr)
 case atStart => exact ⟨0, by omega, rfl, ⟨none, 0, rfl, OwnInts.nil _ _⟩, Below.refl _ _⟩
 case round =>
  obtain ⟨k, hk, rfl, ⟨s', c', rfl, ho⟩, hb⟩ := hrel
  have HO := Lib.hid ho
  have HB := Lib.hid hb
  clear ho hb
  by_cases hlt : k < n
  ·
   have hidx := fun (W : World) => index_bs W s (show k < s.size by omega)
   have hb1 := (bs_b s k).1
   have hb2 := (bs_b s k).2
   obtain ⟨x, hx⟩ : ∃ x, gl (bs s) k = x := ⟨_, rfl⟩
   rw [hx] at hidx hb1 hb2
   have HX := Lib.hid hx
   clear hx
   go_wp2_with (first | (at_builtin; refine wpList_push _ rfl _ _ rfl w.heap.size _ _ _ (gl (bs s)) rfl rfl HO.out HX.out (by omega) HB.out.size ?_; intro s2 c2 w2 ho2 hb2; have HO2 := Lib.hid ho2; have HB2 := Lib.hid (HB.out.trans hb2); clear ho2 hb2))
   go_roundg (gk - 1)
   case measure => omega
   case rel => exact ⟨k + 1, by omega, by go_num, ⟨_, _, rfl, HO2.out⟩, HB2.out⟩
  ·
   obtain rfl : n = k := by omega
   go_wp2
   go_ret
   rcases OwnInts.row HO.out with h | ⟨g, hg, hge, cs, hr1, hr2, hr3⟩
   · omega
   ·
    subst hg
    have hcap : n ≤ c' := by
     obtain ⟨s3, c3, h3, h4, _⟩ := OwnInts.list HO.out
     cases h3; exact h4
    exact ⟨g, c', rfl, ⟨by rw [bs_len]; exact hn, hcap, cs, hr1, fun i hi => by rw [Nat.zero_add]; exact hr3 i hi⟩, hge, HB.out⟩
theorem one_c (s : ByteArray) (v m : Int) (w : World) (h0 : 0 < s.size) (h1 : s.size < 1000) :
  Calls Try.prog 90 #[.string s, .int .i64 v, .int .i64 m] w fun e w' => ∃ g c, e = .returned (.agg #[.slice (some ⟨g, 0, none⟩) s.size c, .int .i64 v, .int .i64 m, .int .i64 0, .bool false]) ∧ KOk w' ⟨g, 0, s.size, c, bs s⟩ ∧ Below w.heap.size w w' := by
 have hb0 := below_new2 w (.cells #[.slice none 0 0, .int .i64 0, .int .i64 0, .int .i64 0, .bool false] 103)
 have hc := one_new w (.cells #[.slice none 0 0, .int .i64 0, .int .i64 0, .int .i64 0, .bool false] 103)
 obtain ⟨w1, hw1⟩ : ∃ w1, w1 = w.alloc (.cells #[.slice none 0 0, .int .i64 0, .int .i64 0, .int .i64 0, .bool false] 103) := ⟨_, rfl⟩
 rw [← hw1] at hb0 hc
 have HW := Lib.hid hw1
 have HB0 := Lib.hid hb0
 have HC0 := Lib.hid hc
 clear hw1 hb0 hc
 go_enter Try.func90, Try.ntmps90
 go_upto_region 1 with (fail)
 rw [← HW.out]
 go_wp2_with fail
 refine (ints_c s w1 h0 h1).mono ?_
 rintro e w2 ⟨g, c, rfl, hk, hg, hb⟩
 have HK := Lib.hid hk
 have HB := Lib.hid hb
 have hc2 := (hb.block _ (heap_lt HC0.out)).trans HC0.out
 have c0 : w2.cell? ⟨w.heap.size, 0, none⟩ = some (.slice none 0 0) := block_cell hc2
 have c1 : w2.cell? ⟨w.heap.size, 1, none⟩ = some (.int .i64 0) := block_cell hc2
 have c2 : w2.cell? ⟨w.heap.size, 2, none⟩ = some (.int .i64 0) := block_cell hc2
 have c3 : w2.cell? ⟨w.heap.size, 3, none⟩ = some (.int .i64 0) := block_cell hc2
 have c4 : w2.cell? ⟨w.heap.size, 4, none⟩ = some (.bool false) := block_cell hc2
 have f0 : w2.frozen? ⟨w.heap.size, 0, none⟩ = false := block_free hc2
 have f1 : w2.frozen? ⟨w.heap.size, 1, none⟩ = false := block_free hc2
 have f2 : w2.frozen? ⟨w.heap.size, 2, none⟩ = false := block_free hc2
 have f3 : w2.frozen? ⟨w.heap.size, 3, none⟩ = false := block_free hc2
 have f4 : w2.frozen? ⟨w.heap.size, 4, none⟩ = false := block_free hc2
 clear hk hb
 go_wp2
 have hh : ((((((w2.setCell ⟨w.heap.size, 0, none⟩ (.slice (some ⟨g, 0, none⟩) s.size c)).setCell ⟨w.heap.size, 1, none⟩ (.int .i64 v)).setCell ⟨w.heap.size, 2, none⟩ (.int .i64 m)).setCell ⟨w.heap.size, 3, none⟩ (.int .i64 0)).setCell ⟨w.heap.size, 4, none⟩ (.bool false))).heap[w.heap.size]? = some (.cells #[.slice (some ⟨g, 0, none⟩) s.size c, .int .i64 v, .int .i64 m, .int .i64 0, .bool false] 103 (0, 0)) := block_set _ (block_set _ (block_set _ (block_set _ (block_set _ hc2))))
 have hbl : Below w.heap.size w (((((w2.setCell ⟨w.heap.size, 0, none⟩ (.slice (some ⟨g, 0, none⟩) s.size c)).setCell ⟨w.heap.size, 1, none⟩ (.int .i64 v)).setCell ⟨w.heap.size, 2, none⟩ (.int .i64 m)).setCell ⟨w.heap.size, 3, none⟩ (.int .i64 0)).setCell ⟨w.heap.size, 4, none⟩ (.bool false)) :=
  (((((HB0.out.trans (HB.out.mono HB0.out.size)).setCell (Nat.le_refl _) _).setCell (Nat.le_refl _) _).setCell (Nat.le_refl _) _).setCell (Nat.le_refl _) _).setCell (Nat.le_refl _) _
 have hne : g ≠ w.heap.size := by
  have := heap_lt HC0.out
  omega
 have hkk : KOk (((((w2.setCell ⟨w.heap.size, 0, none⟩ (.slice (some ⟨g, 0, none⟩) s.size c)).setCell ⟨w.heap.size, 1, none⟩ (.int .i64 v)).setCell ⟨w.heap.size, 2, none⟩ (.int .i64 m)).setCell ⟨w.heap.size, 3, none⟩ (.int .i64 0)).setCell ⟨w.heap.size, 4, none⟩ (.bool false)) ⟨g, 0, s.size, c, bs s⟩ :=
  HK.out.kept (by rw [Below.heap_setCell _ _ _ _ hne, Below.heap_setCell _ _ _ _ hne, Below.heap_setCell _ _ _ _ hne, Below.heap_setCell _ _ _ _ hne, Below.heap_setCell _ _ _ _ hne])
 generalize ((((w2.setCell ⟨w.heap.size, 0, none⟩ (.slice (some ⟨g, 0, none⟩) s.size c)).setCell ⟨w.heap.size, 1, none⟩ (.int .i64 v)).setCell ⟨w.heap.size, 2, none⟩ (.int .i64 m)).setCell ⟨w.heap.size, 3, none⟩ (.int .i64 0)).setCell ⟨w.heap.size, 4, none⟩ (.bool false) = w3 at *
 have d0 : w3.cell? ⟨w.heap.size, 0, none⟩ = some (.slice (some ⟨g, 0, none⟩) s.size c) := block_cell hh
 have d1 : w3.cell? ⟨w.heap.size, 1, none⟩ = some (.int .i64 v) := block_cell hh
 have d2 : w3.cell? ⟨w.heap.size, 2, none⟩ = some (.int .i64 m) := block_cell hh
 have d3 : w3.cell? ⟨w.heap.size, 3, none⟩ = some (.int .i64 0) := block_cell hh
 have d4 : w3.cell? ⟨w.heap.size, 4, none⟩ = some (.bool false) := block_cell hh
 exact bodyPost_ret (v := .agg #[.slice (some ⟨g, 0, none⟩) s.size c, .int .i64 v, .int .i64 m, .int .i64 0, .bool false]) (by simp [results, Try.results90, go_sem, d0, d1, d2, d3, d4]) rfl ⟨g, c, rfl, hkk, hbl⟩
end Go.Proofs.Ytampjndfhpjheaa
namespace Go.Proofs.Ytampjndfhpjheaa
open Go.RowKit
structure BV where
 v : Int
 m : Int
 a : Int
 more : Bool
 os : Option Addr
 on : Nat
 oc : Nat
 dp : Option Addr
def BV.cells (b : BV) : Array Value := #[.int .i64 b.v, .int .i64 b.m, .int .i64 b.a, .bool b.more, .slice b.os b.on b.oc, .pointer b.dp]
def bv0 : BV := ⟨0, 0, 0, false, none, 0, 0, none⟩
def encB (E : Int → BV) (x : Int) : Array Value := (E x).cells
def bvAt (E : Int → BV) (S : TrieS) (p : List Int) : BV := if (lookS S p).2 = 1 then E (lookS S p).1 else bv0
theorem zero_bound (w : World) : (zeroValue 131).run Try.prog w = .ok (.pointer none) w := by kernel_rfl
set_option maxRecDepth 100000 in
set_option maxHeartbeats 2000000 in
theorem look_b_c (O : Nat → Prop) (root ro : Nat) (E : Int → BV) (S : TrieS) (nb mb : List Int → Option Nat) (val : List Int → Option (Nat × Int)) (sk : Option Addr) (c : Nat) (p : List Int) (w : World) (hS : TrieOk S) (ht : TrieN 133 (encB E) w O root ro S nb mb val) (hl : p.length ≤ maxLen) (hk : IsInts w sk p.length (gl p)) (hkeys : ∀ x ∈ p, inKey x) :
  Calls Try.prog 101 #[.pointer (some ⟨root, ro, none⟩), .slice sk p.length c] w fun e w' => e = .returned (.tuple #[.agg (bvAt E S p).cells, .int .i64 ((lookS S p).2 : Nat)]) ∧ Below w.heap.size w w' := by
 unfold maxLen at hl
 have HT := Lib.hid ht
 have HK := Lib.hid hk
 have HKY := Lib.hid hkeys
 have HOK := Lib.hid hS
 clear ht hk hkeys hS
 go_enter Try.func101, Try.ntmps101
 go_wp2_with fail
 have hbw : Below w.heap.size w ((w.alloc (.cells #[.int .i64 0, .int .i64 0, .int .i64 0, .bool false, .slice none 0 0, .pointer none] 133)).alloc (.cells #[.int .i64 0, .int .i64 0, .int .i64 0, .bool false, .slice none 0 0, .pointer none] 133)) := ((Below.refl _ _).alloc (Nat.le_refl _) _).alloc (by simp) _
 have HB := Lib.hid hbw
 clear hbw
 go_loopg [0, 11] p.length (fun g tv iv wr => ∃ i b o : Nat, i + g = p.length ∧ tv = .pointer (some ⟨b, o, none⟩) ∧ iv = .int .i64 i ∧ nb (p.take i) = some b ∧ offR ro (p.take i) = o ∧ ((w.alloc (.cells #[.int .i64 0, .int .i64 0, .int .i64 0, .bool false, .slice none 0 0, .pointer none] 133)).alloc (.cells #[.int .i64 0, .int .i64 0, .int .i64 0, .bool false, .slice none 0 0, .pointer none] 133)) = wr)
 case atStart => exact ⟨0, root, ro, by omega, rfl, rfl, HT.out.gt.root, rfl, rfl⟩
 case round =>
  obtain ⟨i, b, o, hg, rfl, rfl, hb0, ho0, rfl⟩ := hrel
  have HN := Lib.hid hb0
  have HO := Lib.hid ho0
  clear hb0 ho0
  by_cases hlt : i < p.length
  ·
   obtain ⟨bs, off, rfl, c0⟩ := HK.out.at HB.out hlt
   have hnd := HT.out.gt.node _ _ HN.out
   rw [HO.out] at hnd
   have c1 : ((w.alloc (.cells #[.int .i64 0, .int .i64 0, .int .i64 0, .bool false, .slice none 0 0, .pointer none] 133)).alloc (.cells #[.int .i64 0, .int .i64 0, .int .i64 0, .bool false, .slice none 0 0, .pointer none] 133)).cell? ⟨b, o + 1, none⟩ = some (.map (mb (p.take i))) := (HB.out.cell (p := ⟨b, o + 1, none⟩) hnd.lt).trans hnd.cells.2.1
   clear hnd
   have hkey : inKey (gl p i) := HKY.out _ (by unfold gl; rw [List.getD_eq_getElem?_getD, List.getElem?_eq_getElem hlt]; exact List.getElem_mem hlt)
   have hlook := HT.out.gt.lookup HB.out Try.underlying114 (zero_bound _) (p := p.take i) hkey
   rw [show p.take i ++ [gl p i] = p.take (i + 1) from by rw [take_next hlt]; unfold gl; rw [List.getD_eq_getElem?_getD, List.getElem?_eq_getElem hlt]; rfl] at hlook
   cases hnx : nb (p.take (i + 1)) with
   | none =>
    have hbad : lookS S p = (0, 2) := HT.out.look_bad (by
     obtain ⟨t, ht⟩ := List.take_prefix (i + 1) p
     rw [← ht]; exact HT.out.gt.up_any hnx t)
    rw [hnx] at hlook
    replace hlook : _ = Result.ok (Value.pointer none) _ := hlook
    have HE := Lib.hid hbad
    clear hnx hbad hkey
    go_wp2
    exact bodyPost_ret (v := .tuple #[.agg #[.int .i64 0, .int .i64 0, .int .i64 0, .bool false, .slice none 0 0, .pointer none], .int .i64 2]) (by simp [results, Try.results101, go_sem]) rfl ⟨by rw [bvAt, HE.out]; rfl, HB.out⟩
   | some b' =>
    rw [hnx] at hlook
    replace hlook : _ = Result.ok (Value.pointer (some ⟨b', 0, none⟩)) _ := hlook
    have HN2 := Lib.hid hnx
    have ho2 : offR ro (p.take (i + 1)) = 0 := by rw [take_next hlt, offR_snoc]
    have HO2 := Lib.hid ho2
    clear hnx hkey ho2
    go_wp2
    go_roundg (gk - 1)
    case measure => omega
    case rel => exact ⟨i + 1, b', 0, by omega, rfl, by go_num, HN2.out, HO2.out, rfl⟩
  ·
   obtain rfl : i = p.length := by omega
   rw [List.take_length] at HN HO
   have hnd := HT.out.gt.node _ _ HN.out
   rw [HO.out] at hnd
   have c1 : ((w.alloc (.cells #[.int .i64 0, .int .i64 0, .int .i64 0, .bool false, .slice none 0 0, .pointer none] 133)).alloc (.cells #[.int .i64 0, .int .i64 0, .int .i64 0, .bool false, .slice none 0 0, .pointer none] 133)).cell? ⟨b, o + 1, none⟩ = some (.map (mb p)) := (HB.out.cell (p := ⟨b, o + 1, none⟩) hnd.lt).trans hnd.cells.2.1
   have c0 : ((w.alloc (.cells #[.int .i64 0, .int .i64 0, .int .i64 0, .bool false, .slice none 0 0, .pointer none] 133)).alloc (.cells #[.int .i64 0, .int .i64 0, .int .i64 0, .bool false, .slice none 0 0, .pointer none] 133)).cell? ⟨b, o, none⟩ = some (ptrO ((val p).map (·.1))) := (HB.out.cell (p := ⟨b, o, none⟩) hnd.lt).trans hnd.cells.1
   clear hnd
   cases hv : val p with
   | some x =>
    have hx := HT.out.gt.value p x hv
    have HE := Lib.hid (HT.out.look_done HOK.out hv)
    rw [hv] at c0
    replace c0 : ((w.alloc (.cells #[.int .i64 0, .int .i64 0, .int .i64 0, .bool false, .slice none 0 0, .pointer none] 133)).alloc (.cells #[.int .i64 0, .int .i64 0, .int .i64 0, .bool false, .slice none 0 0, .pointer none] 133)).cell? ⟨b, o, none⟩ = some (.pointer (some ⟨x.1, 0, none⟩)) := c0
    clear hv
    obtain ⟨xb, xv⟩ := x
    unfold encB at hx
    have hex : bvAt E S p = E xv := by rw [bvAt, HE.out]; rfl
    have HEX := Lib.hid hex
    clear hex
    generalize E xv = ev at hx HEX
    obtain ⟨v1, v2, v3, v4, v5, v6, v7, v8⟩ := ev
    have hxl := heap_lt hx
    have d0 := (HB.out.cell (p := ⟨xb, 0, none⟩) hxl).trans (block_cell hx)
    have d1 := (HB.out.cell (p := ⟨xb, 1, none⟩) hxl).trans (block_cell hx)
    have d2 := (HB.out.cell (p := ⟨xb, 2, none⟩) hxl).trans (block_cell hx)
    have d3 := (HB.out.cell (p := ⟨xb, 3, none⟩) hxl).trans (block_cell hx)
    have d4 := (HB.out.cell (p := ⟨xb, 4, none⟩) hxl).trans (block_cell hx)
    have d5 := (HB.out.cell (p := ⟨xb, 5, none⟩) hxl).trans (block_cell hx)
    replace d0 : ((w.alloc (.cells #[.int .i64 0, .int .i64 0, .int .i64 0, .bool false, .slice none 0 0, .pointer none] 133)).alloc (.cells #[.int .i64 0, .int .i64 0, .int .i64 0, .bool false, .slice none 0 0, .pointer none] 133)).cell? ⟨xb, 0, none⟩ = some (.int .i64 v1) := d0
    replace d1 : ((w.alloc (.cells #[.int .i64 0, .int .i64 0, .int .i64 0, .bool false, .slice none 0 0, .pointer none] 133)).alloc (.cells #[.int .i64 0, .int .i64 0, .int .i64 0, .bool false, .slice none 0 0, .pointer none] 133)).cell? ⟨xb, 1, none⟩ = some (.int .i64 v2) := d1
    replace d2 : ((w.alloc (.cells #[.int .i64 0, .int .i64 0, .int .i64 0, .bool false, .slice none 0 0, .pointer none] 133)).alloc (.cells #[.int .i64 0, .int .i64 0, .int .i64 0, .bool false, .slice none 0 0, .pointer none] 133)).cell? ⟨xb, 2, none⟩ = some (.int .i64 v3) := d2
    replace d3 : ((w.alloc (.cells #[.int .i64 0, .int .i64 0, .int .i64 0, .bool false, .slice none 0 0, .pointer none] 133)).alloc (.cells #[.int .i64 0, .int .i64 0, .int .i64 0, .bool false, .slice none 0 0, .pointer none] 133)).cell? ⟨xb, 3, none⟩ = some (.bool v4) := d3
    replace d4 : ((w.alloc (.cells #[.int .i64 0, .int .i64 0, .int .i64 0, .bool false, .slice none 0 0, .pointer none] 133)).alloc (.cells #[.int .i64 0, .int .i64 0, .int .i64 0, .bool false, .slice none 0 0, .pointer none] 133)).cell? ⟨xb, 4, none⟩ = some (.slice v5 v6 v7) := d4
    replace d5 : ((w.alloc (.cells #[.int .i64 0, .int .i64 0, .int .i64 0, .bool false, .slice none 0 0, .pointer none] 133)).alloc (.cells #[.int .i64 0, .int .i64 0, .int .i64 0, .bool false, .slice none 0 0, .pointer none] 133)).cell? ⟨xb, 5, none⟩ = some (.pointer v8) := d5
    clear hx
    go_wp2
    exact bodyPost_ret (v := .tuple #[.agg #[.int .i64 v1, .int .i64 v2, .int .i64 v3, .bool v4, .slice v5 v6 v7, .pointer v8], .int .i64 1]) (by simp [results, Try.results101, go_sem]) rfl ⟨by rw [HEX.out, HE.out]; rfl, ((Below.refl _ _).alloc (Nat.le_refl _) _).alloc (by simp) _⟩
   | none =>
    rw [hv] at c0
    replace c0 : ((w.alloc (.cells #[.int .i64 0, .int .i64 0, .int .i64 0, .bool false, .slice none 0 0, .pointer none] 133)).alloc (.cells #[.int .i64 0, .int .i64 0, .int .i64 0, .bool false, .slice none 0 0, .pointer none] 133)).cell? ⟨b, o, none⟩ = some (.pointer none) := c0
    obtain ⟨s, hlen, hs0, hs1⟩ := HT.out.gt.len HB.out Try.underlying114 p
    cases hm : mb p with
    | none =>
     obtain rfl := hs0 hm
     have HE := Lib.hid (HT.out.look_none hv hm)
     rw [hm] at hlen c1
     clear hv hm hs0 hs1
     go_wp2
     exact bodyPost_ret (v := .tuple #[.agg #[.int .i64 0, .int .i64 0, .int .i64 0, .bool false, .slice none 0 0, .pointer none], .int .i64 2]) (by simp [results, Try.results101, go_sem]) rfl ⟨by rw [bvAt, HE.out]; rfl, HB.out⟩
    | some m =>
     obtain ⟨he, k, b', hk, hb'⟩ := HT.out.look_more hv hm
     have hs := hs1 k b' hk (by rw [hm]; simp) hb'
     have HE := Lib.hid he
     rw [hm] at hlen c1
     clear hv hm hs0 hs1 he hb' hk
     have hs2 : (0 : Int) < (s : Int) := by omega
     go_wp2
     exact bodyPost_ret (v := .tuple #[.agg #[.int .i64 0, .int .i64 0, .int .i64 0, .bool false, .slice none 0 0, .pointer none], .int .i64 0]) (by simp [results, Try.results101, go_sem]) rfl ⟨by rw [bvAt, HE.out]; rfl, HB.out⟩
end Go.Proofs.Ytampjndfhpjheaa
namespace Go.Proofs.Ytampjndfhpjheaa
open Go.RowKit
def PutN (E : Int → BV) (O : Nat → Prop) (root ro : Nat) (S : TrieS) (p : List Int) (v : Int) (w w' : World) : Prop :=
 Touch (withR O root) w w' ∧ RestSame w w' root ro ∧ ∃ nb mb val, TrieN 133 (encB E) w' (wider O w.heap.size) root ro (S ++ [(p, v)]) nb mb val
theorem putB_pre {S : TrieS} {p : List Int} (h : putB S p = true) : preB S p = false := by
 cases hp : preB S p
 · rfl
 · rw [put_pre hp] at h; cases h
theorem IsInts.touch2 {w w' : World} {O : Nat → Prop} {s : Option Addr} {n : Nat} {f : Nat → Int} (h : IsInts w s n f) (ht : Touch O w w') (hs : 0 < n → ∀ a, s = some a → ¬ O a.block) : IsInts w' s n f := by
 by_cases h0 : n = 0
 · exact .inl h0
 rcases h with h | ⟨b, off, rfl, hlt, hc⟩
 · exact .inl h
 · exact .inr ⟨b, off, rfl, Nat.lt_of_lt_of_le hlt ht.size, fun k hk => (World.cell?_of_block (w := w) (ht.block b hlt (hs (by omega) _ rfl))).trans (hc k hk)⟩
theorem nil_eq_b (w : World) : (binOp .eql 114 (.map none) (.map none)).run Try.prog w = .ok (.bool true) w := by kernel_rfl
theorem some_eq_b (m : Nat) (w : World) : (binOp .eql 114 (.map (some m)) (.map none)).run Try.prog w = .ok (.bool false) w := by kernel_rfl
set_option maxRecDepth 100000 in
set_option maxHeartbeats 4000000 in
theorem put_b_c (O : Nat → Prop) (root ro : Nat) (E : Int → BV) (S : TrieS) (nb mb : List Int → Option Nat) (val : List Int → Option (Nat × Int)) (v : Int) (bv : BV) (sk : Option Addr) (c : Nat) (p : List Int) (w : World) (hS : TrieOk S) (ht : TrieN 133 (encB E) w O root ro S nb mb val) (hE : E v = bv) (hput : putB S p = true) (hl : p.length ≤ maxLen) (hc : p.length ≤ c) (hn : sizeS S + p.length < maxLen) (hk : IsInts w sk p.length (gl p)) (hkeys : ∀ x ∈ p, inKey x) (hsk : ∀ a, sk = some a → ¬ withR O root a.block) :
  Calls Try.prog 81 #[.pointer (some ⟨root, ro, none⟩), .agg bv.cells, .slice sk p.length c] w fun e w' => e = .returned (.bool true) ∧ PutN E O root ro S p v w w' := by
 have hl' := hl
 unfold maxLen at hl'
 have HL := Lib.hid hl
 have HN0 := Lib.hid hn
 clear hl hn
 have HT := Lib.hid ht
 have HK := Lib.hid hk
 have HKY := Lib.hid hkeys
 have HOK := Lib.hid hS
 have HSK := Lib.hid hsk
 have HPUT := Lib.hid hput
 have hpre := putB_pre hput
 have h0 : 0 < p.length := by
  rcases Nat.eq_zero_or_pos p.length with e | e
  · rw [List.eq_nil_of_length_eq_zero e] at hput; cases hput
  · exact e
 clear ht hk hkeys hS hsk hput
 obtain ⟨v1, v2, v3, v4, v5, v6, v7, v8⟩ := bv
 have HE := Lib.hid hE
 clear hE
 show Calls Try.prog 81 #[.pointer (some ⟨root, ro, none⟩), .agg #[.int .i64 v1, .int .i64 v2, .int .i64 v3, .bool v4, .slice v5 v6 v7, .pointer v8], .slice sk p.length c] w _
 have hW : Below w.heap.size w (w.alloc (.cells #[.int .i64 v1, .int .i64 v2, .int .i64 v3, .bool v4, .slice v5 v6 v7, .pointer v8] 133)) := (Below.refl _ _).alloc (Nat.le_refl _) _
 have HW := Lib.hid hW
 clear hW
 have z0 : ((p.length : Int) == 0) = false := by rw [beq_eq_false_iff_ne]; omega
 have H0 := Lib.hid h0
 clear h0
 go_enter Try.func81, Try.ntmps81
 go_wp2_with fail
 refine (look_b_c O root ro E S nb mb val sk c p _ HOK.out (HT.out.later HW.out) HL.out (HK.out.later HW.out) HKY.out).mono ?_
 rintro e w1 ⟨rfl, hb⟩
 have HB := Lib.hid (bt HW.out hb)
 have HV := Lib.hid ((hb.block _ (by simp)).trans (one_new w (.cells #[.int .i64 v1, .int .i64 v2, .int .i64 v3, .bool v4, .slice v5 v6 v7, .pointer v8] 133)))
 clear hb
 have hbv : (bvAt E S p).cells = #[.int .i64 0, .int .i64 0, .int .i64 0, .bool false, .slice none 0 0, .pointer none] := by rw [bvAt, lookS_bad hpre]; rfl
 rw [hbv, lookS_bad hpre]
 clear hbv
 have HPRE := Lib.hid hpre
 clear hpre

 go_wp2_with fail
 have HB2 := Lib.hid (HB.out.alloc (by have := HB.out.size; omega) (.cells #[.int .i64 0, .int .i64 0, .int .i64 0, .bool false, .slice none 0 0, .pointer none] 133))
 have HV2 := Lib.hid ((Below.heap_alloc w1 (.cells #[.int .i64 0, .int .i64 0, .int .i64 0, .bool false, .slice none 0 0, .pointer none] 133) _ (heap_lt HV.out)).trans HV.out)
 clear HB HV
 go_loopg [0, 2, 27] p.length (fun g tv kv iv wr => ∃ i b o n' c' : Nat, ∃ s', i + g = p.length ∧ tv = .pointer (some ⟨b, o, none⟩) ∧ kv = .slice s' n' c' ∧ i + n' = p.length ∧ n' ≤ c' ∧ iv = .int .i64 i ∧ nb (p.take i) = some b ∧ offR ro (p.take i) = o ∧ (∀ j, 0 < j → j ≤ i → val (p.take j) = none) ∧ IsInts w s' n' (fun j => gl p (i + j)) ∧ (∀ a, s' = some a → ¬ withR O root a.block) ∧ ∃ w2, Below w.heap.size w w2 ∧ w2.heap[w.heap.size]? = some (.cells #[.int .i64 v1, .int .i64 v2, .int .i64 v3, .bool v4, .slice v5 v6 v7, .pointer v8] 133 (0, 0)) ∧ w2 = wr)
 case atStart => exact ⟨0, root, ro, p.length, c, sk, by omega, rfl, rfl, by omega, hc, rfl, HT.out.gt.root, rfl, fun j h1 h2 => by omega, HK.out.same (fun i _ => by rw [Nat.zero_add]), HSK.out, _, HB2.out, HV2.out, rfl⟩
 case round =>
  obtain ⟨i, b, o, n', c', s', hg, rfl, rfl, hn', hc', rfl, hb0, ho0, hv0, hk', hs', w2, hb2', hv2', rfl⟩ := hrel
  clear HB2 HV2
  have HB := Lib.hid hb2'
  have HV := Lib.hid hv2'
  clear hb2' hv2'
  have HN := Lib.hid hb0
  have HO := Lib.hid ho0
  have HV0 := Lib.hid hv0
  have HK2 := Lib.hid hk'
  have HS2 := Lib.hid hs'
  clear hb0 hv0 hk' hs' ho0
  by_cases hlt : i < p.length
  ·
   obtain ⟨bs, off, rfl, c0⟩ := HK.out.at HB.out hlt
   have hnd := HT.out.gt.node _ _ HN.out
   rw [HO.out] at hnd
   have c1 : w2.cell? ⟨b, o + 1, none⟩ = some (.map (mb (p.take i))) := (HB.out.cell (p := ⟨b, o + 1, none⟩) hnd.lt).trans hnd.cells.2.1
   clear hnd
   have hkey : inKey (gl p i) := HKY.out _ (by unfold gl; rw [List.getD_eq_getElem?_getD, List.getElem?_eq_getElem hlt]; exact List.getElem_mem hlt)
   have hlook := HT.out.gt.lookup HB.out Try.underlying114 (zero_bound _) (p := p.take i) hkey
   rw [show p.take i ++ [gl p i] = p.take (i + 1) from by rw [take_next hlt]; unfold gl; rw [List.getD_eq_getElem?_getD, List.getElem?_eq_getElem hlt]; rfl] at hlook
   cases hnx : nb (p.take (i + 1)) with
   | some b' =>
    rw [hnx] at hlook
    replace hlook : _ = Result.ok (Value.pointer (some ⟨b', 0, none⟩)) w2 := hlook
    have hnd := HT.out.gt.node _ _ hnx
    have ho2 : offR ro (p.take (i + 1)) = 0 := by rw [take_next hlt, offR_snoc]
    rw [ho2] at hnd
    have c2 : w2.cell? ⟨b', 0, none⟩ = some (ptrO ((val (p.take (i + 1))).map (·.1))) := (HB.out.cell (p := ⟨b', 0, none⟩) hnd.lt).trans hnd.cells.1
    have HN2 := Lib.hid hnx
    have HO2 := Lib.hid ho2
    clear hnx hkey hnd ho2
    cases hv : val (p.take (i + 1)) with
    | some x =>
     exfalso
     have h1 := HT.out.put_no hv
     rw [HPUT.out] at h1; cases h1
    | none =>
     rw [hv] at c2
     replace c2 : w2.cell? ⟨b', 0, none⟩ = some (.pointer none) := c2
     have HV1 := Lib.hid hv
     clear hv
     have hkk := HK2.out
     rcases hkk with hz | ⟨b2, o2, rfl, hb2, hc2⟩
     · exfalso; omega
     ·
      have HC2 := Lib.hid hc2
      clear hc2
      have q1 : (1 : Int) ≤ (n' : Int) := by omega
      have q2 : (n' : Int) ≤ (c' : Int) := by omega
      go_wp2
      all_goals
       go_roundg (gk - 1)
       case measure => omega
       case rel =>
        refine ⟨i + 1, b', 0, n' - 1, _, _, by omega, rfl, rfl, by omega, by omega, by go_num, HN2.out, HO2.out, fun j h1 h2 => ?_, ?_, ?_⟩
        ·
         by_cases e : j = i + 1
         · rw [e]; exact HV1.out
         · exact HV0.out j h1 (by omega)
        ·
         first
          | exact .inl (by omega)
          | exact .inr ⟨b2, o2 + 1, rfl, hb2, fun j hj => by
           have := HC2.out (j + 1) (by omega)
           show w.cell? ⟨b2, o2 + 1 + j, none⟩ = some (.int .i64 (gl p (i + 1 + j)))
           rw [show o2 + 1 + j = o2 + (j + 1) from by omega, show i + 1 + j = i + (j + 1) from by omega]; exact this⟩
        · exact ⟨(fun a ha => by injection ha with ha; subst ha; exact HS2.out ⟨b2, o2, none⟩ rfl), _, HB.out, HV.out, rfl⟩
   | none =>
    rw [hnx] at hlook
    replace hlook : _ = Result.ok (Value.pointer none) w2 := hlook
    have HNX := Lib.hid hnx
    clear hnx
    have hpath : PathN 133 (encB E) w (wider O w.heap.size) root ro S nb val p i i b nb mb := (PathN.start HT.out hlt HN.out HNX.out).wide (fun b hb => .inl hb)
    have hrlt : root < w.heap.size := HT.out.gt.lt HT.out.gt.root
    replace hpath := hpath.kept (fun q hq _ => HB.out.block q hq) (RootSame.of fun h => HB.out.block _ h)
    have HPA := Lib.hid hpath
    have HTO := Lib.hid (Touch.of (O := withR (wider O w.heap.size) root) HB.out)
    have HRS := Lib.hid (RestSame.of (ro := ro) (fun h => HB.out.block root h))
    have HRL := Lib.hid hrlt
    clear hpath hrlt
    go_wp2_with fail
    clear hlook c0 c1 hkey
    go_loopg [0, 54] n' (fun g tv iv wz => ∃ j bj oj : Nat, ∃ nb' mb', j + g = n' ∧ tv = .pointer (some ⟨bj, oj, none⟩) ∧ iv = .int .i64 j ∧ offR ro (p.take (i + j)) = oj ∧ PathN 133 (encB E) wz (wider O w.heap.size) root ro S nb val p i (i + j) bj nb' mb' ∧ wz.heap[w.heap.size]? = some (.cells #[.int .i64 v1, .int .i64 v2, .int .i64 v3, .bool v4, .slice v5 v6 v7, .pointer v8] 133 (0, 0)) ∧ Touch (withR (wider O w.heap.size) root) w wz ∧ RestSame w wz root ro)
    case atStart => exact ⟨0, b, o, nb, mb, by omega, rfl, rfl, HO.out, HPA.out, HV.out, HTO.out, HRS.out⟩
    case round =>
     clear HPA HTO HV HRS
     obtain ⟨j, bj, oj, nb', mb', hgj, rfl, rfl, hoj, hpa, hbx, hto, hrs⟩ := hrel
     have HPA := Lib.hid hpa
     have HBX := Lib.hid hbx
     have HTO := Lib.hid hto
     have HRS := Lib.hid hrs
     have HOJ := Lib.hid hoj
     clear hpa hbx hto hrs hoj
     by_cases hjl : j < n'
     ·
      have hkk := HK2.out
      rcases hkk with hz | ⟨b2, o2, rfl, hb2, hc2⟩
      · exfalso; omega
      ·
       have hc3 := hc2 j hjl
       have c0 : wr.cell? ⟨b2, o2 + j, none⟩ = some (.int .i64 (gl p (i + j))) := (World.cell?_of_block (w := w) (HTO.out.block b2 hb2 (fun h => by
        rcases h with (h | h) | h
        · exact HS2.out ⟨b2, o2, none⟩ rfl (.inl h)
        · omega
        · exact HS2.out ⟨b2, o2, none⟩ rfl (.inr h)))).trans hc3
       clear hc2 hc3
       have hnd := HPA.out.gt.node _ _ HPA.out.at_
       rw [HOJ.out] at hnd
       have hbj := hnd.lt
       have c1 : wr.cell? ⟨bj, oj + 1, none⟩ = some (.map (mb' (p.take (i + j)))) := hnd.cells.2.1
       have f1 : wr.frozen? ⟨bj, oj + 1, none⟩ = false := hnd.cells.2.2.2
       have hij : i + j < p.length := by omega
       have hkey : inKey (gl p (i + j)) := HKY.out _ (by unfold gl; rw [List.getD_eq_getElem?_getD, List.getElem?_eq_getElem hij]; exact List.getElem_mem hij)
       have hTne : (133 : TypeId) ≠ 116 := by decide
       have hwide : ∀ q, wr.heap.size ≤ q → wider O w.heap.size q := fun q hq => .inr (Nat.le_trans HTO.out.size hq)
       have hxb := heap_lt HBX.out
       have hxbj : w.heap.size ≠ bj := by
        intro e
        have h1 := HBX.out
        obtain ⟨cs, t, h2, ht2, _⟩ := hnd
        rw [e, h2] at h1
        injection h1 with h1
        injection h1 with _ h1
        exact ht2 h1
       have ho2 : offR ro (p.take (i + (j + 1))) = 0 := by rw [show i + (j + 1) = i + j + 1 from by omega, take_next hij, offR_snoc]
       have HO2 := Lib.hid ho2
       clear hnd ho2
       cases hm : mb' (p.take (i + j)) with
       | none =>
        rw [hm] at c1
        have hnq := nil_eq_b wr
        have hmk := run_makeMap (P := Try.prog) 114 wr
        obtain ⟨w4, hrun, hp4, ⟨ht4, hr4⟩, ho4⟩ := HPA.out.put_none hij rfl hkey hm Try.underlying114 hwide hTne
        rw [HOJ.out] at hrun
        have HP4 := Lib.hid hp4
        have HT4 := Lib.hid (HTO.out.trans ht4 (fun x hx => .inl hx))
        have HR4 := Lib.hid (HRS.out.trans hr4)
        have hbx4 : w4.heap[w.heap.size]? = some (.cells #[.int .i64 v1, .int .i64 v2, .int .i64 v3, .bool v4, .slice v5 v6 v7, .pointer v8] 133 (0, 0)) := (ho4 _ hxb hxbj).trans HBX.out
        have HX4 := Lib.hid hbx4
        clear hp4 ht4 hr4 ho4 hbx4 hm hkey hwide hxbj hTne
        go_wp2
        go_roundg (gk - 1)
        case measure => omega
        case rel =>
         obtain ⟨nb2, mb2, hp4⟩ := HP4.out
         exact ⟨j + 1, _, 0, nb2, mb2, by omega, rfl, by go_num, HO2.out, hp4, HX4.out, HT4.out, HR4.out⟩
       | some m =>
        rw [hm] at c1
        have hnq := some_eq_b m wr
        obtain ⟨w4, hrun, hp4, ⟨ht4, hr4⟩, ho4⟩ := HPA.out.put_some hij rfl hkey hm Try.underlying114 hwide hTne (by have := HN0.out; have := HPA.out.lp; omega)
        have HP4 := Lib.hid hp4
        have HT4 := Lib.hid (HTO.out.trans ht4 (fun x hx => .inl hx))
        have HR4 := Lib.hid (HRS.out.trans hr4)
        have hbx4 : w4.heap[w.heap.size]? = some (.cells #[.int .i64 v1, .int .i64 v2, .int .i64 v3, .bool v4, .slice v5 v6 v7, .pointer v8] 133 (0, 0)) := (ho4 _ hxb (fun e => by
         obtain ⟨es, cl, h2⟩ := (HPA.out.gt.kmap _ _ hm).isMap
         have h1 := HBX.out
         skip
         rw [e, h2] at h1; cases h1)).trans HBX.out
        have HX4 := Lib.hid hbx4
        clear hp4 ht4 hr4 ho4 hbx4 hm hkey hwide hxbj hTne
        go_wp2
        go_roundg (gk - 1)
        case measure => omega
        case rel =>
         obtain ⟨nb2, mb2, hp4⟩ := HP4.out
         exact ⟨j + 1, _, 0, nb2, mb2, by omega, rfl, by go_num, HO2.out, hp4, HX4.out, HT4.out, HR4.out⟩
     ·
      have hlast : i + j = p.length := by omega
      have hnd := HPA.out.gt.node _ _ HPA.out.at_
      rw [HOJ.out] at hnd
      have hbj := hnd.lt
      have f1 : wr.frozen? ⟨bj, oj, none⟩ = false := hnd.cells.2.2.1
      have c0 : wr.cell? ⟨bj, oj, none⟩ = some (ptrO ((val (p.take (i + j))).map (·.1))) := hnd.cells.1
      have hOb : withR (wider O w.heap.size) root bj ∧ (bj ≠ root ∨ oj = ro) := by
       by_cases e : p.take (i + j) = []
       ·
        have h1 := HPA.out.at_
        rw [e, HPA.out.gt.root] at h1
        cases h1
        exact ⟨.inr rfl, .inr (by rw [← HOJ.out, e]; rfl)⟩
       ·
        refine ⟨.inl (HPA.out.gt.own_n _ _ HPA.out.at_ e), .inl fun e2 => e ?_⟩
        subst e2
        exact HPA.out.gt.injn _ _ _ HPA.out.at_ HPA.out.gt.root
      have hpa := HPA.out
      have hoj := HOJ.out
      rw [hlast] at hpa hoj
      rw [List.take_length] at hoj
      have hfin := hpa.done HT.out w.heap.size v (by rw [show encB E v = #[.int .i64 v1, .int .i64 v2, .int .i64 v3, .bool v4, .slice v5 v6 v7, .pointer v8] from by rw [encB, HE.out]; rfl]; exact HBX.out) (.inr (Nat.le_refl _))
      rw [hoj] at hfin
      have htf := (HTO.out.trans (Touch.setCell (withR (wider O w.heap.size) root) wr (p := ⟨bj, oj, none⟩) hOb.1 (.pointer (some ⟨w.heap.size, 0, none⟩))) (fun x hx => .inl hx)).wide (O' := withR O root) (fun q hq h => by
       rcases h with (h | h) | h
       · exact .inl h
       · omega
       · exact .inr h)
      have hrf : RestSame w (wr.setCell ⟨bj, oj, none⟩ (.pointer (some ⟨w.heap.size, 0, none⟩))) root ro := HRS.out.trans (RestSame.setCell _ (hOb.2.imp id (fun e => .inl e)))
      have HFIN := Lib.hid hfin
      have HTF := Lib.hid htf
      have HRF := Lib.hid hrf
      clear hfin htf hpa hnd hOb hlast hrf hoj
      go_wp2
      go_ret
      exact ⟨rfl, HTF.out, HRF.out, HFIN.out⟩
  ·
   exfalso
   obtain rfl : i = p.length := by omega
   have hno := HN.out
   rw [List.take_length] at hno
   rcases (HT.out.dom p).1 (by rw [hno]; simp) with e | e
   · have := H0.out; rw [e] at this; exact absurd this (by decide)
   · rw [HPRE.out] at e; cases e
end Go.Proofs.Ytampjndfhpjheaa
