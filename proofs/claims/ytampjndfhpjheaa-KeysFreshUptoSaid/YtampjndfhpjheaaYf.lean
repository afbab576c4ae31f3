/- The program's tables in memory: keys, bounds, trie of a list. No walk. -/
import Derived.Test.YtampjndfhpjheaaYe
import Derived.Test.YtampjndfhpjheaaTk
namespace Go.Proofs.Ytampjndfhpjheaa
open Go.RowKit
theorem Try.infoBound : (Try.prog.info? 133).map (fun i => (i.zero, i.size, i.bytes)) = some (some (.agg #[.int .i64 0, .int .i64 0, .int .i64 0, .bool false, .slice none 0 0, .pointer none]), 6, 64) := by kernel_rfl
/-- blocks of some classes are as they were, and of their class still -/
def Same (P : Nat → Prop) (ow ow' : Nat → Nat) (w w' : World) : Prop := ∀ b, b < w.heap.size → P (ow b) → w'.heap[b]? = w.heap[b]? ∧ ow' b = ow b
theorem Same.of {P : Nat → Prop} {ow : Nat → Nat} {w w' : World} (h : Below w.heap.size w w') : Same P ow ow w w' := fun b hb _ => ⟨h.block b hb, rfl⟩
theorem Same.less {P P' : Nat → Prop} {ow ow' : Nat → Nat} {w w' : World} (h : Same P ow ow' w w') (hP : ∀ k, P' k → P k) : Same P' ow ow' w w' := fun b hb hp => h b hb (hP _ hp)
theorem own_size {w : World} {base : Nat} {e : TypeId} {size n : Nat} {v : Value} {xs : List Value} (h : w.ownsRow base e size v n xs) {b : Nat} (hb : v.ownBlock = some b) : b < w.heap.size := (World.ownsRow.lt h b hb).2
/-- the keys of a list -/
structure KPart (w : World) (ow : Nat → Nat) (i tb off : Nat) (K : List (List Int)) (qs : List QuietD) (sK : Option Addr) (cK : Nat) : Prop where
  cell : w.cell? ⟨tb, off, none⟩ = some (.slice sK K.length cK)
  keys : OwnQ w 0 (.slice sK K.length cK) qs
  own : ∀ b, (Value.slice sK K.length cK).ownBlock = some b → ow b = 20 + i
  len : qs.length = K.length
  each : ∀ j (hj : j < qs.length) (hk : j < K.length), QOk w qs[j] ∧ qs[j].n = K[j].length ∧ qs[j].l = K[j] ∧ ow qs[j].g = 5
theorem KPart.kept {w w' : World} {ow ow' : Nat → Nat} {i tb off : Nat} {K : List (List Int)} {qs : List QuietD} {sK : Option Addr} {cK : Nat} (h : KPart w ow i tb off K qs sK cK)
    (e : Same (fun k => k = 20 + i ∨ k = 5) ow ow' w w') (ec : w'.cell? ⟨tb, off, none⟩ = w.cell? ⟨tb, off, none⟩) : KPart w' ow' i tb off K qs sK cK := by
  refine ⟨ec.trans h.cell, own_kept h.keys (fun b hb => (e b (own_size h.keys hb) (.inl (h.own b hb))).1), fun b hb => ?_, h.len, fun j hj hk => ?_⟩
  · have := e b (own_size h.keys hb) (.inl (h.own b hb))
    rw [this.2]; exact h.own b hb
  · obtain ⟨h1, h2, h3, h4⟩ := h.each j hj hk
    have := e _ h1.lt (.inr h4)
    exact ⟨h1.kept this.1, h2, h3, this.2.trans h4⟩
/-- a row of slices that nobody writes into -/
def RowsC (w : World) (ow : Nat → Nat) (s : Option Addr) (n : Nat) (L : List (List Int)) : Prop :=
  n = L.length ∧ ∃ g, s = some ⟨g, 0, none⟩ ∧ g < w.heap.size ∧ ow g = 5 ∧ ∀ j (hj : j < L.length), ∃ b o c, w.cell? ⟨g, j, none⟩ = some (.slice (some ⟨b, o, none⟩) L[j].length c) ∧ L[j].length ≤ c ∧ b < w.heap.size ∧ ow b = 5 ∧ IsInts w (some ⟨b, o, none⟩) L[j].length (gl L[j])
theorem RowsC.kept {w w' : World} {ow ow' : Nat → Nat} {s : Option Addr} {n : Nat} {L : List (List Int)} (h : RowsC w ow s n L) (e : Same (fun k => k = 5) ow ow' w w') (hs : w.heap.size ≤ w'.heap.size) : RowsC w' ow' s n L := by
  obtain ⟨h1, g, h2, h3, h4, h5⟩ := h
  refine ⟨h1, g, h2, Nat.lt_of_lt_of_le h3 hs, (e g h3 h4).2.trans h4, fun j hj => ?_⟩
  obtain ⟨b, o, c, k1, k2, kb, k3, k4⟩ := h5 j hj
  refine ⟨b, o, c, (World.cell?_of_block (w := w) (e g h3 h4).1).trans k1, k2, Nat.lt_of_lt_of_le kb hs, (e b kb k3).2.trans k3, ?_⟩
  rcases k4 with k4 | ⟨b', o', he, hb, hc⟩
  · exact .inl k4
  · cases he
    exact .inr ⟨b, o, rfl, Nat.lt_of_lt_of_le hb hs, fun q hq => (World.cell?_of_block (w := w) (e b hb k3).1).trans (hc q hq)⟩
theorem GN.wideB {V : Type} {tV : TypeId} {enc : V → Array Value} {w : World} {O O' : Nat → Prop} {root ro n : Nat} {nb mb : List Int → Option Nat} {val : List Int → Option (Nat × V)} (h : GN tV enc w O root ro n nb mb val) (hO : ∀ b, b < w.heap.size → O b → O' b) : GN tV enc w O' root ro n nb mb val :=
  { h with
    own_n := fun p b hb hp => hO b (h.lt hb) (h.own_n p b hb hp)
    own_m := fun p b hb => hO b (h.map_lt hb) (h.own_m p b hb)
    own_v := fun p b hb => hO b.1 (h.val_lt hb) (h.own_v p b hb) }
/-- a trie in blocks of the class k, its root at tb, ro -/
def TPart (w : World) (ow : Nat → Nat) (k tb ro : Nat) (E : Int → BV) (S : TrieS) : Prop :=
  ∃ nb mb val, TrieN 133 (encB E) w (fun b => ow b = k) tb ro S nb mb val
theorem TPart.kept {w w' : World} {ow ow' : Nat → Nat} {k tb ro : Nat} {E : Int → BV} {S : TrieS} (h : TPart w ow k tb ro E S) (e : Same (fun x => x = k) ow ow' w w') (er : RootSame 133 w w' tb ro) : TPart w' ow' k tb ro E S := by
  obtain ⟨nb, mb, val, h⟩ := h
  have h1 : TrieN 133 (encB E) w (fun b => ow b = k ∧ ow' b = k) tb ro S nb mb val := { h with gt := h.gt.wideB (fun b hb hk => ⟨hk, (e b hb hk).2.trans hk⟩) }
  exact ⟨nb, mb, val, (h1.kept (fun b hb hk => (e b hb hk.1).1) er).wide (fun b hk => hk.2)⟩
theorem TPart.enc {w : World} {ow : Nat → Nat} {k tb ro : Nat} {E E' : Int → BV} {S : TrieS} (h : TPart w ow k tb ro E S) (e : ∀ r ∈ S, E' r.2 = E r.2) : TPart w ow k tb ro E' S := by
  obtain ⟨nb, mb, val, h⟩ := h
  exact ⟨nb, mb, val, { h with gt := h.gt.congr (fun p x hx => by unfold encB; rw [e _ (h.val_some hx)]) }⟩
def mlV : BV := ⟨0, 60, 0, false, none, 0, 0, none⟩
def ownS (L : List (List Int)) : TrieS := L.map fun k => (k, 0)
/-- what a bound is in memory -/
def BdOk (w : World) (ow : Nat → Nat) (b : Bd) (x : BV) : Prop :=
  x.v = b.verb ∧ x.m = b.move ∧ x.a = b.arg ∧ x.more = b.more ∧
  (b.own = [] ∧ x.os = none ∧ x.on = 0 ∧ x.oc = 0 ∧ x.dp = none ∨
   b.own ≠ [] ∧ RowsC w ow x.os x.on b.own ∧ x.on ≤ x.oc ∧ ∃ r, x.dp = some ⟨r, 0, none⟩ ∧ r < w.heap.size ∧ ow r = 5 ∧ TPart w ow 5 r 0 (fun _ => mlV) (ownS b.own))
theorem BdOk.kept {w w' : World} {ow ow' : Nat → Nat} {b : Bd} {x : BV} (h : BdOk w ow b x) (e : Same (fun k => k = 5) ow ow' w w') (hs : w.heap.size ≤ w'.heap.size) : BdOk w' ow' b x := by
  obtain ⟨h1, h2, h3, h4, h5⟩ := h
  refine ⟨h1, h2, h3, h4, ?_⟩
  rcases h5 with h5 | ⟨h5, h6, h7, r, h8, h9, h10, h11⟩
  · exact .inl h5
  · exact .inr ⟨h5, h6.kept e hs, h7, r, h8, Nat.lt_of_lt_of_le h9 hs, (e r h9 h10).2.trans h10, h11.kept e (RootSame.of fun _ => (e r h9 h10).1)⟩
def Eof (bvs : List BV) (x : Int) : BV := bvs.getD x.toNat bv0
def bflat (bvs : List BV) : List Value := bvs.flatMap fun b => b.cells.toList
theorem bflat_len (bvs : List BV) : (bflat bvs).length = bvs.length * 6 := by
  induction bvs with
  | nil => rfl
  | cons b l ih =>
    show (b.cells.toList ++ bflat l).length = _
    rw [List.length_append, ih, List.length_cons]
    have : b.cells.toList.length = 6 := rfl
    omega
theorem bflat_get (bvs : List BV) (j k : Nat) (hj : j < bvs.length) (hk : k < 6) : (bflat bvs)[6 * j + k]? = (bvs[j]).cells[k]? := by
  induction bvs generalizing j with
  | nil => simp at hj
  | cons b l ih =>
    show (b.cells.toList ++ bflat l)[6 * j + k]? = _
    have h6 : b.cells.toList.length = 6 := rfl
    cases j with
    | zero =>
      rw [List.getElem?_append_left (by omega)]
      simp
    | succ j =>
      rw [List.getElem?_append_right (by omega), h6, show 6 * (j + 1) + k - 6 = 6 * j + k from by omega]
      exact ih j (by simpa using hj)
/-- the bounds of a list -/
structure BPart (w : World) (ow : Nat → Nat) (i tb off : Nat) (B : List Bd) (bvs : List BV) (sB : Option Addr) (cB : Nat) : Prop where
  cell : w.cell? ⟨tb, off + 1, none⟩ = some (.slice sB B.length cB)
  bnds : w.ownsRow 0 133 6 (.slice sB B.length cB) B.length (bflat bvs)
  own : ∀ b, (Value.slice sB B.length cB).ownBlock = some b → ow b = 30 + i
  len : bvs.length = B.length
  each : ∀ j (hj : j < bvs.length) (hk : j < B.length), BdOk w ow B[j] bvs[j]
theorem BPart.kept {w w' : World} {ow ow' : Nat → Nat} {i tb off : Nat} {B : List Bd} {bvs : List BV} {sB : Option Addr} {cB : Nat} (h : BPart w ow i tb off B bvs sB cB)
    (e : Same (fun k => k = 30 + i ∨ k = 5) ow ow' w w') (hs : w.heap.size ≤ w'.heap.size) (ec : w'.cell? ⟨tb, off + 1, none⟩ = w.cell? ⟨tb, off + 1, none⟩) : BPart w' ow' i tb off B bvs sB cB := by
  refine ⟨ec.trans h.cell, own_kept h.bnds (fun b hb => (e b (own_size h.bnds hb) (.inl (h.own b hb))).1), fun b hb => ?_, h.len, fun j hj hk => (h.each j hj hk).kept (e.less fun k hk => .inr hk) hs⟩
  have := e b (own_size h.bnds hb) (.inl (h.own b hb))
  rw [this.2]; exact h.own b hb
theorem BPart.at {w : World} {ow : Nat → Nat} {i tb off : Nat} {B : List Bd} {bvs : List BV} {sB : Option Addr} {cB : Nat} (h : BPart w ow i tb off B bvs sB cB) {j : Nat} (hj : j < B.length) :
    ∃ g, sB = some ⟨g, 0, none⟩ ∧ g < w.heap.size ∧ ∀ k, k < 6 → w.cell? ⟨g, 6 * j + k, none⟩ = (bvs[j]'(by rw [h.len]; exact hj)).cells[k]? := by
  have hjb : j < bvs.length := by rw [h.len]; exact hj
  rcases h.bnds.2 with ⟨_, h2⟩ | ⟨g, cap, cur, h1, hg, hgg, h2, h3, h4, h5⟩
  · omega
  · obtain ⟨rfl, _, rfl⟩ := Value.slice.inj h1
    refine ⟨g, rfl, heap_lt hgg, fun k hk => ?_⟩
    rw [← bflat_get bvs j k hjb hk, ← h5, block_cell hgg, List.getElem?_take, if_pos (by omega)]
    simp
/-- one list of the tables -/
structure LPart (w : World) (ow : Nat → Nat) (i tb off : Nat) (K : List (List Int)) (B : List Bd) (S : TrieS) (qs : List QuietD) (bvs : List BV) (sK : Option Addr) (cK : Nat) (sB : Option Addr) (cB : Nat) : Prop where
  k : KPart w ow i tb off K qs sK cK
  b : BPart w ow i tb off B bvs sB cB
  t : TPart w ow (10 + i) tb (off + 2) (Eof bvs) S
/-- the classes on which a list leans -/
def cls (i k : Nat) : Prop := k = 10 + i ∨ k = 20 + i ∨ k = 30 + i ∨ k = 5
theorem LPart.kept {w w' : World} {ow ow' : Nat → Nat} {i tb off : Nat} {K : List (List Int)} {B : List Bd} {S : TrieS} {qs : List QuietD} {bvs : List BV} {sK : Option Addr} {cK : Nat} {sB : Option Addr} {cB : Nat}
    (h : LPart w ow i tb off K B S qs bvs sK cK sB cB) (e : Same (cls i) ow ow' w w') (hs : w.heap.size ≤ w'.heap.size) (e0 : w'.cell? ⟨tb, off, none⟩ = w.cell? ⟨tb, off, none⟩) (e1 : w'.cell? ⟨tb, off + 1, none⟩ = w.cell? ⟨tb, off + 1, none⟩) (er : RootSame 133 w w' tb (off + 2)) :
    LPart w' ow' i tb off K B S qs bvs sK cK sB cB :=
  ⟨h.k.kept (e.less fun _ hk => hk.elim (fun h => .inr (.inl h)) (fun h => .inr (.inr (.inr h)))) e0,
   h.b.kept (e.less fun _ hk => hk.elim (fun h => .inr (.inr (.inl h))) (fun h => .inr (.inr (.inr h)))) hs e1,
   h.t.kept (e.less fun _ hk => .inl hk) er⟩
def trieOf (rows : Rows) : TrieS := rows.zipIdx.map fun r => (r.1.1, (r.2 : Int))
theorem trieOf_snoc (rows : Rows) (r : List Int × Bd) : trieOf (rows ++ [r]) = trieOf rows ++ [(r.1, (rows.length : Int))] := by
  unfold trieOf
  rw [List.zipIdx_append, List.map_append]
  simp
theorem trieOf_mem {rows : Rows} {p : List Int} {v : Int} (h : (p, v) ∈ trieOf rows) : ∃ j : Nat, v = (j : Int) ∧ ∃ (hj : j < rows.length), rows[j].1 = p := by
  unfold trieOf at h
  obtain ⟨x, hx, he⟩ := List.mem_map.1 h
  obtain ⟨⟨k, b⟩, j⟩ := x
  rw [List.mem_zipIdx_iff_getElem?] at hx
  simp only [Prod.mk.injEq] at he
  obtain ⟨rfl, rfl⟩ := he
  obtain ⟨hj, hr⟩ := List.getElem?_eq_some_iff.1 hx
  exact ⟨j, rfl, hj, by rw [hr]⟩
/-- the block of the tables -/
def TbOk (w : World) (tb : Nat) : Prop := ∃ cs, w.heap[tb]? = some (.cells cs 120 (0, 0)) ∧ cs.size = 12
/-- a list of the tables with its rows -/
def LOf (w : World) (ow : Nat → Nat) (tb i : Nat) (rows : Rows) : Prop := ∃ qs bvs sK cK sB cB, LPart w ow i tb (4 * i) (rows.map (·.1)) (rows.map (·.2)) (trieOf rows) qs bvs sK cK sB cB
/-- the three lists: 0: normal, 1: selected, 2: behind -/
structure Tabs (w : World) (ow : Nat → Nat) (tb : Nat) (T : Nat → Rows) : Prop where
  blk : TbOk w tb
  own : ow tb = 4
  list : ∀ i, i < 3 → LOf w ow tb i (T i)
theorem Tabs.kept {w w' : World} {ow ow' : Nat → Nat} {tb : Nat} {T : Nat → Rows} (h : Tabs w ow tb T) (e : Same (fun k => k ≠ 0) ow ow' w w') (hs : w.heap.size ≤ w'.heap.size) : Tabs w' ow' tb T := by
  obtain ⟨cs, hb, hc⟩ := h.blk
  have hl := heap_lt hb
  have he := e tb hl (by rw [h.own]; decide)
  refine ⟨⟨cs, he.1.trans hb, hc⟩, he.2.trans h.own, fun i hi => ?_⟩
  obtain ⟨qs, bvs, sK, cK, sB, cB, hp⟩ := h.list i hi
  refine ⟨qs, bvs, sK, cK, sB, cB, hp.kept (e.less fun k hk => ?_) hs (World.cell?_of_block (w := w) he.1) (World.cell?_of_block (w := w) he.1) (RootSame.of fun _ => he.1)⟩
  rcases hk with h | h | h | h <;> omega
theorem Tabs.later {w w' : World} {ow : Nat → Nat} {tb : Nat} {T : Nat → Rows} (h : Tabs w ow tb T) (hb : Below w.heap.size w w') : Tabs w' ow tb T := h.kept (Same.of hb) hb.size
end Go.Proofs.Ytampjndfhpjheaa
