/- The program's tables in memory: keys, bounds, trie of a list. No walk. Contract: the reader's number. Condition: fewer than 2^62 keys. A row more in the tables: the three steps of put. No walk. -/
import Derived.Deep.RegionHeld3
import Derived.IntWalk
import Derived.Test.YtampjndfhpjheaaQAe
import Derived.Test.YtampjndfhpjheaaQAd
import Derived.Test.YtampjndfhpjheaaQAb
namespace Go.Proofs.Ytampjndfhpjheaa
open Go.RowKit
theorem Try.infoBound : (Try.prog.info? 133).map (fun i => (i.zero, i.size, i.bytes)) = some (some (.agg #[.int .i64 0, .int .i64 0, .int .i64 0, .bool false, .slice none 0 0, .pointer none]), 6, 64) := by kernel_rfl
def Same (P : Nat → Prop) (ow ow' : Nat → Nat) (w w' : World) : Prop := ∀ b, b < w.heap.size → P (ow b) → w'.heap[b]? = w.heap[b]? ∧ ow' b = ow b
theorem Same.of {P : Nat → Prop} {ow : Nat → Nat} {w w' : World} (h : Below w.heap.size w w') : Same P ow ow w w' := fun b hb _ => ⟨h.block b hb, rfl⟩
theorem Same.less {P P' : Nat → Prop} {ow ow' : Nat → Nat} {w w' : World} (h : Same P ow ow' w w') (hP : ∀ k, P' k → P k) : Same P' ow ow' w w' := fun b hb hp => h b hb (hP _ hp)
theorem own_size {w : World} {base : Nat} {e : TypeId} {size n : Nat} {v : Value} {xs : List Value} (h : w.ownsRow base e size v n xs) {b : Nat} (hb : v.ownBlock = some b) : b < w.heap.size := (World.ownsRow.lt h b hb).2
structure KPart (w : World) (ow : Nat → Nat) (i tb off : Nat) (K : List (List Int)) (qs : List QuietD) (sK : Option Addr) (cK : Nat) : Prop where
 cell : w.cell? ⟨tb, off, none⟩ = some (.slice sK K.length cK)
 keys : OwnQ w 0 (.slice sK K.length cK) qs
 own : ∀ b, (Value.slice sK K.length cK).ownBlock = some b → ow b = 20 + i
 len : qs.length = K.length
 each : ∀ j (hj : j < qs.length) (hk : j < K.length), QOk w qs[j] ∧ qs[j].n = K[j].length ∧ qs[j].l = K[j] ∧ ow qs[j].g = 5
theorem KPart.kept {w w' : World} {ow ow' : Nat → Nat} {i tb off : Nat} {K : List (List Int)} {qs : List QuietD} {sK : Option Addr} {cK : Nat} (h : KPart w ow i tb off K qs sK cK)
  (e : Same (fun k => k = 20 + i ∨ k = 5) ow ow' w w') (ec : w'.cell? ⟨tb, off, none⟩ = w.cell? ⟨tb, off, none⟩) : KPart w' ow' i tb off K qs sK cK := by
 refine ⟨ec.trans h.cell, own_kept h.keys (fun b hb => (e b (own_size h.keys hb) (.inl (h.own b hb))).1), fun b hb => ?_, h.len, fun j hj hk => ?_⟩
 ·
  have := e b (own_size h.keys hb) (.inl (h.own b hb))
  rw [this.2]; exact h.own b hb
 ·
  obtain ⟨h1, h2, h3, h4⟩ := h.each j hj hk
  have := e _ h1.lt (.inr h4)
  exact ⟨h1.kept this.1, h2, h3, this.2.trans h4⟩
def RowsC (w : World) (ow : Nat → Nat) (s : Option Addr) (n : Nat) (L : List (List Int)) : Prop :=
 n = L.length ∧ ∃ g, s = some ⟨g, 0, none⟩ ∧ g < w.heap.size ∧ ow g = 5 ∧ ∀ j (hj : j < L.length), ∃ b o c, w.cell? ⟨g, j, none⟩ = some (.slice (some ⟨b, o, none⟩) L[j].length c) ∧ L[j].length ≤ c ∧ b < w.heap.size ∧ ow b = 5 ∧ IsInts w (some ⟨b, o, none⟩) L[j].length (gl L[j])
theorem RowsC.kept {w w' : World} {ow ow' : Nat → Nat} {s : Option Addr} {n : Nat} {L : List (List Int)} (h : RowsC w ow s n L) (e : Same (fun k => k = 5) ow ow' w w') (hs : w.heap.size ≤ w'.heap.size) : RowsC w' ow' s n L := by
 obtain ⟨h1, g, h2, h3, h4, h5⟩ := h
 refine ⟨h1, g, h2, Nat.lt_of_lt_of_le h3 hs, (e g h3 h4).2.trans h4, fun j hj => ?_⟩
 obtain ⟨b, o, c, k1, k2, kb, k3, k4⟩ := h5 j hj
 refine ⟨b, o, c, (World.cell?_of_block (w := w) (e g h3 h4).1).trans k1, k2, Nat.lt_of_lt_of_le kb hs, (e b kb k3).2.trans k3, ?_⟩
 rcases k4 with k4 | ⟨b', o', he, hb, hc⟩
 · exact .inl k4
 ·
  cases he
  exact .inr ⟨b, o, rfl, Nat.lt_of_lt_of_le hb hs, fun q hq => (World.cell?_of_block (w := w) (e b hb k3).1).trans (hc q hq)⟩
theorem GN.wideB {V : Type} {tV : TypeId} {enc : V → Array Value} {w : World} {O O' : Nat → Prop} {root ro n : Nat} {nb mb : List Int → Option Nat} {val : List Int → Option (Nat × V)} (h : GN tV enc w O root ro n nb mb val) (hO : ∀ b, b < w.heap.size → O b → O' b) : GN tV enc w O' root ro n nb mb val :=
 { h with
  own_n := fun p b hb hp => hO b (h.lt hb) (h.own_n p b hb hp)
  own_m := fun p b hb => hO b (h.map_lt hb) (h.own_m p b hb)
  own_v := fun p b hb => hO b.1 (h.val_lt hb) (h.own_v p b hb) }
def TPart (w : World) (ow : Nat → Nat) (k tb ro : Nat) (E : Int → BV) (S : TrieS) : Prop :=
 ∃ nb mb val, TrieN 133 (encB E) w (fun b => ow b = k) tb ro S nb mb val
theorem TPart.kept {w w' : World} {ow ow' : Nat → Nat} {k tb ro : Nat} {E : Int → BV} {S : TrieS} (h : TPart w ow k tb ro E S) (e : Same (fun x => x = k) ow ow' w w') (er : RootSame 133 w w' tb ro) : TPart w' ow' k tb ro E S := by
 obtain ⟨nb, mb, val, h⟩ := h
 have h1 : TrieN 133 (encB E) w (fun b => ow b = k ∧ ow' b = k) tb ro S nb mb val := { h with gt := h.gt.wideB (fun b hb hk => ⟨hk, (e b hb hk).2.trans hk⟩) }
 exact ⟨nb, mb, val, (h1.kept (fun b hb hk => (e b hb hk.1).1) er).wide (fun b hk => hk.2)⟩
theorem TPart.enc {w : World} {ow : Nat → Nat} {k tb ro : Nat} {E E' : Int → BV} {S : TrieS} (h : TPart w ow k tb ro E S) (e : ∀ r ∈ S, E' r.2 = E r.2) : TPart w ow k tb ro E' S := by
 obtain ⟨nb, mb, val, h⟩ := h
 exact ⟨nb, mb, val, { h with gt := h.gt.congr (fun p x hx => by unfold encB; rw [e _ (h.val_some hx)]) }⟩
def mlV : BV := ⟨0, 60, 0, false, none, 0, 0, none⟩
def ownS (L : List (List Int)) : TrieS := L.map fun k => (k, 0)
def BdOk (w : World) (ow : Nat → Nat) (b : Bd) (x : BV) : Prop :=
 x.v = b.verb ∧ x.m = b.move ∧ x.a = b.arg ∧ x.more = b.more ∧
 (b.own = [] ∧ x.os = none ∧ x.on = 0 ∧ x.oc = 0 ∧ x.dp = none ∨
  b.own ≠ [] ∧ RowsC w ow x.os x.on b.own ∧ x.on ≤ x.oc ∧ ∃ r, x.dp = some ⟨r, 0, none⟩ ∧ r < w.heap.size ∧ ow r = 5 ∧ TPart w ow 5 r 0 (fun _ => mlV) (ownS b.own))
theorem BdOk.kept {w w' : World} {ow ow' : Nat → Nat} {b : Bd} {x : BV} (h : BdOk w ow b x) (e : Same (fun k => k = 5) ow ow' w w') (hs : w.heap.size ≤ w'.heap.size) : BdOk w' ow' b x := by
 obtain ⟨h1, h2, h3, h4, h5⟩ := h
 refine ⟨h1, h2, h3, h4, ?_⟩
 rcases h5 with h5 | ⟨h5, h6, h7, r, h8, h9, h10, h11⟩
 · exact .inl h5
 · exact .inr ⟨h5, h6.kept e hs, h7, r, h8, Nat.lt_of_lt_of_le h9 hs, (e r h9 h10).2.trans h10, h11.kept e (RootSame.of fun _ => (e r h9 h10).1)⟩
def Eof (bvs : List BV) (x : Int) : BV := bvs.getD x.toNat bv0
def bflat (bvs : List BV) : List Value := bvs.flatMap fun b => b.cells.toList
theorem bflat_get (bvs : List BV) (j k : Nat) (hj : j < bvs.length) (hk : k < 6) : (bflat bvs)[6 * j + k]? = (bvs[j]).cells[k]? := by
 induction bvs generalizing j with
 | nil => simp at hj
 | cons b l ih =>
  show (b.cells.toList ++ bflat l)[6 * j + k]? = _
  have h6 : b.cells.toList.length = 6 := rfl
  cases j with
  | zero =>
   rw [List.getElem?_append_left (by omega)]
   simp
  | succ j =>
   rw [List.getElem?_append_right (by omega), h6, show 6 * (j + 1) + k - 6 = 6 * j + k from by omega]
   exact ih j (by simpa using hj)
structure BPart (w : World) (ow : Nat → Nat) (i tb off : Nat) (B : List Bd) (bvs : List BV) (sB : Option Addr) (cB : Nat) : Prop where
 cell : w.cell? ⟨tb, off + 1, none⟩ = some (.slice sB B.length cB)
 bnds : w.ownsRow 0 133 6 (.slice sB B.length cB) B.length (bflat bvs)
 own : ∀ b, (Value.slice sB B.length cB).ownBlock = some b → ow b = 30 + i
 len : bvs.length = B.length
 each : ∀ j (hj : j < bvs.length) (hk : j < B.length), BdOk w ow B[j] bvs[j]
theorem BPart.kept {w w' : World} {ow ow' : Nat → Nat} {i tb off : Nat} {B : List Bd} {bvs : List BV} {sB : Option Addr} {cB : Nat} (h : BPart w ow i tb off B bvs sB cB)
  (e : Same (fun k => k = 30 + i ∨ k = 5) ow ow' w w') (hs : w.heap.size ≤ w'.heap.size) (ec : w'.cell? ⟨tb, off + 1, none⟩ = w.cell? ⟨tb, off + 1, none⟩) : BPart w' ow' i tb off B bvs sB cB := by
 refine ⟨ec.trans h.cell, own_kept h.bnds (fun b hb => (e b (own_size h.bnds hb) (.inl (h.own b hb))).1), fun b hb => ?_, h.len, fun j hj hk => (h.each j hj hk).kept (e.less fun k hk => .inr hk) hs⟩
 have := e b (own_size h.bnds hb) (.inl (h.own b hb))
 rw [this.2]; exact h.own b hb
theorem BPart.at {w : World} {ow : Nat → Nat} {i tb off : Nat} {B : List Bd} {bvs : List BV} {sB : Option Addr} {cB : Nat} (h : BPart w ow i tb off B bvs sB cB) {j : Nat} (hj : j < B.length) :
  ∃ g, sB = some ⟨g, 0, none⟩ ∧ g < w.heap.size ∧ ∀ k, k < 6 → w.cell? ⟨g, 6 * j + k, none⟩ = (bvs[j]'(by rw [h.len]; exact hj)).cells[k]? := by
 have hjb : j < bvs.length := by rw [h.len]; exact hj
 rcases h.bnds.2 with ⟨_, h2⟩ | ⟨g, cap, cur, h1, hg, hgg, h2, h3, h4, h5⟩
 · omega
 ·
  obtain ⟨rfl, _, rfl⟩ := Value.slice.inj h1
  refine ⟨g, rfl, heap_lt hgg, fun k hk => ?_⟩
  rw [← bflat_get bvs j k hjb hk, ← h5, block_cell hgg, List.getElem?_take, if_pos (by omega)]
  simp
structure LPart (w : World) (ow : Nat → Nat) (i tb off : Nat) (K : List (List Int)) (B : List Bd) (S : TrieS) (qs : List QuietD) (bvs : List BV) (sK : Option Addr) (cK : Nat) (sB : Option Addr) (cB : Nat) : Prop where
 k : KPart w ow i tb off K qs sK cK
 b : BPart w ow i tb off B bvs sB cB
 t : TPart w ow (10 + i) tb (off + 2) (Eof bvs) S
def cls (i k : Nat) : Prop := k = 10 + i ∨ k = 20 + i ∨ k = 30 + i ∨ k = 5
theorem LPart.kept {w w' : World} {ow ow' : Nat → Nat} {i tb off : Nat} {K : List (List Int)} {B : List Bd} {S : TrieS} {qs : List QuietD} {bvs : List BV} {sK : Option Addr} {cK : Nat} {sB : Option Addr} {cB : Nat}
   (h : LPart w ow i tb off K B S qs bvs sK cK sB cB) (e : Same (cls i) ow ow' w w') (hs : w.heap.size ≤ w'.heap.size) (e0 : w'.cell? ⟨tb, off, none⟩ = w.cell? ⟨tb, off, none⟩) (e1 : w'.cell? ⟨tb, off + 1, none⟩ = w.cell? ⟨tb, off + 1, none⟩) (er : RootSame 133 w w' tb (off + 2)) :
   LPart w' ow' i tb off K B S qs bvs sK cK sB cB :=
 ⟨h.k.kept (e.less fun _ hk => hk.elim (fun h => .inr (.inl h)) (fun h => .inr (.inr (.inr h)))) e0,
  h.b.kept (e.less fun _ hk => hk.elim (fun h => .inr (.inr (.inl h))) (fun h => .inr (.inr (.inr h)))) hs e1,
  h.t.kept (e.less fun _ hk => .inl hk) er⟩
def trieOf (rows : Rows) : TrieS := rows.zipIdx.map fun r => (r.1.1, (r.2 : Int))
theorem trieOf_snoc (rows : Rows) (r : List Int × Bd) : trieOf (rows ++ [r]) = trieOf rows ++ [(r.1, (rows.length : Int))] := by
 unfold trieOf
 rw [List.zipIdx_append, List.map_append]
 simp
theorem trieOf_mem {rows : Rows} {p : List Int} {v : Int} (h : (p, v) ∈ trieOf rows) : ∃ j : Nat, v = (j : Int) ∧ ∃ (hj : j < rows.length), rows[j].1 = p := by
 unfold trieOf at h
 obtain ⟨x, hx, he⟩ := List.mem_map.1 h
 obtain ⟨⟨k, b⟩, j⟩ := x
 rw [List.mem_zipIdx_iff_getElem?] at hx
 simp only [Prod.mk.injEq] at he
 obtain ⟨rfl, rfl⟩ := he
 obtain ⟨hj, hr⟩ := List.getElem?_eq_some_iff.1 hx
 exact ⟨j, rfl, hj, by rw [hr]⟩
def TbOk (w : World) (tb : Nat) : Prop := ∃ cs, w.heap[tb]? = some (.cells cs 120 (0, 0)) ∧ cs.size = 12
def LOf (w : World) (ow : Nat → Nat) (tb i : Nat) (rows : Rows) : Prop := ∃ qs bvs sK cK sB cB, LPart w ow i tb (4 * i) (rows.map (·.1)) (rows.map (·.2)) (trieOf rows) qs bvs sK cK sB cB
structure Tabs (w : World) (ow : Nat → Nat) (tb : Nat) (T : Nat → Rows) : Prop where
 blk : TbOk w tb
 own : ow tb = 4
 list : ∀ i, i < 3 → LOf w ow tb i (T i)
theorem Tabs.kept {w w' : World} {ow ow' : Nat → Nat} {tb : Nat} {T : Nat → Rows} (h : Tabs w ow tb T) (e : Same (fun k => k ≠ 0) ow ow' w w') (hs : w.heap.size ≤ w'.heap.size) : Tabs w' ow' tb T := by
 obtain ⟨cs, hb, hc⟩ := h.blk
 have hl := heap_lt hb
 have he := e tb hl (by rw [h.own]; decide)
 refine ⟨⟨cs, he.1.trans hb, hc⟩, he.2.trans h.own, fun i hi => ?_⟩
 obtain ⟨qs, bvs, sK, cK, sB, cB, hp⟩ := h.list i hi
 refine ⟨qs, bvs, sK, cK, sB, cB, hp.kept (e.less fun k hk => ?_) hs (World.cell?_of_block (w := w) he.1) (World.cell?_of_block (w := w) he.1) (RootSame.of fun _ => he.1)⟩
 rcases hk with h | h | h | h <;> omega
theorem Tabs.later {w w' : World} {ow : Nat → Nat} {tb : Nat} {T : Nat → Rows} (h : Tabs w ow tb T) (hb : Below w.heap.size w w') : Tabs w' ow tb T := h.kept (Same.of hb) hb.size
end Go.Proofs.Ytampjndfhpjheaa
namespace Go.Proofs.Ytampjndfhpjheaa
open Go.RowKit
def RdOk (w : World) (rb : Nat) (l : List Int) (cnt : Int) (B : Nat) : Prop :=
 ∃ s c, w.heap[rb]? = some (.cells #[.slice s l.length c, .int .i64 cnt] 139 (0, 0)) ∧ l.length ≤ c ∧ IsInts w s l.length (gl l) ∧ ∀ a, s = some a → a.block ≠ rb ∧ a.block < B
theorem RdOk.lt {w : World} {rb : Nat} {l : List Int} {cnt : Int} {B : Nat} (h : RdOk w rb l cnt B) : rb < w.heap.size := by obtain ⟨s, c, h1, _⟩ := h; exact heap_lt h1
theorem RdOk.later {w w' : World} {rb : Nat} {l : List Int} {cnt : Int} {B : Nat} (h : RdOk w rb l cnt B) (hb : Below w.heap.size w w') : RdOk w' rb l cnt B := by
 obtain ⟨s, c, h1, h2, h3, h4⟩ := h
 exact ⟨s, c, (hb.block _ (heap_lt h1)).trans h1, h2, h3.later hb, h4⟩
theorem gl_drop (l : List Int) (k i : Nat) : gl (l.drop k) i = gl l (k + i) := by
 unfold gl; rw [List.getD_eq_getElem?_getD, List.getD_eq_getElem?_getD, List.getElem?_drop]
theorem RdOk.cut {w : World} {rb : Nat} {l : List Int} {cnt : Int} {B : Nat} {s : Option Addr} {c k : Nat} (h1 : w.heap[rb]? = some (.cells #[.slice s l.length c, .int .i64 cnt] 139 (0, 0))) (_h2 : l.length ≤ c) (h3 : IsInts w s l.length (gl l)) (h4 : ∀ a, s = some a → a.block ≠ rb ∧ a.block < B) (hk : k ≤ l.length)
  {s' : Option Addr} (hs : l.length = k ∨ ∃ b o, s = some ⟨b, o, none⟩ ∧ s' = some ⟨b, o + k, none⟩) (hs2 : ∀ a, s' = some a → a.block ≠ rb ∧ a.block < B) {c2 : Nat} (hc2 : l.length - k ≤ c2) : RdOk (w.setCell ⟨rb, 0, none⟩ (.slice s' (l.length - k) c2)) rb (l.drop k) cnt B := by
 have hl : (l.drop k).length = l.length - k := List.length_drop ..
 refine ⟨s', c2, ?_, by rw [hl]; exact hc2, ?_, hs2⟩
 · rw [block_set _ h1, hl]; rfl
 ·
  rw [hl]
  rcases hs with e | ⟨b, o, rfl, rfl⟩
  · exact .inl (by omega)
  ·
   by_cases h0 : l.length - k = 0
   · exact .inl h0
   rcases h3 with h3 | ⟨b', o', he, hb, hc⟩
   · omega
   ·
    cases he
    refine .inr ⟨b, o + k, rfl, by simpa [World.setCell] using hb, fun i hi => ?_⟩
    have hne := (h4 ⟨b, o, none⟩ rfl).1
    rw [World.cell?_of_block (w := w) (Below.heap_setCell w ⟨rb, 0, none⟩ _ b (show b ≠ rb from hne)), gl_drop, show o + k + i = o + (k + i) from by omega]
    exact hc (k + i) (by omega)
theorem RdOk.count {w : World} {rb : Nat} {l : List Int} {cnt : Int} {B : Nat} (h : RdOk w rb l cnt B) (n : Int) : RdOk (w.setCell ⟨rb, 1, none⟩ (.int .i64 n)) rb l n B := by
 obtain ⟨s, c, h1, h2, h3, h4⟩ := h
 refine ⟨s, c, by rw [block_set _ h1]; rfl, h2, ?_, h4⟩
 rcases h3 with h3 | ⟨b, o, rfl, hb, hc⟩
 · exact .inl h3
 ·
  have hne := (h4 ⟨b, o, none⟩ rfl).1
  exact .inr ⟨b, o, rfl, by simpa [World.setCell] using hb, fun i hi => by
   rw [World.cell?_of_block (w := w) (Below.heap_setCell w ⟨rb, 1, none⟩ _ b (show b ≠ rb from hne))]; exact hc i hi⟩
theorem numP_cons {x cnt : Int} {t : List Int} (h : 49 ≤ x ∧ x ≤ 57) : numP cnt (x :: t) = (min (max cnt 1 * (runN 0 (x :: t)).1) 9999, (runN 0 (x :: t)).2) := by
 have : dig1B x = true := by unfold dig1B; rw [Bool.and_eq_true, decide_eq_true_eq, decide_eq_true_eq]; exact h
 simp only [numP, this, if_true]
theorem runN_dig {n y : Int} {u : List Int} (h : 48 ≤ y ∧ y ≤ 57) : runN n (y :: u) = runN (min (10 * n + y - 48) 9999) u := by
 have : digB y = true := by unfold digB; rw [Bool.and_eq_true, decide_eq_true_eq, decide_eq_true_eq]; exact h
 simp only [runN, this, if_true]
theorem runN_stop {n y : Int} {u : List Int} (h : ¬ (48 ≤ y ∧ y ≤ 57)) : runN n (y :: u) = (n, y :: u) := by
 have : digB y = false := by unfold digB; rw [Bool.and_eq_false_iff, decide_eq_false_iff_not, decide_eq_false_iff_not]; omega
 simp [runN, this]
set_option maxRecDepth 100000 in
set_option maxHeartbeats 4000000 in
theorem number_c (rb : Nat) (l : List Int) (cnt : Int) (B : Nat) (w : World) (h : RdOk w rb l cnt B) (hl : l.length < 4611686018427387904) (h0 : 0 ≤ cnt) (h1 : cnt ≤ 9999) :
  Calls Try.prog 84 #[.pointer (some ⟨rb, 0, none⟩)] w fun e w' => e = .returned (.tuple #[]) ∧ RdOk w' rb (numP cnt l).2 (numP cnt l).1 B ∧ Touch (fun b => b = rb) w w' := by
 have h' := h
 obtain ⟨s, c, hb, hc, hi, hne⟩ := h'
 cases l with
 | nil =>
  have c0 : w.cell? ⟨rb, 0, none⟩ = some (.slice s 0 c) := block_cell hb
  have H := Lib.hid h
  clear h hb hi hne
  go_enter Try.func84, Try.ntmps84
  go_wp2
  refine bodyPost_ret (results_none rfl _ _ _) rfl ?_
  exact ⟨rfl, H.out, Touch.refl _ _⟩
 | cons x t =>
  have c0 : w.cell? ⟨rb, 0, none⟩ = some (.slice s (x :: t).length c) := block_cell hb
  obtain ⟨b, o, rfl, hx⟩ := hi.at (Below.refl _ _) (show 0 < (x :: t).length by simp)
  rw [Nat.add_zero] at hx
  have hx' : w.cell? ⟨b, o, none⟩ = some (.int .i64 x) := hx
  have z0 : (((x :: t).length : Int) == 0) = false := by rw [beq_eq_false_iff_ne]; simp only [List.length_cons]; omega
  have q0 : (0 : Int) < ((x :: t).length : Int) := by simp only [List.length_cons]; omega
  have H := Lib.hid h
  have hlen : (x :: t).length = t.length + 1 := rfl
  clear h hb hi hne hx
  by_cases hd : 49 ≤ x ∧ x ≤ 57
  ·
   have hn := numP_cons (cnt := cnt) (t := t) hd
   have HN := Lib.hid hn
   generalize hL : x :: t = L at *
   have hlt49 : ¬ x < 49 := by omega
   have hgt57 : ¬ 57 < x := by omega
   clear hlen hn hd
   go_enter Try.func84, Try.ntmps84
   go_wp2_with fail
   clear c0 hx' z0 q0
   go_loopg [2] L.length (fun gg nv wr => ∃ q n, q.length ≤ gg ∧ nv = .int .i64 n ∧ 0 ≤ n ∧ n ≤ 9999 ∧ runN n q = runN 0 L ∧ RdOk wr rb q cnt B ∧ Touch (fun b => b = rb) w wr)
   case atStart => exact ⟨L, 0, Nat.le_refl _, rfl, by omega, by omega, rfl, H.out, Touch.refl _ _⟩
   case round =>
    obtain ⟨q, n, hq, rfl, hn0, hn1, hrun, hrd, hto⟩ := hrel
    clear H hL
    have HRUN := Lib.hid hrun
    have HTO := Lib.hid hto
    have HRD := Lib.hid hrd
    obtain ⟨s', c', d1, d2, d3, d4⟩ := hrd
    cases q with
    | nil =>
     have c0 : wr.cell? ⟨rb, 0, none⟩ = some (.slice s' 0 c') := block_cell d1
     have c1 : wr.cell? ⟨rb, 1, none⟩ = some (.int .i64 cnt) := block_cell d1
     have f1 : wr.frozen? ⟨rb, 1, none⟩ = false := block_free d1
     have hr : runN 0 L = (n, []) := HRUN.out.symm
     have HR := Lib.hid hr
     clear hr
     have HFN : Hid (∀ w5, w5 = wr.setCell ⟨rb, 1, none⟩ (.int .i64 (min (max cnt 1 * n) 9999)) → RdOk w5 rb [] (min (max cnt 1 * n) 9999) B ∧ Touch (fun b => b = rb) w w5) := Lib.hid (fun w5 h5 => by
      subst h5
      exact ⟨HRD.out.count _, HTO.out.trans (Touch.setCell (fun b => b = rb) wr (p := ⟨rb, 1, none⟩) rfl _) (fun x hx => .inl hx)⟩)
     obtain ⟨M, hM⟩ : ∃ M, max cnt 1 * n = M := ⟨_, rfl⟩
     have hM0 : 0 ≤ M ∧ M ≤ 99980001 := by
      rw [← hM]
      have hmx : 1 ≤ max cnt 1 ∧ max cnt 1 ≤ 9999 := by omega
      exact ⟨Int.mul_nonneg (by omega) hn0, Int.le_trans (Int.mul_le_mul hmx.2 hn1 hn0 (by omega)) (by decide)⟩
     have HM := Lib.hid hM
     have hm0 := hM0.1
     have hm1 := hM0.2
     clear hM0 d1 d3 d4 hrun hto
     by_cases hc0 : cnt < 1
     ·
      have hmc : max cnt 1 * n = n := by rw [show max cnt 1 = 1 from by omega, Int.one_mul]
      have hMn : n = M := hmc.symm.trans hM
      rw [hM] at HFN
      subst hMn
      have hcz : ¬ 1 < cnt := by omega
      have hmin : min n 9999 = n := by omega
      rw [hmin] at HFN
      have HMI := Lib.hid hmin
      clear hM hmc hmin
      go_wp2
      go_end0
      have := HFN.out _ rfl
      exact ⟨rfl, by rw [HN.out, HR.out, HM.out, HMI.out]; exact this.1, this.2⟩
     ·
      have hmc : max cnt 1 = cnt := by omega
      rw [hmc] at hM
      rw [hmc, hM] at HFN
      have hw1 : IntKind.i64.wrap (cnt * n) = M := by rw [hM]; exact IntWalk.i64_in _ (by omega)
      have hw2 : wrap64 (cnt * n) = M := by rw [← IntWalk.i64_left]; exact hw1
      clear hM hmc
      by_cases hb : M ≤ 9999
      ·
       have hmin : min M 9999 = M := by omega
       rw [hmin] at HFN
       have HMI := Lib.hid hmin
       clear hmin
       go_wp2
       go_end0
       have := HFN.out _ rfl
       exact ⟨rfl, by rw [HN.out, HR.out, HM.out, HMI.out]; exact this.1, this.2⟩
      ·
       have hmin : min M 9999 = 9999 := by omega
       rw [hmin] at HFN
       have HMI := Lib.hid hmin
       have hb2 : 9999 < M := by omega
       clear hmin
       go_wp2
       go_end0
       have := HFN.out _ rfl
       exact ⟨rfl, by rw [HN.out, HR.out, HM.out, HMI.out]; exact this.1, this.2⟩
    | cons y u =>
     have c0 : wr.cell? ⟨rb, 0, none⟩ = some (.slice s' (y :: u).length c') := block_cell d1
     have f0 : wr.frozen? ⟨rb, 0, none⟩ = false := block_free d1
     obtain ⟨b2, o2, rfl, hy⟩ := d3.at (Below.refl _ _) (show 0 < (y :: u).length by simp)
     rw [Nat.add_zero] at hy
     have hy' : wr.cell? ⟨b2, o2, none⟩ = some (.int .i64 y) := hy
     have p0 : (0 : Int) < ((y :: u).length : Int) := by simp only [List.length_cons]; omega
     have p1 : (1 : Int) ≤ ((y :: u).length : Int) := by simp only [List.length_cons]; omega
     have p2 : ((y :: u).length : Int) ≤ (c' : Int) := by omega
     by_cases hdg : 48 ≤ y ∧ y ≤ 57
     ·
      have hr2 := runN_dig (u := u) (n := n) hdg
      rw [hr2] at HRUN
      obtain ⟨y0, y1⟩ := hdg
      have hmm : ∃ m, min (10 * n + y - 48) 9999 = m ∧ 0 ≤ m ∧ m ≤ 9999 := ⟨_, rfl, by omega, by omega⟩
      obtain ⟨m, hm, hm0, hm1⟩ := hmm
      rw [hm] at HRUN
      have hcut : ∀ s2 c2 w5, (u.length = 0 ∨ s2 = some ⟨b2, o2 + 1, none⟩) → (∀ a, s2 = some a → a.block ≠ rb ∧ a.block < B) → u.length ≤ c2 → w5 = wr.setCell ⟨rb, 0, none⟩ (.slice s2 u.length c2) → RdOk w5 rb u cnt B := fun s2 c2 w5 h5 h6 h8 h7 => by
       subst h7
       exact RdOk.cut (k := 1) d1 d2 d3 d4 (by simp) (h5.imp (fun e => by simp [e]) (fun e => ⟨b2, o2, rfl, e⟩)) h6 (by simpa using h8)
      have hne := d4 ⟨b2, o2, none⟩ rfl
      have HCUT := Lib.hid hcut
      have hqu : u.length + 1 ≤ gk := hq
      clear d1 d3 d4 hcut hr2 hrun hto hy
      have hlen2 : (y :: u).length = u.length + 1 := rfl
      generalize (y :: u).length = n2 at *
      by_cases hb : 10 * n + y - 48 ≤ 9999
      ·
       have hme : m = 10 * n + y - 48 := by omega
       have HME := Lib.hid hme
       clear hme hm
       go_wp2
       all_goals
        go_roundg u.length
        case measure => omega
        case rel => exact ⟨u, _, Nat.le_refl _, by rw [HME.out], hm0, hm1, HRUN.out, HCUT.out _ _ _ (by first | exact .inl (by omega) | exact .inr rfl) (by intro a ha; injection ha with ha; subst ha; exact hne) (by omega) rfl, HTO.out.trans (Touch.setCell (fun b => b = rb) wr (p := ⟨rb, 0, none⟩) rfl _) (fun x hx => .inl hx)⟩
      ·
       have hme : m = 9999 := by omega
       have HME := Lib.hid hme
       have hb2 : 9999 < 10 * n + y - 48 := by omega
       clear hme hm
       go_wp2
       all_goals
        go_roundg u.length
        case measure => omega
        case rel => exact ⟨u, _, Nat.le_refl _, by rw [HME.out], hm0, hm1, HRUN.out, HCUT.out _ _ _ (by first | exact .inl (by omega) | exact .inr rfl) (by intro a ha; injection ha with ha; subst ha; exact hne) (by omega) rfl, HTO.out.trans (Touch.setCell (fun b => b = rb) wr (p := ⟨rb, 0, none⟩) rfl _) (fun x hx => .inl hx)⟩
     ·
      have hr : runN 0 L = (n, y :: u) := by rw [← HRUN.out, runN_stop hdg]
      have HR := Lib.hid hr
      have c1 : wr.cell? ⟨rb, 1, none⟩ = some (.int .i64 cnt) := block_cell d1
      have f1 : wr.frozen? ⟨rb, 1, none⟩ = false := block_free d1
      clear hr hy
      by_cases h48 : y < 48
      ·
       have h48' : ¬ 48 ≤ y := by omega
       clear hdg
       have HFN : Hid (∀ w5, w5 = wr.setCell ⟨rb, 1, none⟩ (.int .i64 (min (max cnt 1 * n) 9999)) → RdOk w5 rb (y :: u) (min (max cnt 1 * n) 9999) B ∧ Touch (fun b => b = rb) w w5) := Lib.hid (fun w5 h5 => by
        subst h5
        exact ⟨HRD.out.count _, HTO.out.trans (Touch.setCell (fun b => b = rb) wr (p := ⟨rb, 1, none⟩) rfl _) (fun x hx => .inl hx)⟩)
       obtain ⟨M, hM⟩ : ∃ M, max cnt 1 * n = M := ⟨_, rfl⟩
       have hM0 : 0 ≤ M ∧ M ≤ 99980001 := by
        rw [← hM]
        have hmx : 1 ≤ max cnt 1 ∧ max cnt 1 ≤ 9999 := by omega
        exact ⟨Int.mul_nonneg (by omega) hn0, Int.le_trans (Int.mul_le_mul hmx.2 hn1 hn0 (by omega)) (by decide)⟩
       have HM := Lib.hid hM
       have hm0 := hM0.1
       have hm1 := hM0.2
       clear hM0 d1 d3 d4 hrun hto
       by_cases hc0 : cnt < 1
       ·
        have hmc : max cnt 1 * n = n := by rw [show max cnt 1 = 1 from by omega, Int.one_mul]
        have hMn : n = M := hmc.symm.trans hM
        rw [hM] at HFN
        subst hMn
        have hcz : ¬ 1 < cnt := by omega
        have hmin : min n 9999 = n := by omega
        rw [hmin] at HFN
        have HMI := Lib.hid hmin
        clear hM hmc hmin
        go_wp2
        go_end0
        have := HFN.out _ rfl
        exact ⟨rfl, by rw [HN.out, HR.out, HM.out, HMI.out]; exact this.1, this.2⟩
       ·
        have hmc : max cnt 1 = cnt := by omega
        rw [hmc] at hM
        rw [hmc, hM] at HFN
        have hw1 : IntKind.i64.wrap (cnt * n) = M := by rw [hM]; exact IntWalk.i64_in _ (by omega)
        have hw2 : wrap64 (cnt * n) = M := by rw [← IntWalk.i64_left]; exact hw1
        clear hM hmc
        by_cases hb : M ≤ 9999
        ·
         have hmin : min M 9999 = M := by omega
         rw [hmin] at HFN
         have HMI := Lib.hid hmin
         clear hmin
         go_wp2
         go_end0
         have := HFN.out _ rfl
         exact ⟨rfl, by rw [HN.out, HR.out, HM.out, HMI.out]; exact this.1, this.2⟩
        ·
         have hmin : min M 9999 = 9999 := by omega
         rw [hmin] at HFN
         have HMI := Lib.hid hmin
         have hb2 : 9999 < M := by omega
         clear hmin
         go_wp2
         go_end0
         have := HFN.out _ rfl
         exact ⟨rfl, by rw [HN.out, HR.out, HM.out, HMI.out]; exact this.1, this.2⟩
      ·
       have h48' : 48 ≤ y := by omega
       have h57' : 57 < y := by omega
       clear hdg
       have HFN : Hid (∀ w5, w5 = wr.setCell ⟨rb, 1, none⟩ (.int .i64 (min (max cnt 1 * n) 9999)) → RdOk w5 rb (y :: u) (min (max cnt 1 * n) 9999) B ∧ Touch (fun b => b = rb) w w5) := Lib.hid (fun w5 h5 => by
        subst h5
        exact ⟨HRD.out.count _, HTO.out.trans (Touch.setCell (fun b => b = rb) wr (p := ⟨rb, 1, none⟩) rfl _) (fun x hx => .inl hx)⟩)
       obtain ⟨M, hM⟩ : ∃ M, max cnt 1 * n = M := ⟨_, rfl⟩
       have hM0 : 0 ≤ M ∧ M ≤ 99980001 := by
        rw [← hM]
        have hmx : 1 ≤ max cnt 1 ∧ max cnt 1 ≤ 9999 := by omega
        exact ⟨Int.mul_nonneg (by omega) hn0, Int.le_trans (Int.mul_le_mul hmx.2 hn1 hn0 (by omega)) (by decide)⟩
       have HM := Lib.hid hM
       have hm0 := hM0.1
       have hm1 := hM0.2
       clear hM0 d1 d3 d4 hrun hto
       by_cases hc0 : cnt < 1
       ·
        have hmc : max cnt 1 * n = n := by rw [show max cnt 1 = 1 from by omega, Int.one_mul]
        have hMn : n = M := hmc.symm.trans hM
        rw [hM] at HFN
        subst hMn
        have hcz : ¬ 1 < cnt := by omega
        have hmin : min n 9999 = n := by omega
        rw [hmin] at HFN
        have HMI := Lib.hid hmin
        clear hM hmc hmin
        go_wp2
        go_end0
        have := HFN.out _ rfl
        exact ⟨rfl, by rw [HN.out, HR.out, HM.out, HMI.out]; exact this.1, this.2⟩
       ·
        have hmc : max cnt 1 = cnt := by omega
        rw [hmc] at hM
        rw [hmc, hM] at HFN
        have hw1 : IntKind.i64.wrap (cnt * n) = M := by rw [hM]; exact IntWalk.i64_in _ (by omega)
        have hw2 : wrap64 (cnt * n) = M := by rw [← IntWalk.i64_left]; exact hw1
        clear hM hmc
        by_cases hb : M ≤ 9999
        ·
         have hmin : min M 9999 = M := by omega
         rw [hmin] at HFN
         have HMI := Lib.hid hmin
         clear hmin
         go_wp2
         go_end0
         have := HFN.out _ rfl
         exact ⟨rfl, by rw [HN.out, HR.out, HM.out, HMI.out]; exact this.1, this.2⟩
        ·
         have hmin : min M 9999 = 9999 := by omega
         rw [hmin] at HFN
         have HMI := Lib.hid hmin
         have hb2 : 9999 < M := by omega
         clear hmin
         go_wp2
         go_end0
         have := HFN.out _ rfl
         exact ⟨rfl, by rw [HN.out, HR.out, HM.out, HMI.out]; exact this.1, this.2⟩
  ·
   have hn : numP cnt (x :: t) = (cnt, x :: t) := by
    have : dig1B x = false := by
     unfold dig1B
     rw [Bool.and_eq_false_iff, decide_eq_false_iff_not, decide_eq_false_iff_not]; omega
    simp [numP, this]
   have HN := Lib.hid hn
   generalize (x :: t).length = n at *
   clear hlen hn
   by_cases h49 : x < 49
   ·
    go_enter Try.func84, Try.ntmps84
    go_wp2
    refine bodyPost_ret (results_none rfl _ _ _) rfl ?_
    exact ⟨rfl, by rw [HN.out]; exact H.out, Touch.refl _ _⟩
   ·
    have h57 : 57 < x := by omega
    go_enter Try.func84, Try.ntmps84
    go_wp2
    refine bodyPost_ret (results_none rfl _ _ _) rfl ?_
    exact ⟨rfl, by rw [HN.out]; exact H.out, Touch.refl _ _⟩
end Go.Proofs.Ytampjndfhpjheaa
namespace Go.Proofs.Ytampjndfhpjheaa
open Go.RowKit
structure TabsX (w : World) (ow : Nat → Nat) (tb : Nat) (T : Nat → Rows) (i : Nat) (K : List (List Int)) (B : List Bd) (S : TrieS) (qs : List QuietD) (bvs : List BV) (sK : Option Addr) (cK : Nat) (sB : Option Addr) (cB : Nat) : Prop where
 blk : TbOk w tb
 own : ow tb = 4
 this : LPart w ow i tb (4 * i) K B S qs bvs sK cK sB cB
 list : ∀ j, j < 3 → j ≠ i → LOf w ow tb j (T j)
structure StepX (P C : Nat → Prop) (tb : Nat) (ow ow' : Nat → Nat) (w w' : World) : Prop where
 touch : Touch (fun b => P (ow b) ∨ b = tb) w w'
 cls : ∀ b, b < w.heap.size → ow' b = ow b
 tbk : ∀ cs, w.heap[tb]? = some (.cells cs 120 (0, 0)) → ∃ cs', w'.heap[tb]? = some (.cells cs' 120 (0, 0)) ∧ cs'.size = cs.size ∧ ∀ j, ¬ C j → cs'[j]? = cs[j]?
theorem StepX.same {P C : Nat → Prop} {tb : Nat} {ow ow' : Nat → Nat} {w w' : World} (h : StepX P C tb ow ow' w w') (ho : ow tb = 4) {Q : Nat → Prop} (hQ : ∀ k, Q k → ¬ P k ∧ k ≠ 4) : Same Q ow ow' w w' := fun b hb hq =>
 ⟨h.touch.block b hb (fun e => by
  have := hQ _ hq
  rcases e with e | e
  · exact this.1 e
  · subst e; exact this.2 ho), h.cls b hb⟩
theorem StepX.cell {P C : Nat → Prop} {tb : Nat} {ow ow' : Nat → Nat} {w w' : World} (h : StepX P C tb ow ow' w w') (hb : TbOk w tb) {j : Nat} (hj : ¬ C j) : w'.cell? ⟨tb, j, none⟩ = w.cell? ⟨tb, j, none⟩ := by
 obtain ⟨cs, h1, h2⟩ := hb
 obtain ⟨cs', k1, k2, k3⟩ := h.tbk cs h1
 rw [block_cell k1, block_cell h1, k3 j hj]
theorem StepX.blk {P C : Nat → Prop} {tb : Nat} {ow ow' : Nat → Nat} {w w' : World} (h : StepX P C tb ow ow' w w') (hb : TbOk w tb) : TbOk w' tb := by
 obtain ⟨cs, h1, h2⟩ := hb
 obtain ⟨cs', k1, k2, k3⟩ := h.tbk cs h1
 exact ⟨cs', k1, k2.trans h2⟩
theorem StepX.root {P C : Nat → Prop} {tb : Nat} {ow ow' : Nat → Nat} {w w' : World} (h : StepX P C tb ow ow' w w') (hb : TbOk w tb) {j : Nat} (hj : ¬ C j) (hj1 : ¬ C (j + 1)) : RootSame 133 w w' tb j := by
 intro v m hn
 obtain ⟨cs, h1, h2⟩ := hb
 obtain ⟨cs', k1, k2, k3⟩ := h.tbk cs h1
 obtain ⟨cs2, t, n1, n2, n3, n4⟩ := hn
 rw [h1] at n1
 injection n1 with n1
 injection n1 with n0 n1
 subst n0 n1
 exact ⟨cs', _, k1, n2, (k3 j hj).trans n3, (k3 _ hj1).trans n4⟩
theorem StepX.list {P C : Nat → Prop} {tb : Nat} {ow ow' : Nat → Nat} {w w' : World} (h : StepX P C tb ow ow' w w') (ho : ow tb = 4) (hb : TbOk w tb) {j : Nat} {rows : Rows} (hP : ∀ k, Go.Proofs.Ytampjndfhpjheaa.cls j k → ¬ P k) (hj : j < 3) (hC : ∀ k, 4 * j ≤ k → k < 4 * j + 4 → ¬ C k) (hl : LOf w ow tb j rows) : LOf w' ow' tb j rows := by
 obtain ⟨qs, bvs, sK, cK, sB, cB, hp⟩ := hl
 refine ⟨qs, bvs, sK, cK, sB, cB, hp.kept (h.same ho fun k hk => ⟨hP k hk, ?_⟩) h.touch.size (h.cell hb (hC _ (by omega) (by omega))) (h.cell hb (hC _ (by omega) (by omega))) (h.root hb (hC _ (by omega) (by omega)) (hC _ (by omega) (by omega)))⟩
 rcases hk with h | h | h | h <;> omega
def newC (ow : Nat → Nat) (n k b : Nat) : Nat := if b < n then ow b else k
theorem newC_old (ow : Nat → Nat) {n k b : Nat} (h : b < n) : newC ow n k b = ow b := if_pos h
theorem newC_new (ow : Nat → Nat) {n k b : Nat} (h : n ≤ b) : newC ow n k b = k := if_neg (by omega)
theorem step_store {w w1 : World} {ow : Nat → Nat} {tb j k : Nat} {v u : Value} (hg : w.grownBy w1 v.ownBlock) (hv : ∀ b, v.ownBlock = some b → ow b = k) (hk : k ≠ 4) (ho : ow tb = 4) :
  StepX (fun x => x = k) (fun c => c = j) tb ow (newC ow w.heap.size k) w (w1.setCell ⟨tb, j, none⟩ u) := by
 refine ⟨?_, fun b hb => newC_old ow hb, fun cs h1 => ?_⟩
 · refine (Touch.grown (O := fun b => ow b = k ∨ b = tb) hg (fun b hb => .inl (hv b hb))).trans (Touch.setCell (fun b => ow b = k ∨ b = tb) w1 (p := ⟨tb, j, none⟩) (.inr rfl) u) (fun x hx => .inl hx)
 ·
  have h2 : w1.heap[tb]? = some (.cells cs 120 (0, 0)) := (hg.block tb (heap_lt h1) (fun e => by
   have := hv tb e.symm; omega)).trans h1
  refine ⟨_, block_set u h2, by simp, fun c hc => ?_⟩
  rw [Array.getElem?_setIfInBounds, if_neg (fun e => hc e.symm)]
theorem set_cell_here {w : World} {tb j : Nat} {u : Value} (h : TbOk w tb) (hj : j < 12) : (w.setCell ⟨tb, j, none⟩ u).cell? ⟨tb, j, none⟩ = some u := by
 obtain ⟨cs, h1, h2⟩ := h
 rw [block_cell (block_set u h1), Array.getElem?_setIfInBounds, if_pos rfl, if_pos (by omega)]
section
variable {w w1 w' : World} {ow ow' : Nat → Nat} {tb : Nat} {T : Nat → Rows} {i : Nat} {K : List (List Int)} {B : List Bd} {S : TrieS} {qs : List QuietD} {bvs : List BV} {sK : Option Addr} {cK : Nat} {sB : Option Addr} {cB : Nat}
theorem TabsX.kept (h : TabsX w ow tb T i K B S qs bvs sK cK sB cB) (e : Same (fun k => k ≠ 0) ow ow' w w') (hs : w.heap.size ≤ w'.heap.size) : TabsX w' ow' tb T i K B S qs bvs sK cK sB cB := by
 obtain ⟨cs, hb, hc⟩ := h.blk
 have hl := heap_lt hb
 have he := e tb hl (by rw [h.own]; decide)
 have hcl : ∀ j k, cls j k → k ≠ 0 := by intro j k hk; rcases hk with h | h | h | h <;> omega
 refine ⟨⟨cs, he.1.trans hb, hc⟩, he.2.trans h.own, h.this.kept (e.less (hcl i)) hs (World.cell?_of_block (w := w) he.1) (World.cell?_of_block (w := w) he.1) (RootSame.of fun _ => he.1), fun j hj hne => ?_⟩
 obtain ⟨qs, bvs, sK, cK, sB, cB, hp⟩ := h.list j hj hne
 exact ⟨qs, bvs, sK, cK, sB, cB, hp.kept (e.less (hcl j)) hs (World.cell?_of_block (w := w) he.1) (World.cell?_of_block (w := w) he.1) (RootSame.of fun _ => he.1)⟩
theorem TabsX.pushK (h : TabsX w ow tb T i K B S qs bvs sK cK sB cB) (hi : i < 3) {q : QuietD} {p : List Int} {s' : Option Addr} {c' : Nat} (hq : QOk w q) (hqn : q.n = p.length) (hql : q.l = p) (hqc : ow q.g = 5)
  (ho : OwnQ w1 0 (.slice s' (K.length + 1) c') (qs ++ [q])) (hg : w.grownBy w1 (Value.slice sK K.length cK).ownBlock) (hat : (Value.slice s' (K.length + 1) c').ownBlock = (Value.slice sK K.length cK).ownBlock ∨ ∃ b, (Value.slice s' (K.length + 1) c').ownBlock = some b ∧ w.heap.size ≤ b) :
  TabsX (w1.setCell ⟨tb, 4 * i, none⟩ (.slice s' (K.length + 1) c')) (newC ow w.heap.size (20 + i)) tb T i (K ++ [p]) B S (qs ++ [q]) bvs s' c' sB cB ∧
  StepX (fun k => k = 20 + i) (fun c => c = 4 * i) tb ow (newC ow w.heap.size (20 + i)) w (w1.setCell ⟨tb, 4 * i, none⟩ (.slice s' (K.length + 1) c')) := by
 have hst := step_store (j := 4 * i) (u := .slice s' (K.length + 1) c') hg h.this.k.own (by omega) h.own
 have htl : tb < w.heap.size := by obtain ⟨cs, h1, _⟩ := h.blk; exact heap_lt h1
 have hblk1 : TbOk w1 tb := by
  obtain ⟨cs, h1, h2⟩ := h.blk
  exact ⟨cs, (hg.block tb (heap_lt h1) (fun e => by have := h.this.k.own tb e.symm; have := h.own; omega)).trans h1, h2⟩
 refine ⟨⟨hst.blk h.blk, (newC_old ow htl).trans h.own, ⟨⟨?_, ?_, ?_, ?_, ?_⟩, ?_, ?_⟩, fun j hj hne => hst.list h.own h.blk (fun k hk => ?_) hj (fun k h1 h2 => by omega) (h.list j hj hne)⟩, hst⟩
 · rw [List.length_append]; exact set_cell_here hblk1 (by omega)
 ·
  rw [List.length_append]
  refine own_kept ho (fun b hb => Below.heap_setCell _ _ _ _ ?_)
  rcases hat with e | ⟨b', e, he⟩
  · intro e2; have := h.this.k.own b (e ▸ hb); have := h.own; subst e2; omega
  ·
   have h3 : some b' = some b := e.symm.trans hb
   injection h3 with h3
   intro e2
   have : b = tb := e2
   omega
 ·
  intro b hb
  rw [List.length_append] at hb
  rcases hat with e | ⟨b', e, he⟩
  ·
   have hb' := e ▸ hb
   rw [newC_old ow (own_size h.this.k.keys hb')]
   exact h.this.k.own b hb'
  ·
   have h3 : some b' = some b := e.symm.trans hb
   injection h3 with h3
   exact newC_new ow (by omega)
 · rw [List.length_append, List.length_append, h.this.k.len]; rfl
 ·
  intro j hj hk
  have hsame := hst.same h.own (Q := fun k => k = 5) (fun k hk => by omega)
  by_cases hlt : j < qs.length
  ·
   rw [List.getElem_append_left hlt, List.getElem_append_left (by have := h.this.k.len; omega)]
   obtain ⟨h1, h2, h3, h4⟩ := h.this.k.each j hlt (by have := h.this.k.len; omega)
   have := hsame _ h1.lt h4
   exact ⟨h1.kept this.1, h2, h3, this.2.trans h4⟩
  ·
   have hil : j = qs.length := by rw [List.length_append] at hj; simp at hj; omega
   subst hil
   rw [List.getElem_append_right (Nat.le_refl _), List.getElem_append_right (by rw [h.this.k.len]; exact Nat.le_refl _)]
   simp only [Nat.sub_self, h.this.k.len, List.getElem_cons_zero]
   have := hsame _ hq.lt hqc
   exact ⟨hq.kept this.1, hqn, hql, this.2.trans hqc⟩
 · exact h.this.b.kept (hst.same h.own fun k hk => by omega) hst.touch.size (hst.cell h.blk (by omega))
 · exact h.this.t.kept (hst.same h.own fun k hk => by omega) (hst.root h.blk (by omega) (by omega))
 · rcases hk with h | h | h | h <;> omega
theorem bflat_snoc (bvs : List BV) (x : BV) : bflat (bvs ++ [x]) = bflat bvs ++ x.cells.toList := by
 unfold bflat
 rw [List.flatMap_append]
 simp
theorem TabsX.pushB (h : TabsX w ow tb T i K B S qs bvs sK cK sB cB) (hi : i < 3) {b : Bd} {x : BV} {s' : Option Addr} {c' : Nat} (hx : BdOk w ow b x) (hS : ∀ r ∈ S, ∃ j : Nat, r.2 = (j : Int) ∧ j < bvs.length)
  (ho : w1.ownsRow 0 133 6 (.slice s' (B.length + 1) c') (B.length + 1) (bflat bvs ++ x.cells.toList)) (hg : w.grownBy w1 (Value.slice sB B.length cB).ownBlock) (hat : (Value.slice s' (B.length + 1) c').ownBlock = (Value.slice sB B.length cB).ownBlock ∨ ∃ b, (Value.slice s' (B.length + 1) c').ownBlock = some b ∧ w.heap.size ≤ b) :
  TabsX (w1.setCell ⟨tb, 4 * i + 1, none⟩ (.slice s' (B.length + 1) c')) (newC ow w.heap.size (30 + i)) tb T i K (B ++ [b]) S qs (bvs ++ [x]) sK cK s' c' ∧
  StepX (fun k => k = 30 + i) (fun c => c = 4 * i + 1) tb ow (newC ow w.heap.size (30 + i)) w (w1.setCell ⟨tb, 4 * i + 1, none⟩ (.slice s' (B.length + 1) c')) := by
 have hst := step_store (j := 4 * i + 1) (u := .slice s' (B.length + 1) c') hg h.this.b.own (by omega) h.own
 have htl : tb < w.heap.size := by obtain ⟨cs, h1, _⟩ := h.blk; exact heap_lt h1
 have hblk1 : TbOk w1 tb := by
  obtain ⟨cs, h1, h2⟩ := h.blk
  exact ⟨cs, (hg.block tb (heap_lt h1) (fun e => by have := h.this.b.own tb e.symm; have := h.own; omega)).trans h1, h2⟩
 refine ⟨⟨hst.blk h.blk, (newC_old ow htl).trans h.own, ⟨?_, ⟨?_, ?_, ?_, ?_, ?_⟩, ?_⟩, fun j hj hne => hst.list h.own h.blk (fun k hk => ?_) hj (fun k h1 h2 => by omega) (h.list j hj hne)⟩, hst⟩
 · exact h.this.k.kept (hst.same h.own fun k hk => by omega) (hst.cell h.blk (by omega))
 · rw [List.length_append]; exact set_cell_here hblk1 (by omega)
 ·
  rw [List.length_append, bflat_snoc]
  refine own_kept ho (fun b hb => Below.heap_setCell _ _ _ _ ?_)
  rcases hat with e | ⟨b', e, he⟩
  · intro e2; have := h.this.b.own b (e ▸ hb); have := h.own; subst e2; omega
  ·
   have h3 : some b' = some b := e.symm.trans hb
   injection h3 with h3
   intro e2
   have : b = tb := e2
   omega
 ·
  intro b hb
  rw [List.length_append] at hb
  rcases hat with e | ⟨b', e, he⟩
  ·
   have hb' := e ▸ hb
   rw [newC_old ow (own_size h.this.b.bnds hb')]
   exact h.this.b.own b hb'
  ·
   have h3 : some b' = some b := e.symm.trans hb
   injection h3 with h3
   exact newC_new ow (by omega)
 · rw [List.length_append, List.length_append, h.this.b.len]; rfl
 ·
  intro j hj hk
  have hsame := hst.same h.own (Q := fun k => k = 5) (fun k hk => by omega)
  by_cases hlt : j < bvs.length
  ·
   rw [List.getElem_append_left hlt, List.getElem_append_left (by have := h.this.b.len; omega)]
   exact (h.this.b.each j hlt (by have := h.this.b.len; omega)).kept hsame hst.touch.size
  ·
   have hil : j = bvs.length := by rw [List.length_append] at hj; simp at hj; omega
   subst hil
   rw [List.getElem_append_right (Nat.le_refl _), List.getElem_append_right (by rw [h.this.b.len]; exact Nat.le_refl _)]
   simp only [Nat.sub_self, h.this.b.len, List.getElem_cons_zero]
   exact hx.kept hsame hst.touch.size
 ·
  refine (h.this.t.kept (hst.same h.own fun k hk => by omega) (hst.root h.blk (by omega) (by omega))).enc (fun r hr => ?_)
  obtain ⟨j, e1, e2⟩ := hS r hr
  unfold Eof
  rw [e1, Int.toNat_natCast, List.getD_eq_getElem?_getD, List.getD_eq_getElem?_getD, List.getElem?_append_left e2]
 · rcases hk with h | h | h | h <;> omega
theorem TabsX.put (h : TabsX w ow tb T i K B S qs bvs sK cK sB cB) (hi : i < 3) {p : List Int} {v : Int} (hp : PutN (Eof bvs) (fun b => ow b = 10 + i) tb (4 * i + 2) S p v w w') :
  TabsX w' (newC ow w.heap.size (10 + i)) tb T i K B (S ++ [(p, v)]) qs bvs sK cK sB cB ∧
  StepX (fun k => k = 10 + i) (fun c => c = 4 * i + 2 ∨ c = 4 * i + 3) tb ow (newC ow w.heap.size (10 + i)) w w' := by
 obtain ⟨ht, hr, nb, mb, val, htr⟩ := hp
 have htl : tb < w.heap.size := by obtain ⟨cs, h1, _⟩ := h.blk; exact heap_lt h1
 have hst : StepX (fun k => k = 10 + i) (fun c => c = 4 * i + 2 ∨ c = 4 * i + 3) tb ow (newC ow w.heap.size (10 + i)) w w' := by
  refine ⟨ht, fun b hb => newC_old ow hb, fun cs h1 => ?_⟩
  obtain ⟨cs', k1, k2, k3⟩ := hr cs _ h1
  exact ⟨cs', k1, k2, fun j hj => k3 j (fun e => hj (.inl e)) (fun e => hj (.inr (by omega)))⟩
 refine ⟨⟨hst.blk h.blk, (newC_old ow htl).trans h.own, ⟨?_, ?_, nb, mb, val, ?_⟩, fun j hj hne => hst.list h.own h.blk (fun k hk => ?_) hj (fun k h1 h2 => by omega) (h.list j hj hne)⟩, hst⟩
 · exact h.this.k.kept (hst.same h.own fun k hk => by omega) (hst.cell h.blk (by omega))
 · exact h.this.b.kept (hst.same h.own fun k hk => by omega) hst.touch.size (hst.cell h.blk (by omega))
 ·
  refine htr.wide (fun b hb => ?_)
  show newC ow w.heap.size (10 + i) b = 10 + i
  by_cases hlt : b < w.heap.size
  ·
   rw [newC_old ow hlt]
   rcases hb with hb | hb
   · exact hb
   · omega
  · exact newC_new ow (by omega)
 · rcases hk with h | h | h | h <;> omega
end
def live (k : Nat) : Prop := k ≠ 0 ∧ k ≠ 5
theorem StepX.touch0 {P C : Nat → Prop} {tb : Nat} {ow ow' : Nat → Nat} {w w' : World} (h : StepX P C tb ow ow' w w') (ho : ow tb = 4) (hP : ∀ k, P k → live k) : Touch (fun b => live (ow b)) w w' :=
 h.touch.wide fun b _ e => e.elim (hP _) (fun e => by subst e; rw [ho]; exact ⟨by decide, by decide⟩)
def updT (T : Nat → Rows) (i : Nat) (rows : Rows) (k : Nat) : Rows := if k = i then rows else T k
theorem Tabs.openAt {w : World} {ow : Nat → Nat} {tb : Nat} {T : Nat → Rows} (h : Tabs w ow tb T) {i : Nat} (hi : i < 3) : ∃ qs bvs sK cK sB cB, TabsX w ow tb T i ((T i).map (·.1)) ((T i).map (·.2)) (trieOf (T i)) qs bvs sK cK sB cB := by
 obtain ⟨qs, bvs, sK, cK, sB, cB, hp⟩ := h.list i hi
 exact ⟨qs, bvs, sK, cK, sB, cB, h.blk, h.own, hp, fun j hj _ => h.list j hj⟩
theorem TabsX.close {w : World} {ow : Nat → Nat} {tb : Nat} {T : Nat → Rows} {i : Nat} {p : List Int} {b : Bd} {qs : List QuietD} {bvs : List BV} {sK : Option Addr} {cK : Nat} {sB : Option Addr} {cB : Nat}
  (h : TabsX w ow tb T i ((T i).map (·.1) ++ [p]) ((T i).map (·.2) ++ [b]) (trieOf (T i) ++ [(p, ((T i).length : Int))]) qs bvs sK cK sB cB) : Tabs w ow tb (updT T i (T i ++ [(p, b)])) := by
 refine ⟨h.blk, h.own, fun j hj => ?_⟩
 unfold updT
 by_cases e : j = i
 ·
  subst e
  rw [if_pos rfl]
  refine ⟨qs, bvs, sK, cK, sB, cB, ?_⟩
  rw [List.map_append, List.map_append, trieOf_snoc]
  exact h.this
 · rw [if_neg e]; exact h.list j hj e
end Go.Proofs.Ytampjndfhpjheaa
