/- A row more in the tables: the three steps of put. No walk. -/
import Derived.Test.YtampjndfhpjheaaYf
namespace Go.Proofs.Ytampjndfhpjheaa
open Go.RowKit
/-- the tables while a row is put into list i -/
structure TabsX (w : World) (ow : Nat → Nat) (tb : Nat) (T : Nat → Rows) (i : Nat) (K : List (List Int)) (B : List Bd) (S : TrieS) (qs : List QuietD) (bvs : List BV) (sK : Option Addr) (cK : Nat) (sB : Option Addr) (cB : Nat) : Prop where
  blk : TbOk w tb
  own : ow tb = 4
  this : LPart w ow i tb (4 * i) K B S qs bvs sK cK sB cB
  list : ∀ j, j < 3 → j ≠ i → LOf w ow tb j (T j)
/-- what a step leaves: only blocks of the classes P and the cells C of the tables' block have turned -/
structure StepX (P C : Nat → Prop) (tb : Nat) (ow ow' : Nat → Nat) (w w' : World) : Prop where
  touch : Touch (fun b => P (ow b) ∨ b = tb) w w'
  cls : ∀ b, b < w.heap.size → ow' b = ow b
  tbk : ∀ cs, w.heap[tb]? = some (.cells cs 120 (0, 0)) → ∃ cs', w'.heap[tb]? = some (.cells cs' 120 (0, 0)) ∧ cs'.size = cs.size ∧ ∀ j, ¬ C j → cs'[j]? = cs[j]?
theorem StepX.same {P C : Nat → Prop} {tb : Nat} {ow ow' : Nat → Nat} {w w' : World} (h : StepX P C tb ow ow' w w') (ho : ow tb = 4) {Q : Nat → Prop} (hQ : ∀ k, Q k → ¬ P k ∧ k ≠ 4) : Same Q ow ow' w w' := fun b hb hq =>
  ⟨h.touch.block b hb (fun e => by
    have := hQ _ hq
    rcases e with e | e
    · exact this.1 e
    · subst e; exact this.2 ho), h.cls b hb⟩
theorem StepX.cell {P C : Nat → Prop} {tb : Nat} {ow ow' : Nat → Nat} {w w' : World} (h : StepX P C tb ow ow' w w') (hb : TbOk w tb) {j : Nat} (hj : ¬ C j) : w'.cell? ⟨tb, j, none⟩ = w.cell? ⟨tb, j, none⟩ := by
  obtain ⟨cs, h1, h2⟩ := hb
  obtain ⟨cs', k1, k2, k3⟩ := h.tbk cs h1
  rw [block_cell k1, block_cell h1, k3 j hj]
theorem StepX.blk {P C : Nat → Prop} {tb : Nat} {ow ow' : Nat → Nat} {w w' : World} (h : StepX P C tb ow ow' w w') (hb : TbOk w tb) : TbOk w' tb := by
  obtain ⟨cs, h1, h2⟩ := hb
  obtain ⟨cs', k1, k2, k3⟩ := h.tbk cs h1
  exact ⟨cs', k1, k2.trans h2⟩
theorem StepX.root {P C : Nat → Prop} {tb : Nat} {ow ow' : Nat → Nat} {w w' : World} (h : StepX P C tb ow ow' w w') (hb : TbOk w tb) {j : Nat} (hj : ¬ C j) (hj1 : ¬ C (j + 1)) : RootSame 133 w w' tb j := by
  intro v m hn
  obtain ⟨cs, h1, h2⟩ := hb
  obtain ⟨cs', k1, k2, k3⟩ := h.tbk cs h1
  obtain ⟨cs2, t, n1, n2, n3, n4⟩ := hn
  rw [h1] at n1
  injection n1 with n1
  injection n1 with n0 n1
  subst n0 n1
  exact ⟨cs', _, k1, n2, (k3 j hj).trans n3, (k3 _ hj1).trans n4⟩
theorem StepX.list {P C : Nat → Prop} {tb : Nat} {ow ow' : Nat → Nat} {w w' : World} (h : StepX P C tb ow ow' w w') (ho : ow tb = 4) (hb : TbOk w tb) {j : Nat} {rows : Rows} (hP : ∀ k, Go.Proofs.Ytampjndfhpjheaa.cls j k → ¬ P k) (hj : j < 3) (hC : ∀ k, 4 * j ≤ k → k < 4 * j + 4 → ¬ C k) (hl : LOf w ow tb j rows) : LOf w' ow' tb j rows := by
  obtain ⟨qs, bvs, sK, cK, sB, cB, hp⟩ := hl
  refine ⟨qs, bvs, sK, cK, sB, cB, hp.kept (h.same ho fun k hk => ⟨hP k hk, ?_⟩) h.touch.size (h.cell hb (hC _ (by omega) (by omega))) (h.cell hb (hC _ (by omega) (by omega))) (h.root hb (hC _ (by omega) (by omega)) (hC _ (by omega) (by omega)))⟩
  rcases hk with h | h | h | h <;> omega
/-- the classes of new blocks -/
def newC (ow : Nat → Nat) (n k b : Nat) : Nat := if b < n then ow b else k
theorem newC_old (ow : Nat → Nat) {n k b : Nat} (h : b < n) : newC ow n k b = ow b := if_pos h
theorem newC_new (ow : Nat → Nat) {n k b : Nat} (h : n ≤ b) : newC ow n k b = k := if_neg (by omega)
/-- an append into the row v, then a store of the row at a cell of the tables -/
theorem step_store {w w1 : World} {ow : Nat → Nat} {tb j k : Nat} {v u : Value} (hg : w.grownBy w1 v.ownBlock) (hv : ∀ b, v.ownBlock = some b → ow b = k) (hk : k ≠ 4) (ho : ow tb = 4) :
    StepX (fun x => x = k) (fun c => c = j) tb ow (newC ow w.heap.size k) w (w1.setCell ⟨tb, j, none⟩ u) := by
  refine ⟨?_, fun b hb => newC_old ow hb, fun cs h1 => ?_⟩
  · refine (Touch.grown (O := fun b => ow b = k ∨ b = tb) hg (fun b hb => .inl (hv b hb))).trans (Touch.setCell (fun b => ow b = k ∨ b = tb) w1 (p := ⟨tb, j, none⟩) (.inr rfl) u) (fun x hx => .inl hx)
  · have h2 : w1.heap[tb]? = some (.cells cs 120 (0, 0)) := (hg.block tb (heap_lt h1) (fun e => by
      have := hv tb e.symm; omega)).trans h1
    refine ⟨_, block_set u h2, by simp, fun c hc => ?_⟩
    rw [Array.getElem?_setIfInBounds, if_neg (fun e => hc e.symm)]
theorem set_cell_here {w : World} {tb j : Nat} {u : Value} (h : TbOk w tb) (hj : j < 12) : (w.setCell ⟨tb, j, none⟩ u).cell? ⟨tb, j, none⟩ = some u := by
  obtain ⟨cs, h1, h2⟩ := h
  rw [block_cell (block_set u h1), Array.getElem?_setIfInBounds, if_pos rfl, if_pos (by omega)]
section
variable {w w1 w' : World} {ow ow' : Nat → Nat} {tb : Nat} {T : Nat → Rows} {i : Nat} {K : List (List Int)} {B : List Bd} {S : TrieS} {qs : List QuietD} {bvs : List BV} {sK : Option Addr} {cK : Nat} {sB : Option Addr} {cB : Nat}
theorem TabsX.kept (h : TabsX w ow tb T i K B S qs bvs sK cK sB cB) (e : Same (fun k => k ≠ 0) ow ow' w w') (hs : w.heap.size ≤ w'.heap.size) : TabsX w' ow' tb T i K B S qs bvs sK cK sB cB := by
  obtain ⟨cs, hb, hc⟩ := h.blk
  have hl := heap_lt hb
  have he := e tb hl (by rw [h.own]; decide)
  have hcl : ∀ j k, cls j k → k ≠ 0 := by intro j k hk; rcases hk with h | h | h | h <;> omega
  refine ⟨⟨cs, he.1.trans hb, hc⟩, he.2.trans h.own, h.this.kept (e.less (hcl i)) hs (World.cell?_of_block (w := w) he.1) (World.cell?_of_block (w := w) he.1) (RootSame.of fun _ => he.1), fun j hj hne => ?_⟩
  obtain ⟨qs, bvs, sK, cK, sB, cB, hp⟩ := h.list j hj hne
  exact ⟨qs, bvs, sK, cK, sB, cB, hp.kept (e.less (hcl j)) hs (World.cell?_of_block (w := w) he.1) (World.cell?_of_block (w := w) he.1) (RootSame.of fun _ => he.1)⟩
theorem TabsX.pushK (h : TabsX w ow tb T i K B S qs bvs sK cK sB cB) (hi : i < 3) {q : QuietD} {p : List Int} {s' : Option Addr} {c' : Nat} (hq : QOk w q) (hqn : q.n = p.length) (hql : q.l = p) (hqc : ow q.g = 5)
    (ho : OwnQ w1 0 (.slice s' (K.length + 1) c') (qs ++ [q])) (hg : w.grownBy w1 (Value.slice sK K.length cK).ownBlock) (hat : (Value.slice s' (K.length + 1) c').ownBlock = (Value.slice sK K.length cK).ownBlock ∨ ∃ b, (Value.slice s' (K.length + 1) c').ownBlock = some b ∧ w.heap.size ≤ b) :
    TabsX (w1.setCell ⟨tb, 4 * i, none⟩ (.slice s' (K.length + 1) c')) (newC ow w.heap.size (20 + i)) tb T i (K ++ [p]) B S (qs ++ [q]) bvs s' c' sB cB ∧
    StepX (fun k => k = 20 + i) (fun c => c = 4 * i) tb ow (newC ow w.heap.size (20 + i)) w (w1.setCell ⟨tb, 4 * i, none⟩ (.slice s' (K.length + 1) c')) := by
  have hst := step_store (j := 4 * i) (u := .slice s' (K.length + 1) c') hg h.this.k.own (by omega) h.own
  have htl : tb < w.heap.size := by obtain ⟨cs, h1, _⟩ := h.blk; exact heap_lt h1
  have hblk1 : TbOk w1 tb := by
    obtain ⟨cs, h1, h2⟩ := h.blk
    exact ⟨cs, (hg.block tb (heap_lt h1) (fun e => by have := h.this.k.own tb e.symm; have := h.own; omega)).trans h1, h2⟩
  refine ⟨⟨hst.blk h.blk, (newC_old ow htl).trans h.own, ⟨⟨?_, ?_, ?_, ?_, ?_⟩, ?_, ?_⟩, fun j hj hne => hst.list h.own h.blk (fun k hk => ?_) hj (fun k h1 h2 => by omega) (h.list j hj hne)⟩, hst⟩
  · rw [List.length_append]; exact set_cell_here hblk1 (by omega)
  · rw [List.length_append]
    refine own_kept ho (fun b hb => Below.heap_setCell _ _ _ _ ?_)
    rcases hat with e | ⟨b', e, he⟩
    · intro e2; have := h.this.k.own b (e ▸ hb); have := h.own; subst e2; omega
    · have h3 : some b' = some b := e.symm.trans hb
      injection h3 with h3
      intro e2
      have : b = tb := e2
      omega
  · intro b hb
    rw [List.length_append] at hb
    rcases hat with e | ⟨b', e, he⟩
    · have hb' := e ▸ hb
      rw [newC_old ow (own_size h.this.k.keys hb')]
      exact h.this.k.own b hb'
    · have h3 : some b' = some b := e.symm.trans hb
      injection h3 with h3
      exact newC_new ow (by omega)
  · rw [List.length_append, List.length_append, h.this.k.len]; rfl
  · intro j hj hk
    have hsame := hst.same h.own (Q := fun k => k = 5) (fun k hk => by omega)
    by_cases hlt : j < qs.length
    · rw [List.getElem_append_left hlt, List.getElem_append_left (by have := h.this.k.len; omega)]
      obtain ⟨h1, h2, h3, h4⟩ := h.this.k.each j hlt (by have := h.this.k.len; omega)
      have := hsame _ h1.lt h4
      exact ⟨h1.kept this.1, h2, h3, this.2.trans h4⟩
    · have hil : j = qs.length := by rw [List.length_append] at hj; simp at hj; omega
      subst hil
      rw [List.getElem_append_right (Nat.le_refl _), List.getElem_append_right (by rw [h.this.k.len]; exact Nat.le_refl _)]
      simp only [Nat.sub_self, h.this.k.len, List.getElem_cons_zero]
      have := hsame _ hq.lt hqc
      exact ⟨hq.kept this.1, hqn, hql, this.2.trans hqc⟩
  · exact h.this.b.kept (hst.same h.own fun k hk => by omega) hst.touch.size (hst.cell h.blk (by omega))
  · exact h.this.t.kept (hst.same h.own fun k hk => by omega) (hst.root h.blk (by omega) (by omega))
  · rcases hk with h | h | h | h <;> omega
theorem bflat_snoc (bvs : List BV) (x : BV) : bflat (bvs ++ [x]) = bflat bvs ++ x.cells.toList := by
  unfold bflat
  rw [List.flatMap_append]
  simp
theorem TabsX.pushB (h : TabsX w ow tb T i K B S qs bvs sK cK sB cB) (hi : i < 3) {b : Bd} {x : BV} {s' : Option Addr} {c' : Nat} (hx : BdOk w ow b x) (hS : ∀ r ∈ S, ∃ j : Nat, r.2 = (j : Int) ∧ j < bvs.length)
    (ho : w1.ownsRow 0 133 6 (.slice s' (B.length + 1) c') (B.length + 1) (bflat bvs ++ x.cells.toList)) (hg : w.grownBy w1 (Value.slice sB B.length cB).ownBlock) (hat : (Value.slice s' (B.length + 1) c').ownBlock = (Value.slice sB B.length cB).ownBlock ∨ ∃ b, (Value.slice s' (B.length + 1) c').ownBlock = some b ∧ w.heap.size ≤ b) :
    TabsX (w1.setCell ⟨tb, 4 * i + 1, none⟩ (.slice s' (B.length + 1) c')) (newC ow w.heap.size (30 + i)) tb T i K (B ++ [b]) S qs (bvs ++ [x]) sK cK s' c' ∧
    StepX (fun k => k = 30 + i) (fun c => c = 4 * i + 1) tb ow (newC ow w.heap.size (30 + i)) w (w1.setCell ⟨tb, 4 * i + 1, none⟩ (.slice s' (B.length + 1) c')) := by
  have hst := step_store (j := 4 * i + 1) (u := .slice s' (B.length + 1) c') hg h.this.b.own (by omega) h.own
  have htl : tb < w.heap.size := by obtain ⟨cs, h1, _⟩ := h.blk; exact heap_lt h1
  have hblk1 : TbOk w1 tb := by
    obtain ⟨cs, h1, h2⟩ := h.blk
    exact ⟨cs, (hg.block tb (heap_lt h1) (fun e => by have := h.this.b.own tb e.symm; have := h.own; omega)).trans h1, h2⟩
  refine ⟨⟨hst.blk h.blk, (newC_old ow htl).trans h.own, ⟨?_, ⟨?_, ?_, ?_, ?_, ?_⟩, ?_⟩, fun j hj hne => hst.list h.own h.blk (fun k hk => ?_) hj (fun k h1 h2 => by omega) (h.list j hj hne)⟩, hst⟩
  · exact h.this.k.kept (hst.same h.own fun k hk => by omega) (hst.cell h.blk (by omega))
  · rw [List.length_append]; exact set_cell_here hblk1 (by omega)
  · rw [List.length_append, bflat_snoc]
    refine own_kept ho (fun b hb => Below.heap_setCell _ _ _ _ ?_)
    rcases hat with e | ⟨b', e, he⟩
    · intro e2; have := h.this.b.own b (e ▸ hb); have := h.own; subst e2; omega
    · have h3 : some b' = some b := e.symm.trans hb
      injection h3 with h3
      intro e2
      have : b = tb := e2
      omega
  · intro b hb
    rw [List.length_append] at hb
    rcases hat with e | ⟨b', e, he⟩
    · have hb' := e ▸ hb
      rw [newC_old ow (own_size h.this.b.bnds hb')]
      exact h.this.b.own b hb'
    · have h3 : some b' = some b := e.symm.trans hb
      injection h3 with h3
      exact newC_new ow (by omega)
  · rw [List.length_append, List.length_append, h.this.b.len]; rfl
  · intro j hj hk
    have hsame := hst.same h.own (Q := fun k => k = 5) (fun k hk => by omega)
    by_cases hlt : j < bvs.length
    · rw [List.getElem_append_left hlt, List.getElem_append_left (by have := h.this.b.len; omega)]
      exact (h.this.b.each j hlt (by have := h.this.b.len; omega)).kept hsame hst.touch.size
    · have hil : j = bvs.length := by rw [List.length_append] at hj; simp at hj; omega
      subst hil
      rw [List.getElem_append_right (Nat.le_refl _), List.getElem_append_right (by rw [h.this.b.len]; exact Nat.le_refl _)]
      simp only [Nat.sub_self, h.this.b.len, List.getElem_cons_zero]
      exact hx.kept hsame hst.touch.size
  · refine (h.this.t.kept (hst.same h.own fun k hk => by omega) (hst.root h.blk (by omega) (by omega))).enc (fun r hr => ?_)
    obtain ⟨j, e1, e2⟩ := hS r hr
    unfold Eof
    rw [e1, Int.toNat_natCast, List.getD_eq_getElem?_getD, List.getD_eq_getElem?_getD, List.getElem?_append_left e2]
  · rcases hk with h | h | h | h <;> omega
theorem TabsX.put (h : TabsX w ow tb T i K B S qs bvs sK cK sB cB) (hi : i < 3) {p : List Int} {v : Int} (hp : PutN (Eof bvs) (fun b => ow b = 10 + i) tb (4 * i + 2) S p v w w') :
    TabsX w' (newC ow w.heap.size (10 + i)) tb T i K B (S ++ [(p, v)]) qs bvs sK cK sB cB ∧
    StepX (fun k => k = 10 + i) (fun c => c = 4 * i + 2 ∨ c = 4 * i + 3) tb ow (newC ow w.heap.size (10 + i)) w w' := by
  obtain ⟨ht, hr, nb, mb, val, htr⟩ := hp
  have htl : tb < w.heap.size := by obtain ⟨cs, h1, _⟩ := h.blk; exact heap_lt h1
  have hst : StepX (fun k => k = 10 + i) (fun c => c = 4 * i + 2 ∨ c = 4 * i + 3) tb ow (newC ow w.heap.size (10 + i)) w w' := by
    refine ⟨ht, fun b hb => newC_old ow hb, fun cs h1 => ?_⟩
    obtain ⟨cs', k1, k2, k3⟩ := hr cs _ h1
    exact ⟨cs', k1, k2, fun j hj => k3 j (fun e => hj (.inl e)) (fun e => hj (.inr (by omega)))⟩
  refine ⟨⟨hst.blk h.blk, (newC_old ow htl).trans h.own, ⟨?_, ?_, nb, mb, val, ?_⟩, fun j hj hne => hst.list h.own h.blk (fun k hk => ?_) hj (fun k h1 h2 => by omega) (h.list j hj hne)⟩, hst⟩
  · exact h.this.k.kept (hst.same h.own fun k hk => by omega) (hst.cell h.blk (by omega))
  · exact h.this.b.kept (hst.same h.own fun k hk => by omega) hst.touch.size (hst.cell h.blk (by omega))
  · refine htr.wide (fun b hb => ?_)
    show newC ow w.heap.size (10 + i) b = 10 + i
    by_cases hlt : b < w.heap.size
    · rw [newC_old ow hlt]
      rcases hb with hb | hb
      · exact hb
      · omega
    · exact newC_new ow (by omega)
  · rcases hk with h | h | h | h <;> omega
end
/-- the classes of blocks that may turn -/
def live (k : Nat) : Prop := k ≠ 0 ∧ k ≠ 5
/-- the classes that a step turns are all of the tables -/
theorem StepX.touch0 {P C : Nat → Prop} {tb : Nat} {ow ow' : Nat → Nat} {w w' : World} (h : StepX P C tb ow ow' w w') (ho : ow tb = 4) (hP : ∀ k, P k → live k) : Touch (fun b => live (ow b)) w w' :=
  h.touch.wide fun b _ e => e.elim (hP _) (fun e => by subst e; rw [ho]; exact ⟨by decide, by decide⟩)
def updT (T : Nat → Rows) (i : Nat) (rows : Rows) (k : Nat) : Rows := if k = i then rows else T k
theorem Tabs.openAt {w : World} {ow : Nat → Nat} {tb : Nat} {T : Nat → Rows} (h : Tabs w ow tb T) {i : Nat} (hi : i < 3) : ∃ qs bvs sK cK sB cB, TabsX w ow tb T i ((T i).map (·.1)) ((T i).map (·.2)) (trieOf (T i)) qs bvs sK cK sB cB := by
  obtain ⟨qs, bvs, sK, cK, sB, cB, hp⟩ := h.list i hi
  exact ⟨qs, bvs, sK, cK, sB, cB, h.blk, h.own, hp, fun j hj _ => h.list j hj⟩
theorem TabsX.close {w : World} {ow : Nat → Nat} {tb : Nat} {T : Nat → Rows} {i : Nat} {p : List Int} {b : Bd} {qs : List QuietD} {bvs : List BV} {sK : Option Addr} {cK : Nat} {sB : Option Addr} {cB : Nat}
    (h : TabsX w ow tb T i ((T i).map (·.1) ++ [p]) ((T i).map (·.2) ++ [b]) (trieOf (T i) ++ [(p, ((T i).length : Int))]) qs bvs sK cK sB cB) : Tabs w ow tb (updT T i (T i ++ [(p, b)])) := by
  refine ⟨h.blk, h.own, fun j hj => ?_⟩
  unfold updT
  by_cases e : j = i
  · subst e
    rw [if_pos rfl]
    refine ⟨qs, bvs, sK, cK, sB, cB, ?_⟩
    rw [List.map_append, List.map_append, trieOf_snoc]
    exact h.this
  · rw [if_neg e]; exact h.list j hj e
end Go.Proofs.Ytampjndfhpjheaa
