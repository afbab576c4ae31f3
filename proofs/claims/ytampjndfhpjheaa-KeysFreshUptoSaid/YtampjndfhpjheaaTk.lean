/- The document's trie in memory, with what it owns; a row more, a value more. Condition: fewer than 2^30 rows. -/
import Derived.Test.YtampjndfhpjheaaTf
import Derived.Deep.RegionLaw
namespace Go.Proofs.Ytampjndfhpjheaa
open Go.RowKit
theorem Try.infoRows : (Try.prog.info? 33).map (fun i => (i.zero, i.size, i.bytes)) = some (some (.slice none 0 0), 1, 24) := by kernel_rfl
/-- block r: rows R, values V, all in blocks of O -/
structure RH (w : World) (O : Nat → Prop) (r : Nat) (R : List (List Int)) (V : List Int) (sR : Option Addr) (cR : Nat) (sV : Option Addr) (cV : Nat) (qs : List QuietD) : Prop where
  blk : w.heap[r]? = some (.cells #[.slice sR R.length cR, .slice sV V.length cV] 35 (0, 0))
  rows : OwnQ w 0 (.slice sR R.length cR) qs
  vals : OwnInts w 0 (.slice sV V.length cV) V
  len : qs.length = R.length
  each : ∀ i (hi : i < qs.length) (hj : i < R.length), QOk w qs[i] ∧ qs[i].n = R[i].length ∧ qs[i].l = R[i]
  apart : ∀ q ∈ qs, (Value.slice sV V.length cV).ownBlock ≠ some q.g
  own_r : O r
  own_R : ∀ b, (Value.slice sR R.length cR).ownBlock = some b → O b
  own_V : ∀ b, (Value.slice sV V.length cV).ownBlock = some b → O b
  own_q : ∀ q ∈ qs, O q.g
section
variable {w w' : World} {O O' : Nat → Prop} {r : Nat} {R : List (List Int)} {V : List Int} {sR : Option Addr} {cR : Nat} {sV : Option Addr} {cV : Nat} {qs : List QuietD}
theorem QOk.type {w : World} {q : QuietD} (h : QOk w q) : ∃ cs, w.heap[q.g]? = some (.cells cs 3 (0, 0)) := by
  rcases h.2 with ⟨h1, _⟩ | ⟨g, cap, cur, h1, hg, hgg, _⟩
  · unfold qval at h1; cases h1
  · unfold qval at h1
    obtain ⟨h2, _⟩ := Value.slice.inj h1
    cases h2
    exact ⟨_, hgg⟩
theorem RH.type_V (h : RH w O r R V sR cR sV cV qs) {b : Nat} (hb : (Value.slice sV V.length cV).ownBlock = some b) : ∃ cs, w.heap[b]? = some (.cells cs 3 (0, 0)) := by
  rcases h.vals.2 with ⟨h1, _⟩ | ⟨g, cap, cur, h1, hg, hgg, _⟩
  · rw [h1] at hb; cases hb
  · rw [h1] at hb; cases hb; exact ⟨_, hgg⟩
theorem RH.type_R (h : RH w O r R V sR cR sV cV qs) {b : Nat} (hb : (Value.slice sR R.length cR).ownBlock = some b) : ∃ cs, w.heap[b]? = some (.cells cs 33 (0, 0)) := by
  rcases h.rows.2 with ⟨h1, _⟩ | ⟨g, cap, cur, h1, hg, hgg, _⟩
  · rw [h1] at hb; cases hb
  · rw [h1] at hb; cases hb; exact ⟨_, hgg⟩
theorem type_ne {w : World} {b c : Nat} {x y : Array Value} {t u : TypeId} (h : w.heap[b]? = some (.cells x t (0, 0))) (k : w.heap[c]? = some (.cells y u (0, 0))) (htu : t ≠ u) : b ≠ c := by
  intro e
  subst e
  rw [h] at k
  injection k with k
  injection k with _ k
  exact htu k
theorem RH.q_of (h : RH w O r R V sR cR sV cV qs) {q : QuietD} (hq : q ∈ qs) : QOk w q := by
  obtain ⟨i, hi, rfl⟩ := List.mem_iff_getElem.1 hq
  exact (h.each i hi (by have := h.len; omega)).1
theorem RH.kept (h : RH w O r R V sR cR sV cV qs) (e : ∀ b, b < w.heap.size → O b → w'.heap[b]? = w.heap[b]?) : RH w' O r R V sR cR sV cV qs :=
  { h with
    blk := (e r (heap_lt h.blk) h.own_r).trans h.blk
    rows := own_kept h.rows (fun b hb => e b (World.ownsRow.lt h.rows b hb).2 (h.own_R b hb))
    vals := OwnInts.kept h.vals (fun b hb hv => e b hb (h.own_V b hv))
    each := fun i hi hj => ⟨(h.each i hi hj).1.kept (e _ (h.each i hi hj).1.lt (h.own_q _ (List.getElem_mem hi))), (h.each i hi hj).2⟩ }
theorem RH.later (h : RH w O r R V sR cR sV cV qs) (hb : Below w.heap.size w w') : RH w' O r R V sR cR sV cV qs := h.kept (fun b hl _ => hb.block b hl)
theorem RH.wide (h : RH w O r R V sR cR sV cV qs) (hO : ∀ b, O b → O' b) : RH w O' r R V sR cR sV cV qs :=
  { h with own_r := hO _ h.own_r, own_R := fun b hb => hO _ (h.own_R b hb), own_V := fun b hb => hO _ (h.own_V b hb), own_q := fun q hq => hO _ (h.own_q q hq) }
/-- as the contract of Look takes it -/
theorem RH.trie {S : TrieS} (h : RH w O r (S.map (·.1)) (S.map (·.2)) sR cR sV cV qs) : RTrie w 0 r S sR cR sV cV qs := by
  have h1 := h.blk
  have h2 := h.rows
  have h3 := h.vals
  have h4 := h.len
  rw [List.length_map] at h1 h2 h3 h4
  rw [List.length_map] at h1
  refine ⟨h1, h2, h3, h4, fun i hi hj => ?_⟩
  have := h.each i hi (by rw [List.length_map]; exact hj)
  simpa using this
theorem slice_shape {w : World} {base : Nat} {e : TypeId} {size n : Nat} {v : Value} {xs : List Value} (h : w.ownsRow base e size v (n + 1) xs) : ∃ s c, v = .slice s (n + 1) c := by
  rcases h.2 with ⟨_, h2⟩ | ⟨g, cap, cur, h1, _⟩
  · omega
  · exact ⟨_, _, h1⟩
theorem below_new2 (w : World) (o : Obj) : Below w.heap.size w (w.alloc o) := (Below.refl _ _).alloc (Nat.le_refl _) _
/-- an append of one row, as a step of a region that draws -/
theorem step_push_q {w : World} {ops : Array Oper} {o : Oper} {a : Act} {K : Act → World → Prop} {Q : Exit → Act → World → Prop} {E : Prop} (q : QuietD) (hg : o.guard = none) (s x : Operand)
    (hop : o.op = .call { callee := .builtin .append, args := #[s, x], argTypes := #[32, 32] })
    (sl : Option Addr) (j c : Nat) (qs : List QuietD) (hs : a.eval s = .slice sl j c) (hx : a.eval x = .slice (some ⟨w.heap.size, 0, none⟩) 1 1) (hown : OwnQ w 0 (.slice sl j c) qs) (hjq : j = qs.length) (hj : j < 1073741824)
    (h : ∀ s' c' w', OwnQ w' 0 (.slice s' (j + 1) c') (qs ++ [q]) → w.grownBy w' (Value.slice sl j c).ownBlock → ((Value.slice s' (j + 1) c').ownBlock = (Value.slice sl j c).ownBlock ∨ ∃ b, (Value.slice s' (j + 1) c').ownBlock = some b ∧ w.heap.size ≤ b) → K (a.put o.dst (.slice s' (j + 1) c')) w') :
    if Region.wanted o (yielded ops a.tmps) = true then Oper.wp Try.prog o a (w.alloc (.cells #[qval q] 33)) K Q else E := by
  have hw : Region.wanted o (yielded ops a.tmps) = true := by simp [Region.wanted, hg]
  rw [if_pos hw]
  subst hjq
  obtain ⟨i0, hi, hz0, hz1, hz2⟩ := info_parts Try.infoRows
  have hown1 : OwnQ (w.alloc (.cells #[qval q] 33)) 0 (.slice sl qs.length c) qs := own_kept hown (fun b hb => Below.heap_alloc w _ b (World.ownsRow.lt hown b hb).2)
  unfold OwnQ at hown1
  obtain ⟨v', w', hr, h2, h3, h4, h5⟩ := run_append_own_at (P := Try.prog) (w.alloc (.cells #[qval q] 33)) 0 32 o.type 33 i0 (.slice none 0 0) 1 24 Try.underlying32 hi hz0 hz1 hz2 rfl (by decide) _ qs.length _ hown1 ⟨w.heap.size, 0, none⟩ 1 1 [qval q] rfl (cell_one_new _ _ _) (by intro u hu; rw [List.mem_singleton] at hu; subst hu; rfl) (by unfold maxLen; omega) (by omega) (by simp)
  obtain ⟨s', c', rfl⟩ := slice_shape h2
  have hO : OwnQ w' 0 (.slice s' (qs.length + 1) c') (qs ++ [q]) := by
    unfold OwnQ
    rw [List.length_append, List.map_append]
    exact h2
  have hK := h s' c' w' hO (World.grownBy.trans (World.grownBy_alloc w _ _) h3) (by
    rcases h5 with e | e
    · exact .inl e
    · exact .inr ⟨_, e, by simp⟩)
  unfold Oper.wp
  simp only [execOp, hop, resolve, invoke, builtin, hs, hx, hr, Result.andThen, Sem.run_bind, Sem.run_pure, List.map_toArray, List.map_cons, List.map_nil]
  exact hK
/-- an append of one int, as a step of a region that draws -/
theorem step_push_i {w : World} {ops : Array Oper} {o : Oper} {a : Act} {K : Act → World → Prop} {Q : Exit → Act → World → Prop} {E : Prop} (k : Int) (hg : o.guard = none) (s x : Operand)
    (hop : o.op = .call { callee := .builtin .append, args := #[s, x], argTypes := #[33, 33] })
    (sl : Option Addr) (j c : Nat) (l : List Int) (hs : a.eval s = .slice sl j c) (hx : a.eval x = .slice (some ⟨w.heap.size, 0, none⟩) 1 1) (hown : OwnInts w 0 (.slice sl j c) l) (hjl : j = l.length) (hj : j < 1073741824)
    (h : ∀ s' c' w', OwnInts w' 0 (.slice s' (j + 1) c') (l ++ [k]) → w.grownBy w' (Value.slice sl j c).ownBlock → ((Value.slice s' (j + 1) c').ownBlock = (Value.slice sl j c).ownBlock ∨ ∃ b, (Value.slice s' (j + 1) c').ownBlock = some b ∧ w.heap.size ≤ b) → K (a.put o.dst (.slice s' (j + 1) c')) w') :
    if Region.wanted o (yielded ops a.tmps) = true then Oper.wp Try.prog o a (w.alloc (.cells #[.int .i64 k] 3)) K Q else E := by
  have hw : Region.wanted o (yielded ops a.tmps) = true := by simp [Region.wanted, hg]
  rw [if_pos hw]
  subst hjl
  obtain ⟨i0, hi, hz0, hz1, hz2⟩ := info_parts Try.infoInt
  have hown1 : OwnInts (w.alloc (.cells #[.int .i64 k] 3)) 0 (.slice sl l.length c) l := hown.kept (fun b hb _ => Below.heap_alloc w _ b hb)
  have hown2 := hown1
  unfold OwnInts at hown2
  obtain ⟨v', w', hr, h2, h3, h4, h5⟩ := run_append_own_at (P := Try.prog) (w.alloc (.cells #[.int .i64 k] 3)) 0 33 o.type 3 i0 (.int .i64 0) 1 8 Try.underlying33 hi hz0 hz1 hz2 rfl (by decide) _ l.length _ hown2 ⟨w.heap.size, 0, none⟩ 1 1 [.int .i64 k] rfl (cell_one_new _ _ _) (ints_oneCell _ [k]) (by unfold maxLen; omega) (by omega) (by simp)
  obtain ⟨s', c', rfl⟩ := slice_shape h2
  have hO : OwnInts w' 0 (.slice s' (l.length + 1) c') (l ++ [k]) := by
    unfold OwnInts
    rw [List.length_append, List.map_append]
    exact h2
  have hK := h s' c' w' hO (World.grownBy.trans (World.grownBy_alloc w _ _) h3) (by
    rcases h5 with e | e
    · exact .inl e
    · exact .inr ⟨_, e, by simp⟩)
  unfold Oper.wp
  simp only [execOp, hop, resolve, invoke, builtin, hs, hx, hr, Result.andThen, Sem.run_bind, Sem.run_pure, List.map_toArray, List.map_cons, List.map_nil]
  exact hK
/-- a row more: the world behind the append, the slice not yet stored -/
theorem RH.pushRow (h : RH w O r R V sR cR sV cV qs) {q : QuietD} {p : List Int} {s' : Option Addr} {c' : Nat} (hq : QOk w q) (hqn : q.n = p.length) (hql : q.l = p) (hqO : O q.g) (hqv : (Value.slice sV V.length cV).ownBlock ≠ some q.g)
    (ho : OwnQ w' 0 (.slice s' (R.length + 1) c') (qs ++ [q])) (hg : w.grownBy w' (Value.slice sR R.length cR).ownBlock) (hat : (Value.slice s' (R.length + 1) c').ownBlock = (Value.slice sR R.length cR).ownBlock ∨ ∃ b, (Value.slice s' (R.length + 1) c').ownBlock = some b ∧ w.heap.size ≤ b) (hOn : ∀ b, w.heap.size ≤ b → O b) :
    RH (w'.setCell ⟨r, 0, none⟩ (.slice s' (R.length + 1) c')) O r (R ++ [p]) V s' c' sV cV (qs ++ [q]) ∧ Touch O w (w'.setCell ⟨r, 0, none⟩ (.slice s' (R.length + 1) c')) := by
  have hrl := heap_lt h.blk
  have hold : ∀ b, b < w.heap.size → b ≠ r → (Value.slice sR R.length cR).ownBlock ≠ some b → (w'.setCell ⟨r, 0, none⟩ (.slice s' (R.length + 1) c')).heap[b]? = w.heap[b]? := fun b hb hbr hbR => by
    rw [Below.heap_setCell _ _ _ _ hbr]
    exact hg.block b hb (fun e => hbR e.symm)
  have hrR : ∀ b, (Value.slice sR R.length cR).ownBlock = some b → b ≠ r := fun b hb => by
    obtain ⟨cs, h1⟩ := h.type_R hb
    exact type_ne h1 h.blk (by decide)
  have hr' : w'.heap[r]? = some (.cells #[.slice sR R.length cR, .slice sV V.length cV] 35 (0, 0)) := (hg.block r hrl (fun e => hrR r e.symm rfl)).trans h.blk
  have hqk : ∀ x, QOk w x → QOk (w'.setCell ⟨r, 0, none⟩ (.slice s' (R.length + 1) c')) x := fun x hx => by
    obtain ⟨cs, h1⟩ := hx.type
    refine hx.kept (hold _ hx.lt (type_ne h1 h.blk (by decide)) (fun e => ?_))
    obtain ⟨cs2, h2⟩ := h.type_R e
    exact type_ne h2 h1 (by decide) rfl
  refine ⟨⟨?_, ?_, ?_, ?_, ?_, ?_, h.own_r, ?_, h.own_V, ?_⟩, ?_⟩
  · rw [block_set _ hr', List.length_append]; rfl
  · rw [List.length_append]
    refine own_kept ho (fun b hb => Below.heap_setCell _ _ _ _ ?_)
    rcases hat with e | ⟨b', e, he⟩
    · exact hrR b (e ▸ hb)
    · have h3 : some b' = some b := e.symm.trans hb
      injection h3 with h3
      intro e2
      show False
      have : b = r := e2
      omega
  · refine h.vals.kept (fun b hb hv => hold b hb ?_ (fun e => ?_))
    · obtain ⟨cs, h1⟩ := h.type_V hv
      exact type_ne h1 h.blk (by decide)
    · obtain ⟨cs, h1⟩ := h.type_V hv
      obtain ⟨cs2, h2⟩ := h.type_R e
      exact type_ne h2 h1 (by decide) rfl
  · rw [List.length_append, List.length_append, h.len]; rfl
  · intro i hi hj
    by_cases hlt : i < qs.length
    · rw [List.getElem_append_left hlt, List.getElem_append_left (by have := h.len; omega)]
      have := h.each i hlt (by have := h.len; omega)
      exact ⟨hqk _ this.1, this.2⟩
    · have hil : i = qs.length := by rw [List.length_append] at hi; simp at hi; omega
      subst hil
      rw [List.getElem_append_right (Nat.le_refl _), List.getElem_append_right (by rw [h.len]; exact Nat.le_refl _)]
      simp only [Nat.sub_self, h.len, List.getElem_cons_zero]
      exact ⟨hqk _ hq, hqn, hql⟩
  · intro x hx
    rcases List.mem_append.1 hx with h1 | h1
    · exact h.apart x h1
    · rw [List.mem_singleton.1 h1]; exact hqv
  · intro b hb
    rw [List.length_append] at hb
    rcases hat with e | ⟨b', e, he⟩
    · exact h.own_R b (e ▸ hb)
    · have h3 : some b' = some b := e.symm.trans hb
      injection h3 with h3
      exact hOn b (by omega)
  · intro x hx
    rcases List.mem_append.1 hx with h1 | h1
    · exact h.own_q x h1
    · rw [List.mem_singleton.1 h1]; exact hqO
  · exact (Touch.grown (O := O) hg h.own_R).trans (Touch.setCell O w' (p := ⟨r, 0, none⟩) h.own_r _) (fun x hx => .inl hx)
/-- a value more -/
theorem RH.pushVal (h : RH w O r R V sR cR sV cV qs) {v : Int} {s' : Option Addr} {c' : Nat}
    (ho : OwnInts w' 0 (.slice s' (V.length + 1) c') (V ++ [v])) (hg : w.grownBy w' (Value.slice sV V.length cV).ownBlock) (hat : (Value.slice s' (V.length + 1) c').ownBlock = (Value.slice sV V.length cV).ownBlock ∨ ∃ b, (Value.slice s' (V.length + 1) c').ownBlock = some b ∧ w.heap.size ≤ b) (hOn : ∀ b, w.heap.size ≤ b → O b) :
    RH (w'.setCell ⟨r, 1, none⟩ (.slice s' (V.length + 1) c')) O r R (V ++ [v]) sR cR s' c' qs ∧ Touch O w (w'.setCell ⟨r, 1, none⟩ (.slice s' (V.length + 1) c')) := by
  have hrl := heap_lt h.blk
  have hold : ∀ b, b < w.heap.size → b ≠ r → (Value.slice sV V.length cV).ownBlock ≠ some b → (w'.setCell ⟨r, 1, none⟩ (.slice s' (V.length + 1) c')).heap[b]? = w.heap[b]? := fun b hb hbr hbR => by
    rw [Below.heap_setCell _ _ _ _ hbr]
    exact hg.block b hb (fun e => hbR e.symm)
  have hrV : ∀ b, (Value.slice sV V.length cV).ownBlock = some b → b ≠ r := fun b hb => by
    obtain ⟨cs, h1⟩ := h.type_V hb
    exact type_ne h1 h.blk (by decide)
  have hr' : w'.heap[r]? = some (.cells #[.slice sR R.length cR, .slice sV V.length cV] 35 (0, 0)) := (hg.block r hrl (fun e => hrV r e.symm rfl)).trans h.blk
  refine ⟨⟨?_, ?_, ?_, h.len, ?_, ?_, h.own_r, h.own_R, ?_, h.own_q⟩, ?_⟩
  · rw [block_set _ hr', List.length_append]; rfl
  · refine own_kept h.rows (fun b hb => hold b (World.ownsRow.lt h.rows b hb).2 ?_ (fun e => ?_))
    · obtain ⟨cs, h1⟩ := h.type_R hb
      exact type_ne h1 h.blk (by decide)
    · obtain ⟨cs, h1⟩ := h.type_R hb
      obtain ⟨cs2, h2⟩ := h.type_V e
      exact type_ne h1 h2 (by decide) rfl
  · rw [List.length_append]
    refine ho.kept (fun b hb hv => Below.heap_setCell _ _ _ _ ?_)
    rcases hat with e | ⟨b', e, he⟩
    · exact hrV b (e ▸ hv)
    · have h3 : some b' = some b := e.symm.trans hv
      injection h3 with h3
      intro e2
      show False
      have : b = r := e2
      omega
  · intro i hi hj
    have hx := h.each i hi hj
    obtain ⟨cs, h1⟩ := hx.1.type
    exact ⟨hx.1.kept (hold _ hx.1.lt (type_ne h1 h.blk (by decide)) (h.apart _ (List.getElem_mem hi))), hx.2⟩
  · intro x hx hb
    rw [List.length_append] at hb
    rcases hat with e | ⟨b', e, he⟩
    · exact h.apart x hx (e ▸ hb)
    · have h3 : some b' = some x.g := e.symm.trans hb
      injection h3 with h3
      have := (h.q_of hx).lt
      omega
  · intro b hb
    rw [List.length_append] at hb
    rcases hat with e | ⟨b', e, he⟩
    · exact h.own_V b (e ▸ hb)
    · have h3 : some b' = some b := e.symm.trans hb
      injection h3 with h3
      exact hOn b (by omega)
  · exact (Touch.grown (O := O) hg h.own_V).trans (Touch.setCell O w' (p := ⟨r, 1, none⟩) h.own_r _) (fun x hx => .inl hx)
end
end Go.Proofs.Ytampjndfhpjheaa
