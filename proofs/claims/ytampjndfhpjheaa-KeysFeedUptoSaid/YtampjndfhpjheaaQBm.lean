/- Contract of the document's side: Of: the tables in memory. No condition. -/
import Derived.Deep.RegionWith
import Derived.Test.YtampjndfhpjheaaQBl
namespace Go.Proofs.Ytampjndfhpjheaa
open Go.RowKit
set_option linter.unusedVariables false
set_option linter.unusedSimpArgs false
theorem Try.infoRowL : (Try.prog.info? 95).map (fun i => (i.zero, i.size, i.bytes)) = some (some (.slice none 0 0), 1, 24) := by kernel_rfl
theorem RL.keptT {w w' : World} {base : Nat} {v : Value} {L : List DR} (h : RL w base v L) (e : ∀ (b : Nat) (cs : Array Value) (t : TypeId), w.heap[b]? = some (.cells cs t (0, 0)) → t = 103 ∨ t = 3 → w'.heap[b]? = w.heap[b]?) : RL w' base v L :=
 ⟨own_kept h.1 (fun b hb => by
  obtain ⟨cs, h1⟩ := h.type hb
  exact e _ _ _ h1 (.inl rfl)), fun x hx => (h.2 x hx).kept (by
  obtain ⟨cs, h1⟩ := (h.2 x hx).type
  exact e _ _ _ h1 (.inr rfl))⟩
def TailOk (w : World) (v : Value) (x : List Int × Bd) : Prop := ∃ s n c L, v = .slice s n c ∧ L.map DR.row = (docD x).map (setV x.2.verb) ∧ RL w 0 (.slice s n c) L
structure TSt (w : World) (B tb : Nat) (vR : Value) (LR : List DR) (vO : Value) (LO : List DR) (k : Nat) (sT : Option Addr) (cT : Nat) (vs : List Value) : Prop where
 blk : w.heap[tb]? = some (.cells #[vR, vO, .slice sT k cT] 98 (0, 0))
 rows : RL w 0 vR LR
 ops : RL w 0 vO LO
 own : w.ownsRow 0 95 1 (.slice sT k cT) k vs
 low : ∀ b, (Value.slice sT k cT).ownBlock = some b → B ≤ b
 each : ∀ i (hi : i < LO.length) v, vs[i]? = some v → TailOk w v LO[i].row
 ge : B ≤ tb
theorem TSt.otype {w : World} {B tb : Nat} {vR vO : Value} {LR LO : List DR} {k cT : Nat} {sT : Option Addr} {vs : List Value} (h : TSt w B tb vR LR vO LO k sT cT vs) {b : Nat} (hb : (Value.slice sT k cT).ownBlock = some b) : ∃ cs, w.heap[b]? = some (.cells cs 95 (0, 0)) := by
 rcases h.own.2 with ⟨h1, _⟩ | ⟨g, cap, cur, h1, _, hgg, _⟩
 · rw [h1] at hb; cases hb
 · rw [h1] at hb; cases hb; exact ⟨_, hgg⟩
theorem TSt.later {w w' : World} {B tb : Nat} {vR vO : Value} {LR LO : List DR} {k cT : Nat} {sT : Option Addr} {vs : List Value} (h : TSt w B tb vR LR vO LO k sT cT vs) (hb : Below w.heap.size w w') : TSt w' B tb vR LR vO LO k sT cT vs where
 blk := (hb.block _ (heap_lt h.blk)).trans h.blk
 rows := h.rows.later hb
 ops := h.ops.later hb
 own := own_kept h.own (fun b hb' => hb.block b (World.ownsRow.lt h.own b hb').2)
 low := h.low
 each := fun i hi v hv => by
  obtain ⟨s, n, c, L, h1, h2, h3⟩ := h.each i hi v hv
  exact ⟨s, n, c, L, h1, h2, h3.later hb⟩
 ge := h.ge
theorem TSt.push {w w' : World} {B tb : Nat} {vR vO : Value} {LR LO : List DR} {k cT c' : Nat} {sT s' : Option Addr} {vs : List Value} {v : Value} (h : TSt w B tb vR LR vO LO k sT cT vs) (hk : k < LO.length) (hv : TailOk w v LO[k].row) (hB : B ≤ w.heap.size)
  (ho : w'.ownsRow 0 95 1 (.slice s' (k + 1) c') (k + 1) (vs ++ [v])) (hg : w.grownBy w' (Value.slice sT k cT).ownBlock) (hat : (Value.slice s' (k + 1) c').ownBlock = (Value.slice sT k cT).ownBlock ∨ ∃ b, (Value.slice s' (k + 1) c').ownBlock = some b ∧ w.heap.size ≤ b) :
  TSt (w'.setCell ⟨tb, 2, none⟩ (.slice s' (k + 1) c')) B tb vR LR vO LO (k + 1) s' c' (vs ++ [v]) ∧ Below B w (w'.setCell ⟨tb, 2, none⟩ (.slice s' (k + 1) c')) := by
 have hlv : vs.length = k := by have := h.own.1; omega
 have hT : ∀ b, (Value.slice sT k cT).ownBlock = some b → b ≠ tb := fun b hb => by
  obtain ⟨cs, h1⟩ := h.otype hb
  exact type_ne h1 h.blk (by decide)
 have he : ∀ (b : Nat) (cs : Array Value) (t : TypeId), w.heap[b]? = some (.cells cs t (0, 0)) → t = 103 ∨ t = 3 → (w'.setCell ⟨tb, 2, none⟩ (.slice s' (k + 1) c')).heap[b]? = w.heap[b]? := fun b cs t hb ht => by
  have h1 : b ≠ tb := type_ne hb h.blk (by rcases ht with rfl | rfl <;> decide)
  rw [Below.heap_setCell _ _ _ _ h1]
  refine hg.block b (heap_lt hb) (fun e => ?_)
  obtain ⟨c2, h2⟩ := h.otype e.symm
  exact type_ne hb h2 (by rcases ht with rfl | rfl <;> decide) rfl
 have htb : w'.heap[tb]? = some (.cells #[vR, vO, .slice sT k cT] 98 (0, 0)) := (hg.block tb (heap_lt h.blk) (fun e => hT tb e.symm rfl)).trans h.blk
 have hk1 : ∀ (x : Value) (y : List Int × Bd), TailOk w x y → TailOk (w'.setCell ⟨tb, 2, none⟩ (.slice s' (k + 1) c')) x y := fun x y hx => by
  obtain ⟨s, n, c, L, h1, h2, h3⟩ := hx
  exact ⟨s, n, c, L, h1, h2, h3.keptT he⟩
 refine ⟨⟨?_, h.rows.keptT he, h.ops.keptT he, ?_, ?_, ?_, h.ge⟩, ?_⟩
 · exact block_set _ htb
 ·
  refine own_kept ho (fun b hb => Below.heap_setCell _ _ _ _ ?_)
  rcases hat with e | ⟨b', e, he⟩
  · exact hT b (e ▸ hb)
  ·
   have h3 : some b' = some b := e.symm.trans hb
   injection h3 with h3
   have := heap_lt h.blk
   show b ≠ tb
   omega
 ·
  intro b hb
  rcases hat with e | ⟨b', e, he⟩
  · exact h.low b (e ▸ hb)
  ·
   have h3 : some b' = some b := e.symm.trans hb
   injection h3 with h3
   omega
 ·
  intro i hi x hx
  by_cases hik : i < k
  ·
   rw [List.getElem?_append_left (by omega)] at hx
   exact hk1 _ _ (h.each i hi x hx)
  ·
   rw [List.getElem?_append_right (by omega)] at hx
   by_cases e : i = k
   ·
    subst e
    rw [hlv, Nat.sub_self] at hx
    simp at hx
    subst hx
    exact hk1 _ _ hv
   ·
    have : i - vs.length ≠ 0 := by omega
    rw [List.getElem?_eq_none (by simp; omega)] at hx; cases hx
 · exact (Below.grown (Below.refl _ _) hg hB h.low).setCell h.ge _
def TabD (w : World) (tb : Nat) (sel : Bool) : Prop := ∃ sR nR cR LR sO nO cO LO sT cT vs, TSt w 0 tb (.slice sR nR cR) LR (.slice sO nO cO) LO LO.length sT cT vs ∧ LR.map DR.row = docR sel ∧ LO.map DR.row = docO sel
theorem TabD.later {w w' : World} {tb : Nat} {sel : Bool} (h : TabD w tb sel) (hb : Below w.heap.size w w') : TabD w' tb sel := by
 obtain ⟨sR, nR, cR, LR, sO, nO, cO, LO, sT, cT, vs, h1, h2, h3⟩ := h
 exact ⟨sR, nR, cR, LR, sO, nO, cO, LO, sT, cT, vs, h1.later hb, h2, h3⟩
theorem step_push_t {w : World} {ops : Array Oper} {o : Oper} {a : Act} {K : Act → World → Prop} {Q : Exit → Act → World → Prop} {E : Prop} (v : Value) (hv1 : v.oneCell' = true) (hg : o.guard = none) (s x : Operand)
  (hop : o.op = .call { callee := .builtin .append, args := #[s, x], argTypes := #[96, 96] })
  (sl : Option Addr) (j c : Nat) (vs : List Value) (hs : a.eval s = .slice sl j c) (hx : a.eval x = .slice (some ⟨w.heap.size, 0, none⟩) 1 1) (hown : w.ownsRow 0 95 1 (.slice sl j c) j vs) (hj : j < 1073741824)
  (h : ∀ s' c' w', w'.ownsRow 0 95 1 (.slice s' (j + 1) c') (j + 1) (vs ++ [v]) → w.grownBy w' (Value.slice sl j c).ownBlock → ((Value.slice s' (j + 1) c').ownBlock = (Value.slice sl j c).ownBlock ∨ ∃ b, (Value.slice s' (j + 1) c').ownBlock = some b ∧ w.heap.size ≤ b) → K (a.put o.dst (.slice s' (j + 1) c')) w') :
  if Region.wanted o (yielded ops a.tmps) = true then Oper.wp Try.prog o a (w.alloc (.cells #[v] 95)) K Q else E := by
 have hw : Region.wanted o (yielded ops a.tmps) = true := by simp [Region.wanted, hg]
 rw [if_pos hw]
 obtain ⟨i0, hi, hz0, hz1, hz2⟩ := info_parts Try.infoRowL
 have hown1 := own_kept (w' := w.alloc (.cells #[v] 95)) hown (fun b hb => Below.heap_alloc w _ b (World.ownsRow.lt hown b hb).2)
 obtain ⟨v', w', hr, h2, h3, h4, h5⟩ := run_append_own_at (P := Try.prog) (w.alloc (.cells #[v] 95)) 0 96 o.type 95 i0 (.slice none 0 0) 1 24 Try.underlying96 hi hz0 hz1 hz2 rfl (by decide) _ j _ hown1 ⟨w.heap.size, 0, none⟩ 1 1 [v] rfl (cell_one_new _ _ _) (by intro u hu; rw [List.mem_singleton] at hu; subst hu; exact hv1) (by unfold maxLen; omega) (by omega) (by simp)
 obtain ⟨s', c', rfl⟩ := slice_shape h2
 have hK := h s' c' w' h2 (World.grownBy.trans (World.grownBy_alloc w _ _) h3) (by
  rcases h5 with e | e
  · exact .inl e
  · exact .inr ⟨_, e, by simp⟩)
 unfold Oper.wp
 simp only [execOp, hop, resolve, invoke, builtin, hs, hx, hr, Result.andThen, Sem.run_bind, Sem.run_pure, List.map_toArray, List.map_cons, List.map_nil]
 exact hK
def ownDR (x : DR) : DR := ⟨x.q, { x.b with own := ownP x.q.k }⟩
theorem ownDR_cells : ∀ L : List DR, (L.map ownDR).flatMap DR.cells = L.flatMap DR.cells
 | [] => rfl
 | x :: L => by rw [List.map_cons, List.flatMap_cons, List.flatMap_cons, ownDR_cells L]; rfl
theorem RL.ownDR {w : World} {base : Nat} {v : Value} {L : List DR} (h : RL w base v L) : RL w base v (L.map ownDR) := by
 refine ⟨?_, fun x hx => ?_⟩
 · rw [ownDR_cells, List.length_map]; exact h.1
 ·
  obtain ⟨y, hy, rfl⟩ := List.mem_map.1 hx
  exact h.2 y hy
theorem opr_own {L : List DR} (h : L.map DR.row = oprD0) : (L.map ownDR).map DR.row = oprD := by
 have e : DR.row ∘ ownDR = (fun x : List Int × Bd => (x.1, { x.2 with own := ownP x.1 })) ∘ DR.row := rfl
 rw [List.map_map, e, ← List.map_map, h]
 decide +kernel
theorem opr_len {x : List Int × Bd} (h : x ∈ oprD) : x.1.length = 1 ∨ x.1.length = 2 := by
 have h1 : (oprD.all fun x => decide (x.1.length = 1 ∨ x.1.length = 2)) = true := by decide +kernel
 have := List.all_eq_true.1 h1 x h
 simpa using this
set_option maxRecDepth 100000 in
set_option maxHeartbeats 8000000 in
theorem of_true (w : World) : Calls Try.prog 17 #[.bool true] w fun e w' => ∃ tb, e = .returned (.pointer (some ⟨tb, 0, none⟩)) ∧ TabD w' tb true ∧ Below w.heap.size w w' := by
 have hbn := below_new2 w (.cells #[.slice none 0 0, .slice none 0 0, .slice none 0 0] 98)
 have hon := one_new w (.cells #[.slice none 0 0, .slice none 0 0, .slice none 0 0] 98)
 obtain ⟨w1, hw1⟩ : ∃ w1, w1 = w.alloc (.cells #[.slice none 0 0, .slice none 0 0, .slice none 0 0] 98) := ⟨_, rfl⟩
 rw [← hw1] at hbn hon
 have HW1 := Lib.hid hw1
 have HBN := Lib.hid hbn
 have HON := Lib.hid hon
 have hB0 := heap_lt hon
 clear hbn hon hw1
 go_enter Try.func17, Try.ntmps17
 go_upto_region 3 with (fail)
 rw [← HW1.out]
 go_wp2_with fail
 refine (dmot_c w1).mono ?_
 rintro e w2 ⟨s2, c2, L2, rfl, hL2, hr2, hb2⟩
 obtain ⟨n2, hn2⟩ : ∃ n2, n2 = motD.length := ⟨_, rfl⟩
 rw [← hn2] at hr2 ⊢
 have HL2 := Lib.hid hL2
 have HR2 := Lib.hid hr2
 have HB2 := Lib.hid hb2
 have hn2' : n2 < 1000 := by rw [hn2]; decide
 clear hL2 hr2 hb2 hn2
 go_wp2_with fail
 refine (dobj_c w2).mono ?_
 rintro e w3 ⟨s3, c3, L3, rfl, hL3, hr3, hb3⟩
 obtain ⟨n3, hn3⟩ : ∃ n3, n3 = objD.length := ⟨_, rfl⟩
 rw [← hn3] at hr3 ⊢
 have hn3' : n3 < 1000 := by rw [hn3]; decide
 have hap : Apart (.slice s2 n2 c2) (.slice s3 n3 c3) := fun b h1 h2 => by
  have h3 := (World.ownsRow.lt HR2.out.1 b h1).2
  have h4 := hr3.low h2
  omega
 have hbc := (dboth_c L2 L3 s2 n2 c2 s3 n3 c3 w1.heap.size w3 (by omega) (by omega) (HR2.out.later hb3) (hr3.mono (Nat.zero_le _)) hap (bt HB2.out hb3).size)
 have HBC := Lib.hid hbc
 have HB3 := Lib.hid (bt HB2.out hb3)
 have HL23 := Lib.hid (show (L2 ++ L3).map DR.row = motD ++ objD by rw [List.map_append, HL2.out, hL3])
 clear hL3 hr3 hb3 hn3 hap hbc
 go_wp2_with fail
 refine HBC.out.mono ?_
 rintro e w4 ⟨s4, n4, c4, rfl, hn4, hr4, hb4⟩
 have HB4 := Lib.hid (HB3.out.trans hb4)
 have HR4 := Lib.hid hr4
 have hn4' : n4 < 2000 := by omega
 clear hn4 hr4 hb4 HBC HB3 HR2 HL2 HB2
 go_wp2_with fail
 refine (dsel_c w4).mono ?_
 rintro e w5 ⟨s5, c5, L5, rfl, hL5, hr5, hb5⟩
 obtain ⟨n5, hn5⟩ : ∃ n5, n5 = (eveD ++ selD).length := ⟨_, rfl⟩
 rw [← hn5] at hr5 ⊢
 have hn5' : n5 < 1000 := by rw [hn5]; decide
 have hap : Apart (.slice s4 n4 c4) (.slice s5 n5 c5) := fun b h1 h2 => by
  have h3 := (World.ownsRow.lt HR4.out.1 b h1).2
  have h4 := hr5.low h2
  omega
 have hbc := (dboth_c (L2 ++ L3) L5 s4 n4 c4 s5 n5 c5 w1.heap.size w5 (by omega) (by omega) (HR4.out.later hb5) (hr5.mono (Nat.zero_le _)) hap (HB4.out.trans (hb5.mono HB4.out.size)).size)
 have HBC := Lib.hid hbc
 have HB5 := Lib.hid (HB4.out.trans (hb5.mono HB4.out.size))
 have HL45 := Lib.hid (show (L2 ++ L3 ++ L5).map DR.row = docR true by rw [List.map_append, HL23.out, hL5]; rfl)
 clear hL5 hr5 hb5 hn5 hap hbc HR4 HL23 HB4
 go_wp2_with fail
 refine HBC.out.mono ?_
 rintro e w6 ⟨s6, n6, c6, rfl, hn6, hr6, hb6⟩
 have HB6 := Lib.hid (HB5.out.trans hb6)
 have HR6 := Lib.hid hr6
 have hon6 := (HB6.out.block _ hB0).trans HON.out
 have k0 : w6.cell? ⟨w.heap.size, 0, none⟩ = some (.slice none 0 0) := block_cell hon6
 have kf : w6.frozen? ⟨w.heap.size, 0, none⟩ = false := block_free hon6
 have HON6 := Lib.hid hon6
 clear hn6 hr6 hb6 HBC HB5 hon6
 go_wp2
 go_ret
 have hs6 := HB6.out.size
 refine ⟨w.heap.size, rfl, ⟨s6, n6, c6, _, none, 0, 0, [], none, 0, [], ⟨block_set _ HON6.out, ?_, RL.nil _ _, World.ownsRow_nil _ _ _ _, (fun b hb => by cases hb), (fun i hi => absurd hi (Nat.not_lt_zero _)), Nat.zero_le _⟩, HL45.out, rfl⟩, (HBN.out.trans (HB6.out.mono HBN.out.size)).setCell (Nat.le_refl _) _⟩
 refine (HR6.out.mono (Nat.zero_le _)).keptT (fun b cs t hb ht => Below.heap_setCell _ _ _ _ ?_)
 exact type_ne hb HON6.out (by rcases ht with rfl | rfl <;> decide)
set_option maxRecDepth 100000 in
set_option maxHeartbeats 8000000 in
theorem of_false (w : World) : Calls Try.prog 17 #[.bool false] w fun e w' => ∃ tb, e = .returned (.pointer (some ⟨tb, 0, none⟩)) ∧ TabD w' tb false ∧ Below w.heap.size w w' := by
 have hbn := below_new2 w (.cells #[.slice none 0 0, .slice none 0 0, .slice none 0 0] 98)
 have hon := one_new w (.cells #[.slice none 0 0, .slice none 0 0, .slice none 0 0] 98)
 obtain ⟨w1, hw1⟩ : ∃ w1, w1 = w.alloc (.cells #[.slice none 0 0, .slice none 0 0, .slice none 0 0] 98) := ⟨_, rfl⟩
 rw [← hw1] at hbn hon
 have HW1 := Lib.hid hw1
 have HBN := Lib.hid hbn
 have HON := Lib.hid hon
 have hB0 := heap_lt hon
 clear hbn hon hw1
 go_enter Try.func17, Try.ntmps17
 go_upto_region 5 with (fail)
 rw [← HW1.out]
 go_wp2_with fail
 refine (dmot_c w1).mono ?_
 rintro e w2 ⟨s2, c2, L2, rfl, hL2, hr2, hb2⟩
 obtain ⟨n2, hn2⟩ : ∃ n2, n2 = motD.length := ⟨_, rfl⟩
 rw [← hn2] at hr2 ⊢
 have HL2 := Lib.hid hL2
 have HR2 := Lib.hid hr2
 have HB2 := Lib.hid hb2
 have hn2' : n2 < 1000 := by rw [hn2]; decide
 clear hL2 hr2 hb2 hn2
 go_wp2_with fail
 refine (dnor_c w2).mono ?_
 rintro e w3 ⟨s3, c3, L3, rfl, hL3, hr3, hb3⟩
 obtain ⟨n3, hn3⟩ : ∃ n3, n3 = (eveD ++ norD).length := ⟨_, rfl⟩
 rw [← hn3] at hr3 ⊢
 have hn3' : n3 < 1000 := by rw [hn3]; decide
 have hap : Apart (.slice s2 n2 c2) (.slice s3 n3 c3) := fun b h1 h2 => by
  have h3 := (World.ownsRow.lt HR2.out.1 b h1).2
  have h4 := hr3.low h2
  omega
 have hbc := (dboth_c L2 L3 s2 n2 c2 s3 n3 c3 w1.heap.size w3 (by omega) (by omega) (HR2.out.later hb3) (hr3.mono (Nat.zero_le _)) hap (bt HB2.out hb3).size)
 have HBC := Lib.hid hbc
 have HB3 := Lib.hid (bt HB2.out hb3)
 have HL23 := Lib.hid (show (L2 ++ L3).map DR.row = docR false by rw [List.map_append, HL2.out, hL3]; rfl)
 clear hL3 hr3 hb3 hn3 hap hbc
 go_wp2_with fail
 refine HBC.out.mono ?_
 rintro e w4 ⟨s4, n4, c4, rfl, hn4, hr4, hb4⟩
 have HB4 := Lib.hid (HB3.out.trans hb4)
 have HR4 := Lib.hid hr4
 have hon4 := (HB4.out.block _ hB0).trans HON.out
 have k0 : w4.cell? ⟨w.heap.size, 0, none⟩ = some (.slice none 0 0) := block_cell hon4
 have kf : w4.frozen? ⟨w.heap.size, 0, none⟩ = false := block_free hon4
 have HON4 := Lib.hid hon4
 clear hn4 hr4 hb4 HBC HB3 HR2 HL2 HB2 hon4
 go_upto_region 6 with (fail)
 have hon5 : (w4.setCell ⟨w.heap.size, 0, none⟩ (.slice s4 n4 c4)).heap[w.heap.size]? = some (.cells #[.slice s4 n4 c4, .slice none 0 0, .slice none 0 0] 98 (0, 0)) := block_set _ HON4.out
 have hr5 : RL (w4.setCell ⟨w.heap.size, 0, none⟩ (.slice s4 n4 c4)) 0 (.slice s4 n4 c4) (L2 ++ L3) := (HR4.out.mono (Nat.zero_le _)).keptT (fun b cs t hb ht => Below.heap_setCell _ _ _ _ (type_ne hb HON4.out (by rcases ht with rfl | rfl <;> decide)))
 have hb5 : Below w.heap.size w (w4.setCell ⟨w.heap.size, 0, none⟩ (.slice s4 n4 c4)) := (HBN.out.trans (HB4.out.mono HBN.out.size)).setCell (Nat.le_refl _) _
 generalize w4.setCell ⟨w.heap.size, 0, none⟩ (.slice s4 n4 c4) = w5 at hon5 hr5 hb5 ⊢
 have HON5 := Lib.hid hon5
 have HR5 := Lib.hid hr5
 have HB5 := Lib.hid hb5
 clear k0 kf HON4 HR4 HB4 hon5 hr5 hb5
 go_wp2_with fail
 refine (dopr_c w5).mono ?_
 rintro e w6 ⟨s6, c6, L6, rfl, hL6, hr6, hb6⟩
 obtain ⟨n6, hn6⟩ : ∃ n6, n6 = oprD0.length := ⟨_, rfl⟩
 rw [← hn6] at hr6 ⊢
 have hn6' : n6 = 8 := by rw [hn6]; decide
 clear hn6
 subst hn6'
 have hon6 := (hb6.block _ (heap_lt HON5.out)).trans HON5.out
 have HL6 := Lib.hid (opr_own hL6)
 have HR6 := Lib.hid (hr6.mono (Nat.zero_le _)).ownDR
 have HR56 := Lib.hid (HR5.out.later hb6)
 have HB6 := Lib.hid (HB5.out.trans (hb6.mono HB5.out.size))
 have k0 : w6.cell? ⟨w.heap.size, 1, none⟩ = some (.slice none 0 0) := block_cell hon6
 have kf : w6.frozen? ⟨w.heap.size, 1, none⟩ = false := block_free hon6
 have HON6 := Lib.hid hon6
 clear hL6 hr6 hb6 hon6 HR5 HB5 HON5
 go_upto_region 7 with (fail)
 have hst : TSt (w6.setCell ⟨w.heap.size, 1, none⟩ (.slice s6 8 c6)) w.heap.size w.heap.size (.slice s4 n4 c4) (L2 ++ L3) (.slice s6 8 c6) (L6.map ownDR) 0 none 0 [] := by
  have hk := fun (b : Nat) (cs : Array Value) (t : TypeId) (hb : w6.heap[b]? = some (.cells cs t (0, 0))) (ht : t = 103 ∨ t = 3) => Below.heap_setCell w6 ⟨w.heap.size, 1, none⟩ (.slice s6 8 c6) b (type_ne hb HON6.out (by rcases ht with rfl | rfl <;> decide))
  exact ⟨block_set _ HON6.out, HR56.out.keptT hk, HR6.out.keptT hk, World.ownsRow_nil _ _ _ _, (fun b hb => by cases hb), (fun i hi v hv => by cases hv), Nat.le_refl _⟩
 have hbl : Below w.heap.size w (w6.setCell ⟨w.heap.size, 1, none⟩ (.slice s6 8 c6)) := HB6.out.setCell (Nat.le_refl _) _
 generalize w6.setCell ⟨w.heap.size, 1, none⟩ (.slice s6 8 c6) = w7 at hst hbl ⊢
 have HST := Lib.hid hst
 have HBL := Lib.hid hbl
 clear k0 kf HON6 HR6 HR56 HB6 hst hbl
 have hlo : (L6.map ownDR).length = 8 := by rw [← List.length_map (f := DR.row), HL6.out]; rfl
 generalize L6.map ownDR = LO at HST HL6 hlo
 generalize L2 ++ L3 = LR at HST HL23
 have HLO := Lib.hid hlo
 clear hlo
 have hlb : w.heap.size < w7.heap.size := heap_lt HST.out.blk
 have hb1 : w7.cell? ⟨w.heap.size, 1, none⟩ = some (.slice s6 8 c6) := block_cell HST.out.blk
 go_wp2_with fail
 clear hb1
 go_loopg [4] 8 (fun gg iv wr => ∃ (k : Nat) (sT : Option Addr) (cT : Nat) (vs : List Value), k + gg = 8 ∧ iv = .int .i64 k ∧ TSt wr w.heap.size w.heap.size (.slice s4 n4 c4) LR (.slice s6 8 c6) LO k sT cT vs ∧ Below w.heap.size w wr)
 case atStart => exact ⟨0, none, 0, [], rfl, rfl, HST.out, HBL.out⟩
 case round =>
  obtain ⟨k, sT, cT, vs, hk, rfl, hst, hbl⟩ := hrel
  clear HST HBL
  have b1 : wr.cell? ⟨w.heap.size, 1, none⟩ = some (.slice s6 8 c6) := block_cell hst.blk
  have b2 : wr.cell? ⟨w.heap.size, 2, none⟩ = some (.slice sT k cT) := block_cell hst.blk
  by_cases hlt : k < 8
  ·
   have hkl : k < LO.length := by rw [HLO.out]; exact hlt
   obtain ⟨g, hg0, hg, hcell⟩ := hst.ops.cell hkl
   have hkx := hst.ops.2 _ (List.getElem_mem hkl)
   have hlen : (LO[k]'hkl).q.k.length = 1 ∨ (LO[k]'hkl).q.k.length = 2 := opr_len (x := LO[k].row) (by rw [← HL6.out]; exact List.mem_map_of_mem (List.getElem_mem hkl))
   have HKL := Lib.hid hkl
   generalize hx : LO[k] = x at hcell hkx hlen
   have HX := Lib.hid hx
   clear hx
   obtain ⟨⟨qg, qo, qn, qc, qk⟩, ⟨bv, bm, ba, bmo, bo⟩⟩ := x
   have y0 := hcell 0 (by decide)
   have y1 := hcell 1 (by decide)
   have y2 := hcell 2 (by decide)
   have y3 := hcell 3 (by decide)
   have y4 := hcell 4 (by decide)
   simp only [DR.cells, KS.val, List.getElem?_cons_zero, List.getElem?_cons_succ, Nat.add_zero] at y0 y1 y2 y3 y4
   have htc := fun (W : World) (hW : Below wr.heap.size wr W) => tails_c ⟨⟨qg, qo, qn, qc, qk⟩, ⟨bv, bm, ba, bmo, bo⟩⟩ W (hkx.kept (hW.block _ hkx.lt)) hlen
   simp only at htc
   have HTC := Lib.hid htc
   have HST := Lib.hid hst
   have HBL := Lib.hid hbl
   have htl := heap_lt hst.blk
   subst hg0
   clear hcell hkx hlen htc hst hbl hkl
   have q1 : (k : Int) < 8 := by omega
   have q2 : (0 : Int) ≤ (k : Int) := by omega
   go_wp2_with fail
   go_region_law (first
    | (go_simp; refine (HTC.out _ (Below.refl wr.heap.size wr).drew).mono ?_; rintro e w8 ⟨s8, n8, c8, L8, rfl, hL8, hr8, hb8⟩; have HB8 := Lib.hid ((Below.refl wr.heap.size wr).drew.trans hb8); have HL8 := Lib.hid hL8; have HR8 := Lib.hid (hr8.mono (Nat.zero_le _)); have b8 := (HB8.out.cell (p := ⟨w.heap.size, 2, none⟩) htl).trans b2; have b9 := ((below_new2 w8 (.cells #[.slice s8 n8 c8] 95)).cell (p := ⟨w.heap.size, 2, none⟩) (Nat.lt_of_lt_of_le htl HB8.out.size)).trans b8; clear hL8 hr8 hb8)
    | (refine step_push_t (.slice s8 n8 c8) rfl ?_ (.tmp 40) (.tmp 49) ?_ sT k cT vs ?_ ?_ (HST.out.later HB8.out).own (by omega) ?_; rfl; rfl; simp [Act.eval]; simp [Act.eval]; intro s' c' w9 ho hg9 hat; have hr9 : w9.heap[w.heap.size]? = some (.cells #[.slice s4 n4 c4, .slice (some ⟨g, 0, none⟩) 8 c6, .slice sT k cT] 98 (0, 0)) := (hg9.block _ (Nat.lt_of_lt_of_le htl HB8.out.size) (fun e => by obtain ⟨cs, h1⟩ := (HST.out.later HB8.out).otype e.symm; exact type_ne h1 (HST.out.later HB8.out).blk (by decide) rfl)).trans (HST.out.later HB8.out).blk; have k0 := block_cell (i := 2) hr9; have kf := block_free (i := 2) hr9))
   all_goals
    have hsz := HBL.out.size
    have htail : TailOk w8 (.slice s8 n8 c8) (LO[k]'HKL.out).row := by
     have e : (LO[k]'HKL.out).row = (qk, ⟨bv, bm, ba, bmo, bo⟩) := congrArg DR.row HX.out
     rw [e]
     exact ⟨s8, n8, c8, L8, rfl, HL8.out, HR8.out⟩
    obtain ⟨hst9, hb9⟩ := (HST.out.later HB8.out).push HKL.out htail (Nat.le_trans hsz HB8.out.size) ho hg9 hat
    have HST9 := Lib.hid hst9
    have HB9 := Lib.hid ((HBL.out.trans (HB8.out.mono hsz)).trans hb9)
    generalize w9.setCell ⟨w.heap.size, 2, none⟩ (.slice s' (k + 1) c') = wq at HST9 HB9 ⊢
    clear hst9 hb9 ho hg9 hat hr9 k0 kf b8 b9 b1 b2 y0 y1 y2 y3 y4
    go_wp2
    go_roundg (gk - 1)
    case measure => omega
    case rel => exact ⟨k + 1, s', c', _, by omega, by go_num, HST9.out, HB9.out⟩
  ·
   obtain rfl : k = 8 := by omega
   have HST := Lib.hid hst
   have HBL := Lib.hid hbl
   clear hst hbl
   go_wp2
   go_ret
   refine ⟨w.heap.size, rfl, ⟨s4, n4, c4, LR, s6, 8, c6, LO, sT, cT, vs, ?_, HL23.out, HL6.out⟩, HBL.out⟩
   rw [HLO.out]
   exact ⟨HST.out.blk, HST.out.rows, HST.out.ops, HST.out.own, fun b hb => Nat.zero_le _, HST.out.each, Nat.zero_le _⟩
theorem of_c (sel : Bool) (w : World) : Calls Try.prog 17 #[.bool sel] w fun e w' => ∃ tb, e = .returned (.pointer (some ⟨tb, 0, none⟩)) ∧ TabD w' tb sel ∧ Below w.heap.size w w' := by
 cases sel
 · exact of_false w
 · exact of_true w
end Go.Proofs.Ytampjndfhpjheaa
