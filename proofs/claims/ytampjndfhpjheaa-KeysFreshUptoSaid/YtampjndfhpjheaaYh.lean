/- Contract: put of a list of the tables, of a row that is taken. Condition: fewer than 2^20 rows and keys. -/
import Derived.Test.YtampjndfhpjheaaYg
import Derived.Deep.RegionHeld3
import Derived.Deep.DeepCutAuto
import Derived.Deep.CutBlock
namespace Go.Proofs.Ytampjndfhpjheaa
open Go.RowKit
theorem wpList_push_q {w : World} {ops : Array Oper} {rest : List Oper} {o : Oper} {a : Act} {Q : Exit → Act → World → Prop} (q : QuietD) (hgd : o.guard = none) (s x : Operand)
    (ho : o.op = .call { callee := .builtin .append, args := #[s, x], argTypes := #[32, 32] })
    (sl : Option Addr) (j c : Nat) (qs : List QuietD) (hs : a.eval s = .slice sl j c) (hx : a.eval x = .slice (some ⟨w.heap.size, 0, none⟩) 1 1) (hown : OwnQ w 0 (.slice sl j c) qs) (hjq : j = qs.length) (hj : j < 1073741824)
    (h : ∀ s' c' w', OwnQ w' 0 (.slice s' (j + 1) c') (qs ++ [q]) → w.grownBy w' (Value.slice sl j c).ownBlock → ((Value.slice s' (j + 1) c').ownBlock = (Value.slice sl j c).ownBlock ∨ ∃ b, (Value.slice s' (j + 1) c').ownBlock = some b ∧ w.heap.size ≤ b) → wpList Try.prog ops Q rest (a.put o.dst (.slice s' (j + 1) c')) w') :
    wpList Try.prog ops Q (o :: rest) a (w.alloc (.cells #[qval q] 33)) := by
  subst hjq
  obtain ⟨i0, hi, hz0, hz1, hz2⟩ := info_parts Try.infoRows
  have hown1 : OwnQ (w.alloc (.cells #[qval q] 33)) 0 (.slice sl qs.length c) qs := own_kept hown (fun b hb => Below.heap_alloc w _ b (World.ownsRow.lt hown b hb).2)
  unfold OwnQ at hown1
  refine wpList_append_own_at (P := Try.prog) _ hgd s x 32 ho 0 33 i0 (.slice none 0 0) 1 24 Try.underlying32 hi hz0 hz1 hz2 rfl (by decide) _ qs.length _ hs hown1 ⟨w.heap.size, 0, none⟩ 1 1 [qval q] hx rfl (cell_one_new _ _ _) (by intro u hu; rw [List.mem_singleton] at hu; subst hu; rfl) (by unfold maxLen; omega) (by omega) (by simp) ?_
  intro v' w' h2 h3 _ h5
  obtain ⟨s', c', rfl⟩ := slice_shape h2
  refine h s' c' w' ?_ (World.grownBy.trans (World.grownBy_alloc w _ _) h3) ?_
  · unfold OwnQ
    rw [List.length_append, List.map_append]
    exact h2
  · rcases h5 with e | e
    · exact .inl e
    · exact .inr ⟨_, e, by simp⟩
theorem cells_new (w : World) (cs : Array Value) (t : TypeId) : ∀ j u, cs.toList[j]? = some u → (w.alloc (.cells cs t)).cell? ((⟨w.heap.size, 0, none⟩ : Addr).add j) = some u := by
  intro j u hu
  rw [Go.WideShapes.add_plain, Nat.zero_add, block_cell (one_new w _), ← hu]; simp
/-- an append of one bound, as a step of a region that draws -/
theorem step_push_b {w : World} {ops : Array Oper} {o : Oper} {a : Act} {K : Act → World → Prop} {Q : Exit → Act → World → Prop} {E : Prop} (bv : BV) (hg : o.guard = none) (s x : Operand)
    (hop : o.op = .call { callee := .builtin .append, args := #[s, x], argTypes := #[112, 112] })
    (sl : Option Addr) (j c : Nat) (bvs : List BV) (hs : a.eval s = .slice sl j c) (hx : a.eval x = .slice (some ⟨w.heap.size, 0, none⟩) 1 1) (hown : w.ownsRow 0 133 6 (.slice sl j c) j (bflat bvs)) (hj : j < 1073741824)
    (h : ∀ s' c' w', w'.ownsRow 0 133 6 (.slice s' (j + 1) c') (j + 1) (bflat bvs ++ bv.cells.toList) → w.grownBy w' (Value.slice sl j c).ownBlock → ((Value.slice s' (j + 1) c').ownBlock = (Value.slice sl j c).ownBlock ∨ ∃ b, (Value.slice s' (j + 1) c').ownBlock = some b ∧ w.heap.size ≤ b) → K (a.put o.dst (.slice s' (j + 1) c')) w') :
    if Region.wanted o (yielded ops a.tmps) = true then Oper.wp Try.prog o a (w.alloc (.cells bv.cells 133)) K Q else E := by
  have hw : Region.wanted o (yielded ops a.tmps) = true := by simp [Region.wanted, hg]
  rw [if_pos hw]
  obtain ⟨i0, hi, hz0, hz1, hz2⟩ := info_parts Try.infoBound
  have hown1 := own_kept (w' := w.alloc (.cells bv.cells 133)) hown (fun b hb => Below.heap_alloc w _ b (World.ownsRow.lt hown b hb).2)
  obtain ⟨v', w', hr, h2, h3, h4, h5⟩ := run_append_own_at (P := Try.prog) (w.alloc (.cells bv.cells 133)) 0 112 o.type 133 i0 _ 6 64 Try.underlying112 hi hz0 hz1 hz2 rfl (by decide) _ j _ hown1 ⟨w.heap.size, 0, none⟩ 1 1 bv.cells.toList rfl (cells_new _ _ _) (by intro u hu; unfold BV.cells at hu; simp at hu; rcases hu with rfl | rfl | rfl | rfl | rfl | rfl <;> rfl) (by unfold maxLen; omega) (by omega) (by simp)
  obtain ⟨s', c', rfl⟩ := slice_shape h2
  have hK := h s' c' w' h2 (World.grownBy.trans (World.grownBy_alloc w _ _) h3) (by
    rcases h5 with e | e
    · exact .inl e
    · exact .inr ⟨_, e, by simp⟩)
  unfold Oper.wp
  simp only [execOp, hop, resolve, invoke, builtin, hs, hx, hr, Result.andThen, Sem.run_bind, Sem.run_pure, List.map_toArray, List.map_cons, List.map_nil]
  exact hK
/-- what put leaves -/
def PutPostT (ow : Nat → Nat) (tb : Nat) (T : Nat → Rows) (w w' : World) : Prop := ∃ ow', Tabs w' ow' tb T ∧ (∀ b, b < w.heap.size → ow' b = ow b) ∧ Touch (fun b => live (ow b)) w w'
theorem TrieOk.at_put {S : TrieS} {p : List Int} (v : Int) (h : TrieOk (S ++ [(p, v)])) : TrieOk S ∧ putB S p = true := by
  have h1 := List.pairwise_append.1 h.2
  have hp := h.1 (p, v) (List.mem_append_right _ (List.mem_singleton.2 rfl))
  refine ⟨⟨fun r hr => h.1 r (List.mem_append_left _ hr), h1.1⟩, ?_⟩
  unfold putB
  rw [Bool.and_eq_true, List.all_eq_true]
  refine ⟨by cases p with | nil => exact absurd rfl hp | cons _ _ => rfl, fun r hr => ?_⟩
  have h2 := h1.2.2 r hr (p, v) (List.mem_singleton.2 rfl)
  rw [Bool.and_eq_true]
  constructor
  · cases hb : r.1.isPrefixOf p
    · rfl
    · exact absurd (List.isPrefixOf_iff_prefix.1 hb) h2.1
  · cases hb : p.isPrefixOf r.1
    · rfl
    · exact absurd (List.isPrefixOf_iff_prefix.1 hb) h2.2
theorem trieOf_bd {rows : Rows} {n : Nat} (hn : n = rows.length) : ∀ r ∈ trieOf rows, ∃ j : Nat, r.2 = (j : Int) ∧ j < n := by
  intro r hr
  obtain ⟨p, v⟩ := r
  obtain ⟨j, rfl, hj, _⟩ := trieOf_mem hr
  exact ⟨j, rfl, by omega⟩
theorem Eof_last (bvs : List BV) (x : BV) {n : Nat} (hn : n = bvs.length) : Eof (bvs ++ [x]) (n : Int) = x := by
  subst hn
  unfold Eof
  rw [Int.toNat_natCast, List.getD_eq_getElem?_getD, List.getElem?_append_right (Nat.le_refl _)]
  simp
theorem TbOk.frozen {w : World} {tb : Nat} (h : TbOk w tb) (j : Nat) : w.frozen? ⟨tb, j, none⟩ = false := by obtain ⟨cs, h1, _⟩ := h; exact block_free h1
theorem TbOk.grown {w w1 : World} {tb : Nat} {r : Option Nat} (h : TbOk w tb) (hg : w.grownBy w1 r) (hr : r ≠ some tb) : TbOk w1 tb := by
  obtain ⟨cs, h1, h2⟩ := h
  exact ⟨cs, (hg.block tb (heap_lt h1) (fun e => hr e.symm)).trans h1, h2⟩
theorem TbOk.cellG {w w1 : World} {tb j : Nat} {r : Option Nat} {v : Value} (h : TbOk w tb) (hg : w.grownBy w1 r) (hr : r ≠ some tb) (hc : w.cell? ⟨tb, j, none⟩ = some v) : w1.cell? ⟨tb, j, none⟩ = some v := by
  obtain ⟨cs, h1, h2⟩ := h
  exact (World.cell?_of_block (w := w) (hg.block tb (heap_lt h1) (fun e => hr e.symm))).trans hc
theorem TbOk.below {w w1 : World} {tb : Nat} (h : TbOk w tb) (hb : Below w.heap.size w w1) : TbOk w1 tb := by
  obtain ⟨cs, h1, h2⟩ := h
  exact ⟨cs, (hb.block _ (heap_lt h1)).trans h1, h2⟩
theorem TabsX.rowK {w : World} {ow : Nat → Nat} {tb : Nat} {T : Nat → Rows} {i : Nat} {K : List (List Int)} {B : List Bd} {S : TrieS} {qs : List QuietD} {bvs : List BV} {sK : Option Addr} {cK : Nat} {sB : Option Addr} {cB : Nat} (h : TabsX w ow tb T i K B S qs bvs sK cK sB cB) : (Value.slice sK K.length cK).ownBlock ≠ some tb := fun e => by
  have := h.this.k.own tb e; have := h.own; omega
theorem TabsX.rowB {w : World} {ow : Nat → Nat} {tb : Nat} {T : Nat → Rows} {i : Nat} {K : List (List Int)} {B : List Bd} {S : TrieS} {qs : List QuietD} {bvs : List BV} {sK : Option Addr} {cK : Nat} {sB : Option Addr} {cB : Nat} (h : TabsX w ow tb T i K B S qs bvs sK cK sB cB) : (Value.slice sB B.length cB).ownBlock ≠ some tb := fun e => by
  have := h.this.b.own tb e; have := h.own; omega
theorem TabsX.boxB {w w1 : World} {ow : Nat → Nat} {tb : Nat} {T : Nat → Rows} {i : Nat} {K : List (List Int)} {B : List Bd} {S : TrieS} {qs : List QuietD} {bvs : List BV} {sK : Option Addr} {cK : Nat} {sB : Option Addr} {cB x : Nat} (h : TabsX w ow tb T i K B S qs bvs sK cK sB cB) (hg : w.grownBy w1 (Value.slice sB B.length cB).ownBlock) (hx : x < w.heap.size) (h0 : ow x = 0) (j : Nat) : w1.cell? ⟨x, j, none⟩ = w.cell? ⟨x, j, none⟩ :=
  World.cell?_of_block (w := w) (hg.block x hx (fun e => by have := h.this.b.own x e.symm; omega))
/-- the state at which put begins -/
theorem put_entry {w : World} {ow : Nat → Nat} {tb : Nat} {T : Nat → Rows} {q : QuietD} {b : Bd} {bv : BV} (o : Obj) (ht : Tabs w ow tb T) (hq : QOk w q) (hqc : ow q.g = 5) (hb : BdOk w ow b bv) :
    ∃ ow0, (∀ b, b < w.heap.size → ow0 b = ow b) ∧ ow0 w.heap.size = 0 ∧ Tabs (w.alloc o) ow0 tb T ∧ BdOk (w.alloc o) ow0 b bv ∧ QOk (w.alloc o) q ∧ ow0 q.g = 5 := by
  have hb1 := below_new2 w o
  have hs : ∀ P, Same P ow (newC ow w.heap.size 0) w (w.alloc o) := fun P b hb _ => ⟨hb1.block b hb, newC_old ow hb⟩
  exact ⟨newC ow w.heap.size 0, fun b hb => newC_old ow hb, newC_new ow (Nat.le_refl _), ht.kept (hs _) hb1.size, hb.kept (hs _) hb1.size, hq.kept (hb1.block _ hq.lt), (newC_old ow hq.lt).trans hqc⟩
theorem box_kept {P C : Nat → Prop} {tb x : Nat} {ow ow' : Nat → Nat} {w w' : World} (h : StepX P C tb ow ow' w w') (ho : ow tb = 4) (hP : ∀ k, P k → k ≠ 0) (hx : ow x = 0) {cs : Array Value} {t : TypeId} (hb : w.heap[x]? = some (.cells cs t (0, 0))) : w'.heap[x]? = some (.cells cs t (0, 0)) ∧ ow' x = 0 := by
  have := h.same ho (Q := fun k => k = 0) (fun k hk => ⟨fun e => hP k e hk, by omega⟩) x (heap_lt hb) hx
  exact ⟨this.1.trans hb, this.2.trans hx⟩
theorem QOk.step {P C : Nat → Prop} {tb : Nat} {ow ow' : Nat → Nat} {w w' : World} {q : QuietD} (h : StepX P C tb ow ow' w w') (ho : ow tb = 4) (hP : ∀ k, P k → k ≠ 5) (hx : ow q.g = 5) (hb : QOk w q) : QOk w' q ∧ ow' q.g = 5 := by
  have := h.same ho (Q := fun k => k = 5) (fun k hk => ⟨fun e => hP k e hk, by omega⟩) _ hb.lt hx
  exact ⟨hb.kept this.1, this.2.trans hx⟩
theorem touch_step {P C : Nat → Prop} {tb : Nat} {ow ow1 ow2 : Nat → Nat} {a b c : World} (h : Touch (fun x => live (ow x)) a b) (hc : ∀ x, x < a.heap.size → ow1 x = ow x) (k : StepX P C tb ow1 ow2 b c) (ho : ow1 tb = 4) (hP : ∀ k, P k → live k) :
    Touch (fun x => live (ow x)) a c ∧ ∀ x, x < a.heap.size → ow2 x = ow x := by
  refine ⟨h.trans (k.touch0 ho hP) (fun x hx => ?_), fun x hx => (k.cls x (Nat.lt_of_lt_of_le hx h.size)).trans (hc x hx)⟩
  by_cases hlt : x < a.heap.size
  · exact .inl (by rw [← hc x hlt]; exact hx)
  · exact .inr (by omega)
set_option maxRecDepth 100000 in
set_option maxHeartbeats 4000000 in
theorem lput_c (ow : Nat → Nat) (tb : Nat) (T : Nat → Rows) (i : Nat) (qg qc : Nat) (p : List Int) (b : Bd) (bv : BV) (w : World) (hi : i < 3) (ht : Tabs w ow tb T) (hq : QOk w ⟨qg, p.length, qc, p⟩) (hqc : ow qg = 5) (hb : BdOk w ow b bv)
    (hok : TrieOk (trieOf (T i ++ [(p, b)]))) (hT : (T i).length < 1048576) (hp : p.length < 1048576) (hS : sizeS (trieOf (T i)) < 1073741824) (hkeys : ∀ x ∈ p, inKey x) (hc : p.length ≤ qc) :
    Calls Try.prog 82 #[.pointer (some ⟨tb, 4 * i, none⟩), .slice (some ⟨qg, 0, none⟩) p.length qc, .agg bv.cells] w fun e w' => e = .returned (.tuple #[]) ∧ PutPostT ow tb (updT T i (T i ++ [(p, b)])) w w' := by
  rw [trieOf_snoc] at hok
  obtain ⟨hok1, hput⟩ := TrieOk.at_put _ hok
  have HOK := Lib.hid hok1
  have HPUT := Lib.hid hput
  have HKY := Lib.hid hkeys
  have HS := Lib.hid hS
  have HTL := Lib.hid hT
  have HOW := Lib.hid ht.own
  obtain ⟨ow0, hcl0, hbx0, ht0, hb0, hq0, hqc0⟩ := put_entry (.cells bv.cells 133) ht hq hqc hb
  have HCL0 := Lib.hid hcl0
  have HBX0 := Lib.hid hbx0
  have HQ := Lib.hid hq0
  have HQC := Lib.hid hqc0
  have HBD := Lib.hid hb0
  have HB0 := Lib.hid (below_new2 w (.cells bv.cells 133))
  obtain ⟨qs, bvs, sK, cK, sB, cB, hx0⟩ := ht0.openAt hi
  have HX := Lib.hid hx0
  have htl : tb < w.heap.size := by obtain ⟨cs, h1, _⟩ := ht.blk; exact heap_lt h1
  have hlenK : ((T i).map (·.1)).length < 1048576 := by rw [List.length_map]; exact hT
  have hlenB : ((T i).map (·.2)).length < 1048576 := by rw [List.length_map]; exact hT
  clear ht hq hb hok hok1 hput hkeys hS hqc hT hx0 hcl0 hbx0 ht0 hb0 hq0 hqc0
  have hKe : (T i).map (·.1) = (T i).map (·.1) := rfl
  generalize hK : (T i).map (·.1) = Kl at *
  generalize hB : (T i).map (·.2) = Bl at *
  generalize hSe : trieOf (T i) = S at *
  have HKE := Lib.hid hK
  have HBE := Lib.hid hB
  have HSE := Lib.hid hSe
  clear hK hB hSe hKe
  have hBn : Bl.length = (T i).length := by rw [← HBE.out, List.length_map]
  have HBN := Lib.hid hBn
  clear hBn
  obtain ⟨v1, v2, v3, v4, v5, v6, v7, v8⟩ := bv
  change Calls Try.prog _ #[_, _, .agg #[.int .i64 v1, .int .i64 v2, .int .i64 v3, .bool v4, .slice v5 v6 v7, .pointer v8]] w _
  replace HB0 : Hid (Below w.heap.size w (w.alloc (.cells #[.int .i64 v1, .int .i64 v2, .int .i64 v3, .bool v4, .slice v5 v6 v7, .pointer v8] 133))) := HB0
  have hbx := one_new w (.cells #[.int .i64 v1, .int .i64 v2, .int .i64 v3, .bool v4, .slice v5 v6 v7, .pointer v8] 133)
  have HBX := Lib.hid hbx
  clear hbx
  have hzw : w.heap.size < (w.alloc (.cells #[.int .i64 v1, .int .i64 v2, .int .i64 v3, .bool v4, .slice v5 v6 v7, .pointer v8] 133)).heap.size := by simp
  replace HX : Hid (TabsX (w.alloc (.cells #[.int .i64 v1, .int .i64 v2, .int .i64 v3, .bool v4, .slice v5 v6 v7, .pointer v8] 133)) ow0 tb T i Kl Bl S qs bvs sK cK sB cB) := HX
  replace HQ : Hid (QOk (w.alloc (.cells #[.int .i64 v1, .int .i64 v2, .int .i64 v3, .bool v4, .slice v5 v6 v7, .pointer v8] 133)) ⟨qg, p.length, qc, p⟩) := HQ
  replace HBD : Hid (BdOk (w.alloc (.cells #[.int .i64 v1, .int .i64 v2, .int .i64 v3, .bool v4, .slice v5 v6 v7, .pointer v8] 133)) ow0 b ⟨v1, v2, v3, v4, v5, v6, v7, v8⟩) := HBD
  generalize hW0 : w.alloc (.cells #[.int .i64 v1, .int .i64 v2, .int .i64 v3, .bool v4, .slice v5 v6 v7, .pointer v8] 133) = w0 at HX HQ HBD HBX hzw HB0
  have HW0 := Lib.hid hW0
  clear hW0
  have hx := HX.out
  have c0 : w0.cell? ⟨tb, 4 * i, none⟩ = some (.slice sK Kl.length cK) := hx.this.k.cell
  have f0 : w0.frozen? ⟨tb, 4 * i, none⟩ = false := hx.blk.frozen _
  have hown := hx.this.k.keys
  have hlq := hx.this.k.len
  have HLQ := Lib.hid hlq.symm
  clear hx hlq
  go_enter Try.func82, Try.ntmps82
  go_upto_region 1 with (fail)
  rw [HW0.out]
  go_wp2_with (first
    | (at_builtin; refine wpList_push_q ⟨qg, p.length, qc, p⟩ rfl (.tmp 10) (.tmp 12) rfl sK Kl.length cK qs rfl rfl hown HLQ.out (by omega) ?_; intro s' c' w1 ho hg hat; have f1 := (HX.out.blk.grown hg HX.out.rowK).frozen (4 * i); have k1 := HX.out.blk.cellG hg HX.out.rowK HX.out.this.k.cell))
  obtain ⟨hx1, hst1⟩ := HX.out.pushK (q := ⟨qg, p.length, qc, p⟩) (p := p) hi HQ.out rfl rfl HQC.out ho hg hat
  clear f1 k1 ho hg hat c0 f0 hown HLQ
  generalize w1.setCell ⟨tb, 4 * i, none⟩ (.slice s' (Kl.length + 1) c') = w2 at hx1 hst1 ⊢
  generalize newC ow0 w0.heap.size (20 + i) = ow1 at hx1 hst1
  have hbx1 := box_kept hst1 HX.out.own (fun k hk => by omega) HBX0.out HBX.out
  have hq1 := QOk.step hst1 HX.out.own (fun k hk => by omega) HQC.out HQ.out
  have hbd1 := HBD.out.kept (hst1.same HX.out.own fun k hk => by omega) hst1.touch.size
  have HBX1 := Lib.hid hbx1
  have HQ1 := Lib.hid hq1
  have HBD1 := Lib.hid hbd1
  have HX1 := Lib.hid (hx1.kept (Same.of ((Below.refl w2.heap.size w2).drew)) (Nat.le_refl _))
  have HST1 := Lib.hid hst1
  have b0 : w2.cell? ⟨w.heap.size, 0, none⟩ = some (.int .i64 v1) := block_cell hbx1.1
  have b1 : w2.cell? ⟨w.heap.size, 1, none⟩ = some (.int .i64 v2) := block_cell hbx1.1
  have b2 : w2.cell? ⟨w.heap.size, 2, none⟩ = some (.int .i64 v3) := block_cell hbx1.1
  have b3 : w2.cell? ⟨w.heap.size, 3, none⟩ = some (.bool v4) := block_cell hbx1.1
  have b4 : w2.cell? ⟨w.heap.size, 4, none⟩ = some (.slice v5 v6 v7) := block_cell hbx1.1
  have b5 : w2.cell? ⟨w.heap.size, 5, none⟩ = some (.pointer v8) := block_cell hbx1.1
  have c1 : w2.cell? ⟨tb, 4 * i + 1, none⟩ = some (.slice sB Bl.length cB) := hx1.this.b.cell
  have f1 : w2.frozen? ⟨tb, 4 * i + 1, none⟩ = false := hx1.blk.frozen _
  have hown1 : w2.drew.ownsRow 0 133 6 (.slice sB Bl.length cB) Bl.length (bflat bvs) := own_kept (w' := w2.drew) hx1.this.b.bnds (fun _ _ => rfl)
  clear hbx1 hq1 hbd1 hx1 hst1
  go_wp2_with fail
  have ztl2 : tb < w2.heap.size := by obtain ⟨cs, h1, _⟩ := HX1.out.blk; exact heap_lt h1
  have ztl3 : w.heap.size < w2.heap.size := heap_lt HBX1.out.1
  have c1a : (w2.alloc (.cells #[.int .i64 v1, .int .i64 v2, .int .i64 v3, .bool v4, .slice v5 v6 v7, .pointer v8] 133)).cell? ⟨tb, 4 * i + 1, none⟩ = some (.slice sB Bl.length cB) := ((below_new2 w2 _).cell (p := ⟨tb, 4 * i + 1, none⟩) ztl2).trans c1
  go_region_law
    ((refine step_push_b ⟨v1, v2, v3, v4, v5, v6, v7, v8⟩ ?_ (.tmp 20) (.tmp 22) ?_ sB Bl.length cB bvs ?_ ?_ hown1 (by omega) ?_; rfl; rfl; simp [Act.eval]; simp [Act.eval]; intro s2 c2 w3 ho hg hat; have kf := (HX1.out.blk.grown hg HX1.out.rowB).frozen (4 * i + 1); have kc := HX1.out.blk.cellG hg HX1.out.rowB HX1.out.this.b.cell))
  all_goals
    obtain ⟨hx2, hst2⟩ := HX1.out.pushB hi (HBD1.out.kept (Same.of ((Below.refl w2.heap.size w2).drew)) (Nat.le_refl _)) (by
      have h1 := trieOf_bd (rows := T i) rfl
      have h2 := HX1.out.this.b.len
      rw [HSE.out] at h1
      rw [h2, HBN.out]
      exact h1) ho hg hat
    clear kf kc c1a ho hg hat c1 f1 hown1 b0 b1 b2 b3 b4 b5
    generalize w3.setCell ⟨tb, 4 * i + 1, none⟩ (.slice s2 (Bl.length + 1) c2) = w4 at hx2 hst2 ⊢
    have hbx2 := box_kept hst2 HX1.out.own (fun k hk => by omega) HBX1.out.2 HBX1.out.1
    have hq2 := QOk.step hst2 HX1.out.own (fun k hk => by omega) HQ1.out.2 (HQ1.out.1.kept (w' := w2.drew) rfl)
    generalize newC ow1 w2.drew.heap.size (30 + i) = ow2 at hx2 hst2 hbx2 hq2
    have HX2 := Lib.hid hx2
    have HST2 := Lib.hid hst2
    have HQ2 := Lib.hid hq2
    have b0 : w4.cell? ⟨w.heap.size, 0, none⟩ = some (.int .i64 v1) := block_cell hbx2.1
    have b1 : w4.cell? ⟨w.heap.size, 1, none⟩ = some (.int .i64 v2) := block_cell hbx2.1
    have b2 : w4.cell? ⟨w.heap.size, 2, none⟩ = some (.int .i64 v3) := block_cell hbx2.1
    have b3 : w4.cell? ⟨w.heap.size, 3, none⟩ = some (.bool v4) := block_cell hbx2.1
    have b4 : w4.cell? ⟨w.heap.size, 4, none⟩ = some (.slice v5 v6 v7) := block_cell hbx2.1
    have b5 : w4.cell? ⟨w.heap.size, 5, none⟩ = some (.pointer v8) := block_cell hbx2.1
    have hk2 : IsInts w4.drew (some ⟨qg, 0, none⟩) p.length (gl p) := (qok_list hq2.1).later ((Below.refl _ _).drew)
    have HK2 := Lib.hid hk2
    have hx2d := hx2.kept (Same.of ((Below.refl w4.heap.size w4).drew)) (Nat.le_refl _)
    have HX2D := Lib.hid hx2d
    obtain ⟨nb, mb, val, htr⟩ := hx2d.this.t
    have HTR := Lib.hid htr
    have hE : Eof (bvs ++ [⟨v1, v2, v3, v4, v5, v6, v7, v8⟩]) ((T i).length : Int) = ⟨v1, v2, v3, v4, v5, v6, v7, v8⟩ := Eof_last _ _ (by rw [← HBN.out]; exact HX1.out.this.b.len.symm)
    have HE := Lib.hid hE
    have hsk : ∀ a, some (⟨qg, 0, none⟩ : Addr) = some a → ¬ withR (fun b => ow2 b = 10 + i) tb a.block := by
      intro a ha
      cases ha
      rintro (h | h)
      · have := hq2.2
        change ow2 qg = 5 at this
        change ow2 qg = 10 + i at h
        omega
      · have := hq2.2
        change ow2 qg = 5 at this
        change qg = tb at h
        have h4 := hx2.own
        rw [h] at this; omega
    have HSK := Lib.hid hsk
    clear hbx2 hq2 hx2 hst2 hk2 hx2d htr hE hsk
    go_wp2_with fail
    go_region_law
      ((go_simp; refine (put_b_c (fun b => ow2 b = 10 + i) tb (4 * i + 2) _ S nb mb val ((T i).length : Int) ⟨v1, v2, v3, v4, v5, v6, v7, v8⟩ (some ⟨qg, 0, none⟩) qc p _ HOK.out HTR.out HE.out HPUT.out (by unfold maxLen; omega) hc (by have := HS.out; unfold maxLen; omega) HK2.out HKY.out HSK.out).mono ?_; rintro e w5 ⟨rfl, hpn⟩))
    all_goals
      obtain ⟨hx3, hst3⟩ := HX2D.out.put hi hpn
      have ht0 : Touch (fun x => live (ow x)) w w0 := Touch.of HB0.out
      have hc0 : ∀ x, x < w.heap.size → ow0 x = ow x := HCL0.out
      obtain ⟨ht1, hc1⟩ := touch_step ht0 hc0 HST1.out HX.out.own (fun k hk => ⟨by omega, by omega⟩)
      have ht1d := ht1.trans (Touch.of (O := fun x => live (ow x)) ((Below.refl w2.heap.size w2).drew)) (fun x hx => .inl hx)
      obtain ⟨ht2, hc2⟩ := touch_step ht1d hc1 HST2.out HX1.out.own (fun k hk => ⟨by omega, by omega⟩)
      have ht2d := ht2.trans (Touch.of (O := fun x => live (ow x)) ((Below.refl w4.heap.size w4).drew)) (fun x hx => .inl hx)
      obtain ⟨ht3, hc3⟩ := touch_step ht2d hc2 hst3 HX2D.out.own (fun k hk => ⟨by omega, by omega⟩)
      have hfin : PutPostT ow tb (updT T i (T i ++ [(p, b)])) w w5 := by
        refine ⟨_, ?_, hc3, ht3⟩
        have := hx3
        rw [← HKE.out, ← HBE.out, ← HSE.out] at this
        exact this.close
      have HFIN := Lib.hid hfin
      clear hpn hx3 hst3 ht0 hc0 ht1 hc1 ht1d ht2 hc2 ht2d ht3 hc3 hfin
      go_wp2
      go_end0
      exact ⟨rfl, HFIN.out⟩
end Go.Proofs.Ytampjndfhpjheaa
