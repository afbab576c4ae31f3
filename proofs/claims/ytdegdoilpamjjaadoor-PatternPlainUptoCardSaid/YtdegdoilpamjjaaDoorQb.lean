/- Lists of elements that a call builds; blocks that stay by their kind; a set of one int. No walk but one. -/
import Derived.Test.YtdegdoilpamjjaaDoorJs
import Derived.Test.YtdegdoilpamjjaaDoorQa
import Derived.Deep.RegionWith
namespace Go.Proofs.YtdegdoilpamjjaaDoor
open Go.RowKit
set_option linter.unusedVariables false
set_option linter.unusedSimpArgs false
theorem own_kept {w w' : World} {base : Nat} {e : TypeId} {size n : Nat} {v : Value} {xs : List Value} (h : w.ownsRow base e size v n xs) (k : ∀ b, v.ownBlock = some b → w'.heap[b]? = w.heap[b]?) : w'.ownsRow base e size v n xs := by
  refine ⟨h.1, ?_⟩
  rcases h.2 with hn | ⟨g, cap, cur, rfl, hb, hgg, rest⟩
  · exact .inl hn
  · exact .inr ⟨g, cap, cur, rfl, hb, (k g rfl).trans hgg, rest⟩
theorem own_type {w : World} {base : Nat} {e : TypeId} {size n : Nat} {v : Value} {xs : List Value} (h : w.ownsRow base e size v n xs) {b : Nat} (hb : v.ownBlock = some b) : ∃ cs, w.heap[b]? = some (.cells cs e (0, 0)) := by
  rcases h.2 with ⟨h1, _⟩ | ⟨g, cap, cur, h1, _, hgg, _⟩
  · rw [h1] at hb; cases hb
  · rw [h1] at hb; cases hb; exact ⟨_, hgg⟩
theorem own_shape {w : World} {base : Nat} {e : TypeId} {size n : Nat} {v : Value} {xs : List Value} (h : w.ownsRow base e size v n xs) : ∃ s c, v = .slice s n c ∧ n ≤ c := by
  rcases h.2 with ⟨h1, h2⟩ | ⟨g, cap, cur, h1, _, _, h2, _⟩
  · exact ⟨none, 0, by rw [h1, h2], by omega⟩
  · exact ⟨_, _, h1, h2⟩
theorem own_shape1 {w : World} {base : Nat} {e : TypeId} {size n : Nat} {v : Value} {xs : List Value} (h : w.ownsRow base e size v (n + 1) xs) : ∃ s c, v = .slice s (n + 1) c := by
  obtain ⟨s, c, h1, _⟩ := own_shape h
  exact ⟨s, c, h1⟩
theorem own_later {w w' : World} {base : Nat} {e : TypeId} {size n : Nat} {v : Value} {xs : List Value} (h : w.ownsRow base e size v n xs) (hb : Below w.heap.size w w') : w'.ownsRow base e size v n xs :=
  own_kept h (fun b hb' => hb.block b (World.ownsRow.lt h b hb').2)
theorem own_mono {w : World} {base base' : Nat} {e : TypeId} {size n : Nat} {v : Value} {xs : List Value} (h : w.ownsRow base e size v n xs) (hb : base' ≤ base) : w.ownsRow base' e size v n xs := by
  refine ⟨h.1, ?_⟩
  rcases h.2 with h1 | ⟨g, cap, cur, h1, h2, h3⟩
  · exact .inl h1
  · exact .inr ⟨g, cap, cur, h1, Nat.le_trans hb h2, h3⟩
/-- kinds of blocks that are not T stay -/
def Oth (T : TypeId) (w w' : World) : Prop := ∀ (b : Nat) (cs : Array Value) (t : TypeId), w.heap[b]? = some (.cells cs t (0, 0)) → t ≠ T → w'.heap[b]? = some (.cells cs t (0, 0))
theorem new_cells {x : List Value} (w : World) (t : TypeId) : ∀ j u, x[j]? = some u → (w.alloc (.cells x.toArray t)).cell? ((⟨w.heap.size, 0, none⟩ : Addr).add j) = some u := by
  intro j u hj
  have hadd : (⟨w.heap.size, 0, none⟩ : Addr).add j = ⟨w.heap.size, j, none⟩ := by unfold Addr.add; split <;> simp_all
  rw [hadd, block_cell (one_new w _)]
  simpa using hj
theorem push_leaves {w w' : World} {base : Nat} {e : TypeId} {size n : Nat} {v : Value} {xs : List Value} (hown : w.ownsRow base e size v n xs) (hg : w.grownBy w' v.ownBlock) (hbase : base ≤ w.heap.size) : Below base w w' ∧ Oth e w w' := by
  refine ⟨Below.grown (Below.refl _ _) hg hbase (fun b hb => (World.ownsRow.lt hown b hb).1), fun b cs t hb ht => ?_⟩
  exact (hg.block b (heap_lt hb) (fun e2 => by
      obtain ⟨c2, h2⟩ := own_type hown e2.symm
      exact type_ne hb h2 ht rfl)).trans hb
/-- an append of one element: a list that the call owns -/
theorem wpList_push_e {w : World} {ops : Array Oper} {rest : List Oper} {o : Oper} {a : Act} {Q : Exit → Act → World → Prop} {st et : TypeId} {z : Value} {size bytes : Nat} (hu : Tryd.prog.underlying st = some (.slice et))
    (hinfo : (Tryd.prog.info? et).map (fun i => (i.zero, i.size, i.bytes)) = some (some z, size, bytes)) (hzs : z.cells.size = size) (hsz : 0 < size) (hby : bytes ≤ 100)
    (x : List Value) (hx1 : ∀ u ∈ x, u.oneCell' = true) (hxl : x.length = size) (hgd : o.guard = none) (s y : Operand)
    (ho : o.op = .call { callee := .builtin .append, args := #[s, y], argTypes := #[st, st] })
    (base : Nat) (v : Value) (n : Nat) (xs : List Value) (hs : a.eval s = v) (hy : a.eval y = .slice (some ⟨w.heap.size, 0, none⟩) 1 1) (hown : w.ownsRow base et size v n xs) (hn : n < 1000000) (hbase : base ≤ w.heap.size)
    (h : ∀ s' c' w', w'.ownsRow base et size (.slice s' (n + 1) c') (n + 1) (xs ++ x) → Below base w w' → Oth et w w' → wpList Tryd.prog ops Q rest (a.put o.dst (.slice s' (n + 1) c')) w') :
    wpList Tryd.prog ops Q (o :: rest) a (w.alloc (.cells x.toArray et)) := by
  obtain ⟨i0, hi, hz0, hz1, hz2⟩ := info_parts hinfo
  have hb1 := below_newJ w (.cells x.toArray et)
  refine wpList_append_own_at _ hgd s y st ho base et i0 z size bytes hu hi hz0 hz1 hz2 hzs hsz v _ _ hs (own_later hown hb1) ⟨w.heap.size, 0, none⟩ 1 1 x hy (by omega) (new_cells _ _) hx1 (by unfold maxLen; omega) ?_ (by simp; omega) ?_
  · have : (n + 1) * bytes ≤ 1000000 * 100 := Nat.mul_le_mul (by omega) hby
    omega
  · intro v' w' h2 h3 _ _
    obtain ⟨s', c', rfl⟩ := own_shape1 h2
    obtain ⟨p1, p2⟩ := push_leaves hown (World.grownBy.trans (World.grownBy_alloc w _ _) h3) hbase
    exact h s' c' w' h2 p1 p2
/-- .. as a step of a region that draws -/
theorem step_push_e {w : World} {ops : Array Oper} {o : Oper} {a : Act} {K : Act → World → Prop} {Q : Exit → Act → World → Prop} {E : Prop} {st et : TypeId} {z : Value} {size bytes : Nat} (hu : Tryd.prog.underlying st = some (.slice et))
    (hinfo : (Tryd.prog.info? et).map (fun i => (i.zero, i.size, i.bytes)) = some (some z, size, bytes)) (hzs : z.cells.size = size) (hsz : 0 < size) (hby : bytes ≤ 100)
    (x : List Value) (hx1 : ∀ u ∈ x, u.oneCell' = true) (hxl : x.length = size) (hg : o.guard = none) (s y : Operand)
    (hop : o.op = .call { callee := .builtin .append, args := #[s, y], argTypes := #[st, st] })
    (base : Nat) (v : Value) (n : Nat) (xs : List Value) (hs : a.eval s = v) (hy : a.eval y = .slice (some ⟨w.heap.size, 0, none⟩) 1 1) (hown : w.ownsRow base et size v n xs) (hn : n < 1000000) (hbase : base ≤ w.heap.size)
    (h : ∀ s' c' w', w'.ownsRow base et size (.slice s' (n + 1) c') (n + 1) (xs ++ x) → Below base w w' → Oth et w w' → K (a.put o.dst (.slice s' (n + 1) c')) w') :
    if Region.wanted o (yielded ops a.tmps) = true then Oper.wp Tryd.prog o a (w.alloc (.cells x.toArray et)) K Q else E := by
  have hw : Region.wanted o (yielded ops a.tmps) = true := by simp [Region.wanted, hg]
  rw [if_pos hw]
  obtain ⟨i0, hi, hz0, hz1, hz2⟩ := info_parts hinfo
  have hb1 := below_newJ w (.cells x.toArray et)
  obtain ⟨v', w', hr, h2, h3, h4, h5⟩ := run_append_own_at (P := Tryd.prog) (w.alloc (.cells x.toArray et)) base st o.type et i0 z size bytes hu hi hz0 hz1 hz2 hzs hsz v n xs (own_later hown hb1) ⟨w.heap.size, 0, none⟩ 1 1 x (by omega) (new_cells _ _) hx1 (by unfold maxLen; omega) (by have : (n + 1) * bytes ≤ 1000000 * 100 := Nat.mul_le_mul (by omega) hby; omega) (by simp; omega)
  obtain ⟨s', c', rfl⟩ := own_shape1 h2
  obtain ⟨p1, p2⟩ := push_leaves hown (World.grownBy.trans (World.grownBy_alloc w _ _) h3) hbase
  have hK := h s' c' w' h2 p1 p2
  unfold Oper.wp
  simp only [execOp, hop, resolve, invoke, builtin, hs, hy, hr, Result.andThen, Sem.run_bind, Sem.run_pure, List.map_toArray, List.map_cons, List.map_nil]
  exact hK
/-- v is the set of the one int x -/
def SetN (w : World) (fold : Bool) (v : Value) (x : Int) : Prop := ∃ b g, v = .iface 78 (.pointer (some ⟨b, 0, none⟩)) ∧
  w.heap[b]? = some (.cells #[.slice (some ⟨g, 0, none⟩) 1 1, .slice none 0 0, .bool false, .bool fold] 135 (0, 0)) ∧ w.heap[g]? = some (.cells #[.int .i64 x, .int .i64 x] 144 (0, 0))
/-- sets and their spans stay -/
def KeepS (w w' : World) : Prop := ∀ (b : Nat) (cs : Array Value) (t : TypeId), w.heap[b]? = some (.cells cs t (0, 0)) → t = 135 ∨ t = 144 → w'.heap[b]? = some (.cells cs t (0, 0))
theorem SetN.keep {w w' : World} {fold : Bool} {v : Value} {x : Int} (h : SetN w fold v x) (k : KeepS w w') : SetN w' fold v x := by
  obtain ⟨b, g, h1, h2, h3⟩ := h
  exact ⟨b, g, h1, k _ _ _ h2 (.inl rfl), k _ _ _ h3 (.inr rfl)⟩
theorem KeepS.refl (w : World) : KeepS w w := fun _ _ _ h _ => h
theorem KeepS.trans {a b c : World} (h : KeepS a b) (k : KeepS b c) : KeepS a c := fun x cs t h1 h2 => k x cs t (h x cs t h1 h2) h2
theorem KeepS.below {w w' : World} (h : Below w.heap.size w w') : KeepS w w' := fun b cs t h1 h2 => (h.block b (heap_lt h1)).trans h1
theorem KeepS.oth {T : TypeId} {w w' : World} (h : Oth T w w') (h1 : 135 ≠ T) (h2 : 144 ≠ T) : KeepS w w' := fun b cs t h3 h4 => h b cs t h3 (by rcases h4 with rfl | rfl <;> assumption)
theorem KeepS.touch {T : TypeId} {w w' : World} {rb : Nat} {c : Array Value} (h : Touch (fun b => b = rb) w w') (hr : w.heap[rb]? = some (.cells c T (0, 0))) (h1 : 135 ≠ T) (h2 : 144 ≠ T) : KeepS w w' :=
  fun b cs t h3 h4 => (h.block b (heap_lt h3) (type_ne h3 hr (by rcases h4 with rfl | rfl <;> assumption))).trans h3
theorem KeepS.setCell {T : TypeId} {w : World} {p : Addr} {c : Array Value} (v : Value) (hr : w.heap[p.block]? = some (.cells c T (0, 0))) (h1 : 135 ≠ T) (h2 : 144 ≠ T) : KeepS w (w.setCell p v) :=
  KeepS.touch (Touch.setCell (fun b => b = p.block) w rfl v) hr h1 h2
theorem one_set2 (w w1 : World) (x : Int) (fold : Bool) (hw1 : w.alloc (.cells #[.int .i64 x, .int .i64 x] 144) = w1) (o : Obj)
    (ho : o = .cells #[.slice (some ⟨w.heap.size, 0, none⟩) 1 1, .slice none 0 0, .bool false, .bool fold] 135 (0, 0)) :
    SetN (w1.alloc o) fold (.iface 78 (.pointer (some ⟨w.heap.size + 1, 0, none⟩))) x ∧ Below w.heap.size w (w1.alloc o) := by
  have hb1 := below_newJ w (.cells #[.int .i64 x, .int .i64 x] 144)
  have hz := size_new w (.cells #[.int .i64 x, .int .i64 x] 144)
  have h1 := one_new w (.cells #[.int .i64 x, .int .i64 x] 144)
  rw [hw1] at hb1 hz h1
  clear hw1
  have h2 := one_new w1 o
  have h1' := at_new o h1
  have hb2 := hb1.alloc (by omega) o
  refine ⟨?_, hb2⟩
  generalize w1.alloc o = w2 at h2 h1' ⊢
  rw [hz] at h2
  subst ho
  exact ⟨w.heap.size + 1, w.heap.size, rfl, h2, h1'⟩
set_option maxRecDepth 100000 in
theorem one2_c (rb : Nat) (sl : Option Addr) (n c : Nat) (src : List Int) (s : RS) (fold : Bool) (x : Int) (w : World) (h : RdM w rb sl n c src s fold) :
    Calls Tryd.prog 82 #[.pointer (some ⟨rb, 0, none⟩), .int .i64 x] w fun e w' => ∃ v, e = .returned v ∧ SetN w' fold v x ∧ Below w.heap.size w w' := by
  have b3 : w.cell? ⟨rb, 3, none⟩ = some (.bool fold) := block_cell h.blk
  have hrb := heap_lt h.blk
  clear h
  go_enter Tryd.func82, Tryd.ntmps82
  go_wp2_with fail
  go_ret
  have hm := one_set2 w _ x fold rfl _ rfl
  exact ⟨_, rfl, hm.1, hm.2⟩
end Go.Proofs.YtdegdoilpamjjaaDoor
