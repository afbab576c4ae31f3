/- Nodes of a pattern in memory: blocks other than the reader's, made once and never written again. No walk but one. -/
import Derived.Test.YtdegdoilpamjjaaDoorJk
namespace Go.Proofs.YtdegdoilpamjjaaDoor
open Go.RowKit
set_option linter.unusedVariables false
set_option linter.unusedSimpArgs false
/-- a slice whose elements (k cells each) hold these values -/
def SlAt (rb : Nat) (w : World) (k : Nat) (v : Value) (vs : List Value) : Prop :=
  ∃ sl n c, v = .slice sl n c ∧ n * k = vs.length ∧ (vs.length = 0 ∨ ∃ g off cs t rw, sl = some ⟨g, off, none⟩ ∧ g ≠ rb ∧ w.heap[g]? = some (.cells cs t rw) ∧ ∀ i, i < vs.length → cs[off + i]? = vs[i]?)
theorem SlAt.touch {rb : Nat} {w w' : World} {k : Nat} {v : Value} {vs : List Value} (h : SlAt rb w k v vs) (ht : Touch (fun b => b = rb) w w') : SlAt rb w' k v vs := by
  obtain ⟨sl, n, c, h1, h2, h3⟩ := h
  refine ⟨sl, n, c, h1, h2, h3.imp id ?_⟩
  rintro ⟨g, off, cs, t, rw, h4, h5, h6, h7⟩
  exact ⟨g, off, cs, t, rw, h4, h5, (ht.block g (heap_lt h6) h5).trans h6, h7⟩
/-- the cells of spans -/
def spanV (l : List (Int × Int)) : List Value := l.flatMap fun x => [.int .i64 x.1, .int .i64 x.2]
def kindsV (l : List Int) : List Value := l.map kindV
inductive NdAt (rb : Nat) (w : World) : Value → Nd → Prop
  | set (b : Nat) (v1 v2 : Value) (ranges : List (Int × Int)) (kinds : List Int) (not fold : Bool) (hb : b ≠ rb) (h : w.heap[b]? = some (.cells #[v1, v2, .bool not, .bool fold] 135 (0, 0)))
      (h1 : SlAt rb w 2 v1 (spanV ranges)) (h2 : SlAt rb w 1 v2 (kindsV kinds)) : NdAt rb w (.iface 78 (.pointer (some ⟨b, 0, none⟩))) (.set ranges kinds not fold)
  | edge (b : Nat) (what : Int) (hb : b ≠ rb) (h : w.heap[b]? = some (.cells #[.int .i64 what] 120 (0, 0))) : NdAt rb w (.iface 118 (.pointer (some ⟨b, 0, none⟩))) (.edge what)
  | row (b : Nat) (v1 : Value) (vs : List Value) (l : List Nd) (hb : b ≠ rb) (h : w.heap[b]? = some (.cells #[v1] 117 (0, 0))) (h1 : SlAt rb w 1 v1 vs) (hl : vs.length = l.length)
      (h2 : ∀ i (hi : i < vs.length) (hj : i < l.length), NdAt rb w vs[i] l[i]) : NdAt rb w (.iface 115 (.pointer (some ⟨b, 0, none⟩))) (.row l)
  | choice (b : Nat) (v1 : Value) (vs : List Value) (l : List Nd) (hb : b ≠ rb) (h : w.heap[b]? = some (.cells #[v1] 114 (0, 0))) (h1 : SlAt rb w 1 v1 vs) (hl : vs.length = l.length)
      (h2 : ∀ i (hi : i < vs.length) (hj : i < l.length), NdAt rb w vs[i] l[i]) : NdAt rb w (.iface 111 (.pointer (some ⟨b, 0, none⟩))) (.choice l)
  | group (b : Nat) (v1 : Value) (n : Nd) (number : Int) (hb : b ≠ rb) (h : w.heap[b]? = some (.cells #[v1, .int .i64 number] 123 (0, 0))) (h1 : NdAt rb w v1 n) : NdAt rb w (.iface 121 (.pointer (some ⟨b, 0, none⟩))) (.group n number)
  | again (b : Nat) (v1 : Value) (n : Nd) (least most : Int) (lazy : Bool) (hb : b ≠ rb) (h : w.heap[b]? = some (.cells #[v1, .int .i64 least, .int .i64 most, .bool lazy] 142 (0, 0))) (h1 : NdAt rb w v1 n) :
      NdAt rb w (.iface 124 (.pointer (some ⟨b, 0, none⟩))) (.again n least most lazy)
theorem NdAt.touch {rb : Nat} {w w' : World} {v : Value} {n : Nd} (h : NdAt rb w v n) (ht : Touch (fun b => b = rb) w w') : NdAt rb w' v n := by
  have hk : ∀ b, b ≠ rb → ∀ o, w.heap[b]? = some o → w'.heap[b]? = some o := fun b hb o h => (ht.block b (heap_lt h) hb).trans h
  induction h with
  | set b v1 v2 ranges kinds not fold hb h h1 h2 => exact .set b v1 v2 _ _ _ _ hb (hk b hb _ h) (h1.touch ht) (h2.touch ht)
  | edge b what hb h => exact .edge b _ hb (hk b hb _ h)
  | row b v1 vs l hb h h1 hl h2 ih => exact .row b v1 vs l hb (hk b hb _ h) (h1.touch ht) hl ih
  | choice b v1 vs l hb h h1 hl h2 ih => exact .choice b v1 vs l hb (hk b hb _ h) (h1.touch ht) hl ih
  | group b v1 n number hb h h1 ih => exact .group b v1 n _ hb (hk b hb _ h) ih
  | again b v1 n least most lazy hb h h1 ih => exact .again b v1 n _ _ _ hb (hk b hb _ h) ih
theorem SlAt.nil (rb : Nat) (w : World) (k : Nat) : SlAt rb w k (.slice none 0 0) [] := ⟨none, 0, 0, rfl, by simp, .inl rfl⟩
theorem size_new (w : World) (o : Obj) : (w.alloc o).heap.size = w.heap.size + 1 := Array.size_push _
theorem at_new {w : World} {k : Nat} {o : Obj} (u : Obj) (h : w.heap[k]? = some o) : (w.alloc u).heap[k]? = some o := by
  have hk := heap_lt h
  exact ((below_newJ w u).block k hk).trans h
theorem one_set (rb : Nat) (w w1 : World) (x : Int) (fold : Bool) (hrb : rb < w.heap.size) (hw1 : w.alloc (.cells #[.int .i64 x, .int .i64 x] 144) = w1) (o : Obj)
    (ho : o = .cells #[.slice (some ⟨w.heap.size, 0, none⟩) 1 1, .slice none 0 0, .bool false, .bool fold] 135 (0, 0)) :
    NdAt rb (w1.alloc o) (.iface 78 (.pointer (some ⟨w.heap.size + 1, 0, none⟩))) (oneN fold x) ∧ Below w.heap.size w (w1.alloc o) := by
  have hb1 := below_newJ w (.cells #[.int .i64 x, .int .i64 x] 144)
  have hz := size_new w (.cells #[.int .i64 x, .int .i64 x] 144)
  have h1 := one_new w (.cells #[.int .i64 x, .int .i64 x] 144)
  rw [hw1] at hb1 hz h1
  clear hw1
  have h2 := one_new w1 o
  have h1' := at_new o h1
  have hb2 := hb1.alloc (by omega) o
  refine ⟨?_, hb2⟩
  generalize w1.alloc o = w2 at h2 h1' ⊢
  rw [hz] at h2
  subst ho
  refine NdAt.set (w.heap.size + 1) _ _ [(x, x)] [] false fold (by omega) h2 ?_ (SlAt.nil _ _ _)
  refine ⟨_, _, _, rfl, rfl, .inr ⟨w.heap.size, 0, _, _, _, rfl, by omega, h1', ?_⟩⟩
  intro i hi
  match i, hi with
  | 0, _ => rfl
  | 1, _ => rfl
set_option maxRecDepth 100000 in
theorem one_c (rb : Nat) (sl : Option Addr) (n c : Nat) (src : List Int) (s : RS) (fold : Bool) (x : Int) (w : World) (h : RdM w rb sl n c src s fold) :
    Calls Tryd.prog 82 #[.pointer (some ⟨rb, 0, none⟩), .int .i64 x] w fun e w' => ∃ v, e = .returned v ∧ NdAt rb w' v (oneN fold x) ∧ Below w.heap.size w w' := by
  have b3 : w.cell? ⟨rb, 3, none⟩ = some (.bool fold) := block_cell h.blk
  have hrb := heap_lt h.blk
  clear h
  go_enter Tryd.func82, Tryd.ntmps82
  go_wp2_with fail
  go_ret
  have hm := one_set rb w _ x fold hrb rfl _ rfl
  exact ⟨_, rfl, hm.1, hm.2⟩
end Go.Proofs.YtdegdoilpamjjaaDoor
